/- The law's store Mem: its state as a function, and its methods. -/
import Derived.Test.YtbhofablndjeoaaDoorTrI
import Derived.Test.YtbhofablndjeoaaDoorTrP
namespace Go.Proofs.YtbhofablndjeoaaDoor
open Go.RowKit
set_option linter.unusedSimpArgs false
set_option linter.unusedVariables false
structure IsMem (w : World) (mb : Nat) (st : MemT) (v : Value) : Prop where
  blk : Blk w mb 27 [v, .int .i64 (st.count : Nat), .int .i64 (st.fails : Nat)]
  row : w.ownsRow 0 9 1 v st.L.length (encS (bts st.L))
  nb : ¬ v.ownBlock = some mb
  cnt : st.count < 1000000000
  fls : st.fails ≤ 1000
theorem IsMem.c0 {w : World} {mb : Nat} {st : MemT} {v : Value} (h : IsMem w mb st v) : w.cell? ⟨mb, 0, none⟩ = some v := h.blk.cell 0
theorem IsMem.c1 {w : World} {mb : Nat} {st : MemT} {v : Value} (h : IsMem w mb st v) : w.cell? ⟨mb, 1, none⟩ = some (.int .i64 (st.count : Nat)) := h.blk.cell 1
theorem IsMem.c2 {w : World} {mb : Nat} {st : MemT} {v : Value} (h : IsMem w mb st v) : w.cell? ⟨mb, 2, none⟩ = some (.int .i64 (st.fails : Nat)) := h.blk.cell 2
set_option maxRecDepth 100000 in
theorem step_any {w : World} {mb : Nat} {st : MemT} {v : Value} (h : IsMem w mb st v) :
    Calls Tryd.prog 124 #[.pointer (some ⟨mb, 0, none⟩)] w fun e w' => e = .returned (.bool (awakeB (st.count + 1) st.fails)) ∧ ∃ n, w' = (w.setCell ⟨mb, 1, none⟩ (.int .i64 ((st.count : Int) + 1))).drewN n := by
  have c1 := h.c1
  have hc := h.cnt
  have hf := h.fls
  have hz := Blk.frozen h.blk 1
  obtain ⟨W, hW⟩ : ∃ W, W = w.setCell ⟨mb, 1, none⟩ (.int .i64 ((st.count : Int) + 1)) := ⟨_, rfl⟩
  have hb : Blk W mb 27 [v, .int .i64 ((st.count : Int) + 1), .int .i64 (st.fails : Nat)] := by rw [hW]; exact h.blk.setCell 1 _
  have hd1 : ∀ n, (W.drewN n).cell? ⟨mb, 1, none⟩ = some (.int .i64 ((st.count : Int) + 1)) := fun n => (hb.drewN (n := n)).cell 1
  have hd2 : ∀ n, (W.drewN n).cell? ⟨mb, 2, none⟩ = some (.int .i64 (st.fails : Nat)) := fun n => (hb.drewN (n := n)).cell 2
  have HW := Lib.hid hW
  obtain ⟨bb, hbb⟩ : ∃ bb, bb = awakeB (st.count + 1) st.fails := ⟨_, rfl⟩
  have HBB := Lib.hid hbb
  rw [← hbb, ← hW]
  clear h hW hb hbb
  by_cases f0 : st.fails = 0
  · have g0 : (st.fails : Int) = 0 := by omega
    go_enter Tryd.func124, Tryd.ntmps124
    go_wp2_with fail
    rw [← HW.out]
    go_quiet (fail)
    go_wp2_with fail
    go_ret
    exact ⟨by rw [HBB.out]; simp [awakeB, f0], _, rfl⟩
  · have g0 : ((st.fails : Int) == 0) = false := by simp; omega
    have g0' : ¬ (st.fails : Int) = 0 := by omega
    by_cases f1 : st.count + 1 < st.fails
    · have g1 : (st.count : Int) + 1 < (st.fails : Int) := by omega
      go_enter Tryd.func124, Tryd.ntmps124
      go_wp2_with fail
      rw [← HW.out]
      go_quiet (fail)
      go_wp2_with fail
      go_ret
      exact ⟨by rw [HBB.out]; simp [awakeB, f0, f1], _, rfl⟩
    · have g1 : ¬ (st.count : Int) + 1 < (st.fails : Int) := by omega
      go_enter Tryd.func124, Tryd.ntmps124
      go_wp2_with fail
      rw [← HW.out]
      go_quiet (fail)
      go_wp2_with fail
      go_ret
      exact ⟨by rw [HBB.out]; simp [awakeB, f0, f1]; omega, _, rfl⟩
end Go.Proofs.YtbhofablndjeoaaDoor
