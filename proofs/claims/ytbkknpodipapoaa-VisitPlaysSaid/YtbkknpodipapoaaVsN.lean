/- polderlaw22's awake. -/
import Derived.Test.YtbkknpodipapoaaVsA
namespace Go.Proofs.Ytbkknpodipapoaa
open Go.RowKit
set_option linter.unusedSimpArgs false
attribute [local go_sem ↓] Go.wp_at_zero Go.wp_at_succ

def awL : List PtrT := [⟨0, 0, 0, 0, false, 1, 0, 3, 0, 0, 0, 0⟩, ⟨0, 0, 0, 0, false, 0, 0, 1, 0, 0, 0, 0⟩, ⟨0, 2, 0, 0, false, 0, 0, 3, 0, 0, 0, 0⟩]
theorem ord_awL : ordL awL = [⟨0, 0, 0, 0, false, 0, 0, 1, 0, 0, 0, 0⟩, ⟨0, 0, 0, 0, false, 1, 0, 3, 0, 0, 0, 0⟩, ⟨0, 2, 0, 0, false, 0, 0, 3, 0, 0, 0, 0⟩] := by decide
set_option maxRecDepth 100000 in
set_option maxHeartbeats 1600000 in
theorem awake22_any (w : World) : Calls Try.prog 8 #[] w fun e w' => e = .returned (.bool true) ∧ Below w.heap.size w w' := by
  have hB := Blk.new w 30 (encPs awL)
  have HP : Hid (PSl (w.alloc (.cells (encPs awL).toArray 30)) (some ⟨w.heap.size, 0, none⟩) 3 3 awL) := Lib.hid (hB.rsl rfl (by unfold maxLen; omega))
  have HO := Lib.hid (vorder_psl _ _ _ awL _ HP.out (by omega))
  have HB : Hid (Below w.heap.size w (w.alloc (.cells (encPs awL).toArray 30))) := Lib.hid ((Below.refl _ _).alloc (Nat.le_refl _) _)
  rw [ord_awL] at HO
  clear hB HP
  go_enter Try.func8, Try.ntmps8
  go_wp2_with fail
  refine HO.out.mono ?_
  rintro e w1 ⟨ao, cap, rfl, hp, hb⟩
  have B1 := Lib.hid (HB.out.trans (hb.mono HB.out.size))
  obtain ⟨b, off, rfl, hlt, hr⟩ := hp.read (by simp)
  have c1 := hr 0 (by simp) 7 _ rfl
  have c2 := hr 1 (by simp) 5 _ rfl
  have c3 := hr 2 (by simp) 1 _ rfl
  clear hr hp hb HO hlt
  go_wp2_with fail
  go_ret
  exact ⟨rfl, B1.out⟩
end Go.Proofs.Ytbkknpodipapoaa
