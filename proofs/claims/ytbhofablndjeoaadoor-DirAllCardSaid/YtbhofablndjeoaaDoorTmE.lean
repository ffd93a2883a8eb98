/- The law's whole: the text of a tree, or a question mark. -/
import Derived.Test.YtbhofablndjeoaaDoorTmD
import Derived.Test.YtbhofablndjeoaaDoorTrZ
namespace Go.Proofs.YtbhofablndjeoaaDoor
open Go.RowKit
set_option linter.unusedSimpArgs false
set_option linter.unusedVariables false
attribute [local go_sem ↓] wp_loadPt wp_storePt wp_loadNd wp_storeNd
def wholeT (r : Except Nat Bs) : Bs := match r with | .ok t => t | .error _ => [63]
set_option maxHeartbeats 1000000 in
set_option maxRecDepth 100000 in
theorem whole_any {mb : Nat} {w : World} {s : MemT} {F : Nat → Prop} (h : memIs mb w s F) (n : NodeT) (hn : n.wf) (hok : memOk (readM memF n 0 n.size s).2) :
    Calls Tryd.prog 13 #[.pointer (some ⟨mb, 0, none⟩), .agg (encN n).toArray] w fun e w' => e = .returned (.string ⟨(wholeT (readM memF n 0 n.size s).1).toArray⟩) ∧ (memC mb).Step F (readM memF n 0 n.size s).2 w w' := by
  obtain ⟨w0, hw0⟩ : ∃ w0, w0 = w.alloc (.cells (encN n).toArray 37) := ⟨_, rfl⟩
  have hb : Blk w0 w.heap.size 37 (encN n) := by rw [hw0]; exact Blk.new w _ _
  have HAT : Hid ((memC mb).At F s w w0 F) := Lib.hid ((StoreC.At.start (C := memC mb) h).below (by rw [hw0]; exact (Below.refl _ _).alloc (Nat.le_refl _) _))
  have hld := fun op a next Q => loadW_blk (P := Tryd.prog) hb Tryd.underlying37 rfl iszNd op a next Q
  have hc0 : w0.cell? ⟨w.heap.size, 0, none⟩ = some (.int .i64 n.size) := hb.cell 0
  have HRD := Lib.hid (Read_any (C := memC mb) HAT.out.1 n hn 0 n.size (by unfold I64'; omega) hn.size hok)
  obtain ⟨rv, s2, hrv⟩ : ∃ rv s2, readM memF n 0 n.size s = (rv, s2) := ⟨_, _, rfl⟩
  rw [hrv] at HRD ⊢
  clear hb hok hrv h
  go_enter Tryd.func13, Tryd.ntmps13
  go_upto_region 1 with fail
  rw [show w.alloc (.cells (encN n).toArray 37) = w0 from hw0.symm]
  clear hw0
  go_wp2_with fail
  refine HRD.out.mono ?_
  rcases rv with r | t
  · rintro e w1 ⟨⟨rfl, hr0⟩, hstep⟩
    have hr1 : ((r : Int) != 0) = true := by simpa using hr0
    obtain ⟨F2, hat, hfr, hm⟩ := HAT.out.step hstep
    have HA := Lib.hid hat
    clear hat hfr hm hstep
    go_wp2_with fail
    go_ret
    exact ⟨rfl, HA.out.fin⟩
  · rintro e w1 ⟨rfl, hstep⟩
    obtain ⟨F2, hat, hfr, hm⟩ := HAT.out.step hstep
    have HA := Lib.hid hat
    clear hat hfr hm hstep
    go_wp2_with fail
    go_ret
    exact ⟨rfl, HA.out.fin⟩
end Go.Proofs.YtbhofablndjeoaaDoor
