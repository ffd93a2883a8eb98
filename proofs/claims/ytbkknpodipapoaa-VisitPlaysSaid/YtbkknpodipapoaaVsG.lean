/- The walk of visit.Order. -/
import Derived.Test.YtbkknpodipapoaaVsD
import Derived.Test.YtbkknpodipapoaaVsF
namespace Go.Proofs.Ytbkknpodipapoaa
open Go.RowKit
set_option linter.unusedSimpArgs false
attribute [local go_sem ↓] Go.wp_at_zero Go.wp_at_succ

/-- a slice of pointers that is only read -/
def PSl (w : World) (ao : Option Addr) (n cap : Nat) (l : List PtrT) : Prop := RSl w 12 ao n cap (encPs l)
theorem PSl.len {w : World} {ao : Option Addr} {n cap : Nat} {l : List PtrT} (h : PSl w ao n cap l) : l.length = n := by
  have := h.1
  rw [encPs_length] at this
  omega
theorem PSl.below {w w' : World} {ao : Option Addr} {n cap : Nat} {l : List PtrT} (h : PSl w ao n cap l) (hb : Below w.heap.size w w') : PSl w' ao n cap l := RSl.below h hb
/-- a row of pointers of its own -/
abbrev PRow (w : World) (base : Nat) (v : Value) (l : List PtrT) : Prop := w.ownsRow base 30 12 v l.length (encPs l)
theorem isort_nil (fv : Value) (w : World) : Calls Try.prog 42 #[.slice none 0 0, .int .i64 0, .int .i64 0, fv] w fun e w' => e = .returned (.tuple #[]) ∧ w' = w := by
  go_enter Try.func42, Try.ntmps42
  go_wp2_with fail
  refine wp_loop_rounds 1 ?_
  rw [rounds_succ]
  go_wp2_with fail
  go_end0
  exact ⟨rfl, rfl⟩
theorem stable_nil (fv : Value) (w : World) : Calls Try.prog 37 #[.slice none 0 0, .int .i64 0, fv] w fun e w' => e = .returned (.tuple #[]) ∧ w' = w := by
  have HI := Lib.hid (isort_nil fv w)
  go_enter Try.func37, Try.ntmps37
  go_wp2_with fail
  refine wp_loop_rounds 1 ?_
  rw [rounds_succ]
  go_wp2_with fail
  refine HI.out.mono ?_
  rintro e w1 ⟨rfl, rfl⟩
  go_wp2_with fail
  refine wp_loop_rounds 1 ?_
  rw [rounds_succ]
  go_wp2_with fail
  go_end0
  exact ⟨rfl, rfl⟩
theorem sortStable_nil (fv : Value) (w : World) : Calls Try.prog 24 #[.slice none 0 0, fv] w fun e w' => e = .returned (.tuple #[]) ∧ w' = w := by
  have HI := Lib.hid (stable_nil fv w)
  go_enter Try.func24, Try.ntmps24
  go_wp2_with fail
  refine HI.out.mono ?_
  rintro e w1 ⟨rfl, rfl⟩
  go_wp2_with fail
  go_end0
  exact ⟨rfl, rfl⟩
theorem compact_nil (fv : Value) (w : World) : Calls Try.prog 27 #[.slice none 0 0, fv] w fun e w' => e = .returned (.slice none 0 0) ∧ w' = w := by
  go_enter Try.func27, Try.ntmps27
  go_wp2_with fail
  go_ret
  exact ⟨rfl, rfl⟩
theorem row_vrow {w : World} {base g n cap : Nat} {l : List PtrT} (hl : l.length = n) (h : w.ownsRow base 30 12 (.slice (some ⟨g, 0, none⟩) n cap) n (encPs l)) : VRow w base g n cap (fun k => l.getD k pD) id := by
  unfold VRow
  rw [encE_ps]
  have e : (List.range n).map (fun p => (fun k => l.getD k pD) (id p)) = l := by
    apply List.ext_getElem?
    intro t
    by_cases ht : t < n
    · rw [List.getElem?_map, List.getElem?_range ht]
      simp [hl, ht]
    · rw [List.getElem?_eq_none (by simp; omega), List.getElem?_eq_none (by omega)]
  rw [e]
  exact h
theorem keepL_length (E : Nat → PtrT) (p : Nat → Bool) (n : Nat) : (keepL E p n).length = cntK p n := by unfold keepL; rw [List.length_map, keepI_len]
set_option maxRecDepth 100000 in
set_option maxHeartbeats 800000 in
theorem vorder_any (ao : Option Addr) (n cap : Nat) (l : List PtrT) (w : World) (h : PSl w ao n cap l) (hm : n ≤ 500) :
    Calls Try.prog 9 #[.slice ao n cap] w fun e w' => ∃ v, e = .returned v ∧ PRow w' w.heap.size v (ordL l) ∧ Below w.heap.size w w' := by
  have hl := h.len
  have HCL := Lib.hid (clonePt_any ao n cap (encPs l) w h (encPs_one l) (by omega))
  clear h
  go_enter Try.func9, Try.ntmps9
  go_wp2_with fail
  refine HCL.out.mono ?_
  rintro e w1 ⟨v, rfl, hown, hb⟩
  have HB := Lib.hid hb
  rcases hown.2 with ⟨rfl, hn0⟩ | ⟨g, cap', cur, rfl, hbase, _, _⟩
  · subst hn0
    have hl0 : l = [] := List.eq_nil_of_length_eq_zero hl
    subst hl0
    clear hown hb HCL
    go_wp2_with fail
    refine (sortStable_nil _ _).mono ?_
    rintro e w2 ⟨rfl, rfl⟩
    go_wp2_with fail
    refine (compact_nil _ _).mono ?_
    rintro e w2 ⟨rfl, rfl⟩
    go_wp2_with fail
    go_ret
    exact ⟨_, rfl, World.ownsRow_nil _ _ _ _, HB.out⟩
  · have HV := Lib.hid (row_vrow hl hown)
    have HS := Lib.hid (sortStable_any 25 (fun k => l.getD k pD) (cmpP fun k => l.getD k pD) w.heap.size g n cap' w1 HV.out hm (cmpP_swo _) (cmpOk _))
    have HB2 := Lib.hid (fun w' (hg : w1.grownBy w' (some g)) => below_own (base := w.heap.size) HB.out hown hg HB.out.size (Nat.le_refl _))
    clear hown hb HCL hbase
    go_wp2_with fail
    refine HS.out.mono ?_
    rintro e w2 ⟨rfl, f, k0, k1, k2⟩
    have HC := Lib.hid (compact_any (fun k => l.getD (f k) pD) w.heap.size g n cap' w2 k1 (by omega))
    have HK := Lib.hid (sort_compact hl.symm k0)
    have HG := Lib.hid k2
    clear k0 k1 k2 HS
    go_wp2_with fail
    refine HC.out.mono ?_
    rintro e w3 ⟨rfl, k1, k2⟩
    have hlen := keepL_length (fun k => l.getD (f k) pD) (dupP fun k => l.getD (f k) pD) n
    rw [HK.out] at k1 hlen
    rw [← hlen] at k1 ⊢
    have HR := Lib.hid k1
    have HB3 := Lib.hid (HB2.out w3 (grown_trans HG.out k2))
    clear k1 k2 hlen
    go_wp2_with fail
    go_ret
    exact ⟨_, rfl, HR.out, HB3.out⟩
end Go.Proofs.Ytbkknpodipapoaa
