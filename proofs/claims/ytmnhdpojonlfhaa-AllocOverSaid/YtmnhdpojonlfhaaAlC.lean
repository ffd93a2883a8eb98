/- The walks of a book's Left and Copy. -/
import Derived.Test.YtmnhdpojonlfhaaAlN
import Derived.Deep.AppendLies
namespace Go.Proofs.Ytmnhdpojonlfhaa
open Go.RowKit
attribute [local go_sem ↓] Go.wp_at_zero Go.wp_at_succ

/-- how much of a map is free -/
def leftM (m : MT) : Int := (m.2.1 : Int) - (sumR m.2.2 : Int)
def leftB (ms : List MT) : Int := (ms.map leftM).sum
theorem leftB_step (ms : List MT) (k : Nat) (h : k < ms.length) : leftB (ms.take (k + 1)) = leftB (ms.take k) + leftM (ms.getD k mD) := by
  unfold leftB
  rw [List.take_succ_eq_append_getElem h, List.map_append, List.sum_append, List.getD_eq_getElem?_getD, List.getElem?_eq_getElem h]
  simp
theorem IsMap.left_bd {w : World} {mb size : Nat} {rs : List (Nat × Nat)} (h : IsMap w mb size rs) : 0 ≤ (size : Int) - (sumR rs : Int) ∧ (size : Int) - (sumR rs : Int) ≤ 65536 := by
  have h1 := good_sum h.2.2.1
  have h2 := h.1
  omega
theorem IsBook.left_bd {w : World} {bb eb : Nat} {gs : Gs} {secs : Int} {ms : List MT} {es : List Nat} (h : IsBook w bb eb gs secs ms es) : ∀ k, k ≤ ms.length → 0 ≤ leftB (ms.take k) ∧ leftB (ms.take k) ≤ 65536 * k := by
  intro k
  induction k with
  | zero => intro _; simp [leftB]
  | succ k ih =>
    intro hk
    have h1 := ih (by omega)
    have hm := (h.maps (ms.getD k mD) (by rw [List.getD_eq_getElem?_getD, List.getElem?_eq_getElem (by omega)]; exact List.getElem_mem _)).left_bd
    rw [leftB_step ms k (by omega)]
    unfold leftM
    omega

theorem aleft_any (bb eb : Nat) (gs : Gs) (secs : Int) (ms : List MT) (es : List Nat) (w : World) (h : IsBook w bb eb gs secs ms es) :
    Calls Try.prog 61 #[.pointer (some ⟨bb, 0, none⟩)] w fun e w' => e = .returned (.int .i64 (leftB ms)) ∧ Below w.heap.size w w' := by
  obtain ⟨gb, gc, mv, mc, ec, c0, c1, c2, c3, hgs, hmp, hes, hmv, heb, hbb⟩ := h.parts
  have hr := rightB_spec h.right
  have hn4 := hr.2.1
  have hml := h.mlen
  have hbd := h.left_bd
  have HM := Lib.hid hmp
  have HB := Lib.hid h
  have HBD := Lib.hid hbd
  obtain ⟨n, hn⟩ : ∃ n, n = gs.length := ⟨_, rfl⟩
  rw [← hn] at c2 hn4 hml HM
  have HML := Lib.hid hml
  clear h c0 c1 c3 hgs hmp hes hr hbd hml hn
  go_enter Try.func61, Try.ntmps61
  go_wp2_with fail
  go_loopw [3, 13] (fun t i wr => ∃ k : Nat, k ≤ n ∧ i = .int .i64 k ∧ t = .int .i64 (leftB (ms.take k)) ∧ Hid (Below w.heap.size w wr)) (fun _ i _ => n - (intOf i).toNat)
  case atStart => exact ⟨0, by omega, rfl, rfl, Lib.hid (Below.refl _ _)⟩
  case round =>
    obtain ⟨k, hk, rfl, rfl, hb⟩ := hrel
    by_cases hkn : k < n
    · have d1 : wr.cell? ⟨mv, k, none⟩ = some (.pointer (some ⟨(ms.getD k mD).1, 0, none⟩)) := (hb.out.cell (p := ⟨mv, k, none⟩) hmv).trans (HM.out k hkn)
      have hkm : k < ms.length := by have := HML.out; omega
      have hst := leftB_step ms k hkm
      have hmem : ms.getD k mD ∈ ms := by rw [List.getD_eq_getElem?_getD, List.getElem?_eq_getElem hkm]; exact List.getElem_mem _
      have hmm := HB.out.maps _ hmem
      have hl := hmm.left_bd
      obtain ⟨m, hmd⟩ : ∃ m, m = ms.getD k mD := ⟨_, rfl⟩
      rw [← hmd] at d1 hst hmm hl
      obtain ⟨m1, m2, m3⟩ := m
      have hT := left_any m1 m2 m3 wr (hmm.below hb.out)
      have HT := Lib.hid hT
      have HST := Lib.hid hst
      have hb1 := HBD.out k (by omega)
      obtain ⟨b1, b2⟩ := hb1
      obtain ⟨L, hL⟩ : ∃ L, L = leftB (ms.take k) := ⟨_, rfl⟩
      rw [← hL] at HST b1 b2 ⊢
      dsimp only at d1 hl
      clear hmd hmem hmm hT hst hL hkm
      go_wp2_with fail
      refine HT.out.mono ?_
      rintro e w1 ⟨rfl, hb1⟩
      have B1 := Lib.hid (hb.out.trans (hb1.mono hb.out.size))
      clear hb1
      go_wp2_with fail
      go_roundw
      case rel => exact ⟨k + 1, by omega, by go_num, by rw [HST.out]; rfl, B1⟩
      case measure => simp [intOf]; omega
    · have hkn' : k = n := by omega
      have ht : ms.take k = ms := List.take_of_length_le (by have := HML.out; omega)
      rw [ht]
      clear ht
      subst hkn'
      go_wp2_with fail
      go_ret
      exact ⟨rfl, hb.out⟩
theorem aleft_nil (w : World) :
    Calls Try.prog 61 #[.pointer none] w fun e w' => e = .returned (.int .i64 0) ∧ w = w' := by
  go_enter Try.func61, Try.ntmps61
  go_wp2_with fail
  go_ret
  exact ⟨rfl, rfl⟩
theorem acopy_nil (w : World) :
    Calls Try.prog 60 #[.pointer none] w fun e w' => e = .returned (.pointer none) ∧ w = w' := by
  go_enter Try.func60, Try.ntmps60
  go_wp2_with fail
  go_ret
  exact ⟨rfl, rfl⟩
end Go.Proofs.Ytmnhdpojonlfhaa
