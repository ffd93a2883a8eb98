/- The walks of strings.Trim at the cutset of one zero byte, and Blank. -/
import Derived.Test.YtmnhdpojonlfhaaDoorParT
import Derived.Deep.RegionHeld3
import Derived.Deep.DrawnRows
namespace Go.Proofs.YtmnhdpojonlfhaaDoor
open Go.RowKit
attribute [local go_sem ↓] Go.wp_at_zero Go.wp_at_succ

def TB (s : ByteArray) (w : World) (e : Ending) (w' : World) : Prop := ∃ t : ByteArray, e = .returned (.string t) ∧ (t.size = 0 ↔ zerosB s.data.toList = true) ∧ Below w.heap.size w w'
theorem zerosB_true {l : List UInt8} (h : ∀ x, x < l.length → l.getD x 0 = 0) : zerosB l = true := by
  unfold zerosB
  rw [List.all_eq_true]
  intro b hb
  obtain ⟨i, hi, rfl⟩ := List.mem_iff_getElem.1 hb
  have := h i hi
  rw [List.getD_eq_getElem?_getD, List.getElem?_eq_getElem hi] at this
  simpa using this
theorem zerosB_get {l : List UInt8} (h : zerosB l = true) (x : Nat) : l.getD x 0 = 0 := by
  unfold zerosB at h
  rw [List.all_eq_true] at h
  rcases Nat.lt_or_ge x l.length with hx | hx
  · have := h l[x] (List.getElem_mem _)
    rw [List.getD_eq_getElem?_getD, List.getElem?_eq_getElem hx]
    simpa using this
  · rw [List.getD_eq_getElem?_getD, List.getElem?_eq_none hx]; rfl
theorem trim_end {s t u : ByteArray} {m k : Nat} (hm : m ≤ s.size) (ht : t.data.toList = s.data.toList.take m) (h1 : ∀ x, m ≤ x → s.data.toList.getD x 0 = 0) (h2 : 0 < m → s.data.toList.getD (m - 1) 0 ≠ 0)
    (hk : k ≤ t.size) (hu : u.data.toList = t.data.toList.drop k) (h3 : ∀ x, x < k → t.data.toList.getD x 0 = 0) (_h4 : k < t.size → t.data.toList.getD k 0 ≠ 0) : u.size = 0 ↔ zerosB s.data.toList = true := by
  have hts := size_of_take ht hm
  have hus := size_of_drop hu
  constructor
  · intro h
    refine zerosB_true fun x hx => ?_
    rcases Nat.lt_or_ge x m with hxm | hxm
    · have := h3 x (by omega)
      rw [ht, List.getD_eq_getElem?_getD, List.getElem?_take, if_pos hxm] at this
      rw [List.getD_eq_getElem?_getD]; exact this
    · exact h1 x hxm
  · intro h
    rcases Nat.eq_zero_or_pos m with h0 | h0
    · omega
    · exact absurd (zerosB_get h (m - 1)) (h2 h0)

set_option maxHeartbeats 400000 in
set_option maxRecDepth 100000 in
theorem trim_any (s : ByteArray) (w : World) (hs : s.size ≤ 1000000) :
    Calls Tryd.prog 20 #[.string s, .string ⟨#[0]⟩] w (TB s w) := by
  by_cases h0 : s.toList.isEmpty = true
  · go_enter Tryd.func20, Tryd.ntmps20
    go_wp2_with fail
    go_ret
    have h1 : s.data.toList = [] := by rw [List.isEmpty_iff, ByteArray.toList_eq] at h0; exact h0
    exact ⟨s, rfl, ⟨fun _ => by rw [h1]; rfl, fun _ => by rw [← len_data, h1]; rfl⟩, Below.refl _ _⟩
  · simp only [Bool.not_eq_true] at h0
    go_enter Tryd.func20, Tryd.ntmps20
    go_wp2_with fail
    go_region_held3 (fun _ => True) (trivial)
      (first
        | (go_at_call 25; refine (trimR_any _ _ (by omega)).mono ?_; rintro e w1 ⟨t, m, hm, rfl, ht, h1, h2, rfl⟩)
        | (go_at_call 24; refine (trimL_any _ _ (by have := size_of_take ht hm; omega)).mono ?_; rintro e w1 ⟨u, k, hk, rfl, hu, h3, h4, rfl⟩))
    all_goals go_wp2_with fail
    all_goals go_ret
    all_goals exact ⟨u, rfl, trim_end hm ht h1 h2 hk hu h3 h4, by first | exact Below.refl _ _ | exact (Below.refl _ _).drew | exact below_drewN' (Below.refl _ _) _⟩

theorem blank_any (s : ByteArray) (w : World) (hs : s.size ≤ 1000000) :
    Calls Tryd.prog 10 #[.string s] w fun e w' => e = .returned (.bool (zerosB s.data.toList)) ∧ Below w.heap.size w w' := by
  go_enter Tryd.func10, Tryd.ntmps10
  go_wp2_with fail
  refine (trim_any s w hs).mono ?_
  rintro e w1 ⟨t, rfl, ht, hb⟩
  go_wp2_with fail
  go_ret
  refine ⟨ret_bool ?_, hb⟩
  have e1 : t.toList.isEmpty = decide (t.size = 0) := by
    rw [Bool.eq_iff_iff, List.isEmpty_iff, ByteArray.toList_eq, decide_eq_true_eq, ← len_data, List.length_eq_zero_iff]
  show t.toList.isEmpty = zerosB s.data.toList
  rw [e1, Bool.eq_iff_iff, decide_eq_true_iff]
  exact ht
end Go.Proofs.YtmnhdpojonlfhaaDoor
