/- Books that are written: a map taken of, an end set. -/
import Derived.Test.YtmnhdpojonlfhaaAlP
namespace Go.Proofs.Ytmnhdpojonlfhaa
open Go.RowKit

theorem getD_map_fst (ms : List MT) (i : Nat) (hi : i < ms.length) : (ms.map (·.1)).getD i 0 = (ms.getD i mD).1 := by simp [List.getD, hi]
theorem set_map_fst (ms : List MT) (i : Nat) (x : Nat × List (Nat × Nat)) : (ms.set i ((ms.getD i mD).1, x)).map (·.1) = ms.map (·.1) := by
  apply List.ext_getElem
  · simp
  · intro j h1 h2
    simp only [List.map_set, List.getElem_set]
    split
    · rename_i e
      subst e
      have hj : i < ms.length := by simpa using h2
      simp [List.getD, hj]
    · rfl
theorem getD_set_same {α : Type} (l : List α) (i : Nat) (x d : α) (h : i < l.length) : (l.set i x).getD i d = x := by simp [List.getD, h]
theorem getD_set_other {α : Type} (l : List α) (i j : Nat) (x d : α) (h : i ≠ j) : (l.set i x).getD j d = l.getD j d := by simp only [List.getD_eq_getElem?_getD, List.getElem?_set, if_neg h]
theorem mem_getD {ms : List MT} {i : Nat} (h : i < ms.length) : ms.getD i mD ∈ ms := by rw [List.getD_eq_getElem?_getD, List.getElem?_eq_getElem h]; exact List.getElem_mem _
theorem nodup_ne {ms : List MT} (hnd : (ms.map (·.1)).Nodup) {i j : Nat} (hi : i < ms.length) (hj : j < ms.length) (hne : i ≠ j) : (ms.getD i mD).1 ≠ (ms.getD j mD).1 := by
  intro e
  have h := List.nodup_iff_pairwise_ne.1 hnd
  rw [List.pairwise_map, List.pairwise_iff_getElem] at h
  have ei : ms.getD i mD = ms[i] := by rw [List.getD_eq_getElem?_getD, List.getElem?_eq_getElem hi]; rfl
  have ej : ms.getD j mD = ms[j] := by rw [List.getD_eq_getElem?_getD, List.getElem?_eq_getElem hj]; rfl
  rw [ei, ej] at e
  rcases Nat.lt_or_gt_of_ne hne with h1 | h1
  · exact h i j hi hj h1 e
  · exact h j i hj hi h1 e.symm

section
variable {w w' : World} {bb eb : Nat} {gs : Gs} {secs : Int} {ms : List MT} {es : List Nat}
theorem IsBook.map_at (h : IsBook w bb eb gs secs ms es) {i : Nat} (hi : i < gs.length) : IsMap w (ms.getD i mD).1 (ms.getD i mD).2.1 (ms.getD i mD).2.2 := h.maps _ (mem_getD (by rw [h.mlen]; exact hi))
theorem IsBook.footMap (h : IsBook w bb eb gs secs ms es) {i : Nat} (hi : i < gs.length) : foot bb eb ms (ms.getD i mD).1 := .inr (.inr (List.mem_map_of_mem (mem_getD (by rw [h.mlen]; exact hi))))
/-- one of a book's maps is written -/
theorem IsBook.setMap (h : IsBook w bb eb gs secs ms es) {i : Nat} (hi : i < gs.length) {sz : Nat} {rs : List (Nat × Nat)} (hg : w.grownBy w' (some (ms.getD i mD).1)) (hm : IsMap w' (ms.getD i mD).1 sz rs) :
    IsBook w' bb eb gs secs (ms.set i ((ms.getD i mD).1, sz, rs)) es := by
  obtain ⟨gv, mv, ec, h1, h2, h3, h4⟩ := h.mem
  have him : i < ms.length := by rw [h.mlen]; exact hi
  have hold := h.map_at hi
  obtain ⟨_, _, _, _, ov, hob, _⟩ := hold
  have hne : ∀ e cs k, Blk w k e cs → e ≠ 120 → k ≠ (ms.getD i mD).1 := by
    intro e cs k hk he e1
    rw [e1] at hk
    unfold Blk at hk hob
    rw [hob] at hk
    simp only [Option.some.injEq, Obj.cells.injEq] at hk
    exact he hk.2.1.symm
  have hrow : ∀ {base e size n : Nat} {v : Value} {xs : List Value}, w.ownsRow base e size v n xs → e ≠ 120 → w'.ownsRow base e size v n xs := by
    intro base e size n v xs ho he
    refine ho.kept hg ?_
    rcases ho.2 with ⟨rfl, _⟩ | ⟨g, cap, cur, rfl, _, hh, _⟩
    · exact .inl rfl
    · refine .inr ?_
      intro eq
      simp only [Value.ownBlock, Option.some.injEq] at eq
      exact hne e cur.toList g (by simpa [Blk] using hh) he eq
  refine ⟨h.right, by rw [List.length_set]; exact h.mlen, h.elen, ⟨gv, mv, ec, ?_, hrow h2 (by decide), ?_, hrow h4 (by decide)⟩, ?_, ?_⟩
  · unfold Blk
    rw [hg.block bb h1.lt (by simpa using hne _ _ _ h1 (by decide))]
    exact h1
  · rw [set_map_fst]; exact hrow h3 (by decide)
  · intro m hmm
    obtain ⟨j, hj, rfl⟩ := List.mem_iff_getElem.1 hmm
    rw [List.length_set] at hj
    rw [List.getElem_set]
    split
    · exact hm
    · rename_i e
      have ej : ms.getD j mD = ms[j] := by rw [List.getD_eq_getElem?_getD, List.getElem?_eq_getElem hj]; rfl
      have hmj := h.maps _ (List.getElem_mem hj)
      refine hmj.other hg hob ?_
      rw [← ej]
      exact nodup_ne h.nodup hj him (fun h => e h.symm)
  · rw [set_map_fst]; exact h.nodup
theorem IsBook.setEnd (h : IsBook w bb eb gs secs ms es) {i x : Nat} (_hi : i < gs.length) : IsBook (w.setCell ⟨eb, i, none⟩ (.int .i64 (x : Nat))) bb eb gs secs ms (es.set i x) := by
  obtain ⟨gv, mv, ec, h1, h2, h3, h4⟩ := h.mem
  obtain ⟨cs, hb, _⟩ := owns_blk h4
  have h5 := (h4.stored i (.int .i64 (x : Nat))).1
  rw [encN_set] at h5
  refine ⟨h.right, h.mlen, by rw [List.length_set]; exact h.elen, ⟨gv, mv, ec, h1.other (a := ⟨eb, i, none⟩) ?_ _, owns_setCell_other h2 hb (by decide), owns_setCell_other h3 hb (by decide), h5⟩, fun m hm => (h.maps m hm).setOther hb (by decide) (by decide), h.nodup⟩
  rintro rfl
  unfold Blk at h1 hb
  rw [h1] at hb
  simp only [Option.some.injEq, Obj.cells.injEq] at hb
  exact absurd hb.2.1 (by decide)
end
end Go.Proofs.Ytmnhdpojonlfhaa
