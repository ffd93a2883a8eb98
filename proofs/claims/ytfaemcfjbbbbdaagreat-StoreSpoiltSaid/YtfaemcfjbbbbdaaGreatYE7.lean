/- Parts of the proof of the statement that the last file of this claim proves: lemmas, without any condition of their own beyond those that each states. -/
import Derived.Test.YtfaemcfjbbbbdaaGreatYE6
import Derived.Deep.CutBlock
import Derived.Lib.SmallJoins
set_option linter.unusedVariables false
set_option linter.unusedSimpArgs false
set_option linter.unnecessarySimpa false
namespace Go.Proofs.YtfaemcfjbbbbdaaGreat
theorem flat64_get : ∀ (L : List Bs), (∀ s ∈ L, s.length = 64) → ∀ j, L.flatten.getD j 0 = (L.getD (j / 64) []).getD (j % 64) 0
 | [], _, j => by simp [List.getD_eq_getElem?_getD]
 | s :: r, h, j => by
  have hs := h s (List.mem_cons_self ..)
  rw [List.flatten_cons]
  by_cases hj : j < 64
  ·rw [Nat.div_eq_of_lt hj, Nat.mod_eq_of_lt hj]
   simp only [List.getD_eq_getElem?_getD]
   rw [List.getElem?_append_left (by omega)]
   rfl
  ·have e1 : j / 64 = (j - 64) / 64 + 1 := by omega
   have e2 : j % 64 = (j - 64) % 64 := by omega
   have h9 := flat64_get r (fun s hs => h s (List.mem_cons_of_mem _ hs)) (j - 64)
   rw [e1, e2, List.getD_cons_succ, ← h9, List.getD_eq_getElem?_getD, List.getElem?_append_right (by omega), hs, ← List.getD_eq_getElem?_getD]
theorem nodup_inj {D : List Nat} (hD : D.Nodup) {i j : Nat} (hi : i < D.length) (hj : j < D.length) (e : D[i] = D[j]) : i = j := by
 have h := List.pairwise_iff_getElem.1 hD
 rcases Nat.lt_trichotomy i j with h1 | h1 | h1
 ·exact absurd e (h i j hi hj h1)
 ·exact h1
 ·exact absurd e.symm (h j i hj hi h1)
theorem chunks_len {F : Nat → Bs} : ∀ (D : List Nat), (∀ i ∈ D, (F i).length = 64) → (D.flatMap F).length = 64 * D.length
 | [], _ => rfl
 | i :: r, h => by
  rw [List.flatMap_cons, List.length_append, chunks_len r (fun j hj => h j (List.mem_cons_of_mem _ hj)), h i (List.mem_cons_self ..), List.length_cons]
  omega
theorem chunks_sum {D : List Nat} (hD : D.Nodup) {F E : Nat → Bs} (hE : ∀ i ∈ D, (E i).length = 64) (hF : ∀ i ∈ D, (F i).length = 64) {i0 i1 pl : Nat} (hpl : pl < 64) (heq : ∀ i ∈ D, i ≠ i0 → i ≠ i1 → F i = E i) (hb : ∀ i ∈ D, ∀ j, j ≠ pl → (F i).getD j 0 = (E i).getD j 0) (hlen : D.length ≤ 40) (hs : sumF (D.flatMap F) = sumF (D.flatMap E)) : D.flatMap F = D.flatMap E := by
 have l1 := chunks_len D hF
 have l2 := chunks_len D hE
 obtain ⟨k0, hk0⟩ : ∃ k0, ∀ k (h : k < D.length), D[k] = i0 → k = k0 := by
  by_cases h : ∃ k, ∃ h : k < D.length, D[k] = i0
  ·obtain ⟨k, hk, e⟩ := h
   exact ⟨k, fun j hj ej => nodup_inj hD hj hk (ej.trans e.symm)⟩
  ·exact ⟨0, fun k hk e => absurd ⟨k, hk, e⟩ h⟩
 obtain ⟨k1, hk1, hne⟩ : ∃ k1, (∀ k (h : k < D.length), k ≠ k0 → D[k] = i1 → k = k1) ∧ k1 ≠ k0 := by
  by_cases h : ∃ k, ∃ h : k < D.length, k ≠ k0 ∧ D[k] = i1
  ·obtain ⟨k, hk, h0, e⟩ := h
   exact ⟨k, fun j hj _ ej => nodup_inj hD hj hk (ej.trans e.symm), h0⟩
  ·exact ⟨k0 + 1, fun k hk h0 e => absurd ⟨k, hk, h0, e⟩ h, by omega⟩
 refine sum_two_bytes (p := 64 * k0 + pl) (q := 64 * k1 + pl) (by omega) (by omega) (by omega) hs (by omega) fun j h1 h2 => ?_
 rw [List.flatMap_def, List.flatMap_def, flat64_get _ (fun s hs => by obtain ⟨i, hi, rfl⟩ := List.mem_map.1 hs; exact hF i hi), flat64_get _ (fun s hs => by obtain ⟨i, hi, rfl⟩ := List.mem_map.1 hs; exact hE i hi)]
 by_cases hk : j / 64 < D.length
 ·have hm : D[j / 64] ∈ D := List.getElem_mem _
  have eF : (D.map F).getD (j / 64) [] = F D[j / 64] := by rw [List.getD_eq_getElem?_getD, List.getElem?_map, List.getElem?_eq_getElem hk]; rfl
  have eE : (D.map E).getD (j / 64) [] = E D[j / 64] := by rw [List.getD_eq_getElem?_getD, List.getElem?_map, List.getElem?_eq_getElem hk]; rfl
  rw [eF, eE]
  by_cases hr : j % 64 = pl
  ·have a0 : j / 64 ≠ k0 := fun e => h1 (by omega)
   have a1 : j / 64 ≠ k1 := fun e => h2 (by omega)
   rw [heq _ hm (fun e => a0 (hk0 _ hk e)) (fun e => a1 (hk1 _ hk a0 e))]
  ·exact hb _ hm _ hr
 ·have eF : (D.map F).getD (j / 64) [] = [] := by rw [List.getD_eq_getElem?_getD, List.getElem?_eq_none (by rw [List.length_map]; omega)]; rfl
  have eE : (D.map E).getD (j / 64) [] = [] := by rw [List.getD_eq_getElem?_getD, List.getElem?_eq_none (by rw [List.length_map]; omega)]; rfl
  rw [eF, eE]
structure Spo (l : List ColT) (data got : List Bs) (i0 pl : Nat) : Prop where
 n : got.length = l.length
 oth : ∀ j, j < l.length → j ≠ i0 → got.getD j [] = (encL l data).getD j []
 len : ∀ j, j < l.length → (got.getD j []).length = 64
 byt : ∀ j, j < l.length → ∀ b, b ≠ pl → (got.getD j []).getD b 0 = ((encL l data).getD j []).getD b 0
theorem again_spo {l : List ColT} {data got : List Bs} {t : Bs} {i0 pl : Nat} (hb : BlkL l data t) (hs : Spo l data got i0 pl) {i : Nat} (hi : i < l.length) (hp : (l.getD i cD).2.2.1 = false) : (againT l got i).length = 64 ∧ (∀ b, b ≠ pl → (againT l got i).getD b 0 = ((encL l data).getD i []).getD b 0) ∧ ((l.getD i0 cD).2.2.2 ≠ (l.getD i cD).2.2.2 ∨ i = i0 → againT l got i = (encL l data).getD i []) := by
 have hmem : ∀ j ∈ agK l i l.length, j < l.length ∧ (l.getD j cD).2.2.2 = (l.getD i cD).2.2.2 ∧ j ≠ i := fun j hj => by
  unfold agK at hj
  obtain ⟨h1, h2⟩ := List.mem_filter.1 hj
  simp only [decide_eq_true_eq] at h2
  exact ⟨List.mem_range.1 h1, h2.1, h2.2⟩
 have hne : (agK l i l.length).map (fun j => got.getD j []) ≠ [] := by
  obtain ⟨q, hq, hq1, hq2, _⟩ := hb.row i hi hp
  have hqi : q ≠ i := fun e => by rw [e, hp] at hq1; cases hq1
  intro h0
  have h1 : agK l i l.length = [] := by simpa using h0
  have : q ∈ agK l i l.length := by
   unfold agK
   exact List.mem_filter.2 ⟨List.mem_range.2 hq, decide_eq_true ⟨hq2, hqi⟩⟩
  rw [h1] at this
  cases this
 have h64 : ∀ s ∈ (agK l i l.length).map (fun j => got.getD j []), s.length = 64 := fun s h9 => by
  obtain ⟨j, hj, rfl⟩ := List.mem_map.1 h9
  exact hs.len j (hmem j hj).1
 have he64 : ∀ s ∈ (agK l i l.length).map (fun j => (encL l data).getD j []), s.length = 64 := fun s h9 => by
  obtain ⟨j, hj, rfl⟩ := List.mem_map.1 h9
  exact hb.e64 j (hmem j hj).1
 have hne2 : (agK l i l.length).map (fun j => (encL l data).getD j []) ≠ [] := by simpa using hne
 have e1 : againT l got i = xorL 64 (bts ((agK l i l.length).map (fun j => got.getD j []))) := by
  rw [againT_eq, if_neg (fun h9 => by have := h64 _ h9; simp at this), makeB_is hne h64]
 have e2 : (encL l data).getD i [] = xorL 64 (bts ((agK l i l.length).map (fun j => (encL l data).getD j []))) := by
  rw [← again_enc hb.row hb.e64 hi hp, makeB_is hne2 he64]
 refine ⟨by rw [e1, xorL_length], fun b hbp => ?_, fun h9 => ?_⟩
 ·rw [e1, e2]
  by_cases h64b : b < 64
  ·rw [xorL_getD _ _ _ h64b, xorL_getD _ _ _ h64b]
   unfold agK
   rw [xf_list, xf_list]
   exact xf_congr fun k hk => ⟨rfl, fun _ => hs.byt k hk b hbp⟩
  ·rw [List.getD_eq_getElem?_getD, List.getElem?_eq_none (by rw [xorL_length]; omega), List.getD_eq_getElem?_getD, List.getElem?_eq_none (by rw [xorL_length]; omega)]
 ·rw [e1, e2]
  congr 2
  refine List.map_congr_left fun j hj => ?_
  obtain ⟨h1, h2, h3⟩ := hmem j hj
  refine hs.oth j h1 fun e => ?_
  rcases h9 with h9 | h9
  ·exact h9 (by rw [← e]; exact h2)
  ·exact h3 (e.trans h9.symm)
def datI (l : List ColT) : List Nat := (List.range l.length).filter fun i => !(l.getD i cD).2.2.1
theorem cat_filter (l : List ColT) (F : Nat → Bs) : ∀ is : List Nat, catD l F is = (is.filter fun i => !(l.getD i cD).2.2.1).flatMap F
 | [] => rfl
 | i :: r => by
  have ih := cat_filter l F r
  unfold catD at ih ⊢
  rw [List.flatMap_cons, ih]
  cases hp : (l.getD i cD).2.2.1 with
  | true => rw [List.filter_cons_of_neg (by rw [hp]; decide), if_pos rfl]; rfl
  | false => rw [List.filter_cons_of_pos (by rw [hp]; decide), List.flatMap_cons, if_neg (by decide)]
theorem without_spo {l : List ColT} {data got : List Bs} {t : Bs} {i0 pl : Nat} (hb : BlkL l data t) (hdv : ∀ i j, i < l.length → j < l.length → (l.getD i cD).2.2.2 = (l.getD j cD).2.2.2 → i ≠ j → (l.getD i cD).1 ≠ (l.getD j cD).1) (hs : Spo l data got i0 pl) (hi0 : i0 < l.length) (hpl : pl < 64) (hn : l.length ≤ 40) (d : Int) :
  (sumF (withoutT l got d) = sumF t → withoutT l got d = t) ∧ ((l.getD i0 cD).2.2.1 = false → d = ((l.getD i0 cD).1 : Nat) → withoutT l got d = t) ∧ ((l.getD i0 cD).2.2.1 = true → d = -1 → withoutT l got d = t) := by
 have hF : ∀ i, i < l.length → (l.getD i cD).2.2.1 = false → (withS l got d i).length = 64 ∧ (∀ b, b ≠ pl → (withS l got d i).getD b 0 = ((encL l data).getD i []).getD b 0) := fun i hi hp => by
  unfold withS
  split
  ·exact ⟨(again_spo hb hs hi hp).1, (again_spo hb hs hi hp).2.1⟩
  ·exact ⟨hs.len i hi, hs.byt i hi⟩
 have hD : ∀ i ∈ datI l, i < l.length ∧ (l.getD i cD).2.2.1 = false := fun i hi => by
  unfold datI at hi
  obtain ⟨h1, h2⟩ := List.mem_filter.1 hi
  exact ⟨List.mem_range.1 h1, by simpa using h2⟩
 have hnd : (datI l).Nodup := by unfold datI; exact List.Pairwise.filter _ List.nodup_range
 have hdl : (datI l).length ≤ 40 := by
  have := List.length_filter_le (fun i => !(l.getD i cD).2.2.1) (List.range l.length)
  rw [List.length_range] at this
  unfold datI
  omega
 have eW : withoutT l got d = (datI l).flatMap (withS l got d) := by
  unfold withoutT
  rw [withGo_all (E := withS l got d) _ [] (fun i hi hp => ⟨rfl, fun e0 => by
   have := (hF i (List.mem_range.1 hi) hp).1
   rw [e0] at this
   simp at this⟩), List.nil_append, cat_filter]
  rfl
 have eT : t = (datI l).flatMap (fun i => (encL l data).getD i []) := by
  rw [← hb.cat, cat_filter]
  rfl
 have hsame : (∀ i ∈ datI l, withS l got d i = (encL l data).getD i []) → withoutT l got d = t := fun h => by
  rw [eW, eT, List.flatMap_def, List.flatMap_def]
  congr 1
  exact List.map_congr_left fun i hi => h i hi
 have hrow : ∀ i ∈ datI l, (i = i0 → d = ((l.getD i0 cD).1 : Nat)) → (((l.getD i cD).1 : Nat) = d → i ≠ i0 → (l.getD i cD).2.2.2 ≠ (l.getD i0 cD).2.2.2) → withS l got d i = (encL l data).getD i [] := fun i hi h1 h2 => by
  obtain ⟨hil, hip⟩ := hD i hi
  unfold withS
  split
  ·rename_i e
   refine (again_spo hb hs hil hip).2.2 ?_
   by_cases h3 : i = i0
   ·exact .inr h3
   ·exact .inl (fun e9 => h2 e h3 e9.symm)
  ·rename_i e
   refine hs.oth i hil fun h3 => ?_
   have := h1 h3
   rw [h3] at e
   exact e this.symm
 refine ⟨fun hsum => ?_, fun h1 h2 => ?_, fun h1 h2 => ?_⟩
 ·obtain ⟨i1, hi1⟩ : ∃ i1, ∀ i, i < l.length → ((l.getD i cD).1 : Int) = d → (l.getD i cD).2.2.2 = (l.getD i0 cD).2.2.2 → i = i1 := by
   by_cases h : ∃ k, k < l.length ∧ ((l.getD k cD).1 : Int) = d ∧ (l.getD k cD).2.2.2 = (l.getD i0 cD).2.2.2
   ·obtain ⟨k, hk, k1, k2⟩ := h
    refine ⟨k, fun i hi e1 e2 => Classical.byContradiction fun hne => ?_⟩
    exact hdv i k hi hk (e2.trans k2.symm) hne (by omega)
   ·exact ⟨0, fun i hi e1 e2 => absurd ⟨i, hi, e1, e2⟩ h⟩
  rw [eW, eT] at hsum ⊢
  refine chunks_sum hnd (fun i hi => hb.e64 i (hD i hi).1) (fun i hi => (hF i (hD i hi).1 (hD i hi).2).1) (i0 := i0) (i1 := i1) hpl (fun i hi h0 h1 => ?_) (fun i hi => (hF i (hD i hi).1 (hD i hi).2).2) hdl hsum
  exact hrow i hi (fun e => absurd e h0) (fun e _ e2 => h1 (hi1 i (hD i hi).1 e e2))
 ·refine hsame fun i hi => hrow i hi (fun _ => h2) (fun e hne e2 => ?_)
  exact hdv i i0 (hD i hi).1 hi0 e2 hne (by omega)
 ·refine hsame fun i hi => hrow i hi (fun e => ?_) (fun e _ => by omega)
  have := (hD i hi).2
  rw [e, h1] at this
  cases this
theorem flat_chunk {X : List Bs} {k size : Nat} (h : k * size + size ≤ X.length) : ((X.drop (k * size)).take size).flatten = (List.range size).flatMap fun j => X.getD (k * size + j) [] := by
 rw [List.flatMap_def]
 congr 1
 refine List.ext_getElem? fun j => ?_
 by_cases hj : j < size
 ·rw [chunk_get hj (by omega), List.getElem?_map, List.getElem?_range hj]
  rfl
 ·rw [List.getElem?_eq_none (by rw [List.length_take]; omega), List.getElem?_eq_none (by simpa using hj)]
theorem tries_spo {gs : Gs} {secs : Int} {g a : Nat} {t : Bs} {got : List Bs} {i0 pl : Nat} (ht : blkOk t = true) (hm : mayC gs secs g a ((t.length / 64 : Nat) : Int) = true) (hs : Spo (colsL gs g a (t.length / 64)) (secL t) got i0 pl) (hi0 : i0 < (colsL gs g a (t.length / 64)).length) (hpl : pl < 64) (hw : 2 ≤ (gs.getD g (0, 0)).2) :
  (∀ q ∈ triesI gs g a (t.length / 64) got, sumF q.2 = sumF t → q.2 = t) ∧ ∃ q ∈ triesI gs g a (t.length / 64) got, q.2 = t := by
 obtain ⟨h1, h2, h3⟩ := blk_parts ht
 obtain ⟨hr, _, hg, hs1, hs4, _⟩ := mayC_spec hm
 have hgr := getD_right hr (show g < gs.length by omega)
 by_cases hk : (gs.getD g (0, 0)).1 = 0
 ·have e : colsL gs g a (t.length / 64) = mirL (wsum gs g).toNat a (t.length / 64) (gs.getD g (0, 0)).2.toNat := by unfold colsL; rw [if_pos hk]
  have e64 := encL_64 (l := colsL gs g a (t.length / 64)) (secL_64 h2) (secL_pos ht) (colsL_row gs g a (t.length / 64))
  rw [e] at hs hi0 e64
  have hll := mirL_length (wsum gs g).toNat a (t.length / 64) (gs.getD g (0, 0)).2.toNat
  have hgl : got.length = (gs.getD g (0, 0)).2.toNat * (t.length / 64) := by rw [hs.n, mirL_length]
  have hEsh : Shown (mirL (wsum gs g).toNat a (t.length / 64) (gs.getD g (0, 0)).2.toNat) (secL t) (encL (mirL (wsum gs g).toNat a (t.length / 64) (gs.getD g (0, 0)).2.toNat) (secL t)) := ⟨encL_length _ _, fun i hi => .inr rfl⟩
  have hbnd : ∀ k, k < (gs.getD g (0, 0)).2.toNat → k * (t.length / 64) + t.length / 64 ≤ (gs.getD g (0, 0)).2.toNat * (t.length / 64) := fun k hk => by
   have := Nat.mul_le_mul_right (t.length / 64) (show k + 1 ≤ (gs.getD g (0, 0)).2.toNat by omega)
   rw [Nat.succ_mul] at this
   exact this
  have hT : ∀ k, k < (gs.getD g (0, 0)).2.toNat → t = (List.range (t.length / 64)).flatMap fun j => (encL (mirL (wsum gs g).toNat a (t.length / 64) (gs.getD g (0, 0)).2.toNat) (secL t)).getD (k * (t.length / 64) + j) [] := fun k hk => by
   have hb := hbnd k hk
   rw [← flat_chunk (by rw [encL_length, hll]; exact hb), mir_chunk (secL_len t) hEsh hk, secL_flat h2]
   intro hm0
   obtain ⟨j, hj⟩ := List.getElem?_of_mem hm0
   have hjs : j < t.length / 64 := by
    have := (List.getElem?_eq_some_iff.1 hj).1
    rw [List.length_take] at this
    omega
   rw [chunk_get hjs (by rw [encL_length, hll]; omega)] at hj
   have h6 := e64 (k * (t.length / 64) + j) (by rw [hll]; omega)
   rw [Option.some.inj hj] at h6
   simp at h6
  have hno : ∀ k, k < (gs.getD g (0, 0)).2.toNat → [] ∉ (got.drop (k * (t.length / 64))).take (t.length / 64) := fun k hk hm0 => by
   have hb := hbnd k hk
   obtain ⟨j, hj⟩ := List.getElem?_of_mem hm0
   have hjs : j < t.length / 64 := by
    have := (List.getElem?_eq_some_iff.1 hj).1
    rw [List.length_take] at this
    omega
   rw [chunk_get hjs (by omega)] at hj
   have h6 := hs.len (k * (t.length / 64) + j) (by rw [hll]; omega)
   rw [Option.some.inj hj] at h6
   simp at h6
  unfold triesI
  rw [if_pos hk, e]
  constructor
  ·intro q hq hsum
   unfold mirTo at hq
   obtain ⟨k, hkm, hq2⟩ := List.mem_filterMap.1 hq
   have hkm2 := List.mem_range.1 hkm
   have hb := hbnd k hkm2
   rw [if_neg (hno k hkm2)] at hq2
   obtain rfl := Option.some.inj hq2
   dsimp only at hsum ⊢
   rw [flat_chunk (by omega)] at hsum ⊢
   conv at hsum => rhs; rw [hT k hkm2]
   conv => rhs; rw [hT k hkm2]
   refine chunks_sum List.nodup_range (fun i hi => ?_) (fun i hi => ?_) (i0 := i0 - k * (t.length / 64)) (i1 := i0 - k * (t.length / 64)) hpl (fun i hi h5 _ => ?_) (fun i hi => ?_) (by rw [List.length_range]; omega) hsum
   ·have := List.mem_range.1 hi
    exact e64 _ (by rw [hll]; omega)
   ·have := List.mem_range.1 hi
    exact hs.len _ (by rw [hll]; omega)
   ·have := List.mem_range.1 hi
    exact hs.oth _ (by rw [hll]; omega) (by omega)
   ·have := List.mem_range.1 hi
    exact hs.byt _ (by rw [hll]; omega)
  ·obtain ⟨k, hk2, hki⟩ : ∃ k, k < (gs.getD g (0, 0)).2.toNat ∧ ∀ j, j < t.length / 64 → k * (t.length / 64) + j ≠ i0 := by
    by_cases h9 : i0 < t.length / 64
    ·exact ⟨1, by omega, fun j hj => by omega⟩
    ·exact ⟨0, by omega, fun j hj => by omega⟩
   have hb := hbnd k hk2
   refine ⟨_, List.mem_filterMap.2 ⟨k, List.mem_range.2 hk2, if_neg (hno k hk2)⟩, ?_⟩
   dsimp only
   rw [flat_chunk (by omega)]
   conv => rhs; rw [hT k hk2]
   rw [List.flatMap_def, List.flatMap_def]
   congr 1
   refine List.map_congr_left fun j hj => ?_
   have := List.mem_range.1 hj
   exact hs.oth _ (by rw [hll]; omega) (hki j this)
 ·obtain ⟨hb, hdv⟩ := par_blk ht hm hk
  have hll := (colsL_len hm).2
  have hW := without_spo hb hdv hs hi0 hpl (by omega)
  have hin : ∀ d, d ∈ parD (colsL gs g a (t.length / 64)) → withoutT (colsL gs g a (t.length / 64)) got d = t → ∃ q ∈ triesI gs g a (t.length / 64) got, q.2 = t := fun d hd e => by
   refine ⟨(d, t), ?_, rfl⟩
   unfold triesI
   rw [if_neg hk]
   refine List.mem_filterMap.2 ⟨d, hd, ?_⟩
   unfold parF
   rw [e, if_neg h1]
  constructor
  ·intro q hq hsum
   unfold triesI at hq
   rw [if_neg hk] at hq
   obtain ⟨d, hd, hq2⟩ := List.mem_filterMap.1 hq
   unfold parF at hq2
   split at hq2
   ·cases hq2
   ·obtain rfl := Option.some.inj hq2
    exact (hW d).1 hsum
  ·cases hp : ((colsL gs g a (t.length / 64)).getD i0 cD).2.2.1 with
   | true => exact hin (-1) (List.mem_cons_self ..) ((hW (-1)).2.2 hp rfl)
   | false =>
    refine hin _ (List.mem_cons_of_mem _ (devsI_mem ⟨(colsL gs g a (t.length / 64)).getD i0 cD, ?_, rfl⟩)) ((hW _).2.1 hp rfl)
    unfold dataC
    refine List.mem_filter.2 ⟨?_, by rw [hp]; rfl⟩
    rw [List.getD_eq_getElem?_getD, List.getElem?_eq_getElem hi0]
    exact List.getElem_mem _
end Go.Proofs.YtfaemcfjbbbbdaaGreat
namespace Go.Proofs.YtfaemcfjbbbbdaaGreat
open Go.RowKit
theorem two_ok {gs : Gs} {secs : Int} {sn : SN} (hr : rightB gs secs = true) (hl : sn.length = gs.length) (hs : ∀ j, j < gs.length → sn.getD j sD = ((sect (gs.getD j (0, 0)) secs).toNat, [])) {size : Int} (h1 : 1 ≤ size) (h2 : size ≤ 4) (h2g : 2 ≤ gs.length) : (getA gs secs sn (List.replicate gs.length 0) size true).err = 0 := by
 have hi := Inv.fresh hr hl hs
 have hc : Cov gs secs sn [] := Cov.empty hl hs
 generalize List.replicate gs.length 0 = es at *
 rcases oneA_spec gs secs sn es size (-1) with ⟨_, h0⟩ | ⟨x, h0, hx, hf, _⟩
 ·exact absurd (h0 0 (by omega)) (find_fresh hi h1 h2 (show 0 < gs.length by omega) (by rw [hs 0 (by omega)]))
 ·have hi1 := hi.put h1 h2 hx hf
  obtain ⟨_, _, e1⟩ := hi.find h1 h2 hx hf hc
  rcases oneA_spec gs secs (putS gs secs sn size x) (putE gs secs es size x) size (x.1 : Nat) with ⟨_, h3⟩ | ⟨y, h3, _⟩
  ·exfalso
   obtain ⟨g, hg, hgx⟩ : ∃ g, g < gs.length ∧ g ≠ x.1 := by
    by_cases e : x.1 = 0
    ·exact ⟨1, by omega, by omega⟩
    ·exact ⟨0, by omega, fun h => e h.symm⟩
   refine absurd (h3 g hg) (find_fresh hi1 h1 h2 hg ?_)
   rw [e1, setG_other hgx, hs g hg]
  ·unfold getA
   rw [if_pos ⟨h1, h2⟩, h0]
   dsimp only
   rw [if_pos rfl, h3]
def gsW : Gs := [(0, 1), (0, 1)]
def tW : Bs := List.replicate 256 0
theorem awake_put {sn : SN} (hl : sn.length = gsW.length) (hs : ∀ j, j < gsW.length → sn.getD j sD = ((sect (gsW.getD j (0, 0)) 60).toNat, [])) : ∃ a b c d s0 s1 s2 s3 : Int, a ≠ c ∧ (putR (newSt gsW 60 [] [] sn 1 0) tW 1).err = 0 ∧ (putR (newSt gsW 60 [] [] sn 1 0) tW 1).p = ⟨a, b, c, d, true, 4, 1, 1, s0, s1, s2, s3⟩ := by
 have hr : rightB gsW 60 = true := by decide
 have he := two_ok hr hl hs (size := 4) (by omega) (by omega) (by decide)
 obtain ⟨_, h2⟩ := two_law hr hl hs 4 he
 have hne := h2 (by decide)
 have e0 := hs 0 (by decide)
 have e1 := hs 1 (by decide)
 have hleft : leftA sn = 88 := by
  match sn, hl with
  | [x, y], _ =>
   have a0 : x = (44, []) := e0
   have a1 : y = (44, []) := e1
   rw [a0, a1]
   decide
 have htw : tW.length = 256 := List.length_replicate
 have htl : ((tW.length / 64 : Nat) : Int) = 4 := by rw [htw]; rfl
 have hpl : plcX (newSt gsW 60 [] [] sn 1 0) 4 1 = ⟨[(getA gsW 60 sn (List.replicate gsW.length 0) 4 true).p, (getA gsW 60 sn (List.replicate gsW.length 0) 4 true).q], 0, (getA gsW 60 sn (List.replicate gsW.length 0) 4 true).sn, (getA gsW 60 sn (List.replicate gsW.length 0) 4 true).es⟩ := by
  unfold plcX
  rw [if_neg (show ¬ leftA (newSt gsW 60 [] [] sn 1 0).sn < (newSt gsW 60 [] [] sn 1 0).keep + 16 by show ¬ leftA sn < 0 + 16; rw [hleft]; omega), if_pos (.inl (by omega)), if_pos (show (getA (newSt gsW 60 [] [] sn 1 0).x.gs (newSt gsW 60 [] [] sn 1 0).x.secs (newSt gsW 60 [] [] sn 1 0).sn (newSt gsW 60 [] [] sn 1 0).es 4 true).err = 0 from he)]
  rfl
 have hput : putR (newSt gsW 60 [] [] sn 1 0) tW 1 = ⟨mkPt tW 1 1 [(getA gsW 60 sn (List.replicate gsW.length 0) 4 true).p, (getA gsW 60 sn (List.replicate gsW.length 0) 4 true).q], 0, (putR (newSt gsW 60 [] [] sn 1 0) tW 1).s⟩ := by
  have hok : putOk (newSt gsW 60 [] [] sn 1 0) tW 1 = true := by
   show (blkOk tW && decide ((0 : Int) ≤ 1 ∧ (1 : Int) ≤ 3 ∧ (1 : Int) ≤ 1 ∧ (1 : Int) ≤ 4294967295)) = true
   have : blkOk tW = true := by
    unfold blkOk
    rw [htw]
    exact decide_eq_true ⟨(fun e => by rw [e] at htw; cases htw), by omega, by omega⟩
   rw [this]; decide
  unfold putR
  rw [if_neg (by rw [hok]; decide), htl, hpl, if_neg (by simp)]
  rfl
 obtain ⟨G, hG⟩ : ∃ G, G = getA gsW 60 sn (List.replicate gsW.length 0) 4 true := ⟨_, rfl⟩
 rw [← hG] at hput hne
 refine ⟨(G.p.1 : Nat), (G.p.2 : Nat), (G.q.1 : Nat), (G.q.2 : Nat), ((sumF tW).1 : Nat), ((sumF tW).2.1 : Nat), ((sumF tW).2.2.1 : Nat), ((sumF tW).2.2.2 : Nat), fun e => hne (by omega), by rw [hput], ?_⟩
 rw [hput]
 show mkPt tW 1 1 _ = _
 unfold mkPt
 rw [htl]
 rfl
theorem bsl_nil (w : World) : BSl w none 0 0 [] := ⟨rfl, Nat.zero_le _, by unfold maxLen; omega, fun _ => rfl, fun h => by omega⟩
set_option maxHeartbeats 1600000 in
set_option maxRecDepth 100000 in
theorem awake15_any (w : World) : Calls Tryz.prog 7 #[] w fun e w' => e = .returned (.bool true) ∧ Below w.heap.size w w' := by
 have hG : GSl (w.alloc (.cells (encG gsW).toArray 31)) (some ⟨w.heap.size, 0, none⟩) 2 2 gsW := by
  have hB := Blk.new w 31 (encG gsW)
  have := rsl_of_owns (blk_owns (base := 0) (n := 2) (cap := 2) (size := 2) hB (Nat.zero_le _) (Nat.le_refl _) (by unfold maxLen; omega) (by decide))
  exact this
 have hb0 : Below w.heap.size w (w.alloc (.cells (encG gsW).toArray 31)) := (Below.refl _ _).alloc (Nat.le_refl _) _
 have HM := Lib.hid (made_yes (some ⟨w.heap.size, 0, none⟩) 2 2 gsW 60 _ hG none 0 0 [] (bsl_nil _) none 0 0 [] (bsl_nil _) 1 0 (by decide))
 have HB0 := Lib.hid hb0
 clear hG hb0
 go_enter Tryz.func7, Tryz.ntmps7
 go_wp2_with fail
 refine HM.out.mono ?_
 rintro e w1 ⟨sb, bb, V, T, sn, rfl, hst, hsl, hsn, hfr, hb1⟩
 obtain ⟨i0, hi, hz0, hz1, hz2⟩ := info_parts u8info
 have hmk : (Instr.makeSlice 82 (.int .i64 256) (.int .i64 256)).run Tryz.prog w1 = .ok (.slice (some ⟨w1.heap.size, 0, none⟩) 256 256) (w1.alloc (.cells (enc8 tW).toArray 5)) := by
  have := run_make (P := Tryz.prog) w1 82 5 i0 (.int .u8 0) Tryz.underlying82 hi hz0 .i64 .i64 256 256 (by omega) (by omega) (by rw [hz2]; omega) (by omega)
  rw [this, hz1]
  have e := enc8_zero 256
  show _ = Result.ok _ (w1.alloc (.cells (enc8 (List.replicate 256 0)).toArray 5))
  rw [← e]
  rfl
 have hcv := run_string_of_own (P := Tryz.prog) (base := 0) (l := tW) (by
  have hB := Blk.new w1 5 (enc8 tW)
  have := blk_owns (base := 0) (n := 256) (cap := 256) (size := 1) hB (Nat.zero_le _) (Nat.le_refl _) (by unfold maxLen; omega) (by rw [enc8_length]; exact List.length_replicate)
  rw [List.take_of_length_le (by rw [enc8_length]; unfold tW; rw [List.length_replicate]; omega)] at this
  exact this) 82 5 9 Tryz.underlying82 Tryz.underlying5 Tryz.underlying9
 have hbA : Below w1.heap.size w1 (w1.alloc (.cells (enc8 tW).toArray 5)) := (Below.refl _ _).alloc (Nat.le_refl _) _
 obtain ⟨a, b, c, d, z0, z1, z2, z3, hac, he, hp⟩ := awake_put hsl hsn
 have hput := put_law (hst.below hbA) (newSt_ok (by decide) (out_nil gsW) hsl hsn) (by omega) (by show (0 : Int) ≤ 0 ∧ (0 : Int) ≤ 1000000000; omega) (by show 0 ≤ 1000000; omega) tW 1 (by unfold tW; rw [List.length_replicate]; omega)
 have HPUT : Hid (Calls Tryz.prog 12 #[.pointer (some ⟨sb, 0, none⟩), .string ⟨tW.toArray⟩, .int .i64 1] (w1.alloc (.cells (enc8 tW).toArray 5)) fun e w' => e = .returned (.tuple #[.agg #[.int .i64 a, .int .i64 b, .int .i64 c, .int .i64 d, .bool true, .int .i64 4, .int .i64 1, .int .i64 1, .int .u64 z0, .int .u64 z1, .int .u64 z2, .int .u64 z3], .int .i64 0]) ∧ Below w.heap.size w w') := Lib.hid (hput.mono (fun e w' h => by
  obtain ⟨h1, dn', _, T', h2, h3, h4⟩ := h
  rw [he, hp] at h1
  have hB1 : Below w.heap.size w w1 := HB0.out.trans (hb1.mono (by simp))
  exact ⟨h1, (hB1.trans (hbA.mono hB1.size)).trans (h3.toBelow (fun k hk => by have := hfr k hk; simp at this; omega) (by have := hB1.size; simp; omega))⟩))
 have q1 : ¬ a = c := hac
 have q2 : (a != c) = true := by simpa using hac
 have q3 : (a == c) = false := by simpa using hac
 clear hst hsl hsn hfr hb1 hi hz0 hz1 hz2 hbA he hp hput HM hac
 go_wp2_with fail
 refine HPUT.out.mono ?_
 rintro e w3 ⟨rfl, hb3⟩
 have HB3 := Lib.hid hb3
 clear hmk hcv hb3 HPUT HB0
 go_wp2_with fail
 go_ret
 exact ⟨rfl, HB3.out.alloc HB3.out.size _⟩
end Go.Proofs.YtfaemcfjbbbbdaaGreat
namespace Go.Proofs.YtfaemcfjbbbbdaaGreat
open Go.RowKit
attribute [local go_sem ↓] Go.wp_at_zero Go.wp_at_succ
structure BlkT where
 s : Bs
 level : Int
 mt : Bool
def bkD : BlkT := ⟨[], 0, false⟩
def encBk (b : BlkT) : List Value := [.string ⟨b.s.toArray⟩, .int .i64 b.level, .bool b.mt]
def encBs (l : List BlkT) : List Value := l.flatMap encBk
def BkSl (w : World) (ao : Option Addr) (n cap : Nat) (l : List BlkT) : Prop := RSl w 3 ao n cap (encBs l)
theorem BkSl.len {w : World} {ao : Option Addr} {n cap : Nat} {l : List BlkT} (h : BkSl w ao n cap l) : l.length = n := by
 have h1 := h.1
 have : ∀ l : List BlkT, (encBs l).length = l.length * 3 := fun l => by
  induction l with
  | nil => rfl
  | cons a r ih =>
   show (encBk a ++ encBs r).length = _
   rw [List.length_append, ih, List.length_cons]
   show 3 + _ = _
   omega
 rw [this] at h1
 omega
theorem BkSl.cells {w : World} {ao : Option Addr} {n cap : Nat} {l : List BlkT} (h : BkSl w ao n cap l) (hn : 0 < n) : ∃ b off, ao = some ⟨b, off, none⟩ ∧ b < w.heap.size ∧ ∀ k, k < n → w.cell? ⟨b, off + k * 3, none⟩ = some (.string ⟨(l.getD k bkD).s.toArray⟩) ∧ w.cell? ⟨b, off + k * 3 + 1, none⟩ = some (.int .i64 (l.getD k bkD).level) ∧ w.cell? ⟨b, off + k * 3 + 2, none⟩ = some (.bool (l.getD k bkD).mt) := by
 have hl := h.len
 obtain ⟨b, off, e, hb, hc⟩ := h.2.2.2.2 hn
 refine ⟨b, off, e, hb, fun k hk => ?_⟩
 have key : ∀ i, i < 3 → w.cell? ⟨b, off + (k * 3 + i), none⟩ = (encBk (l.getD k bkD))[i]? := fun i hi => by
  rw [hc (k * 3 + i) (by omega)]
  exact flat_get (f := encBk) (K := 3) (fun _ => rfl) l k i bkD (by omega) hi
 exact ⟨key 0 (by omega), by rw [Nat.add_assoc]; exact key 1 (by omega), by rw [Nat.add_assoc]; exact key 2 (by omega)⟩
def fewS (l : List BlkT) : Bool := decide (l.length ≤ 30) && l.all fun b => decide (b.s.length ≤ 1000)
set_option maxRecDepth 100000 in
theorem few15_any (ao : Option Addr) (n cap : Nat) (l : List BlkT) (w : World) (h : BkSl w ao n cap l) (hn : n ≤ 9223372036854775807) :
  Calls Tryz.prog 8 #[.slice ao n cap] w fun e w' => e = .returned (.bool (fewS l)) ∧ w' = w := by
 have hl := h.len
 have HC := Lib.hid (fun hn => h.cells hn)
 have HF0 : Hid (∀ j, j < n → 1000 < (l.getD j bkD).s.length → fewS l = false) := Lib.hid (fun j hj hs => by
  unfold fewS
  rw [Bool.and_eq_false_iff]
  right
  rw [List.all_eq_false]
  refine ⟨l.getD j bkD, ?_, by rw [decide_eq_false (by omega)]; decide⟩
  rw [List.getD_eq_getElem?_getD, List.getElem?_eq_getElem (by omega)]
  exact List.getElem_mem _)
 have HF1 : Hid (30 < n → fewS l = false) := Lib.hid (fun h30 => by unfold fewS; rw [decide_eq_false (by omega)]; rfl)
 have HF2 : Hid (n ≤ 30 → (∀ j, j < n → (l.getD j bkD).s.length ≤ 1000) → fewS l = true) := Lib.hid (fun h30 ha => by
  unfold fewS
  rw [decide_eq_true (by omega), Bool.true_and, List.all_eq_true]
  intro b hb
  obtain ⟨j, hj, rfl⟩ := List.getElem_of_mem hb
  have := ha j (by omega)
  rw [List.getD_eq_getElem?_getD, List.getElem?_eq_getElem hj] at this
  exact decide_eq_true this)
 clear hl h
 go_enter Tryz.func8, Tryz.ntmps8
 go_wp2_with fail
 go_loopw [3] (fun v wr => ∃ k : Nat, v = .int .i64 (k : Nat) ∧ k ≤ n ∧ k ≤ 31 ∧ wr = w ∧ Hid (∀ j, j < k → (l.getD j bkD).s.length ≤ 1000)) (fun v _ => 31 - (intOf v).toNat)
 case atStart => exact ⟨0, rfl, Nat.zero_le _, by omega, rfl, Lib.hid (fun j hj => by omega)⟩
 case round =>
  obtain ⟨k, rfl, hkn, hk31, hwr, HA⟩ := hrel
  subst hwr
  by_cases h1 : k < n
  ·by_cases h2 : k ≤ 30
   ·have q1 : (k : Int) < (n : Int) := by omega
    have q2 : (k : Int) ≤ 30 := by omega
    have q3 : 0 ≤ (k : Int) := by omega
    obtain ⟨b, off, rfl, hb, hc⟩ := HC.out (by omega)
    have c0 := (hc k h1).1
    obtain ⟨sz, hsz⟩ : ∃ sz, sz = (l.getD k bkD).s := ⟨_, rfl⟩
    rw [← hsz] at c0
    have HSZ := Lib.hid hsz
    clear hc hsz
    by_cases h3 : 1000 < sz.length
    ·have q4 : (1000 : Int) < (sz.length : Int) := by omega
     have HV := Lib.hid (HF0.out k h1 (by rw [← HSZ.out]; exact h3))
     go_wp2_with fail
     go_ret
     exact ⟨by rw [HV.out]; rfl, rfl⟩
    ·have q4 : ¬ (1000 : Int) < (sz.length : Int) := by omega
     have HA2 : Hid (∀ j, j < k + 1 → (l.getD j bkD).s.length ≤ 1000) := Lib.hid (fun j hj => by
      by_cases e : j = k
      ·rw [e, ← HSZ.out]; omega
      ·exact HA.out j (by omega))
     go_wp2_with fail
     go_roundw
     case rel => exact ⟨k + 1, by go_num, by omega, by omega, by trivial, HA2⟩
     case measure => simp [intOf]; omega
   ·have q1 : (k : Int) < (n : Int) := by omega
    have q2 : ¬ (k : Int) ≤ 30 := by omega
    have q5 : ¬ (n : Int) ≤ 30 := by omega
    have HV := Lib.hid (HF1.out (by omega))
    go_wp2_with fail
    go_ret
    exact ⟨by rw [HV.out]; simp, rfl⟩
  ·have q1 : ¬ (k : Int) < (n : Int) := by omega
   obtain rfl : k = n := by omega
   by_cases h4 : k ≤ 30
   ·have q5 : (k : Int) ≤ 30 := by omega
    have HV := Lib.hid (HF2.out h4 HA.out)
    go_wp2_with fail
    go_ret
    exact ⟨by rw [HV.out]; simp, rfl⟩
   ·have q5 : ¬ (k : Int) ≤ 30 := by omega
    have HV := Lib.hid (HF1.out (by omega))
    go_wp2_with fail
    go_ret
    exact ⟨by rw [HV.out]; simp, rfl⟩
end Go.Proofs.YtfaemcfjbbbbdaaGreat
namespace Go.Proofs.YtfaemcfjbbbbdaaGreat
open Go.RowKit
theorem IsSto.self {w : World} {sb : Nat} {S : StoT} {V : DvV} {bb : Nat} {dn : Option Nat} {T : Nat → Prop} (h : IsSto w sb S V bb dn T) : T sb := by
 obtain ⟨eb, ms, bv, F, h, hT⟩ := h
 exact (hT sb).2 (.inr (.inr (.inl rfl)))
theorem asput {w : World} {sb sb2 : Nat} {S : StoT} {V : DvV} {bb d : Nat} {T : Nat → Prop} {L : List St} {K : Nat} {m : Bool} (h : IsSto w sb S V bb (some d) T) (hB : Blk w sb2 41 (stoC V { S with mt := m } bb (some d))) (hne : sb2 ≠ sb) (hok : StOk S L K) (hK2 : K + 200 ≤ 1000000000) (hkp : 0 ≤ S.keep ∧ S.keep ≤ 1000000000) (hbn : S.born.length ≤ 1000000) (t : Bs) (level : Int) (htl : t.length ≤ 1000000) :
  Calls Tryz.prog 12 #[.pointer (some ⟨sb2, 0, none⟩), .string ⟨t.toArray⟩, .int .i64 level] w fun e w' => e = .returned (.tuple #[.agg (encPtr (putR { S with mt := m } t level).p).toArray, .int .i64 ((putR { S with mt := m } t level).err : Nat)]) ∧ ∃ T', IsSto w' sb { (putR { S with mt := m } t level).s with mt := S.mt } V bb (some d) T' ∧ Mod (fun g => T g ∨ g = sb2) w w' ∧ ∀ g, T' g → T g ∨ g = sb2 ∨ w.heap.size ≤ g := by
 obtain ⟨T2, h2, hT2, hns⟩ := h.shift (m := m) hB
 have hok2 : StOk { S with mt := m } L K := ⟨hok.one, hok.fits, hok.deep, hok.inv, hok.cov⟩
 refine (put_law h2 hok2 hK2 hkp hbn t level htl).mono ?_
 rintro e w' ⟨rfl, dn', hdn, T3, h3, hm, hn⟩
 refine ⟨rfl, ?_⟩
 have e1 : dn' = some d := hdn d rfl
 subst e1
 have hsame : Same { S with mt := m } (putR { S with mt := m } t level).s ∧ (putR { S with mt := m } t level).s.x.secs = S.x.secs := by
  rcases put_plain hok2 t level with ⟨_, _, _, _, _, a1, _, a2⟩ | ⟨_, _, _, a1, _, a2, _⟩
  ·exact ⟨a2, by rw [a1]⟩
  ·exact ⟨a2, a1.secs⟩
 obtain ⟨hs1, hs2⟩ := hsame
 have hBs : Blk w' sb 41 (stoC V { (putR { S with mt := m } t level).s with mt := S.mt } bb (some d)) := by
  have h9 := hm.blk h.cells (hns (fun e => hne e))
  have e2 : stoC V { (putR { S with mt := m } t level).s with mt := S.mt } bb (some d) = stoC V S bb (some d) := by
   unfold stoC
   dsimp only
   rw [hs2, hs1.txg, hs1.keep]
  rw [e2]
  exact h9
 obtain ⟨T4, h4, hT4, _⟩ := h3.shift (m := S.mt) hBs
 refine ⟨T4, h4, hm.mono (fun g _ hg => by rcases hT2 g hg with h9 | h9; exact .inl h9; exact .inr h9), fun g hg => ?_⟩
 rcases hT4 g hg with h9 | h9
 ·rcases hn g h9 with h8 | h8
  ·rcases hT2 g h8 with h7 | h7
   ·exact .inl h7
   ·exact .inr (.inl h7)
  ·exact .inr (.inr h8)
 ·rw [h9]; exact .inl h.self
end Go.Proofs.YtfaemcfjbbbbdaaGreat
namespace Go.Proofs.YtfaemcfjbbbbdaaGreat
structure Bk (S : StoT) (got : List PtrT) (tx : List Bs) (K : Nat) : Prop where
 ok : StOk S (got.flatMap (pstrs S.x.gs S.x.secs)) K
 born : S.born = got
 len : tx.length = got.length
 wh : ∀ i, i < got.length → PWhole S.x (got.getD i pD) (tx.getD i [])
 fx : S.fixed = 0
 kp : S.keep = 0
end Go.Proofs.YtfaemcfjbbbbdaaGreat
namespace Go.Proofs.YtfaemcfjbbbbdaaGreat
theorem mended_kept {s : Bs} (hs : blkOk s = true) : ∀ (l : List (Int × Int)) (x : DvsT) (n K : Nat), x.right = true → x.deep K → (∀ q ∈ l, mayC x.gs x.secs ((q.1.toNat : Nat) : Int) ((q.2.toNat : Nat) : Int) ((s.length / 64 : Nat) : Int) = true) → Kept x (mendedL s l x n).2 ∧ (mendedL s l x n).2.deep (K + 32 * l.length) ∧ (mendedL s l x n).1 ≤ n + 32 * l.length
 | [], x, n, K, _, hK, _ => ⟨Kept.refl x, hK, Nat.le_refl _⟩
 | q :: r, x, n, K, hr, hK, hm => by
  obtain ⟨a1, a2, a3⟩ := mend_kept hr hs (hm q (List.mem_cons_self ..)) hK
  obtain ⟨b1, b2, b3⟩ := mended_kept hs r (mendX x q.1.toNat q.2.toNat s (badX x q.1.toNat q.2.toNat s)).2 (n + (mendX x q.1.toNat q.2.toNat s (badX x q.1.toNat q.2.toNat s)).1) (K + 32) (a1.right hr) a2 (fun p hp => by rw [a1.gs, a1.secs]; exact hm p (List.mem_cons_of_mem _ hp))
  refine ⟨a1.trans b1, ?_, ?_⟩
  ·rw [List.length_cons]
   exact fun i k => Nat.le_trans (b2 i k) (by omega)
  ·show (mendedL s r _ _).1 ≤ _
   rw [List.length_cons]
   omega
end Go.Proofs.YtfaemcfjbbbbdaaGreat
namespace Go.Proofs.YtfaemcfjbbbbdaaGreat
theorem cols_fit {x : DvsT} (hr : x.right = true) {g a size : Nat} (hm : mayC x.gs x.secs (g : Nat) (a : Nat) (size : Nat) = true) : ∀ i, i < (colsL x.gs g a size).length → ((colsL x.gs g a size).getD i cD).1 < x.ds.length ∧ ((colsL x.gs g a size).getD i cD).2.1 < (x.ds.getD ((colsL x.gs g a size).getD i cD).1 dvD).med.length := fun i hi => by
 have hrs := right_spec hr
 have b1 := colsL_dev hm hi
 have b2 := colsL_sec hm hi
 have b3 : ((colsL x.gs g a size).getD i cD).1 < x.ds.length := by rw [hrs.2.1]; exact b1
 refine ⟨b3, ?_⟩
 have := hrs.2.2.2 _ b3
 omega
end Go.Proofs.YtfaemcfjbbbbdaaGreat
namespace Go.Proofs.YtfaemcfjbbbbdaaGreat
theorem spoil_col_same {x : DvsT} {c c2 : ColT} (hc : c.1 < x.ds.length) (hk : c.2.1 < (x.ds.getD c.1 dvD).med.length) (hh : x.here c.1 = true) (pl : Nat) (b : UInt8) (h : sameC c c2) : (spoilX x c pl b).col c2 = spB (x.col c2) (pl % 64) b := by
 obtain ⟨e1, e2⟩ := h
 have kk := (spoilX_kept hc hk pl b).1
 have hl : (x.ds.getD c.1 dvD).lost = false := by
  unfold DvsT.here at hh
  simp only [Bool.and_eq_true, Bool.not_eq_true'] at hh
  exact hh.2
 have hme : (x.ds.getD c.1 dvD).mayE (colAt c2) = 0 := by
  unfold DevT.mayE colAt
  rw [if_neg (by rw [hl]; decide), if_neg (by omega)]
 have hme2 : ((spoilX x c pl b).ds.getD c.1 dvD).mayE (colAt c2) = 0 := by
  rw [← hme]
  unfold DevT.mayE
  rw [(kk.dev c.1).1, (kk.dev c.1).2.1]
 unfold DvsT.col
 rw [kk.here, ← e1, if_pos hh, if_pos hh]
 unfold DevT.readE
 rw [if_pos hme, if_pos hme2]
 dsimp only
 have e3 : (colAt c2).toNat = c.2.1 := by unfold colAt; omega
 rw [spoilX_get hc, if_pos rfl, e3, DevT.now_spoil _ hk, if_pos rfl]
theorem raw_get (x : DvsT) (g a size : Nat) {j : Nat} (hj : j < (colsL x.gs g a size).length) : (rawX x g a size).getD j [] = x.col ((colsL x.gs g a size).getD j cD) := by
 unfold rawX
 rw [List.getD_eq_getElem?_getD, List.getElem?_map, List.getD_eq_getElem?_getD, List.getElem?_eq_getElem hj]
 rfl
theorem whole_col {x : DvsT} {g a : Nat} {t : Bs} (hw : Whole x g a t) {j : Nat} (hj : j < (colsL x.gs g a (t.length / 64)).length) (hh : x.here ((colsL x.gs g a (t.length / 64)).getD j cD).1 = true) : x.col ((colsL x.gs g a (t.length / 64)).getD j cD) = (encL (colsL x.gs g a (t.length / 64)) (secL t)).getD j [] := by
 have h9 : rawX x g a (t.length / 64) = shownL x g a t := hw
 have h8 := raw_get x g a (t.length / 64) hj
 rw [h9, shownL_get x g a t hj, if_pos hh] at h8
 exact h8.symm
theorem spo_spoil {x : DvsT} (hall : ∀ d, d < x.ds.length → x.here d = true) (hr : x.right = true) {g a : Nat} {t : Bs} (ht : blkOk t = true) (hm : mayC x.gs x.secs (g : Nat) (a : Nat) ((t.length / 64 : Nat) : Int) = true) (hw : Whole x g a t) {i0 : Nat} (hi0 : i0 < (colsL x.gs g a (t.length / 64)).length) {c : ColT} (hc : sameC c ((colsL x.gs g a (t.length / 64)).getD i0 cD)) (pl : Nat) (b : UInt8) :
  Spo (colsL x.gs g a (t.length / 64)) (secL t) (rawX (spoilX x c pl b) g a (t.length / 64)) i0 (pl % 64) := by
 obtain ⟨h1, h2, h3⟩ := blk_parts ht
 have e64 := encL_64 (l := colsL x.gs g a (t.length / 64)) (secL_64 h2) (secL_pos ht) (colsL_row x.gs g a (t.length / 64))
 have hfit := cols_fit hr hm
 have c1 : c.1 < x.ds.length := by rw [hc.1]; exact (hfit i0 hi0).1
 have c2 : c.2.1 < (x.ds.getD c.1 dvD).med.length := by rw [hc.1, hc.2]; exact (hfit i0 hi0).2
 have kk := (spoilX_kept c1 c2 pl b).1
 have hcol : ∀ j, j < (colsL x.gs g a (t.length / 64)).length → x.col ((colsL x.gs g a (t.length / 64)).getD j cD) = (encL (colsL x.gs g a (t.length / 64)) (secL t)).getD j [] := fun j hj => whole_col hw hj (hall _ (hfit j hj).1)
 have hgot : ∀ j, j < (colsL x.gs g a (t.length / 64)).length → (rawX (spoilX x c pl b) g a (t.length / 64)).getD j [] = if j = i0 then spB ((encL (colsL x.gs g a (t.length / 64)) (secL t)).getD j []) (pl % 64) b else (encL (colsL x.gs g a (t.length / 64)) (secL t)).getD j [] := fun j hj => by
  have h9 := raw_get (spoilX x c pl b) g a (t.length / 64) (j := j) (by rw [kk.gs]; exact hj)
  rw [kk.gs] at h9
  rw [h9]
  split
  ·rename_i e
   subst e
   rw [spoil_col_same c1 c2 (hall _ c1) pl b hc, hcol j hj]
  ·rename_i e
   rw [spoil_col_other c1 c2 pl b (fun h8 => e (cols_self hm hj hi0 ⟨h8.1.symm.trans hc.1, h8.2.symm.trans hc.2⟩)), hcol j hj]
 refine ⟨by unfold rawX; rw [List.length_map, kk.gs], fun j hj hne => by rw [hgot j hj, if_neg hne], fun j hj => ?_, fun j hj k hk => ?_⟩
 ·rw [hgot j hj]
  split
  ·rw [spB_len]; exact e64 j hj
  ·exact e64 j hj
 ·rw [hgot j hj]
  split
  ·unfold spB
   rw [List.getD_eq_getElem?_getD, List.getElem?_set_ne (fun e => hk e.symm), ← List.getD_eq_getElem?_getD]
  ·rfl
theorem sum_both {p : PtrT} {s t : Bs} (h1 : p.sumIs s = true) (h2 : p.sumIs t = true) : sumF s = sumF t := by
 unfold PtrT.sumIs at h1 h2
 rw [decide_eq_true_eq] at h1 h2
 obtain ⟨a1, a2, a3, a4⟩ := h1
 obtain ⟨b1, b2, b3, b4⟩ := h2
 refine Prod.ext (by omega) (Prod.ext (by omega) (Prod.ext (by omega) (by omega)))
theorem at_spo {y : DvsT} {p : PtrT} {g a : Nat} {t : Bs} {i0 pl : Nat} (ht : blkOk t = true) (hm : mayC y.gs y.secs (g : Nat) (a : Nat) ((t.length / 64 : Nat) : Int) = true) (hp : p.sumIs t = true) (hs : Spo (colsL y.gs g a (t.length / 64)) (secL t) (rawX y g a (t.length / 64)) i0 pl) (hi0 : i0 < (colsL y.gs g a (t.length / 64)).length) (hpl : pl < 64) (hw : 2 ≤ (y.gs.getD g (0, 0)).2) : ∃ d, atX y p g a (t.length / 64) = some (d, t) := by
 obtain ⟨h1, q, hq, hqt⟩ := tries_spo ht hm hs hi0 hpl hw
 unfold atX
 cases hf : (triesI y.gs g a (t.length / 64) (rawX y g a (t.length / 64))).find? fun t => p.sumIs t.2 with
 | none =>
  have := List.find?_eq_none.1 hf q hq
  rw [hqt, hp] at this
  exact absurd rfl this
 | some z =>
  have hz := List.find?_some hf
  have hzm := List.mem_of_find?_eq_some hf
  obtain ⟨d, s⟩ := z
  have h9 : s = t := h1 _ hzm (sum_both hz hp)
  exact ⟨d, by rw [h9]⟩
theorem one_or_none {L : List Nat} (hn : L.Nodup) {i : Nat} (h : ∀ j ∈ L, j = i) : L = [] ∨ L = [i] := by
 cases L with
 | nil => exact .inl rfl
 | cons a r =>
  right
  have ea := h a (List.mem_cons_self ..)
  cases r with
  | nil => rw [ea]
  | cons b r =>
   have eb := h b (by simp)
   rw [List.nodup_cons] at hn
   exact absurd (by rw [ea, eb]; simp) hn.1
theorem mend_spo {y : DvsT} (hcm : y.calm) (hall : ∀ d, d < y.ds.length → y.here d = true) (hr : y.right = true) {g a : Nat} {t : Bs} {i0 pl : Nat} (ht : blkOk t = true) (hm : mayC y.gs y.secs (g : Nat) (a : Nat) ((t.length / 64 : Nat) : Int) = true) (hs : Spo (colsL y.gs g a (t.length / 64)) (secL t) (rawX y g a (t.length / 64)) i0 pl) (hi0 : i0 < (colsL y.gs g a (t.length / 64)).length) :
  ∃ n z, mendX y g a t (badX y g a t) = (n, z) ∧ n ≤ 1 ∧ Kept y z ∧ Whole z g a t ∧ (y.full → z.full) := by
 obtain ⟨h1, h2, h3⟩ := blk_parts ht
 have e64 := encL_64 (l := colsL y.gs g a (t.length / 64)) (secL_64 h2) (secL_pos ht) (colsL_row y.gs g a (t.length / 64))
 have hfit := cols_fit hr hm
 have hbad : ∀ i ∈ badX y g a t, i = i0 := fun i hi => Classical.byContradiction fun hne => by
  have hl := (badX_spec hm).1 i hi
  unfold badX badK at hi
  have h9 := (List.mem_filter.1 hi).2
  simp only [decide_eq_true_eq] at h9
  exact h9 (hs.oth i hl hne).symm
 have hnd : (badX y g a t).Nodup := by unfold badX badK; exact List.Pairwise.filter _ List.nodup_range
 have hother : ∀ j, j < (colsL y.gs g a (t.length / 64)).length → j ≠ i0 → y.col ((colsL y.gs g a (t.length / 64)).getD j cD) = (encL (colsL y.gs g a (t.length / 64)) (secL t)).getD j [] := fun j hj hne => by
  rw [← raw_get y g a (t.length / 64) hj]
  exact hs.oth j hj hne
 have hwhole : ∀ z : DvsT, Kept y z → (∀ j, j < (colsL y.gs g a (t.length / 64)).length → z.col ((colsL y.gs g a (t.length / 64)).getD j cD) = (encL (colsL y.gs g a (t.length / 64)) (secL t)).getD j []) → Whole z g a t := fun z kz hz => by
  unfold Whole
  rw [shownL_kept kz]
  unfold rawX
  rw [kz.gs]
  refine List.ext_getElem? fun j => ?_
  by_cases hj : j < (colsL y.gs g a (t.length / 64)).length
  ·have h9 := shownL_get y g a t hj
   rw [if_pos (hall _ (hfit j hj).1)] at h9
   have h8 := hz j hj
   rw [List.getElem?_map, List.getElem?_eq_getElem hj, List.getElem?_eq_getElem (by rw [shownL_len]; exact hj)]
   rw [List.getD_eq_getElem?_getD, List.getElem?_eq_getElem (by rw [shownL_len]; exact hj)] at h9
   rw [List.getD_eq_getElem?_getD, List.getElem?_eq_getElem hj] at h8
   show some (z.col _) = some _
   congr 1
   exact h8.trans h9.symm
  ·rw [List.getElem?_eq_none (by rw [List.length_map]; omega), List.getElem?_eq_none (by rw [shownL_len]; omega)]
 rw [mendX_eq hr ht hm]
 rcases one_or_none hnd hbad with e | e
 ·rw [e]
  refine ⟨0, y, rfl, by omega, Kept.refl y, hwhole y (Kept.refl y) fun j hj => ?_, fun h => h⟩
  by_cases hj0 : j = i0
  ·refine Classical.byContradiction fun hne => ?_
   have : j ∈ badX y g a t := by
    unfold badX badK
    refine List.mem_filter.2 ⟨List.mem_range.2 (by unfold rawX; rw [List.length_map]; exact hj), ?_⟩
    rw [raw_get y g a (t.length / 64) hj]
    exact decide_eq_true fun e9 => hne e9.symm
   rw [e] at this
   cases this
  ·exact hother j hj hj0
 ·rw [e]
  obtain ⟨f1, f2⟩ := hfit i0 hi0
  have kz := putX_kept y ((colsL y.gs g a (t.length / 64)).getD i0 cD) ((encL (colsL y.gs g a (t.length / 64)) (secL t)).getD i0 []) f1
  refine ⟨_, (putX y ((colsL y.gs g a (t.length / 64)).getD i0 cD) ((encL (colsL y.gs g a (t.length / 64)) (secL t)).getD i0 [])).2, by unfold mendsX; rw [if_pos hi0]; unfold mendsX; rfl, by split <;> omega, kz, hwhole _ kz fun j hj => ?_, fun h => putX_full h _ _⟩
  by_cases hj0 : j = i0
  ·subst hj0
   exact col_put_same hcm f1 (hall _ f1) f2 (e64 j hj)
  ·rw [col_put_other f1 (fun h8 => hj0 (cols_self hm hj hi0 ⟨h8.1.symm, h8.2.symm⟩))]
   exact hother j hj hj0
theorem spoilt_get {x : DvsT} (ho : x.one) (hall : ∀ d, d < x.ds.length → x.here d = true) (hwide : ∀ g, g < x.gs.length → 2 ≤ (x.gs.getD g (0, 0)).2) {p : PtrT} {t : Bs} (hp : PWhole x p t) {c : ColT} (hc : c.1 < x.ds.length) (hk : c.2.1 < (x.ds.getD c.1 dvD).med.length) (pl : Nat) (b : UInt8) :
  ∃ d n z d', lookX (spoilX x c pl b) p = some (0, d, t) ∧ mendedL t ((plL p).take 1) (spoilX x c pl b) 0 = (n, z) ∧ n ≤ 1 ∧ Kept (spoilX x c pl b) z ∧ lookX z p = some (0, d', t) ∧ mendedL t ((plL p).take 1) z 0 = (0, z) := by
 obtain ⟨q, r, e⟩ : ∃ q r, plL p = q :: r := by unfold plL; split <;> exact ⟨_, _, rfl⟩
 have hq : q ∈ plL p := by rw [e]; exact List.mem_cons_self ..
 have hs : p.size.toNat = t.length / 64 := by rw [hp.size, Int.toNat_natCast]
 have hm := hp.may q hq
 have kk := (spoilX_kept hc hk pl b).1
 have hyo := ho.kept kk
 have hyall : ∀ d, d < (spoilX x c pl b).ds.length → (spoilX x c pl b).here d = true := fun d hd => by rw [kk.here]; exact hall d (by rw [← kk.n]; exact hd)
 have hmy : mayC (spoilX x c pl b).gs (spoilX x c pl b).secs (q.1.toNat : Nat) (q.2.toNat : Nat) ((t.length / 64 : Nat) : Int) = true := hm
 have hlook : ∀ z : DvsT, (∃ d, atX z p q.1.toNat q.2.toNat (t.length / 64) = some (d, t)) → ∃ d, lookX z p = some (0, d, t) := fun z ⟨d, hd⟩ => by
  refine ⟨d, ?_⟩
  unfold lookX
  rw [e]
  unfold lookL
  rw [hs, hd]
 have hmend : ∀ z : DvsT, mendedL t ((plL p).take 1) z 0 = ((mendX z q.1.toNat q.2.toNat t (badX z q.1.toNat q.2.toNat t)).1, (mendX z q.1.toNat q.2.toNat t (badX z q.1.toNat q.2.toNat t)).2) := fun z => by
  rw [e]
  show mendedL t [q] z 0 = _
  unfold mendedL
  unfold mendedL
  rw [Nat.zero_add]
 have hend : ∀ z, Kept (spoilX x c pl b) z → Whole z q.1.toNat q.2.toNat t → (∃ d', lookX z p = some (0, d', t)) ∧ mendedL t ((plL p).take 1) z 0 = (0, z) := fun z kz hwz => by
  have hmz : mayC z.gs z.secs (q.1.toNat : Nat) (q.2.toNat : Nat) ((t.length / 64 : Nat) : Int) = true := by rw [kz.gs, kz.secs]; exact hmy
  refine ⟨hlook z (at_whole (hyo.kept kz) hp.blk hmz hp.sum hwz), ?_⟩
  rw [hmend z, mend_whole (hyo.kept kz).right hwz hp.blk hmz]
 by_cases hin : ∃ i, i < (colsL x.gs q.1.toNat q.2.toNat (t.length / 64)).length ∧ sameC c ((colsL x.gs q.1.toNat q.2.toNat (t.length / 64)).getD i cD)
 ·obtain ⟨i0, hi0, hsame⟩ := hin
  have hspo := spo_spoil hall ho.right hp.blk hm (hp.whole q hq) hi0 hsame pl b
  have hg : q.1.toNat < x.gs.length := by have := (mayC_spec hm).2.2.1; omega
  obtain ⟨d, hd⟩ := hlook (spoilX x c pl b) (at_spo hp.blk hmy hp.sum hspo hi0 (Nat.mod_lt _ (by omega)) (hwide _ hg))
  obtain ⟨n, z, hz1, hz2, hz3, hz4, _⟩ := mend_spo hyo.calm hyall hyo.right hp.blk hmy hspo hi0
  obtain ⟨⟨d', hd'⟩, hz5⟩ := hend z hz3 hz4
  refine ⟨d, n, z, d', hd, ?_, hz2, hz3, hd', hz5⟩
  rw [hmend, hz1]
 ·have hwy : Whole (spoilX x c pl b) q.1.toNat q.2.toNat t := by
   have hw := hp.whole q hq
   unfold Whole at hw ⊢
   rw [shownL_kept kk, ← hw]
   unfold rawX
   rw [kk.gs]
   refine List.map_congr_left fun c2 hc2 => ?_
   obtain ⟨i, hi, rfl⟩ := cols_mem hc2
   exact spoil_col_other hc hk pl b (fun h9 => hin ⟨i, hi, h9⟩)
  obtain ⟨⟨d, hd⟩, h5⟩ := hend _ (Kept.refl _) hwy
  exact ⟨d, 0, _, d, hd, h5, by omega, Kept.refl _, hd, h5⟩
end Go.Proofs.YtfaemcfjbbbbdaaGreat
namespace Go.Proofs.YtfaemcfjbbbbdaaGreat
open Go.RowKit
set_option maxHeartbeats 1600000 in
set_option maxRecDepth 100000 in
theorem dspoil_any {w : World} {db : Nat} {δ : DevT} {F : Nat → Prop} (h : IsDev w db δ F) (k place : Nat) (b : UInt8) (hm : δ.mayE (k : Nat) = 0) (h64 : (δ.now k).length = 64) (hp : place ≤ 1000000) :
  Calls Tryz.prog 26 #[.pointer (some ⟨db, 0, none⟩), .int .i64 (k : Nat), .int .i64 (place : Nat), .int .u8 b.toNat] w fun e w' => (∃ v, e = .returned (.bool v)) ∧ DevStep db (if b = 0 then δ else δ.spoil k (spB (δ.now k) (place % 64) b)) F w w' := by
 have hk : k < δ.med.length := by have := mayE_zero hm; omega
 have HMY := Lib.hid (dmay_any h (k : Nat))
 rw [hm] at HMY
 have HI := Lib.hid h
 by_cases hb0 : b = 0
 ·rw [if_pos hb0]
  have q1 : ((b.toNat : Int) == 0) = true := by rw [hb0]; rfl
  have q2 : (b.toNat : Int) = 0 := by rw [hb0]; rfl
  clear h hm h64 hb0
  go_enter Tryz.func26, Tryz.ntmps26
  go_wp2_with fail
  refine HMY.out.mono ?_
  rintro e w1 ⟨rfl, hb1⟩
  have H1 := Lib.hid (HI.out.stay hb1)
  clear hb1
  go_wp2_with fail
  go_ret
  exact ⟨⟨_, rfl⟩, H1.out⟩
 ·rw [if_neg hb0]
  have hbn : (b.toNat : Int) ≠ 0 := fun e => hb0 (by
   apply UInt8.toNat_inj.1
   have : b.toNat = 0 := by omega
   rw [this]; rfl)
  have q1 : ((b.toNat : Int) == 0) = false := by simpa using hbn
  have q2 : ¬ (b.toNat : Int) = 0 := hbn
  obtain ⟨T, hT⟩ : ∃ T, T = δ.now k := ⟨_, rfl⟩
  rw [← hT] at h64 ⊢
  have HNW : Hid (∀ W, Below w.heap.size w W → Calls Tryz.prog 50 #[.pointer (some ⟨db, 0, none⟩), .int .i64 (k : Nat)] W fun e w' => e = .returned (.string ⟨T.toArray⟩) ∧ Below W.heap.size W w') := Lib.hid (fun W hW => by rw [hT]; exact dnow_any (h.below hW) k hk)
  obtain ⟨p, hpp⟩ : ∃ p, p = place % 64 := ⟨_, rfl⟩
  have hp64 : p < 64 := by omega
  rw [← hpp]
  have e1 : (place : Int).tmod 64 = (p : Nat) := by rw [Int.tmod_eq_emod_of_nonneg (by omega)]; omega
  have e2 : IntKind.i64.wrap (p : Int) = (p : Int) := IntWalk.i64_in _ (by omega)
  have e3 : IntKind.i64.wrap ((p : Int) + 64) = (p : Int) + 64 := IntWalk.i64_in _ (by omega)
  have e4 : ((p : Int) + 64).tmod 64 = (p : Nat) := by rw [Int.tmod_eq_emod_of_nonneg (by omega)]; omega
  have q3 : (p : Int) < 64 := by omega
  have H64 := Lib.hid h64
  have HKK := Lib.hid hk
  clear h hm hT hb0 hbn hpp h64
  go_enter Tryz.func26, Tryz.ntmps26
  go_wp2_with fail
  refine HMY.out.mono ?_
  rintro e w1 ⟨rfl, hb1⟩
  have HB1 := Lib.hid hb1
  clear hb1
  go_wp2_with fail
  refine (HNW.out w1 HB1.out).mono ?_
  rintro e w2 ⟨rfl, hb2⟩
  have hB2 : Below w.heap.size w w2 := HB1.out.trans (hb2.mono HB1.out.size)
  have hcv0 := run_bytes_of_string (P := Tryz.prog) w2 9 82 5 ⟨T.toArray⟩ Tryz.underlying9 Tryz.underlying82 Tryz.underlying5
  obtain ⟨cp, hcp⟩ : ∃ cp, cp = grownCap w2 (⟨T.toArray⟩ : ByteArray).size 0 5 := ⟨_, rfl⟩
  rw [← hcp] at hcv0
  obtain ⟨w3, hw3⟩ : ∃ w3, w3 = w2.drew.alloc (.cells (bytesRow ⟨T.toArray⟩ cp) 5 ((bytesRow ⟨T.toArray⟩ cp).size, (bytesRow ⟨T.toArray⟩ cp).size + 1)) := ⟨_, rfl⟩
  rw [← hw3, show (⟨T.toArray⟩ : ByteArray).size = 64 by show T.toArray.size = 64; simpa using H64.out] at hcv0
  clear hcp
  have hcell : ∀ j, j < 64 → w3.cell? ⟨w2.heap.size, j, none⟩ = some (.int .u8 ((T.getD j 0).toNat : Nat)) := fun j hj => by
   rw [hw3]
   have h9 := World.cell?_alloc_mark w2.drew (bytesRow ⟨T.toArray⟩ cp) 5 ((bytesRow ⟨T.toArray⟩ cp).size, (bytesRow ⟨T.toArray⟩ cp).size + 1) j
   have hTl := H64.out
   have h8 := bytesRow_at ⟨T.toArray⟩ cp j (by show j < T.toArray.size; simp; omega)
   rw [h8] at h9
   refine h9.trans ?_
   simp [List.getD_eq_getElem?_getD, show j < T.length by omega]
  have hfz : ∀ j, j < 64 → w3.frozen? ⟨w2.heap.size, j, none⟩ = false := fun j hj => by
   rw [hw3]
   have h9 := World.frozen?_alloc_mark w2.drew (bytesRow ⟨T.toArray⟩ cp) 5 (bytesRow ⟨T.toArray⟩ cp).size ((bytesRow ⟨T.toArray⟩ cp).size + 1) j
   refine h9.trans ?_
   have hsz : 64 ≤ (bytesRow ⟨T.toArray⟩ cp).size := by
    unfold bytesRow
    have hTl := H64.out
    simp
    omega
   rw [decide_eq_false (by omega), Bool.false_and]
  have hB3 : Below w.heap.size w w3 := by rw [hw3]; exact hB2.drew.alloc hB2.size _
  have hs3 : w2.heap.size < w3.heap.size := by rw [hw3]; simp
  have hs2 : w.heap.size ≤ w2.heap.size := hB2.size
  clear hw3
  obtain ⟨x, hxx⟩ : ∃ x, x = T.getD p 0 := ⟨_, rfl⟩
  have cb : w3.cell? ⟨w2.heap.size, p, none⟩ = some (.int .u8 (x.toNat : Nat)) := by rw [hxx]; exact hcell p hp64
  have fb := hfz p hp64
  obtain ⟨y, hy⟩ : ∃ y : Nat, y = (x ^^^ b).toNat := ⟨_, rfl⟩
  obtain ⟨w4, hw4⟩ : ∃ w4, w4 = w3.setCell ⟨w2.heap.size, p, none⟩ (.int .u8 (y : Nat)) := ⟨_, rfl⟩
  have hx : bits BinOp.xor IntKind.u8 (x.toNat : Int) (b.toNat : Int) = (y : Nat) := by rw [hy]; exact xor_u8 _ _
  have hB4 : Below w.heap.size w w4 := by rw [hw4]; exact hB3.setCell (by show w.heap.size ≤ w2.heap.size; exact hs2) _
  have hsp : (spB T p b).length = 64 := by unfold spB; rw [List.length_set]; exact H64.out
  have hcv4 : ∀ W : World, (∀ j, W.cell? ⟨w2.heap.size, j, none⟩ = w4.cell? ⟨w2.heap.size, j, none⟩) → (convert 82 9 (.slice (some ⟨w2.heap.size, 0, none⟩) 64 cp)).run Tryz.prog W = .ok (.string ⟨(spB T p b).toArray⟩) W := fun W hW => by
   have h9 := run_convert_bytes_back (P := Tryz.prog) W 82 9 5 ⟨w2.heap.size, 0, none⟩ cp (spB T p b) Tryz.underlying82 Tryz.underlying5 Tryz.underlying9 (fun j hj => by
    rw [show (⟨w2.heap.size, 0, none⟩ : Addr).add j = ⟨w2.heap.size, j, none⟩ from by unfold Addr.add; split <;> simp_all]
    rw [hW j, hw4, hy, hxx]
    by_cases hjp : j = p
    ·subst hjp
     rw [World.cell?_setCell_same _ _ _ (hcell j hp64)]
     have e9 : (spB T j b)[j] = T.getD j 0 ^^^ b := by unfold spB; simp
     rw [e9]
    ·rw [World.cell?_setCell_other _ _ _ _ (fun e => hjp (by simpa using e.symm)), hcell j (by omega)]
     have h8 : (spB T p b).getD j 0 = T.getD j 0 := by
      unfold spB
      rw [List.getD_eq_getElem?_getD, List.getElem?_set_ne (fun e => hjp e.symm), ← List.getD_eq_getElem?_getD]
     have e9 : (spB T p b)[j] = T.getD j 0 := by
      rw [← h8, List.getD_eq_getElem?_getD, List.getElem?_eq_getElem hj]
      rfl
     rw [e9])
   rw [hsp] at h9
   exact h9
  have HB4 := Lib.hid hB4
  have HCV := Lib.hid hcv4
  have HS2 := Lib.hid hs2
  have hI4 := HI.out.below hB4
  have HLT := Lib.hid (fun g (hg : F g) => HI.out.lt g hg)
  obtain ⟨vm, mb, c, hv, hF⟩ := hI4
  have d1 : w4.cell? ⟨db, 1, none⟩ = some (.map (some mb)) := hv.blk.cell 1
  have hlk := run_lookup_int (P := Tryz.prog) (t := 119) Tryz.underlying119 Tryz.underlying3 hv.map k (dzero w4)
  obtain ⟨sp, hsp2⟩ : ∃ sp, sp = spB T p b := ⟨_, rfl⟩
  have hfin0 : ∀ (e : Ending) (w' : World), DevStep db (δ.spoil k sp) F w w' → DevStep db (δ.spoil k (spB T p b)) F w w' := fun e w' h9 => by rw [← hsp2]; exact h9
  have HF0 := Lib.hid hfin0
  rw [← hsp2] at HCV
  cases hvc : vget c k with
  | none =>
   have hcn := hv.none_ k hvc
   rw [hvc] at hlk
   have HSPE : Hid (δ.spoil k sp = ⟨δ.med.set k sp, δ.cache, δ.lost, δ.fuse⟩) := Lib.hid (by unfold DevT.spoil; rw [if_pos hcn])
   obtain ⟨g, cap, rfl⟩ := own_form1 hv.med (by have := HKK.out; omega)
   have d0 : w4.cell? ⟨db, 0, none⟩ = some (.slice (some ⟨g, 0, none⟩) δ.med.length cap) := hv.blk.cell 0
   have hFg : F g := (hF g).2 (.inr (.inr (.inl rfl)))
   have HFIN : Hid (DevStep db (δ.spoil k sp) F w (w4.setCell ⟨g, k, none⟩ (.string ⟨sp.toArray⟩)).drew) := Lib.hid (by
    rw [HSPE.out]
    exact ⟨F, IsDev.below (w := w4.setCell ⟨g, k, none⟩ (.string ⟨sp.toArray⟩)) ⟨_, mb, c, hv.med_set (k := k) (s := sp) rfl, hF⟩ (Below.refl _ _).drew, ((Mod.below HB4.out).setCell (.inl hFg)).trans' (Below.refl _ _).drew, fun g hg => .inl hg⟩)
   have cg : w4.drew.cell? ⟨g, k, none⟩ = some (.string ⟨(δ.med.getD k []).toArray⟩) := own_str hv.med HKK.out
   have fg : w4.drew.frozen? ⟨g, k, none⟩ = false := hv.med.frozenAt k
   have q6 : (k : Int) < (δ.med.length : Int) := by have := HKK.out; omega
   have q7 : 0 ≤ (k : Int) := by omega
   have HFF := Lib.hid (HF0.out (.returned (.bool true)) _ HFIN.out)
   have HDB := Lib.hid hv.blk
   have hg2 : g ≠ w2.heap.size := by have := HLT.out g hFg; omega
   have d0' : w4.drew.cell? ⟨db, 0, none⟩ = some (.slice (some ⟨g, 0, none⟩) δ.med.length cap) := d0
   have hdg : db ≠ g := fun e => row_nblk hv.med hv.blk (by decide) (by rw [e]; rfl)
   have HS1 : Hid (((w4.setCell ⟨g, k, none⟩ (.string ⟨sp.toArray⟩)).drew.cell? ⟨db, 0, none⟩ = some (.slice (some ⟨g, 0, none⟩) δ.med.length cap)) ∧ (convert 82 9 (.slice (some ⟨w2.heap.size, 0, none⟩) 64 cp)).run Tryz.prog (w4.setCell ⟨g, k, none⟩ (.string ⟨sp.toArray⟩)).drew = .ok (.string ⟨sp.toArray⟩) (w4.setCell ⟨g, k, none⟩ (.string ⟨sp.toArray⟩)).drew) := Lib.hid ⟨by
    have h9 : (w4.setCell ⟨g, k, none⟩ (.string ⟨sp.toArray⟩)).drew.heap[db]? = w4.heap[db]? := Below.heap_setCell _ _ _ _ hdg
    rw [World.cell?_of_block (w := w4) h9]; exact d0, HCV.out _ (fun j => by
    have h9 : (w4.setCell ⟨g, k, none⟩ (.string ⟨sp.toArray⟩)).drew.heap[w2.heap.size]? = w4.heap[w2.heap.size]? := Below.heap_setCell _ _ _ _ (fun e => hg2 e.symm)
    exact World.cell?_of_block (w := w4) h9)⟩
   have HS0 : Hid (w4.drew.cell? ⟨db, 0, none⟩ = some (.slice (some ⟨g, 0, none⟩) δ.med.length cap) ∧ (convert 82 9 (.slice (some ⟨w2.heap.size, 0, none⟩) 64 cp)).run Tryz.prog w4.drew = .ok (.string ⟨sp.toArray⟩) w4.drew) := Lib.hid ⟨d0, HCV.out _ (fun j => rfl)⟩
   clear hxx hy hv hF hvc hcn hFg hcell hfz hsp hcv4 hsp2 hfin0 hB2 hB3 hB4 hs2 hs3 HFIN HSPE hg2 hdg d0'
   go_upto_region 5 with fail
   rw [← hw4]
   clear hw4 cb fb hcv0
   go_upto_region 8 with fail
   refine wp_region_held_drew (S := fun W => W.cell? ⟨db, 0, none⟩ = some (.slice (some ⟨g, 0, none⟩) δ.med.length cap) ∧ (convert 82 9 (.slice (some ⟨w2.heap.size, 0, none⟩) 64 cp)).run Tryz.prog W = .ok (.string ⟨sp.toArray⟩) W) (by kernel_rfl) HS0.out (fun hS0 => ?_)
   refine rtd 0 ?_; refine rtd 1 ?_; refine rtd 2 ?_; refine rtd 3 ?_; refine rtd 4 ?_; refine rtd 5 ?_; refine rtd 6 ?_; refine rtd 7 ?_
   refine rr1 (i := 8) (h := fun K hK => ?_)
   go_simp
   skip
   refine hK.out _ _ (HS1.out) (fun hSa8 => ?_)
   try simp only [Act.put, z1, z2, z3]
   refine wpAnyH_done (by kernel_rfl) ?_ _
   go_wp2_with fail
   go_ret
   exact ⟨⟨_, rfl⟩, HFF.out⟩
  | some v =>
   obtain ⟨hne, hrow⟩ := hv.some_ k v hvc
   have hpos : 0 < (δ.cache k).length := List.length_pos_iff.2 hne
   obtain ⟨g2, cap2, rfl⟩ := own_form1 hrow hpos
   obtain ⟨n, hn⟩ : ∃ n, (δ.cache k).length = n + 1 := ⟨(δ.cache k).length - 1, by omega⟩
   have hm2 := own_str hrow (j := n) (by omega)
   have hdep := hv.dep k
   have hFg : F g2 := (hF g2).2 (.inr (.inr (.inr ⟨k, _, hvc, rfl⟩)))
   have HSPE : Hid (δ.spoil k sp = ⟨δ.med, cput δ.cache k ((δ.cache k).dropLast ++ [sp]), δ.lost, δ.fuse⟩) := Lib.hid (by unfold DevT.spoil; rw [if_neg hne])
   rw [hvc, hn] at hlk
   rw [hn] at hvc
   have HFIN : Hid (DevStep db (δ.spoil k sp) F w (w4.setCell ⟨g2, n, none⟩ (.string ⟨sp.toArray⟩))) := Lib.hid (by
    rw [HSPE.out]
    exact ⟨F, ⟨vm, mb, c, hv.cache_set (s := sp) hvc hn, hF⟩, (Mod.below HB4.out).setCell (.inl hFg), fun g hg => .inl hg⟩)
   have HFF := Lib.hid (HF0.out (.returned (.bool true)) _ HFIN.out)
   have fg : w4.frozen? ⟨g2, n, none⟩ = false := hrow.frozenAt n
   have hcvd := HCV.out w4 (fun j => rfl)
   have q6 : (0 : Int) < ((n + 1 : Nat) : Int) := by omega
   have q8 : (n : Int) < ((n + 1 : Nat) : Int) := by omega
   have q9 : n ≤ 9223372036854775807 := by omega
   obtain ⟨old, hold⟩ : ∃ old, old = (δ.cache k).getD n [] := ⟨_, rfl⟩
   rw [← hold] at hm2
   clear hold hxx hy hv hF hvc hne hrow hpos hn hFg hcell hfz hsp hcv4 hsp2 hfin0 hB2 hB3 hB4 hs2 hs3 HFIN HSPE hdep
   go_upto_region 5 with fail
   rw [← hw4]
   clear hw4 cb fb hcv0
   go_wp2_with fail
   go_ret
   exact ⟨⟨_, rfl⟩, HFF.out⟩
end Go.Proofs.YtfaemcfjbbbbdaaGreat
namespace Go.Proofs.YtfaemcfjbbbbdaaGreat
open Go.RowKit
structure DiP (S : StoT) (p : PtrT) (t : Bs) : Prop where
 one : S.x.one
 fits : S.x.fits
 deep : S.x.deep 64
 wh : PWhole S.x p t
 hh : ∀ d, d < S.x.ds.length → S.x.here d = true
 fx : S.fixed = 0
theorem new_here {gs : Gs} {secs : Int} {sn : SN} {txg keep : Int} : ∀ d, d < (newSt gs secs [] [] sn txg keep).x.ds.length → (newSt gs secs [] [] sn txg keep).x.here d = true := fun d hd => by
 have hn := (devX_n gs secs [] [] (devsN gs)).1
 have h : (newSt gs secs [] [] sn txg keep).x = devX gs secs [] [] (devsN gs) := rfl
 rw [h] at hd ⊢
 rw [hn] at hd
 rw [devX_here hd]
 rfl
theorem di_put {S : StoT} (h : Bk S [] [] 0) (hh : ∀ d, d < S.x.ds.length → S.x.here d = true) (m : Bool) (t : Bs) (lv : Int) : (putR { S with mt := m } t lv).err ≠ 0 ∨ ((putR { S with mt := m } t lv).err = 0 ∧ DiP { (putR { S with mt := m } t lv).s with mt := S.mt } (putR { S with mt := m } t lv).p t ∧ (putR { S with mt := m } t lv).s.x.gs = S.x.gs ∧ (putR { S with mt := m } t lv).s.x.secs = S.x.secs) := by
 have hok2 : StOk { S with mt := m } (([] : List PtrT).flatMap (pstrs S.x.gs S.x.secs)) 0 := ⟨h.ok.one, h.ok.fits, h.ok.deep, h.ok.inv, h.ok.cov⟩
 rcases put_plain hok2 t lv with ⟨b1, _⟩ | ⟨b1, b2, b3, b4, b5, b6, b7, b8⟩
 ·exact .inl b1
 ·right
  refine ⟨b1, ⟨b2.one, b2.fits, ?_, b3, fun d hd => ?_, ?_⟩, b4.gs, b4.secs⟩
  ·have := b2.deep
   rw [Nat.zero_add] at this
   exact this
  ·show DvsT.here _ d = true
   rw [b4.here d]
   refine hh d ?_
   have := b4.n
   rw [← this]
   exact hd
  ·show (putR { S with mt := m } t lv).s.fixed = 0
   rw [b6.fixed]
   exact h.fx
end Go.Proofs.YtfaemcfjbbbbdaaGreat
namespace Go.Proofs.YtfaemcfjbbbbdaaGreat
open Go.RowKit
def spo (x : DvsT) (c : ColT) (pl : Nat) (b : UInt8) : DvsT := if b = 0 then x else spoilX x c pl b
theorem DvsT.set_self (x : DvsT) (d : Nat) : x.set d (x.ds.getD d dvD) = x := by
 unfold DvsT.set
 have e : x.ds.set d (x.ds.getD d dvD) = x.ds := by
  refine List.ext_getElem? fun i => ?_
  rw [List.getElem?_set]
  split
  ·rename_i h
   subst h
   split
   ·rename_i h
    rw [List.getD_eq_getElem?_getD, List.getElem?_eq_getElem h]
    rfl
   ·rename_i h
    rw [List.getElem?_eq_none (by omega)]
  ·rfl
 rw [e]
theorem spo_form (x : DvsT) (c : ColT) (pl : Nat) (b : UInt8) : (spo x c pl b).gs = x.gs ∧ (spo x c pl b).secs = x.secs ∧ (spo x c pl b).ds.length = x.ds.length := by
 unfold spo
 split
 ·exact ⟨rfl, rfl, rfl⟩
 ·exact ⟨rfl, rfl, by simp [spoilX, DvsT.set]⟩
theorem vspo_any {w : World} {x : DvsT} {V : DvV} {F : Nat → Prop} {c : ColT} (h : IsDvs w x V F) (hi : c.1 < x.ds.length) (place : Nat) (b : UInt8) (hm : (x.ds.getD c.1 dvD).mayE (colAt c) = 0) (h64 : ((x.ds.getD c.1 dvD).now c.2.1).length = 64) (hp : place ≤ 1000000) : ∃ bl cl db, V.l = .slice (some ⟨bl, 0, none⟩) x.ds.length cl ∧ w.cell? ⟨bl, c.1, none⟩ = some (.pointer (some ⟨db, 0, none⟩)) ∧ Calls Tryz.prog 26 #[.pointer (some ⟨db, 0, none⟩), .int .i64 (c.2.1 : Nat), .int .i64 (place : Nat), .int .u8 b.toNat] w fun e w' => (∃ v, e = .returned (.bool v)) ∧ DvsStep (spo x c place b) V F w w' := by
 obtain ⟨dbs, Fd, h, hF⟩ := h
 obtain ⟨bl, cl, eV, hc⟩ := h.lcell (by omega)
 refine ⟨bl, cl, dbs.getD c.1 0, eV, hc c.1 hi, (dspoil_any (h.dev c.1 hi) c.2.1 place b hm h64 hp).mono ?_⟩
 rintro e w' ⟨hv, hs⟩
 refine ⟨hv, ?_⟩
 have h9 := h.step hF hi hs
 unfold spo
 by_cases hb : b = 0
 ·rw [if_pos hb] at h9 ⊢
  rw [DvsT.set_self] at h9
  exact h9
 ·rw [if_neg hb] at h9 ⊢
  exact h9
theorem sspo_any {w : World} {sb : Nat} {S : StoT} {V : DvV} {bb : Nat} {dn : Option Nat} {T : Nat → Prop} (h : IsSto w sb S V bb dn T) {c : ColT} (hi : c.1 < S.x.ds.length) (place : Nat) (b : UInt8) (hm : (S.x.ds.getD c.1 dvD).mayE (colAt c) = 0) (h64 : ((S.x.ds.getD c.1 dvD).now c.2.1).length = 64) (hp : place ≤ 1000000) : ∃ bl cl db, V.l = .slice (some ⟨bl, 0, none⟩) S.x.ds.length cl ∧ w.cell? ⟨bl, c.1, none⟩ = some (.pointer (some ⟨db, 0, none⟩)) ∧ Calls Tryz.prog 26 #[.pointer (some ⟨db, 0, none⟩), .int .i64 (c.2.1 : Nat), .int .i64 (place : Nat), .int .u8 b.toNat] w fun e w' => (∃ v, e = .returned (.bool v)) ∧ StoStep { S with x := spo S.x c place b } V sb bb dn T w w' := by
 obtain ⟨F, hd, _, hst⟩ := h.dvs
 obtain ⟨bl, cl, db, e1, e2, e3⟩ := vspo_any hd hi place b hm h64 hp
 exact ⟨bl, cl, db, e1, e2, e3.mono (fun e w' hh => ⟨hh.1, (hst _ _ hh.2 (spo_form _ _ _ _).1 (spo_form _ _ _ _).2.1).1⟩)⟩
structure SpP (S : StoT) (p : PtrT) (t : Bs) : Prop where
 di : DiP S p t
 full : S.x.full
theorem sp_put {S : StoT} (h : Bk S [] [] 0) (hh : ∀ d, d < S.x.ds.length → S.x.here d = true) (hf : S.x.full) (m : Bool) (t : Bs) (lv : Int) : (putR { S with mt := m } t lv).err ≠ 0 ∨ ((putR { S with mt := m } t lv).err = 0 ∧ SpP { (putR { S with mt := m } t lv).s with mt := S.mt } (putR { S with mt := m } t lv).p t ∧ (putR { S with mt := m } t lv).s.x.gs = S.x.gs ∧ (putR { S with mt := m } t lv).s.x.secs = S.x.secs) := by
 rcases di_put h hh m t lv with a | ⟨a1, a2, a3⟩
 ·exact .inl a
 ·exact .inr ⟨a1, ⟨a2, putR_full (S := { S with mt := m }) hf t lv⟩, a3⟩
theorem SpP.sec {S : StoT} {p : PtrT} {t : Bs} (h : SpP S p t) {c : ColT} (hc : c.1 < S.x.ds.length) (hk : c.2.1 < 24) : c.2.1 < (S.x.ds.getD c.1 dvD).med.length ∧ (S.x.ds.getD c.1 dvD).mayE (colAt c) = 0 ∧ ((S.x.ds.getD c.1 dvD).now c.2.1).length = 64 := by
 have hrs := right_spec h.di.one.right
 have h24 := (rightB_spec hrs.1).2.2.1
 have hm := hrs.2.2.2 _ hc
 have h1 : c.2.1 < (S.x.ds.getD c.1 dvD).med.length := by omega
 refine ⟨h1, ?_, h.full _ _ hc h1⟩
 have hh := h.di.hh _ hc
 unfold DvsT.here at hh
 simp only [Bool.and_eq_true, Bool.not_eq_true'] at hh
 unfold DevT.mayE colAt
 rw [if_neg (by rw [hh.2]; decide), if_neg (by omega)]
theorem sp_get {W : World} {sb : Nat} {S : StoT} {V : DvV} {bb : Nat} {dn : Option Nat} {T : Nat → Prop} {p : PtrT} {t : Bs} (hd : SpP S p t) (hwide : ∀ g, g < S.x.gs.length → 2 ≤ (S.x.gs.getD g (0, 0)).2) {c : ColT} (hc : c.1 < S.x.ds.length) (hk : c.2.1 < 24) (pl : Nat) (b : UInt8) (h : IsSto W sb { S with x := spo S.x c pl b } V bb dn T) :
  ∃ n z, n ≤ 1 ∧ Calls Tryz.prog 13 #[.pointer (some ⟨sb, 0, none⟩), .agg (encPtr p).toArray] W (fun e w' => e = .returned (.tuple #[.string ⟨t.toArray⟩, .int .i64 0]) ∧ ∃ dn', StoStep { S with x := z, fixed := n } V sb bb dn' T W w') ∧
   ∀ W' dn' T', IsSto W' sb { S with x := z, fixed := n } V bb dn' T' → Calls Tryz.prog 13 #[.pointer (some ⟨sb, 0, none⟩), .agg (encPtr p).toArray] W' (fun e w' => e = .returned (.tuple #[.string ⟨t.toArray⟩, .int .i64 0]) ∧ ∃ dn'', StoStep { S with x := z, fixed := n } V sb bb dn'' T' W' w') := by
 have hp := hd.di.wh
 have hr := hd.di.one.right
 have hsec := hd.sec hc hk
 have key : ∃ d n z d', Kept S.x (spo S.x c pl b) ∧ (spo S.x c pl b).deep 64 ∧ lookX (spo S.x c pl b) p = some (0, d, t) ∧ mendedL t ((plL p).take 1) (spo S.x c pl b) 0 = (n, z) ∧ n ≤ 1 ∧ Kept (spo S.x c pl b) z ∧ lookX z p = some (0, d', t) ∧ mendedL t ((plL p).take 1) z 0 = (0, z) := by
  unfold spo
  by_cases hb : b = 0
  ·rw [if_pos hb]
   obtain ⟨d, hl⟩ := hp.look hd.di.one
   have hm := hp.mended hr 1 0
   exact ⟨d, 0, S.x, d, Kept.refl _, hd.di.deep, hl, hm, by omega, Kept.refl _, hl, hm⟩
  ·rw [if_neg hb]
   obtain ⟨k1, k2, _⟩ := spoilX_kept hc hsec.1 pl b
   obtain ⟨d, n, z, d', h1, h2, h3, h4, h5, h6⟩ := spoilt_get hd.di.one hd.di.hh hwide hp hc hsec.1 pl b
   exact ⟨d, n, z, d', k1, k2 _ hd.di.deep, h1, h2, h3, h4, h5, h6⟩
 obtain ⟨d, n, z, d', k1, k2, h1, h2, h3, h4, h5, h6⟩ := key
 generalize spo S.x c pl b = y at *
 have hyr := k1.right hr
 have hmay : ∀ q ∈ (plL p).take 1, mayC y.gs y.secs ((q.1.toNat : Nat) : Int) ((q.2.toNat : Nat) : Int) ((t.length / 64 : Nat) : Int) = true := fun q hq => by
  rw [k1.gs, k1.secs]
  exact hp.may q (List.mem_of_mem_take hq)
 obtain ⟨m1, m2, m3⟩ := mended_kept hp.blk ((plL p).take 1) y 0 64 hyr k2 hmay
 have hl1 : ((plL p).take 1).length ≤ 1 := by rw [List.length_take]; omega
 rw [h2] at m2
 have hz : z.deep 96 := fun i k => Nat.le_trans (m2 i k) (by omega)
 have hpl : 0 + 1 ≤ (plL p).length := by rw [plL_len]; split <;> omega
 have hpr := hp.right
 have g1 := get_yes h p hyr hp.ok (by rw [show ({ S with x := y } : StoT).x.gs = S.x.gs from k1.gs, show ({ S with x := y } : StoT).x.secs = S.x.secs from k1.secs]; exact hpr) (k1.fit hd.di.fits) h1 hp.blk hp.size hpl 64 k2 (by omega) (by show S.fixed ≤ _; rw [hd.di.fx]; omega) (by show (mendedL t ((plL p).take 1) y 0).1 ≤ _; rw [h2]; omega) (by show Kept y (mendedL t ((plL p).take 1) y 0).2; rw [h2]; exact h4)
 have e1 : ({ ({ S with x := y } : StoT) with x := (mendedL t ((plL p).take (0 + 1)) y 0).2, fixed := S.fixed + (mendedL t ((plL p).take (0 + 1)) y 0).1 } : StoT) = { S with x := z, fixed := n } := by
  show ({ ({ S with x := y } : StoT) with x := (mendedL t ((plL p).take 1) y 0).2, fixed := S.fixed + (mendedL t ((plL p).take 1) y 0).1 } : StoT) = _
  rw [h2, hd.di.fx, Nat.zero_add]
 refine ⟨n, z, h3, g1.mono (fun e w' hh => ⟨hh.1, hh.2.imp fun dn' h8 => ?_⟩), fun W' dn' T' hW => ?_⟩
 ·rw [← e1]; exact h8.2
 ·have kz := k1.trans h4
  have g2 := get_yes hW p (kz.right hr) hp.ok (by rw [show ({ S with x := z, fixed := n } : StoT).x.gs = S.x.gs from kz.gs, show ({ S with x := z, fixed := n } : StoT).x.secs = S.x.secs from kz.secs]; exact hpr) (kz.fit hd.di.fits) h5 hp.blk hp.size hpl 96 hz (by omega) (by show n ≤ _; omega) (by show (mendedL t ((plL p).take 1) z 0).1 ≤ _; rw [h6]; omega) (by show Kept z (mendedL t ((plL p).take 1) z 0).2; rw [h6]; exact Kept.refl z)
  have e2 : ({ ({ S with x := z, fixed := n } : StoT) with x := (mendedL t ((plL p).take (0 + 1)) z 0).2, fixed := n + (mendedL t ((plL p).take (0 + 1)) z 0).1 } : StoT) = { S with x := z, fixed := n } := by
   show ({ ({ S with x := z, fixed := n } : StoT) with x := (mendedL t ((plL p).take 1) z 0).2, fixed := n + (mendedL t ((plL p).take 1) z 0).1 } : StoT) = _
   rw [h6, Nat.add_zero]
  refine g2.mono (fun e w' hh => ⟨hh.1, hh.2.imp fun dn'' h8 => ?_⟩)
  rw [← e2]
  exact h8.2
end Go.Proofs.YtfaemcfjbbbbdaaGreat
namespace Go.Proofs.YtfaemcfjbbbbdaaGreat
open Go.RowKit
attribute [local go_sem ↓] Go.wp_at_zero Go.wp_at_succ
set_option maxRecDepth 100000 in
set_option maxHeartbeats 1000000 in
theorem refright_any (ao : Option Addr) (n cap : Nat) (gs : Gs) (secs : Int) (w : World) (h : GSl w ao n cap gs) :
  Calls Tryz.prog 9 #[.agg #[.slice ao n cap, .int .i64 secs]] w fun e w' => e = .returned (.bool (rightB gs secs)) ∧ Below w.heap.size w w' := by
 have hl := h.len
 have hmx := h.mx
 have hb0 : Below w.heap.size w (w.alloc (.cells #[.slice ao n cap, .int .i64 secs] 24)) := (Below.refl _ _).alloc (Nat.le_refl _) _
 by_cases hbad : n < 1 ∨ 4 < n ∨ secs < 24 ∨ 4096 < secs
 ·have HR : Hid (rightB gs secs = false) := Lib.hid (by unfold rightB; rw [hl, decide_eq_false (by omega)]; rfl)
  have HB0 := Lib.hid hb0
  clear hb0 h hl
  by_cases h1 : n < 1
  ·have q1 : (n : Int) < 1 := by omega
   go_enter Tryz.func9, Tryz.ntmps9
   go_wp2_with fail
   go_ret
   exact ⟨ret_bool HR.out.symm, HB0.out⟩
  ·have q1 : ¬ (n : Int) < 1 := by omega
   by_cases h2 : 4 < n
   ·have q2 : (4 : Int) < (n : Int) := by omega
    go_enter Tryz.func9, Tryz.ntmps9
    go_wp2_with fail
    go_ret
    exact ⟨ret_bool HR.out.symm, HB0.out⟩
   ·have q2 : ¬ (4 : Int) < (n : Int) := by omega
    by_cases h3 : secs < 24
    ·go_enter Tryz.func9, Tryz.ntmps9
     go_wp2_with fail
     go_ret
     exact ⟨ret_bool HR.out.symm, HB0.out⟩
    ·have h4 : 4096 < secs := by omega
     go_enter Tryz.func9, Tryz.ntmps9
     go_wp2_with fail
     go_ret
     exact ⟨ret_bool HR.out.symm, HB0.out⟩
 ·have hn1 : 1 ≤ n := by omega
  have hn4 : n ≤ 4 := by omega
  have hs1 : 24 ≤ secs := by omega
  have hs2 : secs ≤ 4096 := by omega
  have q1 : ¬ (n : Int) < 1 := by omega
  have q2 : ¬ (4 : Int) < (n : Int) := by omega
  have HRG : Hid (rightB gs secs = gsOk gs) := Lib.hid (by unfold rightB; rw [hl, decide_eq_true (by omega)]; rfl)
  have HNO : Hid (∀ j, j < n → oneB (gs.getD j (0, 0)).1 (gs.getD j (0, 0)).2 = false → rightB gs secs = false) := Lib.hid (fun j hj hf => by
   rw [HRG.out]
   unfold gsOk
   rw [List.all_eq_false]
   refine ⟨gs.getD j (0, 0), ?_, by rw [hf]; decide⟩
   rw [List.getD_eq_getElem?_getD, List.getElem?_eq_getElem (by omega)]
   exact List.getElem_mem _)
  have HOK : Hid ((∀ j, j < n → oneB (gs.getD j (0, 0)).1 (gs.getD j (0, 0)).2 = true) → rightB gs secs = true) := Lib.hid (fun ha => by
   rw [HRG.out]
   unfold gsOk
   rw [List.all_eq_true]
   intro q hq
   obtain ⟨j, hj, rfl⟩ := List.getElem_of_mem hq
   have := ha j (by omega)
   rwa [List.getD_eq_getElem?_getD, List.getElem?_eq_getElem hj] at this)
  have HH := Lib.hid h
  have HB0 := Lib.hid hb0
  have HX0 : Hid (Blk (w.alloc (.cells #[.slice ao n cap, .int .i64 secs] 24)) w.heap.size 24 [.slice ao n cap, .int .i64 secs]) := Lib.hid (Blk.new w _ [.slice ao n cap, .int .i64 secs])
  clear h hl hb0 hbad hmx
  go_enter Tryz.func9, Tryz.ntmps9
  go_wp2_with fail
  go_loopw [3] (fun v wr => ∃ k : Nat, v = .int .i64 (k : Nat) ∧ k ≤ n ∧ Hid (∀ j, j < k → oneB (gs.getD j (0, 0)).1 (gs.getD j (0, 0)).2 = true) ∧ Hid (Below (w.alloc (.cells #[.slice ao n cap, .int .i64 secs] 24)).heap.size (w.alloc (.cells #[.slice ao n cap, .int .i64 secs] 24)) wr)) (fun v _ => n - (intOf v).toNat)
  case atStart => exact ⟨0, rfl, Nat.zero_le _, Lib.hid (fun j hj => by omega), Lib.hid (Below.refl _ _)⟩
  case round =>
   obtain ⟨k, rfl, hkn, HA, HBR⟩ := hrel
   have g0 : wr.cell? ⟨w.heap.size, 0, none⟩ = some (.slice ao n cap) := (HX0.out.below HBR.out).cell 0
   have HBW0 := Lib.hid (HB0.out.trans (HBR.out.mono HB0.out.size))
   by_cases h1 : k < n
   ·have q3 : (k : Int) < (n : Int) := by omega
    have q4 : 0 ≤ (k : Int) := by omega
    obtain ⟨b, off, rfl, hb, hc⟩ := (GSl.below (GSl.below HH.out HB0.out) HBR.out).at_ (by omega)
    obtain ⟨c0, c1⟩ := hc k h1
    have HBD := Lib.hid (HNO.out k h1)
    obtain ⟨⟨kd, wd⟩, hq⟩ : ∃ q : Int × Int, q = gs.getD k (0, 0) := ⟨_, rfl⟩
    rw [← hq] at c0 c1
    have HQ := Lib.hid hq
    dsimp only at c0 c1
    have hbA : Below wr.heap.size wr (wr.alloc (.cells #[.int .i64 kd, .int .i64 wd] 31)) := (Below.refl _ _).alloc (Nat.le_refl _) _
    have HBB := Lib.hid (HBR.out.trans (hbA.mono HBR.out.size))
    have HBW := Lib.hid (HBW0.out.trans (hbA.mono HBW0.out.size))
    clear hc hq hbA hb
    by_cases hk0 : kd = 0
    ·subst hk0
     by_cases hw : wd < 1
     ·have HV := Lib.hid (HBD.out (by rw [← HQ.out]; unfold oneB; exact decide_eq_false (by omega)))
      go_wp2_with fail
      go_ret
      exact ⟨ret_bool HV.out.symm, HBW.out⟩
     ·by_cases hw2 : 8 < wd
      ·have HV := Lib.hid (HBD.out (by rw [← HQ.out]; unfold oneB; exact decide_eq_false (by omega)))
       go_wp2_with fail
       go_ret
       exact ⟨ret_bool HV.out.symm, HBW.out⟩
      ·have HA2 : Hid (∀ j, j < k + 1 → oneB (gs.getD j (0, 0)).1 (gs.getD j (0, 0)).2 = true) := Lib.hid (fun j hj => by
        by_cases e : j = k
        ·rw [e, ← HQ.out]
         unfold oneB
         exact decide_eq_true (by omega)
        ·exact HA.out j (by omega))
       go_wp2_with fail
       go_roundw
       case rel => exact ⟨k + 1, by go_num, by omega, HA2, HBB⟩
       case measure => simp [intOf]; omega
    ·by_cases hk1 : kd = 1
     ·subst hk1
      by_cases hw : wd < 3
      ·have HV := Lib.hid (HBD.out (by rw [← HQ.out]; unfold oneB; exact decide_eq_false (by omega)))
       go_wp2_with fail
       go_ret
       exact ⟨ret_bool HV.out.symm, HBW.out⟩
      ·by_cases hw2 : 8 < wd
       ·have HV := Lib.hid (HBD.out (by rw [← HQ.out]; unfold oneB; exact decide_eq_false (by omega)))
        go_wp2_with fail
        go_ret
        exact ⟨ret_bool HV.out.symm, HBW.out⟩
       ·have HA2 : Hid (∀ j, j < k + 1 → oneB (gs.getD j (0, 0)).1 (gs.getD j (0, 0)).2 = true) := Lib.hid (fun j hj => by
         by_cases e : j = k
         ·rw [e, ← HQ.out]
          unfold oneB
          exact decide_eq_true (by omega)
         ·exact HA.out j (by omega))
        go_wp2_with fail
        go_roundw
        case rel => exact ⟨k + 1, by go_num, by omega, HA2, HBB⟩
        case measure => simp [intOf]; omega
     ·have r0 : (kd == 0) = false := by simpa using hk0
      have r1 : (kd != 0) = true := by simpa using hk0
      have r2 : decide (kd = 0) = false := decide_eq_false hk0
      have s0 : (kd == 1) = false := by simpa using hk1
      have s1 : (kd != 1) = true := by simpa using hk1
      have s2 : decide (kd = 1) = false := decide_eq_false hk1
      have HV := Lib.hid (HBD.out (by rw [← HQ.out]; unfold oneB; exact decide_eq_false (by omega)))
      go_wp2_with fail
      go_ret
      exact ⟨ret_bool HV.out.symm, HBW.out⟩
   ·have q3 : ¬ (k : Int) < (n : Int) := by omega
    obtain rfl : k = n := by omega
    have HV := Lib.hid (HOK.out HA.out)
    go_wp2_with fail
    go_ret
    exact ⟨ret_bool HV.out.symm, HBW0.out⟩
end Go.Proofs.YtfaemcfjbbbbdaaGreat
namespace Go.Proofs.YtfaemcfjbbbbdaaGreat
open Go.RowKit
attribute [local go_sem ↓] wp_loadPt wp_storePt
set_option maxHeartbeats 3200000 in
set_option maxRecDepth 100000 in
theorem spoilt_law (ga : Option Addr) (n gc : Nat) (gs : Gs) (secs : Int) (w : World) (h : GSl w ga n gc gs) (s : Bs) (lv : Int) (bm : Bool) (dv atn pl : Nat) (hdv : dv ≤ 255) (hat : atn ≤ 255) (hpl : pl ≤ 255) (b : UInt8) :
  Calls Tryz.prog 6 #[.agg #[.slice ga n gc, .int .i64 secs], .agg #[.string ⟨s.toArray⟩, .int .i64 lv, .bool bm], .int .u8 (dv : Nat), .int .u8 (atn : Nat), .int .u8 (pl : Nat), .int .u8 b.toNat] w fun e w' => e = .returned (.bool true) ∧ Below w.heap.size w w' := by
 have hl := h.len
 have hnmx : n ≤ maxLen := h.mx
 obtain ⟨w0, hw0⟩ : ∃ w0, w0 = (w.alloc (.cells #[.slice ga n gc, .int .i64 secs] 24)).alloc (.cells #[.string ⟨s.toArray⟩, .int .i64 lv, .bool bm] 54) := ⟨_, rfl⟩
 have hb0 : Below w.heap.size w w0 := by rw [hw0]; exact ((Below.refl _ _).alloc (Nat.le_refl _) _).alloc (by simp) _
 obtain ⟨kb, hkb⟩ : ∃ kb, kb = w.heap.size + 1 := ⟨_, rfl⟩
 have hg0 : Blk w0 w.heap.size 24 [.slice ga n gc, .int .i64 secs] := by rw [hw0]; exact (Blk.new w _ _).alloc _
 have hk0 : Blk w0 kb 54 [.string ⟨s.toArray⟩, .int .i64 lv, .bool bm] := by rw [hw0]; exact Blk.newAt _ _ (by rw [hkb]; simp)
 have hs0 : w0.heap.size = w.heap.size + 2 := by rw [hw0]; simp
 have HFIN : Hid (∀ W, Below w0.heap.size w0 W → Below w.heap.size w W) := Lib.hid (fun W hW => hb0.trans (hW.mono (by omega)))
 have HGEO : Hid (∀ W, Below w0.heap.size w0 W → W.cell? ⟨w.heap.size, 0, none⟩ = some (.slice ga n gc) ∧ W.cell? ⟨w.heap.size, 1, none⟩ = some (.int .i64 secs)) := Lib.hid (fun W hW => ⟨(hg0.below hW).cell 0, (hg0.below hW).cell 1⟩)
 have HBC : Hid (∀ W, Below w0.heap.size w0 W → W.cell? ⟨kb, 0, none⟩ = some (.string ⟨s.toArray⟩) ∧ W.cell? ⟨kb, 1, none⟩ = some (.int .i64 lv) ∧ W.cell? ⟨kb, 2, none⟩ = some (.bool bm)) := Lib.hid (fun W hW => ⟨(hk0.below hW).cell 0, (hk0.below hW).cell 1, (hk0.below hW).cell 2⟩)
 have HAW := Lib.hid awake15_any
 have HFEW : Hid (∀ W g, Blk W g 54 [.string ⟨s.toArray⟩, .int .i64 lv, .bool bm] → Calls Tryz.prog 8 #[.slice (some ⟨g, 0, none⟩) 1 1] W fun e w' => e = .returned (.bool (fewS [⟨s, lv, bm⟩])) ∧ w' = W) := Lib.hid (fun W g hW => few15_any _ 1 1 [⟨s, lv, bm⟩] W (rsl_of_owns (blk_owns (base := 0) (n := 1) (cap := 1) (size := 3) hW (Nat.zero_le _) (Nat.le_refl _) (by unfold maxLen; omega) rfl)) (by omega))
 have HRR : Hid (∀ W, Below w0.heap.size w0 W → Calls Tryz.prog 9 #[.agg #[.slice ga n gc, .int .i64 secs]] W fun e w' => e = .returned (.bool (rightB gs secs)) ∧ Below W.heap.size W w') := Lib.hid (fun W hW => refright_any _ _ _ gs secs W (h.below (hb0.trans (hW.mono (by omega)))))
 have HMN : Hid (devOk gs secs = false → ∀ W, Below w0.heap.size w0 W → Calls Tryz.prog 10 #[.agg #[.slice ga n gc, .int .i64 secs], .slice none 0 0, .slice none 0 0, .int .i64 2, .int .i64 0] W fun e w' => e = .returned (.tuple #[.pointer none, .bool false]) ∧ Below W.heap.size W w') := Lib.hid (fun hok W hW => made_no _ _ gc gs secs W (h.below (hb0.trans (hW.mono (by omega)))) _ _ 2 0 hok (by unfold maxLen at hnmx; omega))
 have HMY : Hid (devOk gs secs = true → ∀ W, Below w0.heap.size w0 W → Calls Tryz.prog 10 #[.agg #[.slice ga n gc, .int .i64 secs], .slice none 0 0, .slice none 0 0, .int .i64 2, .int .i64 0] W fun e w' => ∃ sb bb V T S, e = .returned (.tuple #[.pointer (some ⟨sb, 0, none⟩), .bool true]) ∧ IsSto w' sb S V bb none T ∧ Bk S [] [] 0 ∧ (S.x.gs = gs ∧ S.x.secs = secs ∧ (∀ d, d < S.x.ds.length → S.x.here d = true) ∧ S.x.full) ∧ (∀ g, T g → W.heap.size ≤ g) ∧ Below W.heap.size W w') := Lib.hid (fun hok W hW => (made_yes _ _ gc gs secs W (h.below (hb0.trans (hW.mono (by omega)))) none 0 0 [] (bsl_nil _) none 0 0 [] (bsl_nil _) 2 0 hok).mono (fun e w' hh => by
  obtain ⟨sb, bb, V, T, sn, r1, r2, r3, r4, r5, r6⟩ := hh
  have hr : rightB gs secs = true := by unfold devOk at hok; rw [Bool.and_eq_true] at hok; exact hok.1
  exact ⟨sb, bb, V, T, _, r1, r2, ⟨newSt_ok hr (out_nil gs) r3 r4, rfl, rfl, (fun i hi => absurd hi (by simp)), rfl, rfl⟩, ⟨rfl, rfl, new_here, new_full⟩, r5, r6⟩))
 have HG : Hid (∀ W, Below w0.heap.size w0 W → GSl W ga n gc gs) := Lib.hid (fun W hW => h.below (hb0.trans (hW.mono (by omega))))
 have HK0 := Lib.hid hk0
 have HL := Lib.hid hl
 have HKB := Lib.hid hkb
 obtain ⟨fw, hfw⟩ : ∃ fw, fw = fewS [⟨s, lv, bm⟩] := ⟨_, rfl⟩
 obtain ⟨rt, hrt⟩ : ∃ rt, rt = rightB gs secs := ⟨_, rfl⟩
 obtain ⟨dk, hdk⟩ : ∃ dk, dk = devOk gs secs := ⟨_, rfl⟩
 rw [← hfw] at HFEW
 rw [← hrt] at HRR
 rw [← hdk] at HMN HMY
 have HFW := Lib.hid hfw
 have HRT := Lib.hid hrt
 have HB0 : Hid (Below w0.heap.size w0 w0) := Lib.hid (Below.refl _ _)
 clear h hb0 hg0 hk0 hs0 hnmx hdk hl hfw hrt
 go_enter Tryz.func6, Tryz.ntmps6
 go_upto_region 1 with fail
 rw [← hw0, ← hkb]
 clear hw0 hkb
 go_upto_region 1 with fail
 go_wp2_with fail
 refine (HAW.out w0).mono ?_
 rintro e w1 ⟨rfl, hb1⟩
 have HB1 : Hid (Below w0.heap.size w0 w1) := Lib.hid hb1
 clear hb1 HB0
 obtain ⟨k0, k1, k2⟩ := HBC.out w1 HB1.out
 go_wp2_with fail
 have hw2 : Below w0.heap.size w0 (w1.alloc (.cells #[.string ⟨s.toArray⟩, .int .i64 lv, .bool bm] 54)) := HB1.out.alloc HB1.out.size _
 have hk2 : Blk (w1.alloc (.cells #[.string ⟨s.toArray⟩, .int .i64 lv, .bool bm] 54)) w1.heap.size 54 [.string ⟨s.toArray⟩, .int .i64 lv, .bool bm] := Blk.new w1 _ _
 obtain ⟨w2, hw2e⟩ : ∃ w2, w2 = w1.alloc (.cells #[.string ⟨s.toArray⟩, .int .i64 lv, .bool bm] 54) := ⟨_, rfl⟩
 rw [← hw2e] at hw2 hk2 ⊢
 have HB2 := Lib.hid hw2
 have HK2 := Lib.hid hk2
 clear hw2 hk2 hw2e k0 k1 k2 HB1
 cases fw with
 | false =>
  refine (HFEW.out w2 _ HK2.out).mono ?_
  rintro e w3 ⟨rfl, hw3⟩
  subst hw3
  go_wp2_with fail
  refine (HAW.out w3).mono ?_
  rintro e w4 ⟨rfl, hb4⟩
  have HB4 := Lib.hid (HB2.out.trans (hb4.mono HB2.out.size))
  clear hb4
  go_wp2_with fail
  go_ret
  exact ⟨rfl, HFIN.out _ HB4.out⟩
 | true =>
  refine (HFEW.out w2 _ HK2.out).mono ?_
  rintro e w3 ⟨rfl, hw3⟩
  subst hw3
  obtain ⟨c0, c1⟩ := HGEO.out w3 HB2.out
  go_wp2_with fail
  refine (HRR.out w3 HB2.out).mono ?_
  rintro e w4 ⟨rfl, hb4⟩
  have HB4 := Lib.hid (HB2.out.trans (hb4.mono HB2.out.size))
  clear hb4 HB2 HK2 c0 c1
  cases rt with
  | false =>
   go_wp2_with fail
   refine (HAW.out w4).mono ?_
   rintro e w5 ⟨rfl, hb5⟩
   have HB5 := Lib.hid (HB4.out.trans (hb5.mono HB4.out.size))
   clear hb5
   go_wp2_with fail
   go_ret
   exact ⟨rfl, HFIN.out _ HB5.out⟩
  | true =>
   have hn4 : n ≤ 4 ∧ 1 ≤ n := by have := rightB_spec HRT.out.symm; have := HL.out; omega
   obtain ⟨gb, go_, rfl⟩ : ∃ gb go_, ga = some ⟨gb, go_, none⟩ := by
    obtain ⟨b, off, e, _, _⟩ := (HG.out w4 HB4.out).2.2.2.2 (by omega)
    exact ⟨b, off, e⟩
   obtain ⟨c0, c1⟩ := HGEO.out w4 HB4.out
   go_wp2_with fail
   go_loopw [13] (fun vi wr => ∃ k : Nat, k ≤ n ∧ vi = .int .i64 (k : Nat) ∧ Hid (∀ g, g < k → 2 ≤ (gs.getD g (0, 0)).2) ∧ Hid (wr = w4)) (fun vi _ => n - (intOf vi).toNat)
   case atStart => exact ⟨0, by omega, rfl, Lib.hid (fun g hg => absurd hg (by omega)), Lib.hid rfl⟩
   case round =>
    obtain ⟨k, hk, rfl, HW2, HWE⟩ := hrel
    have hwe := HWE.out
    subst hwe
    clear HWE
    by_cases hkn : k < n
    ·have q1 : (k : Int) < (n : Int) := by omega
     have q0 : 0 ≤ (k : Int) := by omega
     have hkg : k < gs.length := by have := HL.out; omega
     have hgk := getD_right HRT.out.symm hkg
     obtain ⟨wd, hwd⟩ : ∃ wd, wd = (gs.getD k (0, 0)).2.toNat := ⟨_, rfl⟩
     have hwd2 : (gs.getD k (0, 0)).2 = (wd : Nat) := by omega
     have hcel : wr.cell? ⟨gb, go_ + k * 2 + 1, none⟩ = some (.int .i64 (wd : Nat)) := by
      obtain ⟨b, off, e, hb, hc⟩ := (HG.out wr HB4.out).2.2.2.2 (by omega)
      simp only [Option.some.injEq, Addr.mk.injEq, and_true] at e
      obtain ⟨rfl, rfl⟩ := e
      rw [Nat.add_assoc, hc _ (by omega), ← hwd2]
      exact (encG_get gs k hkg).2
     have HWD := Lib.hid hwd2
     have hw8 : 1 ≤ wd ∧ wd ≤ 8 := by omega
     clear hwd hwd2 hgk hkg
     by_cases hw2 : wd < 2
     ·have q2 : (wd : Int) < 2 := by omega
      go_wp2_with fail
      go_ret
      exact ⟨rfl, HFIN.out _ HB4.out⟩
     ·have q2 : ¬ (wd : Int) < 2 := by omega
      go_wp2_with fail
      go_roundw
      case rel =>
       refine ⟨k + 1, by omega, by go_num, Lib.hid (fun g hg => ?_), Lib.hid (by first | trivial | rfl)⟩
       rcases Nat.lt_or_ge g k with h9 | h9
       ·exact HW2.out g h9
       ·have e9 : g = k := by omega
        subst e9
        rw [HWD.out]; omega
      case measure => simp [intOf]; omega
    ·have hkn' : k = n := by omega
     subst hkn'
     have q1 : ¬ (k : Int) < (k : Int) := by omega
     have HWI : Hid (∀ g, g < gs.length → 2 ≤ (gs.getD g (0, 0)).2) := Lib.hid (by rw [HL.out]; exact HW2.out)
     clear HW2
     cases dk with
     | false =>
      go_wp2_with fail
      refine (HMN.out (by first | trivial | rfl) wr HB4.out).mono ?_
      rintro e w6 ⟨rfl, hb6⟩
      have HB6 := Lib.hid (HB4.out.trans (hb6.mono HB4.out.size))
      clear hb6
      go_wp2_with fail
      go_ret
      exact ⟨rfl, HFIN.out _ HB6.out⟩
     | true =>
      go_wp2_with fail
      refine (HMY.out (by first | trivial | rfl) wr HB4.out).mono ?_
      rintro e w6 ⟨sb, bb, V, T, S, rfl, hst, hbk, hsg, htf, hb6⟩
      have HI := Lib.hid hst
      have HK := Lib.hid hbk
      have HSG := Lib.hid hsg
      have HTF : Hid (∀ g, T g → w0.heap.size ≤ g) := Lib.hid (fun g hg => Nat.le_trans HB4.out.size (htf g hg))
      have HB := Lib.hid (HB4.out.trans (hb6.mono HB4.out.size))
      clear hst hbk hsg htf hb6 HMN HMY c0 c1 HB4 HFEW HRR HAW
      obtain ⟨wr0, hwr0⟩ : ∃ wr0, wr0 = wr := ⟨_, rfl⟩
      clear hwr0
      obtain ⟨wr, hwr⟩ : ∃ wr, wr = w6 := ⟨_, rfl⟩
      subst hwr
      have hlen : s.length ≤ 1000 := by
       have h9 := HFW.out.symm
       unfold fewS at h9
       rw [Bool.and_eq_true, List.all_eq_true] at h9
       have := h9.2 _ (List.mem_cons_self ..)
       simpa using this
      have HLEN := Lib.hid hlen
      clear hlen
      obtain ⟨R, hR⟩ : ∃ R, R = putR { S with mt := bm } s lv := ⟨_, rfl⟩
      have HPP := Lib.hid (sp_put HK.out HSG.out.2.2.1 HSG.out.2.2.2 bm s lv)
      have HPL : Hid (∀ W d sb2 T1, IsSto W sb S V bb (some d) T1 → Blk W sb2 41 (stoC V { S with mt := bm } bb (some d)) → sb2 ≠ sb → Calls Tryz.prog 12 #[.pointer (some ⟨sb2, 0, none⟩), .string ⟨s.toArray⟩, .int .i64 lv] W fun e w' => e = .returned (.tuple #[.agg (encPtr R.p).toArray, .int .i64 (R.err : Nat)]) ∧ ∃ T', IsSto w' sb { R.s with mt := S.mt } V bb (some d) T' ∧ Mod (fun g => T1 g ∨ g = sb2) W w' ∧ ∀ g, T' g → T1 g ∨ g = sb2 ∨ W.heap.size ≤ g) := Lib.hid (fun W d sb2 T1 hW hB2 hne => by
       rw [hR]
       exact asput hW hB2 hne HK.out.ok (by omega) (by rw [HK.out.kp]; omega) (by rw [HK.out.born]; show (0 : Nat) ≤ _; omega) s lv (by have := HLEN.out; omega))
      rw [← hR] at HPP
      clear hR
      go_upto_region 11 with fail
      go_cut [16, 17] (fun v16 v17 wx => ∃ gp T' d, v16 = .pointer (some ⟨gp, 0, none⟩) ∧ v17 = .int .i64 (R.err : Nat) ∧ Hid (IsSto wx sb { R.s with mt := S.mt } V bb (some d) T') ∧ Hid (Blk wx gp 49 (encPtr R.p)) ∧ Hid (¬ T' gp ∧ w0.heap.size ≤ gp) ∧ Hid (∀ g, T' g → w0.heap.size ≤ g) ∧ Hid (Below w0.heap.size w0 wx))
      case first =>
       have HM0 : Hid (Mod T wr.drew wr.drew) := Lib.hid (Mod.refl _ _)
       have HI0 : Hid (IsSto wr.drew sb S V bb none T) := Lib.hid (HI.out.below (Below.refl _ _).drew)
       have HN0 : Hid (∀ g, T g → T g ∨ wr.heap.size ≤ g) := Lib.hid (fun g hg => .inl hg)
       have hS0 : Below w0.heap.size w0 wr.drew ∧ wr.drew.cell? ⟨kb, 0, none⟩ = some (.string ⟨s.toArray⟩) ∧ wr.drew.cell? ⟨kb, 1, none⟩ = some (.int .i64 lv) ∧ wr.drew.cell? ⟨kb, 2, none⟩ = some (.bool bm) := ⟨HB.out.drew, HBC.out _ HB.out.drew⟩
       refine wp_region_held_drew (S := fun W => Below w0.heap.size w0 W ∧ W.cell? ⟨kb, 0, none⟩ = some (.string ⟨s.toArray⟩) ∧ W.cell? ⟨kb, 1, none⟩ = some (.int .i64 lv) ∧ W.cell? ⟨kb, 2, none⟩ = some (.bool bm)) (by kernel_rfl) hS0 (fun hS0 => ?_)
       refine rtd 0 ?_; refine rtd 1 ?_; refine rtd 2 ?_; refine rtd 4 ?_; refine rtd 5 ?_; refine rtd 6 ?_; refine rtd 7 ?_
       refine wpAnyH_ready (rs := [3, 12]) (by kernel_rfl) (by simp) ?_
       refine AllReadyH.cons (by simp only [List.getElem?_toArray, List.getElem?_cons_succ, List.getElem?_cons_zero]; rfl) (fun K hK => ?_) (AllReadyH.cons (by simp only [List.getElem?_toArray, List.getElem?_cons_succ, List.getElem?_cons_zero]; rfl) (fun K hK => ?_) AllReadyH.nil)
       ·go_simp
        refine (as_any HI0.out bm).mono ?_
        rintro e wy1 ⟨dy1, s2y1, Ty1, rfl, hiy1, hmy1, hny1, hby1, hgy1, hqy1⟩
        have HIy1 : Hid (IsSto (wy1) sb S V bb (some dy1) Ty1) := Lib.hid (hiy1)
        have HMy1 : Hid (Mod T wr.drew wy1) := Lib.hid (HM0.out.trans hmy1 (fun x _ hx => hx))
        have HNy1 : Hid (∀ g, Ty1 g → T g ∨ wr.heap.size ≤ g) := Lib.hid (fun g hg => by
         rcases hny1 g hg with h9 | h9
         ·exact .inl h9
         ·have := HM0.out.size; (try simp at this h9); omega)
        have HQy1 : Hid (Blk wy1 s2y1 41 (stoC V { S with mt := bm } bb (some dy1)) ∧ ¬ Ty1 s2y1 ∧ wr.heap.size ≤ s2y1) := Lib.hid (⟨hby1, hqy1, by have := HM0.out.size; (try simp at this hgy1); omega⟩)
        clear hiy1 hmy1 hny1 hby1 hgy1 hqy1
        try dsimp only
        refine hK.out _ _ (⟨(HB.out.drew.trans (HMy1.out.toBelow HTF.out HB.out.size)), HBC.out _ (HB.out.drew.trans (HMy1.out.toBelow HTF.out HB.out.size))⟩) (fun hSda3 => ?_)
        try simp only [Act.put, z1, z2, z3]
        refine wpAnyH_ready (rs := [8, 12]) (by kernel_rfl) (by simp) ?_
        refine AllReadyH.cons (by simp only [List.getElem?_toArray, List.getElem?_cons_succ, List.getElem?_cons_zero]; rfl) (fun K hK => ?_) (AllReadyH.cons (by simp only [List.getElem?_toArray, List.getElem?_cons_succ, List.getElem?_cons_zero]; rfl) (fun K hK => ?_) AllReadyH.nil)
        ·go_simp
         refine (HPL.out _ dy1 _ _ HIy1.out HQy1.out.1 (fun e => HQy1.out.2.1 (by rw [e]; exact HIy1.out.self))).mono ?_
         rintro e wy2 ⟨rfl, Ty2, hiy2, hmy2, hny2⟩
         have HIy2 : Hid (IsSto (wy2) sb { R.s with mt := S.mt } V bb (some dy1) Ty2) := Lib.hid (hiy2)
         have HMy2 : Hid (Mod T wr.drew wy2) := Lib.hid (HMy1.out.trans hmy2 (fun x hx hf => by
          rcases hf with h9 | h9
          ·rcases HNy1.out x h9 with h8 | h8
           ·exact h8
           ·have e9 : wr.drew.heap.size = wr.heap.size := rfl; omega
          ·have := HQy1.out.2.2; have e9 : wr.drew.heap.size = wr.heap.size := rfl; omega))
         have HNy2 : Hid (∀ g, Ty2 g → T g ∨ wr.heap.size ≤ g) := Lib.hid (fun g hg => by
          rcases hny2 g hg with h9 | h9 | h9
          ·exact HNy1.out g h9
          ·right; have := HQy1.out.2.2; omega
          ·have := HMy1.out.size; (try simp at this h9); omega)
         clear hiy2 hmy2 hny2
         try dsimp only
         refine hK.out _ _ (⟨(HB.out.drew.trans (HMy2.out.toBelow HTF.out HB.out.size)), HBC.out _ (HB.out.drew.trans (HMy2.out.toBelow HTF.out HB.out.size))⟩) (fun hSdaa8 => ?_)
         try simp only [Act.put, z1, z2, z3]
         refine rtd 9 ?_; refine rtd 10 ?_; refine rtd 11 ?_
         refine rr1 (i := 12) (h := fun K hK => ?_)
         go_simp
         skip
         refine hK.out _ _ (⟨(HB.out.drew.trans ((HMy2.out.alloc _).toBelow HTF.out HB.out.size)), HBC.out _ (HB.out.drew.trans ((HMy2.out.alloc _).toBelow HTF.out HB.out.size))⟩) (fun hSdaa12 => ?_)
         try simp only [Act.put, z1, z2, z3]
         have HMy3 : Hid (Mod T wr.drew ((wy2).alloc (.cells #[.int .i64 0, .int .i64 0, .int .i64 0, .int .i64 0, .bool false, .int .i64 0, .int .i64 0, .int .i64 0, .int .u64 0, .int .u64 0, .int .u64 0, .int .u64 0] 49))) := Lib.hid (HMy2.out.alloc _)
         have HIy3 : Hid (IsSto ((wy2).alloc (.cells #[.int .i64 0, .int .i64 0, .int .i64 0, .int .i64 0, .bool false, .int .i64 0, .int .i64 0, .int .i64 0, .int .u64 0, .int .u64 0, .int .u64 0, .int .u64 0] 49)) sb { R.s with mt := S.mt } V bb (some dy1) Ty2) := Lib.hid (HIy2.out.below ((Below.refl _ _).alloc (Nat.le_refl _) _))
         have HPy3 : Hid (Blk ((wy2).alloc (.cells #[.int .i64 0, .int .i64 0, .int .i64 0, .int .i64 0, .bool false, .int .i64 0, .int .i64 0, .int .i64 0, .int .u64 0, .int .u64 0, .int .u64 0, .int .u64 0] 49)) (wy2.heap.size) 49 [.int .i64 0, .int .i64 0, .int .i64 0, .int .i64 0, .bool false, .int .i64 0, .int .i64 0, .int .i64 0, .int .u64 0, .int .u64 0, .int .u64 0, .int .u64 0] ∧ ¬ Ty2 (wy2.heap.size) ∧ wr.heap.size ≤ wy2.heap.size) := Lib.hid (⟨Blk.newAt _ _ (by simp), (fun hf => by have e9 := HIy2.out.lt _ hf; (try simp at e9); (try omega)), by have := HMy2.out.size; (try simp at this); omega⟩)
         refine rr1 (i := 13) (h := fun K hK => ?_)
         rw [if_pos (by kernel_rfl)]
         refine wp_store_mid 49 (.tmp 16) (.tmp 68) rfl (wy2.heap.size) (0) (encPtr R.p).toArray rfl rfl (blk_there HPy3.out.1 (Nat.le_refl 12)) iszPt (all_oneCell_toArray (encPtr_ones R.p)) ?_
         refine hK.out _ _ (⟨(HB.out.drew.trans ((HMy3.out.put (.inr (by have := HPy3.out.2.2; simpa using this))).toBelow HTF.out HB.out.size)), HBC.out _ (HB.out.drew.trans ((HMy3.out.put (.inr (by have := HPy3.out.2.2; simpa using this))).toBelow HTF.out HB.out.size))⟩) (fun hSdaa13 => ?_)
         try simp only [Act.put, z1, z2, z3]
         refine rtd 14 ?_
         refine wpAnyH_done (by kernel_rfl) ?_ _
         have HT : Hid (IsSto ((((wy2).alloc (.cells #[.int .i64 0, .int .i64 0, .int .i64 0, .int .i64 0, .bool false, .int .i64 0, .int .i64 0, .int .i64 0, .int .u64 0, .int .u64 0, .int .u64 0, .int .u64 0] 49)).setCells (wy2.heap.size) 0 (encPtr R.p))) sb { R.s with mt := S.mt } V bb (some dy1) Ty2 ∧ Blk (((wy2).alloc (.cells #[.int .i64 0, .int .i64 0, .int .i64 0, .int .i64 0, .bool false, .int .i64 0, .int .i64 0, .int .i64 0, .int .u64 0, .int .u64 0, .int .u64 0, .int .u64 0] 49)).setCells (wy2.heap.size) 0 (encPtr R.p)) (wy2.heap.size) 49 (encPtr R.p) ∧ (¬ Ty2 (wy2.heap.size) ∧ w0.heap.size ≤ wy2.heap.size) ∧ (∀ g, Ty2 g → w0.heap.size ≤ g) ∧ Below w0.heap.size w0 (((wy2).alloc (.cells #[.int .i64 0, .int .i64 0, .int .i64 0, .int .i64 0, .bool false, .int .i64 0, .int .i64 0, .int .i64 0, .int .u64 0, .int .u64 0, .int .u64 0, .int .u64 0] 49)).setCells (wy2.heap.size) 0 (encPtr R.p))) := Lib.hid ⟨HIy3.out.other HPy3.out.1 (by unfold BookTy; decide) HPy3.out.2.1 (setCells_grown _ _ _ _), HPy3.out.1.put rfl, ⟨HPy3.out.2.1, by have := HPy3.out.2.2; have := HB.out.size; omega⟩, (fun g hg => by rcases HNy2.out g hg with h9 | h9; exact HTF.out g h9; have := HB.out.size; omega), (HB.out.drew.trans ((HMy3.out.put (.inr (by have := HPy3.out.2.2; simpa using this))).toBelow HTF.out HB.out.size))⟩
         go_wp2_with fail
         go_meet
         exact ⟨_, _, dy1, rfl, rfl, Lib.hid HT.out.1, Lib.hid HT.out.2.1, Lib.hid HT.out.2.2.1, Lib.hid HT.out.2.2.2.1, Lib.hid HT.out.2.2.2.2⟩
        ·go_simp
         skip
         refine hK.out _ _ (⟨(HB.out.drew.trans ((HMy1.out.alloc _).toBelow HTF.out HB.out.size)), HBC.out _ (HB.out.drew.trans ((HMy1.out.alloc _).toBelow HTF.out HB.out.size))⟩) (fun hSdab12 => ?_)
         try simp only [Act.put, z1, z2, z3]
         have HMy4 : Hid (Mod T wr.drew ((wy1).alloc (.cells #[.int .i64 0, .int .i64 0, .int .i64 0, .int .i64 0, .bool false, .int .i64 0, .int .i64 0, .int .i64 0, .int .u64 0, .int .u64 0, .int .u64 0, .int .u64 0] 49))) := Lib.hid (HMy1.out.alloc _)
         have HIy4 : Hid (IsSto ((wy1).alloc (.cells #[.int .i64 0, .int .i64 0, .int .i64 0, .int .i64 0, .bool false, .int .i64 0, .int .i64 0, .int .i64 0, .int .u64 0, .int .u64 0, .int .u64 0, .int .u64 0] 49)) sb S V bb (some dy1) Ty1) := Lib.hid (HIy1.out.below ((Below.refl _ _).alloc (Nat.le_refl _) _))
         have HPy4 : Hid (Blk ((wy1).alloc (.cells #[.int .i64 0, .int .i64 0, .int .i64 0, .int .i64 0, .bool false, .int .i64 0, .int .i64 0, .int .i64 0, .int .u64 0, .int .u64 0, .int .u64 0, .int .u64 0] 49)) (wy1.heap.size) 49 [.int .i64 0, .int .i64 0, .int .i64 0, .int .i64 0, .bool false, .int .i64 0, .int .i64 0, .int .i64 0, .int .u64 0, .int .u64 0, .int .u64 0, .int .u64 0] ∧ ¬ Ty1 (wy1.heap.size) ∧ wr.heap.size ≤ wy1.heap.size ∧ wy1.heap.size ≠ s2y1) := Lib.hid (⟨Blk.newAt _ _ (by simp), (fun hf => by have e9 := HIy1.out.lt _ hf; (try simp at e9); (try omega)), by have := HMy1.out.size; (try simp at this); omega, by have e9 := HQy1.out.1.lt; (try simp at e9); omega⟩)
         have HQy4 : Hid (Blk ((wy1).alloc (.cells #[.int .i64 0, .int .i64 0, .int .i64 0, .int .i64 0, .bool false, .int .i64 0, .int .i64 0, .int .i64 0, .int .u64 0, .int .u64 0, .int .u64 0, .int .u64 0] 49)) s2y1 41 (stoC V { S with mt := bm } bb (some dy1)) ∧ ¬ Ty1 s2y1 ∧ wr.heap.size ≤ s2y1) := Lib.hid (⟨HQy1.out.1.alloc _, HQy1.out.2⟩)
         refine rr1 (i := 8) (h := fun K hK => ?_)
         go_simp
         refine (HPL.out _ dy1 _ _ HIy4.out HQy4.out.1 (fun e => HQy4.out.2.1 (by rw [e]; exact HIy4.out.self))).mono ?_
         rintro e wy5 ⟨rfl, Ty5, hiy5, hmy5, hny5⟩
         have HIy5 : Hid (IsSto (wy5) sb { R.s with mt := S.mt } V bb (some dy1) Ty5) := Lib.hid (hiy5)
         have HMy5 : Hid (Mod T wr.drew wy5) := Lib.hid (HMy4.out.trans hmy5 (fun x hx hf => by
          rcases hf with h9 | h9
          ·rcases HNy1.out x h9 with h8 | h8
           ·exact h8
           ·have e9 : wr.drew.heap.size = wr.heap.size := rfl; omega
          ·have := HQy4.out.2.2; have e9 : wr.drew.heap.size = wr.heap.size := rfl; omega))
         have HNy5 : Hid (∀ g, Ty5 g → T g ∨ wr.heap.size ≤ g) := Lib.hid (fun g hg => by
          rcases hny5 g hg with h9 | h9 | h9
          ·exact HNy1.out g h9
          ·right; have := HQy4.out.2.2; omega
          ·have := HMy4.out.size; (try simp at this h9); omega)
         have HPy5 : Hid (Blk wy5 (wy1.heap.size) 49 [.int .i64 0, .int .i64 0, .int .i64 0, .int .i64 0, .bool false, .int .i64 0, .int .i64 0, .int .i64 0, .int .u64 0, .int .u64 0, .int .u64 0, .int .u64 0] ∧ ¬ Ty5 (wy1.heap.size) ∧ wr.heap.size ≤ wy1.heap.size) := Lib.hid (⟨hmy5.blk HPy4.out.1 (fun hf => hf.elim HPy4.out.2.1 HPy4.out.2.2.2), (fun hf => by
          rcases hny5 _ hf with h9 | h9 | h9
          ·exact HPy4.out.2.1 h9
          ·exact HPy4.out.2.2.2 h9
          ·have := HPy4.out.1.lt; omega), HPy4.out.2.2.1⟩)
         clear hiy5 hmy5 hny5
         try dsimp only
         refine hK.out _ _ (⟨(HB.out.drew.trans (HMy5.out.toBelow HTF.out HB.out.size)), HBC.out _ (HB.out.drew.trans (HMy5.out.toBelow HTF.out HB.out.size))⟩) (fun hSdab8 => ?_)
         try simp only [Act.put, z1, z2, z3]
         refine rtd 9 ?_; refine rtd 10 ?_; refine rtd 11 ?_
         refine rr1 (i := 13) (h := fun K hK => ?_)
         rw [if_pos (by kernel_rfl)]
         refine wp_store_mid 49 (.tmp 16) (.tmp 68) rfl (wy1.heap.size) (0) (encPtr R.p).toArray rfl rfl (blk_there HPy5.out.1 (Nat.le_refl 12)) iszPt (all_oneCell_toArray (encPtr_ones R.p)) ?_
         refine hK.out _ _ (⟨(HB.out.drew.trans ((HMy5.out.put (.inr (by have := HPy5.out.2.2; simpa using this))).toBelow HTF.out HB.out.size)), HBC.out _ (HB.out.drew.trans ((HMy5.out.put (.inr (by have := HPy5.out.2.2; simpa using this))).toBelow HTF.out HB.out.size))⟩) (fun hSdab13 => ?_)
         try simp only [Act.put, z1, z2, z3]
         refine rtd 14 ?_
         refine wpAnyH_done (by kernel_rfl) ?_ _
         have HT : Hid (IsSto (((wy5).setCells (wy1.heap.size) 0 (encPtr R.p))) sb { R.s with mt := S.mt } V bb (some dy1) Ty5 ∧ Blk ((wy5).setCells (wy1.heap.size) 0 (encPtr R.p)) (wy1.heap.size) 49 (encPtr R.p) ∧ (¬ Ty5 (wy1.heap.size) ∧ w0.heap.size ≤ wy1.heap.size) ∧ (∀ g, Ty5 g → w0.heap.size ≤ g) ∧ Below w0.heap.size w0 ((wy5).setCells (wy1.heap.size) 0 (encPtr R.p))) := Lib.hid ⟨HIy5.out.other HPy5.out.1 (by unfold BookTy; decide) HPy5.out.2.1 (setCells_grown _ _ _ _), HPy5.out.1.put rfl, ⟨HPy5.out.2.1, by have := HPy5.out.2.2; have := HB.out.size; omega⟩, (fun g hg => by rcases HNy5.out g hg with h9 | h9; exact HTF.out g h9; have := HB.out.size; omega), (HB.out.drew.trans ((HMy5.out.put (.inr (by have := HPy5.out.2.2; simpa using this))).toBelow HTF.out HB.out.size))⟩
         go_wp2_with fail
         go_meet
         exact ⟨_, _, dy1, rfl, rfl, Lib.hid HT.out.1, Lib.hid HT.out.2.1, Lib.hid HT.out.2.2.1, Lib.hid HT.out.2.2.2.1, Lib.hid HT.out.2.2.2.2⟩
       ·go_simp
        skip
        refine hK.out _ _ (⟨(HB.out.drew.trans ((HM0.out.alloc _).toBelow HTF.out HB.out.size)), HBC.out _ (HB.out.drew.trans ((HM0.out.alloc _).toBelow HTF.out HB.out.size))⟩) (fun hSdb12 => ?_)
        try simp only [Act.put, z1, z2, z3]
        have HMy6 : Hid (Mod T wr.drew ((wr.drew).alloc (.cells #[.int .i64 0, .int .i64 0, .int .i64 0, .int .i64 0, .bool false, .int .i64 0, .int .i64 0, .int .i64 0, .int .u64 0, .int .u64 0, .int .u64 0, .int .u64 0] 49))) := Lib.hid (HM0.out.alloc _)
        have HIy6 : Hid (IsSto ((wr.drew).alloc (.cells #[.int .i64 0, .int .i64 0, .int .i64 0, .int .i64 0, .bool false, .int .i64 0, .int .i64 0, .int .i64 0, .int .u64 0, .int .u64 0, .int .u64 0, .int .u64 0] 49)) sb S V bb none T) := Lib.hid (HI0.out.below ((Below.refl _ _).alloc (Nat.le_refl _) _))
        have HPy6 : Hid (Blk ((wr.drew).alloc (.cells #[.int .i64 0, .int .i64 0, .int .i64 0, .int .i64 0, .bool false, .int .i64 0, .int .i64 0, .int .i64 0, .int .u64 0, .int .u64 0, .int .u64 0, .int .u64 0] 49)) (wr.heap.size) 49 [.int .i64 0, .int .i64 0, .int .i64 0, .int .i64 0, .bool false, .int .i64 0, .int .i64 0, .int .i64 0, .int .u64 0, .int .u64 0, .int .u64 0, .int .u64 0] ∧ ¬ T (wr.heap.size) ∧ wr.heap.size ≤ wr.heap.size) := Lib.hid (⟨Blk.newAt _ _ (by simp), (fun hf => by have e9 := HI0.out.lt _ hf; (try simp at e9); (try omega)), by have := HM0.out.size; (try simp at this); omega⟩)
        refine rr1 (i := 3) (h := fun K hK => ?_)
        go_simp
        refine (as_any HIy6.out bm).mono ?_
        rintro e wy7 ⟨dy7, s2y7, Ty7, rfl, hiy7, hmy7, hny7, hby7, hgy7, hqy7⟩
        have HIy7 : Hid (IsSto (wy7) sb S V bb (some dy7) Ty7) := Lib.hid (hiy7)
        have HMy7 : Hid (Mod T wr.drew wy7) := Lib.hid (HMy6.out.trans hmy7 (fun x _ hx => hx))
        have HNy7 : Hid (∀ g, Ty7 g → T g ∨ wr.heap.size ≤ g) := Lib.hid (fun g hg => by
         rcases hny7 g hg with h9 | h9
         ·exact .inl h9
         ·have := HMy6.out.size; (try simp at this h9); omega)
        have HQy7 : Hid (Blk wy7 s2y7 41 (stoC V { S with mt := bm } bb (some dy7)) ∧ ¬ Ty7 s2y7 ∧ wr.heap.size ≤ s2y7) := Lib.hid (⟨hby7, hqy7, by have := HMy6.out.size; (try simp at this hgy7); omega⟩)
        have HPy7 : Hid (Blk wy7 (wr.heap.size) 49 [.int .i64 0, .int .i64 0, .int .i64 0, .int .i64 0, .bool false, .int .i64 0, .int .i64 0, .int .i64 0, .int .u64 0, .int .u64 0, .int .u64 0, .int .u64 0] ∧ ¬ Ty7 (wr.heap.size) ∧ wr.heap.size ≤ wr.heap.size ∧ wr.heap.size ≠ s2y7) := Lib.hid (⟨hmy7.blk HPy6.out.1 HPy6.out.2.1, (fun hf => by
         rcases hny7 _ hf with h9 | h9
         ·exact HPy6.out.2.1 h9
         ·have := HPy6.out.1.lt; omega), HPy6.out.2.2, by have := HPy6.out.1.lt; omega⟩)
        clear hiy7 hmy7 hny7 hby7 hgy7 hqy7
        try dsimp only
        refine hK.out _ _ (⟨(HB.out.drew.trans (HMy7.out.toBelow HTF.out HB.out.size)), HBC.out _ (HB.out.drew.trans (HMy7.out.toBelow HTF.out HB.out.size))⟩) (fun hSdb3 => ?_)
        try simp only [Act.put, z1, z2, z3]
        refine rr1 (i := 8) (h := fun K hK => ?_)
        go_simp
        refine (HPL.out _ dy7 _ _ HIy7.out HQy7.out.1 (fun e => HQy7.out.2.1 (by rw [e]; exact HIy7.out.self))).mono ?_
        rintro e wy8 ⟨rfl, Ty8, hiy8, hmy8, hny8⟩
        have HIy8 : Hid (IsSto (wy8) sb { R.s with mt := S.mt } V bb (some dy7) Ty8) := Lib.hid (hiy8)
        have HMy8 : Hid (Mod T wr.drew wy8) := Lib.hid (HMy7.out.trans hmy8 (fun x hx hf => by
         rcases hf with h9 | h9
         ·rcases HNy7.out x h9 with h8 | h8
          ·exact h8
          ·have e9 : wr.drew.heap.size = wr.heap.size := rfl; omega
         ·have := HQy7.out.2.2; have e9 : wr.drew.heap.size = wr.heap.size := rfl; omega))
        have HNy8 : Hid (∀ g, Ty8 g → T g ∨ wr.heap.size ≤ g) := Lib.hid (fun g hg => by
         rcases hny8 g hg with h9 | h9 | h9
         ·exact HNy7.out g h9
         ·right; have := HQy7.out.2.2; omega
         ·have := HMy7.out.size; (try simp at this h9); omega)
        have HPy8 : Hid (Blk wy8 (wr.heap.size) 49 [.int .i64 0, .int .i64 0, .int .i64 0, .int .i64 0, .bool false, .int .i64 0, .int .i64 0, .int .i64 0, .int .u64 0, .int .u64 0, .int .u64 0, .int .u64 0] ∧ ¬ Ty8 (wr.heap.size) ∧ wr.heap.size ≤ wr.heap.size) := Lib.hid (⟨hmy8.blk HPy7.out.1 (fun hf => hf.elim HPy7.out.2.1 HPy7.out.2.2.2), (fun hf => by
         rcases hny8 _ hf with h9 | h9 | h9
         ·exact HPy7.out.2.1 h9
         ·exact HPy7.out.2.2.2 h9
         ·have := HPy7.out.1.lt; omega), HPy7.out.2.2.1⟩)
        clear hiy8 hmy8 hny8
        try dsimp only
        refine hK.out _ _ (⟨(HB.out.drew.trans (HMy8.out.toBelow HTF.out HB.out.size)), HBC.out _ (HB.out.drew.trans (HMy8.out.toBelow HTF.out HB.out.size))⟩) (fun hSdb8 => ?_)
        try simp only [Act.put, z1, z2, z3]
        refine rtd 9 ?_; refine rtd 10 ?_; refine rtd 11 ?_
        refine rr1 (i := 13) (h := fun K hK => ?_)
        rw [if_pos (by kernel_rfl)]
        refine wp_store_mid 49 (.tmp 16) (.tmp 68) rfl (wr.heap.size) (0) (encPtr R.p).toArray rfl rfl (blk_there HPy8.out.1 (Nat.le_refl 12)) iszPt (all_oneCell_toArray (encPtr_ones R.p)) ?_
        refine hK.out _ _ (⟨(HB.out.drew.trans ((HMy8.out.put (.inr (by have := HPy8.out.2.2; simpa using this))).toBelow HTF.out HB.out.size)), HBC.out _ (HB.out.drew.trans ((HMy8.out.put (.inr (by have := HPy8.out.2.2; simpa using this))).toBelow HTF.out HB.out.size))⟩) (fun hSdb13 => ?_)
        try simp only [Act.put, z1, z2, z3]
        refine rtd 14 ?_
        refine wpAnyH_done (by kernel_rfl) ?_ _
        have HT : Hid (IsSto (((wy8).setCells (wr.heap.size) 0 (encPtr R.p))) sb { R.s with mt := S.mt } V bb (some dy7) Ty8 ∧ Blk ((wy8).setCells (wr.heap.size) 0 (encPtr R.p)) (wr.heap.size) 49 (encPtr R.p) ∧ (¬ Ty8 (wr.heap.size) ∧ w0.heap.size ≤ wr.heap.size) ∧ (∀ g, Ty8 g → w0.heap.size ≤ g) ∧ Below w0.heap.size w0 ((wy8).setCells (wr.heap.size) 0 (encPtr R.p))) := Lib.hid ⟨HIy8.out.other HPy8.out.1 (by unfold BookTy; decide) HPy8.out.2.1 (setCells_grown _ _ _ _), HPy8.out.1.put rfl, ⟨HPy8.out.2.1, by have := HPy8.out.2.2; have := HB.out.size; omega⟩, (fun g hg => by rcases HNy8.out g hg with h9 | h9; exact HTF.out g h9; have := HB.out.size; omega), (HB.out.drew.trans ((HMy8.out.put (.inr (by have := HPy8.out.2.2; simpa using this))).toBelow HTF.out HB.out.size))⟩
        go_wp2_with fail
        go_meet
        exact ⟨_, _, dy7, rfl, rfl, Lib.hid HT.out.1, Lib.hid HT.out.2.1, Lib.hid HT.out.2.2.1, Lib.hid HT.out.2.2.2.1, Lib.hid HT.out.2.2.2.2⟩
      case rest =>
       obtain ⟨gp, T2, d2, rfl, rfl, HI2, HGP, HNP, HF2, HB2⟩ := hcut
       obtain ⟨wA, rfl⟩ : ∃ wA : World, wA = wc := ⟨_, rfl⟩
       obtain ⟨S1, hS1⟩ : ∃ S1, S1 = { R.s with mt := S.mt } := ⟨_, rfl⟩
       obtain ⟨P, hP⟩ : ∃ P, P = R.p := ⟨_, rfl⟩
       obtain ⟨er, hE⟩ : ∃ er, er = R.err := ⟨_, rfl⟩
       have HPQ : Hid (er ≠ 0 ∨ (er = 0 ∧ SpP S1 P s ∧ S1.x.gs = gs)) := Lib.hid (by
        rw [hS1, hP, hE]
        rcases HPP.out with h9 | ⟨h9, h8, h7, _⟩
        ·exact .inl h9
        ·exact .inr ⟨h9, h8, h7.trans HSG.out.1⟩)
       rw [← hS1] at HI2
       rw [← hP] at HGP
       rw [← hE]
       clear hS1 hP hE HPP HPL HI HK HSG HTF HB
       have l12 := fun (op : Oper) (a : Act) (next : Act → World → Prop) (Q : Exit → Act → World → Prop) => loadW_blk (P := Tryz.prog) (t := 49) HGP.out Tryz.underlying49 rfl iszPt op a next Q
       rcases HPQ.out with he | ⟨he, hsp, hgs⟩
       ·have q5 : ¬ ((er : Nat) : Int) = 0 := by omega
        have q6 : (((er : Nat) : Int) != 0) = true := by simpa using q5
        have q7 : (((er : Nat) : Int) == 0) = false := by simpa using q5
        go_wp2_with fail
        go_ret
        exact ⟨rfl, HFIN.out _ HB2.out⟩
       ·subst he
        have HSP := Lib.hid hsp
        have HGS := Lib.hid hgs
        clear hsp hgs HPQ
        obtain ⟨nd, hnd⟩ : ∃ nd, nd = S1.x.ds.length := ⟨_, rfl⟩
        have hnd1 : 1 ≤ nd := by
         have hrs := right_spec HSP.out.di.one.right
         have h1 := rightB_spec hrs.1
         have h2 := wsum_top hrs.1 (g := 0) (by omega)
         have h3 := getD_right hrs.1 (show 0 < S1.x.gs.length by omega)
         rw [hnd, hrs.2.1]
         omega
        obtain ⟨D, hD⟩ : ∃ D, D = dv % nd := ⟨_, rfl⟩
        have hDn : D < nd := by rw [hD]; exact Nat.mod_lt _ (by omega)
        obtain ⟨A, hA⟩ : ∃ A, A = atn % 8 := ⟨_, rfl⟩
        have hA8 : A < 8 := by rw [hA]; exact Nat.mod_lt _ (by omega)
        have hsec := HSP.out.sec (c := (D, 16 + A, false, 0)) (by rw [← hnd]; exact hDn) (by show 16 + A < 24; omega)
        obtain ⟨bl, cl, db, e1, e2, e3⟩ := sspo_any HI2.out (c := (D, 16 + A, false, 0)) (by rw [← hnd]; exact hDn) pl b hsec.2.1 hsec.2.2 (by omega)
        dsimp only at e2 e3
        have e1' : V.l = .slice (some ⟨bl, 0, none⟩) nd cl := by rw [hnd]; exact e1
        have hv2 : wA.cell? ⟨sb, 2, none⟩ = some (.slice (some ⟨bl, 0, none⟩) nd cl) := by rw [← e1']; exact HI2.out.cells.cell 2
        have HC1 : Hid (D < S1.x.ds.length) := Lib.hid (by rw [← hnd]; exact hDn)
        rw [show ((16 + A : Nat) : Int) = 16 + (A : Int) from by omega] at e3
        have HS3 := Lib.hid e3
        have HDE := Lib.hid hD
        have HAE := Lib.hid hA
        clear hsec e1 e1' e3 hnd hD hA
        have m1 : (dv : Int).tmod (nd : Int) = (D : Nat) := by rw [HDE.out, Int.tmod_eq_emod_of_nonneg (by omega)]; omega
        have m2 : IntKind.i64.wrap (D : Int) = (D : Int) := IntWalk.i64_in _ (by have := HDE.out; have := Nat.mod_le dv nd; omega)
        have m3 : IntKind.i64.wrap (dv : Int) = (dv : Int) := IntWalk.i64_in _ (by omega)
        have m4 : (atn : Int).tmod 8 = (A : Nat) := by rw [HAE.out, Int.tmod_eq_emod_of_nonneg (by omega)]; omega
        have m5 : IntKind.i64.wrap (atn : Int) = (atn : Int) := IntWalk.i64_in _ (by omega)
        have m6 : IntKind.i64.wrap (A : Int) = (A : Int) := IntWalk.i64_in _ (by omega)
        have m7 : IntKind.i64.wrap (16 + (A : Int)) = ((16 + A : Nat) : Int) := by rw [IntWalk.i64_in _ (by omega)]; omega
        have m8 : IntKind.i64.wrap (pl : Int) = (pl : Int) := IntWalk.i64_in _ (by omega)
        have q1 : ¬ (nd : Int) = 0 := by omega
        have q2 : (D : Int) < (nd : Int) := by omega
        have q3 : 0 ≤ (D : Int) := by omega
        go_wp2_with fail
        refine HS3.out.mono ?_
        rintro e w7 ⟨⟨vv, rfl⟩, hst7⟩
        obtain ⟨T7, hi7, hm7, hn7⟩ := hst7
        have HI7 := Lib.hid hi7
        have HP7 := Lib.hid (hm7.blk HGP.out HNP.out.1)
        have HN7 : Hid (¬ T7 gp) := Lib.hid (fun hf => by
         rcases hn7 _ hf with h9 | h9
         ·exact HNP.out.1 h9
         ·have := HGP.out.lt; omega)
        have HF7 : Hid (∀ g, T7 g → w0.heap.size ≤ g) := Lib.hid (fun g hg => by
         rcases hn7 _ hg with h9 | h9
         ·exact HF2.out g h9
         ·have := HB2.out.size; omega)
        have HB7 := Lib.hid (HB2.out.trans (hm7.toBelow HF2.out HB2.out.size))
        have HWD : Hid (∀ g, g < S1.x.gs.length → 2 ≤ (S1.x.gs.getD g (0, 0)).2) := Lib.hid (by rw [HGS.out]; exact HWI.out)
        obtain ⟨fx, z, hfx, hg1, hg2⟩ := sp_get HSP.out HWD.out (c := (D, 16 + A, false, 0)) HC1.out (by show 16 + A < 24; omega) pl b HI7.out
        obtain ⟨S3, hS3⟩ : ∃ S3 : StoT, S3 = { S1 with x := z, fixed := fx } := ⟨_, rfl⟩
        have HFX : Hid (S3.fixed = fx) := Lib.hid (by rw [hS3])
        rw [← hS3] at hg1 hg2
        have HG1 := Lib.hid hg1
        have HG2 := Lib.hid hg2
        clear hS3 hg1 hg2 hi7 hm7 hn7 HS3 HI2 HGP HNP HF2 HB2 l12 hv2 e2 m1 m2 m3 m4 m5 m6 m7 m8 q1 q2 q3
        have l12 := fun (op : Oper) (a : Act) (next : Act → World → Prop) (Q : Exit → Act → World → Prop) => loadW_blk (P := Tryz.prog) (t := 49) HP7.out Tryz.underlying49 rfl iszPt op a next Q
        go_wp2_with fail
        refine HG1.out.mono ?_
        rintro e w8 ⟨rfl, dn8, T8, hi8, hm8, hn8⟩
        have HI8 := Lib.hid hi8
        have HP8 := Lib.hid (hm8.blk HP7.out HN7.out)
        have HB8 := Lib.hid (HB7.out.trans (hm8.toBelow HF7.out HB7.out.size))
        have HF8 : Hid (∀ g, T8 g → w0.heap.size ≤ g) := Lib.hid (fun g hg => by
         rcases hn8 _ hg with h9 | h9
         ·exact HF7.out g h9
         ·have := HB7.out.size; omega)
        clear hi8 hm8 hn8 HG1 HI7 HP7 HN7 HF7 HB7 l12
        have l12 := fun (op : Oper) (a : Act) (next : Act → World → Prop) (Q : Exit → Act → World → Prop) => loadW_blk (P := Tryz.prog) (t := 49) HP8.out Tryz.underlying49 rfl iszPt op a next Q
        have HGG := Lib.hid (HG2.out w8 dn8 T8 HI8.out)
        go_wp2_with fail
        refine HGG.out.mono ?_
        rintro e w9 ⟨rfl, dn9, T9, hi9, hm9, hn9⟩
        have HI9 := Lib.hid hi9
        have HB9 := Lib.hid (HB8.out.trans (hm9.toBelow HF8.out HB8.out.size))
        have HF9 : Hid (∀ g, T9 g → w0.heap.size ≤ g) := Lib.hid (fun g hg => by
         rcases hn9 _ hg with h9 | h9
         ·exact HF8.out g h9
         ·have := HB8.out.size; omega)
        clear hi9 hm9 hn9 HGG HG2 HI8 HP8 HF8 HB8 l12
        obtain ⟨k0, k1, k2⟩ := HBC.out w9 HB9.out
        have hFXC := sfixed_any HI9.out
        rw [HFX.out] at hFXC
        have HFC := Lib.hid hFXC
        clear hFXC
        have q4 : (fx : Int) ≤ 1 := by omega
        go_wp2_with fail
        refine HFC.out.mono ?_
        rintro e w10 ⟨rfl, d10, T10, hi10, hm10, hn10⟩
        have HB10 := Lib.hid (HB9.out.trans (hm10.toBelow HF9.out HB9.out.size))
        clear hi10 hm10 hn10
        go_wp2_with fail
        go_ret
        exact ⟨rfl, HFIN.out _ HB10.out⟩
end Go.Proofs.YtfaemcfjbbbbdaaGreat
namespace Go.Proofs.YtfaemcfjbbbbdaaGreat
open Go.RowKit Go.ChangeShapes Go.WideShapes Go.Deep
instance : Inhabited BlkT := ⟨bkD⟩
end Go.Proofs.YtfaemcfjbbbbdaaGreat
namespace Go.Proofs.YtfaemcfjbbbbdaaGreat
open Go.RowKit Go.ChangeShapes Go.WideShapes Go.Deep
section
variable {H : Type} {enc : TypeId × Value → H} {W : World} {base : Nat} {spare : Nat → Bool} {held : Bool}
set_option maxRecDepth 100000 in
theorem open_block {r : Reach} {b0 : Nat} {v : Value} {d : DataW H} {p : List MemPlace} (hv : Value.okWide Tryz.prog W r b0 54 v) (h : DataW.Trod enc Tryz.prog W base spare held 54 v d p) :
  ∃ (s : Bs) (lv : Int) (mt : Bool), v = .agg #[.string ⟨s.toArray⟩, .int .i64 lv, .bool mt] ∧ True := by
 obtain ⟨v0, v1, v2, y0, y1, y2, k, rfl, rfl, rfl, g0, g1, g2⟩ := Joins.open_agg3 Tryz.underlying54 (by kernel_rfl) (by kernel_rfl) hv h
 obtain ⟨n0, e0, _⟩ := DataW.trod_string Tryz.underlying9 g0
 obtain ⟨n1, e1, _, w1⟩ := DataW.trod_int Tryz.underlying3 g1
 obtain ⟨n2, e2, _⟩ := DataW.trod_bool Tryz.underlying4 g2
 simp at e0 e1 e2
 subst e0
 subst e1
 subst e2
 exact ⟨n0.data.toList, n1, n2, by simp, trivial⟩
end
theorem spoilt_at (ga : Option Addr) (n gc : Nat) (gs : Gs) (secs : Int) (s : Bs) (lv : Int) (bm : Bool) (dv atn pl by_ : Int) (w : World) (h : GSl w ga n gc gs) (_h : True) (hdv : 0 ≤ dv ∧ dv ≤ 255) (hat : 0 ≤ atn ∧ atn ≤ 255) (hpl : 0 ≤ pl ∧ pl ≤ 255) (hby : 0 ≤ by_ ∧ by_ ≤ 255) :
  Calls Tryz.prog 6 #[.agg #[.slice ga n gc, .int .i64 secs], .agg #[.string ⟨s.toArray⟩, .int .i64 lv, .bool bm], .int .u8 dv, .int .u8 atn, .int .u8 pl, .int .u8 by_] w fun e w' => e = .returned (.bool true) ∧ Below w.heap.size w w' := by
 obtain ⟨d, rfl⟩ : ∃ d : Nat, dv = (d : Nat) := ⟨dv.toNat, by omega⟩
 obtain ⟨a, rfl⟩ : ∃ d : Nat, atn = (d : Nat) := ⟨atn.toNat, by omega⟩
 obtain ⟨p, rfl⟩ : ∃ d : Nat, pl = (d : Nat) := ⟨pl.toNat, by omega⟩
 obtain ⟨y, rfl⟩ : ∃ y : UInt8, by_ = ((y.toNat : Nat) : Int) := ⟨UInt8.ofNat by_.toNat, by rw [UInt8.toNat_ofNat_of_lt' (by show by_.toNat < 256; omega)]; omega⟩
 exact spoilt_law ga n gc gs secs w h s lv bm d a p (by omega) (by omega) (by omega) y
end Go.Proofs.YtfaemcfjbbbbdaaGreat
