/- Runs of sectors: plain lemmas, no program. -/
namespace Go.Proofs.Ytmnhdpojonlfhaa

/-- the place of the first run that ends behind a sector -/
def firstOf (rs : List (Nat × Nat)) (a : Nat) : Nat := rs.findIdx fun r => decide (a < r.1 + r.2)

/-- one run more, joined to the last where they touch -/
def joinStep (out : List (Nat × Nat)) (r : Nat × Nat) : List (Nat × Nat) :=
  match out.getLast? with
  | some q => if q.1 + q.2 = r.1 then out.dropLast ++ [(q.1, q.2 + r.2)] else out ++ [r]
  | none => [r]
def joinL (rs : List (Nat × Nat)) : List (Nat × Nat) := rs.foldl joinStep []
theorem joinL_step (rs : List (Nat × Nat)) (k : Nat) (h : k < rs.length) : joinL (rs.take (k + 1)) = joinStep (joinL (rs.take k)) (rs.getD k (0, 0)) := by
  unfold joinL
  rw [List.take_succ_eq_append_getElem h, List.foldl_append, List.getD_eq_getElem?_getD, List.getElem?_eq_getElem h]
  rfl
theorem joinStep_nil (r : Nat × Nat) : joinStep [] r = [r] := rfl
theorem joinStep_touch (out : List (Nat × Nat)) (q r : Nat × Nat) (h : q.1 + q.2 = r.1) : joinStep (out ++ [q]) r = out ++ [(q.1, q.2 + r.2)] := by
  simp [joinStep, h]
theorem joinStep_apart (out : List (Nat × Nat)) (q r : Nat × Nat) (h : q.1 + q.2 ≠ r.1) : joinStep (out ++ [q]) r = out ++ [q] ++ [r] := by
  simp [joinStep, h]

/-- runs one behind the other, none empty, none beyond top -/
def Row (top : Nat) (rs : List (Nat × Nat)) : Prop := (∀ r ∈ rs, 1 ≤ r.2 ∧ r.1 + r.2 ≤ top) ∧ rs.Pairwise fun x y => x.1 + x.2 ≤ y.1
/-- runs that are apart -/
def Apart (rs : List (Nat × Nat)) : Prop := rs.Pairwise fun x y => x.1 + x.2 < y.1
/-- A map's runs. -/
def Good (size : Nat) (rs : List (Nat × Nat)) : Prop := (∀ r ∈ rs, 1 ≤ r.2 ∧ r.1 + r.2 ≤ size) ∧ Apart rs
theorem Good.row {size : Nat} {rs : List (Nat × Nat)} (h : Good size rs) : Row size rs := ⟨h.1, h.2.imp fun h => Nat.le_of_lt h⟩

theorem Row.take {top k : Nat} {rs : List (Nat × Nat)} (h : Row top rs) : Row top (rs.take k) :=
  ⟨fun r hr => h.1 r (List.mem_of_mem_take hr), h.2.sublist (List.take_sublist _ _)⟩

/-- what joined runs are: all of them end ahead of what comes -/
theorem joinStep_row {top : Nat} {out : List (Nat × Nat)} {r : Nat × Nat} (h : Good top out) (hr : 1 ≤ r.2 ∧ r.1 + r.2 ≤ top) (hb : ∀ q ∈ out, q.1 + q.2 ≤ r.1) : Good top (joinStep out r) ∧ ∀ q ∈ joinStep out r, q.1 + q.2 ≤ r.1 + r.2 := by
  rcases List.eq_nil_or_concat out with rfl | ⟨o, q, rfl⟩
  · refine ⟨⟨?_, ?_⟩, ?_⟩
    · intro x hx; simp [joinStep_nil] at hx; subst hx; exact hr
    · simp [joinStep_nil, Apart]
    · intro x hx; simp [joinStep_nil] at hx; subst hx; exact Nat.le_refl _
  · rw [List.concat_eq_append] at *
    have hq := h.1 q (by simp)
    have hqb := hb q (by simp)
    have hap := List.pairwise_append.1 h.2
    by_cases ht : q.1 + q.2 = r.1
    · rw [joinStep_touch _ _ _ ht]
      refine ⟨⟨?_, ?_⟩, ?_⟩
      · intro x hx
        rcases List.mem_append.1 hx with hx | hx
        · exact h.1 x (by simp [hx])
        · rw [List.mem_singleton.1 hx]; dsimp only; omega
      · refine List.pairwise_append.2 ⟨hap.1, List.pairwise_singleton _ _, fun x hx y hy => ?_⟩
        rw [List.mem_singleton.1 hy]
        exact hap.2.2 x hx q (by simp)
      · intro x hx
        rcases List.mem_append.1 hx with hx | hx
        · have := hb x (by simp [hx]); omega
        · rw [List.mem_singleton.1 hx]; dsimp only; omega
    · rw [joinStep_apart _ _ _ ht]
      refine ⟨⟨?_, ?_⟩, ?_⟩
      · intro x hx
        rcases List.mem_append.1 hx with hx | hx
        · exact h.1 x hx
        · rw [List.mem_singleton.1 hx]; exact hr
      · refine List.pairwise_append.2 ⟨h.2, List.pairwise_singleton _ _, fun x hx y hy => ?_⟩
        rw [List.mem_singleton.1 hy]
        rcases List.mem_append.1 hx with hx | hx
        · have := hap.2.2 x hx q (by simp); omega
        · rw [List.mem_singleton.1 hx]; omega
      · intro x hx
        rcases List.mem_append.1 hx with hx | hx
        · have := hb x hx; omega
        · rw [List.mem_singleton.1 hx]; exact Nat.le_refl _
theorem joinL_good {top : Nat} {rs : List (Nat × Nat)} (h : Row top rs) : ∀ k, k ≤ rs.length → Good top (joinL (rs.take k)) ∧ ∀ q ∈ joinL (rs.take k), ∀ j, k ≤ j → j < rs.length → q.1 + q.2 ≤ (rs.getD j (0, 0)).1 := by
  intro k
  induction k with
  | zero => intro _; exact ⟨⟨by simp [joinL], by simp [joinL, Apart]⟩, by simp [joinL]⟩
  | succ k ih =>
    intro hk
    obtain ⟨h1, h2⟩ := ih (by omega)
    have hkl : k < rs.length := by omega
    have e : rs.getD k (0, 0) = rs[k] := by rw [List.getD_eq_getElem?_getD, List.getElem?_eq_getElem hkl]; rfl
    have hs := joinStep_row h1 (h.1 rs[k] (List.getElem_mem _)) (fun q hq => by have := h2 q hq k (Nat.le_refl _) hkl; rwa [e] at this)
    rw [joinL_step _ _ hkl, e]
    refine ⟨hs.1, fun q hq j hj hjl => ?_⟩
    have := hs.2 q hq
    have hp := List.pairwise_iff_getElem.1 h.2 k j hkl hjl (by omega)
    have ej : rs.getD j (0, 0) = rs[j] := by rw [List.getD_eq_getElem?_getD, List.getElem?_eq_getElem hjl]; rfl
    rw [ej]
    omega
theorem joinStep_len (out : List (Nat × Nat)) (r : Nat × Nat) : (joinStep out r).length ≤ out.length + 1 := by
  rcases List.eq_nil_or_concat out with rfl | ⟨o, q, rfl⟩
  · simp [joinStep_nil]
  · rw [List.concat_eq_append]
    by_cases h : q.1 + q.2 = r.1
    · rw [joinStep_touch _ _ _ h]; simp
    · rw [joinStep_apart _ _ _ h]; simp
theorem joinL_len (rs : List (Nat × Nat)) : ∀ k, k ≤ rs.length → (joinL (rs.take k)).length ≤ k := by
  intro k
  induction k with
  | zero => intro _; simp [joinL]
  | succ k ih =>
    intro hk
    rw [joinL_step _ _ (by omega)]
    have := joinStep_len (joinL (rs.take k)) (rs.getD k (0, 0))
    have := ih (by omega)
    omega
theorem firstOf_le (rs : List (Nat × Nat)) (a : Nat) : firstOf rs a ≤ rs.length := List.findIdx_le_length
theorem firstOf_before {rs : List (Nat × Nat)} {a j : Nat} (h : j < firstOf rs a) (hj : j < rs.length) : rs[j].1 + rs[j].2 ≤ a := by
  have := List.not_of_lt_findIdx (p := fun r : Nat × Nat => decide (a < r.1 + r.2)) (xs := rs) h
  simpa using this
theorem mem_take_get {rs : List (Nat × Nat)} {i : Nat} {x : Nat × Nat} (h : x ∈ rs.take i) : ∃ j, ∃ (hj : j < rs.length), j < i ∧ x = rs[j] := by
  obtain ⟨j, hj, rfl⟩ := List.mem_iff_getElem.1 h
  simp only [List.length_take] at hj
  exact ⟨j, by omega, by omega, by simp⟩
theorem mem_drop_get {rs : List (Nat × Nat)} {i : Nat} {x : Nat × Nat} (h : x ∈ rs.drop i) : ∃ j, ∃ (hj : j < rs.length), i ≤ j ∧ x = rs[j] := by
  obtain ⟨j, hj, rfl⟩ := List.mem_iff_getElem.1 h
  simp only [List.length_drop] at hj
  exact ⟨i + j, by omega, by omega, by simp⟩
theorem Good.le {size : Nat} {rs : List (Nat × Nat)} (h : Good size rs) {i j : Nat} (hij : i < j) (hj : j < rs.length) : rs[i].1 + rs[i].2 < rs[j].1 :=
  List.pairwise_iff_getElem.1 h.2 i j (by omega) hj hij
/-- a stretch that is free, among the runs -/
theorem row_insert {size a n : Nat} {rs : List (Nat × Nat)} (h : Good size rs) (hn : 1 ≤ n) (han : a + n ≤ size) (hu : firstOf rs a < rs.length → a + n ≤ (rs.getD (firstOf rs a) (0, 0)).1) :
    Row size (rs.take (firstOf rs a) ++ (a, n) :: rs.drop (firstOf rs a)) := by
  obtain ⟨i, hi⟩ : ∃ i, i = firstOf rs a := ⟨_, rfl⟩
  have hb : ∀ j (hj : j < rs.length), j < i → rs[j].1 + rs[j].2 ≤ a := fun j hj hji => firstOf_before (by rw [← hi]; exact hji) hj
  rw [← hi] at hu ⊢
  have hd : ∀ j (hj : j < rs.length), i ≤ j → a + n ≤ rs[j].1 := by
    intro j hj hij
    have h0 := hu (by omega)
    rw [List.getD_eq_getElem?_getD, List.getElem?_eq_getElem (by omega)] at h0
    simp only [Option.getD_some] at h0
    rcases Nat.lt_or_ge i j with hlt | hge
    · have := h.le hlt hj
      omega
    · have : i = j := by omega
      subst this
      exact h0
  refine ⟨fun r hr => ?_, ?_⟩
  · rcases List.mem_append.1 hr with hr | hr
    · exact h.1 r (List.mem_of_mem_take hr)
    · rcases List.mem_cons.1 hr with rfl | hr
      · exact ⟨hn, han⟩
      · exact h.1 r (List.mem_of_mem_drop hr)
  · refine List.pairwise_append.2 ⟨(h.row.2).sublist (List.take_sublist _ _), List.pairwise_cons.2 ⟨fun y hy => ?_, (h.row.2).sublist (List.drop_sublist _ _)⟩, fun x hx y hy => ?_⟩
    · obtain ⟨j, hj, hij, rfl⟩ := mem_drop_get hy
      exact hd j hj hij
    · obtain ⟨j, hj, hji, rfl⟩ := mem_take_get hx
      have h1 := hb j hj hji
      rcases List.mem_cons.1 hy with rfl | hy
      · exact h1
      · obtain ⟨k, hk, hik, rfl⟩ := mem_drop_get hy
        have := hd k hk hik
        omega
theorem insert_len (rs : List (Nat × Nat)) (i : Nat) (x : Nat × Nat) (h : i ≤ rs.length) : (rs.take i ++ x :: rs.drop i).length = rs.length + 1 := by
  simp only [List.length_append, List.length_take, List.length_cons, List.length_drop]
  omega
theorem good_len {size : Nat} {rs : List (Nat × Nat)} (h : Good size rs) : rs.length ≤ size := by
  have key : ∀ (k : Nat) (hk : k < rs.length), k < rs[k].1 + rs[k].2 := by
    intro k
    induction k with
    | zero => intro hk; have := (h.1 rs[0] (List.getElem_mem _)).1; omega
    | succ k ih =>
      intro hk
      have h1 := ih (by omega)
      have h2 := h.le (show k < k + 1 by omega) hk
      omega
  rcases Nat.eq_zero_or_pos rs.length with h0 | h0
  · omega
  · have h1 := key (rs.length - 1) (by omega)
    have h2 := (h.1 rs[rs.length - 1] (List.getElem_mem _)).2
    omega
/-- a stretch is one of a map -/
def May (size : Nat) (a n : Int) : Prop := 1 ≤ n ∧ 0 ≤ a ∧ a ≤ size - 1 ∧ n ≤ size - a
instance (size : Nat) (a n : Int) : Decidable (May size a n) := by unfold May; exact inferInstance
/-- what Take does -/
def takeS (size : Nat) (rs : List (Nat × Nat)) (a n : Int) : Int × List (Nat × Nat) :=
  if May size a n then
    if firstOf rs a.toNat < rs.length ∧ (rs.getD (firstOf rs a.toNat) (0, 0)).1 < a.toNat + n.toNat then (13, rs)
    else (0, joinL (rs.take (firstOf rs a.toNat) ++ (a.toNat, n.toNat) :: rs.drop (firstOf rs a.toNat)))
  else (1, rs)
theorem joinL_all {top : Nat} {rs : List (Nat × Nat)} (h : Row top rs) : Good top (joinL rs) := by
  have := (joinL_good h rs.length (Nat.le_refl _)).1
  rwa [List.take_length] at this
theorem takeS_good {size : Nat} {rs : List (Nat × Nat)} (h : Good size rs) (a n : Int) : Good size (takeS size rs a n).2 := by
  unfold takeS
  split
  · rename_i hm
    obtain ⟨h1, h2, h3, h4⟩ := hm
    split
    · exact h
    · rename_i hu
      exact joinL_all (row_insert h (by omega) (by omega) (by intro hlt; simp only [not_and, Nat.not_lt] at hu; exact hu hlt))
  · exact h
/-- how many sectors runs have -/
def sumR (rs : List (Nat × Nat)) : Nat := (rs.map (·.2)).sum
theorem sumR_append (a b : List (Nat × Nat)) : sumR (a ++ b) = sumR a + sumR b := by
  unfold sumR; rw [List.map_append, List.sum_append]
theorem sumR_cons (x : Nat × Nat) (b : List (Nat × Nat)) : sumR (x :: b) = x.2 + sumR b := by
  unfold sumR; rw [List.map_cons, List.sum_cons]
theorem sumR_step (rs : List (Nat × Nat)) (k : Nat) (h : k < rs.length) : sumR (rs.take (k + 1)) = sumR (rs.take k) + (rs.getD k (0, 0)).2 := by
  rw [List.take_succ_eq_append_getElem h, sumR_append, List.getD_eq_getElem?_getD, List.getElem?_eq_getElem h]
  simp [sumR]
theorem sumR_take_le (rs : List (Nat × Nat)) (k : Nat) : sumR (rs.take k) ≤ sumR rs := by
  conv => rhs; rw [← List.take_append_drop k rs]
  rw [sumR_append]
  exact Nat.le_add_right _ _
theorem good_sum {size : Nat} {rs : List (Nat × Nat)} (h : Good size rs) : sumR rs ≤ size := by
  have key : ∀ k (hk : k < rs.length), sumR (rs.take (k + 1)) ≤ rs[k].1 + rs[k].2 := by
    intro k
    induction k with
    | zero =>
      intro hk
      rw [sumR_step _ _ hk, List.getD_eq_getElem?_getD, List.getElem?_eq_getElem hk]
      simp [sumR]
    | succ k ih =>
      intro hk
      have h1 := ih (by omega)
      have h2 := h.le (show k < k + 1 by omega) hk
      rw [sumR_step _ _ hk, List.getD_eq_getElem?_getD, List.getElem?_eq_getElem hk]
      simp only [Option.getD_some]
      omega
  rcases Nat.eq_zero_or_pos rs.length with h0 | h0
  · rw [List.eq_nil_of_length_eq_zero h0]; simp [sumR]
  · have h1 := key (rs.length - 1) (by omega)
    have h2 := (h.1 rs[rs.length - 1] (List.getElem_mem _)).2
    rw [show rs.length - 1 + 1 = rs.length by omega, List.take_length] at h1
    omega
/-- what is left of a run of which a stretch is freed -/
def partsOf (q : Nat × Nat) (a n : Nat) : List (Nat × Nat) := [(q.1, a - q.1), (a + n, q.1 + q.2 - a - n)].filter fun r => r.2 != 0
/-- what Free does -/
def freeS (size : Nat) (rs : List (Nat × Nat)) (a n : Int) : Int × List (Nat × Nat) :=
  if May size a n then
    if firstOf rs a.toNat < rs.length ∧ (rs.getD (firstOf rs a.toNat) (0, 0)).1 ≤ a.toNat ∧ a.toNat + n.toNat ≤ (rs.getD (firstOf rs a.toNat) (0, 0)).1 + (rs.getD (firstOf rs a.toNat) (0, 0)).2 then
      (0, rs.take (firstOf rs a.toNat) ++ partsOf (rs.getD (firstOf rs a.toNat) (0, 0)) a.toNat n.toNat ++ rs.drop (firstOf rs a.toNat + 1))
    else (7, rs)
  else (1, rs)
theorem partsOf_mem {q : Nat × Nat} {a n : Nat} (h1 : q.1 ≤ a) (h2 : a + n ≤ q.1 + q.2) {x : Nat × Nat} (hx : x ∈ partsOf q a n) : 1 ≤ x.2 ∧ q.1 ≤ x.1 ∧ x.1 + x.2 ≤ q.1 + q.2 := by
  simp only [partsOf, List.mem_filter, List.mem_cons, List.not_mem_nil, or_false, bne_iff_ne, ne_eq] at hx
  obtain ⟨rfl | rfl, h⟩ := hx <;> dsimp only at * <;> omega
theorem partsOf_apart {q : Nat × Nat} {a n : Nat} (h0 : 1 ≤ n) (h1 : q.1 ≤ a) : (partsOf q a n).Pairwise fun x y => x.1 + x.2 < y.1 := by
  refine List.Pairwise.sublist List.filter_sublist ?_
  refine List.pairwise_cons.2 ⟨fun y hy => ?_, List.pairwise_singleton _ _⟩
  rw [List.mem_singleton.1 hy]
  dsimp only
  omega
theorem free_good {size a n : Nat} {rs : List (Nat × Nat)} (h : Good size rs) (i : Nat) (hi : i < rs.length) (hn : 1 ≤ n) (h1 : rs[i].1 ≤ a) (h2 : a + n ≤ rs[i].1 + rs[i].2) :
    Good size (rs.take i ++ partsOf rs[i] a n ++ rs.drop (i + 1)) := by
  have hri := h.1 rs[i] (List.getElem_mem _)
  refine ⟨fun r hr => ?_, ?_⟩
  · rcases List.mem_append.1 hr with hr | hr
    · rcases List.mem_append.1 hr with hr | hr
      · exact h.1 r (List.mem_of_mem_take hr)
      · have := partsOf_mem h1 h2 hr
        omega
    · exact h.1 r (List.mem_of_mem_drop hr)
  · refine List.pairwise_append.2 ⟨List.pairwise_append.2 ⟨h.2.sublist (List.take_sublist _ _), partsOf_apart hn h1, fun x hx y hy => ?_⟩, h.2.sublist (List.drop_sublist _ _), fun x hx y hy => ?_⟩
    · obtain ⟨j, hj, hji, rfl⟩ := mem_take_get hx
      have := partsOf_mem h1 h2 hy
      have := h.le hji hi
      omega
    · obtain ⟨k, hk, hik, rfl⟩ := mem_drop_get hy
      rcases List.mem_append.1 hx with hx | hx
      · obtain ⟨j, hj, hji, rfl⟩ := mem_take_get hx
        exact h.le (show j < k by omega) hk
      · have := partsOf_mem h1 h2 hx
        have := h.le (show i < k by omega) hk
        omega
theorem freeS_good {size : Nat} {rs : List (Nat × Nat)} (h : Good size rs) (a n : Int) : Good size (freeS size rs a n).2 := by
  unfold freeS
  split
  · rename_i hm
    obtain ⟨h1, h2, h3, h4⟩ := hm
    split
    · rename_i hu
      obtain ⟨hi, hq, hq2⟩ := hu
      have e : rs.getD (firstOf rs a.toNat) (0, 0) = rs[firstOf rs a.toNat] := by rw [List.getD_eq_getElem?_getD, List.getElem?_eq_getElem hi]; rfl
      rw [e] at hq hq2 ⊢
      exact free_good h _ hi (by omega) hq hq2
    · exact h
  · exact h
/-- the first free stretch of n from a sector on, the runs that end ahead of it left out -/
def fitGo (size : Nat) (n : Int) : List (Nat × Nat) → Nat → Option Nat
  | [], at_ => if n ≤ (size : Int) - (at_ : Int) then some at_ else none
  | r :: rest, at_ => if n ≤ (r.1 : Int) - (at_ : Int) then some at_ else fitGo size n rest (max at_ (r.1 + r.2))
def fitS (size : Nat) (rs : List (Nat × Nat)) (n : Int) (from_ : Nat) : Option Nat := fitGo size n (rs.drop (firstOf rs from_)) from_
def optI : Option Nat → Int
  | some x => x
  | none => -1
/-- what Find does -/
def findS (size : Nat) (rs : List (Nat × Nat)) (n from_ : Int) : Option Nat :=
  if 1 ≤ n ∧ 0 ≤ from_ ∧ from_ ≤ size then
    match fitS size rs n from_.toNat with
    | some x => some x
    | none => fitS size rs n 0
  else none
end Go.Proofs.Ytmnhdpojonlfhaa
