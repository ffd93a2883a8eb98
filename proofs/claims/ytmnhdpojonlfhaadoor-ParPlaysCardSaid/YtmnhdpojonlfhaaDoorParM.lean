/- Columns joined byte by byte: plain lemmas, no program. -/
namespace Go.Proofs.YtmnhdpojonlfhaaDoor
/-- the first i bytes joined with s's -/
def mix (acc s : List UInt8) (i : Nat) : List UInt8 := (List.range acc.length).map fun j => if j < i then acc.getD j 0 ^^^ s.getD j 0 else acc.getD j 0

theorem mix_length (acc s : List UInt8) (i : Nat) : (mix acc s i).length = acc.length := by simp [mix]
theorem mix_zero (acc s : List UInt8) : mix acc s 0 = acc := by
  apply List.ext_getElem
  · simp [mix]
  · intro i h1 h2; simp [mix, List.getElem?_eq_getElem h2]
theorem mix_get (acc s : List UInt8) (i j : Nat) (h : j < acc.length) : (mix acc s i)[j]'(by simpa [mix] using h) = if j < i then acc[j] ^^^ s.getD j 0 else acc[j] := by
  simp [mix, h]
theorem mix_succ (acc s : List UInt8) (i : Nat) (h : i < acc.length) : mix acc s (i+1) = (mix acc s i).set i (acc[i] ^^^ s.getD i 0) := by
  apply List.ext_getElem
  · simp [mix]
  · intro j h1 h2
    have hj : j < acc.length := by simpa [mix] using h1
    rw [mix_get _ _ _ _ hj, List.getElem_set, mix_get _ _ _ _ hj]
    by_cases e : i = j
    · subst e; simp
    · simp only [e, if_false]
      by_cases hlt : j < i
      · simp [hlt, show j < i+1 by omega]
      · simp [hlt, show ¬ j < i+1 by omega]
/-- the join of columns of n bytes -/
def xorL (n : Nat) (ss : List ByteArray) : List UInt8 := ss.foldl (fun acc s => mix acc s.data.toList n) (List.replicate n 0)
theorem xorL_length (n : Nat) (ss : List ByteArray) : (xorL n ss).length = n := by
  unfold xorL
  suffices h : ∀ acc : List UInt8, acc.length = n → (ss.foldl (fun acc s => mix acc s.data.toList n) acc).length = n from h _ (by simp)
  induction ss with
  | nil => simp
  | cons a r ih => intro acc h; exact ih _ (by simp [mix_length, h])
theorem xorL_snoc (n k : Nat) (ss : List ByteArray) (h : k < ss.length) : xorL n (ss.take (k+1)) = mix (xorL n (ss.take k)) ss[k].data.toList n := by
  unfold xorL
  rw [List.take_succ_eq_append_getElem h, List.foldl_append]
  rfl
theorem xorL_step (n k : Nat) (ss : List ByteArray) (h : k < ss.length) : xorL n (ss.take (k+1)) = mix (xorL n (ss.take k)) (ss.getD k ByteArray.empty).data.toList n := by
  rw [xorL_snoc n k ss h, List.getD_eq_getElem?_getD, List.getElem?_eq_getElem h]
  rfl
theorem getD_data (s : ByteArray) (j : Nat) (h : j < s.size) : s.data.toList.getD j 0 = s[j] := by
  rw [List.getD_eq_getElem?_getD, List.getElem?_eq_getElem (by simpa using h)]
  rfl
theorem mix_step (b s acc : List UInt8) (j : Nat) (x : UInt8) (h : acc = mix b s j) (hj : j < b.length) (hx : acc[j]? = some x) : mix b s (j+1) = acc.set j (x ^^^ s.getD j 0) := by
  subst h
  have hl : j < (mix b s j).length := by rw [mix_length]; exact hj
  rw [mix_succ _ _ _ hj]
  rw [List.getElem?_eq_getElem hl, mix_get _ _ _ _ hj] at hx
  simp at hx
  rw [hx]
/-- as long -/
def evenL (ss : List ByteArray) : Bool := ss.all fun s => s.size == (ss.getD 0 ByteArray.empty).size
theorem even_eq (ss : List ByteArray) (n : Nat) (h : ss.length = n) : (!(List.range n).any fun j => ((ss.getD j ByteArray.empty).size : Int) != (ss.getD 0 ByteArray.empty).size) = evenL ss := by
  subst h
  rw [Bool.eq_iff_iff]
  simp only [evenL, Bool.not_eq_true', List.any_eq_false, List.mem_range, bne_iff_ne, ne_eq, Decidable.not_not, List.all_eq_true, beq_iff_eq]
  constructor
  · intro h s hs
    obtain ⟨j, hj, rfl⟩ := List.mem_iff_getElem.1 hs
    have := h j hj
    rw [List.getD_eq_getElem?_getD, List.getElem?_eq_getElem hj] at this
    simpa using (Int.ofNat.inj this)
  · intro h j hj
    have := h (ss.getD j ByteArray.empty) (by rw [List.getD_eq_getElem?_getD, List.getElem?_eq_getElem hj]; exact List.getElem_mem _)
    rw [this]
theorem evenL_of (ss : List ByteArray) (m : Nat) (h : ∀ s ∈ ss, s.size = m) : evenL ss = true := by
  simp only [evenL, List.all_eq_true, beq_iff_eq]
  intro s hs
  cases ss with
  | nil => cases hs
  | cons a r => rw [h s hs]; exact (h a (by simp)).symm
theorem evenL_size {ss : List ByteArray} (h : evenL ss = true) : ∀ s ∈ ss, s.size = (ss.getD 0 ByteArray.empty).size := by
  simpa [evenL] using h
/-- one place of the join -/
def xorAt (j : Nat) (ss : List ByteArray) : UInt8 := ss.foldl (fun a s => a ^^^ s.data.toList.getD j 0) 0
theorem xorAt_from (j : Nat) (ss : List ByteArray) (a : UInt8) : ss.foldl (fun a s => a ^^^ s.data.toList.getD j 0) a = a ^^^ xorAt j ss := by
  induction ss generalizing a with
  | nil => simp [xorAt]
  | cons s r ih =>
    simp only [xorAt, List.foldl_cons] at *
    rw [ih, ih (0 ^^^ s.data.toList.getD j 0)]
    simp [UInt8.xor_assoc]
theorem xorAt_nil (j : Nat) : xorAt j [] = 0 := rfl
theorem xorAt_cons (j : Nat) (s : ByteArray) (r : List ByteArray) : xorAt j (s :: r) = s.data.toList.getD j 0 ^^^ xorAt j r := by
  have := xorAt_from j r (0 ^^^ s.data.toList.getD j 0)
  rw [xorAt, List.foldl_cons, this]
  simp
theorem xorAt_append (j : Nat) (a b : List ByteArray) : xorAt j (a ++ b) = xorAt j a ^^^ xorAt j b := by
  induction a with
  | nil => simp [xorAt_nil]
  | cons s r ih => rw [List.cons_append, xorAt_cons, xorAt_cons, ih, UInt8.xor_assoc]
theorem xorL_getD (m j : Nat) (ss : List ByteArray) (hj : j < m) : (xorL m ss).getD j 0 = xorAt j ss := by
  have gen : ∀ (acc : List UInt8), acc.length = m → (ss.foldl (fun acc s => mix acc s.data.toList m) acc).getD j 0 = acc.getD j 0 ^^^ xorAt j ss := by
    induction ss with
    | nil => intro acc _; simp [xorAt_nil]
    | cons s r ih =>
      intro acc h
      rw [List.foldl_cons, ih _ (by rw [mix_length]; exact h), xorAt_cons, ← UInt8.xor_assoc]
      congr 1
      have hl : j < (mix acc s.data.toList m).length := by rw [mix_length, h]; exact hj
      rw [List.getD_eq_getElem?_getD, List.getElem?_eq_getElem hl, mix_get _ _ _ _ (by rw [h]; exact hj), if_pos hj]
      rw [List.getD_eq_getElem?_getD (l := acc), List.getElem?_eq_getElem (l := acc) (by rw [h]; exact hj)]
      simp
  rw [xorL, gen _ (by simp)]
  have hz : (List.replicate m (0 : UInt8)).getD j 0 = 0 := by simp [List.getD_eq_getElem?_getD, hj]
  rw [hz]
  simp
theorem xorL_ext (m : Nat) (ss : List ByteArray) (l : List UInt8) (hl : l.length = m) (h : ∀ j, j < m → l.getD j 0 = xorAt j ss) : xorL m ss = l := by
  apply List.ext_getElem
  · rw [xorL_length, hl]
  · intro j h1 h2
    have hj : j < m := by rw [xorL_length] at h1; exact h1
    have e1 := xorL_getD m j ss hj
    rw [← h j hj, List.getD_eq_getElem?_getD, List.getElem?_eq_getElem h1, List.getD_eq_getElem?_getD, List.getElem?_eq_getElem h2] at e1
    simpa using e1
/-- the join as a text -/
def xorS (m : Nat) (ss : List ByteArray) : ByteArray := ⟨(xorL m ss).toArray⟩
theorem xorS_toList (m : Nat) (ss : List ByteArray) : (xorS m ss).data.toList = xorL m ss := rfl
theorem xorS_size (m : Nat) (ss : List ByteArray) : (xorS m ss).size = m := by
  show (xorL m ss).toArray.size = m
  simp [xorL_length]
theorem sums_two (m : Nat) (a b : List ByteArray) : xorL m [xorS m a, xorS m b] = xorL m (a ++ b) := by
  refine xorL_ext m _ _ (xorL_length _ _) fun j hj => ?_
  rw [xorL_getD m j _ hj, xorAt_append, xorAt_cons, xorAt_cons, xorAt_nil, xorS_toList, xorS_toList, xorL_getD m j _ hj, xorL_getD m j _ hj]
  simp
theorem sums_blank (m : Nat) (a : List ByteArray) : xorL m (a ++ [⟨(List.replicate m 0).toArray⟩]) = xorL m a := by
  refine xorL_ext m _ _ (xorL_length _ _) fun j hj => ?_
  rw [xorL_getD m j _ hj, xorAt_append, xorAt_cons, xorAt_nil]
  have hz : (List.replicate m (0 : UInt8)).getD j 0 = 0 := by simp [List.getD_eq_getElem?_getD, hj]
  show _ = xorAt j a ^^^ ((List.replicate m (0 : UInt8)).getD j 0 ^^^ 0)
  rw [hz]
  simp
theorem xorAt_all (q j : Nat) (l : List ByteArray) (hj : j < q) : xorAt j (l ++ [xorS q l]) = 0 := by
  rw [xorAt_append, xorAt_cons, xorAt_nil, xorS_toList, xorL_getD q j _ hj]
  simp
theorem ba_ext {a b : ByteArray} (h : a.data.toList = b.data.toList) : a = b := by
  cases a; cases b
  simp only [ByteArray.mk.injEq]
  exact Array.toList_inj.1 h
theorem xor3 (a x b : UInt8) (h : a ^^^ (x ^^^ b) = 0) : x = a ^^^ b := by
  have h2 : x ^^^ (a ^^^ b) = 0 := by rw [← h, ← UInt8.xor_assoc, UInt8.xor_comm x a, UInt8.xor_assoc]
  exact UInt8.xor_eq_zero_iff.1 h2
/-- whichever column is lost: the join of the others is it -/
theorem again_is (q k : Nat) (l : List ByteArray) (o : ByteArray) (hk : k ≤ l.length) (hs : ∀ s ∈ l, s.size = q) :
    xorS q (((l ++ [xorS q l]).set k o).take k ++ ((l ++ [xorS q l]).set k o).drop (k + 1)) = (l ++ [xorS q l]).getD k ByteArray.empty := by
  obtain ⟨all, hall⟩ : ∃ all, all = l ++ [xorS q l] := ⟨_, rfl⟩
  have hz : ∀ j, j < q → xorAt j all = 0 := by intro j hj; rw [hall]; exact xorAt_all q j l hj
  have hsz : ∀ s ∈ all, s.size = q := by
    intro s h
    rw [hall] at h
    rcases List.mem_append.1 h with h | h
    · exact hs s h
    · rw [List.mem_singleton.1 h]; exact xorS_size _ _
  have hkl : k < all.length := by rw [hall]; simp; omega
  rw [← hall]
  have e1 : (all.set k o).take k = all.take k := List.take_set_of_le (Nat.le_refl _)
  have e2 : (all.set k o).drop (k + 1) = all.drop (k + 1) := List.drop_set_of_lt (by omega)
  rw [e1, e2]
  have e3 : all = all.take k ++ all[k] :: all.drop (k + 1) := by rw [← List.drop_eq_getElem_cons hkl, List.take_append_drop]
  have e4 : all.getD k ByteArray.empty = all[k] := by rw [List.getD_eq_getElem?_getD, List.getElem?_eq_getElem hkl]; rfl
  rw [e4]
  apply ba_ext
  rw [xorS_toList]
  refine xorL_ext q _ _ (by have := hsz all[k] (List.getElem_mem _); exact this) fun j hj => ?_
  have := hz j hj
  rw [e3, xorAt_append, xorAt_cons] at this
  rw [xorAt_append]
  exact xor3 _ _ _ this
/-- what few looks at -/
def sumMin : List ByteArray → Int
  | [] => 0
  | s :: r => min (s.size : Int) 10000 + sumMin r
theorem sumMin_take_succ (ss : List ByteArray) (k : Nat) (h : k < ss.length) : sumMin (ss.take (k+1)) = sumMin (ss.take k) + min ((ss.getD k ByteArray.empty).size : Int) 10000 := by
  induction ss generalizing k with
  | nil => simp at h
  | cons a r ih =>
    cases k with
    | zero => simp [sumMin]
    | succ k => simp only [List.take_succ_cons, sumMin]; rw [ih k (by simpa using h)]; simp; omega
theorem sumMin_bd (ss : List ByteArray) : 0 ≤ sumMin ss ∧ sumMin ss ≤ ss.length * 10000 := by
  induction ss with
  | nil => simp [sumMin]
  | cons a r ih => simp only [sumMin, List.length_cons]; omega
/-- few -/
def fewB (ss : List ByteArray) : Bool := decide (ss.length < 30) && decide (sumMin (ss.take 30) ≤ 4000)
theorem few_len {ss : List ByteArray} (h : fewB ss = true) : ss.length < 30 := by simp [fewB] at h; exact h.1
theorem sumMin_mem {ss : List ByteArray} {s : ByteArray} (h : s ∈ ss) : min (s.size : Int) 10000 ≤ sumMin ss := by
  induction ss with
  | nil => cases h
  | cons a r ih =>
    have := sumMin_bd r
    rcases List.mem_cons.1 h with rfl | h
    · simp only [sumMin]; omega
    · have := ih h; simp only [sumMin]; omega
theorem few_size {ss : List ByteArray} (h : fewB ss = true) : ∀ s ∈ ss, s.size ≤ 4000 := by
  intro s hs
  have hl := few_len h
  simp [fewB] at h
  have h2 := h.2
  rw [List.take_of_length_le (by omega)] at h2
  have := sumMin_mem hs
  omega
end Go.Proofs.YtmnhdpojonlfhaaDoor
