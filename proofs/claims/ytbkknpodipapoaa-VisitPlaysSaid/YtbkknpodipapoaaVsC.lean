/- The walks of Clone and CompactFunc at pointers. -/
import Derived.Test.YtbkknpodipapoaaVsQ
import Derived.Lib.AppendZerosOnto
import Derived.Test.YtbkknpodipapoaaCore3
import Derived.Lib.SliceRun
namespace Go.Proofs.Ytbkknpodipapoaa
open Go.RowKit
set_option linter.unusedSimpArgs false
attribute [local go_sem ↓] Go.wp_at_zero Go.wp_at_succ


set_option maxRecDepth 100000 in
theorem clonePt_any (ao : Option Addr) (n cap : Nat) (cs : List Value) (w : World) (h : RSl w 12 ao n cap cs) (h1 : ∀ u ∈ cs, u.oneCell' = true) (hm : n ≤ 1000000000) :
    Calls Try.prog 23 #[.slice ao n cap] w fun e w' => ∃ v, e = .returned v ∧ w'.ownsRow w.heap.size 30 12 v n cs ∧ Below w.heap.size w w' := by
  obtain ⟨i0, hi, hi0, hi1, hi2⟩ := info_parts infoPt
  have he := fun (W : World) => Lib.run_eql_slice_nil (P := Try.prog) W 22 30 ao n cap 0 0 Try.underlying22
  cases ao with
  | none =>
    have hc : cap = 0 := h.2.2.2.1 rfl
    have hn : n = 0 := by have := h.2.1; omega
    subst hn
    subst hc
    have hcs : cs = [] := List.eq_nil_of_length_eq_zero (by have := h.1; simpa using this)
    subst hcs
    simp only [Option.isNone_none] at he
    clear h h1
    go_enter Try.func23, Try.ntmps23
    go_wp2_with fail
    go_ret
    exact ⟨_, rfl, World.ownsRow_nil _ _ _ _, Below.refl _ _⟩
  | some ad =>
    simp only [Option.isNone_some] at he
    have hmade := World.ownsRow_made (base := w.heap.size) (e := 30) (size := 12) w #[] 0 (Nat.le_refl _) (by unfold maxLen; omega) rfl
    have H := Lib.hid h
    have HN := Lib.hid (RSl.news (h.below ((Below.refl _ _).alloc (Nat.le_refl _) (.cells #[] 30))))
    have H1 := Lib.hid h1
    clear h h1
    go_enter Try.func23, Try.ntmps23
    go_wp2_with (at_builtin; refine wpList_append_own _ rfl (.tmp 5) (.tmp 6) 22 rfl w.heap.size 30 i0 (.agg #[.int .i64 0, .int .i64 0, .int .i64 0, .int .i64 0, .bool false, .int .i64 0, .int .i64 0, .int .i64 0, .int .u64 0, .int .u64 0, .int .u64 0, .int .u64 0]) 12 96 Try.underlying22 hi hi0 hi1 hi2 rfl (by decide) (.slice (some ⟨w.heap.size, 0, none⟩) 0 0) 0 [] rfl hmade ad n cap cs rfl (by rw [H.out.1]) HN.out H1.out (by unfold maxLen; omega) (by omega) (by simp) ?_; intro v1 w1 hown1 hgrow1 _; simp only [Nat.zero_add, List.nil_append] at hown1)
    go_ret
    exact ⟨_, rfl, hown1, below_own ((Below.refl _ _).alloc (Nat.le_refl _) _) hmade hgrow1 (by simp) (Nat.le_refl _)⟩

attribute [local go_sem ↓] wp_loadP wp_storeP quiet_loadP
theorem zeroP (w : World) : (zeroValue 30).run Try.prog w = .ok (.agg #[.int .i64 0, .int .i64 0, .int .i64 0, .int .i64 0, .bool false, .int .i64 0, .int .i64 0, .int .i64 0, .int .u64 0, .int .u64 0, .int .u64 0, .int .u64 0]) w := by kernel_rfl
/-- the places of those that are kept -/
def keepI (p : Nat → Bool) (n : Nat) : List Nat := (List.range n).filter fun j => !p j
theorem keepI_len (p : Nat → Bool) (n : Nat) : (keepI p n).length = cntK p n := rfl
theorem keepI_yes {p : Nat → Bool} {n : Nat} (h : p n = true) : keepI p (n + 1) = keepI p n := by
  unfold keepI; rw [List.range_succ, List.filter_append]; simp [h]
theorem keepI_no {p : Nat → Bool} {n : Nat} (h : p n = false) : keepI p (n + 1) = keepI p n ++ [n] := by
  unfold keepI; rw [List.range_succ, List.filter_append]; simp [h]
/-- those that are kept -/
def keepL (E : Nat → PtrT) (p : Nat → Bool) (n : Nat) : List PtrT := (keepI p n).map E
/-- the first places hold what is kept of the first n -/
def KeptTo (p : Nat → Bool) (f : Nat → Nat) (n : Nat) : Prop := ∀ t x, (keepI p n)[t]? = some x → f t = x
theorem KeptTo.yes {p : Nat → Bool} {f : Nat → Nat} {n : Nat} (h : KeptTo p f n) (hp : p n = true) : KeptTo p f (n + 1) := by
  unfold KeptTo; rw [keepI_yes hp]; exact h
theorem KeptTo.no {p : Nat → Bool} {f : Nat → Nat} {n : Nat} (h : KeptTo p f n) (hp : p n = false) : KeptTo p (upd f (cntK p n) n) (n + 1) := by
  intro t x hx
  rw [keepI_no hp, List.getElem?_append] at hx
  unfold upd
  split at hx
  · rename_i hl
    rw [keepI_len] at hl
    rw [if_neg (by omega)]
    exact h t x hx
  · rename_i hl
    rw [keepI_len] at hl hx
    by_cases e : t = cntK p n
    · rw [if_pos e]
      subst e
      simp at hx
      exact hx
    · rw [List.getElem?_eq_none (by simp; omega)] at hx
      cases hx
theorem KeptTo.all {p : Nat → Bool} {f : Nat → Nat} {n : Nat} (hf : ∀ t, t < n → f t = t) (h : ∀ j, j < n → p j = false) : KeptTo p f n := by
  have e : keepI p n = List.range n := by
    unfold keepI
    rw [List.filter_eq_self]
    intro a ha
    rw [h a (List.mem_range.1 ha)]
    rfl
  intro t x hx
  rw [e] at hx
  have hl := (List.getElem?_eq_some_iff.1 hx).1
  simp at hl
  simp [hl] at hx
  rw [hf t hl, hx]
theorem cnt_all {p : Nat → Bool} {n : Nat} (h : ∀ j, j < n → p j = false) : cntK p n = n := by
  have e : keepI p n = List.range n := by
    unfold keepI
    rw [List.filter_eq_self]
    intro a ha
    rw [h a (List.mem_range.1 ha)]
    rfl
  rw [← keepI_len, e, List.length_range]
theorem KeptTo.enc {p : Nat → Bool} {f : Nat → Nat} {n : Nat} (E : Nat → PtrT) (h : KeptTo p f n) : encE E f (cntK p n) = encPs (keepL E p n) := by
  rw [encE_ps]
  congr 1
  unfold keepL
  apply List.ext_getElem?
  intro t
  rw [List.getElem?_map, List.getElem?_map]
  by_cases ht : t < cntK p n
  · rw [List.getElem?_range ht]
    have hx : (keepI p n)[t]? = some ((keepI p n)[t]'(by rw [keepI_len]; exact ht)) := List.getElem?_eq_getElem _
    rw [hx, Option.map_some, Option.map_some, h t _ hx]
  · rw [List.getElem?_eq_none (by simp; omega), List.getElem?_eq_none (by rw [keepI_len]; omega)]
    rfl
/-- what is behind place m is cleared -/
theorem clear_facts {W : World} {base g n cap m : Nat} {el : Nat → PtrT} {f : Nat → Nat} (h : VRow W base g n cap el f) (hm : m < n) : ∃ z : List Value,
    Hid (∀ ty, (Builtin.clear_ #[22] ty #[.slice (some ⟨g, m * 12, none⟩) (n - m) (cap - m)]).run Try.prog W = .ok (.tuple #[]) (W.setCells g (m * 12) z)) ∧
    Hid (VRow (W.setCells g (m * 12) z) base g m cap el f) ∧ Hid (W.grownBy (W.setCells g (m * 12) z) (some g)) := by
  obtain ⟨cur, hblk, hbase, hnc, hcm, hcl, hct⟩ := owns_blk h
  have hel := encE_length el f n
  refine ⟨(Builtin.zeroCells (.agg #[.int .i64 0, .int .i64 0, .int .i64 0, .int .i64 0, .bool false, .int .i64 0, .int .i64 0, .int .i64 0, .int .u64 0, .int .u64 0, .int .u64 0, .int .u64 0] : Value).cells (n - m)).toList, Lib.hid fun ty => ?_, Lib.hid ?_, Lib.hid (setCells_grown _ _ _ _)⟩
  · exact run_clear_rows W _ _ ty _ Try.underlying22 zeroP 12 rfl (by decide) (by decide) g _ _ _ (by omega) (fun t ht => by rw [hblk.cell, List.getElem?_eq_getElem (by omega)]; rfl) (fun t ht => hblk.frozen _)
  · obtain ⟨z, hz⟩ : ∃ z, z = (Builtin.zeroCells (.agg #[.int .i64 0, .int .i64 0, .int .i64 0, .int .i64 0, .bool false, .int .i64 0, .int .i64 0, .int .i64 0, .int .u64 0, .int .u64 0, .int .u64 0, .int .u64 0] : Value).cells (n - m)).toList := ⟨_, rfl⟩
    have hzl : z.length = (n - m) * 12 := by rw [hz, Array.length_toList, size_zeroCells]; rfl
    rw [← hz]
    have h2 := hblk.setCells z (m * 12) (by rw [hzl]; omega)
    have h3 := blk_owns (base := base) (n := m) (cap := cap) (size := 12) h2 hbase (by omega) hcm (by simp only [List.length_append, List.length_take, List.length_drop, hzl]; omega)
    have h4 : (cur.take (m * 12)).length = m * 12 := by rw [List.length_take]; omega
    rw [List.append_assoc] at h3
    have h5 : (cur.take (m * 12) ++ (z ++ cur.drop (m * 12 + z.length))).take (m * 12) = cur.take (m * 12) := by
      conv => lhs; arg 1; rw [← h4]
      exact List.take_left
    have h6 : cur.take (m * 12) = encE el f m := by
      have e1 : cur.take (m * 12) = (encE el f n).take (m * 12) := by
        rw [← hct, List.take_take, Nat.min_eq_left (by omega)]
      rw [e1]
      apply List.ext_getElem?
      intro t
      by_cases ht : t < m * 12
      · rw [List.getElem?_take, if_pos ht, show t = t / 12 * 12 + t % 12 by omega, encE_get _ _ _ _ _ (by omega) (by omega), encE_get _ _ _ _ _ (by omega) (by omega)]
      · rw [List.getElem?_eq_none (by rw [List.length_take]; omega), List.getElem?_eq_none (by rw [encE_length]; omega)]
    rw [h5, h6] at h3
    exact h3
end Go.Proofs.Ytbkknpodipapoaa
