/- '==' of flat values of many cells: whether their cells are the same. -/
import Derived.Test.YtbhofablndjeoaaDoorOp
import Derived.DeepKeys
import Derived.Laws.StructEq
namespace Go.Proofs.YtbhofablndjeoaaDoor
open Go.RowKit

def LK.num : LK → Bool
  | .int _ | .bool => true
  | _ => false
def litOf : Value → List Lit
  | .int k n => [.int k n]
  | .bool b => [.bool b]
  | _ => []
def lits (cs : List Value) : List Lit := cs.flatMap litOf
theorem fits_split : ∀ {a b : List LK} {vs : List Value}, fits (a ++ b) vs → fits a (vs.take a.length) ∧ fits b (vs.drop a.length)
  | [], _, vs, h => ⟨by simp [fits], by simpa using h⟩
  | k :: a, b, [], h => by simp [fits] at h
  | k :: a, b, v :: vs, h => by
    have h2 : k.ok v ∧ fits (a ++ b) vs := h
    have := fits_split h2.2
    exact ⟨⟨h2.1, this.1⟩, by simpa using this.2⟩
theorem lits_inj : ∀ {ks : List LK} {xs ys : List Value}, ks.all LK.num = true → fits ks xs → fits ks ys → (lits xs = lits ys ↔ xs = ys)
  | [], [], [], _, _, _ => by simp
  | [], _ :: _, _, _, h, _ => by simp [fits] at h
  | [], _, _ :: _, _, _, h => by simp [fits] at h
  | _ :: _, [], _, _, h, _ => by simp [fits] at h
  | _ :: _, _, [], _, _, h => by simp [fits] at h
  | k :: ks, x :: xs, y :: ys, hn, hx, hy => by
    have ih := lits_inj (by simp at hn; simpa using hn.2) hx.2 hy.2
    have hk : k.num = true := by simp at hn; exact hn.1
    have e : ∀ v vs, lits (v :: vs) = litOf v ++ lits vs := fun v vs => by simp [lits]
    rw [e, e]
    cases k with
    | int q =>
      obtain ⟨a, rfl, _⟩ := hx.1
      obtain ⟨b, rfl, _⟩ := hy.1
      simp [litOf, ih]
    | bool =>
      obtain ⟨a, rfl⟩ := hx.1
      obtain ⟨b, rfl⟩ := hy.1
      simp [litOf, ih]
    | str => simp [LK.num] at hk
    | any => simp [LK.num] at hk
section
variable {P : Program}
theorem flatFields_lits {F : TypeId → Option (List LK)} {n : Nat} (hF : ∀ (t : TypeId) (ks : List LK) (cs : List Value), F t = some ks → P.keyTypeAt n t = true → ks.all LK.num = true → fits ks cs → P.keyLits n t cs = some (lits cs)) {cs : List Value} :
    ∀ (r : List Field) (o : Nat) (ks : List LK), flatFields P F r o = some ks → (∀ f ∈ r, P.keyTypeAt n f.type = true) → ks.all LK.num = true → fits ks ((cs.drop o).take ks.length) →
    ∃ Ls, r.mapM (fun f => P.keyLits n f.type ((cs.drop f.offset).take (P.cellsOf f.type))) = some Ls ∧ Ls.flatten = lits ((cs.drop o).take ks.length)
  | [], o, ks, h, _, _, _ => by
    simp only [flatFields, Option.some.injEq] at h
    subst h
    exact ⟨[], rfl, by simp [lits]⟩
  | f :: r, o, ks, h, hk, hn, hf => by
    unfold flatFields at h
    split at h
    · rename_i ho
      cases hl : F f.type with
      | none => rw [hl] at h; simp at h
      | some l =>
        rw [hl] at h
        dsimp only at h
        split at h
        · rename_i hc
          obtain ⟨ks', h1, rfl⟩ := Option.map_eq_some_iff.1 h
          rw [List.all_append, Bool.and_eq_true] at hn
          obtain ⟨f1, f2⟩ := fits_split hf
          rw [List.length_append, List.take_take, Nat.min_eq_left (by omega)] at f1
          rw [List.length_append, List.take_add, List.drop_left' (by have := fits_length f1; omega), List.drop_drop] at f2
          have h3 := hF _ _ _ hl (hk f (by simp)) hn.1 f1
          obtain ⟨Ls, h4, h5⟩ := flatFields_lits hF r (o + l.length) ks' h1 (fun g hg => hk g (by simp [hg])) hn.2 f2
          refine ⟨lits ((cs.drop o).take l.length) :: Ls, ?_, ?_⟩
          · rw [List.mapM_cons, ho, ← hc, h3, h4]
            rfl
          · rw [List.flatten_cons, h5, List.length_append, List.take_add, List.drop_drop]
            simp [lits]
        · simp at h
    · simp at h
theorem replicate_lits {l : List LK} {e : TypeId} {n : Nat} (hF : ∀ cs, fits l cs → P.keyLits n e cs = some (lits cs)) (hc : l.length = P.cellsOf e) (cs : List Value) : ∀ m, fits (List.replicate m l).flatten (cs.take (m * P.cellsOf e)) →
    ∃ Ls, (List.range m).mapM (fun i => P.keyLits n e ((cs.drop (i * P.cellsOf e)).take (P.cellsOf e))) = some Ls ∧ Ls.flatten = lits (cs.take (m * P.cellsOf e))
  | 0, _ => ⟨[], rfl, by simp [lits]⟩
  | m + 1, h => by
    have hlen : (List.replicate m l).flatten.length = m * P.cellsOf e := by rw [← hc]; simp
    rw [List.replicate_succ', List.flatten_append, Nat.succ_mul, List.take_add] at h
    obtain ⟨f1, f2⟩ := fits_split h
    have hl1 := fits_length h
    rw [List.length_append, List.length_append, hlen] at hl1
    have hlt : (cs.take (m * P.cellsOf e)).length ≤ m * P.cellsOf e := by simp; omega
    have hdl : ((cs.drop (m * P.cellsOf e)).take (P.cellsOf e)).length ≤ P.cellsOf e := by simp; omega
    have hl2 : ([l].flatten).length = P.cellsOf e := by simp [hc]
    have hlm : (cs.take (m * P.cellsOf e)).length = m * P.cellsOf e := by omega
    rw [hlen, List.take_left' hlm] at f1
    rw [hlen, List.drop_left' hlm] at f2
    have f2' : fits l ((cs.drop (m * P.cellsOf e)).take (P.cellsOf e)) := by simpa using f2
    obtain ⟨Ls, h4, h5⟩ := replicate_lits hF hc cs m f1
    refine ⟨Ls ++ [lits ((cs.drop (m * P.cellsOf e)).take (P.cellsOf e))], ?_, ?_⟩
    · rw [List.range_succ, List.mapM_append, h4]
      simp [hF _ f2']
    · rw [List.flatten_append, h5, Nat.succ_mul, List.take_add]
      simp [lits]
theorem flat_lits : ∀ (n : Nat) (t : TypeId) (ks : List LK) (cs : List Value), flat P n t = some ks → P.keyTypeAt n t = true → ks.all LK.num = true → fits ks cs → P.keyLits n t cs = some (lits cs)
  | 0, t, ks, cs, h, _, _, _ => by simp [flat] at h
  | n + 1, t, ks, cs, h, hk, hn, hf => by
    unfold flat at h
    unfold Program.keyTypeAt at hk
    split at h
    · rename_i k hu
      simp only [Option.some.injEq] at h
      subst h
      match cs, hf with
      | [v], hf =>
        obtain ⟨x, rfl, hw⟩ := hf.1
        simp [Program.keyLits, hu, hw, lits, litOf]
      | v :: u :: r, hf => exact (hf.2 : fits [] (u :: r)).elim
    · rename_i hu
      simp only [Option.some.injEq] at h
      subst h
      match cs, hf with
      | [v], hf =>
        obtain ⟨x, rfl⟩ := hf.1
        simp [Program.keyLits, hu, lits, litOf]
      | v :: u :: r, hf => exact (hf.2 : fits [] (u :: r)).elim
    · rename_i hu
      simp only [Option.some.injEq] at h
      subst h
      simp [LK.num] at hn
    · rename_i fs hu
      rw [hu] at hk
      simp only [Bool.and_eq_true] at hk
      have hk1 : ∀ f ∈ fs.toList, f.name != "_" ∧ P.keyTypeAt n f.type = true := by
        intro f hfm
        have := hk.1.1
        rw [Array.all_eq_true'] at this
        have h2 := this f (by simpa using hfm)
        simpa using h2
      split at h
      · rename_i l hl
        split at h
        · rename_i hlc
          simp only [Option.some.injEq] at h
          subst h
          have hlen := fits_length hf
          obtain ⟨Ls, h4, h5⟩ := flatFields_lits (cs := cs) (n := n) (fun t ks cs a b c d => flat_lits n t ks cs a b c d) fs.toList 0 l hl (fun f hfm => (hk1 f hfm).2) hn (by rw [List.drop_zero, List.take_of_length_le (by omega)]; exact hf)
          rw [List.drop_zero, List.take_of_length_le (by omega)] at h5
          have ha : fs.all (·.name != "_") = true := by
            rw [Array.all_eq_true']
            intro f hfm
            exact (hk1 f (by simpa using hfm)).1
          unfold Program.keyLits
          rw [hu]
          simp only []
          rw [if_pos ⟨by omega, ha⟩, h4]
          simp [h5]
        · simp at h
      · simp at h
    · rename_i m e hu
      rw [hu] at hk
      split at h
      · rename_i l hl
        split at h
        · rename_i hc
          simp only [Option.some.injEq] at h
          subst h
          have hlen := fits_length hf
          have hfl : (List.replicate m l).flatten.length = m * P.cellsOf e := by rw [← hc.1]; simp
          unfold Program.keyLits
          rw [hu]
          simp only []
          by_cases hm : m = 0
          · subst hm
            have : cs = [] := List.eq_nil_of_length_eq_zero (by rw [hlen]; simp)
            subst this
            rw [if_pos (by have := hc.2; simp at this ⊢; omega)]
            simp [lits]
          · have hnl : l.all LK.num = true := by
              obtain ⟨j, rfl⟩ : ∃ j, m = j + 1 := ⟨m - 1, by omega⟩
              rw [List.replicate_succ, List.flatten_cons, List.all_append, Bool.and_eq_true] at hn
              exact hn.1
            obtain ⟨Ls, h4, h5⟩ := replicate_lits (fun cs d => flat_lits n e l cs hl hk hnl d) hc.1 cs m (by rw [List.take_of_length_le (by omega)]; exact hf)
            rw [List.take_of_length_le (by omega)] at h5
            rw [if_pos (by omega), h4]
            simp [h5]
        · simp at h
      · simp at h
    · simp at h
/-- '==' of two values of a flat type of many cells -/
theorem run_eq_flat {n : Nat} {t : TypeId} {ks : List LK} {xs ys : List Value} (hf : flat P n t = some ks) (hk : P.keyTypeAt n t = true) (hn : ks.all LK.num = true) (hnn : n ≤ 10000)
    (hw : (match P.underlying t with | some (.array _ _) | some (.struct _) => true | _ => false) = true) (hc : P.cellsOf t = ks.length) (hx : fits ks xs) (hy : fits ks ys) (W : World) :
    ∃ r : Bool, (Op.equalIn 10000 t (.agg xs.toArray) (.agg ys.toArray)).run P W = .ok r W ∧ (r = true ↔ xs = ys) := by
  have hform : ∀ zs : List Value, fits ks zs → (Value.agg zs.toArray).formed P t = true := by
    intro zs hz
    have hl := fits_length hz
    unfold Value.formed
    split at hw <;> rename_i hu <;> first | (rw [hu]; simp [hl, hc]) | simp at hw
  obtain ⟨r, h1, h2⟩ := run_equalIn_deep (10000 - n) n t hk W n n (.agg xs.toArray) (.agg ys.toArray) _ _ (hform xs hx) (hform ys hy) (flat_lits n t ks xs hf hk hn hx) (flat_lits n t ks ys hf hk hn hy)
  rw [show 10000 - n + n = 10000 by omega] at h1
  exact ⟨r, h1, h2.trans (lits_inj hn hx hy)⟩
end
end Go.Proofs.YtbhofablndjeoaaDoor
