/- Flat values as they come in: their cells by kind, out of the reading; slices of them. -/
import Derived.Test.YtbhofablndjeoaaDoorCore2
import Derived.Deep.Slices
import Derived.Lib.SmallJoins
import Derived.ChangeSame
import Derived.ChangeArms
import Derived.OpenShut
namespace Go.Proofs.YtbhofablndjeoaaDoor
open Go.RowKit Go.ChangeShapes Go.WideShapes Go.Deep

/-- kinds of a cell -/
inductive LK where
  | int (k : IntKind) | bool | str | any
def LK.ok : LK → Value → Prop
  | .int k, v => ∃ n, v = .int k n ∧ (Lit.int k n).wf = true
  | .bool, v => ∃ b, v = .bool b
  | .str, v => ∃ s, v = .string s
  | .any, _ => True
def fits : List LK → List Value → Prop
  | [], [] => True
  | k :: ks, v :: vs => k.ok v ∧ fits ks vs
  | _, _ => False
theorem fits_length : ∀ {ks : List LK} {vs : List Value}, fits ks vs → vs.length = ks.length
  | [], [], _ => rfl
  | _ :: _, _ :: _, h => by simp [fits_length h.2]
theorem fits_append : ∀ {a : List LK} {b : List LK} {x y : List Value}, fits a x → fits b y → fits (a ++ b) (x ++ y)
  | [], _, [], _, _, hb => hb
  | _ :: _, _, _ :: _, _, ha, hb => ⟨ha.1, fits_append ha.2 hb⟩
theorem fits_any : ∀ (vs : List Value), fits (List.replicate vs.length .any) vs
  | [] => trivial
  | _ :: vs => ⟨trivial, fits_any vs⟩

section
variable (P : Program)
def flatFields (F : TypeId → Option (List LK)) : List Field → Nat → Option (List LK)
  | [], _ => some []
  | f :: r, o =>
    if f.offset = o then
      match F f.type with
      | some l => if l.length = P.cellsOf f.type then (flatFields F r (o + l.length)).map (l ++ ·) else none
      | none => none
    else none
def flat : Nat → TypeId → Option (List LK)
  | 0, _ => none
  | n + 1, t =>
    match P.underlying t with
    | some (.int k) => some [.int k]
    | some .bool => some [.bool]
    | some .string => some [.str]
    | some (.struct fs) => match flatFields P (flat n) fs.toList 0 with
      | some l => if l.length = P.cellsOf t then some l else none
      | none => none
    | some (.array m e) => match flat n e with
      | some l => if l.length = P.cellsOf e ∧ m * P.cellsOf e = P.cellsOf t then some (List.replicate m l).flatten else none
      | none => none
    | _ => none
end

section
variable {H : Type} {enc : TypeId × Value → H} {P : Program} {W : World} {base : Nat} {spare : Nat → Bool} {held : Bool}
theorem flatFields_fits {F : TypeId → Option (List LK)} (hF : ∀ (t : TypeId) (ks : List LK) (n : Nat) (cs : List Value) (x : DataW H × List MemPlace), F t = some ks → DataW.trod enc P W base spare held n t cs = some x → fits ks cs)
    {n : Nat} {cs : List Value} : ∀ (r : List Field) (o : Nat) (ks : List LK), flatFields P F r o = some ks → (∀ f ∈ r, ∃ x, DataW.trod enc P W base spare held n f.type ((cs.drop f.offset).take (P.cellsOf f.type)) = some x) →
    fits ks ((cs.drop o).take ks.length)
  | [], o, ks, h, _ => by
    simp only [flatFields, Option.some.injEq] at h
    subst h
    simp [fits]
  | f :: r, o, ks, h, hx => by
    unfold flatFields at h
    split at h
    · rename_i ho
      cases hl : F f.type with
      | none => rw [hl] at h; simp at h
      | some l =>
        rw [hl] at h
        dsimp only at h
        split at h
        · rename_i hc
          obtain ⟨ks', h1, rfl⟩ := Option.map_eq_some_iff.1 h
          obtain ⟨x, h2⟩ := hx f (by simp)
          have f1 := hF _ _ _ _ _ hl h2
          have f2 := flatFields_fits hF r (o + l.length) ks' h1 (fun g hg => hx g (by simp [hg]))
          rw [ho, ← hc] at f1
          have f3 := fits_append f1 f2
          rw [List.length_append, List.take_add, List.drop_drop]
          exact f3
        · simp at h
    · simp at h
theorem replicate_fits {l : List LK} {c : Nat} (hl : l.length = c) {cs : List Value} : ∀ m, (∀ i, i < m → fits l ((cs.drop (i * c)).take c)) → fits (List.replicate m l).flatten (cs.take (m * c))
  | 0, _ => by simp [fits]
  | m + 1, h => by
    have h1 := replicate_fits hl m (fun i hi => h i (by omega))
    have h2 := h m (by omega)
    rw [List.replicate_succ', List.flatten_append, Nat.succ_mul, List.take_add]
    exact fits_append h1 (by simpa using h2)
theorem flat_fits : ∀ (n : Nat) (t : TypeId) (ks : List LK) (m : Nat) (cs : List Value) (x : DataW H × List MemPlace), flat P n t = some ks → DataW.trod enc P W base spare held m t cs = some x → fits ks cs ∧ cs.length = ks.length
  | 0, t, ks, m, cs, x, h, _ => by simp [flat] at h
  | n + 1, t, ks, m, cs, x, h, hx => by
    have ih : ∀ (t : TypeId) (ks : List LK) (m : Nat) (cs : List Value) (x : DataW H × List MemPlace), flat P n t = some ks → DataW.trod enc P W base spare held m t cs = some x → fits ks cs := fun t ks m cs x h1 h2 => (flat_fits n t ks m cs x h1 h2).1
    have key : fits ks cs := by
      unfold flat at h
      split at h
      · rename_i k hu
        simp only [Option.some.injEq] at h
        subst h
        obtain ⟨v, rfl, _, hw⟩ := DataW.trod_int hu hx
        exact ⟨⟨v, rfl, hw⟩, trivial⟩
      · rename_i hu
        simp only [Option.some.injEq] at h
        subst h
        obtain ⟨b, rfl, _⟩ := DataW.trod_bool hu hx
        exact ⟨⟨b, rfl⟩, trivial⟩
      · rename_i hu
        simp only [Option.some.injEq] at h
        subst h
        obtain ⟨s, rfl, _⟩ := DataW.trod_string hu hx
        exact ⟨⟨s, rfl⟩, trivial⟩
      · rename_i fs hu
        split at h
        · rename_i l hl
          split at h
          · rename_i hlc
            simp only [Option.some.injEq] at h
            subst h
            obtain ⟨xs, k, _, _, hcl, hxl, hf⟩ := DataW.trod_struct hu hx
            have hfit := flatFields_fits (cs := cs) (n := k) ih fs.toList 0 l hl (fun f hfm => by
              obtain ⟨i, hi, rfl⟩ := List.mem_iff_getElem.1 hfm
              have hi' : i < fs.size := by simpa using hi
              refine ⟨xs[i]'(by omega), ?_⟩
              rw [hf i _ (by simp [hi'])]
              exact List.getElem?_eq_getElem _)
            rwa [List.drop_zero, hlc, ← hcl, List.take_length] at hfit
          · simp at h
        · simp at h
      · rename_i k e hu
        split at h
        · rename_i l hl
          split at h
          · rename_i hlc
            simp only [Option.some.injEq] at h
            subst h
            obtain ⟨xs, k', _, _, hcl, hxl, hf⟩ := DataW.trod_array hu hx
            have hfit := replicate_fits hlc.1 (cs := cs) k (fun i hi => by
              have := hf i hi
              rw [List.getElem?_eq_getElem (by omega)] at this
              exact ih _ _ _ _ _ hl this)
            rwa [hlc.2, ← hcl, List.take_length] at hfit
          · simp at h
        · simp at h
      · simp at h
    exact ⟨key, fits_length key⟩

/-- a slice of flat values as it comes in -/
theorem open_flat {t e : TypeId} {n K : Nat} {ks : List LK} (ht : P.underlying t = some (.slice e)) (hk : flat P n e = some ks) (hK : ks.length = K) (hc : P.cellsOf e = K) (hK1 : 0 < K) {a : Option Addr} {len cap : Nat} {d : DataW H} {p : List MemPlace}
    (h : DataW.Trod enc P W base spare held t (.slice a len cap) d p) : ∃ g : Nat → List Value, RSl W K a len cap ((List.range len).map g).flatten ∧ ∀ i, i < len → fits ks (g i) := by
  obtain ⟨fuel, hf⟩ := h
  rcases open_slice ht hf with ⟨hcs, _⟩ | ⟨ad, l, c, m, k, D, Pl, hcs, hb, hl, hm, hmm, hx, hi⟩
  · simp [Value.cells] at hcs
    obtain ⟨rfl, rfl, rfl⟩ := hcs
    exact ⟨fun _ => [], RSl.nil W K, fun i hi => by omega⟩
  · simp [Value.cells] at hcs
    obtain ⟨rfl, rfl, rfl⟩ := hcs
    have hlm : len ≤ m := by rw [hmm]; split <;> omega
    have each : ∀ i, i < len → ∃ r : List Value, fits ks r ∧ (∀ j, j < K → W.cell? (ad.add (i * K + j)) = r[j]?) := by
      intro i hil
      obtain ⟨cs', hcc, ht'⟩ := hi i (by omega)
      rw [hc] at hcc
      obtain ⟨_, hcl, hat⟩ := World.cells?_some hcc
      refine ⟨cs', (flat_fits _ _ _ _ _ _ hk ht').1, fun j hj => ?_⟩
      have := hat j (by omega)
      rwa [add_add] at this
    obtain ⟨q, hq⟩ := choose_lt each
    have hlen : ∀ i, i < len → (q i).length = K := fun i hi => by rw [fits_length (hq i hi).1, hK]
    have hflen : ∀ n, n ≤ len → (((List.range n).map q).flatten).length = n * K := by
      intro n hn
      induction n with
      | zero => simp
      | succ n ih => rw [List.range_succ, List.map_append, List.flatten_append, List.length_append, ih (by omega)]; simp [hlen n (by omega), Nat.succ_mul]
    have hfget : ∀ n, n ≤ len → ∀ i j, i < n → j < K → (((List.range n).map q).flatten)[i * K + j]? = (q i)[j]? := by
      intro n hn
      induction n with
      | zero => intro i j hi; omega
      | succ n ih =>
        intro i j hi hj
        rw [List.range_succ, List.map_append, List.flatten_append]
        rcases Nat.lt_or_ge i n with h1 | h1
        · have h2 : (i + 1) * K ≤ n * K := Nat.mul_le_mul_right K h1
          rw [Nat.succ_mul] at h2
          rw [List.getElem?_append_left (by rw [hflen n (by omega)]; omega)]
          exact ih (by omega) i j h1 hj
        · obtain rfl : i = n := by omega
          rw [List.getElem?_append_right (by rw [hflen i (by omega)]; omega), hflen i (by omega)]
          simp
    refine ⟨q, ⟨hflen len (Nat.le_refl _), hl, hm, fun e => by simp at e, fun hn => ?_⟩, fun i hi => (hq i hi).1⟩
    obtain ⟨b, off, spot⟩ := ad
    have h0 := (hq 0 hn).2 0 hK1
    have hl0 := hlen 0 hn
    rw [List.getElem?_eq_getElem (by omega)] at h0
    have hs : spot = none := by
      cases spot with
      | none => rfl
      | some s => simp [Addr.add, World.cell?] at h0; split at h0 <;> simp at h0
    subst hs
    refine ⟨b, off, rfl, block_lt_of_cell (a := ⟨b, off, none⟩) (by simpa [Addr.add] using h0), fun j hj => ?_⟩
    have hk1 : j / K < len := Nat.div_lt_of_lt_mul (by rwa [Nat.mul_comm] at hj)
    have hjm : j % K < K := Nat.mod_lt _ hK1
    have hdm : j / K * K + j % K = j := by rw [Nat.mul_comm]; exact Nat.div_add_mod j K
    have h1 := (hq (j / K) hk1).2 (j % K) hjm
    have h2 := hfget len (Nat.le_refl _) (j / K) (j % K) hk1 hjm
    rw [hdm] at h1 h2
    have hadd : (⟨b, off, none⟩ : Addr).add j = ⟨b, off + j, none⟩ := by unfold Addr.add; split <;> simp_all
    rw [h2, ← h1, hadd]
end

theorem flat_get {α : Type} {f : α → List Value} {K : Nat} (hf : ∀ a, (f a).length = K) : ∀ (l : List α) (i j : Nat) (d : α), i < l.length → j < K → (l.flatMap f)[i * K + j]? = (f (l.getD i d))[j]?
  | [], i, j, d, hi, _ => by simp at hi
  | a :: l, 0, j, d, _, hj => by
    rw [List.flatMap_cons, Nat.zero_mul, Nat.zero_add, List.getElem?_append_left (by rw [hf]; exact hj)]
    simp
  | a :: l, i + 1, j, d, hi, hj => by
    have ih := flat_get hf l i j d (by simpa using hi) hj
    rw [List.flatMap_cons, List.getElem?_append_right (by rw [hf, Nat.succ_mul]; omega), hf, show (i + 1) * K + j - K = i * K + j by rw [Nat.succ_mul]; omega, ih]
    simp
end Go.Proofs.YtbhofablndjeoaaDoor
