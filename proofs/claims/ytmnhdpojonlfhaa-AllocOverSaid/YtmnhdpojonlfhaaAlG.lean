/- What one does, as a function of a book's state. -/
import Derived.Test.YtmnhdpojonlfhaaAl1
namespace Go.Proofs.Ytmnhdpojonlfhaa
open Go.RowKit

abbrev SN := List (Nat × List (Nat × Nat))
def st2 (ms : List MT) : SN := ms.map (·.2)
def sD : Nat × List (Nat × Nat) := (0, [])
def mkM (sn : SN) : List MT := sn.map fun x => (0, x)
theorem mkM_get (ms : List MT) (y : Nat) : ((mkM (st2 ms)).getD y mD).2 = (ms.getD y mD).2 := by
  simp only [mkM, st2, List.getD_eq_getElem?_getD, List.getElem?_map]
  cases ms[y]? <;> rfl
theorem st2_get (ms : List MT) (y : Nat) : (st2 ms).getD y sD = (ms.getD y mD).2 := by
  simp only [st2, List.getD_eq_getElem?_getD, List.getElem?_map]
  cases ms[y]? <;> rfl
theorem st2_length (ms : List MT) : (st2 ms).length = ms.length := by simp [st2]
def cmpA (sn : SN) (last : Int) (x y : Nat) : Int := cmpS (mkM sn) last x y
theorem cmpA_st (ms : List MT) (last : Int) : cmpA (st2 ms) last = cmpS ms last := by
  funext x y
  have hl : ∀ y, leftM ((mkM (st2 ms)).getD y mD) = leftM (ms.getD y mD) := fun y => by unfold leftM; rw [mkM_get]
  simp only [cmpA, cmpS, hl]
def findA (gs : Gs) (secs : Int) (sn : SN) (es : List Nat) (size : Int) (g : Nat) : Option Nat := findS (sn.getD g sD).1 (sn.getD g sD).2 (takesI gs secs g size) (es.getD g 0 : Nat)
theorem findA_st (gs : Gs) (secs : Int) (ms : List MT) (es : List Nat) (size : Int) (g : Nat) : findA gs secs (st2 ms) es size g = findG gs secs ms es size g := by
  unfold findA findG
  rw [st2_get]
open Classical in
noncomputable def ordA (sn : SN) (last : Int) (n : Nat) : Nat → Nat := if h : ∃ f, Once n n f ∧ SortedTo (cmpA sn last) f n then Classical.choose h else id
theorem cmpA_tot (sn : SN) (last : Int) {x y : Nat} (h : x ≠ y) : cmpA sn last x y < 0 ∨ cmpA sn last y x < 0 := by
  unfold cmpA
  rw [cmpS_neg, cmpS_neg]
  omega
theorem ordA_is {sn : SN} {last : Int} {n : Nat} {f : Nat → Nat} (ho : Once n n f) (hs : SortedTo (cmpA sn last) f n) : Once n n (ordA sn last n) ∧ SortedTo (cmpA sn last) (ordA sn last n) n ∧ ∀ i, i < n → ordA sn last n i = f i := by
  have h : ∃ f, Once n n f ∧ SortedTo (cmpA sn last) f n := ⟨f, ho, hs⟩
  have he : ordA sn last n = Classical.choose h := by unfold ordA; rw [dif_pos h]
  have hc := Classical.choose_spec h
  rw [he]
  exact ⟨hc.1, hc.2, sorted_uniq hc.1 ho hc.2 hs (fun x y _ _ hne => cmpA_tot sn last hne)⟩
noncomputable def oneA (gs : Gs) (secs : Int) (sn : SN) (es : List Nat) (size last : Int) : Option (Nat × Nat) :=
  (List.range gs.length).findSome? fun j => (findA gs secs sn es size (ordA sn last gs.length j)).map fun a => (ordA sn last gs.length j, a)
theorem findSome_first {β : Type} {p : Nat → Option β} : ∀ (n i : Nat) (b : β), i < n → (∀ j, j < i → p j = none) → p i = some b → (List.range n).findSome? p = some b := by
  intro n
  induction n with
  | zero => intro i b h; omega
  | succ n ih =>
    intro i b h hn hp
    rw [List.range_succ, List.findSome?_append]
    rcases Nat.lt_or_ge i n with h1 | h1
    · rw [ih i b h1 hn hp]; rfl
    · have : i = n := by omega
      subst this
      have : (List.range i).findSome? p = none := by
        rw [List.findSome?_eq_none_iff]
        intro x hx
        exact hn x (List.mem_range.1 hx)
      rw [this]
      simp [hp]
theorem findSome_none {β : Type} {p : Nat → Option β} (n : Nat) (h : ∀ j, j < n → p j = none) : (List.range n).findSome? p = none := by
  rw [List.findSome?_eq_none_iff]
  intro x hx
  exact h x (List.mem_range.1 hx)
/-- what a take leaves -/
def putS (gs : Gs) (secs : Int) (sn : SN) (size : Int) (x : Nat × Nat) : SN := sn.set x.1 ((sn.getD x.1 sD).1, (takeS (sn.getD x.1 sD).1 (sn.getD x.1 sD).2 (x.2 : Nat) (takesI gs secs x.1 size)).2)
def putE (gs : Gs) (secs : Int) (es : List Nat) (size : Int) (x : Nat × Nat) : List Nat := es.set x.1 (x.2 + (takesI gs secs x.1 size).toNat)

def placeV (x : Nat × Nat) : Value := .agg #[.int .i64 x.1, .int .i64 x.2]
/-- what one does, as a function -/
def OneFn (w : World) (bb eb : Nat) (gs : Gs) (secs : Int) (ms : List MT) (es : List Nat) (size last : Int) (e : Ending) (w' : World) : Prop :=
  (oneA gs secs (st2 ms) es size last = none ∧ e = .returned (.tuple #[.agg #[.int .i64 0, .int .i64 0], .bool false]) ∧ Below w.heap.size w w') ∨
  ∃ x, oneA gs secs (st2 ms) es size last = some x ∧ x.1 < gs.length ∧ e = .returned (.tuple #[.agg #[.int .i64 (x.1 : Nat), .int .i64 (x.2 : Nat)], .bool true]) ∧
    ∃ ms', st2 ms' = putS gs secs (st2 ms) size x ∧ ms'.map (·.1) = ms.map (·.1) ∧ IsBook w' bb eb gs secs ms' (putE gs secs es size x) ∧ Mod (foot bb eb ms) w w'
theorem one_fn {w : World} {bb eb : Nat} {gs : Gs} {secs : Int} {ms : List MT} {es : List Nat} {size last : Int} {e : Ending} {w' : World} (h : OneIs w bb eb gs secs ms es size last e w') : OneFn w bb eb gs secs ms es size last e w' := by
  obtain ⟨f, ho, hs, h⟩ := h
  rw [← cmpA_st] at hs
  obtain ⟨h1, _, h3⟩ := ordA_is ho hs
  have hp : ∀ j, j < gs.length → findA gs secs (st2 ms) es size (ordA (st2 ms) last gs.length j) = findG gs secs ms es size (f j) := fun j hj => by rw [findA_st, h3 j hj]
  rcases h with ⟨i, a, hi, hn, hf, rfl, hb, hm⟩ | ⟨hn, rfl, hb⟩
  · refine .inr ⟨(f i, a), findSome_first _ i _ hi (fun j hj => ?_) ?_, ho.lt i hi, rfl, _, ?_, set_map_fst _ _ _, hb, hm⟩
    · rw [hp j (by omega), hn j hj]; rfl
    · rw [hp i hi, hf, h3 i hi]; rfl
    · unfold st2 putS
      rw [List.map_set]
      have : (ms.map (·.2)).getD (f i) sD = (ms.getD (f i) mD).2 := st2_get ms (f i)
      rw [this]
  · refine .inl ⟨findSome_none _ fun j hj => ?_, rfl, hb⟩
    rw [hp j hj, hn j hj]; rfl
theorem one_book' (bb eb : Nat) (gs : Gs) (secs : Int) (ms : List MT) (es : List Nat) (size last : Int) (w : World) (h : IsBook w bb eb gs secs ms es) (hs1 : 1 ≤ size) (hs2 : size ≤ 4) :
    Calls Try.prog 96 #[.pointer (some ⟨bb, 0, none⟩), .int .i64 size, .int .i64 last] w (OneFn w bb eb gs secs ms es size last) :=
  (one_book bb eb gs secs ms es size last w h hs1 hs2).mono fun _ _ h => one_fn h
theorem foot_fst {bb eb : Nat} {ms ms' : List MT} (h : ms'.map (·.1) = ms.map (·.1)) : foot bb eb ms' = foot bb eb ms := by
  funext k
  unfold foot
  rw [h]

/-- what Get answers and leaves -/
structure GetR where
  p : Nat × Nat
  q : Nat × Nat
  err : Nat
  sn : SN
  es : List Nat
noncomputable def getA (gs : Gs) (secs : Int) (sn : SN) (es : List Nat) (size : Int) (two : Bool) : GetR :=
  if 1 ≤ size ∧ size ≤ 4 then
    match oneA gs secs sn es size (-1) with
    | none => ⟨(0, 0), (0, 0), 8, sn, es⟩
    | some x =>
      if two = true then
        match oneA gs secs (putS gs secs sn size x) (putE gs secs es size x) size (x.1 : Nat) with
        | none => ⟨(0, 0), (0, 0), 8, sn, es⟩
        | some y => ⟨x, y, 0, putS gs secs (putS gs secs sn size x) size y, putE gs secs (putE gs secs es size x) size y⟩
      else ⟨x, (0, 0), 0, putS gs secs sn size x, putE gs secs es size x⟩
  else ⟨(0, 0), (0, 0), 1, sn, es⟩
/-- what Get does -/
def GetFn (w : World) (bb eb : Nat) (gs : Gs) (secs : Int) (ms : List MT) (r : GetR) (e : Ending) (w' : World) : Prop :=
  e = .returned (.tuple #[.agg #[.int .i64 (r.p.1 : Nat), .int .i64 (r.p.2 : Nat)], .agg #[.int .i64 (r.q.1 : Nat), .int .i64 (r.q.2 : Nat)], .int .i64 (r.err : Nat)]) ∧
  ∃ eb' ms', IsBook w' bb eb' gs secs ms' r.es ∧ st2 ms' = r.sn ∧ (∀ k, foot bb eb' ms' k → foot bb eb ms k ∨ w.heap.size ≤ k) ∧ Mod (foot bb eb ms) w w'

theorem cpM_st2 (ms : List MT) (bs : List Nat) : st2 (cpM ms bs) = st2 ms := by
  apply List.ext_getElem
  · simp [st2, cpM]
  · intro j h1 h2
    simp only [st2, List.length_map] at h2
    simp [st2, cpM, List.getD, h2]

theorem results_cell2_tmp {P : Program} {fn : Func} {p q u : Tmp} {ty : TypeId} (h : fn.results = #[.cell p ty, .cell q ty, .tmp u]) (tmps : Array Value) (w : World) (g g2 : Nat) (t : TypeId) (cs cs2 : Array Value) (fr fr2 : Nat × Nat) (d : TypeDesc)
    (hp : tmps.getD p undef = .pointer (some ⟨g, 0, none⟩)) (hp2 : tmps.getD q undef = .pointer (some ⟨g2, 0, none⟩)) (hg : w.heap[g]? = some (.cells cs t fr)) (hg2 : w.heap[g2]? = some (.cells cs2 t fr2))
    (hu : P.underlying ty = some d) (hd : (match d with | .struct _ | .array _ _ => true | _ => false) = true) (hi : (P.info? ty).map (·.size) = some cs.size) (hi2 : (P.info? ty).map (·.size) = some cs2.size) :
    (results fn tmps).run P w = .ok (.tuple #[.agg cs, .agg cs2, tmps.getD u undef]) w := by
  have hp' : tmps[p]?.getD undef = .pointer (some ⟨g, 0, none⟩) := by simpa using hp
  have hp2' : tmps[q]?.getD undef = .pointer (some ⟨g2, 0, none⟩) := by simpa using hp2
  simp [results, h, hp', hp2', asAddr, run_loadVar_row w g t ty cs fr d hg hu hd hi, run_loadVar_row w g2 t ty cs2 fr2 d hg2 hu hd hi2]

section
variable {w : World} {bb eb : Nat} {gs : Gs} {secs : Int} {ms : List MT} {es : List Nat}
/-- a book is put back from another one -/
theorem IsBook.restore {cb ce : Nat} {esc : List Nat} {msc : List MT} {gv mv : Value} {ec : Nat} {old : List Value} (hc : IsBook w cb ce gs secs msc esc) (hb : Blk w bb 145 old) (ho : old.length = 4)
    (h0 : w.cell? ⟨cb, 0, none⟩ = some gv) (h2 : w.cell? ⟨cb, 2, none⟩ = some mv) (h3 : w.cell? ⟨cb, 3, none⟩ = some (.slice (some ⟨ce, 0, none⟩) gs.length ec)) :
    IsBook ((((w.setCell ⟨bb, 0, none⟩ gv).setCell ⟨bb, 1, none⟩ (.int .i64 secs)).setCell ⟨bb, 2, none⟩ mv).setCell ⟨bb, 3, none⟩ (.slice (some ⟨ce, 0, none⟩) gs.length ec)) bb ce gs secs msc esc := by
  obtain ⟨gv', mv', ec', a1, a2, a3, a4⟩ := hc.mem
  obtain ⟨o0, o1, o2, o3, rfl⟩ : ∃ a b c d, old = [a, b, c, d] := by
    match old, ho with
    | [a, b, c, d], _ => exact ⟨a, b, c, d, rfl⟩
  have e0 := a1.cell 0
  have e2 := a1.cell 2
  have e3 := a1.cell 3
  rw [h0] at e0
  rw [h2] at e2
  rw [h3] at e3
  simp only [List.getElem?_cons_zero, List.getElem?_cons_succ, Option.some.injEq, Value.slice.injEq, true_and] at e0 e2 e3
  subst e0 e2 e3
  have b1 := hb.setCell 0 gv
  have b2 := b1.setCell 1 (.int .i64 secs)
  have b3 := b2.setCell 2 mv
  have b4 := b3.setCell 3 (.slice (some ⟨ce, 0, none⟩) gs.length ec)
  refine ⟨hc.right, hc.mlen, hc.elen, ⟨gv, mv, ec, b4, ?_, ?_, ?_⟩, fun m hm => ?_, hc.nodup⟩
  · exact owns_setCell_other (owns_setCell_other (owns_setCell_other (owns_setCell_other a2 hb (by decide)) b1 (by decide)) b2 (by decide)) b3 (by decide)
  · exact owns_setCell_other (owns_setCell_other (owns_setCell_other (owns_setCell_other a3 hb (by decide)) b1 (by decide)) b2 (by decide)) b3 (by decide)
  · exact owns_setCell_other (owns_setCell_other (owns_setCell_other (owns_setCell_other a4 hb (by decide)) b1 (by decide)) b2 (by decide)) b3 (by decide)
  · exact ((((hc.maps m hm).setOther hb (by decide) (by decide)).setOther b1 (by decide) (by decide)).setOther b2 (by decide) (by decide)).setOther b3 (by decide) (by decide)
end
end Go.Proofs.Ytmnhdpojonlfhaa
