/- A set of marks in memory: map[Mark]bool. -/
import Derived.Test.YtbkknpodipapoaaBigE
import Derived.MapKept
namespace Go.Proofs.Ytbkknpodipapoaa
open Go.RowKit Go.MapKept
set_option linter.unusedSimpArgs false

/-- the entries of a set of marks -/
def entsM : Nat → List MarkT → List MapEntry
  | _, [] => []
  | i, m :: r => ⟨.agg (encM m).toArray, .bool true, i⟩ :: entsM (i + 1) r
theorem entsM_length : ∀ (ks : List MarkT) (i : Nat), (entsM i ks).length = ks.length
  | [], _ => rfl
  | _ :: r, i => by simp [entsM, entsM_length r (i + 1)]
theorem entsM_append : ∀ (ks : List MarkT) (i : Nat) (m : MarkT), entsM i (ks ++ [m]) = entsM i ks ++ [⟨.agg (encM m).toArray, .bool true, i + ks.length⟩]
  | [], _, _ => rfl
  | k :: r, i, m => by
    show _ :: entsM (i + 1) (r ++ [m]) = _
    rw [entsM_append r (i + 1) m]
    simp [entsM, Nat.add_comm 1, Nat.add_assoc]
theorem entsM_get : ∀ (ks : List MarkT) (i j : Nat) (h : j < ks.length), (entsM i ks)[j]? = some ⟨.agg (encM ks[j]).toArray, .bool true, i + j⟩
  | [], _, _, h => by simp at h
  | k :: r, i, 0, _ => by simp [entsM]
  | k :: r, i, j + 1, h => by
    have := entsM_get r (i + 1) j (by simpa using h)
    simp only [entsM, List.getElem?_cons_succ, this, List.getElem_cons_succ]
    simp [Nat.add_assoc, Nat.add_comm 1]
/-- block g is a set that holds these marks -/
def MapM (w : World) (g : Nat) (ks : List MarkT) : Prop := w.heap[g]? = some (.map (entsM 0 ks).toArray ks.length)
theorem MapM.lt {w : World} {g : Nat} {ks : List MarkT} (h : MapM w g ks) : g < w.heap.size := (Array.getElem?_eq_some_iff.1 h).1
theorem MapM.below {w w' : World} {g : Nat} {ks : List MarkT} (h : MapM w g ks) (hb : Below w.heap.size w w') : MapM w' g ks := by
  unfold MapM
  rw [hb.block g h.lt]
  exact h
theorem MapM.new (w : World) : MapM (w.alloc (.map #[] 0)) w.heap.size [] := heap_alloc_new w _
def addM (ks : List MarkT) (m : MarkT) : List MarkT := if m ∈ ks then ks else ks ++ [m]
theorem mem_addM (ks : List MarkT) (m x : MarkT) : x ∈ addM ks m ↔ x ∈ ks ∨ x = m := by
  unfold addM
  split
  · rename_i h
    exact ⟨.inl, fun h' => h'.elim id (fun e => e ▸ h)⟩
  · simp
theorem run_check_mark (e : Bool) (m : MarkT) (W : World) : (Instr.checkKey e 10000 34 (.agg (encM m).toArray)).run Try.prog W = .ok () W := by
  obtain ⟨b, g, a⟩ := m
  have hc : ∀ (x : Int), (Instr.checkKey e 9999 3 (.int .i64 x)).run Try.prog W = .ok () W := fun x => run_checkKey (k := .int .i64 x) Try.underlying3 rfl e 9998
  rw [show (10000 : Nat) = 9999 + 1 from rfl, Instr.checkKey, Sem.run_bind, run_underlying Try.underlying34 W]
  simp [go_sem, encM, hc]
theorem run_equal_mark (m n : MarkT) (W : World) : (Op.equal 34 (.agg (encM m).toArray) (.agg (encM n).toArray)).run Try.prog W = .ok (decide (m = n)) W := by
  have h := (run_cmp_mark m n (.const undef) (.const undef) W).1
  rw [Sem.run_bind, run_eqGuard_agg _ _ _ _ _ _ _ (by kernel_rfl)] at h
  simp only [Result.andThen_ok, binOp] at h
  rw [Sem.run_bind] at h
  generalize (Op.equal 34 (.agg (encM m).toArray) (.agg (encM n).toArray)).run Try.prog W = r at h
  cases r with
  | ok b w' =>
    simp at h
    rw [h.1, h.2]
  | halt x w' => simp [Result.andThen] at h
theorem run_find_mark (m : MarkT) (W : World) : ∀ (ks : List MarkT) (i j : Nat), (Instr.findAsking 34 (.agg (encM m).toArray) (entsM i ks) j).run Try.prog W = .ok (if m ∈ ks then some (j + ks.idxOf m, .bool true) else none) W
  | [], i, j => by simp [entsM, Instr.findAsking]
  | k :: r, i, j => by
    rw [entsM, Instr.findAsking, Sem.run_bind, run_equal_mark]
    simp only [Result.andThen_ok]
    by_cases h : m = k
    · subst h
      simp
    · have h' : (k == m) = false := by simpa using fun e => h e.symm
      have ih := run_find_mark m W r (i + 1) (j + 1)
      rw [decide_eq_false h]
      simp only [Bool.false_eq_true, if_false]
      rw [ih]
      by_cases hm : m ∈ r
      · have hm' : m ∈ k :: r := List.mem_cons_of_mem _ hm
        rw [if_pos hm, if_pos hm', List.idxOf_cons, h', cond_false]
        simp [Nat.add_assoc, Nat.add_comm 1]
      · have hm' : ¬ m ∈ k :: r := by simp [h, hm]
        rw [if_neg hm, if_neg hm']
theorem run_findKey_mark (m : MarkT) (ks : List MarkT) (W : World) : (Instr.findKey 34 (.agg (encM m).toArray) (entsM 0 ks)).run Try.prog W = .ok (if m ∈ ks then some (ks.idxOf m, .bool true) else none) W := by
  unfold Instr.findKey
  rw [Sem.run_bind, run_underlying Try.underlying34 W]
  simp only [Result.andThen_ok]
  cases ks with
  | nil => simp [entsM, Instr.findNow]
  | cons k r =>
    have := run_find_mark m W (k :: r) 0 0
    rw [Nat.zero_add] at this
    simpa [entsM, Instr.findNow, Instr.sameNow] using this
theorem run_lookup_mark {w : World} {g : Nat} {ks : List MarkT} (h : MapM w g ks) (m : MarkT) : (Instr.lookup 63 (.map (some g)) (.agg (encM m).toArray) false).run Try.prog w = .ok (.bool (decide (m ∈ ks))) w := by
  unfold Instr.lookup
  rw [Sem.run_bind, run_underlying Try.underlying63 w]
  simp only [Result.andThen_ok]
  rw [Sem.run_bind, MapKept.run_getObj_map h]
  simp only [Result.andThen_ok]
  simp only [Sem.run_bind, Sem.run_pure, Result.andThen_ok, run_check_mark, run_findKey_mark]
  by_cases hm : m ∈ ks
  · simp [hm]
  · have hz : (zeroValue 4).run Try.prog w = .ok (.bool false) w := by kernel_rfl
    simp [hm, hz]
/-- the block is turned -/
def putM (w : World) (g : Nat) (ks : List MarkT) : World := { w with heap := w.heap.setIfInBounds g (.map (entsM 0 ks).toArray ks.length) }
theorem putM_is {w : World} {g : Nat} {ks ks' : List MarkT} (h : MapM w g ks) : MapM (putM w g ks') g ks' := by
  unfold MapM putM
  show (w.heap.setIfInBounds g _)[g]? = _
  rw [Array.getElem?_setIfInBounds_self_of_lt h.lt]
theorem putM_grown (w : World) (g : Nat) (ks : List MarkT) : w.grownBy (putM w g ks) (some g) := ⟨rfl, rfl, rfl, by simp [putM], fun k hk hne => by
  show (w.heap.setIfInBounds g _)[k]? = _
  rw [Array.getElem?_setIfInBounds_ne (fun e => hne (by rw [e]))]⟩
theorem run_update_mark {w : World} {g : Nat} {ks : List MarkT} (h : MapM w g ks) (m : MarkT) : (Instr.mapUpdate 63 (.map (some g)) (.agg (encM m).toArray) (.bool true)).run Try.prog w = .ok () (putM w g (addM ks m)) := by
  unfold Instr.mapUpdate
  rw [Sem.run_bind, run_underlying Try.underlying63 w]
  simp only [Result.andThen_ok]
  rw [Sem.run_bind, MapKept.run_getObj_map h]
  simp only [Result.andThen_ok]
  simp only [Sem.run_bind, Sem.run_pure, Result.andThen_ok, run_check_mark, run_findKey_mark]
  by_cases hm : m ∈ ks
  · rw [if_pos hm]
    have hi : ks.idxOf m < ks.length := List.idxOf_lt_length_of_mem hm
    have he := entsM_get ks 0 (ks.idxOf m) hi
    rw [List.getElem_idxOf hi, Nat.zero_add] at he
    have hst : ∀ v : Value, v = .agg (encM m).toArray → (Instr.keyThatStays v (.agg (encM m).toArray)).run Try.prog w = .ok (.agg (encM m).toArray) w := by
      rintro _ rfl
      obtain ⟨b, g', a⟩ := m
      have hs : Instr.sameBits 10000 (.agg (encM ⟨b, g', a⟩).toArray) (.agg (encM ⟨b, g', a⟩).toArray) = true := by
        rw [show (10000 : Nat) = 9999 + 1 from rfl]
        simp [Instr.sameBits, encM]
      unfold Instr.keyThatStays
      rw [if_pos hs]
      rfl
    have hk : ((((entsM 0 ks).toArray[ks.idxOf m]?).map (·.key)).getD (.agg (encM m).toArray)) = .agg (encM m).toArray := by
      rw [List.getElem?_toArray, he]
      rfl
    have hmod : (entsM 0 ks).toArray.modify (ks.idxOf m) (fun e => { e with key := .agg (encM m).toArray, val := .bool true }) = (entsM 0 ks).toArray := by
      apply Array.ext_getElem?
      intro j
      rw [Array.getElem?_modify]
      by_cases e : ks.idxOf m = j
      · subst e
        rw [if_pos rfl, List.getElem?_toArray, he]
        rfl
      · rw [if_neg e]
    simp only [hst _ hk, Sem.run_bind, Result.andThen_ok, hmod]
    rw [MapKept.run_setObj_map _ h]
    unfold putM addM
    rw [if_pos hm]
  · rw [if_neg hm]
    simp only []
    rw [MapKept.run_setObj_map _ h]
    unfold putM addM
    rw [if_neg hm, entsM_append, Nat.zero_add]
    simp
/-- a look-up in a set, in a region of which one walk serves all orders -/
def LookQ (P : Program) (C : World → Prop) (t : TypeId) (c : Bool) (u1 u2 : Value) (w : World) (v : Value) : Prop :=
  Oper.quietUpon P C w v ((do let r ← Instr.lookup t u1 u2 c; pure (Next.value r) : Sem Next).run P w)
theorem quiet_lookM {C : World → Prop} {dst : Option Tmp} {c : Bool} {x y : Operand} {ty : TypeId} {pos : String} {after : Array Edge} {guard : Option (Nat × Bool)} {a : Act} {w : World} {v : Value} :
    Oper.quietAt Try.prog ⟨dst, .lookup 63 x y c, ty, pos, after, guard⟩ a C w v = LookQ Try.prog C 63 c (a.eval x) (a.eval y) w v := rfl
theorem lookQ_mark {W : World} {g : Nat} {ks : List MarkT} (h : MapM W g ks) (m : MarkT) (C : World → Prop) (q : BW W) (v : Value) : LookQ Try.prog C 63 false (.map (some g)) (.agg (encM m).toArray) q.w v = (Value.bool (decide (m ∈ ks)) = v) := by
  unfold LookQ
  rw [Sem.run_bind, run_lookup_mark (h.below q.bel)]
  show (q.w = q.w ∧ _) = _
  simp
/-- a mark is laid into a set -/
theorem wp_addM {op : Oper} {a : Act} {w : World} {K : Act → World → Prop} {Q : Exit → Act → World → Prop} (x y z : Operand) (ho : op.op = .mapUpdate 63 x y z) (g : Nat) (hx : a.eval x = .map (some g)) (m : MarkT) (hy : a.eval y = .agg (encM m).toArray) (hz : a.eval z = .bool true)
    (ks : List MarkT) (hb : MapM w g ks) (h : K (a.put op.dst undef) (putM w g (addM ks m))) : op.wp Try.prog a w K Q := by
  unfold Oper.wp execOp
  simp only [ho, hx, hy, hz, Sem.run_bind, run_update_mark hb, Result.andThen_ok, Sem.run_pure]
  exact h
end Go.Proofs.Ytbkknpodipapoaa
