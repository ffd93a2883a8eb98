/- Whole blocks, told by their lists of cells, behind stores. No condition: lemmas over any program. -/
import Derived.Test.YtbhofablndjeoaaDoorCore
import Derived.Laws.AppendOwnNone
namespace Go.Proofs.YtbhofablndjeoaaDoor
open Go.RowKit

/-- Block g holds just these cells, none of them frozen. -/
def Blk (w : World) (g e : Nat) (cs : List Value) : Prop := w.heap[g]? = some (.cells cs.toArray e (0, 0))
theorem Blk.lt {w : World} {g e : Nat} {cs : List Value} (h : Blk w g e cs) : g < w.heap.size := (Array.getElem?_eq_some_iff.1 h).1
theorem Blk.cell {w : World} {g e : Nat} {cs : List Value} (h : Blk w g e cs) (j : Nat) : w.cell? ⟨g, j, none⟩ = cs[j]? := by
  rw [cell_of_row w g j cs.toArray e (0, 0) h]; simp
theorem Blk.frozen {w : World} {g e : Nat} {cs : List Value} (h : Blk w g e cs) (j : Nat) : w.frozen? ⟨g, j, none⟩ = false := frozen_of_row w g j cs.toArray e h
theorem Blk.setCell {w : World} {g e : Nat} {cs : List Value} (h : Blk w g e cs) (j : Nat) (v : Value) : Blk (w.setCell ⟨g, j, none⟩ v) g e (cs.set j v) := by
  have := heap_setCell_same w g j cs.toArray e v h
  unfold Blk
  rw [this]
  simp
theorem Blk.other {w : World} {g e : Nat} {cs : List Value} (h : Blk w g e cs) {a : Addr} (hne : g ≠ a.block) (v : Value) : Blk (w.setCell a v) g e cs := by
  unfold Blk
  rw [heap_setCell_other w a g v hne]
  exact h
theorem Blk.below {w w' : World} {g e : Nat} {cs : List Value} (h : Blk w g e cs) (hb : Below w.heap.size w w') : Blk w' g e cs := by
  unfold Blk
  rw [hb.block g h.lt]
  exact h
theorem Blk.alloc {w : World} {g e : Nat} {cs : List Value} (h : Blk w g e cs) (o : Obj) : Blk (w.alloc o) g e cs := h.below ((Below.refl _ _).alloc (Nat.le_refl _) _)
theorem Blk.new (w : World) (e : Nat) (cs : List Value) : Blk (w.alloc (.cells cs.toArray e)) w.heap.size e cs := heap_alloc_new w _
theorem Blk.drew {w : World} {g e : Nat} {cs : List Value} (h : Blk w g e cs) : Blk w.drew g e cs := h
theorem Blk.setCells {g e : Nat} (vs : List Value) : ∀ {w : World} {cs : List Value} (o : Nat), Blk w g e cs → o + vs.length ≤ cs.length → Blk (w.setCells g o vs) g e (cs.take o ++ vs ++ cs.drop (o + vs.length)) := by
  induction vs with
  | nil =>
    intro w cs o h _
    simpa [World.setCells] using h
  | cons v r ih =>
    intro w cs o h ho
    simp only [List.length_cons] at ho
    have h2 := ih (o + 1) (h.setCell o v) (by simp; omega)
    have e : cs.take o ++ v :: r ++ cs.drop (o + (r.length + 1)) = (cs.set o v).take (o + 1) ++ r ++ (cs.set o v).drop (o + 1 + r.length) := by
      have h1 : (cs.set o v).take (o + 1) = cs.take o ++ [v] := by
        rw [List.take_succ_eq_append_getElem (by simp; omega), List.take_set_of_le (Nat.le_refl _)]
        simp
      rw [h1, List.drop_set_of_lt (by omega)]
      simp only [List.append_assoc, List.cons_append, List.nil_append]
      congr 4
      omega
    rw [List.length_cons, e]
    exact h2
theorem setCells_grown (g : Nat) (vs : List Value) : ∀ (w : World) (o : Nat), w.grownBy (w.setCells g o vs) (some g) := by
  induction vs with
  | nil => exact fun w o => World.grownBy.refl w _
  | cons v r ih =>
    intro w o
    have h2 := ih (w.setCell ⟨g, o, none⟩ v) (o + 1)
    refine ⟨h2.os, h2.tape, h2.output, Nat.le_trans (by simp [World.setCell]) h2.size, fun k hk hne => ?_⟩
    show ((w.setCell ⟨g, o, none⟩ v).setCells g (o + 1) r).heap[k]? = _
    rw [h2.block k (by simpa [World.setCell] using hk) hne, heap_setCell_other w ⟨g, o, none⟩ k v (fun e => hne (by simp [e]))]
theorem grown_trans {a b c : World} {r : Option Nat} (h : a.grownBy b r) (k : b.grownBy c r) : a.grownBy c r :=
  ⟨k.os.trans h.os, k.tape.trans h.tape, k.output.trans h.output, Nat.le_trans h.size k.size, fun i hi hn => (k.block i (Nat.lt_of_lt_of_le hi h.size) hn).trans (h.block i hi hn)⟩
theorem grown_drew (w : World) (r : Option Nat) : w.grownBy w.drew r := ⟨rfl, rfl, rfl, Nat.le_refl _, fun _ _ _ => rfl⟩

/-- What is owned at the head of a block, and the block. -/
theorem owns_blk {w : World} {base e size n cap g : Nat} {xs : List Value} (h : w.ownsRow base e size (.slice (some ⟨g, 0, none⟩) n cap) n xs) :
    ∃ cs, Blk w g e cs ∧ base ≤ g ∧ n ≤ cap ∧ cap ≤ maxLen ∧ cs.length = cap * size ∧ cs.take (n * size) = xs := by
  rcases h.2 with ⟨h', _⟩ | ⟨g', cap', cur, h', hb, hg, hnc, hcm, hcs, ht⟩
  · simp at h'
  · simp only [Value.slice.injEq, Option.some.injEq, Addr.mk.injEq, and_true, true_and] at h'
    obtain ⟨rfl, rfl⟩ := h'
    exact ⟨cur.toList, by simpa [Blk] using hg, hb, hnc, hcm, by simpa using hcs, ht⟩
theorem blk_owns {w : World} {base e size n cap g : Nat} {cs : List Value} (h : Blk w g e cs) (hb : base ≤ g) (hn : n ≤ cap) (hm : cap ≤ maxLen) (hc : cs.length = cap * size) :
    w.ownsRow base e size (.slice (some ⟨g, 0, none⟩) n cap) n (cs.take (n * size)) := by
  refine ⟨?_, .inr ⟨g, cap, cs.toArray, rfl, hb, h, hn, hm, by simpa using hc, by simp⟩⟩
  rw [List.length_take, hc]
  exact Nat.min_eq_left (Nat.mul_le_mul_right _ hn)
/-- The head of a row is known where it owns an element, or room. -/
theorem owns_head {w : World} {base e size n cap : Nat} {ao : Option Addr} {xs : List Value} (h : w.ownsRow base e size (.slice ao n cap) n xs) (hn : 0 < n) : ∃ g, ao = some ⟨g, 0, none⟩ ∧ base ≤ g := by
  rcases h.2 with ⟨h', h0⟩ | ⟨g', cap', cur, h', hb, _⟩
  · omega
  · simp only [Value.slice.injEq] at h'
    exact ⟨g', h'.1, hb⟩
theorem owns_headv {w : World} {base e size n : Nat} {v : Value} {xs : List Value} (h : w.ownsRow base e size v n xs) (hn : 0 < n) : ∃ g cap, v = .slice (some ⟨g, 0, none⟩) n cap ∧ base ≤ g := by
  rcases h.2 with ⟨_, h0⟩ | ⟨g', cap', cur, h', hb, _⟩
  · omega
  · exact ⟨g', cap', h', hb⟩
theorem owns_cellS {w : World} {base e n cap g j : Nat} {ss : List ByteArray} (h : w.ownsRow base e 1 (.slice (some ⟨g, 0, none⟩) n cap) n (encS ss)) (hj : j < n) : w.cell? ⟨g, j, none⟩ = some (.string (ss.getD j ByteArray.empty)) := by
  have hl : ss.length = n := by have := h.1; simpa [encS] using this
  rw [h.cellAt j (by omega), encS_get _ _ (by omega)]
theorem Blk.newAt {w : World} {g : Nat} (e : Nat) (cs : List Value) (h : w.heap.size = g) : Blk (w.alloc (.cells cs.toArray e)) g e cs := by
  subst h
  exact Blk.new w e cs
theorem Blk.drewN {w : World} {g e n : Nat} {cs : List Value} (h : Blk w g e cs) : Blk (w.drewN n) g e cs := h
theorem below_drewN' {B : Nat} {a w : World} (h : Below B a w) (n : Nat) : Below B a (w.drewN n) := h.trans ⟨rfl, rfl, rfl, Nat.le_refl _, fun _ _ => rfl⟩
theorem owns_drewN {w : World} {base e size n k : Nat} {v : Value} {xs : List Value} (h : w.ownsRow base e size v n xs) : (w.drewN k).ownsRow base e size v n xs := h
theorem Blk.news {w : World} {g e : Nat} {cs : List Value} (h : Blk w g e cs) : ∀ j u, cs[j]? = some u → w.cell? ((⟨g, 0, none⟩ : Addr).add j) = some u := by
  intro j u hu
  rw [show (⟨g, 0, none⟩ : Addr).add j = ⟨g, j, none⟩ from by unfold Addr.add; split <;> simp_all]
  rw [h.cell, hu]
/-- an append whose run is known -/
theorem wpList_append_run {P : Program} {w : World} {ops : Array Oper} {rest : List Oper} {o : Oper} {a : Act} {Q : Exit → Act → World → Prop} (hgd : o.guard = none) (s x : Operand) (t tn : TypeId)
    (ho : o.op = .call { callee := .builtin .append, args := #[s, x], argTypes := #[t, tn] }) (v xv r : Value) (w' : World) (hs : a.eval s = v) (hx : a.eval x = xv)
    (hrun : ∀ ty, (Builtin.append_ #[t, tn] ty #[v, xv]).run P w = .ok r w') (h : wpList P ops Q rest (a.put o.dst r) w') : wpList P ops Q (o :: rest) a w := by
  refine wpList_plain hgd fun K hK' => ?_
  unfold Oper.wp
  simp [execOp, ho, resolve, invoke, builtin, hs, hx, hrun, Result.andThen]
  exact hK' _ _ h
/-- append of whatever slice that can be read, nil too, to what the call owns -/
theorem wpList_append_rsl {P : Program} {w : World} {ops : Array Oper} {rest : List Oper} {o : Oper} {a : Act} {Q : Exit → Act → World → Prop} (hgd : o.guard = none) (s x : Operand) (t : TypeId)
    (ho : o.op = .call { callee := .builtin .append, args := #[s, x], argTypes := #[t, t] })
    (base : Nat) (e : TypeId) (i : TypeInfo) (z : Value) (size bytes : Nat) (ht : P.underlying t = some (.slice e)) (hi : P.info? e = some i) (hz : i.zero = some z)
    (hsize : i.size = size) (hby : i.bytes = bytes) (hzs : z.cells.size = size) (hsz : 0 < size)
    (v : Value) (n : Nat) (xs : List Value) (hs : a.eval s = v) (hown : w.ownsRow base e size v n xs)
    (ao : Option Addr) (m c : Nat) (news : List Value) (hx : a.eval x = .slice ao m c) (hr : RSl w size ao m c news) (h1 : ∀ u ∈ news, u.oneCell' = true)
    (h63 : n + m ≤ maxLen) (hbytes : (n + m) * bytes ≤ 140737488355328) (hbase : base ≤ w.heap.size)
    (h : ∀ v' w', w'.ownsRow base e size v' (n + m) (xs ++ news) → w.grownBy w' v.ownBlock → wpList P ops Q rest (a.put o.dst v') w') : wpList P ops Q (o :: rest) a w := by
  cases ao with
  | none =>
    have hc : c = 0 := hr.2.2.2.1 rfl
    have hm : m = 0 := by have := hr.2.1; omega
    subst hc hm
    have hn : news = [] := List.eq_nil_of_length_eq_zero (by have := hr.1; simpa using this)
    subst hn
    refine wpList_append_own_none hgd s x t ho base e i size ht hi v n xs hs hown hx (h v w ?_ (World.grownBy.refl _ _))
    simpa using hown
  | some ad =>
    exact wpList_append_own w hgd s x t ho base e i z size bytes ht hi hz hsize hby hzs hsz v n xs hs hown ad m c news hx hr.1 (RSl.news hr) h1 h63 hbytes hbase (fun v' w' a1 a2 _ => h v' w' a1 a2)
theorem RSl.takeAt {w : World} {k n cap i : Nat} {ao : Option Addr} {cs : List Value} (h : RSl w k ao n cap cs) (hi : i ≤ n) (ha : ao = none → i = 0) : RSl w k ao i i (cs.take (i * k)) := by
  obtain ⟨h1, h2, h3, h4, h5⟩ := h
  have hk : i * k ≤ n * k := Nat.mul_le_mul_right _ hi
  refine ⟨by rw [List.length_take, h1]; omega, Nat.le_refl _, by omega, ha, fun hn => ?_⟩
  obtain ⟨b, off, e, hlt, hc⟩ := h5 (by omega)
  refine ⟨b, off, e, hlt, fun j hj => ?_⟩
  rw [hc j (by omega), List.getElem?_take, if_pos hj]
theorem RSl.dropAt {w : World} {k n cap i b off : Nat} {cs : List Value} (h : RSl w k (some ⟨b, off, none⟩) n cap cs) (hi : i ≤ n) : RSl w k (if cap = i then some ⟨b, off, none⟩ else some ⟨b, off + i * k, none⟩) (n - i) (cap - i) (cs.drop (i * k)) := by
  obtain ⟨h1, h2, h3, h4, h5⟩ := h
  have hk : i * k ≤ n * k := Nat.mul_le_mul_right _ hi
  refine ⟨by rw [List.length_drop, h1, Nat.sub_mul], by omega, by omega, fun e => by split at e <;> simp at e, fun hn => ?_⟩
  have hne : ¬ cap = i := by omega
  rw [if_neg hne]
  obtain ⟨b', off', e, hlt, hc⟩ := h5 (by omega)
  simp only [Option.some.injEq, Addr.mk.injEq, and_true] at e
  obtain ⟨rfl, rfl⟩ := e
  refine ⟨b, off + i * k, rfl, hlt, fun j hj => ?_⟩
  rw [Nat.sub_mul] at hj
  rw [Nat.add_assoc, hc (i * k + j) (by omega), List.getElem?_drop]
theorem Blk.rsl {w : World} {g e k n : Nat} {cs : List Value} (h : Blk w g e cs) (hl : cs.length = n * k) (hn : n ≤ maxLen) : RSl w k (some ⟨g, 0, none⟩) n n cs :=
  ⟨hl, Nat.le_refl _, hn, fun e => by simp at e, fun _ => ⟨g, 0, rfl, h.lt, fun j _ => by rw [Nat.zero_add]; exact h.cell j⟩⟩
theorem rsl_of_owns {w : World} {base e k n cap : Nat} {ao : Option Addr} {cs : List Value} (h : w.ownsRow base e k (.slice ao n cap) n cs) : RSl w k ao n cap cs := by
  obtain ⟨ao', c, e, hr⟩ := RSl.of_owns h
  simp only [Value.slice.injEq, true_and] at e
  obtain ⟨rfl, rfl⟩ := e
  exact hr
/-- a row of one element type stays, where a block of another is written -/
theorem owns_setCell_other {w : World} {base e e' size n g j : Nat} {v u : Value} {xs cs : List Value} (h : w.ownsRow base e size v n xs) (hb : Blk w g e' cs) (hne : e ≠ e') : (w.setCell ⟨g, j, none⟩ u).ownsRow base e size v n xs := by
  refine ⟨h.1, ?_⟩
  rcases h.2 with h2 | ⟨g', cap, cur, hv, hg, hh, r⟩
  · exact Or.inl h2
  · refine Or.inr ⟨g', cap, cur, hv, hg, ?_, r⟩
    have hgg : g' ≠ g := by
      rintro rfl
      unfold Blk at hb
      rw [hh] at hb
      simp only [Option.some.injEq, Obj.cells.injEq] at hb
      exact hne hb.2.1
    rw [heap_setCell_other w ⟨g, j, none⟩ g' u hgg]
    exact hh
theorem grown_store {w w' : World} {g j : Nat} {u : Value} (h : Below w.heap.size w w') : w.grownBy (w'.setCell ⟨g, j, none⟩ u) (some g) := by
  refine ⟨h.os, h.tape, h.output, Nat.le_trans h.size (by simp [World.setCell]), fun k hk hne => ?_⟩
  rw [heap_setCell_other w' ⟨g, j, none⟩ k u (fun e => hne (by simp [e])), h.block k hk]
theorem grown_of_below {w w' : World} {r : Option Nat} (h : Below w.heap.size w w') : w.grownBy w' r := ⟨h.os, h.tape, h.output, h.size, fun k hk _ => h.block k hk⟩
theorem getD_some (cs : List Value) (j : Nat) (h : j < cs.length) : cs[j]? = some (cs.getD j undef) := by
  rw [List.getElem?_eq_getElem h, List.getD_eq_getElem?_getD, List.getElem?_eq_getElem h]; rfl
theorem ret_bool {a b : Bool} (h : a = b) : Ending.returned (.bool a) = .returned (.bool b) := by rw [h]
theorem ret_int {k : IntKind} {a b : Int} (h : a = b) : Ending.returned (.int k a) = .returned (.int k b) := by rw [h]
/-- The place of the first of n of which p holds; -1: there is none. -/
def firstIdx (p : Nat → Bool) (n : Nat) : Int := match (List.range n).find? p with | some i => i | none => -1
theorem firstIdx_at {p : Nat → Bool} {n k : Nat} (h : k < n) (hp : p k = true) (hno : ∀ j, j < k → p j = false) : firstIdx p n = k := by
  have : (List.range n).find? p = some k := by
    rw [List.find?_range_eq_some]
    exact ⟨hp, by simpa using h, fun j hj => by simp [hno j hj]⟩
  simp [firstIdx, this]
theorem firstIdx_none {p : Nat → Bool} {n : Nat} (hno : ∀ j, j < n → p j = false) : firstIdx p n = -1 := by
  have : (List.range n).find? p = none := by
    rw [List.find?_eq_none]
    intro j hj
    simp [hno j (by simpa using hj)]
  simp [firstIdx, this]
theorem firstIdx_ge (p : Nat → Bool) (n : Nat) : decide (0 ≤ firstIdx p n) = (List.range n).any p := by
  unfold firstIdx
  cases h : (List.range n).find? p with
  | none =>
    have := List.find?_eq_none.1 h
    rw [show (List.range n).any p = false from by simpa using this]
    rfl
  | some i =>
    have h1 := List.mem_of_find?_eq_some h
    have h2 := List.find?_some h
    rw [show (List.range n).any p = true from List.any_eq_true.2 ⟨i, h1, h2⟩]
    simp
end Go.Proofs.YtbhofablndjeoaaDoor
