/- The laws' acts as they come in; where a law's walk over them stands. -/
import Derived.Test.YtbhofablndjeoaaDoorTmH
import Derived.Test.YtbhofablndjeoaaDoorTrP
namespace Go.Proofs.YtbhofablndjeoaaDoor
open Go.RowKit Go.ChangeShapes Go.WideShapes Go.Deep
set_option linter.unusedVariables false
theorem iszAc : (Tryd.prog.info? 42).map (·.size) = some 4 := by kernel_rfl
theorem wp_loadAc {dst : Option Tmp} {x : Operand} {ty : TypeId} {pos : String} {after : Array Edge} {guard : Option (Nat × Bool)} {a : Act} {w : World} {next : Act → World → Prop} {Q : Exit → Act → World → Prop} :
    Oper.wp Tryd.prog ⟨dst, .load 42 x, ty, pos, after, guard⟩ a w next Q = LoadW Tryd.prog ⟨dst, .load 42 x, ty, pos, after, guard⟩ 42 (a.eval x) a w next Q := rfl
/-- a new variable, that nothing is stored into at once -/
theorem store_newZNd (w : World) (op : Oper) (a : Act) (next : Act → World → Prop) (Q : Exit → Act → World → Prop) : StoreW Tryd.prog op 37 (.pointer (some ⟨w.heap.size, 0, none⟩)) (.agg #[.int .i64 0, .int .i64 0, .int .i64 0, .int .i64 0, .int .i64 0, .bool false, .int .i64 0, .int .i64 0, .int .i64 0, .int .u64 0, .int .u64 0, .int .u64 0, .int .u64 0]) a (w.alloc (.cells #[.int .i64 0, .int .i64 0, .int .i64 0, .int .i64 0, .int .i64 0, .bool false, .int .i64 0, .int .i64 0, .int .i64 0, .int .u64 0, .int .u64 0, .int .u64 0, .int .u64 0] 37)) next Q = next (a.put op.dst undef) (w.alloc (.cells (encN nD).toArray 37)) :=
  store_newNd nD w op a next Q
def encAs (l : List ActA) : List Value := l.flatMap encAc
theorem encAs_length (l : List ActA) : (encAs l).length = l.length * 4 := by
  unfold encAs
  induction l with
  | nil => rfl
  | cons a r ih => simp only [List.flatMap_cons, List.length_append, ih, List.length_cons]; simp [encAc]; omega
/-- a slice of acts -/
def ZSl (w : World) (ao : Option Addr) (n cap : Nat) (zs : List ActA) : Prop := RSl w 4 ao n cap (encAs zs) ∧ ∀ r ∈ zs, r.ok
theorem ZSl.below {w w' : World} {ao : Option Addr} {n cap : Nat} {zs : List ActA} (h : ZSl w ao n cap zs) (hb : Below w.heap.size w w') : ZSl w' ao n cap zs := ⟨h.1.below hb, h.2⟩
theorem ZSl.len {w : World} {ao : Option Addr} {n cap : Nat} {zs : List ActA} (h : ZSl w ao n cap zs) : zs.length = n := by
  have := h.1.1
  rw [encAs_length] at this
  omega
theorem ZSl.mx {w : World} {ao : Option Addr} {n cap : Nat} {zs : List ActA} (h : ZSl w ao n cap zs) : n ≤ 9223372036854775807 := by
  have h1 := h.1.2.1
  have h2 := h.1.2.2.1
  unfold maxLen at h2
  omega
/-- an act's cells -/
theorem ZSl.cells {w : World} {ao : Option Addr} {n cap : Nat} {zs : List ActA} (h : ZSl w ao n cap zs) (hn : 0 < n) : ∃ b off, ao = some ⟨b, off, none⟩ ∧ b < w.heap.size ∧ ∀ W, Below w.heap.size w W → ∀ k, k < n →
    (zs.getD k aT).ok ∧ W.rangeAt b (off + k * 4) (encAc (zs.getD k aT)) := by
  obtain ⟨b, off, e, hb, hc⟩ := h.1.2.2.2.2 hn
  have hl := h.len
  refine ⟨b, off, e, hb, fun W hW k hk => ⟨?_, fun j v hj => ?_⟩⟩
  · rw [List.getD_eq_getElem?_getD, List.getElem?_eq_getElem (show k < zs.length by omega)]; exact h.2 _ (List.getElem_mem _)
  · have hj4 : j < 4 := by
      by_cases h4 : j < 4
      · exact h4
      · rw [List.getElem?_eq_none (by simp [encAc]; omega)] at hj; cases hj
    have h1 := hc (k * 4 + j) (by omega)
    rw [show (encAs zs)[k * 4 + j]? = some v from (flat_get (f := encAc) (K := 4) (fun a => rfl) zs k j aT (by omega) hj4).trans hj] at h1
    rw [Nat.add_assoc, World.cell?_of_block (w := w) (hW.block b hb)]
    exact h1
section
variable {H : Type} {enc : TypeId × Value → H} {W : World} {base : Nat} {spare : Nat → Bool} {held : Bool}
set_option maxRecDepth 100000 in
theorem open_acts14 {a : Option Addr} {len cap : Nat} {d : DataW H} {p : List MemPlace} (h : DataW.Trod enc Tryd.prog W base spare held 22 (.slice a len cap) d p) : ∃ zs, ZSl W a len cap zs := by
  obtain ⟨g, hg, hf⟩ := open_flat (n := 9) (K := 4) (ks := [.int .u8, .int .i64, .int .i64, .int .u8]) Tryd.underlying22 (by kernel_rfl) rfl (by kernel_rfl) (by omega) h
  have u8 : ∀ x : Int, (Lit.int .u8 x).wf = true → ∃ b : UInt8, x = b.toNat := fun x h => by
    have h' : 0 ≤ x ∧ x ≤ 255 := by simpa [Lit.wf, IntKind.min, IntKind.max, IntKind.signed, IntKind.bits] using h
    exact ⟨UInt8.ofNat x.toNat, by simp; omega⟩
  have cv : ∀ x : Int, (Lit.int .i64 x).wf = true → I64' x := fun x h => by simpa [I64', Lit.wf, IntKind.min, IntKind.max, IntKind.signed, IntKind.bits] using h
  have each : ∀ i, i < len → ∃ r : ActA, g i = encAc r ∧ r.ok := by
    intro i hi
    have := hf i hi
    match g i, fits_length this, this with
    | [v0, v1, v2, v3], _, h =>
      obtain ⟨⟨x0, rfl, b0⟩, ⟨x1, rfl, b1⟩, ⟨x2, rfl, b2⟩, ⟨x3, rfl, b3⟩, _⟩ := h
      obtain ⟨y0, rfl⟩ := u8 _ b0
      obtain ⟨y3, rfl⟩ := u8 _ b3
      exact ⟨⟨y0, x1, x2, y3⟩, rfl, ⟨cv _ b1, cv _ b2⟩⟩
  obtain ⟨q, hq⟩ := choose_lt each
  refine ⟨(List.range len).map q, ?_, fun r hr => ?_⟩
  · have : ((List.range len).map g).flatten = encAs ((List.range len).map q) := by
      unfold encAs
      rw [List.flatMap_def, List.map_map]
      congr 1
      apply List.map_congr_left
      intro i hi
      exact (hq i (List.mem_range.1 hi)).1
    rw [← this]
    exact hg
  · obtain ⟨i, hi, rfl⟩ := List.mem_map.1 hr
    exact (hq i (List.mem_range.1 hi)).2
end
/-- where a law stands: its store, and its node's variable -/
structure LpI (mb gN : Nat) (w wr : World) (k : Nat) (n : NodeT) (st : MemT) (F : Nat → Prop) : Prop where
  at_ : (memC mb).At (fun x => x = mb) st w wr F
  bn : Blk wr gN 37 (encN n)
  fN : ¬ F gN
  rn : Rn k st
  nw : NW st.L n
  uq : Uq st.L n
/-- and with a variable behind an act -/
structure LpX (mb gN : Nat) (w wx : World) (k : Nat) (n : NodeT) (g : Nat) (r : Except Nat NodeT) (st : MemT) (F : Nat → Prop) : Prop where
  at_ : (memC mb).At (fun x => x = mb) st w wx F
  bn : Blk wx gN 37 (encN n)
  bx : Blk wx g 37 (encN (ndV r))
  fN : ¬ F gN
  fX : ¬ F g
  ne : gN ≠ g
  rn : Rn k st
  nw : NW st.L (aft r n)
  uq : Uq st.L (aft r n)
  two : r = .error 1 ∨ ∃ q, r = .ok q
theorem NW.wf' {L : List Bs} {n : NodeT} (h : NW L n) (hL : L.length ≤ 1000000) : n.wf := ⟨by have := h.s0; have := h.s1; unfold I64'; omega, (h.wf.ok (lvl_le3 _) hL).2⟩
theorem LpI.nwf {mb gN : Nat} {w wr : World} {k : Nat} {n : NodeT} {st : MemT} {F : Nat → Prop} (h : LpI mb gN w wr k n st F) (hk : k ≤ 50) : n.wf := h.nw.wf' (by have := h.rn.l; omega)
theorem LpI.below {mb gN : Nat} {w wr wr' : World} {k : Nat} {n : NodeT} {st : MemT} {F : Nat → Prop} (h : LpI mb gN w wr k n st F) (hb : Below wr.heap.size wr wr') : LpI mb gN w wr' k n st F :=
  ⟨h.at_.below hb, h.bn.below hb, h.fN, h.rn, h.nw, h.uq⟩
/-- what was there ahead of the law -/
theorem LpI.old {mb gN : Nat} {w0 w wr : World} {k : Nat} {n : NodeT} {st : MemT} {F : Nat → Prop} (h : LpI mb gN w wr k n st F) (hb : Below w0.heap.size w0 w) (hm : w0.heap.size ≤ mb) : Below w0.heap.size w0 wr :=
  hb.trans (h.at_.2.1.toBelow (B := w0.heap.size) (fun k hk => by omega) hb.size)
/-- nodes' variables -/
def KB (bs : List (Nat × NodeT)) (w : World) : Prop := ∀ b ∈ bs, Blk w b.1 37 (encN b.2)
theorem KB.range {bs : List (Nat × NodeT)} {w : World} (h : KB bs w) (b : Nat × NodeT) (hb : b ∈ bs) : w.rangeAt b.1 0 (encN b.2) := range_blk (h b hb)
theorem KB.range0 {g : Nat} {n : NodeT} {bs : List (Nat × NodeT)} {w : World} (h : KB ((g, n) :: bs) w) : w.rangeAt g 0 (encN n) := h.range (g, n) (by simp)
theorem KB.range1 {g : Nat} {n : NodeT} {c : Nat × NodeT} {bs : List (Nat × NodeT)} {w : World} (h : KB (c :: (g, n) :: bs) w) : w.rangeAt g 0 (encN n) := h.range (g, n) (by simp)
theorem KB.range2 {g : Nat} {n : NodeT} {c d : Nat × NodeT} {bs : List (Nat × NodeT)} {w : World} (h : KB (c :: d :: (g, n) :: bs) w) : w.rangeAt g 0 (encN n) := h.range (g, n) (by simp)
/-- where a law stands: its store, and its nodes' variables -/
structure LpS (mb : Nat) (w wr : World) (st : MemT) (F : Nat → Prop) (bs : List (Nat × NodeT)) : Prop where
  at_ : (memC mb).At (fun x => x = mb) st w wr F
  kb : KB bs wr
  fr : ∀ b ∈ bs, ¬ F b.1 ∧ w.heap.size ≤ b.1
  nd : (bs.map Prod.fst).Nodup
section
variable {mb : Nat} {w wr wc : World} {st s2 : MemT} {F : Nat → Prop} {bs : List (Nat × NodeT)}
theorem LpS.below (h : LpS mb w wr st F bs) (hb : Below wr.heap.size wr wc) : LpS mb w wc st F bs := ⟨h.at_.below hb, fun b hm => (h.kb b hm).below hb, h.fr, h.nd⟩
theorem LpS.step (h : LpS mb w wr st F bs) (hs : (memC mb).Step F s2 wr wc) : ∃ F3, LpS mb w wc s2 F3 bs := by
  obtain ⟨F3, hat, hfr, hm⟩ := h.at_.step hs
  exact ⟨F3, hat, fun b hb => hm.blk (h.kb b hb) (h.fr b hb).1, fun b hb => ⟨hfr _ (h.kb b hb).lt (h.fr b hb).1, (h.fr b hb).2⟩, h.nd⟩
theorem LpS.lt (h : LpS mb w wr st F bs) : ∀ b ∈ bs, b.1 < wr.heap.size := fun b hb => (h.kb b hb).lt
theorem LpS.new (h : LpS mb w wr st F bs) (q : NodeT) : LpS mb w (wr.alloc (.cells (encN q).toArray 37)) st F ((wr.heap.size, q) :: bs) := by
  have hb : Below wr.heap.size wr (wr.alloc (.cells (encN q).toArray 37)) := (Below.refl _ _).alloc (Nat.le_refl _) _
  have h1 := h.below hb
  refine ⟨h1.at_, fun b hm => ?_, fun b hm => ?_, ?_⟩
  · rcases List.mem_cons.1 hm with rfl | hm
    · exact Blk.new wr _ _
    · exact h1.kb b hm
  · rcases List.mem_cons.1 hm with rfl | hm
    · exact ⟨h.at_.fresh (Nat.le_refl _), h.at_.size⟩
    · exact h1.fr b hm
  · rw [List.map_cons, List.nodup_cons]
    refine ⟨fun hc => ?_, h.nd⟩
    obtain ⟨b, hb, e⟩ := List.mem_map.1 hc
    have := h.lt b hb
    simp only at e
    omega
theorem LpS.put {g : Nat} {n : NodeT} (h : LpS mb w wr st F ((g, n) :: bs)) (q : NodeT) : LpS mb w (wr.setCells g 0 (encN q)) st F ((g, q) :: bs) := by
  have hg := h.fr (g, n) (by simp)
  have hnd := h.nd
  rw [List.map_cons, List.nodup_cons] at hnd
  refine ⟨h.at_.put hg.2 hg.1, fun b hm => ?_, fun b hm => ?_, ?_⟩
  · rcases List.mem_cons.1 hm with rfl | hm
    · exact (h.kb (g, n) (by simp)).put rfl
    · exact (h.kb b (List.mem_cons_of_mem _ hm)).away 0 _ (fun e => hnd.1 (List.mem_map.2 ⟨b, hm, e⟩))
  · rcases List.mem_cons.1 hm with rfl | hm
    · exact hg
    · exact h.fr b (List.mem_cons_of_mem _ hm)
  · rw [List.map_cons, List.nodup_cons]; exact hnd
theorem LpS.drewN (h : LpS mb w wr st F bs) (n : Nat) : LpS mb w (wr.drewN n) st F bs := h.below (below_drewN' (Below.refl _ _) n)
theorem LpS.drew (h : LpS mb w wr st F bs) : LpS mb w wr.drew st F bs := h.below (Below.refl _ _).drew
theorem LpS.blk0 {g : Nat} {n : NodeT} (h : LpS mb w wr st F ((g, n) :: bs)) : Blk wr g 37 (encN n) := h.kb (g, n) (by simp)
theorem LpS.blk1 {g : Nat} {n : NodeT} {c : Nat × NodeT} (h : LpS mb w wr st F (c :: (g, n) :: bs)) : Blk wr g 37 (encN n) := h.kb (g, n) (by simp)
theorem LpS.blk2 {g : Nat} {n : NodeT} {c d : Nat × NodeT} (h : LpS mb w wr st F (c :: d :: (g, n) :: bs)) : Blk wr g 37 (encN n) := h.kb (g, n) (by simp)
theorem LpI.toS {gN k : Nat} {n : NodeT} (h : LpI mb gN w wr k n st F) (hg : w.heap.size ≤ gN) : LpS mb w wr st F [(gN, n)] := ⟨h.at_, fun b hb => by simp at hb; subst hb; exact h.bn, fun b hb => by simp at hb; subst hb; exact ⟨h.fN, hg⟩, by simp⟩
theorem LpS.old {w0 : World} (h : LpS mb w wr st F bs) (hb : Below w0.heap.size w0 w) (hm : w0.heap.size ≤ mb) : Below w0.heap.size w0 wr :=
  hb.trans (h.at_.2.1.toBelow (B := w0.heap.size) (fun k hk => by omega) hb.size)
end
theorem yieldsIf_eqlNd {ops : Array Oper} {S : World → Prop} {op : Oper} {a : Act} (hw : Region.wanted op (yielded ops a.tmps) = true) (x y : Operand) (t' : TypeId) (ho : op.op = .binOp .eql 37 x y t') (p q : NodeT)
    (hx : a.eval x = .agg (encN p).toArray) (hy : a.eval y = .agg (encN q).toArray) (hp : p.wf) (hq : q.wf) : YieldsIf Tryd.prog ops S op (.bool (decide (p = q))) a :=
  .inl ⟨hw, fun w hw' => by
    unfold execOp
    simp only [ho, hx, hy]
    rw [Sem.run_bind, Sem.run_bind, run_eqGuard_agg w _ _ _ _ _ _ grdNd, Result.andThen_ok, run_eql_struct, run_eqNd hp hq]
    rfl⟩
theorem yieldsIf_neqNd {ops : Array Oper} {S : World → Prop} {op : Oper} {a : Act} (hw : Region.wanted op (yielded ops a.tmps) = true) (x y : Operand) (t' : TypeId) (ho : op.op = .binOp .neq 37 x y t') (p q : NodeT)
    (hx : a.eval x = .agg (encN p).toArray) (hy : a.eval y = .agg (encN q).toArray) (hp : p.wf) (hq : q.wf) : YieldsIf Tryd.prog ops S op (.bool (!decide (p = q))) a :=
  .inl ⟨hw, fun w hw' => by
    unfold execOp
    simp only [ho, hx, hy]
    rw [Sem.run_bind, Sem.run_bind, run_eqGuard_agg w _ _ _ _ _ _ grdNd, Result.andThen_ok, run_neq_struct, run_eqNd hp hq]
    rfl⟩
theorem range_and2 {P : Prop} {w : World} {b o : Nat} {cs : List Value} (h : P ∧ w.rangeAt b o cs) : w.rangeAt b o cs := h.2
end Go.Proofs.YtbhofablndjeoaaDoor
