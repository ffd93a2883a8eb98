/- A store beside blocks and rows. -/
import Derived.Test.YtbhofablndjeoaaDoorDwB
import Derived.Test.YtbhofablndjeoaaDoorDx
namespace Go.Proofs.YtbhofablndjeoaaDoor
open Go.RowKit
set_option linter.unusedVariables false
theorem yieldsIf_neqNdB {ops : Array Oper} {S : World → Prop} {op : Oper} {a : Act} (hw : Region.wanted op (yielded ops a.tmps) = true) (x y : Operand) (t' : TypeId) (ho : op.op = .binOp .neq 37 x y t') (p q : NodeT)
    (hx : a.eval x = .agg (encN p).toArray) (hy : a.eval y = .agg (encN q).toArray) (hp : p.wf) (hq : q.wf) {b : Bool} (hb : (!decide (p = q)) = b) : YieldsIf Tryd.prog ops S op (.bool b) a :=
  hb ▸ yieldsIf_neqNd hw x y t' ho p q hx hy hp hq
theorem range_and12 {w : World} {g e : Nat} {cs : List Value} {P Q : Prop} (h : P ∧ Blk w g e cs ∧ Q) : w.rangeAt g 0 cs := range_blk h.2.1
/-- a store beside blocks -/
structure LdG (mb : Nat) (w wr : World) (st : MemT) (F : Nat → Prop) (bs : List (Nat × Nat × List Value)) : Prop where
  at_ : (memC mb).At (fun x => x = mb) st w wr F
  kb : ∀ b ∈ bs, Blk wr b.1 b.2.1 b.2.2
  fr : ∀ b ∈ bs, ¬ F b.1
section
variable {mb : Nat} {w wr wc : World} {st s2 : MemT} {F : Nat → Prop} {bs : List (Nat × Nat × List Value)}
theorem LdG.below (h : LdG mb w wr st F bs) (hb : Below wr.heap.size wr wc) : LdG mb w wc st F bs := ⟨h.at_.below hb, fun b hm => (h.kb b hm).below hb, h.fr⟩
theorem LdG.sub (h : LdG mb w wr st F bs) (bs' : List (Nat × Nat × List Value)) (hs : ∀ b ∈ bs', b ∈ bs) : LdG mb w wr st F bs' := ⟨h.at_, fun b hb => h.kb b (hs b hb), fun b hb => h.fr b (hs b hb)⟩
theorem LdG.step (h : LdG mb w wr st F bs) (hs : (memC mb).Step F s2 wr wc) : ∃ F3, LdG mb w wc s2 F3 bs := by
  obtain ⟨F3, hat, hfr, hm⟩ := h.at_.step hs
  exact ⟨F3, hat, fun b hb => hm.blk (h.kb b hb) (h.fr b hb), fun b hb => hfr _ (h.kb b hb).lt (h.fr b hb)⟩
theorem LdG.new (h : LdG mb w wr st F bs) (e : Nat) (cs : List Value) : LdG mb w (wr.alloc (.cells cs.toArray e)) st F ((wr.heap.size, e, cs) :: bs) := by
  have hb : Below wr.heap.size wr (wr.alloc (.cells cs.toArray e)) := (Below.refl _ _).alloc (Nat.le_refl _) _
  have h1 := h.below hb
  refine ⟨h1.at_, fun b hm => ?_, fun b hm => ?_⟩
  · rcases List.mem_cons.1 hm with rfl | hm
    · exact Blk.new wr _ _
    · exact h1.kb b hm
  · rcases List.mem_cons.1 hm with rfl | hm
    · exact h.at_.fresh (Nat.le_refl _)
    · exact h1.fr b hm
/-- the head is written -/
theorem LdG.put {g o e : Nat} {cs vs ds : List Value} (h : LdG mb w wr st F ((g, e, cs) :: bs)) (hg : w.heap.size ≤ g) (hn : ∀ b ∈ bs, b.1 ≠ g) (hd : Blk (wr.setCells g o vs) g e ds) : LdG mb w (wr.setCells g o vs) st F ((g, e, ds) :: bs) := by
  refine ⟨h.at_.put hg (h.fr (g, e, cs) (by simp)), fun b hm => ?_, fun b hm => ?_⟩
  · rcases List.mem_cons.1 hm with rfl | hm
    · exact hd
    · exact (h.kb b (List.mem_cons_of_mem _ hm)).away o vs (hn b hm)
  · rcases List.mem_cons.1 hm with rfl | hm
    · exact h.fr (g, e, cs) (by simp)
    · exact h.fr b (List.mem_cons_of_mem _ hm)
theorem LdG.old {w0 : World} (h : LdG mb w wr st F bs) (hb : Below w0.heap.size w0 w) (hm : w0.heap.size ≤ mb) : Below w0.heap.size w0 wr :=
  hb.trans (h.at_.2.1.toBelow (B := w0.heap.size) (fun k hk => by omega) hb.size)
theorem LdG.lt (h : LdG mb w wr st F bs) (b : Nat × Nat × List Value) (hb : b ∈ bs) : b.1 < wr.heap.size := (h.kb b hb).lt
/-- a store beside blocks and rows of numbers -/
structure LdR (mb : Nat) (w wr : World) (st : MemT) (F : Nat → Prop) (bs : List (Nat × Nat × List Value)) (rs : List (Value × List Nat)) : Prop where
  g : LdG mb w wr st F bs
  row : ∀ r ∈ rs, ∃ b, wr.ownsRow b 3 1 r.1 r.2.length (encI r.2)
  dis : ∀ r ∈ rs, ∀ g, r.1.ownBlock = some g → ¬ F g
theorem LdG.r (h : LdG mb w wr st F bs) : LdR mb w wr st F bs [] := ⟨h, fun r hr => (by cases hr), fun r hr => (by cases hr)⟩
variable {rs : List (Value × List Nat)}
theorem LdR.below (h : LdR mb w wr st F bs rs) (hb : Below wr.heap.size wr wc) : LdR mb w wc st F bs rs := ⟨h.g.below hb, fun r hr => by
  obtain ⟨b, k⟩ := h.row r hr
  exact ⟨b, owns_below k hb⟩, h.dis⟩
theorem LdR.step (h : LdR mb w wr st F bs rs) (hs : (memC mb).Step F s2 wr wc) : ∃ F3, LdR mb w wc s2 F3 bs rs ∧ (∀ x, x < wr.heap.size → ¬ F x → ¬ F3 x) ∧ Mod F wr wc := by
  obtain ⟨F3, hat, hfr, hm⟩ := h.g.at_.step hs
  refine ⟨F3, ⟨⟨hat, fun b hb => hm.blk (h.g.kb b hb) (h.g.fr b hb), fun b hb => hfr _ (h.g.kb b hb).lt (h.g.fr b hb)⟩, fun r hr => ?_, fun r hr g hg => ?_⟩, hfr, hm⟩
  · obtain ⟨b, k⟩ := h.row r hr
    exact ⟨b, rowK hm k (h.dis r hr)⟩
  · obtain ⟨b, k⟩ := h.row r hr
    exact hfr g (k.lt g hg).2 (h.dis r hr g hg)
/-- a list is made -/
theorem LdR.list {v : Value} {out : List Nat} {F2 : Nat → Prop} (h : LdR mb w wr st F bs rs) (hl : LsSt (memC mb) F wr wc s2 F2 v out) : LdR mb w wc s2 F2 bs ((v, out) :: rs) := by
  have hm := hl.at_.2.1
  have hfr : ∀ x, x < wr.heap.size → ¬ F x → ¬ F2 x := fun x hx hn hf => (hl.at_.2.2 x hf).elim hn (by omega)
  have hat : (memC mb).At (fun x => x = mb) s2 w wc F2 := by
    refine ⟨hl.at_.1, h.g.at_.2.1.trans hm (fun x hx hf => (h.g.at_.2.2 x hf).resolve_right (by omega)), fun x hx => ?_⟩
    rcases hl.at_.2.2 x hx with h1 | h1
    · exact h.g.at_.2.2 x h1
    · exact .inr (Nat.le_trans h.g.at_.size h1)
  refine ⟨⟨hat, fun b hb => hm.blk (h.g.kb b hb) (h.g.fr b hb), fun b hb => hfr _ (h.g.kb b hb).lt (h.g.fr b hb)⟩, fun r hr => ?_, fun r hr g hg => ?_⟩
  · rcases List.mem_cons.1 hr with rfl | hr
    · exact ⟨_, hl.row⟩
    · obtain ⟨b, k⟩ := h.row r hr
      exact ⟨b, rowK hm k (h.dis r hr)⟩
  · rcases List.mem_cons.1 hr with rfl | hr
    · exact hl.dis g hg
    · obtain ⟨b, k⟩ := h.row r hr
      exact hfr g (k.lt g hg).2 (h.dis r hr g hg)
/-- a row, as a slice -/
theorem LdR.rsl {v : Value} {out : List Nat} (h : LdR mb w wr st F bs rs) (hr : (v, out) ∈ rs) : ∃ ao cap, v = .slice ao out.length cap ∧ RSl wr 1 ao out.length cap (encI out) := by
  obtain ⟨b, k⟩ := h.row _ hr
  obtain ⟨ao, cap, e⟩ := row_formD k
  dsimp only at e k
  subst e
  exact ⟨ao, cap, rfl, rsl_of_owns k⟩
theorem LdR.new (h : LdR mb w wr st F bs rs) (e : Nat) (cs : List Value) : LdR mb w (wr.alloc (.cells cs.toArray e)) st F ((wr.heap.size, e, cs) :: bs) rs :=
  ⟨h.g.new e cs, (h.below ((Below.refl _ _).alloc (Nat.le_refl _) _)).row, h.dis⟩
theorem LdR.put {g o e : Nat} {cs vs ds : List Value} (h : LdR mb w wr st F ((g, e, cs) :: bs) rs) (hg : w.heap.size ≤ g) (hn : ∀ b ∈ bs, b.1 ≠ g) (hd : Blk (wr.setCells g o vs) g e ds) (he : e ≠ 3) : LdR mb w (wr.setCells g o vs) st F ((g, e, ds) :: bs) rs := by
  refine ⟨h.g.put hg hn hd, fun r hr => ?_, h.dis⟩
  obtain ⟨b, k⟩ := h.row r hr
  refine ⟨b, rowK ((Mod.refl (fun x => x = g) wr).put (.inl rfl)) k (fun g' hg' e' => ?_)⟩
  subst e'
  have hb := h.g.kb (g', e, cs) (by simp)
  rcases k.2 with ⟨h1, _⟩ | ⟨g2, cap, cur, h1, _, h2, _⟩
  · rw [h1] at hg'; cases hg'
  · rw [h1] at hg'
    simp only [Value.ownBlock, Option.some.injEq] at hg'
    subst hg'
    unfold Blk at hb
    dsimp only at hb
    rw [h2] at hb
    simp only [Option.some.injEq, Obj.cells.injEq] at hb
    exact he hb.2.1.symm
theorem LdR.old {w0 : World} (h : LdR mb w wr st F bs rs) (hb : Below w0.heap.size w0 w) (hm : w0.heap.size ≤ mb) : Below w0.heap.size w0 wr := h.g.old hb hm
theorem LdR.cell {b o n cap k : Nat} {out : List Nat} (h : LdR mb w wr st F bs rs) (hr : (Value.slice (some ⟨b, o, none⟩) n cap, out) ∈ rs) (hk : k < out.length) : wr.cell? ⟨b, o + k, none⟩ = some (.int .i64 ((out.getD k 0 : Nat) : Int)) := by
  obtain ⟨ao, c, e, hs⟩ := h.rsl hr
  simp only [Value.slice.injEq] at e
  obtain ⟨rfl, rfl, rfl⟩ := e
  obtain ⟨b', o', e, hc⟩ := rsl_int hs (by omega)
  simp only [Option.some.injEq, Addr.mk.injEq, and_true] at e
  obtain ⟨rfl, rfl⟩ := e
  exact hc wr (Below.refl _ _) k hk
theorem LdR.sub (h : LdR mb w wr st F bs rs) (bs' : List (Nat × Nat × List Value)) (hs : ∀ b ∈ bs', b ∈ bs) : LdR mb w wr st F bs' rs := ⟨h.g.sub bs' hs, h.row, h.dis⟩
end
end Go.Proofs.YtbhofablndjeoaaDoor
