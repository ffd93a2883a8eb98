/- The law DirAll: a store beside rows of pointers, and a row of these rows; sizes as they come in. -/
import Derived.Test.YtbhofablndjeoaaDoorDwE
import Derived.Test.YtbhofablndjeoaaDoorDzA
namespace Go.Proofs.YtbhofablndjeoaaDoor
open Go.RowKit Go.ChangeShapes Go.WideShapes Go.Deep
set_option linter.unusedVariables false
theorem infoTP : (Tryd.prog.info? 52).map (fun i => (i.zero, i.size, i.bytes)) = some (some (.slice none 0 0), 1, 24) := by kernel_rfl
/-- a slice of numbers of two bytes -/
def USl (w : World) (ao : Option Addr) (n cap : Nat) (zs : List Nat) : Prop := RSl w 1 ao n cap (zs.map fun (z : Nat) => Value.int .u16 (z : Int)) ∧ ∀ z ∈ zs, z ≤ 65535
theorem USl.len {w : World} {ao : Option Addr} {n cap : Nat} {zs : List Nat} (h : USl w ao n cap zs) : zs.length = n := by
  have := h.1.1
  rw [List.length_map] at this
  omega
theorem USl.mx {w : World} {ao : Option Addr} {n cap : Nat} {zs : List Nat} (h : USl w ao n cap zs) : n ≤ 9223372036854775807 := by
  have h1 := h.1.2.1
  have h2 := h.1.2.2.1
  unfold maxLen at h2
  omega
theorem USl.cells {w : World} {ao : Option Addr} {n cap : Nat} {zs : List Nat} (h : USl w ao n cap zs) (hn : 0 < n) : ∃ b off, ao = some ⟨b, off, none⟩ ∧ b < w.heap.size ∧ ∀ W, Below w.heap.size w W → ∀ k, k < n →
    zs.getD k 0 ≤ 65535 ∧ W.cell? ⟨b, off + k, none⟩ = some (.int .u16 ((zs.getD k 0 : Nat) : Int)) := by
  obtain ⟨b, off, e, hb, hc⟩ := h.1.2.2.2.2 hn
  have hl := h.len
  refine ⟨b, off, e, hb, fun W hW k hk => ⟨?_, ?_⟩⟩
  · rw [List.getD_eq_getElem?_getD, List.getElem?_eq_getElem (show k < zs.length by omega)]; exact h.2 _ (List.getElem_mem _)
  · rw [World.cell?_of_block (w := w) (hW.block b hb), hc k (by omega)]
    simp [List.getElem?_eq_getElem (show k < zs.length by omega)]
section
variable {H : Type} {enc : TypeId × Value → H} {W : World} {base : Nat} {spare : Nat → Bool} {held : Bool}
set_option maxRecDepth 100000 in
theorem open_u16 {a : Option Addr} {len cap : Nat} {d : DataW H} {p : List MemPlace} (h : DataW.Trod enc Tryd.prog W base spare held 75 (.slice a len cap) d p) : ∃ zs, USl W a len cap zs := by
  obtain ⟨g, hg, hf⟩ := open_flat (n := 9) (K := 1) (ks := [.int .u16]) Tryd.underlying75 (by kernel_rfl) rfl (by kernel_rfl) (by omega) h
  have u16 : ∀ x : Int, (Lit.int .u16 x).wf = true → 0 ≤ x ∧ x ≤ 65535 := fun x h => by
    simpa [Lit.wf, IntKind.min, IntKind.max, IntKind.signed, IntKind.bits] using h
  have each : ∀ i, i < len → ∃ r : Nat, g i = [Value.int .u16 (r : Int)] ∧ r ≤ 65535 := by
    intro i hi
    have := hf i hi
    match g i, fits_length this, this with
    | [v0], _, h =>
      obtain ⟨⟨x0, rfl, b0⟩, _⟩ := h
      have := u16 _ b0
      exact ⟨x0.toNat, by rw [show ((x0.toNat : Nat) : Int) = x0 by omega], by omega⟩
  obtain ⟨q, hq⟩ := choose_lt each
  refine ⟨(List.range len).map q, ?_, fun r hr => ?_⟩
  · have : ((List.range len).map g).flatten = ((List.range len).map q).map fun (z : Nat) => Value.int .u16 (z : Int) := by
      rw [List.map_eq_flatMap (l := (List.range len).map q), List.flatMap_def, List.map_map]
      congr 1
      apply List.map_congr_left
      intro i hi
      exact (hq i (List.mem_range.1 hi)).1
    rw [← this]
    exact hg
  · obtain ⟨i, hi, rfl⟩ := List.mem_map.1 hr
    exact (hq i (List.mem_range.1 hi)).2
end
/-- a store beside blocks, rows of pointers (rs), and a row of such rows (os), that grows -/
structure LdO (mb : Nat) (w wr : World) (st : MemT) (F : Nat → Prop) (bs : List (Nat × Nat × List Value)) (vO : Value) (os rs : List (Value × List PtrT)) : Prop where
  g : LdG mb w wr st F bs
  own : wr.ownsRow w.heap.size 52 1 vO os.length (os.map Prod.fst)
  fo : ∀ g, vO.ownBlock = some g → ¬ F g
  row : ∀ r ∈ rs, ∃ b, wr.ownsRow b 35 12 r.1 r.2.length (encPs r.2)
  fr : ∀ r ∈ rs, ∀ g, r.1.ownBlock = some g → ¬ F g
section
variable {mb : Nat} {w wr wc : World} {st s2 : MemT} {F : Nat → Prop} {bs : List (Nat × Nat × List Value)} {vO : Value} {os rs : List (Value × List PtrT)}
theorem LdG.o (h : LdG mb w wr st F bs) : LdO mb w wr st F bs (.slice none 0 0) [] [] := ⟨h, World.ownsRow_nil _ _ _ _, fun g hg => (by cases hg), fun r hr => (by cases hr), fun r hr => (by cases hr)⟩
theorem LdO.below (h : LdO mb w wr st F bs vO os rs) (hb : Below wr.heap.size wr wc) : LdO mb w wc st F bs vO os rs := ⟨h.g.below hb, owns_below h.own hb, h.fo, fun r hr => by
  obtain ⟨b, k⟩ := h.row r hr
  exact ⟨b, owns_below k hb⟩, h.fr⟩
theorem LdO.sub (h : LdO mb w wr st F bs vO os rs) (bs' : List (Nat × Nat × List Value)) (hs : ∀ b ∈ bs', b ∈ bs) : LdO mb w wr st F bs' vO os rs := ⟨h.g.sub bs' hs, h.own, h.fo, h.row, h.fr⟩
theorem LdO.subr (h : LdO mb w wr st F bs vO os rs) (rs' : List (Value × List PtrT)) (hs : ∀ r ∈ rs', r ∈ rs) : LdO mb w wr st F bs vO os rs' := ⟨h.g, h.own, h.fo, fun r hr => h.row r (hs r hr), fun r hr => h.fr r (hs r hr)⟩
theorem LdO.old {w0 : World} (h : LdO mb w wr st F bs vO os rs) (hb : Below w0.heap.size w0 w) (hm : w0.heap.size ≤ mb) : Below w0.heap.size w0 wr := h.g.old hb hm
theorem LdO.step (h : LdO mb w wr st F bs vO os rs) (hs : (memC mb).Step F s2 wr wc) : ∃ F3, LdO mb w wc s2 F3 bs vO os rs := by
  obtain ⟨F3, hat, hfr, hm⟩ := h.g.at_.step hs
  refine ⟨F3, ⟨hat, fun b hb => hm.blk (h.g.kb b hb) (h.g.fr b hb), fun b hb => hfr _ (h.g.kb b hb).lt (h.g.fr b hb)⟩, rowK hm h.own h.fo, fun g hg => hfr g (h.own.lt g hg).2 (h.fo g hg), fun r hr => ?_, fun r hr g hg => ?_⟩
  · obtain ⟨b, k⟩ := h.row r hr
    exact ⟨b, rowK hm k (h.fr r hr)⟩
  · obtain ⟨b, k⟩ := h.row r hr
    exact hfr g (k.lt g hg).2 (h.fr r hr g hg)
theorem LdO.new (h : LdO mb w wr st F bs vO os rs) (e : Nat) (cs : List Value) : LdO mb w (wr.alloc (.cells cs.toArray e)) st F ((wr.heap.size, e, cs) :: bs) vO os rs := by
  have h1 := h.below ((Below.refl _ _).alloc (Nat.le_refl _) (.cells cs.toArray e))
  exact ⟨h.g.new e cs, h1.own, h1.fo, h1.row, h1.fr⟩
theorem rows_put {b k n : Nat} {e e' g o : Nat} {v : Value} {xs cs vs : List Value} (hr : wr.ownsRow b e k v n xs) (hb : Blk wr g e' cs) (he : e ≠ e') : (wr.setCells g o vs).ownsRow b e k v n xs :=
  rowK ((Mod.refl (fun x => x = g) wr).put (.inl rfl)) hr (fun g' hg' e2 => owns_nblk hr hb he (by rw [hg', e2]))
theorem LdO.put {g o e : Nat} {cs vs ds : List Value} (h : LdO mb w wr st F ((g, e, cs) :: bs) vO os rs) (hg : w.heap.size ≤ g) (hn : ∀ b ∈ bs, b.1 ≠ g) (hd : Blk (wr.setCells g o vs) g e ds) (he : e ≠ 52) (he2 : e ≠ 35) : LdO mb w (wr.setCells g o vs) st F ((g, e, ds) :: bs) vO os rs := by
  have hb := h.g.kb (g, e, cs) (by simp)
  refine ⟨h.g.put hg hn hd, rows_put h.own hb (fun e1 => he e1.symm), h.fo, fun r hr => ?_, h.fr⟩
  obtain ⟨b, k⟩ := h.row r hr
  exact ⟨b, rows_put k hb (fun e1 => he2 e1.symm)⟩
/-- a row of pointers is made -/
theorem LdO.all {v : Value} {out : List PtrT} {F2 : Nat → Prop} (h : LdO mb w wr st F bs vO os rs) (hl : AllSt (memC mb) F wr wc s2 F2 v out) : LdO mb w wc s2 F2 bs vO os ((v, out) :: rs) := by
  have hm := hl.at_.2.1
  have hfr : ∀ x, x < wr.heap.size → ¬ F x → ¬ F2 x := fun x hx hn hf => (hl.at_.2.2 x hf).elim hn (by omega)
  have hat := At.join h.g.at_ hl.at_
  refine ⟨⟨hat, fun b hb => hm.blk (h.g.kb b hb) (h.g.fr b hb), fun b hb => hfr _ (h.g.kb b hb).lt (h.g.fr b hb)⟩, rowK hm h.own h.fo, fun g hg => hfr g (h.own.lt g hg).2 (h.fo g hg), fun r hr => ?_, fun r hr g hg => ?_⟩
  · rcases List.mem_cons.1 hr with rfl | hr
    · exact ⟨_, hl.row⟩
    · obtain ⟨b, k⟩ := h.row r hr
      exact ⟨b, rowK hm k (h.fr r hr)⟩
  · rcases List.mem_cons.1 hr with rfl | hr
    · exact hl.dis g hg
    · obtain ⟨b, k⟩ := h.row r hr
      exact hfr g (k.lt g hg).2 (h.fr r hr g hg)
/-- the row of rows grows -/
theorem LdO.push {vO' : Value} {x : Value × List PtrT} (h : LdO mb w wr st F bs vO os rs) (ht : ∀ b ∈ bs, 52 ≠ b.2.1) (hown : wc.ownsRow w.heap.size 52 1 vO' (os.length + 1) (os.map Prod.fst ++ [x.1])) (hg : wr.grownBy wc vO.ownBlock) (hat : vO'.ownBlock = vO.ownBlock ∨ vO'.ownBlock = some wr.heap.size) : LdO mb w wc st F bs vO' (os ++ [x]) rs := by
  refine ⟨⟨⟨(memC mb).keep h.g.at_.1 hg.size (fun x hx => hg.block x (h.g.at_.lt x hx) (fun e => h.fo x e.symm hx)), ?_, h.g.at_.2.2⟩, fun b hb => ?_, h.g.fr⟩, ?_, ?_, fun r hr => ?_, h.fr⟩
  · refine h.g.at_.2.1.trans (Mod.grownO (F := fun k => vO.ownBlock = some k) hg (fun g hg => hg)) (fun x hx hv => ?_)
    have := (h.own.lt x hv).1
    omega
  · have hk := h.g.kb b hb
    unfold Blk
    rw [hg.block _ hk.lt (fun e => owns_nblk h.own hk (ht b hb) e.symm)]
    exact hk
  · rw [List.length_append, List.map_append]
    exact hown
  · intro g hgg hF
    rcases hat with e | e
    · exact h.fo g (by rw [← e]; exact hgg) hF
    · rw [e] at hgg
      have := h.g.at_.lt g hF
      simp only [Option.some.injEq] at hgg
      omega
  · obtain ⟨b, k⟩ := h.row r hr
    exact ⟨b, grown_row hg k (fun g hgg => owns_apart k h.own (by decide) g hgg)⟩
/-- a pointer of a row -/
theorem LdO.ptr {b o n cap j : Nat} {out : List PtrT} (h : LdO mb w wr st F bs vO os rs) (hr : (Value.slice (some ⟨b, o, none⟩) n cap, out) ∈ rs) (hj : j < out.length) : wr.rangeAt b (o + j * 12) (encPtr (out.getD j pD)) := by
  obtain ⟨b0, k⟩ := h.row _ hr
  obtain ⟨ao, c, e⟩ := row_formD k
  simp only [Value.slice.injEq] at e
  obtain ⟨rfl, rfl, rfl⟩ := e
  obtain ⟨b', o', e, _, hc⟩ := (rsl_of_owns k).2.2.2.2 (by omega)
  simp only [Option.some.injEq, Addr.mk.injEq, and_true] at e
  obtain ⟨rfl, rfl⟩ := e
  intro c v hv
  have hc12 : c < 12 := by
    by_cases h4 : c < 12
    · exact h4
    · rw [List.getElem?_eq_none (by simp [encPtr]; omega)] at hv; cases hv
  rw [Nat.add_assoc, hc _ (by omega), encPs_get out j c hj hc12, hv]
/-- the form of a row's value -/
theorem LdO.form {v : Value} {out : List PtrT} (h : LdO mb w wr st F bs vO os rs) (hr : (v, out) ∈ rs) : ∃ ao cap, v = .slice ao out.length cap ∧ (0 < out.length → ∃ b o, ao = some ⟨b, o, none⟩) := by
  obtain ⟨b0, k⟩ := h.row _ hr
  obtain ⟨ao, c, e⟩ := row_formD k
  dsimp only at e k
  subst e
  refine ⟨ao, c, rfl, fun hl => ?_⟩
  obtain ⟨b', o', e, _⟩ := (rsl_of_owns k).2.2.2.2 hl
  exact ⟨b', o', e⟩
/-- a row of the row of rows -/
theorem LdO.ocell {b o n cap i : Nat} (h : LdO mb w wr st F bs (.slice (some ⟨b, o, none⟩) n cap) os rs) (hi : i < os.length) : wr.cell? ⟨b, o + i, none⟩ = some (os.getD i (.bool false, [])).1 := by
  have k := h.own
  obtain ⟨ao, c, e⟩ := row_formD k
  simp only [Value.slice.injEq] at e
  obtain ⟨rfl, rfl, rfl⟩ := e
  obtain ⟨b', o', e, _, hc⟩ := (rsl_of_owns k).2.2.2.2 (by omega)
  simp only [Option.some.injEq, Addr.mk.injEq, and_true] at e
  obtain ⟨rfl, rfl⟩ := e
  rw [hc i (by omega)]
  simp [List.getElem?_eq_getElem hi]
theorem LdO.oform (h : LdO mb w wr st F bs vO os rs) : ∃ ao cap, vO = .slice ao os.length cap ∧ (0 < os.length → ∃ b o, ao = some ⟨b, o, none⟩) := by
  have k := h.own
  obtain ⟨ao, c, e⟩ := row_formD k
  subst e
  refine ⟨ao, c, rfl, fun hl => ?_⟩
  obtain ⟨b', o', e, _⟩ := (rsl_of_owns k).2.2.2.2 hl
  exact ⟨b', o', e⟩
/-- the store's cells, for a store into them -/
theorem LdO.mc (h : LdO mb w wr st F bs vO os rs) : wr.cell? ⟨mb, 1, none⟩ = some (.int .i64 (st.count : Nat)) ∧ wr.cell? ⟨mb, 2, none⟩ = some (.int .i64 (st.fails : Nat)) ∧ wr.frozen? ⟨mb, 1, none⟩ = false ∧ wr.frozen? ⟨mb, 2, none⟩ = false := by
  obtain ⟨v, hm, hF⟩ := h.g.at_.1
  exact ⟨hm.blk.cell 1, hm.blk.cell 2, Blk.frozen hm.blk 1, Blk.frozen hm.blk 2⟩
theorem LdO.mset (h : LdO mb w wr st F bs vO os rs) (j : Nat) (hj : j = 1 ∨ j = 2) (x : Nat) (hx : x ≤ 1000) : LdO mb w (wr.setCell ⟨mb, j, none⟩ (.int .i64 (x : Nat))) ⟨st.L, if j = 1 then x else st.count, if j = 2 then x else st.fails⟩ F bs vO os rs := by
  obtain ⟨v, hm, hF⟩ := h.g.at_.1
  have ho : F mb := (hF mb).2 (.inl rfl)
  have hmod : Mod (fun k => k = mb) wr (wr.setCell ⟨mb, j, none⟩ (.int .i64 (x : Nat))) := (Mod.refl (fun k => k = mb) wr).setCell (.inl rfl)
  have hne : ∀ g, ¬ F g → ¬ g = mb := fun g hn e => hn (by rw [e]; exact ho)
  refine ⟨⟨⟨⟨v, ⟨?_, hmod.rowN hm.row (fun g hg e => hm.nb (by rw [hg, e])), hm.nb, ?_, ?_⟩, hF⟩, ?_, h.g.at_.2.2⟩, fun b hb => hmod.blk (h.g.kb b hb) (hne _ (h.g.fr b hb)), h.g.fr⟩, rowK hmod h.own (fun g hg => hne g (h.fo g hg)), h.fo, fun r hr => ?_, h.fr⟩
  · have := hm.blk.setCell j (.int .i64 (x : Nat))
    rcases hj with rfl | rfl <;> simpa using this
  · have := hm.cnt
    dsimp only; split <;> omega
  · have := hm.fls
    dsimp only; split <;> omega
  · exact h.g.at_.2.1.self hmod
  · obtain ⟨b, k⟩ := h.row r hr
    exact ⟨b, rowK hmod k (fun g hg => hne g (h.fr r hr g hg))⟩
end
end Go.Proofs.YtbhofablndjeoaaDoor
