/- polderlaw16's acts as they come in; where a law's walk over them stands. -/
import Derived.Test.YtbhofablndjeoaaDoorDwA
namespace Go.Proofs.YtbhofablndjeoaaDoor
open Go.RowKit Go.ChangeShapes Go.WideShapes Go.Deep
set_option linter.unusedVariables false
/-- an act of polderlaw16 -/
structure ActD where
  d : UInt8
  id : Int
  n : NodeT
structure ActD.ok (x : ActD) : Prop where
  id : I64' x.id
  n : x.n.wf
def encD (x : ActD) : List Value := .int .u8 x.d.toNat :: .int .i64 x.id :: encN x.n
def aD6 : ActD := ⟨0, 0, nD⟩
instance : Inhabited ActD := ⟨aD6⟩
theorem encD_len (x : ActD) : (encD x).length = 15 := rfl
def encDs (l : List ActD) : List Value := l.flatMap encD
theorem encDs_length (l : List ActD) : (encDs l).length = l.length * 15 := by
  unfold encDs
  induction l with
  | nil => rfl
  | cons a r ih => simp only [List.flatMap_cons, List.length_append, ih, List.length_cons, encD_len]; omega
/-- a slice of acts -/
def DSl (w : World) (ao : Option Addr) (n cap : Nat) (zs : List ActD) : Prop := RSl w 15 ao n cap (encDs zs) ∧ ∀ r ∈ zs, r.ok
theorem DSl.len {w : World} {ao : Option Addr} {n cap : Nat} {zs : List ActD} (h : DSl w ao n cap zs) : zs.length = n := by
  have := h.1.1
  rw [encDs_length] at this
  omega
theorem DSl.mx {w : World} {ao : Option Addr} {n cap : Nat} {zs : List ActD} (h : DSl w ao n cap zs) : n ≤ 9223372036854775807 := by
  have h1 := h.1.2.1
  have h2 := h.1.2.2.1
  unfold maxLen at h2
  omega
theorem DSl.below {w w' : World} {ao : Option Addr} {n cap : Nat} {zs : List ActD} (h : DSl w ao n cap zs) (hb : Below w.heap.size w w') : DSl w' ao n cap zs := ⟨h.1.below hb, h.2⟩
theorem DSl.cells {w : World} {ao : Option Addr} {n cap : Nat} {zs : List ActD} (h : DSl w ao n cap zs) (hn : 0 < n) : ∃ b off, ao = some ⟨b, off, none⟩ ∧ b < w.heap.size ∧ ∀ W, Below w.heap.size w W → ∀ k, k < n →
    (zs.getD k aD6).ok ∧ W.rangeAt b (off + k * 15) (encD (zs.getD k aD6)) := by
  obtain ⟨b, off, e, hb, hc⟩ := h.1.2.2.2.2 hn
  have hl := h.len
  refine ⟨b, off, e, hb, fun W hW k hk => ⟨?_, fun j v hj => ?_⟩⟩
  · rw [List.getD_eq_getElem?_getD, List.getElem?_eq_getElem (show k < zs.length by omega)]; exact h.2 _ (List.getElem_mem _)
  · have hj4 : j < 15 := by
      by_cases h4 : j < 15
      · exact h4
      · rw [List.getElem?_eq_none (by rw [encD_len]; omega)] at hj; cases hj
    have h1 := hc (k * 15 + j) (by omega)
    rw [show (encDs zs)[k * 15 + j]? = some v from (flat_get (f := encD) (K := 15) (fun a => rfl) zs k j aD6 (by omega) hj4).trans hj] at h1
    rw [Nat.add_assoc, World.cell?_of_block (w := w) (hW.block b hb)]
    exact h1
section
variable {H : Type} {enc : TypeId × Value → H} {W : World} {base : Nat} {spare : Nat → Bool} {held : Bool}
set_option maxRecDepth 100000 in
theorem open_acts16 {a : Option Addr} {len cap : Nat} {d : DataW H} {p : List MemPlace} (h : DataW.Trod enc Tryd.prog W base spare held 56 (.slice a len cap) d p) : ∃ zs, DSl W a len cap zs := by
  obtain ⟨g, hg, hf⟩ := open_flat (n := 9) (K := 15) (ks := [.int .u8, .int .i64, .int .i64, .int .i64, .int .i64, .int .i64, .int .i64, .bool, .int .i64, .int .i64, .int .i64, .int .u64, .int .u64, .int .u64, .int .u64]) Tryd.underlying56 (by kernel_rfl) rfl (by kernel_rfl) (by omega) h
  have u8 : ∀ x : Int, (Lit.int .u8 x).wf = true → ∃ b : UInt8, x = b.toNat := fun x h => by
    have h' : 0 ≤ x ∧ x ≤ 255 := by simpa [Lit.wf, IntKind.min, IntKind.max, IntKind.signed, IntKind.bits] using h
    exact ⟨UInt8.ofNat x.toNat, by simp; omega⟩
  have cv : ∀ x : Int, (Lit.int .i64 x).wf = true → I64' x := fun x h => by simpa [I64', Lit.wf, IntKind.min, IntKind.max, IntKind.signed, IntKind.bits] using h
  have uv : ∀ x : Int, (Lit.int .u64 x).wf = true → U64' x := fun x h => by
    have h' : 0 ≤ x ∧ x ≤ 18446744073709551615 := by simpa [Lit.wf, IntKind.min, IntKind.max, IntKind.signed, IntKind.bits] using h
    unfold U64'; omega
  have each : ∀ i, i < len → ∃ r : ActD, g i = encD r ∧ r.ok := by
    intro i hi
    have := hf i hi
    match g i, fits_length this, this with
    | [v0, v1, v2, v3, v4, v5, v6, v7, v8, v9, v10, v11, v12, v13, v14], _, h =>
      obtain ⟨⟨x0, rfl, b0⟩, ⟨x1, rfl, b1⟩, ⟨x2, rfl, b2⟩, ⟨x3, rfl, b3⟩, ⟨x4, rfl, b4⟩, ⟨x5, rfl, b5⟩, ⟨x6, rfl, b6⟩, ⟨x7, rfl⟩, ⟨x8, rfl, b8⟩, ⟨x9, rfl, b9⟩, ⟨x10, rfl, b10⟩, ⟨x11, rfl, b11⟩, ⟨x12, rfl, b12⟩, ⟨x13, rfl, b13⟩, ⟨x14, rfl, b14⟩, _⟩ := h
      obtain ⟨y0, rfl⟩ := u8 _ b0
      exact ⟨⟨y0, x1, ⟨x2, ⟨x3, x4, x5, x6, x7, x8, x9, x10, x11, x12, x13, x14⟩⟩⟩, rfl, ⟨cv _ b1, ⟨cv _ b2, ⟨⟨cv _ b3, cv _ b4, cv _ b5, cv _ b6, cv _ b8, cv _ b9, cv _ b10⟩, uv _ b11, uv _ b12, uv _ b13, uv _ b14⟩⟩⟩⟩
  obtain ⟨q, hq⟩ := choose_lt each
  refine ⟨(List.range len).map q, ?_, fun r hr => ?_⟩
  · have : ((List.range len).map g).flatten = encDs ((List.range len).map q) := by
      unfold encDs
      rw [List.flatMap_def, List.map_map]
      congr 1
      apply List.map_congr_left
      intro i hi
      exact (hq i (List.mem_range.1 hi)).1
    rw [← this]
    exact hg
  · obtain ⟨i, hi, rfl⟩ := List.mem_map.1 hr
    exact (hq i (List.mem_range.1 hi)).2
set_option maxRecDepth 100000 in
/-- a node as it comes in -/
theorem open_node {v : Value} {d : DataW H} {p : List MemPlace} (h : DataW.Trod enc Tryd.prog W base spare held 37 v d p) (hv : ∃ cs, v = .agg cs) : ∃ n : NodeT, v = .agg (encN n).toArray ∧ n.wf := by
  obtain ⟨cs, rfl⟩ := hv
  obtain ⟨m, hm⟩ := h
  have hf := (flat_fits 9 _ [.int .i64, .int .i64, .int .i64, .int .i64, .int .i64, .bool, .int .i64, .int .i64, .int .i64, .int .u64, .int .u64, .int .u64, .int .u64] _ _ _ (by kernel_rfl) hm).1
  have cv : ∀ x : Int, (Lit.int .i64 x).wf = true → I64' x := fun x h => by simpa [I64', Lit.wf, IntKind.min, IntKind.max, IntKind.signed, IntKind.bits] using h
  have uv : ∀ x : Int, (Lit.int .u64 x).wf = true → U64' x := fun x h => by
    have h' : 0 ≤ x ∧ x ≤ 18446744073709551615 := by simpa [Lit.wf, IntKind.min, IntKind.max, IntKind.signed, IntKind.bits] using h
    unfold U64'; omega
  obtain ⟨l⟩ := cs
  simp only [Value.cells] at hf
  match l, fits_length hf, hf with
  | [v2, v3, v4, v5, v6, v7, v8, v9, v10, v11, v12, v13, v14], _, h =>
    obtain ⟨⟨x2, rfl, b2⟩, ⟨x3, rfl, b3⟩, ⟨x4, rfl, b4⟩, ⟨x5, rfl, b5⟩, ⟨x6, rfl, b6⟩, ⟨x7, rfl⟩, ⟨x8, rfl, b8⟩, ⟨x9, rfl, b9⟩, ⟨x10, rfl, b10⟩, ⟨x11, rfl, b11⟩, ⟨x12, rfl, b12⟩, ⟨x13, rfl, b13⟩, ⟨x14, rfl, b14⟩, _⟩ := h
    exact ⟨⟨x2, ⟨x3, x4, x5, x6, x7, x8, x9, x10, x11, x12, x13, x14⟩⟩, rfl, ⟨cv _ b2, ⟨⟨cv _ b3, cv _ b4, cv _ b5, cv _ b6, cv _ b8, cv _ b9, cv _ b10⟩, uv _ b11, uv _ b12, uv _ b13, uv _ b14⟩⟩⟩
set_option maxRecDepth 100000 in
theorem open_nodeW {r : Reach} {b0 : Nat} {v : Value} {d : DataW H} {p : List MemPlace} (hv : Value.okWide Tryd.prog W r b0 37 v) (h : DataW.Trod enc Tryd.prog W base spare held 37 v d p) : ∃ n : NodeT, v = .agg (encN n).toArray ∧ n.wf := by
  obtain ⟨cs, e, _⟩ := okWide_struct Tryd.underlying37 hv
  exact open_node h ⟨cs, e⟩
end
/-- where a law stands: its store, and its directory's variable -/
structure LdI (mb gN : Nat) (w wr : World) (k : Nat) (d : NodeT) (D : Nat → Option NodeT) (st : MemT) (F : Nat → Prop) : Prop where
  at_ : (memC mb).At (fun x => x = mb) st w wr F
  bn : Blk wr gN 37 (encN d)
  fN : ¬ F gN
  rd : Rd k st
  di : DI st.L d D
/-- and with a variable behind an act -/
structure LdX (mb gN : Nat) (w wx : World) (d : NodeT) (g : Nat) (r : Except Nat NodeT) (st : MemT) (F : Nat → Prop) : Prop where
  at_ : (memC mb).At (fun x => x = mb) st w wx F
  bn : Blk wx gN 37 (encN d)
  bx : Blk wx g 37 (encN (ndV r))
  fN : ¬ F gN
  fX : ¬ F g
  ne : gN ≠ g
theorem LdI.nwf {mb gN : Nat} {w wr : World} {k : Nat} {d : NodeT} {D : Nat → Option NodeT} {st : MemT} {F : Nat → Prop} (h : LdI mb gN w wr k d D st F) (hk : k ≤ 150) : d.wf := h.di.nw.wf' (by have := h.rd.l; omega)
theorem LdI.below {mb gN : Nat} {w wr wr' : World} {k : Nat} {d : NodeT} {D : Nat → Option NodeT} {st : MemT} {F : Nat → Prop} (h : LdI mb gN w wr k d D st F) (hb : Below wr.heap.size wr wr') : LdI mb gN w wr' k d D st F :=
  ⟨h.at_.below hb, h.bn.below hb, h.fN, h.rd, h.di⟩
/-- a store beside nodes' variables -/
structure LdS (mb : Nat) (w wr : World) (st : MemT) (F : Nat → Prop) (bs : List (Nat × NodeT)) : Prop where
  at_ : (memC mb).At (fun x => x = mb) st w wr F
  kb : KB bs wr
  fr : ∀ b ∈ bs, ¬ F b.1
section
variable {mb : Nat} {w wr wc : World} {st s2 : MemT} {F : Nat → Prop} {bs : List (Nat × NodeT)}
theorem LdS.below (h : LdS mb w wr st F bs) (hb : Below wr.heap.size wr wc) : LdS mb w wc st F bs := ⟨h.at_.below hb, fun b hm => (h.kb b hm).below hb, h.fr⟩
theorem LdS.step (h : LdS mb w wr st F bs) (hs : (memC mb).Step F s2 wr wc) : ∃ F3, LdS mb w wc s2 F3 bs := by
  obtain ⟨F3, hat, hfr, hm⟩ := h.at_.step hs
  exact ⟨F3, hat, fun b hb => hm.blk (h.kb b hb) (h.fr b hb), fun b hb => hfr _ (h.kb b hb).lt (h.fr b hb)⟩
theorem LdS.new (h : LdS mb w wr st F bs) (q : NodeT) : LdS mb w (wr.alloc (.cells (encN q).toArray 37)) st F ((wr.heap.size, q) :: bs) := by
  have hb : Below wr.heap.size wr (wr.alloc (.cells (encN q).toArray 37)) := (Below.refl _ _).alloc (Nat.le_refl _) _
  have h1 := h.below hb
  refine ⟨h1.at_, fun b hm => ?_, fun b hm => ?_⟩
  · rcases List.mem_cons.1 hm with rfl | hm
    · exact Blk.new wr _ _
    · exact h1.kb b hm
  · rcases List.mem_cons.1 hm with rfl | hm
    · exact h.at_.fresh (Nat.le_refl _)
    · exact h1.fr b hm
theorem LdS.old {w0 : World} (h : LdS mb w wr st F bs) (hb : Below w0.heap.size w0 w) (hm : w0.heap.size ≤ mb) : Below w0.heap.size w0 wr :=
  hb.trans (h.at_.2.1.toBelow (B := w0.heap.size) (fun k hk => by omega) hb.size)
end
theorem DI.wf {L : List Bs} {d : NodeT} {D : Nat → Option NodeT} (h : DI L d D) {A : Nat} (hA : A < 32) : (dRes (D A)).1.wf := by
  cases hD : D A with
  | none => exact nD_wf
  | some n =>
    obtain ⟨h1, h2, _⟩ := h.some_ A n hA hD
    exact ⟨by have := h2.1; have := h2.2.1; unfold I64'; unfold maxC at *; show -9223372036854775808 ≤ n.size ∧ n.size ≤ 9223372036854775807; omega, h1⟩
theorem rd_getN {k : Nat} {st : MemT} {d : NodeT} {D : Nat → Option NodeT} (h : Rd k st) (hd : DI st.L d D) {A : Nat} (hA : A < 32) : ∃ s2, dgetM memF d (A : Int) st = (.ok (dRes (D A)), s2) ∧ s2.L = st.L ∧ Rd (k + 1) s2 := by
  obtain ⟨s2, e, hl, hr⟩ := rd_dget h hd (A : Int)
  rw [if_pos ⟨by omega, by omega⟩, show ((A : Int)).toNat = A by omega] at e
  exact ⟨s2, e, hl, hr⟩
theorem sd_id {w : World} {b o : Nat} {x : ActD} {P : Prop} (h : P ∧ w.rangeAt b o (encD x)) : w.cell? ⟨b, o + 1, none⟩ = some (.int .i64 x.id) := h.2 1 _ rfl
theorem sd_n {w : World} {b o : Nat} {x : ActD} {P : Prop} (h : P ∧ w.rangeAt b o (encD x)) : w.rangeAt b (o + 2) (encN x.n) := fun j v hj => by
  have := h.2 (2 + j) v (by
    have e : encD x = [.int .u8 x.d.toNat, .int .i64 x.id] ++ encN x.n := rfl
    rw [e, List.getElem?_append_right (by simp)]
    simpa using hj)
  rw [← Nat.add_assoc] at this
  exact this
end Go.Proofs.YtbhofablndjeoaaDoor
