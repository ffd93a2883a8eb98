/- The walk of the statement VisitPlays. -/
import Derived.Test.YtbkknpodipapoaaVsPc
namespace Go.Proofs.Ytbkknpodipapoaa
open Go.RowKit
set_option linter.unusedSimpArgs false
attribute [local go_sem ↓] Go.wp_at_zero Go.wp_at_succ
attribute [local go_sem ↓] wp_loadP wp_storeP quiet_loadP wp_buildP quiet_binP
attribute [local go_sem] Oper.semAt_some

/-- four rows of pointers, apart -/
def Ap (x y : Value) : Prop := ∀ g, x.ownBlock = some g → y.ownBlock ≠ some g
theorem Ap.symm {x y : Value} (h : Ap x y) : Ap y x := fun g h2 h1 => h g h1 h2
structure Four (base : Nat) (wr : World) (a b c d : Value) (A B C D : List PtrT) : Prop where
  r1 : PRow wr base a A
  r2 : PRow wr base b B
  r3 : PRow wr base c C
  r4 : PRow wr base d D
  n12 : Ap a b
  n13 : Ap a c
  n14 : Ap a d
  n23 : Ap b c
  n24 : Ap b d
  n34 : Ap c d
theorem Four.s2 {base : Nat} {wr : World} {a b c d : Value} {A B C D : List PtrT} (h : Four base wr a b c d A B C D) : Four base wr b a c d B A C D := ⟨h.r2, h.r1, h.r3, h.r4, h.n12.symm, h.n23, h.n24, h.n13, h.n14, h.n34⟩
theorem Four.s3 {base : Nat} {wr : World} {a b c d : Value} {A B C D : List PtrT} (h : Four base wr a b c d A B C D) : Four base wr c b a d C B A D := ⟨h.r3, h.r2, h.r1, h.r4, h.n23.symm, h.n13.symm, h.n34, h.n12.symm, h.n24, h.n14⟩
theorem Four.s4 {base : Nat} {wr : World} {a b c d : Value} {A B C D : List PtrT} (h : Four base wr a b c d A B C D) : Four base wr d b c a D B C A := ⟨h.r4, h.r2, h.r3, h.r1, h.n24.symm, h.n34.symm, h.n14.symm, h.n23, h.n12.symm, h.n13.symm⟩
theorem Four.below {base : Nat} {wr w' : World} {a b c d : Value} {A B C D : List PtrT} (h : Four base wr a b c d A B C D) (hb : Below wr.heap.size wr w') : Four base w' a b c d A B C D :=
  ⟨owns_below h.r1 hb, owns_below h.r2 hb, owns_below h.r3 hb, owns_below h.r4 hb, h.n12, h.n13, h.n14, h.n23, h.n24, h.n34⟩
theorem Ap.kept {base : Nat} {wr w' : World} {x y : Value} {Y : List PtrT} (h : Ap x y) (hr : PRow wr base y Y) (hg : wr.grownBy w' x.ownBlock) : PRow w' base y Y := hr.kept hg (by
  cases e : y.ownBlock with
  | none => exact .inl rfl
  | some g => exact .inr (fun e2 => h g e2.symm e))
theorem Ap.step {base : Nat} {wr : World} {x x' y : Value} {Y : List PtrT} (h : Ap x y) (hr : PRow wr base y Y) (hl : x'.ownBlock = x.ownBlock ∨ x'.ownBlock = some wr.heap.size) : Ap x' y := fun g h1 h2 => by
  rcases hl with e | e
  · exact h g (e ▸ h1) h2
  · rw [h1] at e
    have := (hr.lt g h2).2
    rw [Option.some.inj e] at this
    omega
theorem Four.step {base : Nat} {wr w' : World} {a b c d a' : Value} {A B C D A' : List PtrT} (h : Four base wr a b c d A B C D) (hr : PRow w' base a' A') (hg : wr.grownBy w' a.ownBlock) (hl : a'.ownBlock = a.ownBlock ∨ a'.ownBlock = some wr.heap.size) : Four base w' a' b c d A' B C D :=
  ⟨hr, h.n12.kept h.r2 hg, h.n13.kept h.r3 hg, h.n14.kept h.r4 hg, h.n12.step h.r2 hl, h.n13.step h.r3 hl, h.n14.step h.r4 hl, h.n23, h.n24, h.n34⟩
/-- a store that touches none of the rows -/
theorem Four.other {base : Nat} {wr w' : World} {a b c d : Value} {A B C D : List PtrT} {g : Nat} (h : Four base wr a b c d A B C D) (hg : wr.grownBy w' (some g)) (hl : g < base) : Four base w' a b c d A B C D := by
  have k : ∀ {v : Value} {L : List PtrT}, PRow wr base v L → PRow w' base v L := fun {v} {L} hr => hr.kept hg (by
    cases e : v.ownBlock with
    | none => exact .inl rfl
    | some x => exact .inr (fun e2 => by have := (hr.lt x e).1; have := Option.some.inj e2; omega))
  exact ⟨k h.r1, k h.r2, k h.r3, k h.r4, h.n12, h.n13, h.n14, h.n23, h.n24, h.n34⟩
/-- what stands besides a loop's own blocks -/
def Sm (own : Nat → Prop) (A B : World) : Prop := A.heap.size ≤ B.heap.size ∧ ∀ k, k < A.heap.size → ¬ own k → B.heap[k]? = A.heap[k]?
theorem Sm.refl (own : Nat → Prop) (A : World) : Sm own A A := ⟨Nat.le_refl _, fun _ _ _ => rfl⟩
theorem Sm.step {own : Nat → Prop} {A B C : World} {row : Option Nat} (h : Sm own A B) (hg : B.grownBy C row) (hr : ∀ r, row = some r → own r ∨ A.heap.size ≤ r) : Sm own A C :=
  ⟨Nat.le_trans h.1 hg.size, fun k hk ho => by
    rw [hg.block k (Nat.lt_of_lt_of_le hk h.1) (fun e => by
      rcases hr k e.symm with h1 | h1
      · exact ho h1
      · omega)]
    exact h.2 k hk ho⟩
theorem Sm.below {own : Nat → Prop} {A B C : World} (h : Sm own A B) (hb : Below B.heap.size B C) : Sm own A C := h.step (row := none) (grown_of_below hb) (fun r e => by cases e)
theorem Blk.sm {own : Nat → Prop} {A B : World} {g e : Nat} {cs : List Value} (h : Blk A g e cs) (hs : Sm own A B) (ho : ¬ own g) : Blk B g e cs := by
  unfold Blk
  rw [hs.2 g h.lt ho]
  exact h
theorem PSl.sm {own : Nat → Prop} {A B : World} {ao : Option Addr} {n cap : Nat} {l : List PtrT} (h : PSl A ao n cap l) (hs : Sm own A B) (ho : ∀ b off, ao = some ⟨b, off, none⟩ → 0 < n → ¬ own b) : PSl B ao n cap l := by
  obtain ⟨h1, h2, h3, h4, h5⟩ := h
  refine ⟨h1, h2, h3, h4, fun hn => ?_⟩
  obtain ⟨b, off, e, hlt, hc⟩ := h5 hn
  refine ⟨b, off, e, Nat.lt_of_lt_of_le hlt hs.1, fun j hj => ?_⟩
  rw [← hc j hj]
  unfold World.cell?
  rw [hs.2 b hlt (ho b off e hn)]
theorem KpO.grown {own : Nat → Prop} {W W' : World} {row : Option Nat} (hg : W.grownBy W' row) (ho : ∀ r, row = some r → own r) : KpO own W W' :=
  ⟨hg.size, fun k cs e fr hk hn => by
    rw [hg.block k (Array.getElem?_eq_some_iff.1 hk).1 (fun e2 => hn (ho k e2.symm))]
    exact hk⟩
theorem prefix_at {pre LB : List PtrT} {x : PtrT} (h : pre ++ [x] <+: LB) : pre.length < LB.length ∧ LB.getD pre.length pD = x := by
  obtain ⟨r, rfl⟩ := h
  refine ⟨by simp, ?_⟩
  rw [List.getD_eq_getElem?_getD, List.append_assoc, List.getElem?_append_right (Nat.le_refl _)]
  simp
theorem cutA {A B : Prop} (h : A → B) (a : A) : B := h a
theorem frame_name {P : Program} {Q : Exit → Act → World → Prop} {c : Code} {a : Act} {W : World} (h : ∀ a0, a0 = a → c.wp P Q a0 W) : c.wp P Q a W := h a rfl
/-- a comparison of pointers inside a fence -/
def BinI (F : Fence) (n : Nat) (P : Program) (o : Oper) (op : BinOp) (t : TypeId) (x y : Operand) (u1 u2 : Value) (a : Act) (w : World) (next : Act → World → Prop) (Q : Exit → Act → World → Prop) : Prop :=
  o.uponIn F n P a next Q ((do let r ← (do eqGuard op t x y u1 u2; binOp op t u1 u2); pure (Next.value r) : Sem Next).run P w)
theorem wpIn_binP {F : Fence} {n : Nat} {dst : Option Tmp} {op : BinOp} {x y : Operand} {t' ty : TypeId} {pos : String} {after : Array Edge} {guard : Option (Nat × Bool)} {a : Act} {w : World} {next : Act → World → Prop} {Q : Exit → Act → World → Prop} :
    Oper.wpIn F n Try.prog ⟨dst, .binOp op 30 x y t', ty, pos, after, guard⟩ a w next Q = BinI F n Try.prog ⟨dst, .binOp op 30 x y t', ty, pos, after, guard⟩ op 30 x y (a.eval x) (a.eval y) a w next Q := by
  unfold Oper.wpIn
  rw [semAt_any (fun c h => by cases h)]
  exact propext ⟨fun h => h.2, fun h => ⟨fun f hf => (by cases hf), h⟩⟩
theorem binI_same {F : Fence} {n : Nat} (p : PtrT) (o : Oper) (x y : Operand) (a : Act) (W : World) (next : Act → World → Prop) (Q : Exit → Act → World → Prop) : BinI F n Try.prog o .neq 30 x y (.agg (encPtr p).toArray) (.agg (encPtr p).toArray) a W next Q = next (a.put o.dst (.bool false)) W := by
  unfold BinI
  rw [Sem.run_bind, run_neq_ptr, decide_eq_true rfl]
  rfl
theorem binI_diff {F : Fence} {n : Nat} {p q : PtrT} (h : p ≠ q) (o : Oper) (x y : Operand) (a : Act) (W : World) (next : Act → World → Prop) (Q : Exit → Act → World → Prop) : BinI F n Try.prog o .neq 30 x y (.agg (encPtr p).toArray) (.agg (encPtr q).toArray) a W next Q = next (a.put o.dst (.bool true)) W := by
  unfold BinI
  rw [Sem.run_bind, run_neq_ptr, decide_eq_false h]
  rfl
def filTo (O : List PtrT) (c : PtrT → Bool) (k : Nat) : List PtrT := (O.take k).filter c
theorem filTo_yes {O : List PtrT} {c : PtrT → Bool} {k : Nat} (hk : k < O.length) (h : c (O.getD k pD) = true) : filTo O c (k + 1) = filTo O c k ++ [O.getD k pD] := by
  unfold filTo
  rw [take_getD hk, List.filter_append, List.filter_cons_of_pos h]
  rfl
theorem filTo_no {O : List PtrT} {c : PtrT → Bool} {k : Nat} (hk : k < O.length) (h : c (O.getD k pD) = false) : filTo O c (k + 1) = filTo O c k := by
  unfold filTo
  rw [take_getD hk, List.filter_append, List.filter_cons_of_neg (by rw [h]; exact Bool.false_ne_true), List.filter_nil, List.append_nil]
theorem filTo_len (O : List PtrT) (c : PtrT → Bool) (k : Nat) : (filTo O c k).length ≤ O.length := Nat.le_trans (List.length_filter_le _ _) (by rw [List.length_take]; omega)
theorem filTo_all (O : List PtrT) (c : PtrT → Bool) : filTo O c O.length = O.filter c := by unfold filTo; rw [List.take_length]
theorem results_boolcell {fn : Func} {p : Tmp} (h : fn.results = #[.cell p 4]) (tmps : Array Value) (w : World) (g : Nat) (b : Bool) (hp : tmps.getD p undef = .pointer (some ⟨g, 0, none⟩)) (hg : Blk w g 4 [.bool b]) :
    (results fn tmps).run Try.prog w = .ok (.bool b) w := by
  have hp' : tmps[p]?.getD undef = .pointer (some ⟨g, 0, none⟩) := by simpa using hp
  have e2 := run_loadVar_bool w g b (hg.cell 0)
  simp [results, h, hp', asAddr, e2]
theorem wp_app_at {o : Oper} {a : Act} {K : Act → World → Prop} {Q : Exit → Act → World → Prop} {w : World} (s x : Operand)
    (ho : o.op = .call { callee := .builtin .append, args := #[s, x], argTypes := #[22, 22] }) (base : Nat) (v : Value) (got xs : List PtrT) (hs : a.eval s = v) (hown : PRow w base v got)
    (b off c : Nat) (hx : a.eval x = .slice (some ⟨b, off, none⟩) xs.length c) (hn : w.rangeAt b off (encPs xs)) (hm : got.length + xs.length ≤ 1000000) (hbase : base ≤ w.heap.size)
    (h : ∀ v' w', PRow w' base v' (got ++ xs) → w.grownBy w' v.ownBlock → (v'.ownBlock = v.ownBlock ∨ v'.ownBlock = some w.heap.size) → K (a.put o.dst v') w') : Oper.wp Try.prog o a w K Q := by
  obtain ⟨i0, hi, hi0, hi1, hi2⟩ := info_parts infoPt
  obtain ⟨v', w', hr, h2, h3, h4, h5⟩ := run_append_own_at (P := Try.prog) w base 22 o.type 30 i0 (.agg #[.int .i64 0, .int .i64 0, .int .i64 0, .int .i64 0, .bool false, .int .i64 0, .int .i64 0, .int .i64 0, .int .u64 0, .int .u64 0, .int .u64 0, .int .u64 0]) 12 96 Try.underlying22 hi hi0 hi1 hi2 rfl (Nat.succ_pos 11)
    v got.length (encPs got) hown ⟨b, off, none⟩ xs.length c (encPs xs) (encPs_length xs) (fun j u hj => by rw [Addr.add_mid]; exact hn j u hj) (encPs_one xs) (by unfold maxLen; omega) (by omega) hbase
  unfold Oper.wp execOp
  simp only [ho, resolve, invoke, builtin, Sem.run_bind, Sem.run_pure, Result.andThen_ok, List.map_toArray, List.map_cons, List.map_nil, hs, hx, hr]
  exact h v' w' (by rw [← encPs_append, ← List.length_append] at h2; exact h2) h3 h5
theorem setCell_grown (W : World) (g o : Nat) (v : Value) : W.grownBy (W.setCell ⟨g, o, none⟩ v) (some g) := setCells_grown g [v] W o
attribute [local go_sem ↓] wpIn_loadP wpIn_storeP wpIn_binP
set_option maxRecDepth 100000 in
set_option maxHeartbeats 6400000 in
theorem visitplays_any (ao bo : Option Addr) (n cap m cap' : Nat) (l lo : List PtrT) (mb mg ma f t prev st : Int) (w : World) (h : PSl w ao n cap l) (h' : PSl w bo m cap' lo) (hst : 0 ≤ st ∧ st ≤ 255) :
  Calls Try.prog 7 #[.slice ao n cap, .slice bo m cap', .agg #[.int .i64 mb, .int .i64 mg, .int .i64 ma], .agg #[.int .i64 f, .int .i64 t], .int .i64 prev, .int .u8 st] w fun e w' => e = .returned (.bool true) ∧ Below w.heap.size w w' := by
 have hmx := BW.mx h
 have hmx' := BW.mx h'
 have H := Lib.hid h
 have H' := Lib.hid h'
 have HL := Lib.hid h.len
 have HL' := Lib.hid h'.len
 have HA := Lib.hid (fun W => awake22_any W)
 clear h h'
 obtain ⟨W0, hW0⟩ : ∃ W0, W0 = (((w.alloc (.cells #[.int .i64 mb, .int .i64 mg, .int .i64 ma] 34)).alloc (.cells #[.int .i64 f, .int .i64 t] 42)).alloc (.cells #[.int .u8 st] 5)).alloc (.cells #[.bool false] 4) := ⟨_, rfl⟩
 have B0 : Hid (Below w.heap.size w W0) := Lib.hid (by rw [hW0]; exact ((((Below.refl _ _).alloc (Nat.le_refl _) _).alloc (by simp) _).alloc (by simp; omega) _).alloc (by simp; omega) _)
 have HS0 : Hid (W0.heap.size = w.heap.size + 4) := Lib.hid (by rw [hW0]; simp)
 have KM0 : Hid (Blk W0 w.heap.size 34 (encM ⟨mb, mg, ma⟩)) := Lib.hid (by rw [hW0]; exact (((Blk.new _ _ _).alloc _).alloc _).alloc _)
 have KR0 : Hid (Blk W0 (w.heap.size + 1) 42 [.int .i64 f, .int .i64 t]) := Lib.hid (by rw [hW0]; exact ((Blk.newAt (g := w.heap.size + 1) _ [.int .i64 f, .int .i64 t] (by simp)).alloc _).alloc _)
 have KS0 : Hid (Blk W0 (w.heap.size + 2) 5 [.int .u8 st]) := Lib.hid (by rw [hW0]; exact (Blk.newAt (g := w.heap.size + 2) _ [.int .u8 st] (by simp)).alloc _)
 have KB0 : Hid (Blk W0 (w.heap.size + 3) 4 [.bool false]) := Lib.hid (by rw [hW0]; exact Blk.newAt (g := w.heap.size + 3) _ [.bool false] (by simp))
 have HW0 := Lib.hid hW0
 clear hW0
 by_cases hbig : 60 < n ∨ 60 < m
 ·
  have HBG := Lib.hid hbig
  have HEnd : Hid (∀ w2, Below W0.heap.size W0 w2 → Blk w2 (w.heap.size + 3) 4 [.bool false] ∧ Blk (w2.setCell ⟨w.heap.size + 3, 0, none⟩ (.bool true)) (w.heap.size + 3) 4 [.bool true] ∧ Below w.heap.size w (w2.setCell ⟨w.heap.size + 3, 0, none⟩ (.bool true))) := Lib.hid (fun w2 hb => ⟨KB0.out.below hb, (KB0.out.below hb).setCell 0 _, (B0.out.trans (hb.mono B0.out.size)).setCell (p := ⟨w.heap.size + 3, 0, none⟩) (by show w.heap.size ≤ w.heap.size + 3; omega) _⟩)
  by_cases hn60 : 60 < n
  ·
   have hd1 : decide ((60 : Int) < (n : Int)) = true := by simp; omega
   clear hbig
   go_enter Try.func7, Try.ntmps7
   go_wp2_with fail
   rw [← HW0.out]
   refine (HA.out _).mono ?_
   rintro e w1 ⟨rfl, hb1⟩
   have B1 := Lib.hid hb1
   clear hb1
   go_wp2_with fail
   refine (HA.out _).mono ?_
   rintro e w2 ⟨rfl, hb2⟩
   obtain ⟨hc, hk, hb⟩ := HEnd.out _ (B1.out.trans (hb2.mono B1.out.size))
   have c0 := hc.cell 0
   have f0 := hc.frozen 0
   have HK := Lib.hid hk
   have HB := Lib.hid hb
   clear hc hk hb hb2
   go_wp2_with fail
   refine bodyPost_ret (results_boolcell rfl _ _ (w.heap.size + 3) true rfl HK.out) rfl ?_
   exact ⟨rfl, HB.out⟩
  ·
   have hd1 : decide ((60 : Int) < (n : Int)) = false := by simp; omega
   have hd2 : decide ((60 : Int) < (m : Int)) = true := by simp; omega
   clear hbig
   go_enter Try.func7, Try.ntmps7
   go_wp2_with fail
   rw [← HW0.out]
   refine (HA.out _).mono ?_
   rintro e w1 ⟨rfl, hb1⟩
   have B1 := Lib.hid hb1
   clear hb1
   go_wp2_with fail
   refine (HA.out _).mono ?_
   rintro e w2 ⟨rfl, hb2⟩
   obtain ⟨hc, hk, hb⟩ := HEnd.out _ (B1.out.trans (hb2.mono B1.out.size))
   have c0 := hc.cell 0
   have f0 := hc.frozen 0
   have HK := Lib.hid hk
   have HB := Lib.hid hb
   clear hc hk hb hb2
   go_wp2_with fail
   refine bodyPost_ret (results_boolcell rfl _ _ (w.heap.size + 3) true rfl HK.out) rfl ?_
   exact ⟨rfl, HB.out⟩
 ·
  have hd1 : decide ((60 : Int) < (n : Int)) = false := by simp; omega
  have hd2 : decide ((60 : Int) < (m : Int)) = false := by simp; omega
  have hn : n ≤ 60 := by omega
  have hm : m ≤ 60 := by omega
  clear hbig
  obtain ⟨O, hO⟩ : ∃ O, O = ordL l := ⟨_, rfl⟩
  have HOE := Lib.hid hO
  have HOL : Hid (O.length ≤ n) := Lib.hid (by rw [hO, ← HL.out]; exact ordL_length l)
  clear hO
  refine (callsIn_wide (n := 10)).1 (callsIn_of_wp_marks Try.func7 rfl trivial ?_ rfl)
  refine wpIn_wide.2 ?_
  simp only [Try.ntmps7, List.size_toArray, List.length_cons, List.length_nil, Nat.reduceAdd, Nat.reduceSub, Array.replicate_succ, Array.replicate_zero, List.push_toArray, List.append_toArray, List.nil_append, List.cons_append]
  go_wp2_with fail
  rw [← HW0.out]
  refine (HA.out _).mono ?_
  rintro e w1 ⟨rfl, hb1⟩
  have B1 := Lib.hid hb1
  clear hb1
  go_wp2_with fail
  refine (rorder_any ao n cap l w1 (H.out.below (B0.out.trans (B1.out.mono B0.out.size))) (by omega)).mono ?_
  rintro e w2 ⟨vO, rfl, hr2, hb2⟩
  obtain ⟨oo, oc, rfl, hpo⟩ := psl_of_row hr2
  have B2 := Lib.hid (B1.out.trans (hb2.mono B1.out.size))
  rw [← HOE.out] at hpo ⊢
  have PO2 := Lib.hid hpo
  clear hb2 hr2 hpo
  obtain ⟨s, hs⟩ : ∃ s, s = O.length := ⟨_, rfl⟩
  have HSO := Lib.hid hs
  rw [← hs] at PO2 ⊢
  clear hs
  go_wp2_with fail
  refine (vorder_psl ao n cap l w2 (H.out.below (B0.out.trans (B2.out.mono B0.out.size))) (by omega)).mono ?_
  rintro e w3 ⟨po, co, rfl, hp3, hb3⟩
  have B3 := Lib.hid (B2.out.trans (hb3.mono B2.out.size))
  have HSM := Lib.hid (same_ps _ _ _ _ _ _ _ _ w3 hp3 (PO2.out.below hb3))
  rw [decide_eq_true HOE.out.symm] at HSM
  have PO3 := Lib.hid (PO2.out.below hb3)
  clear hb3 hp3
  go_wp2_with fail
  refine HSM.out.mono ?_
  rintro e w4 ⟨rfl, hb4⟩
  have B4 := Lib.hid (B3.out.trans (hb4.mono B3.out.size))
  have PO4 := Lib.hid (PO3.out.below hb4)
  clear hb4 HSM
  have HKM : Hid (∀ W, Below w4.heap.size w4 W → Blk W w.heap.size 34 (encM ⟨mb, mg, ma⟩)) := Lib.hid (fun W hb => (KM0.out.below B4.out).below hb)
  have HKR : Hid (∀ W, Below w4.heap.size w4 W → Blk W (w.heap.size + 1) 42 [.int .i64 f, .int .i64 t]) := Lib.hid (fun W hb => (KR0.out.below B4.out).below hb)
  have HKS : Hid (∀ W, Below w4.heap.size w4 W → Blk W (w.heap.size + 2) 5 [.int .u8 st]) := Lib.hid (fun W hb => (KS0.out.below B4.out).below hb)
  have HKB : Hid (∀ W, Below w4.heap.size w4 W → Blk W (w.heap.size + 3) 4 [.bool false]) := Lib.hid (fun W hb => (KB0.out.below B4.out).below hb)
  have BW4 := Lib.hid (B0.out.trans (B4.out.mono B0.out.size))
  have HPL : Hid (∀ W, Below w4.heap.size w4 W → PSl W ao n cap l) := Lib.hid (fun W hb => (H.out.below BW4.out).below hb)
  have HPQ : Hid (∀ W, Below w4.heap.size w4 W → PSl W bo m cap' lo) := Lib.hid (fun W hb => (H'.out.below BW4.out).below hb)
  have HPO : Hid (∀ W, Below w4.heap.size w4 W → PSl W oo s oc O) := Lib.hid (fun W hb => PO4.out.below hb)
  have hs4 : w.heap.size + 4 ≤ w4.heap.size := by have := HS0.out; have := B4.out.size; omega
  have bA := (Below.refl w4.heap.size w4).alloc (Nat.le_refl _) (.cells #[.slice none 0 0] 22)
  have m0 : (w4.alloc (.cells #[.slice none 0 0] 22)).cell? ⟨w.heap.size, 0, none⟩ = some (.int .i64 mb) := (HKM.out _ bA).cell 0
  have m1 : (w4.alloc (.cells #[.slice none 0 0] 22)).cell? ⟨w.heap.size, 1, none⟩ = some (.int .i64 mg) := (HKM.out _ bA).cell 1
  have m2 : (w4.alloc (.cells #[.slice none 0 0] 22)).cell? ⟨w.heap.size, 2, none⟩ = some (.int .i64 ma) := (HKM.out _ bA).cell 2
  obtain ⟨cI, hcI⟩ : ∃ c : PtrT → Bool, c = fun p => hasR f t p.birth := ⟨_, rfl⟩
  obtain ⟨cG, hcG⟩ : ∃ c : PtrT → Bool, c = fun p => !memM lo (markOf p) := ⟨_, rfl⟩
  obtain ⟨cD, hcD⟩ : ∃ c : PtrT → Bool, c = fun p => !memM lo (markOf p) && decide (prev < p.birth) := ⟨_, rfl⟩
  obtain ⟨cB, hcB⟩ : ∃ c : PtrT → Bool, c = fun p => decide (ltM ⟨mb, mg, ma⟩ (markOf p)) && hasR f t p.birth := ⟨_, rfl⟩
  have HCI := Lib.hid hcI
  have HCG := Lib.hid hcG
  have HCD := Lib.hid hcD
  have HCB := Lib.hid hcB
  have C0 : Hid (Blk ((w4.alloc (.cells #[.slice none 0 0] 22)).alloc (.cells #[.int .i64 mb, .int .i64 mg, .int .i64 ma] 48)) w4.heap.size 22 [.slice none 0 0]) := Lib.hid ((Blk.new _ _ [.slice none 0 0]).alloc _)
  have M0 : Hid (Blk ((w4.alloc (.cells #[.slice none 0 0] 22)).alloc (.cells #[.int .i64 mb, .int .i64 mg, .int .i64 ma] 48)) (w4.heap.size + 1) 48 (encM ⟨mb, mg, ma⟩)) := Lib.hid (Blk.newAt (w := w4.alloc _) 48 (encM ⟨mb, mg, ma⟩) (by simp))
  have BB0 : Hid (Below w4.heap.size w4 ((w4.alloc (.cells #[.slice none 0 0] 22)).alloc (.cells #[.int .i64 mb, .int .i64 mg, .int .i64 ma] 48))) := Lib.hid (bA.alloc (by simp) _)
  have SS0 : Hid (w4.heap.size + 2 ≤ ((w4.alloc (.cells #[.slice none 0 0] 22)).alloc (.cells #[.int .i64 mb, .int .i64 mg, .int .i64 ma] 48)).heap.size) := Lib.hid (by simp)
  have F0 : Hid (Four (w4.heap.size + 2) ((w4.alloc (.cells #[.slice none 0 0] 22)).alloc (.cells #[.int .i64 mb, .int .i64 mg, .int .i64 ma] 48)) (.slice none 0 0) (.slice none 0 0) (.slice none 0 0) (.slice none 0 0) (filTo O cI 0) (filTo O cG 0) (filTo O cD 0) (filTo O cB 0)) := Lib.hid ⟨World.ownsRow_nil _ _ _ _, World.ownsRow_nil _ _ _ _, World.ownsRow_nil _ _ _ _, World.ownsRow_nil _ _ _ _, (fun g h => by cases h), (fun g h => by cases h), (fun g h => by cases h), (fun g h => by cases h), (fun g h => by cases h), (fun g h => by cases h)⟩
  clear bA hcI hcG hcD hcB
  go_wp2_with fail
  clear m0 m1 m2
  go_loopw [14, 15, 16, 19] (fun u1 u2 u3 i wr => ∃ (k : Nat) (v1 v2 v3 v4 : Value), k ≤ s ∧ Hid (i = .int .i64 (k : Nat)) ∧ Hid (v1 = u1) ∧ Hid (v2 = u2) ∧ Hid (v3 = u3) ∧ Hid (Four (w4.heap.size + 2) wr v1 v2 v3 v4 (filTo O cI k) (filTo O cG k) (filTo O cD k) (filTo O cB k)) ∧ Hid (Blk wr w4.heap.size 22 [v4]) ∧ Hid (Blk wr (w4.heap.size + 1) 48 (encM ⟨mb, mg, ma⟩)) ∧ Hid (Below w4.heap.size w4 wr) ∧ Hid (w4.heap.size + 2 ≤ wr.heap.size)) (fun _ _ _ i _ => s - (intOf i).toNat)
  case atStart => exact ⟨0, _, _, _, _, by omega, Lib.hid rfl, Lib.hid rfl, Lib.hid rfl, Lib.hid rfl, F0, C0, M0, BB0, SS0⟩
  case round =>
   obtain ⟨k, v1, v2, v3, v4, hk, e0, e1, e2, e3, HF, HC, HM, HB, HS⟩ := hrel
   obtain rfl := e0.out
   obtain rfl := e1.out
   obtain rfl := e2.out
   obtain rfl := e3.out
   clear e0 e1 e2 e3 F0 C0 M0 BB0 SS0
   have hs60 : s ≤ 60 := by have := HSO.out; have := HOL.out; omega
   by_cases hks : k < s
   ·
    obtain ⟨b, off, rfl, hb, _⟩ := (HPO.out w4 (Below.refl _ _)).read (by omega)
    have hkO : k < O.length := by rw [← HSO.out]; exact hks
    obtain ⟨x, hx⟩ : ∃ x, x = O.getD k pD := ⟨_, rfl⟩
    have HXE := Lib.hid hx
    have HRX : Hid (∀ W, Below w4.heap.size w4 W → W.rangeAt b (off + k * 12) (encPtr x)) := Lib.hid (fun W hb => by rw [HXE.out]; exact (HPO.out W hb).readAt hks)
    have HC7 : Hid (∀ W, Below w4.heap.size w4 W → W.cell? ⟨b, off + k * 12 + 7, none⟩ = some (.int .i64 x.birth)) := Lib.hid (fun W hb => HRX.out W hb 7 _ rfl)
    have HBL := Lib.hid hb
    clear hx hb
    obtain ⟨d1, hd1'⟩ : ∃ d, d = hasR f t x.birth := ⟨_, rfl⟩
    obtain ⟨d2, hd2'⟩ : ∃ d, d = decide (ltM ⟨mb, mg, ma⟩ (markOf x)) := ⟨_, rfl⟩
    obtain ⟨d3, hd3'⟩ : ∃ d, d = memM lo (markOf x) := ⟨_, rfl⟩
    have HD1 := Lib.hid hd1'
    have HD2 := Lib.hid hd2'
    have HD3 := Lib.hid hd3'
    have HHS : Hid (∀ W, Calls Try.prog 16 #[.int .i64 f, .int .i64 t, .int .i64 x.birth] W fun e w' => e = .returned (.bool d1) ∧ Below W.heap.size W w') := Lib.hid (fun W => (r19has_any f t x.birth W).mono fun e w' ⟨h1, h2⟩ => ⟨by rw [h1, HD1.out], by rw [h2]; exact Below.refl _ _⟩)
    have HLS : Hid (∀ W, Calls Try.prog 19 #[.agg #[.int .i64 mb, .int .i64 mg, .int .i64 ma], .agg (encM (markOf x)).toArray] W fun e w' => e = .returned (.bool d2) ∧ Below W.heap.size W w') := Lib.hid (by rw [hd2']; exact fun W => rless_any ⟨mb, mg, ma⟩ (markOf x) W)
    have HHO : Hid (∀ W, Below w4.heap.size w4 W → Calls Try.prog 21 #[.slice bo m cap', .agg (encM (markOf x)).toArray] W fun e w' => e = .returned (.bool d3) ∧ Below W.heap.size W w') := Lib.hid (by rw [hd3']; exact fun W hb => rhas_any bo m cap' lo (markOf x) W (HPQ.out W hb))
    have HOF : Hid (∀ W, Calls Try.prog 20 #[.agg (encPtr x).toArray] W fun e w' => e = .returned (.agg (encM (markOf x)).toArray) ∧ Below W.heap.size W w') := Lib.hid (fun W => rof_any x W)
    have HTI : Hid (filTo O cI (k + 1) = if d1 then filTo O cI k ++ [x] else filTo O cI k) := Lib.hid (by
     have e : cI x = d1 := by rw [HCI.out, hd1']
     rw [HXE.out] at e
     cases hh : d1 with
     | true => rw [if_pos rfl, HXE.out]; exact filTo_yes hkO (by rw [e, hh])
     | false => rw [if_neg Bool.false_ne_true]; exact filTo_no hkO (by rw [e, hh]))
    have HTB : Hid (filTo O cB (k + 1) = if d2 && d1 then filTo O cB k ++ [x] else filTo O cB k) := Lib.hid (by
     have e : cB x = (d2 && d1) := by rw [HCB.out, hd1', hd2']
     rw [HXE.out] at e
     cases hh : d2 && d1 with
     | true => rw [if_pos rfl, HXE.out]; exact filTo_yes hkO (by rw [e, hh])
     | false => rw [if_neg Bool.false_ne_true]; exact filTo_no hkO (by rw [e, hh]))
    have HTG : Hid (filTo O cG (k + 1) = if !d3 then filTo O cG k ++ [x] else filTo O cG k) := Lib.hid (by
     have e : cG x = !d3 := by rw [HCG.out, hd3']
     rw [HXE.out] at e
     cases hh : !d3 with
     | true => rw [if_pos rfl, HXE.out]; exact filTo_yes hkO (by rw [e, hh])
     | false => rw [if_neg Bool.false_ne_true]; exact filTo_no hkO (by rw [e, hh]))
    have HTD : Hid (filTo O cD (k + 1) = if !d3 && decide (prev < x.birth) then filTo O cD k ++ [x] else filTo O cD k) := Lib.hid (by
     have e : cD x = (!d3 && decide (prev < x.birth)) := by rw [HCD.out, hd3']
     rw [HXE.out] at e
     cases hh : !d3 && decide (prev < x.birth) with
     | true => rw [if_pos rfl]; rw [HXE.out] at hh ⊢; exact filTo_yes hkO (by rw [e, hh])
     | false => rw [if_neg Bool.false_ne_true]; rw [HXE.out] at hh; exact filTo_no hkO (by rw [e, hh]))
    clear hd1' hd2' hd3' HD1 HD2 HD3
    have hszI : (filTo O cI k).length + [x].length ≤ 1000000 := by have := filTo_len O cI k; have := HSO.out; have := HOL.out; simp; omega
    have hszG : (filTo O cG k).length + [x].length ≤ 1000000 := by have := filTo_len O cG k; have := HSO.out; have := HOL.out; simp; omega
    have hszD : (filTo O cD k).length + [x].length ≤ 1000000 := by have := filTo_len O cD k; have := HSO.out; have := HOL.out; simp; omega
    have hszB : (filTo O cB k).length + [x].length ≤ 1000000 := by have := filTo_len O cB k; have := HSO.out; have := HOL.out; simp; omega
    have r0 : ∀ q : BW wr, q.w.cell? ⟨w.heap.size + 1, 0, none⟩ = some (.int .i64 f) := fun q => q.cell ((HKR.out wr HB.out).cell 0)
    have r1 : ∀ q : BW wr, q.w.cell? ⟨w.heap.size + 1, 1, none⟩ = some (.int .i64 t) := fun q => q.cell ((HKR.out wr HB.out).cell 1)
    have x7 : ∀ q : BW wr, q.w.cell? ⟨b, off + k * 12 + 7, none⟩ = some (.int .i64 x.birth) := fun q => q.cell (HC7.out wr HB.out)
    go_wp2_with fail
    refine wp_region_below (by kernel_rfl) (by kernel_rfl) ?_
    repeat (go_big_quiet_step (first | (go_at_call_of 16 f; refine Calls.bw_of (HHS.out _))))
    refine wpQuiet_nil ?_
    rintro _ ⟨q, rfl⟩
    clear r0 r1 x7
    have F1 := Lib.hid (HF.out.below q.bel)
    have C1 := Lib.hid (HC.out.below q.bel)
    have M1 := Lib.hid (HM.out.below q.bel)
    have BB1 := Lib.hid (HB.out.trans (q.bel.mono HB.out.size))
    have S1 := Lib.hid (Nat.le_trans HS.out q.bel.size)
    obtain ⟨wq, hwq⟩ : ∃ wq, wq = q.w := ⟨_, rfl⟩
    rw [← hwq] at F1 C1 M1 BB1 S1
    rw [← hwq]
    clear hwq HF HC HM HB HS
    cases d1 with
    | false =>
     have HTI' : Hid (filTo O cI (k + 1) = filTo O cI k) := HTI
     have HTB' : Hid (filTo O cB (k + 1) = filTo O cB k) := Lib.hid (by rw [HTB.out, Bool.and_false]; rfl)
     rw [← HTI'.out] at F1
     rw [← HTB'.out] at F1
     go_wp2_with fail
     refine wp_region_below (by kernel_rfl) (by kernel_rfl) ?_
     repeat (go_big_quiet_step (fail))
     refine wpQuiet_nil ?_
     rintro _ ⟨q, rfl⟩
     have Fp1 := Lib.hid (F1.out.below q.bel)
     have Cp1 := Lib.hid (C1.out.below q.bel)
     have Mp1 := Lib.hid (M1.out.below q.bel)
     have BBp1 := Lib.hid (BB1.out.trans (q.bel.mono BB1.out.size))
     have Sp1 := Lib.hid (Nat.le_trans S1.out q.bel.size)
     obtain ⟨wqp1, hwq⟩ : ∃ wq, wq = q.w := ⟨_, rfl⟩
     rw [← hwq] at Fp1 Cp1 Mp1 BBp1 Sp1 ⊢
     clear hwq
     have l2 := load_ptr (HRX.out _ BBp1.out)
     go_wp2_with fail
     refine (HOF.out _).mono ?_
     rintro e wo2 ⟨rfl, hbo⟩
     have F2o := Lib.hid (Fp1.out.below hbo)
     have C2o := Lib.hid (Cp1.out.below hbo)
     have M2o := Lib.hid (Mp1.out.below hbo)
     have BB2o := Lib.hid (BBp1.out.trans (hbo.mono BBp1.out.size))
     have S2o := Lib.hid (Nat.le_trans Sp1.out hbo.size)
     clear hbo l2
     go_wp2_with fail
     refine (HHO.out _ BB2o.out).mono ?_
     rintro e wh2 ⟨rfl, hbo⟩
     have F2h := Lib.hid (F2o.out.below hbo)
     have C2h := Lib.hid (C2o.out.below hbo)
     have M2h := Lib.hid (M2o.out.below hbo)
     have BB2h := Lib.hid (BB2o.out.trans (hbo.mono BB2o.out.size))
     have S2h := Lib.hid (Nat.le_trans S2o.out hbo.size)
     clear hbo
     cases d3 with
     | true =>
      have HTG' : Hid (filTo O cG (k + 1) = filTo O cG k) := HTG
      have HTD' : Hid (filTo O cD (k + 1) = filTo O cD k) := HTD
      rw [← HTG'.out] at F2h
      rw [← HTD'.out] at F2h
      go_wp2_with fail
      go_roundw
      case rel => exact ⟨k + 1, v1, v2, v3, v4, by omega, Lib.hid (by go_num), Lib.hid rfl, Lib.hid rfl, Lib.hid rfl, F2h, C2h, M2h, BB2h, S2h⟩
      case measure => simp [intOf]; omega
     | false =>
      have HTG' : Hid (filTo O cG (k + 1) = filTo O cG k ++ [x]) := HTG
      by_cases hgt : prev < x.birth
      ·
       have hgd : decide (prev < x.birth) = true := by simpa using hgt
       have HTD' : Hid (filTo O cD (k + 1) = filTo O cD k ++ [x]) := Lib.hid (by rw [HTD.out, hgd]; rfl)
       have l3 := load_ptr (HRX.out _ BB2h.out)
       have s3 := build_ptr wh2 x
       have BA3 := Lib.hid ((Below.refl wh2.heap.size wh2).alloc (Nat.le_refl _) (.cells (encPtr x).toArray 30))
       have FA3 := Lib.hid ((F2h.out.below BA3.out).s2)
       have HBA3 := Lib.hid (BB2h.out.trans (BA3.out.mono BB2h.out.size))
       have CA3 := Lib.hid (C2h.out.below BA3.out)
       have MA3 := Lib.hid (M2h.out.below BA3.out)
       have NW3 := Lib.hid (rangeAt_single (Blk.new wh2 30 (encPtr x)))
       have m33 := Nat.le_trans S2h.out BA3.out.size
       have HX7 := Lib.hid (fun W2 (hg : (wh2.alloc (.cells (encPtr x).toArray 30)).grownBy W2 v2.ownBlock) => HC7.out W2 (below_own (base := w4.heap.size + 2) HBA3.out FA3.out.r1 hg (Nat.le_trans (by omega) m33) (by omega)))
       go_wp2_with (at_builtin; go_must (refine wpList_app_at rfl (.tmp 101) (.tmp 106) rfl (w4.heap.size + 2) v2 (filTo O cG k) [x] rfl FA3.out.r1 wh2.heap.size 0 1 rfl NW3.out hszG m33 ?_; intro va3 wx3 hown hgrow hloc; have c7 := HX7.out _ hgrow))
       have F3 := Lib.hid ((FA3.out.step hown hgrow hloc).s2)
       have BB3 := Lib.hid (below_own (base := w4.heap.size + 2) HBA3.out FA3.out.r1 hgrow (Nat.le_trans (by omega) m33) (by omega))
       have C3 : Hid (Blk wx3 w4.heap.size 22 [v4]) := Lib.hid (by unfold Blk; rw [hgrow.block _ CA3.out.lt (fun e => by have := (FA3.out.r1.lt _ e.symm).1; omega)]; exact CA3.out)
       have M3 : Hid (Blk wx3 (w4.heap.size + 1) 48 (encM ⟨mb, mg, ma⟩)) := Lib.hid (by unfold Blk; rw [hgrow.block _ MA3.out.lt (fun e => by have := (FA3.out.r1.lt _ e.symm).1; omega)]; exact MA3.out)
       have S3 := Lib.hid (Nat.le_trans m33 hgrow.size)
       rw [← HTG'.out] at F3
       clear hown hgrow hloc l3 s3 BA3 FA3 HBA3 CA3 MA3 NW3
       clear c7 HX7
       have l4 := load_ptr (HRX.out _ BB3.out)
       have s4 := build_ptr wx3 x
       have BA4 := Lib.hid ((Below.refl wx3.heap.size wx3).alloc (Nat.le_refl _) (.cells (encPtr x).toArray 30))
       have FA4 := Lib.hid ((F3.out.below BA4.out).s3)
       have HBA4 := Lib.hid (BB3.out.trans (BA4.out.mono BB3.out.size))
       have CA4 := Lib.hid (C3.out.below BA4.out)
       have MA4 := Lib.hid (M3.out.below BA4.out)
       have NW4 := Lib.hid (rangeAt_single (Blk.new wx3 30 (encPtr x)))
       have m34 := Nat.le_trans S3.out BA4.out.size
       rw [l4]
       go_wp2_with (at_builtin; go_must (refine wpList_app_at rfl (.tmp 115) (.tmp 120) rfl (w4.heap.size + 2) v3 (filTo O cD k) [x] rfl FA4.out.r1 wx3.heap.size 0 1 rfl NW4.out hszD m34 ?_; intro va4 wx4 hown hgrow hloc))
       have F4 := Lib.hid ((FA4.out.step hown hgrow hloc).s3)
       have BB4 := Lib.hid (below_own (base := w4.heap.size + 2) HBA4.out FA4.out.r1 hgrow (Nat.le_trans (by omega) m34) (by omega))
       have C4 : Hid (Blk wx4 w4.heap.size 22 [v4]) := Lib.hid (by unfold Blk; rw [hgrow.block _ CA4.out.lt (fun e => by have := (FA4.out.r1.lt _ e.symm).1; omega)]; exact CA4.out)
       have M4 : Hid (Blk wx4 (w4.heap.size + 1) 48 (encM ⟨mb, mg, ma⟩)) := Lib.hid (by unfold Blk; rw [hgrow.block _ MA4.out.lt (fun e => by have := (FA4.out.r1.lt _ e.symm).1; omega)]; exact MA4.out)
       have S4 := Lib.hid (Nat.le_trans m34 hgrow.size)
       rw [← HTD'.out] at F4
       clear hown hgrow hloc l4 s4 BA4 FA4 HBA4 CA4 MA4 NW4
       go_roundw
       case rel => exact ⟨k + 1, v1, va3, va4, v4, by omega, Lib.hid (by go_num), Lib.hid rfl, Lib.hid rfl, Lib.hid rfl, F4, C4, M4, BB4, S4⟩
       case measure => simp [intOf]; omega
      ·
       have hgd : decide (prev < x.birth) = false := by simpa using hgt
       have HTD' : Hid (filTo O cD (k + 1) = filTo O cD k) := Lib.hid (by rw [HTD.out, hgd]; rfl)
       have l5 := load_ptr (HRX.out _ BB2h.out)
       have s5 := build_ptr wh2 x
       have BA5 := Lib.hid ((Below.refl wh2.heap.size wh2).alloc (Nat.le_refl _) (.cells (encPtr x).toArray 30))
       have FA5 := Lib.hid ((F2h.out.below BA5.out).s2)
       have HBA5 := Lib.hid (BB2h.out.trans (BA5.out.mono BB2h.out.size))
       have CA5 := Lib.hid (C2h.out.below BA5.out)
       have MA5 := Lib.hid (M2h.out.below BA5.out)
       have NW5 := Lib.hid (rangeAt_single (Blk.new wh2 30 (encPtr x)))
       have m35 := Nat.le_trans S2h.out BA5.out.size
       have HX7 := Lib.hid (fun W2 (hg : (wh2.alloc (.cells (encPtr x).toArray 30)).grownBy W2 v2.ownBlock) => HC7.out W2 (below_own (base := w4.heap.size + 2) HBA5.out FA5.out.r1 hg (Nat.le_trans (by omega) m35) (by omega)))
       go_wp2_with (at_builtin; go_must (refine wpList_app_at rfl (.tmp 101) (.tmp 106) rfl (w4.heap.size + 2) v2 (filTo O cG k) [x] rfl FA5.out.r1 wh2.heap.size 0 1 rfl NW5.out hszG m35 ?_; intro va5 wx5 hown hgrow hloc; have c7 := HX7.out _ hgrow))
       have F5 := Lib.hid ((FA5.out.step hown hgrow hloc).s2)
       have BB5 := Lib.hid (below_own (base := w4.heap.size + 2) HBA5.out FA5.out.r1 hgrow (Nat.le_trans (by omega) m35) (by omega))
       have C5 : Hid (Blk wx5 w4.heap.size 22 [v4]) := Lib.hid (by unfold Blk; rw [hgrow.block _ CA5.out.lt (fun e => by have := (FA5.out.r1.lt _ e.symm).1; omega)]; exact CA5.out)
       have M5 : Hid (Blk wx5 (w4.heap.size + 1) 48 (encM ⟨mb, mg, ma⟩)) := Lib.hid (by unfold Blk; rw [hgrow.block _ MA5.out.lt (fun e => by have := (FA5.out.r1.lt _ e.symm).1; omega)]; exact MA5.out)
       have S5 := Lib.hid (Nat.le_trans m35 hgrow.size)
       rw [← HTG'.out] at F5
       clear hown hgrow hloc l5 s5 BA5 FA5 HBA5 CA5 MA5 NW5
       clear c7 HX7
       rw [← HTD'.out] at F5
       go_roundw
       case rel => exact ⟨k + 1, v1, va5, v3, v4, by omega, Lib.hid (by go_num), Lib.hid rfl, Lib.hid rfl, Lib.hid rfl, F5, C5, M5, BB5, S5⟩
       case measure => simp [intOf]; omega
    | true =>
     have HTI' : Hid (filTo O cI (k + 1) = filTo O cI k ++ [x]) := HTI
     have li6 := load_ptr (HRX.out _ BB1.out)
     have si6 := build_ptr wq x
     have BAi6 := Lib.hid ((Below.refl wq.heap.size wq).alloc (Nat.le_refl _) (.cells (encPtr x).toArray 30))
     have FAi6 := Lib.hid (F1.out.below BAi6.out)
     have HBAi6 := Lib.hid (BB1.out.trans (BAi6.out.mono BB1.out.size))
     have CAi6 := Lib.hid (C1.out.below BAi6.out)
     have MAi6 := Lib.hid (M1.out.below BAi6.out)
     have NWi6 := Lib.hid (rangeAt_single (Blk.new wq 30 (encPtr x)))
     have m3i6 := Nat.le_trans S1.out BAi6.out.size
     go_wp2_with (at_builtin; go_must (refine wpList_app_at rfl (.tmp 69) (.tmp 74) rfl (w4.heap.size + 2) v1 (filTo O cI k) [x] rfl FAi6.out.r1 wq.heap.size 0 1 rfl NWi6.out hszI m3i6 ?_; intro vai6 wxi6 hown hgrow hloc))
     have Fi6 := Lib.hid ((FAi6.out.step hown hgrow hloc))
     have BBi6 := Lib.hid (below_own (base := w4.heap.size + 2) HBAi6.out FAi6.out.r1 hgrow (Nat.le_trans (by omega) m3i6) (by omega))
     have Ci6 : Hid (Blk wxi6 w4.heap.size 22 [v4]) := Lib.hid (by unfold Blk; rw [hgrow.block _ CAi6.out.lt (fun e => by have := (FAi6.out.r1.lt _ e.symm).1; omega)]; exact CAi6.out)
     have Mi6 : Hid (Blk wxi6 (w4.heap.size + 1) 48 (encM ⟨mb, mg, ma⟩)) := Lib.hid (by unfold Blk; rw [hgrow.block _ MAi6.out.lt (fun e => by have := (FAi6.out.r1.lt _ e.symm).1; omega)]; exact MAi6.out)
     have Si6 := Lib.hid (Nat.le_trans m3i6 hgrow.size)
     rw [← HTI'.out] at Fi6
     clear hown hgrow hloc li6 si6 BAi6 FAi6 HBAi6 CAi6 MAi6 NWi6
     cases d2 with
     | false =>
      have HTB' : Hid (filTo O cB (k + 1) = filTo O cB k) := HTB
      rw [← HTB'.out] at Fi6
      have lx := read_at (HRX.out _ BBi6.out) (Nat.lt_of_lt_of_le HBL.out BBi6.out.size)
      have a0 : ∀ q : BW wxi6, q.w.cell? ⟨w4.heap.size + 1, 0, none⟩ = some (.int .i64 mb) := fun q => q.cell (Mi6.out.cell 0)
      have a1 : ∀ q : BW wxi6, q.w.cell? ⟨w4.heap.size + 1, 1, none⟩ = some (.int .i64 mg) := fun q => q.cell (Mi6.out.cell 1)
      have a2 : ∀ q : BW wxi6, q.w.cell? ⟨w4.heap.size + 1, 2, none⟩ = some (.int .i64 ma) := fun q => q.cell (Mi6.out.cell 2)
      go_wp2_with fail
      refine wp_region_below (by kernel_rfl) (by kernel_rfl) ?_
      repeat (go_big_quiet_step (first | (go_at_call_of 20 x; refine Calls.bw_of (HOF.out _)) | (go_at_call_of 19 mb; refine Calls.bw_of (HLS.out _))))
      refine wpQuiet_nil ?_
      rintro _ ⟨q, rfl⟩
      have Fp7 := Lib.hid (Fi6.out.below q.bel)
      have Cp7 := Lib.hid (Ci6.out.below q.bel)
      have Mp7 := Lib.hid (Mi6.out.below q.bel)
      have BBp7 := Lib.hid (BBi6.out.trans (q.bel.mono BBi6.out.size))
      have Sp7 := Lib.hid (Nat.le_trans Si6.out q.bel.size)
      obtain ⟨wqp7, hwq⟩ : ∃ wq, wq = q.w := ⟨_, rfl⟩
      rw [← hwq] at Fp7 Cp7 Mp7 BBp7 Sp7 ⊢
      clear hwq
      clear lx a0 a1 a2
      have l8 := load_ptr (HRX.out _ BBp7.out)
      go_wp2_with fail
      refine (HOF.out _).mono ?_
      rintro e wo8 ⟨rfl, hbo⟩
      have F8o := Lib.hid (Fp7.out.below hbo)
      have C8o := Lib.hid (Cp7.out.below hbo)
      have M8o := Lib.hid (Mp7.out.below hbo)
      have BB8o := Lib.hid (BBp7.out.trans (hbo.mono BBp7.out.size))
      have S8o := Lib.hid (Nat.le_trans Sp7.out hbo.size)
      clear hbo l8
      go_wp2_with fail
      refine (HHO.out _ BB8o.out).mono ?_
      rintro e wh8 ⟨rfl, hbo⟩
      have F8h := Lib.hid (F8o.out.below hbo)
      have C8h := Lib.hid (C8o.out.below hbo)
      have M8h := Lib.hid (M8o.out.below hbo)
      have BB8h := Lib.hid (BB8o.out.trans (hbo.mono BB8o.out.size))
      have S8h := Lib.hid (Nat.le_trans S8o.out hbo.size)
      clear hbo
      cases d3 with
      | true =>
       have HTG' : Hid (filTo O cG (k + 1) = filTo O cG k) := HTG
       have HTD' : Hid (filTo O cD (k + 1) = filTo O cD k) := HTD
       rw [← HTG'.out] at F8h
       rw [← HTD'.out] at F8h
       go_wp2_with fail
       go_roundw
       case rel => exact ⟨k + 1, vai6, v2, v3, v4, by omega, Lib.hid (by go_num), Lib.hid rfl, Lib.hid rfl, Lib.hid rfl, F8h, C8h, M8h, BB8h, S8h⟩
       case measure => simp [intOf]; omega
      | false =>
       have HTG' : Hid (filTo O cG (k + 1) = filTo O cG k ++ [x]) := HTG
       by_cases hgt : prev < x.birth
       ·
        have hgd : decide (prev < x.birth) = true := by simpa using hgt
        have HTD' : Hid (filTo O cD (k + 1) = filTo O cD k ++ [x]) := Lib.hid (by rw [HTD.out, hgd]; rfl)
        have l9 := load_ptr (HRX.out _ BB8h.out)
        have s9 := build_ptr wh8 x
        have BA9 := Lib.hid ((Below.refl wh8.heap.size wh8).alloc (Nat.le_refl _) (.cells (encPtr x).toArray 30))
        have FA9 := Lib.hid ((F8h.out.below BA9.out).s2)
        have HBA9 := Lib.hid (BB8h.out.trans (BA9.out.mono BB8h.out.size))
        have CA9 := Lib.hid (C8h.out.below BA9.out)
        have MA9 := Lib.hid (M8h.out.below BA9.out)
        have NW9 := Lib.hid (rangeAt_single (Blk.new wh8 30 (encPtr x)))
        have m39 := Nat.le_trans S8h.out BA9.out.size
        have HX7 := Lib.hid (fun W2 (hg : (wh8.alloc (.cells (encPtr x).toArray 30)).grownBy W2 v2.ownBlock) => HC7.out W2 (below_own (base := w4.heap.size + 2) HBA9.out FA9.out.r1 hg (Nat.le_trans (by omega) m39) (by omega)))
        go_wp2_with (at_builtin; go_must (refine wpList_app_at rfl (.tmp 101) (.tmp 106) rfl (w4.heap.size + 2) v2 (filTo O cG k) [x] rfl FA9.out.r1 wh8.heap.size 0 1 rfl NW9.out hszG m39 ?_; intro va9 wx9 hown hgrow hloc; have c7 := HX7.out _ hgrow))
        have F9 := Lib.hid ((FA9.out.step hown hgrow hloc).s2)
        have BB9 := Lib.hid (below_own (base := w4.heap.size + 2) HBA9.out FA9.out.r1 hgrow (Nat.le_trans (by omega) m39) (by omega))
        have C9 : Hid (Blk wx9 w4.heap.size 22 [v4]) := Lib.hid (by unfold Blk; rw [hgrow.block _ CA9.out.lt (fun e => by have := (FA9.out.r1.lt _ e.symm).1; omega)]; exact CA9.out)
        have M9 : Hid (Blk wx9 (w4.heap.size + 1) 48 (encM ⟨mb, mg, ma⟩)) := Lib.hid (by unfold Blk; rw [hgrow.block _ MA9.out.lt (fun e => by have := (FA9.out.r1.lt _ e.symm).1; omega)]; exact MA9.out)
        have S9 := Lib.hid (Nat.le_trans m39 hgrow.size)
        rw [← HTG'.out] at F9
        clear hown hgrow hloc l9 s9 BA9 FA9 HBA9 CA9 MA9 NW9
        clear c7 HX7
        have l10 := load_ptr (HRX.out _ BB9.out)
        have s10 := build_ptr wx9 x
        have BA10 := Lib.hid ((Below.refl wx9.heap.size wx9).alloc (Nat.le_refl _) (.cells (encPtr x).toArray 30))
        have FA10 := Lib.hid ((F9.out.below BA10.out).s3)
        have HBA10 := Lib.hid (BB9.out.trans (BA10.out.mono BB9.out.size))
        have CA10 := Lib.hid (C9.out.below BA10.out)
        have MA10 := Lib.hid (M9.out.below BA10.out)
        have NW10 := Lib.hid (rangeAt_single (Blk.new wx9 30 (encPtr x)))
        have m310 := Nat.le_trans S9.out BA10.out.size
        rw [l10]
        go_wp2_with (at_builtin; go_must (refine wpList_app_at rfl (.tmp 115) (.tmp 120) rfl (w4.heap.size + 2) v3 (filTo O cD k) [x] rfl FA10.out.r1 wx9.heap.size 0 1 rfl NW10.out hszD m310 ?_; intro va10 wx10 hown hgrow hloc))
        have F10 := Lib.hid ((FA10.out.step hown hgrow hloc).s3)
        have BB10 := Lib.hid (below_own (base := w4.heap.size + 2) HBA10.out FA10.out.r1 hgrow (Nat.le_trans (by omega) m310) (by omega))
        have C10 : Hid (Blk wx10 w4.heap.size 22 [v4]) := Lib.hid (by unfold Blk; rw [hgrow.block _ CA10.out.lt (fun e => by have := (FA10.out.r1.lt _ e.symm).1; omega)]; exact CA10.out)
        have M10 : Hid (Blk wx10 (w4.heap.size + 1) 48 (encM ⟨mb, mg, ma⟩)) := Lib.hid (by unfold Blk; rw [hgrow.block _ MA10.out.lt (fun e => by have := (FA10.out.r1.lt _ e.symm).1; omega)]; exact MA10.out)
        have S10 := Lib.hid (Nat.le_trans m310 hgrow.size)
        rw [← HTD'.out] at F10
        clear hown hgrow hloc l10 s10 BA10 FA10 HBA10 CA10 MA10 NW10
        go_roundw
        case rel => exact ⟨k + 1, vai6, va9, va10, v4, by omega, Lib.hid (by go_num), Lib.hid rfl, Lib.hid rfl, Lib.hid rfl, F10, C10, M10, BB10, S10⟩
        case measure => simp [intOf]; omega
       ·
        have hgd : decide (prev < x.birth) = false := by simpa using hgt
        have HTD' : Hid (filTo O cD (k + 1) = filTo O cD k) := Lib.hid (by rw [HTD.out, hgd]; rfl)
        have l11 := load_ptr (HRX.out _ BB8h.out)
        have s11 := build_ptr wh8 x
        have BA11 := Lib.hid ((Below.refl wh8.heap.size wh8).alloc (Nat.le_refl _) (.cells (encPtr x).toArray 30))
        have FA11 := Lib.hid ((F8h.out.below BA11.out).s2)
        have HBA11 := Lib.hid (BB8h.out.trans (BA11.out.mono BB8h.out.size))
        have CA11 := Lib.hid (C8h.out.below BA11.out)
        have MA11 := Lib.hid (M8h.out.below BA11.out)
        have NW11 := Lib.hid (rangeAt_single (Blk.new wh8 30 (encPtr x)))
        have m311 := Nat.le_trans S8h.out BA11.out.size
        have HX7 := Lib.hid (fun W2 (hg : (wh8.alloc (.cells (encPtr x).toArray 30)).grownBy W2 v2.ownBlock) => HC7.out W2 (below_own (base := w4.heap.size + 2) HBA11.out FA11.out.r1 hg (Nat.le_trans (by omega) m311) (by omega)))
        go_wp2_with (at_builtin; go_must (refine wpList_app_at rfl (.tmp 101) (.tmp 106) rfl (w4.heap.size + 2) v2 (filTo O cG k) [x] rfl FA11.out.r1 wh8.heap.size 0 1 rfl NW11.out hszG m311 ?_; intro va11 wx11 hown hgrow hloc; have c7 := HX7.out _ hgrow))
        have F11 := Lib.hid ((FA11.out.step hown hgrow hloc).s2)
        have BB11 := Lib.hid (below_own (base := w4.heap.size + 2) HBA11.out FA11.out.r1 hgrow (Nat.le_trans (by omega) m311) (by omega))
        have C11 : Hid (Blk wx11 w4.heap.size 22 [v4]) := Lib.hid (by unfold Blk; rw [hgrow.block _ CA11.out.lt (fun e => by have := (FA11.out.r1.lt _ e.symm).1; omega)]; exact CA11.out)
        have M11 : Hid (Blk wx11 (w4.heap.size + 1) 48 (encM ⟨mb, mg, ma⟩)) := Lib.hid (by unfold Blk; rw [hgrow.block _ MA11.out.lt (fun e => by have := (FA11.out.r1.lt _ e.symm).1; omega)]; exact MA11.out)
        have S11 := Lib.hid (Nat.le_trans m311 hgrow.size)
        rw [← HTG'.out] at F11
        clear hown hgrow hloc l11 s11 BA11 FA11 HBA11 CA11 MA11 NW11
        clear c7 HX7
        rw [← HTD'.out] at F11
        go_roundw
        case rel => exact ⟨k + 1, vai6, va11, v3, v4, by omega, Lib.hid (by go_num), Lib.hid rfl, Lib.hid rfl, Lib.hid rfl, F11, C11, M11, BB11, S11⟩
        case measure => simp [intOf]; omega
     | true =>
      have HTB' : Hid (filTo O cB (k + 1) = filTo O cB k ++ [x]) := HTB
      have lx := read_at (HRX.out _ BBi6.out) (Nat.lt_of_lt_of_le HBL.out BBi6.out.size)
      have a0 : ∀ q : BW wxi6, q.w.cell? ⟨w4.heap.size + 1, 0, none⟩ = some (.int .i64 mb) := fun q => q.cell (Mi6.out.cell 0)
      have a1 : ∀ q : BW wxi6, q.w.cell? ⟨w4.heap.size + 1, 1, none⟩ = some (.int .i64 mg) := fun q => q.cell (Mi6.out.cell 1)
      have a2 : ∀ q : BW wxi6, q.w.cell? ⟨w4.heap.size + 1, 2, none⟩ = some (.int .i64 ma) := fun q => q.cell (Mi6.out.cell 2)
      go_wp2_with fail
      refine wp_region_below (by kernel_rfl) (by kernel_rfl) ?_
      repeat (go_big_quiet_step (first | (go_at_call_of 20 x; refine Calls.bw_of (HOF.out _)) | (go_at_call_of 19 mb; refine Calls.bw_of (HLS.out _))))
      refine wpQuiet_nil ?_
      rintro _ ⟨q, rfl⟩
      have Fp12 := Lib.hid (Fi6.out.below q.bel)
      have Cp12 := Lib.hid (Ci6.out.below q.bel)
      have Mp12 := Lib.hid (Mi6.out.below q.bel)
      have BBp12 := Lib.hid (BBi6.out.trans (q.bel.mono BBi6.out.size))
      have Sp12 := Lib.hid (Nat.le_trans Si6.out q.bel.size)
      obtain ⟨wqp12, hwq⟩ : ∃ wq, wq = q.w := ⟨_, rfl⟩
      rw [← hwq] at Fp12 Cp12 Mp12 BBp12 Sp12 ⊢
      clear hwq
      clear lx a0 a1 a2
      go_wp2_with fail
      have bdz13 : Below wqp12.heap.size wqp12 (World.drew wqp12) := (Below.refl _ _).drew
      obtain ⟨wdz13, hwd⟩ : ∃ wd, wd = World.drew wqp12 := ⟨_, rfl⟩
      rw [← hwd] at bdz13
      have Fz13 := Lib.hid (Fp12.out.below bdz13)
      have Cz13 := Lib.hid (Cp12.out.below bdz13)
      have Mz13 := Lib.hid (Mp12.out.below bdz13)
      have BBz13 := Lib.hid (BBp12.out.trans (bdz13.mono BBp12.out.size))
      have Sz13 := Lib.hid (Nat.le_trans Sp12.out bdz13.size)
      refine wp_region_any (by kernel_rfl) ?_
      change wpAny _ _ _ _ _ _ _ (World.drew wqp12)
      rw [← hwd]
      clear hwd bdz13
      have l14 := load_ptr (HRX.out _ BBz13.out)
      have s14 := build_ptr wdz13 x
      have BA14 := Lib.hid ((Below.refl wdz13.heap.size wdz13).alloc (Nat.le_refl _) (.cells (encPtr x).toArray 30))
      have FA14 := Lib.hid ((Fz13.out.below BA14.out).s4)
      have HBA14 := Lib.hid (BBz13.out.trans (BA14.out.mono BBz13.out.size))
      have CA14 := Lib.hid (Cz13.out.below BA14.out)
      have MA14 := Lib.hid (Mz13.out.below BA14.out)
      have NW14 := Lib.hid (rangeAt_single (Blk.new wdz13 30 (encPtr x)))
      have m314 := Nat.le_trans Sz13.out BA14.out.size
      have cd14 := Cz13.out.cell 0
      have ca14 := CA14.out.cell 0
      refine cutA (A := ?pCu15) (fun hcut => ?pathsCu15) ?restCu15
      case pathsCu15 =>
       refine wpAny_ready (rs := [0, 1, 2]) (by kernel_rfl) (by simp) ?_
       refine AllReady.cons (o := ?zor55_0) ?zhr55_0 ?zkr55_0 (AllReady.cons (o := ?zor55_1) ?zhr55_1 ?zkr55_1 (AllReady.cons (o := ?zor55_2) ?zhr55_2 ?zkr55_2 AllReady.nil))
       case zhr55_0 => (simp only [List.getElem?_toArray, List.getElem?_cons_succ, List.getElem?_cons_zero]; rfl)
       case zhr55_1 => (simp only [List.getElem?_toArray, List.getElem?_cons_succ, List.getElem?_cons_zero]; rfl)
       case zhr55_2 => (simp only [List.getElem?_toArray, List.getElem?_cons_succ, List.getElem?_cons_zero]; rfl)
       ·
        intro K hK
        rw [if_pos (by kernel_rfl)]
        go_simp
        refine hK _ _ ?_
        try simp only [Act.put, List.setIfInBounds_toArray, List.set_cons_zero, List.set_cons_succ]
        clear hK
        clear K
        refine wpAny_ready (rs := [1, 2]) (by kernel_rfl) (by simp) ?_
        refine AllReady.cons (o := ?zor24_1) ?zhr24_1 ?zkr24_1 (AllReady.cons (o := ?zor24_2) ?zhr24_2 ?zkr24_2 AllReady.nil)
        case zhr24_1 => (simp only [List.getElem?_toArray, List.getElem?_cons_succ, List.getElem?_cons_zero]; rfl)
        case zhr24_2 => (simp only [List.getElem?_toArray, List.getElem?_cons_succ, List.getElem?_cons_zero]; rfl)
        ·
         intro K hK
         rw [if_pos (by kernel_rfl)]
         go_simp
         refine hK _ _ ?_
         try simp only [Act.put, List.setIfInBounds_toArray, List.set_cons_zero, List.set_cons_succ]
         clear hK
         clear K
         refine wpAny_ready (rs := [2]) (by kernel_rfl) (by simp) ?_
         refine AllReady.cons (o := ?zor19_2) ?zhr19_2 ?zkr19_2 AllReady.nil
         case zhr19_2 => (simp only [List.getElem?_toArray, List.getElem?_cons_succ, List.getElem?_cons_zero]; rfl)
         ·
          intro K hK
          rw [if_pos (by kernel_rfl)]
          go_simp
          refine hK _ _ ?_
          try simp only [Act.put, List.setIfInBounds_toArray, List.set_cons_zero, List.set_cons_succ]
          clear hK
          clear K
          refine wpAny_ready (rs := [3]) (by kernel_rfl) (by simp) ?_
          refine AllReady.cons (o := ?zor18_3) ?zhr18_3 ?zkr18_3 AllReady.nil
          case zhr18_3 => (simp only [List.getElem?_toArray, List.getElem?_cons_succ, List.getElem?_cons_zero]; rfl)
          ·
           intro K hK
           rw [if_pos (by kernel_rfl)]
           go_simp
           refine hK _ _ ?_
           try simp only [Act.put, List.setIfInBounds_toArray, List.set_cons_zero, List.set_cons_succ]
           clear hK
           clear K
           refine wpAny_ready (rs := [4]) (by kernel_rfl) (by simp) ?_
           refine AllReady.cons (o := ?zor17_4) ?zhr17_4 ?zkr17_4 AllReady.nil
           case zhr17_4 => (simp only [List.getElem?_toArray, List.getElem?_cons_succ, List.getElem?_cons_zero]; rfl)
           ·
            intro K hK
            rw [if_pos (by kernel_rfl)]
            go_simp
            refine hK _ _ ?_
            try simp only [Act.put, List.setIfInBounds_toArray, List.set_cons_zero, List.set_cons_succ]
            clear hK
            clear K
            refine wpAny_ready (rs := [5]) (by kernel_rfl) (by simp) ?_
            refine AllReady.cons (o := ?zor16_5) ?zhr16_5 ?zkr16_5 AllReady.nil
            case zhr16_5 => (simp only [List.getElem?_toArray, List.getElem?_cons_succ, List.getElem?_cons_zero]; rfl)
            ·
             intro K hK
             rw [if_pos (by kernel_rfl)]
             go_simp
             refine hK _ _ ?_
             try simp only [Act.put, List.setIfInBounds_toArray, List.set_cons_zero, List.set_cons_succ]
             clear hK
             clear K
             exact hcut
        ·
         intro K hK
         rw [if_pos (by kernel_rfl)]
         go_simp
         refine hK _ _ ?_
         try simp only [Act.put, List.setIfInBounds_toArray, List.set_cons_zero, List.set_cons_succ]
         clear hK
         clear K
         refine wpAny_ready (rs := [1]) (by kernel_rfl) (by simp) ?_
         refine AllReady.cons (o := ?zor23_1) ?zhr23_1 ?zkr23_1 AllReady.nil
         case zhr23_1 => (simp only [List.getElem?_toArray, List.getElem?_cons_succ, List.getElem?_cons_zero]; rfl)
         ·
          intro K hK
          rw [if_pos (by kernel_rfl)]
          go_simp
          refine hK _ _ ?_
          try simp only [Act.put, List.setIfInBounds_toArray, List.set_cons_zero, List.set_cons_succ]
          clear hK
          clear K
          refine wpAny_ready (rs := [3]) (by kernel_rfl) (by simp) ?_
          refine AllReady.cons (o := ?zor22_3) ?zhr22_3 ?zkr22_3 AllReady.nil
          case zhr22_3 => (simp only [List.getElem?_toArray, List.getElem?_cons_succ, List.getElem?_cons_zero]; rfl)
          ·
           intro K hK
           rw [if_pos (by kernel_rfl)]
           go_simp
           refine hK _ _ ?_
           try simp only [Act.put, List.setIfInBounds_toArray, List.set_cons_zero, List.set_cons_succ]
           clear hK
           clear K
           refine wpAny_ready (rs := [4]) (by kernel_rfl) (by simp) ?_
           refine AllReady.cons (o := ?zor21_4) ?zhr21_4 ?zkr21_4 AllReady.nil
           case zhr21_4 => (simp only [List.getElem?_toArray, List.getElem?_cons_succ, List.getElem?_cons_zero]; rfl)
           ·
            intro K hK
            rw [if_pos (by kernel_rfl)]
            go_simp
            refine hK _ _ ?_
            try simp only [Act.put, List.setIfInBounds_toArray, List.set_cons_zero, List.set_cons_succ]
            clear hK
            clear K
            refine wpAny_ready (rs := [5]) (by kernel_rfl) (by simp) ?_
            refine AllReady.cons (o := ?zor20_5) ?zhr20_5 ?zkr20_5 AllReady.nil
            case zhr20_5 => (simp only [List.getElem?_toArray, List.getElem?_cons_succ, List.getElem?_cons_zero]; rfl)
            ·
             intro K hK
             rw [if_pos (by kernel_rfl)]
             go_simp
             refine hK _ _ ?_
             try simp only [Act.put, List.setIfInBounds_toArray, List.set_cons_zero, List.set_cons_succ]
             clear hK
             clear K
             exact hcut
       ·
        intro K hK
        rw [if_pos (by kernel_rfl)]
        go_simp
        refine hK _ _ ?_
        try simp only [Act.put, List.setIfInBounds_toArray, List.set_cons_zero, List.set_cons_succ]
        clear hK
        clear K
        refine wpAny_ready (rs := [0, 2]) (by kernel_rfl) (by simp) ?_
        refine AllReady.cons (o := ?zor39_0) ?zhr39_0 ?zkr39_0 (AllReady.cons (o := ?zor39_2) ?zhr39_2 ?zkr39_2 AllReady.nil)
        case zhr39_0 => (simp only [List.getElem?_toArray, List.getElem?_cons_succ, List.getElem?_cons_zero]; rfl)
        case zhr39_2 => (simp only [List.getElem?_toArray, List.getElem?_cons_succ, List.getElem?_cons_zero]; rfl)
        ·
         intro K hK
         rw [if_pos (by kernel_rfl)]
         go_simp
         refine hK _ _ ?_
         try simp only [Act.put, List.setIfInBounds_toArray, List.set_cons_zero, List.set_cons_succ]
         clear hK
         clear K
         refine wpAny_ready (rs := [2]) (by kernel_rfl) (by simp) ?_
         refine AllReady.cons (o := ?zor28_2) ?zhr28_2 ?zkr28_2 AllReady.nil
         case zhr28_2 => (simp only [List.getElem?_toArray, List.getElem?_cons_succ, List.getElem?_cons_zero]; rfl)
         ·
          intro K hK
          rw [if_pos (by kernel_rfl)]
          go_simp
          refine hK _ _ ?_
          try simp only [Act.put, List.setIfInBounds_toArray, List.set_cons_zero, List.set_cons_succ]
          clear hK
          clear K
          refine wpAny_ready (rs := [3]) (by kernel_rfl) (by simp) ?_
          refine AllReady.cons (o := ?zor27_3) ?zhr27_3 ?zkr27_3 AllReady.nil
          case zhr27_3 => (simp only [List.getElem?_toArray, List.getElem?_cons_succ, List.getElem?_cons_zero]; rfl)
          ·
           intro K hK
           rw [if_pos (by kernel_rfl)]
           go_simp
           refine hK _ _ ?_
           try simp only [Act.put, List.setIfInBounds_toArray, List.set_cons_zero, List.set_cons_succ]
           clear hK
           clear K
           refine wpAny_ready (rs := [4]) (by kernel_rfl) (by simp) ?_
           refine AllReady.cons (o := ?zor26_4) ?zhr26_4 ?zkr26_4 AllReady.nil
           case zhr26_4 => (simp only [List.getElem?_toArray, List.getElem?_cons_succ, List.getElem?_cons_zero]; rfl)
           ·
            intro K hK
            rw [if_pos (by kernel_rfl)]
            go_simp
            refine hK _ _ ?_
            try simp only [Act.put, List.setIfInBounds_toArray, List.set_cons_zero, List.set_cons_succ]
            clear hK
            clear K
            refine wpAny_ready (rs := [5]) (by kernel_rfl) (by simp) ?_
            refine AllReady.cons (o := ?zor25_5) ?zhr25_5 ?zkr25_5 AllReady.nil
            case zhr25_5 => (simp only [List.getElem?_toArray, List.getElem?_cons_succ, List.getElem?_cons_zero]; rfl)
            ·
             intro K hK
             rw [if_pos (by kernel_rfl)]
             go_simp
             refine hK _ _ ?_
             try simp only [Act.put, List.setIfInBounds_toArray, List.set_cons_zero, List.set_cons_succ]
             clear hK
             clear K
             exact hcut
        ·
         intro K hK
         rw [if_pos (by kernel_rfl)]
         go_simp
         refine hK _ _ ?_
         try simp only [Act.put, List.setIfInBounds_toArray, List.set_cons_zero, List.set_cons_succ]
         clear hK
         clear K
         refine wpAny_ready (rs := [0, 3]) (by kernel_rfl) (by simp) ?_
         refine AllReady.cons (o := ?zor38_0) ?zhr38_0 ?zkr38_0 (AllReady.cons (o := ?zor38_3) ?zhr38_3 ?zkr38_3 AllReady.nil)
         case zhr38_0 => (simp only [List.getElem?_toArray, List.getElem?_cons_succ, List.getElem?_cons_zero]; rfl)
         case zhr38_3 => (simp only [List.getElem?_toArray, List.getElem?_cons_succ, List.getElem?_cons_zero]; rfl)
         ·
          intro K hK
          rw [if_pos (by kernel_rfl)]
          go_simp
          refine hK _ _ ?_
          try simp only [Act.put, List.setIfInBounds_toArray, List.set_cons_zero, List.set_cons_succ]
          clear hK
          clear K
          refine wpAny_ready (rs := [3]) (by kernel_rfl) (by simp) ?_
          refine AllReady.cons (o := ?zor31_3) ?zhr31_3 ?zkr31_3 AllReady.nil
          case zhr31_3 => (simp only [List.getElem?_toArray, List.getElem?_cons_succ, List.getElem?_cons_zero]; rfl)
          ·
           intro K hK
           rw [if_pos (by kernel_rfl)]
           go_simp
           refine hK _ _ ?_
           try simp only [Act.put, List.setIfInBounds_toArray, List.set_cons_zero, List.set_cons_succ]
           clear hK
           clear K
           refine wpAny_ready (rs := [4]) (by kernel_rfl) (by simp) ?_
           refine AllReady.cons (o := ?zor30_4) ?zhr30_4 ?zkr30_4 AllReady.nil
           case zhr30_4 => (simp only [List.getElem?_toArray, List.getElem?_cons_succ, List.getElem?_cons_zero]; rfl)
           ·
            intro K hK
            rw [if_pos (by kernel_rfl)]
            go_simp
            refine hK _ _ ?_
            try simp only [Act.put, List.setIfInBounds_toArray, List.set_cons_zero, List.set_cons_succ]
            clear hK
            clear K
            refine wpAny_ready (rs := [5]) (by kernel_rfl) (by simp) ?_
            refine AllReady.cons (o := ?zor29_5) ?zhr29_5 ?zkr29_5 AllReady.nil
            case zhr29_5 => (simp only [List.getElem?_toArray, List.getElem?_cons_succ, List.getElem?_cons_zero]; rfl)
            ·
             intro K hK
             rw [if_pos (by kernel_rfl)]
             go_simp
             refine hK _ _ ?_
             try simp only [Act.put, List.setIfInBounds_toArray, List.set_cons_zero, List.set_cons_succ]
             clear hK
             clear K
             exact hcut
         ·
          intro K hK
          rw [if_pos (by kernel_rfl)]
          go_simp
          refine hK _ _ ?_
          try simp only [Act.put, List.setIfInBounds_toArray, List.set_cons_zero, List.set_cons_succ]
          clear hK
          clear K
          refine wpAny_ready (rs := [0, 4]) (by kernel_rfl) (by simp) ?_
          refine AllReady.cons (o := ?zor37_0) ?zhr37_0 ?zkr37_0 (AllReady.cons (o := ?zor37_4) ?zhr37_4 ?zkr37_4 AllReady.nil)
          case zhr37_0 => (simp only [List.getElem?_toArray, List.getElem?_cons_succ, List.getElem?_cons_zero]; rfl)
          case zhr37_4 => (simp only [List.getElem?_toArray, List.getElem?_cons_succ, List.getElem?_cons_zero]; rfl)
          ·
           intro K hK
           rw [if_pos (by kernel_rfl)]
           go_simp
           refine hK _ _ ?_
           try simp only [Act.put, List.setIfInBounds_toArray, List.set_cons_zero, List.set_cons_succ]
           clear hK
           clear K
           refine wpAny_ready (rs := [4]) (by kernel_rfl) (by simp) ?_
           refine AllReady.cons (o := ?zor33_4) ?zhr33_4 ?zkr33_4 AllReady.nil
           case zhr33_4 => (simp only [List.getElem?_toArray, List.getElem?_cons_succ, List.getElem?_cons_zero]; rfl)
           ·
            intro K hK
            rw [if_pos (by kernel_rfl)]
            go_simp
            refine hK _ _ ?_
            try simp only [Act.put, List.setIfInBounds_toArray, List.set_cons_zero, List.set_cons_succ]
            clear hK
            clear K
            refine wpAny_ready (rs := [5]) (by kernel_rfl) (by simp) ?_
            refine AllReady.cons (o := ?zor32_5) ?zhr32_5 ?zkr32_5 AllReady.nil
            case zhr32_5 => (simp only [List.getElem?_toArray, List.getElem?_cons_succ, List.getElem?_cons_zero]; rfl)
            ·
             intro K hK
             rw [if_pos (by kernel_rfl)]
             go_simp
             refine hK _ _ ?_
             try simp only [Act.put, List.setIfInBounds_toArray, List.set_cons_zero, List.set_cons_succ]
             clear hK
             clear K
             exact hcut
          ·
           intro K hK
           rw [if_pos (by kernel_rfl)]
           go_simp
           refine hK _ _ ?_
           try simp only [Act.put, List.setIfInBounds_toArray, List.set_cons_zero, List.set_cons_succ]
           clear hK
           clear K
           refine wpAny_ready (rs := [0, 5]) (by kernel_rfl) (by simp) ?_
           refine AllReady.cons (o := ?zor36_0) ?zhr36_0 ?zkr36_0 (AllReady.cons (o := ?zor36_5) ?zhr36_5 ?zkr36_5 AllReady.nil)
           case zhr36_0 => (simp only [List.getElem?_toArray, List.getElem?_cons_succ, List.getElem?_cons_zero]; rfl)
           case zhr36_5 => (simp only [List.getElem?_toArray, List.getElem?_cons_succ, List.getElem?_cons_zero]; rfl)
           ·
            intro K hK
            rw [if_pos (by kernel_rfl)]
            go_simp
            refine hK _ _ ?_
            try simp only [Act.put, List.setIfInBounds_toArray, List.set_cons_zero, List.set_cons_succ]
            clear hK
            clear K
            refine wpAny_ready (rs := [5]) (by kernel_rfl) (by simp) ?_
            refine AllReady.cons (o := ?zor34_5) ?zhr34_5 ?zkr34_5 AllReady.nil
            case zhr34_5 => (simp only [List.getElem?_toArray, List.getElem?_cons_succ, List.getElem?_cons_zero]; rfl)
            ·
             intro K hK
             rw [if_pos (by kernel_rfl)]
             go_simp
             refine hK _ _ ?_
             try simp only [Act.put, List.setIfInBounds_toArray, List.set_cons_zero, List.set_cons_succ]
             clear hK
             clear K
             exact hcut
           ·
            intro K hK
            rw [if_pos (by kernel_rfl)]
            go_simp
            refine hK _ _ ?_
            try simp only [Act.put, List.setIfInBounds_toArray, List.set_cons_zero, List.set_cons_succ]
            clear hK
            clear K
            refine wpAny_ready (rs := [0]) (by kernel_rfl) (by simp) ?_
            refine AllReady.cons (o := ?zor35_0) ?zhr35_0 ?zkr35_0 AllReady.nil
            case zhr35_0 => (simp only [List.getElem?_toArray, List.getElem?_cons_succ, List.getElem?_cons_zero]; rfl)
            ·
             intro K hK
             rw [if_pos (by kernel_rfl)]
             go_simp
             refine hK _ _ ?_
             try simp only [Act.put, List.setIfInBounds_toArray, List.set_cons_zero, List.set_cons_succ]
             clear hK
             clear K
             exact hcut
       ·
        intro K hK
        rw [if_pos (by kernel_rfl)]
        go_simp
        refine hK _ _ ?_
        try simp only [Act.put, List.setIfInBounds_toArray, List.set_cons_zero, List.set_cons_succ]
        clear hK
        clear K
        refine wpAny_ready (rs := [0, 1]) (by kernel_rfl) (by simp) ?_
        refine AllReady.cons (o := ?zor54_0) ?zhr54_0 ?zkr54_0 (AllReady.cons (o := ?zor54_1) ?zhr54_1 ?zkr54_1 AllReady.nil)
        case zhr54_0 => (simp only [List.getElem?_toArray, List.getElem?_cons_succ, List.getElem?_cons_zero]; rfl)
        case zhr54_1 => (simp only [List.getElem?_toArray, List.getElem?_cons_succ, List.getElem?_cons_zero]; rfl)
        ·
         intro K hK
         rw [if_pos (by kernel_rfl)]
         go_simp
         refine hK _ _ ?_
         try simp only [Act.put, List.setIfInBounds_toArray, List.set_cons_zero, List.set_cons_succ]
         clear hK
         clear K
         refine wpAny_ready (rs := [1]) (by kernel_rfl) (by simp) ?_
         refine AllReady.cons (o := ?zor43_1) ?zhr43_1 ?zkr43_1 AllReady.nil
         case zhr43_1 => (simp only [List.getElem?_toArray, List.getElem?_cons_succ, List.getElem?_cons_zero]; rfl)
         ·
          intro K hK
          rw [if_pos (by kernel_rfl)]
          go_simp
          refine hK _ _ ?_
          try simp only [Act.put, List.setIfInBounds_toArray, List.set_cons_zero, List.set_cons_succ]
          clear hK
          clear K
          refine wpAny_ready (rs := [3]) (by kernel_rfl) (by simp) ?_
          refine AllReady.cons (o := ?zor42_3) ?zhr42_3 ?zkr42_3 AllReady.nil
          case zhr42_3 => (simp only [List.getElem?_toArray, List.getElem?_cons_succ, List.getElem?_cons_zero]; rfl)
          ·
           intro K hK
           rw [if_pos (by kernel_rfl)]
           go_simp
           refine hK _ _ ?_
           try simp only [Act.put, List.setIfInBounds_toArray, List.set_cons_zero, List.set_cons_succ]
           clear hK
           clear K
           refine wpAny_ready (rs := [4]) (by kernel_rfl) (by simp) ?_
           refine AllReady.cons (o := ?zor41_4) ?zhr41_4 ?zkr41_4 AllReady.nil
           case zhr41_4 => (simp only [List.getElem?_toArray, List.getElem?_cons_succ, List.getElem?_cons_zero]; rfl)
           ·
            intro K hK
            rw [if_pos (by kernel_rfl)]
            go_simp
            refine hK _ _ ?_
            try simp only [Act.put, List.setIfInBounds_toArray, List.set_cons_zero, List.set_cons_succ]
            clear hK
            clear K
            refine wpAny_ready (rs := [5]) (by kernel_rfl) (by simp) ?_
            refine AllReady.cons (o := ?zor40_5) ?zhr40_5 ?zkr40_5 AllReady.nil
            case zhr40_5 => (simp only [List.getElem?_toArray, List.getElem?_cons_succ, List.getElem?_cons_zero]; rfl)
            ·
             intro K hK
             rw [if_pos (by kernel_rfl)]
             go_simp
             refine hK _ _ ?_
             try simp only [Act.put, List.setIfInBounds_toArray, List.set_cons_zero, List.set_cons_succ]
             clear hK
             clear K
             exact hcut
        ·
         intro K hK
         rw [if_pos (by kernel_rfl)]
         go_simp
         refine hK _ _ ?_
         try simp only [Act.put, List.setIfInBounds_toArray, List.set_cons_zero, List.set_cons_succ]
         clear hK
         clear K
         refine wpAny_ready (rs := [0, 3]) (by kernel_rfl) (by simp) ?_
         refine AllReady.cons (o := ?zor53_0) ?zhr53_0 ?zkr53_0 (AllReady.cons (o := ?zor53_3) ?zhr53_3 ?zkr53_3 AllReady.nil)
         case zhr53_0 => (simp only [List.getElem?_toArray, List.getElem?_cons_succ, List.getElem?_cons_zero]; rfl)
         case zhr53_3 => (simp only [List.getElem?_toArray, List.getElem?_cons_succ, List.getElem?_cons_zero]; rfl)
         ·
          intro K hK
          rw [if_pos (by kernel_rfl)]
          go_simp
          refine hK _ _ ?_
          try simp only [Act.put, List.setIfInBounds_toArray, List.set_cons_zero, List.set_cons_succ]
          clear hK
          clear K
          refine wpAny_ready (rs := [3]) (by kernel_rfl) (by simp) ?_
          refine AllReady.cons (o := ?zor46_3) ?zhr46_3 ?zkr46_3 AllReady.nil
          case zhr46_3 => (simp only [List.getElem?_toArray, List.getElem?_cons_succ, List.getElem?_cons_zero]; rfl)
          ·
           intro K hK
           rw [if_pos (by kernel_rfl)]
           go_simp
           refine hK _ _ ?_
           try simp only [Act.put, List.setIfInBounds_toArray, List.set_cons_zero, List.set_cons_succ]
           clear hK
           clear K
           refine wpAny_ready (rs := [4]) (by kernel_rfl) (by simp) ?_
           refine AllReady.cons (o := ?zor45_4) ?zhr45_4 ?zkr45_4 AllReady.nil
           case zhr45_4 => (simp only [List.getElem?_toArray, List.getElem?_cons_succ, List.getElem?_cons_zero]; rfl)
           ·
            intro K hK
            rw [if_pos (by kernel_rfl)]
            go_simp
            refine hK _ _ ?_
            try simp only [Act.put, List.setIfInBounds_toArray, List.set_cons_zero, List.set_cons_succ]
            clear hK
            clear K
            refine wpAny_ready (rs := [5]) (by kernel_rfl) (by simp) ?_
            refine AllReady.cons (o := ?zor44_5) ?zhr44_5 ?zkr44_5 AllReady.nil
            case zhr44_5 => (simp only [List.getElem?_toArray, List.getElem?_cons_succ, List.getElem?_cons_zero]; rfl)
            ·
             intro K hK
             rw [if_pos (by kernel_rfl)]
             go_simp
             refine hK _ _ ?_
             try simp only [Act.put, List.setIfInBounds_toArray, List.set_cons_zero, List.set_cons_succ]
             clear hK
             clear K
             exact hcut
         ·
          intro K hK
          rw [if_pos (by kernel_rfl)]
          go_simp
          refine hK _ _ ?_
          try simp only [Act.put, List.setIfInBounds_toArray, List.set_cons_zero, List.set_cons_succ]
          clear hK
          clear K
          refine wpAny_ready (rs := [0, 4]) (by kernel_rfl) (by simp) ?_
          refine AllReady.cons (o := ?zor52_0) ?zhr52_0 ?zkr52_0 (AllReady.cons (o := ?zor52_4) ?zhr52_4 ?zkr52_4 AllReady.nil)
          case zhr52_0 => (simp only [List.getElem?_toArray, List.getElem?_cons_succ, List.getElem?_cons_zero]; rfl)
          case zhr52_4 => (simp only [List.getElem?_toArray, List.getElem?_cons_succ, List.getElem?_cons_zero]; rfl)
          ·
           intro K hK
           rw [if_pos (by kernel_rfl)]
           go_simp
           refine hK _ _ ?_
           try simp only [Act.put, List.setIfInBounds_toArray, List.set_cons_zero, List.set_cons_succ]
           clear hK
           clear K
           refine wpAny_ready (rs := [4]) (by kernel_rfl) (by simp) ?_
           refine AllReady.cons (o := ?zor48_4) ?zhr48_4 ?zkr48_4 AllReady.nil
           case zhr48_4 => (simp only [List.getElem?_toArray, List.getElem?_cons_succ, List.getElem?_cons_zero]; rfl)
           ·
            intro K hK
            rw [if_pos (by kernel_rfl)]
            go_simp
            refine hK _ _ ?_
            try simp only [Act.put, List.setIfInBounds_toArray, List.set_cons_zero, List.set_cons_succ]
            clear hK
            clear K
            refine wpAny_ready (rs := [5]) (by kernel_rfl) (by simp) ?_
            refine AllReady.cons (o := ?zor47_5) ?zhr47_5 ?zkr47_5 AllReady.nil
            case zhr47_5 => (simp only [List.getElem?_toArray, List.getElem?_cons_succ, List.getElem?_cons_zero]; rfl)
            ·
             intro K hK
             rw [if_pos (by kernel_rfl)]
             go_simp
             refine hK _ _ ?_
             try simp only [Act.put, List.setIfInBounds_toArray, List.set_cons_zero, List.set_cons_succ]
             clear hK
             clear K
             exact hcut
          ·
           intro K hK
           rw [if_pos (by kernel_rfl)]
           go_simp
           refine hK _ _ ?_
           try simp only [Act.put, List.setIfInBounds_toArray, List.set_cons_zero, List.set_cons_succ]
           clear hK
           clear K
           refine wpAny_ready (rs := [0, 5]) (by kernel_rfl) (by simp) ?_
           refine AllReady.cons (o := ?zor51_0) ?zhr51_0 ?zkr51_0 (AllReady.cons (o := ?zor51_5) ?zhr51_5 ?zkr51_5 AllReady.nil)
           case zhr51_0 => (simp only [List.getElem?_toArray, List.getElem?_cons_succ, List.getElem?_cons_zero]; rfl)
           case zhr51_5 => (simp only [List.getElem?_toArray, List.getElem?_cons_succ, List.getElem?_cons_zero]; rfl)
           ·
            intro K hK
            rw [if_pos (by kernel_rfl)]
            go_simp
            refine hK _ _ ?_
            try simp only [Act.put, List.setIfInBounds_toArray, List.set_cons_zero, List.set_cons_succ]
            clear hK
            clear K
            refine wpAny_ready (rs := [5]) (by kernel_rfl) (by simp) ?_
            refine AllReady.cons (o := ?zor49_5) ?zhr49_5 ?zkr49_5 AllReady.nil
            case zhr49_5 => (simp only [List.getElem?_toArray, List.getElem?_cons_succ, List.getElem?_cons_zero]; rfl)
            ·
             intro K hK
             rw [if_pos (by kernel_rfl)]
             go_simp
             refine hK _ _ ?_
             try simp only [Act.put, List.setIfInBounds_toArray, List.set_cons_zero, List.set_cons_succ]
             clear hK
             clear K
             exact hcut
           ·
            intro K hK
            rw [if_pos (by kernel_rfl)]
            go_simp
            refine hK _ _ ?_
            try simp only [Act.put, List.setIfInBounds_toArray, List.set_cons_zero, List.set_cons_succ]
            clear hK
            clear K
            refine wpAny_ready (rs := [0]) (by kernel_rfl) (by simp) ?_
            refine AllReady.cons (o := ?zor50_0) ?zhr50_0 ?zkr50_0 AllReady.nil
            case zhr50_0 => (simp only [List.getElem?_toArray, List.getElem?_cons_succ, List.getElem?_cons_zero]; rfl)
            ·
             intro K hK
             rw [if_pos (by kernel_rfl)]
             go_simp
             refine hK _ _ ?_
             try simp only [Act.put, List.setIfInBounds_toArray, List.set_cons_zero, List.set_cons_succ]
             clear hK
             clear K
             exact hcut
      case restCu15 =>
       refine wpAny_ready (rs := [6]) (by kernel_rfl) (by simp) ?_
       refine AllReady.cons (o := ?zor62_6) ?zhr62_6 ?zkr62_6 AllReady.nil
       case zhr62_6 => (simp only [List.getElem?_toArray, List.getElem?_cons_succ, List.getElem?_cons_zero]; rfl)
       ·
        intro K hK
        rw [if_pos (by kernel_rfl)]
        refine wp_app_at (.tmp 86) (.tmp 91) rfl (w4.heap.size + 2) v4 (filTo O cB k) [x] rfl FA14.out.r1 wdz13.heap.size 0 1 rfl NW14.out hszB m314 ?_
        intro va14 wx14 hown hgrow hloc
        obtain ⟨pv14, cv14, hv, _⟩ := psl_of_row hown
        obtain ⟨nv14, hnv⟩ : ∃ nv, nv = (filTo O cB k ++ [x]).length := ⟨_, rfl⟩
        rw [← hnv] at hv
        subst hv
        clear hnv
        refine hK _ _ ?_
        try simp only [Act.put, List.setIfInBounds_toArray, List.set_cons_zero, List.set_cons_succ]
        clear hK
        clear K
        clear cd14 ca14
        have F14 := Lib.hid ((FA14.out.step hown hgrow hloc).s4)
        have BB14 := Lib.hid (below_own (base := w4.heap.size + 2) HBA14.out FA14.out.r1 hgrow (Nat.le_trans (by omega) m314) (by omega))
        have C14 : Hid (Blk wx14 w4.heap.size 22 [v4]) := Lib.hid (by unfold Blk; rw [hgrow.block _ CA14.out.lt (fun e => by have := (FA14.out.r1.lt _ e.symm).1; omega)]; exact CA14.out)
        have M14 : Hid (Blk wx14 (w4.heap.size + 1) 48 (encM ⟨mb, mg, ma⟩)) := Lib.hid (by unfold Blk; rw [hgrow.block _ MA14.out.lt (fun e => by have := (FA14.out.r1.lt _ e.symm).1; omega)]; exact MA14.out)
        have S14 := Lib.hid (Nat.le_trans m314 hgrow.size)
        rw [← HTB'.out] at F14
        clear hown hgrow hloc l14 s14 BA14 FA14 HBA14 CA14 MA14 NW14
        have cs := C14.out.cell 0
        have fs := C14.out.frozen 0
        refine wpAny_ready (rs := [7]) (by kernel_rfl) (by simp) ?_
        refine AllReady.cons (o := ?zor61_7) ?zhr61_7 ?zkr61_7 AllReady.nil
        case zhr61_7 => (simp only [List.getElem?_toArray, List.getElem?_cons_succ, List.getElem?_cons_zero]; rfl)
        ·
         intro K hK
         rw [if_pos (by kernel_rfl)]
         go_simp
         refine hK _ _ ?_
         try simp only [Act.put, List.setIfInBounds_toArray, List.set_cons_zero, List.set_cons_succ]
         clear hK
         clear K
         refine wpAny_done (by kernel_rfl) ?_ _
         have Cy56 : Hid (Blk (wx14.setCell ⟨w4.heap.size, 0, none⟩ (Value.slice pv14 nv14 cv14)) w4.heap.size 22 [(Value.slice pv14 nv14 cv14)]) := Lib.hid (C14.out.setCell 0 _)
         have My56 := Lib.hid (M14.out.other (a := ⟨w4.heap.size, 0, none⟩) (by show w4.heap.size + 1 ≠ w4.heap.size; omega) (Value.slice pv14 nv14 cv14))
         have Fy56 := Lib.hid (F14.out.other (setCell_grown wx14 w4.heap.size 0 (Value.slice pv14 nv14 cv14)) (by omega))
         have BBy56 := Lib.hid (BB14.out.setCell (p := ⟨w4.heap.size, 0, none⟩) (Nat.le_refl _) (Value.slice pv14 nv14 cv14))
         have Sy56 := Lib.hid (Nat.le_trans S14.out (setCell_grown wx14 w4.heap.size 0 (Value.slice pv14 nv14 cv14)).size)
         clear cs fs
         obtain ⟨wyy56, hwy⟩ : ∃ wy, wy = wx14.setCell ⟨w4.heap.size, 0, none⟩ (Value.slice pv14 nv14 cv14) := ⟨_, rfl⟩
         rw [← hwy] at Cy56 My56 Fy56 BBy56 Sy56 ⊢
         clear hwy
         have l57 := load_ptr (HRX.out _ BBy56.out)
         go_wp2_with fail
         refine (HOF.out _).mono ?_
         rintro e wo57 ⟨rfl, hbo⟩
         have F57o := Lib.hid (Fy56.out.below hbo)
         have C57o := Lib.hid (Cy56.out.below hbo)
         have M57o := Lib.hid (My56.out.below hbo)
         have BB57o := Lib.hid (BBy56.out.trans (hbo.mono BBy56.out.size))
         have S57o := Lib.hid (Nat.le_trans Sy56.out hbo.size)
         clear hbo l57
         go_wp2_with fail
         refine (HHO.out _ BB57o.out).mono ?_
         rintro e wh57 ⟨rfl, hbo⟩
         have F57h := Lib.hid (F57o.out.below hbo)
         have C57h := Lib.hid (C57o.out.below hbo)
         have M57h := Lib.hid (M57o.out.below hbo)
         have BB57h := Lib.hid (BB57o.out.trans (hbo.mono BB57o.out.size))
         have S57h := Lib.hid (Nat.le_trans S57o.out hbo.size)
         clear hbo
         cases d3 with
         | true =>
          have HTG' : Hid (filTo O cG (k + 1) = filTo O cG k) := HTG
          have HTD' : Hid (filTo O cD (k + 1) = filTo O cD k) := HTD
          rw [← HTG'.out] at F57h
          rw [← HTD'.out] at F57h
          go_wp2_with fail
          go_roundw
          case rel => exact ⟨k + 1, vai6, v2, v3, (Value.slice pv14 nv14 cv14), by omega, Lib.hid (by go_num), Lib.hid rfl, Lib.hid rfl, Lib.hid rfl, F57h, C57h, M57h, BB57h, S57h⟩
          case measure => simp [intOf]; omega
         | false =>
          have HTG' : Hid (filTo O cG (k + 1) = filTo O cG k ++ [x]) := HTG
          by_cases hgt : prev < x.birth
          ·
           have hgd : decide (prev < x.birth) = true := by simpa using hgt
           have HTD' : Hid (filTo O cD (k + 1) = filTo O cD k ++ [x]) := Lib.hid (by rw [HTD.out, hgd]; rfl)
           have l58 := load_ptr (HRX.out _ BB57h.out)
           have s58 := build_ptr wh57 x
           have BA58 := Lib.hid ((Below.refl wh57.heap.size wh57).alloc (Nat.le_refl _) (.cells (encPtr x).toArray 30))
           have FA58 := Lib.hid ((F57h.out.below BA58.out).s2)
           have HBA58 := Lib.hid (BB57h.out.trans (BA58.out.mono BB57h.out.size))
           have CA58 := Lib.hid (C57h.out.below BA58.out)
           have MA58 := Lib.hid (M57h.out.below BA58.out)
           have NW58 := Lib.hid (rangeAt_single (Blk.new wh57 30 (encPtr x)))
           have m358 := Nat.le_trans S57h.out BA58.out.size
           have HX7 := Lib.hid (fun W2 (hg : (wh57.alloc (.cells (encPtr x).toArray 30)).grownBy W2 v2.ownBlock) => HC7.out W2 (below_own (base := w4.heap.size + 2) HBA58.out FA58.out.r1 hg (Nat.le_trans (by omega) m358) (by omega)))
           go_wp2_with (at_builtin; go_must (refine wpList_app_at rfl (.tmp 101) (.tmp 106) rfl (w4.heap.size + 2) v2 (filTo O cG k) [x] rfl FA58.out.r1 wh57.heap.size 0 1 rfl NW58.out hszG m358 ?_; intro va58 wx58 hown hgrow hloc; have c7 := HX7.out _ hgrow))
           have F58 := Lib.hid ((FA58.out.step hown hgrow hloc).s2)
           have BB58 := Lib.hid (below_own (base := w4.heap.size + 2) HBA58.out FA58.out.r1 hgrow (Nat.le_trans (by omega) m358) (by omega))
           have C58 : Hid (Blk wx58 w4.heap.size 22 [(Value.slice pv14 nv14 cv14)]) := Lib.hid (by unfold Blk; rw [hgrow.block _ CA58.out.lt (fun e => by have := (FA58.out.r1.lt _ e.symm).1; omega)]; exact CA58.out)
           have M58 : Hid (Blk wx58 (w4.heap.size + 1) 48 (encM ⟨mb, mg, ma⟩)) := Lib.hid (by unfold Blk; rw [hgrow.block _ MA58.out.lt (fun e => by have := (FA58.out.r1.lt _ e.symm).1; omega)]; exact MA58.out)
           have S58 := Lib.hid (Nat.le_trans m358 hgrow.size)
           rw [← HTG'.out] at F58
           clear hown hgrow hloc l58 s58 BA58 FA58 HBA58 CA58 MA58 NW58
           clear c7 HX7
           have l59 := load_ptr (HRX.out _ BB58.out)
           have s59 := build_ptr wx58 x
           have BA59 := Lib.hid ((Below.refl wx58.heap.size wx58).alloc (Nat.le_refl _) (.cells (encPtr x).toArray 30))
           have FA59 := Lib.hid ((F58.out.below BA59.out).s3)
           have HBA59 := Lib.hid (BB58.out.trans (BA59.out.mono BB58.out.size))
           have CA59 := Lib.hid (C58.out.below BA59.out)
           have MA59 := Lib.hid (M58.out.below BA59.out)
           have NW59 := Lib.hid (rangeAt_single (Blk.new wx58 30 (encPtr x)))
           have m359 := Nat.le_trans S58.out BA59.out.size
           rw [l59]
           go_wp2_with (at_builtin; go_must (refine wpList_app_at rfl (.tmp 115) (.tmp 120) rfl (w4.heap.size + 2) v3 (filTo O cD k) [x] rfl FA59.out.r1 wx58.heap.size 0 1 rfl NW59.out hszD m359 ?_; intro va59 wx59 hown hgrow hloc))
           have F59 := Lib.hid ((FA59.out.step hown hgrow hloc).s3)
           have BB59 := Lib.hid (below_own (base := w4.heap.size + 2) HBA59.out FA59.out.r1 hgrow (Nat.le_trans (by omega) m359) (by omega))
           have C59 : Hid (Blk wx59 w4.heap.size 22 [(Value.slice pv14 nv14 cv14)]) := Lib.hid (by unfold Blk; rw [hgrow.block _ CA59.out.lt (fun e => by have := (FA59.out.r1.lt _ e.symm).1; omega)]; exact CA59.out)
           have M59 : Hid (Blk wx59 (w4.heap.size + 1) 48 (encM ⟨mb, mg, ma⟩)) := Lib.hid (by unfold Blk; rw [hgrow.block _ MA59.out.lt (fun e => by have := (FA59.out.r1.lt _ e.symm).1; omega)]; exact MA59.out)
           have S59 := Lib.hid (Nat.le_trans m359 hgrow.size)
           rw [← HTD'.out] at F59
           clear hown hgrow hloc l59 s59 BA59 FA59 HBA59 CA59 MA59 NW59
           go_roundw
           case rel => exact ⟨k + 1, vai6, va58, va59, (Value.slice pv14 nv14 cv14), by omega, Lib.hid (by go_num), Lib.hid rfl, Lib.hid rfl, Lib.hid rfl, F59, C59, M59, BB59, S59⟩
           case measure => simp [intOf]; omega
          ·
           have hgd : decide (prev < x.birth) = false := by simpa using hgt
           have HTD' : Hid (filTo O cD (k + 1) = filTo O cD k) := Lib.hid (by rw [HTD.out, hgd]; rfl)
           have l60 := load_ptr (HRX.out _ BB57h.out)
           have s60 := build_ptr wh57 x
           have BA60 := Lib.hid ((Below.refl wh57.heap.size wh57).alloc (Nat.le_refl _) (.cells (encPtr x).toArray 30))
           have FA60 := Lib.hid ((F57h.out.below BA60.out).s2)
           have HBA60 := Lib.hid (BB57h.out.trans (BA60.out.mono BB57h.out.size))
           have CA60 := Lib.hid (C57h.out.below BA60.out)
           have MA60 := Lib.hid (M57h.out.below BA60.out)
           have NW60 := Lib.hid (rangeAt_single (Blk.new wh57 30 (encPtr x)))
           have m360 := Nat.le_trans S57h.out BA60.out.size
           have HX7 := Lib.hid (fun W2 (hg : (wh57.alloc (.cells (encPtr x).toArray 30)).grownBy W2 v2.ownBlock) => HC7.out W2 (below_own (base := w4.heap.size + 2) HBA60.out FA60.out.r1 hg (Nat.le_trans (by omega) m360) (by omega)))
           go_wp2_with (at_builtin; go_must (refine wpList_app_at rfl (.tmp 101) (.tmp 106) rfl (w4.heap.size + 2) v2 (filTo O cG k) [x] rfl FA60.out.r1 wh57.heap.size 0 1 rfl NW60.out hszG m360 ?_; intro va60 wx60 hown hgrow hloc; have c7 := HX7.out _ hgrow))
           have F60 := Lib.hid ((FA60.out.step hown hgrow hloc).s2)
           have BB60 := Lib.hid (below_own (base := w4.heap.size + 2) HBA60.out FA60.out.r1 hgrow (Nat.le_trans (by omega) m360) (by omega))
           have C60 : Hid (Blk wx60 w4.heap.size 22 [(Value.slice pv14 nv14 cv14)]) := Lib.hid (by unfold Blk; rw [hgrow.block _ CA60.out.lt (fun e => by have := (FA60.out.r1.lt _ e.symm).1; omega)]; exact CA60.out)
           have M60 : Hid (Blk wx60 (w4.heap.size + 1) 48 (encM ⟨mb, mg, ma⟩)) := Lib.hid (by unfold Blk; rw [hgrow.block _ MA60.out.lt (fun e => by have := (FA60.out.r1.lt _ e.symm).1; omega)]; exact MA60.out)
           have S60 := Lib.hid (Nat.le_trans m360 hgrow.size)
           rw [← HTG'.out] at F60
           clear hown hgrow hloc l60 s60 BA60 FA60 HBA60 CA60 MA60 NW60
           clear c7 HX7
           rw [← HTD'.out] at F60
           go_roundw
           case rel => exact ⟨k + 1, vai6, va60, v3, (Value.slice pv14 nv14 cv14), by omega, Lib.hid (by go_num), Lib.hid rfl, Lib.hid rfl, Lib.hid rfl, F60, C60, M60, BB60, S60⟩
           case measure => simp [intOf]; omega
   ·
    obtain rfl : k = s := by omega
    have HI : Hid (filTo O cI k = rangeL l f t) := Lib.hid (by rw [HSO.out, filTo_all, HCI.out, HOE.out]; rfl)
    have HG : Hid (filTo O cG k = withoutL l lo) := Lib.hid (by rw [HSO.out, filTo_all, HCG.out, HOE.out]; rfl)
    have HD : Hid (filTo O cD k = deadL l lo prev) := Lib.hid (by
     rw [HSO.out, filTo_all, HCD.out, HOE.out]
     unfold deadL withoutL
     rw [List.filter_filter]
     refine List.filter_congr fun p _ => ?_
     rw [Bool.and_comm]
     congr 1
     rw [← decide_not]
     exact decide_eq_decide.2 (by omega))
    have HBE : Hid (filTo O cB k = thrL l ⟨mb, mg, ma⟩ f t) := Lib.hid (by rw [HSO.out, filTo_all, HCB.out, HOE.out]; rfl)
    have hlB : (filTo O cB k).length ≤ 60 := by have := filTo_len O cB k; have := HSO.out; omega
    obtain ⟨LI, hLI⟩ : ∃ L, L = filTo O cI k := ⟨_, rfl⟩
    obtain ⟨LG, hLG⟩ : ∃ L, L = filTo O cG k := ⟨_, rfl⟩
    obtain ⟨LD, hLD⟩ : ∃ L, L = filTo O cD k := ⟨_, rfl⟩
    obtain ⟨LB, hLB⟩ : ∃ L, L = filTo O cB k := ⟨_, rfl⟩
    rw [← hLI, ← hLG, ← hLD, ← hLB] at HF
    rw [← hLI] at HI
    rw [← hLG] at HG
    rw [← hLD] at HD
    rw [← hLB] at HBE hlB
    clear hLI hLG hLD hLB
    obtain ⟨aI, cpI, ev1, hp1⟩ := psl_of_row HF.out.r1
    obtain ⟨aG, cpG, ev2, hp2⟩ := psl_of_row HF.out.r2
    obtain ⟨aD, cpD, ev3, hp3⟩ := psl_of_row HF.out.r3
    obtain ⟨aB, cpB, ev4, hp4⟩ := psl_of_row HF.out.r4
    obtain ⟨nI, hnI⟩ : ∃ x, x = LI.length := ⟨_, rfl⟩
    obtain ⟨nG, hnG⟩ : ∃ x, x = LG.length := ⟨_, rfl⟩
    obtain ⟨nD, hnD⟩ : ∃ x, x = LD.length := ⟨_, rfl⟩
    obtain ⟨nB, hnB⟩ : ∃ x, x = LB.length := ⟨_, rfl⟩
    rw [← hnI] at ev1
    rw [← hnG] at ev2 hp2
    rw [← hnD] at ev3 hp3
    rw [← hnB] at ev4 hp4 hlB
    have HNI := Lib.hid hnI
    have HNB := Lib.hid hnB
    have HLGp := Lib.hid hp2
    have HLDp := Lib.hid hp3
    have HLBp := Lib.hid hp4
    subst ev1 ev2 ev3 ev4
    have HCT : Hid (∀ W, Below w4.heap.size w4 W → Calls Try.prog 17 #[.slice ao n cap, .agg #[.int .i64 f, .int .i64 t]] W fun e w' => e = .returned (.int .i64 (nI : Nat)) ∧ Below W.heap.size W w') := Lib.hid (by rw [hnI, HI.out]; exact fun W hb => count_any ao n cap l f t W (HPL.out W hb) (by omega))
    have HBO : Hid (∀ b off, aB = some ⟨b, off, none⟩ → w4.heap.size + 2 ≤ b) := Lib.hid (fun b off e => (HF.out.r4.lt b (by rw [e]; rfl)).1)
    clear hp1 hp2 hp3 hp4 hnI hnG hnD hnB HF HM
    obtain ⟨y, d, hy⟩ : ∃ (y : PtrT) (d : Bool), (y, d) = nextL l ⟨mb, mg, ma⟩ f t := ⟨_, _, rfl⟩
    have HY := Lib.hid hy
    have HNX : Hid (∀ W, Below w4.heap.size w4 W → Calls Try.prog 15 #[.slice ao n cap, .agg #[.int .i64 mb, .int .i64 mg, .int .i64 ma], .agg #[.int .i64 f, .int .i64 t]] W fun e w' => e = .returned (.tuple #[.agg (encPtr y).toArray, .bool d]) ∧ Below W.heap.size W w') := Lib.hid (fun W hb => (next_any ao n cap l ⟨mb, mg, ma⟩ f t W (HPL.out W hb) (by omega)).mono fun e w' ⟨h1, h2⟩ => ⟨by rw [h1, ← HY.out], h2⟩)
    have HYA : Hid (d = true → 0 < nB ∧ LB.getD 0 pD = y) := Lib.hid (fun hd => by
     rw [HNB.out, HBE.out]
     unfold nextL at hy
     rw [hd] at hy
     cases hth : thrL l ⟨mb, mg, ma⟩ f t with
     | nil => rw [hth] at hy; simp at hy
     | cons a r => rw [hth] at hy; simp at hy; rw [hy]; exact ⟨by simp, rfl⟩)
    have HYB : Hid (d = false → nB = 0 ∧ y = pD) := Lib.hid (fun hd => by
     rw [HNB.out, HBE.out]
     unfold nextL at hy
     rw [hd] at hy
     cases hth : thrL l ⟨mb, mg, ma⟩ f t with
     | nil => rw [hth] at hy; simp at hy; exact ⟨rfl, hy⟩
     | cons a r => rw [hth] at hy; simp at hy)
    clear hy
    have m0 : wr.cell? ⟨w.heap.size, 0, none⟩ = some (.int .i64 mb) := (HKM.out wr HB.out).cell 0
    have m1 : wr.cell? ⟨w.heap.size, 1, none⟩ = some (.int .i64 mg) := (HKM.out wr HB.out).cell 1
    have m2 : wr.cell? ⟨w.heap.size, 2, none⟩ = some (.int .i64 ma) := (HKM.out wr HB.out).cell 2
    have r0 : wr.cell? ⟨w.heap.size + 1, 0, none⟩ = some (.int .i64 f) := (HKR.out wr HB.out).cell 0
    have r1 : wr.cell? ⟨w.heap.size + 1, 1, none⟩ = some (.int .i64 t) := (HKR.out wr HB.out).cell 1
    go_wp2_with fail
    refine (HNX.out _ HB.out).mono ?_
    rintro e w5 ⟨rfl, hb5⟩
    have s1 := store_new w5 y
    obtain ⟨wa, hwa⟩ : ∃ wa, wa = w5.alloc (.cells (encPtr y).toArray 30) := ⟨_, rfl⟩
    have bA := (Below.refl w5.heap.size w5).alloc (Nat.le_refl _) (.cells (encPtr y).toArray 30)
    have YA : Hid (Blk wa w5.heap.size 30 (encPtr y)) := Lib.hid (by rw [hwa]; exact Blk.new _ _ _)
    rw [← hwa] at bA s1
    have bW := hb5.trans (bA.mono hb5.size)
    have CA := Lib.hid (HC.out.below bW)
    have BBA := Lib.hid (HB.out.trans (bW.mono HB.out.size))
    have GA := Lib.hid (HLGp.out.below bW)
    have DA := Lib.hid (HLDp.out.below bW)
    have PA := Lib.hid (HLBp.out.below bW)
    have SA := Lib.hid (Nat.le_trans HS.out bW.size)
    clear m0 m1 m2 r0 r1 hb5 bA bW hwa HC HB HS HLGp HLDp HLBp
    go_wp2_with fail
    clear s1
    have c17 : ∀ q : BW wa, q.w.cell? ⟨w4.heap.size, 0, none⟩ = some (.slice aB nB cpB) := fun q => q.cell (CA.out.cell 0)
    have lx := box_read YA.out
    have r0 : ∀ q : BW wa, q.w.cell? ⟨w.heap.size + 1, 0, none⟩ = some (.int .i64 f) := fun q => q.cell ((HKR.out wa BBA.out).cell 0)
    have r1 : ∀ q : BW wa, q.w.cell? ⟨w.heap.size + 1, 1, none⟩ = some (.int .i64 t) := fun q => q.cell ((HKR.out wa BBA.out).cell 1)
    have HCQ : Hid (∀ q : BW wa, Calls Try.prog 17 #[.slice ao n cap, .agg #[.int .i64 f, .int .i64 t]] q.w fun e w' => e = .returned (.int .i64 (nI : Nat)) ∧ Below q.w.heap.size q.w w') := Lib.hid (fun q => HCT.out q.w (BBA.out.trans (q.bel.mono BBA.out.size)))
    have q0 : ∀ (C : World → Prop) x z (q : BW wa) v, BinQ Try.prog C .neq 30 x z (.agg (encPtr y).toArray) (.agg (encPtr y).toArray) q.w v = (Value.bool false = v) := fun C x z q v => by rw [binQ_neqP, decide_eq_true rfl]; rfl
    cases d with
    | true =>
     obtain ⟨hnp, hy0⟩ := HYA.out rfl
     have hpos : decide ((0 : Int) < (nB : Int)) = true := by simpa using hnp
     have hpz : (0 : Int) < (nB : Int) := by omega
     obtain ⟨b, off, hab, hb, hr⟩ := PA.out.read hnp
     have ly := read_at (hr 0 hnp) hb
     rw [Nat.zero_mul, Nat.add_zero, hy0] at ly
     rw [hab] at c17
     clear hr hb
     refine wp_region_below (by kernel_rfl) (by kernel_rfl) ?_
     repeat (go_big_quiet_step (first | (go_at_call_of 17 f; refine Calls.bw_of (HCQ.out _))))
     refine wpQuiet_nil ?_
     rintro _ ⟨q, rfl⟩
     have CB := Lib.hid (CA.out.below q.bel)
     have BBB := Lib.hid (BBA.out.trans (q.bel.mono BBA.out.size))
     have GB := Lib.hid (GA.out.below q.bel)
     have DB := Lib.hid (DA.out.below q.bel)
     have PB := Lib.hid (PA.out.below q.bel)
     have SB := Lib.hid (Nat.le_trans SA.out q.bel.size)
     obtain ⟨wb, hwb⟩ : ∃ wb, wb = q.w := ⟨_, rfl⟩
     rw [← hwb] at CB BBB GB DB PB SB ⊢
     clear hwb c17 lx r0 r1 HCQ q0 CA BBA GA DA PA SA YA ly hpos hpz hnp hy0 hab
     go_wp2_with fail
     refine (without_psl ao bo n m cap cap' l lo wb (HPL.out _ BBB.out) (HPQ.out _ BBB.out) (by omega)).mono ?_
     rintro e w6 ⟨pg, cg, rfl, hpg, hb6⟩
     have C6 := Lib.hid (CB.out.below hb6)
     have BB6 := Lib.hid (BBB.out.trans (hb6.mono BBB.out.size))
     have D6 := Lib.hid (DB.out.below hb6)
     have P6 := Lib.hid (PB.out.below hb6)
     have S6 := Lib.hid (Nat.le_trans SB.out hb6.size)
     have HS6 := Lib.hid (same_ps _ _ _ _ _ _ _ _ w6 hpg (GB.out.below hb6))
     rw [decide_eq_true HG.out.symm] at HS6
     clear hpg hb6 CB BBB GB DB PB SB
     go_wp2_with fail
     refine HS6.out.mono ?_
     rintro e w7 ⟨rfl, hb7⟩
     have C7 := Lib.hid (C6.out.below hb7)
     have BB7 := Lib.hid (BB6.out.trans (hb7.mono BB6.out.size))
     have D7 := Lib.hid (D6.out.below hb7)
     have P7 := Lib.hid (P6.out.below hb7)
     have S7 := Lib.hid (Nat.le_trans S6.out hb7.size)
     clear hb7 C6 BB6 D6 P6 S6 HS6
     go_wp2_with fail
     refine (dead_psl ao bo n m cap cap' l lo prev w7 (HPL.out _ BB7.out) (HPQ.out _ BB7.out) (by omega)).mono ?_
     rintro e w8 ⟨pd, cd, rfl, hpd, hb8⟩
     have C8 := Lib.hid (C7.out.below hb8)
     have BB8 := Lib.hid (BB7.out.trans (hb8.mono BB7.out.size))
     have P8 := Lib.hid (P7.out.below hb8)
     have S8 := Lib.hid (Nat.le_trans S7.out hb8.size)
     have HS8 := Lib.hid (same_ps _ _ _ _ _ _ _ _ w8 hpd (D7.out.below hb8))
     rw [decide_eq_true HD.out.symm] at HS8
     clear hpd hb8 C7 BB7 D7 P7 S7
     go_wp2_with fail
     refine HS8.out.mono ?_
     rintro e w9 ⟨rfl, hb9⟩
     have C9 := Lib.hid (C8.out.below hb9)
     have BB9 := Lib.hid (BB8.out.trans (hb9.mono BB8.out.size))
     have P9 := Lib.hid (P8.out.below hb9)
     have S9 := Lib.hid (Nat.le_trans S8.out hb9.size)
     clear hb9 C8 BB8 P8 S8 HS8
     have bA := (Below.refl w9.heap.size w9).alloc (Nat.le_refl _) (.cells #[.int .i64 0] 3)
     have m0 : (w9.alloc (.cells #[.int .i64 0] 3)).cell? ⟨w.heap.size, 0, none⟩ = some (.int .i64 mb) := (HKM.out _ (BB9.out.trans (bA.mono BB9.out.size))).cell 0
     have m1 : (w9.alloc (.cells #[.int .i64 0] 3)).cell? ⟨w.heap.size, 1, none⟩ = some (.int .i64 mg) := (HKM.out _ (BB9.out.trans (bA.mono BB9.out.size))).cell 1
     have m2 : (w9.alloc (.cells #[.int .i64 0] 3)).cell? ⟨w.heap.size, 2, none⟩ = some (.int .i64 ma) := (HKM.out _ (BB9.out.trans (bA.mono BB9.out.size))).cell 2
     have r0 : (w9.alloc (.cells #[.int .i64 0] 3)).cell? ⟨w.heap.size + 1, 0, none⟩ = some (.int .i64 f) := (HKR.out _ (BB9.out.trans (bA.mono BB9.out.size))).cell 0
     have r1 : (w9.alloc (.cells #[.int .i64 0] 3)).cell? ⟨w.heap.size + 1, 1, none⟩ = some (.int .i64 t) := (HKR.out _ (BB9.out.trans (bA.mono BB9.out.size))).cell 1
     have HT : Hid (∀ W, Calls Try.prog 22 #[.slice ao n cap, .agg #[.int .i64 mb, .int .i64 mg, .int .i64 ma], .agg #[.int .i64 f, .int .i64 t]] W fun e w' => e = .returned (.func (.func 36) #[] #[.pointer (some ⟨W.heap.size, 0, none⟩), .pointer (some ⟨W.heap.size + 1, 0, none⟩), .pointer (some ⟨W.heap.size + 2, 0, none⟩)]) ∧
      w' = ((W.alloc (.cells #[.slice ao n cap] 22)).alloc (.cells #[.int .i64 mb, .int .i64 mg, .int .i64 ma] 34)).alloc (.cells #[.int .i64 f, .int .i64 t] 42)) := Lib.hid (fun W => through_any ao n cap ⟨mb, mg, ma⟩ f t W)
     clear bA
     go_wp2_with fail
     refine (HT.out _).mono ?_
     rintro e w10 ⟨rfl, rfl⟩
     clear m0 m1 m2 r0 r1
     go_wp2_with fail
     obtain ⟨Wt, hWt⟩ : ∃ Wt, Wt = (((w9.alloc (.cells #[.int .i64 0] 3)).alloc (.cells #[.slice ao n cap] 22)).alloc (.cells #[.int .i64 mb, .int .i64 mg, .int .i64 ma] 34)).alloc (.cells #[.int .i64 f, .int .i64 t] 42) := ⟨_, rfl⟩
     have bT : Below w9.heap.size w9 Wt := by rw [hWt]; exact ((((Below.refl _ _).alloc (Nat.le_refl _) _).alloc (by simp) _).alloc (by simp; omega) _).alloc (by simp; omega) _
     have hsT : Wt.heap.size = w9.heap.size + 4 := by rw [hWt]; simp
     have k23 : Blk Wt w9.heap.size 3 [.int .i64 0] := by rw [hWt]; exact (((Blk.new _ _ [.int .i64 0]).alloc _).alloc _).alloc _
     have k1 : Blk Wt (w9.heap.size + 1) 22 [.slice ao n cap] := by rw [hWt]; exact ((Blk.newAt (g := w9.heap.size + 1) _ [.slice ao n cap] (by simp)).alloc _).alloc _
     have k2 : Blk Wt (w9.heap.size + 2) 34 [.int .i64 mb, .int .i64 mg, .int .i64 ma] := by rw [hWt]; exact (Blk.newAt (g := w9.heap.size + 2) _ [.int .i64 mb, .int .i64 mg, .int .i64 ma] (by simp)).alloc _
     have k3 : Blk Wt (w9.heap.size + 3) 42 [.int .i64 f, .int .i64 t] := by rw [hWt]; exact Blk.newAt (g := w9.heap.size + 3) _ [.int .i64 f, .int .i64 t] (by simp)
     have CT := Lib.hid (C9.out.below bT)
     have BBT := Lib.hid (BB9.out.trans (bT.mono BB9.out.size))
     have PT := Lib.hid (P9.out.below bT)
     have PLT := HPL.out Wt BBT.out
     have KBT := HKB.out Wt BBT.out
     have KST := Lib.hid (HKS.out Wt BBT.out)
     have BWT := Lib.hid (BW4.out.trans (BBT.out.mono BW4.out.size))
     have hw9 : w4.heap.size + 2 ≤ w9.heap.size := S9.out
     have HBP := Lib.hid P9.out
     rw [← hWt]
     clear hWt HT
     simp only [Nat.add_assoc, Nat.reduceAdd]
     have HOWN : Hid (∀ b off, aB = some ⟨b, off, none⟩ → 0 < nB → ¬ (b = w9.heap.size ∨ b = w.heap.size + 3)) := Lib.hid (fun b off e hp => by
      have h1 := HBO.out b off e
      obtain ⟨b2, off2, e2, h2, _⟩ := HBP.out.read hp
      rw [e] at e2
      have e3 := Option.some.inj e2
      have e4 : b = b2 := congrArg Addr.block e3
      omega)
     refine frame_name (fun a0 ha0 => ?_)
     refine (wpIn_wide (n := 10)).1 (wpIn_rangeFunc_ownH rfl (by omega) (gf := 36) (lb := #[.pointer (some ⟨w9.heap.size + 1, 0, none⟩), .pointer (some ⟨w9.heap.size + 2, 0, none⟩), .pointer (some ⟨w9.heap.size + 3, 0, none⟩)]) (by rw [ha0]; rfl) trivial (enters_of Try.func36 (by kernel_rfl) rfl)
      (thr_stops (fun k => k = w9.heap.size ∨ k = w.heap.size + 3) _ (w9.heap.size + 1) (w9.heap.size + 2) (w9.heap.size + 3) ao n cap l ⟨mb, mg, ma⟩ f t Wt k1 k2 k3 PLT (by omega) (fun k hk => by omega)) (fun h k => h.trans k) (fun W l o o' _ h ho _ => KpO.putObj W l o o' h ho) (Below.refl _ _) (fun _ => rfl)
      (fun pre W => Sm (fun k => k = w9.heap.size ∨ k = w.heap.size + 3) Wt W ∧ Blk W w9.heap.size 3 [.int .i64 (pre.length : Nat)] ∧ Blk W (w.heap.size + 3) 4 [.bool false] ∧ Below w.heap.size w W)
      (fun c pre W => c = .ret ∧ ∃ rb : Bool, (pre <+: LB → rb = true) ∧ Blk W (w.heap.size + 3) 4 [.bool rb] ∧ Below w.heap.size w W)
      ?hI ?hIx ⟨Sm.refl _ _, k23, KBT, BWT.out⟩ (fun x a' W => ∃ Bx, Wt.heap.size ≤ Bx ∧ Blk W Bx 30 (encPtr x) ∧ a' = ({ tmps := (a0.put (some 180) (.agg (encPtr x).toArray)).tmps, defers := [] } : Act).put (some 24) (.pointer (some ⟨Bx, 0, none⟩))) ?hAx ?assign ?body ?done ?stop)
     case hI => exact fun s A B row ⟨hs, h2, h3, hb⟩ hg hr => ⟨hs.step hg (fun r e => .inr (hr r e).1), h2.own hg (fun r e => (hr r e).2), h3.own hg (fun r e => (hr r e).2), hb.grown hg hb.size (fun k e => by have := (hr k e).1; omega)⟩
     case hIx => exact fun c s A B row ⟨e, rb, he, h3, hb⟩ hg hr => ⟨e, rb, he, h3.own hg (fun r e => (hr r e).2), hb.grown hg hb.size (fun k e => by have := (hr k e).1; omega)⟩
     case hAx => exact fun x a' s A B row ⟨Bx, h1, h2, h3⟩ hg hr => ⟨Bx, h1, h2.own hg (fun r e => (hr r e).2), h3⟩
     case assign =>
      rintro lp pre x W K ⟨hsm, h2, h3, hb⟩ hK
      subst ha0
      have s1 := fun n => store_newI (F := Fence.wide.inRound lp) (n := n) W x
      have hbA : Below W.heap.size W (W.alloc (.cells (encPtr x).toArray 30)) := (Below.refl _ _).alloc (Nat.le_refl _) _
      have HK := Lib.hid (hK _ _ ((KeepsOthers.alloc W (.cells (encPtr x).toArray 30)).from _) (KpO.of_below hbA) ⟨hsm.below hbA, h2.below hbA, h3.below hbA, hb.trans (hbA.mono hb.size)⟩ ⟨W.heap.size, hsm.1, Blk.new _ _ _, rfl⟩)
      simp only [Act.put, List.setIfInBounds_toArray, List.set_cons_zero, List.set_cons_succ] at HK
      clear hK h2 h3 hb hbA
      gi_wp2
      exact HK.out
     case body =>
      rintro lp pre x a' W hl ⟨r, hr⟩ ⟨hsm, h2, h3, hb⟩ ⟨Bx, hBx, hX, rfl⟩ hlt
      subst ha0
      simp only [Act.put, List.setIfInBounds_toArray, List.set_cons_zero, List.set_cons_succ]
      have HPRE := Lib.hid (fun h => prefix_at (pre := pre) (LB := LB) (x := x) h)
      have HLEN : Hid ((pre ++ [x]).length = pre.length + 1) := Lib.hid (by simp)
      obtain ⟨pl, hpl⟩ : ∃ pl, pl = pre ++ [x] := ⟨_, rfl⟩
      rw [← hpl] at HPRE HLEN ⊢
      obtain ⟨j, hj⟩ : ∃ j, j = pre.length := ⟨_, rfl⟩
      rw [← hj] at HPRE HLEN h2 hlt
      clear hpl hj hr
      have bd : Below W.heap.size W W.drew := (Below.refl _ _).drew
      have smd := hsm.below bd
      have n23 := h2.below bd
      have n12 := h3.below bd
      have nX := hX.below bd
      have nC := (CT.out.sm smd (by omega))
      have nS := (KST.out.sm smd (by omega))
      have nP := PT.out.sm smd HOWN.out
      have nBW := hb.trans (bd.mono hb.size)
      have c23 := n23.cell 0
      have f23 := n23.frozen 0
      have c12 := n12.cell 0
      have f12 := n12.frozen 0
      have c17 : W.drew.cell? ⟨w4.heap.size, 0, none⟩ = some (.slice aB nB cpB) := nC.cell 0
      have lx := fun n => load_ptrI (F := Fence.wide.inRound lp) (n := n) (range0 nX)
      have HFAIL : Hid ((pl <+: LB → False) → ownPostG Wt.heap.size (KpO fun k => k = w9.heap.size ∨ k = w.heap.size + 3) (fun pre W => Sm (fun k => k = w9.heap.size ∨ k = w.heap.size + 3) Wt W ∧ Blk W w9.heap.size 3 [.int .i64 (pre.length : Nat)] ∧ Blk W (w.heap.size + 3) 4 [.bool false] ∧ Below w.heap.size w W)
        (fun c pre W => c = .ret ∧ ∃ rb : Bool, (pre <+: LB → rb = true) ∧ Blk W (w.heap.size + 3) 4 [.bool rb] ∧ Below w.heap.size w W) pl W .ret { tmps := #[], defers := [] } (W.drew.setCell ⟨w.heap.size + 3, 0, none⟩ (.bool false))) := Lib.hid (fun h =>
       ⟨(KeepsFrom.of_grownBy (row := none) (grown_of_below bd) (fun k e => by cases e)).trans ((KeepsOthers.setCell _ _ _).from _), rfl, false, fun hp => (h hp).elim, n12.setCell 0 _, nBW.setCell (p := ⟨w.heap.size + 3, 0, none⟩) (by show w.heap.size ≤ w.heap.size + 3; omega) _⟩)
      by_cases hjn : j < nB
      ·
       obtain ⟨b, off, hab, hbb, hrr⟩ := nP.read (by omega)
       have ly := fun n => load_ptrI (F := Fence.wide.inRound lp) (n := n) (hrr j hjn)
       rw [hab] at c17
       have hjz : (j : Int) < (nB : Int) := by omega
       have hjd : decide ((nB : Int) ≤ (j : Int)) = false := by simp; omega
       have hjd2 : ¬ nB ≤ j := by omega
       have hjd3 : decide (nB ≤ j) = false := decide_eq_false hjd2
       by_cases hxy : x = LB.getD j pD
       ·
        rw [← hxy] at ly
        have q0 := fun n => binI_same (F := Fence.wide.inRound lp) (n := n) x
        clear hrr nP HPRE HFAIL hxy
        gi_wp2
        refine wpIn_region_any (by kernel_rfl) ?_
        change wpAnyIn _ _ _ _ _ _ _ _ _ (World.drew W)
        refine cutA (A := ?pAq63) (fun hcut => ?pathsq63) ?restq63
        case pathsq63 =>
         refine wpAnyIn_ready (rs := [0, 1]) (by kernel_rfl) (by simp) ?_
         refine AllReadyIn.cons (o := ?zog64_0) ?zhg64_0 ?zkg64_0 (AllReadyIn.cons (o := ?zog64_1) ?zhg64_1 ?zkg64_1 AllReadyIn.nil)
         case zhg64_0 => (simp only [List.getElem?_toArray, List.getElem?_cons_succ, List.getElem?_cons_zero]; rfl)
         case zhg64_1 => (simp only [List.getElem?_toArray, List.getElem?_cons_succ, List.getElem?_cons_zero]; rfl)
         ·
          intro K hK
          rw [if_pos (by kernel_rfl)]
          go_simp
          refine hK _ _ ?_
          try simp only [Act.put, List.setIfInBounds_toArray, List.set_cons_zero, List.set_cons_succ]
          clear hK
          clear K
          refine wpAnyIn_ready (rs := [1]) (by kernel_rfl) (by simp) ?_
          refine AllReadyIn.cons (o := ?zog65_1) ?zhg65_1 ?zkg65_1 AllReadyIn.nil
          case zhg65_1 => (simp only [List.getElem?_toArray, List.getElem?_cons_succ, List.getElem?_cons_zero]; rfl)
          ·
           intro K hK
           rw [if_pos (by kernel_rfl)]
           go_simp
           refine hK _ _ ?_
           try simp only [Act.put, List.setIfInBounds_toArray, List.set_cons_zero, List.set_cons_succ]
           clear hK
           clear K
           refine wpAnyIn_ready (rs := [2]) (by kernel_rfl) (by simp) ?_
           refine AllReadyIn.cons (o := ?zog66_2) ?zhg66_2 ?zkg66_2 AllReadyIn.nil
           case zhg66_2 => (simp only [List.getElem?_toArray, List.getElem?_cons_succ, List.getElem?_cons_zero]; rfl)
           ·
            intro K hK
            rw [if_pos (by kernel_rfl)]
            go_simp
            refine hK _ _ ?_
            try simp only [Act.put, List.setIfInBounds_toArray, List.set_cons_zero, List.set_cons_succ]
            clear hK
            clear K
            exact hcut
         ·
          intro K hK
          rw [if_pos (by kernel_rfl)]
          go_simp
          refine hK _ _ ?_
          try simp only [Act.put, List.setIfInBounds_toArray, List.set_cons_zero, List.set_cons_succ]
          clear hK
          clear K
          refine wpAnyIn_ready (rs := [0, 2]) (by kernel_rfl) (by simp) ?_
          refine AllReadyIn.cons (o := ?zog67_0) ?zhg67_0 ?zkg67_0 (AllReadyIn.cons (o := ?zog67_2) ?zhg67_2 ?zkg67_2 AllReadyIn.nil)
          case zhg67_0 => (simp only [List.getElem?_toArray, List.getElem?_cons_succ, List.getElem?_cons_zero]; rfl)
          case zhg67_2 => (simp only [List.getElem?_toArray, List.getElem?_cons_succ, List.getElem?_cons_zero]; rfl)
          ·
           intro K hK
           rw [if_pos (by kernel_rfl)]
           go_simp
           refine hK _ _ ?_
           try simp only [Act.put, List.setIfInBounds_toArray, List.set_cons_zero, List.set_cons_succ]
           clear hK
           clear K
           refine wpAnyIn_ready (rs := [2]) (by kernel_rfl) (by simp) ?_
           refine AllReadyIn.cons (o := ?zog68_2) ?zhg68_2 ?zkg68_2 AllReadyIn.nil
           case zhg68_2 => (simp only [List.getElem?_toArray, List.getElem?_cons_succ, List.getElem?_cons_zero]; rfl)
           ·
            intro K hK
            rw [if_pos (by kernel_rfl)]
            go_simp
            refine hK _ _ ?_
            try simp only [Act.put, List.setIfInBounds_toArray, List.set_cons_zero, List.set_cons_succ]
            clear hK
            clear K
            exact hcut
          ·
           intro K hK
           rw [if_pos (by kernel_rfl)]
           go_simp
           refine hK _ _ ?_
           try simp only [Act.put, List.setIfInBounds_toArray, List.set_cons_zero, List.set_cons_succ]
           clear hK
           clear K
           refine wpAnyIn_ready (rs := [0]) (by kernel_rfl) (by simp) ?_
           refine AllReadyIn.cons (o := ?zog69_0) ?zhg69_0 ?zkg69_0 AllReadyIn.nil
           case zhg69_0 => (simp only [List.getElem?_toArray, List.getElem?_cons_succ, List.getElem?_cons_zero]; rfl)
           ·
            intro K hK
            rw [if_pos (by kernel_rfl)]
            go_simp
            refine hK _ _ ?_
            try simp only [Act.put, List.setIfInBounds_toArray, List.set_cons_zero, List.set_cons_succ]
            clear hK
            clear K
            exact hcut
        case restq63 =>
         refine wpAnyIn_ready (rs := [3]) (by kernel_rfl) (by simp) ?_
         refine AllReadyIn.cons (o := ?zog70_3) ?zhg70_3 ?zkg70_3 AllReadyIn.nil
         case zhg70_3 => (simp only [List.getElem?_toArray, List.getElem?_cons_succ, List.getElem?_cons_zero]; rfl)
         ·
          intro K hK
          rw [if_pos (by kernel_rfl)]
          go_simp
          refine hK _ _ ?_
          try simp only [Act.put, List.setIfInBounds_toArray, List.set_cons_zero, List.set_cons_succ]
          clear hK
          clear K
          refine wpAnyIn_ready (rs := [4]) (by kernel_rfl) (by simp) ?_
          refine AllReadyIn.cons (o := ?zog71_4) ?zhg71_4 ?zkg71_4 AllReadyIn.nil
          case zhg71_4 => (simp only [List.getElem?_toArray, List.getElem?_cons_succ, List.getElem?_cons_zero]; rfl)
          ·
           intro K hK
           rw [if_pos (by kernel_rfl)]
           go_simp
           refine hK _ _ ?_
           try simp only [Act.put, List.setIfInBounds_toArray, List.set_cons_zero, List.set_cons_succ]
           clear hK
           clear K
           refine cutA (A := ?pBq63) (fun hcut => ?pathsBq63) ?restBq63
           case pathsBq63 =>
            refine wpAnyIn_ready (rs := [5, 6, 7]) (by kernel_rfl) (by simp) ?_
            refine AllReadyIn.cons (o := ?zog72_5) ?zhg72_5 ?zkg72_5 (AllReadyIn.cons (o := ?zog72_6) ?zhg72_6 ?zkg72_6 (AllReadyIn.cons (o := ?zog72_7) ?zhg72_7 ?zkg72_7 AllReadyIn.nil))
            case zhg72_5 => (simp only [List.getElem?_toArray, List.getElem?_cons_succ, List.getElem?_cons_zero]; rfl)
            case zhg72_6 => (simp only [List.getElem?_toArray, List.getElem?_cons_succ, List.getElem?_cons_zero]; rfl)
            case zhg72_7 => (simp only [List.getElem?_toArray, List.getElem?_cons_succ, List.getElem?_cons_zero]; rfl)
            ·
             intro K hK
             rw [if_pos (by kernel_rfl)]
             go_simp
             refine hK _ _ ?_
             try simp only [Act.put, List.setIfInBounds_toArray, List.set_cons_zero, List.set_cons_succ]
             clear hK
             clear K
             refine wpAnyIn_ready (rs := [6, 7]) (by kernel_rfl) (by simp) ?_
             refine AllReadyIn.cons (o := ?zog73_6) ?zhg73_6 ?zkg73_6 (AllReadyIn.cons (o := ?zog73_7) ?zhg73_7 ?zkg73_7 AllReadyIn.nil)
             case zhg73_6 => (simp only [List.getElem?_toArray, List.getElem?_cons_succ, List.getElem?_cons_zero]; rfl)
             case zhg73_7 => (simp only [List.getElem?_toArray, List.getElem?_cons_succ, List.getElem?_cons_zero]; rfl)
             ·
              intro K hK
              rw [if_pos (by kernel_rfl)]
              go_simp
              refine hK _ _ ?_
              try simp only [Act.put, List.setIfInBounds_toArray, List.set_cons_zero, List.set_cons_succ]
              clear hK
              clear K
              refine wpAnyIn_ready (rs := [7]) (by kernel_rfl) (by simp) ?_
              refine AllReadyIn.cons (o := ?zog74_7) ?zhg74_7 ?zkg74_7 AllReadyIn.nil
              case zhg74_7 => (simp only [List.getElem?_toArray, List.getElem?_cons_succ, List.getElem?_cons_zero]; rfl)
              ·
               intro K hK
               rw [if_pos (by kernel_rfl)]
               go_simp
               refine hK _ _ ?_
               try simp only [Act.put, List.setIfInBounds_toArray, List.set_cons_zero, List.set_cons_succ]
               clear hK
               clear K
               refine wpAnyIn_ready (rs := [8]) (by kernel_rfl) (by simp) ?_
               refine AllReadyIn.cons (o := ?zog75_8) ?zhg75_8 ?zkg75_8 AllReadyIn.nil
               case zhg75_8 => (simp only [List.getElem?_toArray, List.getElem?_cons_succ, List.getElem?_cons_zero]; rfl)
               ·
                intro K hK
                rw [if_pos (by kernel_rfl)]
                go_simp
                refine hK _ _ ?_
                try simp only [Act.put, List.setIfInBounds_toArray, List.set_cons_zero, List.set_cons_succ]
                clear hK
                clear K
                refine wpAnyIn_ready (rs := [9]) (by kernel_rfl) (by simp) ?_
                refine AllReadyIn.cons (o := ?zog76_9) ?zhg76_9 ?zkg76_9 AllReadyIn.nil
                case zhg76_9 => (simp only [List.getElem?_toArray, List.getElem?_cons_succ, List.getElem?_cons_zero]; rfl)
                ·
                 intro K hK
                 rw [if_pos (by kernel_rfl)]
                 go_simp
                 refine hK _ _ ?_
                 try simp only [Act.put, List.setIfInBounds_toArray, List.set_cons_zero, List.set_cons_succ]
                 clear hK
                 clear K
                 exact hcut
             ·
              intro K hK
              rw [if_pos (by kernel_rfl)]
              go_simp
              refine hK _ _ ?_
              try simp only [Act.put, List.setIfInBounds_toArray, List.set_cons_zero, List.set_cons_succ]
              clear hK
              clear K
              refine wpAnyIn_ready (rs := [6]) (by kernel_rfl) (by simp) ?_
              refine AllReadyIn.cons (o := ?zog77_6) ?zhg77_6 ?zkg77_6 AllReadyIn.nil
              case zhg77_6 => (simp only [List.getElem?_toArray, List.getElem?_cons_succ, List.getElem?_cons_zero]; rfl)
              ·
               intro K hK
               rw [if_pos (by kernel_rfl)]
               go_simp
               refine hK _ _ ?_
               try simp only [Act.put, List.setIfInBounds_toArray, List.set_cons_zero, List.set_cons_succ]
               clear hK
               clear K
               refine wpAnyIn_ready (rs := [8]) (by kernel_rfl) (by simp) ?_
               refine AllReadyIn.cons (o := ?zog78_8) ?zhg78_8 ?zkg78_8 AllReadyIn.nil
               case zhg78_8 => (simp only [List.getElem?_toArray, List.getElem?_cons_succ, List.getElem?_cons_zero]; rfl)
               ·
                intro K hK
                rw [if_pos (by kernel_rfl)]
                go_simp
                refine hK _ _ ?_
                try simp only [Act.put, List.setIfInBounds_toArray, List.set_cons_zero, List.set_cons_succ]
                clear hK
                clear K
                refine wpAnyIn_ready (rs := [9]) (by kernel_rfl) (by simp) ?_
                refine AllReadyIn.cons (o := ?zog79_9) ?zhg79_9 ?zkg79_9 AllReadyIn.nil
                case zhg79_9 => (simp only [List.getElem?_toArray, List.getElem?_cons_succ, List.getElem?_cons_zero]; rfl)
                ·
                 intro K hK
                 rw [if_pos (by kernel_rfl)]
                 go_simp
                 refine hK _ _ ?_
                 try simp only [Act.put, List.setIfInBounds_toArray, List.set_cons_zero, List.set_cons_succ]
                 clear hK
                 clear K
                 exact hcut
            ·
             intro K hK
             rw [if_pos (by kernel_rfl)]
             go_simp
             refine hK _ _ ?_
             try simp only [Act.put, List.setIfInBounds_toArray, List.set_cons_zero, List.set_cons_succ]
             clear hK
             clear K
             refine wpAnyIn_ready (rs := [5, 7]) (by kernel_rfl) (by simp) ?_
             refine AllReadyIn.cons (o := ?zog80_5) ?zhg80_5 ?zkg80_5 (AllReadyIn.cons (o := ?zog80_7) ?zhg80_7 ?zkg80_7 AllReadyIn.nil)
             case zhg80_5 => (simp only [List.getElem?_toArray, List.getElem?_cons_succ, List.getElem?_cons_zero]; rfl)
             case zhg80_7 => (simp only [List.getElem?_toArray, List.getElem?_cons_succ, List.getElem?_cons_zero]; rfl)
             ·
              intro K hK
              rw [if_pos (by kernel_rfl)]
              go_simp
              refine hK _ _ ?_
              try simp only [Act.put, List.setIfInBounds_toArray, List.set_cons_zero, List.set_cons_succ]
              clear hK
              clear K
              refine wpAnyIn_ready (rs := [7]) (by kernel_rfl) (by simp) ?_
              refine AllReadyIn.cons (o := ?zog81_7) ?zhg81_7 ?zkg81_7 AllReadyIn.nil
              case zhg81_7 => (simp only [List.getElem?_toArray, List.getElem?_cons_succ, List.getElem?_cons_zero]; rfl)
              ·
               intro K hK
               rw [if_pos (by kernel_rfl)]
               go_simp
               refine hK _ _ ?_
               try simp only [Act.put, List.setIfInBounds_toArray, List.set_cons_zero, List.set_cons_succ]
               clear hK
               clear K
               refine wpAnyIn_ready (rs := [8]) (by kernel_rfl) (by simp) ?_
               refine AllReadyIn.cons (o := ?zog82_8) ?zhg82_8 ?zkg82_8 AllReadyIn.nil
               case zhg82_8 => (simp only [List.getElem?_toArray, List.getElem?_cons_succ, List.getElem?_cons_zero]; rfl)
               ·
                intro K hK
                rw [if_pos (by kernel_rfl)]
                go_simp
                refine hK _ _ ?_
                try simp only [Act.put, List.setIfInBounds_toArray, List.set_cons_zero, List.set_cons_succ]
                clear hK
                clear K
                refine wpAnyIn_ready (rs := [9]) (by kernel_rfl) (by simp) ?_
                refine AllReadyIn.cons (o := ?zog83_9) ?zhg83_9 ?zkg83_9 AllReadyIn.nil
                case zhg83_9 => (simp only [List.getElem?_toArray, List.getElem?_cons_succ, List.getElem?_cons_zero]; rfl)
                ·
                 intro K hK
                 rw [if_pos (by kernel_rfl)]
                 go_simp
                 refine hK _ _ ?_
                 try simp only [Act.put, List.setIfInBounds_toArray, List.set_cons_zero, List.set_cons_succ]
                 clear hK
                 clear K
                 exact hcut
             ·
              intro K hK
              rw [if_pos (by kernel_rfl)]
              go_simp
              refine hK _ _ ?_
              try simp only [Act.put, List.setIfInBounds_toArray, List.set_cons_zero, List.set_cons_succ]
              clear hK
              clear K
              refine wpAnyIn_ready (rs := [5, 8]) (by kernel_rfl) (by simp) ?_
              refine AllReadyIn.cons (o := ?zog84_5) ?zhg84_5 ?zkg84_5 (AllReadyIn.cons (o := ?zog84_8) ?zhg84_8 ?zkg84_8 AllReadyIn.nil)
              case zhg84_5 => (simp only [List.getElem?_toArray, List.getElem?_cons_succ, List.getElem?_cons_zero]; rfl)
              case zhg84_8 => (simp only [List.getElem?_toArray, List.getElem?_cons_succ, List.getElem?_cons_zero]; rfl)
              ·
               intro K hK
               rw [if_pos (by kernel_rfl)]
               go_simp
               refine hK _ _ ?_
               try simp only [Act.put, List.setIfInBounds_toArray, List.set_cons_zero, List.set_cons_succ]
               clear hK
               clear K
               refine wpAnyIn_ready (rs := [8]) (by kernel_rfl) (by simp) ?_
               refine AllReadyIn.cons (o := ?zog85_8) ?zhg85_8 ?zkg85_8 AllReadyIn.nil
               case zhg85_8 => (simp only [List.getElem?_toArray, List.getElem?_cons_succ, List.getElem?_cons_zero]; rfl)
               ·
                intro K hK
                rw [if_pos (by kernel_rfl)]
                go_simp
                refine hK _ _ ?_
                try simp only [Act.put, List.setIfInBounds_toArray, List.set_cons_zero, List.set_cons_succ]
                clear hK
                clear K
                refine wpAnyIn_ready (rs := [9]) (by kernel_rfl) (by simp) ?_
                refine AllReadyIn.cons (o := ?zog86_9) ?zhg86_9 ?zkg86_9 AllReadyIn.nil
                case zhg86_9 => (simp only [List.getElem?_toArray, List.getElem?_cons_succ, List.getElem?_cons_zero]; rfl)
                ·
                 intro K hK
                 rw [if_pos (by kernel_rfl)]
                 go_simp
                 refine hK _ _ ?_
                 try simp only [Act.put, List.setIfInBounds_toArray, List.set_cons_zero, List.set_cons_succ]
                 clear hK
                 clear K
                 exact hcut
              ·
               intro K hK
               rw [if_pos (by kernel_rfl)]
               go_simp
               refine hK _ _ ?_
               try simp only [Act.put, List.setIfInBounds_toArray, List.set_cons_zero, List.set_cons_succ]
               clear hK
               clear K
               refine wpAnyIn_ready (rs := [5, 9]) (by kernel_rfl) (by simp) ?_
               refine AllReadyIn.cons (o := ?zog87_5) ?zhg87_5 ?zkg87_5 (AllReadyIn.cons (o := ?zog87_9) ?zhg87_9 ?zkg87_9 AllReadyIn.nil)
               case zhg87_5 => (simp only [List.getElem?_toArray, List.getElem?_cons_succ, List.getElem?_cons_zero]; rfl)
               case zhg87_9 => (simp only [List.getElem?_toArray, List.getElem?_cons_succ, List.getElem?_cons_zero]; rfl)
               ·
                intro K hK
                rw [if_pos (by kernel_rfl)]
                go_simp
                refine hK _ _ ?_
                try simp only [Act.put, List.setIfInBounds_toArray, List.set_cons_zero, List.set_cons_succ]
                clear hK
                clear K
                refine wpAnyIn_ready (rs := [9]) (by kernel_rfl) (by simp) ?_
                refine AllReadyIn.cons (o := ?zog88_9) ?zhg88_9 ?zkg88_9 AllReadyIn.nil
                case zhg88_9 => (simp only [List.getElem?_toArray, List.getElem?_cons_succ, List.getElem?_cons_zero]; rfl)
                ·
                 intro K hK
                 rw [if_pos (by kernel_rfl)]
                 go_simp
                 refine hK _ _ ?_
                 try simp only [Act.put, List.setIfInBounds_toArray, List.set_cons_zero, List.set_cons_succ]
                 clear hK
                 clear K
                 exact hcut
               ·
                intro K hK
                rw [if_pos (by kernel_rfl)]
                go_simp
                refine hK _ _ ?_
                try simp only [Act.put, List.setIfInBounds_toArray, List.set_cons_zero, List.set_cons_succ]
                clear hK
                clear K
                refine wpAnyIn_ready (rs := [5]) (by kernel_rfl) (by simp) ?_
                refine AllReadyIn.cons (o := ?zog89_5) ?zhg89_5 ?zkg89_5 AllReadyIn.nil
                case zhg89_5 => (simp only [List.getElem?_toArray, List.getElem?_cons_succ, List.getElem?_cons_zero]; rfl)
                ·
                 intro K hK
                 rw [if_pos (by kernel_rfl)]
                 go_simp
                 refine hK _ _ ?_
                 try simp only [Act.put, List.setIfInBounds_toArray, List.set_cons_zero, List.set_cons_succ]
                 clear hK
                 clear K
                 exact hcut
            ·
             intro K hK
             rw [if_pos (by kernel_rfl)]
             go_simp
             refine hK _ _ ?_
             try simp only [Act.put, List.setIfInBounds_toArray, List.set_cons_zero, List.set_cons_succ]
             clear hK
             clear K
             refine wpAnyIn_ready (rs := [5, 6]) (by kernel_rfl) (by simp) ?_
             refine AllReadyIn.cons (o := ?zog90_5) ?zhg90_5 ?zkg90_5 (AllReadyIn.cons (o := ?zog90_6) ?zhg90_6 ?zkg90_6 AllReadyIn.nil)
             case zhg90_5 => (simp only [List.getElem?_toArray, List.getElem?_cons_succ, List.getElem?_cons_zero]; rfl)
             case zhg90_6 => (simp only [List.getElem?_toArray, List.getElem?_cons_succ, List.getElem?_cons_zero]; rfl)
             ·
              intro K hK
              rw [if_pos (by kernel_rfl)]
              go_simp
              refine hK _ _ ?_
              try simp only [Act.put, List.setIfInBounds_toArray, List.set_cons_zero, List.set_cons_succ]
              clear hK
              clear K
              refine wpAnyIn_ready (rs := [6]) (by kernel_rfl) (by simp) ?_
              refine AllReadyIn.cons (o := ?zog91_6) ?zhg91_6 ?zkg91_6 AllReadyIn.nil
              case zhg91_6 => (simp only [List.getElem?_toArray, List.getElem?_cons_succ, List.getElem?_cons_zero]; rfl)
              ·
               intro K hK
               rw [if_pos (by kernel_rfl)]
               go_simp
               refine hK _ _ ?_
               try simp only [Act.put, List.setIfInBounds_toArray, List.set_cons_zero, List.set_cons_succ]
               clear hK
               clear K
               refine wpAnyIn_ready (rs := [8]) (by kernel_rfl) (by simp) ?_
               refine AllReadyIn.cons (o := ?zog92_8) ?zhg92_8 ?zkg92_8 AllReadyIn.nil
               case zhg92_8 => (simp only [List.getElem?_toArray, List.getElem?_cons_succ, List.getElem?_cons_zero]; rfl)
               ·
                intro K hK
                rw [if_pos (by kernel_rfl)]
                go_simp
                refine hK _ _ ?_
                try simp only [Act.put, List.setIfInBounds_toArray, List.set_cons_zero, List.set_cons_succ]
                clear hK
                clear K
                refine wpAnyIn_ready (rs := [9]) (by kernel_rfl) (by simp) ?_
                refine AllReadyIn.cons (o := ?zog93_9) ?zhg93_9 ?zkg93_9 AllReadyIn.nil
                case zhg93_9 => (simp only [List.getElem?_toArray, List.getElem?_cons_succ, List.getElem?_cons_zero]; rfl)
                ·
                 intro K hK
                 rw [if_pos (by kernel_rfl)]
                 go_simp
                 refine hK _ _ ?_
                 try simp only [Act.put, List.setIfInBounds_toArray, List.set_cons_zero, List.set_cons_succ]
                 clear hK
                 clear K
                 exact hcut
             ·
              intro K hK
              rw [if_pos (by kernel_rfl)]
              go_simp
              refine hK _ _ ?_
              try simp only [Act.put, List.setIfInBounds_toArray, List.set_cons_zero, List.set_cons_succ]
              clear hK
              clear K
              refine wpAnyIn_ready (rs := [5, 8]) (by kernel_rfl) (by simp) ?_
              refine AllReadyIn.cons (o := ?zog94_5) ?zhg94_5 ?zkg94_5 (AllReadyIn.cons (o := ?zog94_8) ?zhg94_8 ?zkg94_8 AllReadyIn.nil)
              case zhg94_5 => (simp only [List.getElem?_toArray, List.getElem?_cons_succ, List.getElem?_cons_zero]; rfl)
              case zhg94_8 => (simp only [List.getElem?_toArray, List.getElem?_cons_succ, List.getElem?_cons_zero]; rfl)
              ·
               intro K hK
               rw [if_pos (by kernel_rfl)]
               go_simp
               refine hK _ _ ?_
               try simp only [Act.put, List.setIfInBounds_toArray, List.set_cons_zero, List.set_cons_succ]
               clear hK
               clear K
               refine wpAnyIn_ready (rs := [8]) (by kernel_rfl) (by simp) ?_
               refine AllReadyIn.cons (o := ?zog95_8) ?zhg95_8 ?zkg95_8 AllReadyIn.nil
               case zhg95_8 => (simp only [List.getElem?_toArray, List.getElem?_cons_succ, List.getElem?_cons_zero]; rfl)
               ·
                intro K hK
                rw [if_pos (by kernel_rfl)]
                go_simp
                refine hK _ _ ?_
                try simp only [Act.put, List.setIfInBounds_toArray, List.set_cons_zero, List.set_cons_succ]
                clear hK
                clear K
                refine wpAnyIn_ready (rs := [9]) (by kernel_rfl) (by simp) ?_
                refine AllReadyIn.cons (o := ?zog96_9) ?zhg96_9 ?zkg96_9 AllReadyIn.nil
                case zhg96_9 => (simp only [List.getElem?_toArray, List.getElem?_cons_succ, List.getElem?_cons_zero]; rfl)
                ·
                 intro K hK
                 rw [if_pos (by kernel_rfl)]
                 go_simp
                 refine hK _ _ ?_
                 try simp only [Act.put, List.setIfInBounds_toArray, List.set_cons_zero, List.set_cons_succ]
                 clear hK
                 clear K
                 exact hcut
              ·
               intro K hK
               rw [if_pos (by kernel_rfl)]
               go_simp
               refine hK _ _ ?_
               try simp only [Act.put, List.setIfInBounds_toArray, List.set_cons_zero, List.set_cons_succ]
               clear hK
               clear K
               refine wpAnyIn_ready (rs := [5, 9]) (by kernel_rfl) (by simp) ?_
               refine AllReadyIn.cons (o := ?zog97_5) ?zhg97_5 ?zkg97_5 (AllReadyIn.cons (o := ?zog97_9) ?zhg97_9 ?zkg97_9 AllReadyIn.nil)
               case zhg97_5 => (simp only [List.getElem?_toArray, List.getElem?_cons_succ, List.getElem?_cons_zero]; rfl)
               case zhg97_9 => (simp only [List.getElem?_toArray, List.getElem?_cons_succ, List.getElem?_cons_zero]; rfl)
               ·
                intro K hK
                rw [if_pos (by kernel_rfl)]
                go_simp
                refine hK _ _ ?_
                try simp only [Act.put, List.setIfInBounds_toArray, List.set_cons_zero, List.set_cons_succ]
                clear hK
                clear K
                refine wpAnyIn_ready (rs := [9]) (by kernel_rfl) (by simp) ?_
                refine AllReadyIn.cons (o := ?zog98_9) ?zhg98_9 ?zkg98_9 AllReadyIn.nil
                case zhg98_9 => (simp only [List.getElem?_toArray, List.getElem?_cons_succ, List.getElem?_cons_zero]; rfl)
                ·
                 intro K hK
                 rw [if_pos (by kernel_rfl)]
                 go_simp
                 refine hK _ _ ?_
                 try simp only [Act.put, List.setIfInBounds_toArray, List.set_cons_zero, List.set_cons_succ]
                 clear hK
                 clear K
                 exact hcut
               ·
                intro K hK
                rw [if_pos (by kernel_rfl)]
                go_simp
                refine hK _ _ ?_
                try simp only [Act.put, List.setIfInBounds_toArray, List.set_cons_zero, List.set_cons_succ]
                clear hK
                clear K
                refine wpAnyIn_ready (rs := [5]) (by kernel_rfl) (by simp) ?_
                refine AllReadyIn.cons (o := ?zog99_5) ?zhg99_5 ?zkg99_5 AllReadyIn.nil
                case zhg99_5 => (simp only [List.getElem?_toArray, List.getElem?_cons_succ, List.getElem?_cons_zero]; rfl)
                ·
                 intro K hK
                 rw [if_pos (by kernel_rfl)]
                 go_simp
                 refine hK _ _ ?_
                 try simp only [Act.put, List.setIfInBounds_toArray, List.set_cons_zero, List.set_cons_succ]
                 clear hK
                 clear K
                 exact hcut
           case restBq63 =>
            refine wpAnyIn_ready (rs := [10]) (by kernel_rfl) (by simp) ?_
            refine AllReadyIn.cons (o := ?zog100_10) ?zhg100_10 ?zkg100_10 AllReadyIn.nil
            case zhg100_10 => (simp only [List.getElem?_toArray, List.getElem?_cons_succ, List.getElem?_cons_zero]; rfl)
            ·
             intro K hK
             rw [if_pos (by kernel_rfl)]
             go_simp
             refine hK _ _ ?_
             try simp only [Act.put, List.setIfInBounds_toArray, List.set_cons_zero, List.set_cons_succ]
             clear hK
             clear K
             refine wpAnyIn_ready (rs := [11]) (by kernel_rfl) (by simp) ?_
             refine AllReadyIn.cons (o := ?zog101_11) ?zhg101_11 ?zkg101_11 AllReadyIn.nil
             case zhg101_11 => (simp only [List.getElem?_toArray, List.getElem?_cons_succ, List.getElem?_cons_zero]; rfl)
             ·
              intro K hK
              rw [if_pos (by kernel_rfl)]
              go_simp
              refine hK _ _ ?_
              try simp only [Act.put, List.setIfInBounds_toArray, List.set_cons_zero, List.set_cons_succ]
              clear hK
              clear K
              refine wpAnyIn_done (by kernel_rfl) ?_ _
              clear c17 lx ly q0 c23 f23 c12 f12
              generalize hWd : W.drew = Wd at n23 n12 nC nS smd nBW bd ⊢
              clear hWd
              have c23 : Wd.cell? ⟨w9.heap.size, 0, none⟩ = some (.int .i64 (j : Nat)) := n23.cell 0
              have f23 := n23.frozen 0
              have hwk : IntKind.i64.wrap ((j : Int) + 1) = (j : Int) + 1 := IntWalk.i64_in _ (by omega)
              have hws : IntKind.i64.wrap st = st := IntWalk.i64_in _ (by omega)
              have e1 : ((j + 1 : Nat) : Int) = (j : Int) + 1 := by omega
              have N23 := n23.setCell 0 (.int .i64 ((j : Int) + 1))
              have B12 := n12.other (a := ⟨w9.heap.size, 0, none⟩) (by show w.heap.size + 3 ≠ w9.heap.size; omega) (.int .i64 ((j : Int) + 1))
              have s11 : (Wd.setCell ⟨w9.heap.size, 0, none⟩ (.int .i64 ((j : Int) + 1))).cell? ⟨w.heap.size + 2, 0, none⟩ = some (.int .u8 st) := (nS.other (a := ⟨w9.heap.size, 0, none⟩) (by show w.heap.size + 2 ≠ w9.heap.size; omega) (.int .i64 ((j : Int) + 1))).cell 0
              have d12 := B12.cell 0
              have g12 := B12.frozen 0
              have d23 : (Wd.setCell ⟨w9.heap.size, 0, none⟩ (.int .i64 ((j : Int) + 1))).cell? ⟨w9.heap.size, 0, none⟩ = some (.int .i64 ((j : Int) + 1)) := N23.cell 0
              have BW1 := Lib.hid (nBW.setCell (p := ⟨w9.heap.size, 0, none⟩) (by show w.heap.size ≤ w9.heap.size; omega) (.int .i64 ((j : Int) + 1)))
              have KF1 := Lib.hid ((KeepsFrom.of_grownBy (B := Wt.heap.size) (row := none) (grown_of_below bd) (fun k e => by cases e)).trans ((KeepsOthers.setCell Wd ⟨w9.heap.size, 0, none⟩ (.int .i64 ((j : Int) + 1))).from Wt.heap.size))
              have KP1 : Hid (KpO (fun k => k = w9.heap.size ∨ k = w.heap.size + 3) W (Wd.setCell ⟨w9.heap.size, 0, none⟩ (.int .i64 ((j : Int) + 1)))) := Lib.hid ((KpO.of_below bd).trans (KpO.grown (setCell_grown Wd w9.heap.size 0 (.int .i64 ((j : Int) + 1))) (fun r e => .inl (Option.some.inj e).symm)))
              have SM1 := Lib.hid (smd.step (setCell_grown Wd w9.heap.size 0 (.int .i64 ((j : Int) + 1))) (fun r e => .inl (.inl (Option.some.inj e).symm)))
              have P23 : Hid (Blk (Wd.setCell ⟨w9.heap.size, 0, none⟩ (.int .i64 ((j : Int) + 1))) w9.heap.size 3 [.int .i64 (pl.length : Nat)]) := Lib.hid (by rw [HLEN.out, e1]; exact N23)
              have P12 := Lib.hid B12
              clear N23 B12 n23 n12 nX nC nS smd hsm h2 h3 hX nBW e1
              by_cases hjs : (j : Int) + 1 = st
              ·
               have hjb : ((j : Int) + 1 == st) = true := by simpa using hjs
               have P2 := Lib.hid (P12.out.setCell 0 (.bool true))
               have BW2 := Lib.hid (BW1.out.setCell (p := ⟨w.heap.size + 3, 0, none⟩) (by show w.heap.size ≤ w.heap.size + 3; omega) (.bool true))
               have KF2 := Lib.hid (KF1.out.trans ((KeepsOthers.setCell _ ⟨w.heap.size + 3, 0, none⟩ (.bool true)).from Wt.heap.size))
               clear hjs
               gi_wp2
               exact ⟨KF2.out, rfl, true, fun _ => rfl, P2.out, BW2.out⟩
              ·
               have hjb : ((j : Int) + 1 == st) = false := by simpa using hjs
               gi_wp2
               exact ⟨KF1.out, KP1.out, SM1.out, P23.out, P12.out, BW1.out⟩
       ·
        have HNE : Hid (pl <+: LB → False) := Lib.hid (fun h => hxy (HPRE.out h).2.symm)
        have q0 := fun n => binI_diff (F := Fence.wide.inRound lp) (n := n) hxy
        obtain ⟨xk, hxk⟩ : ∃ xk, xk = LB.getD j pD := ⟨_, rfl⟩
        rw [← hxk] at ly q0
        clear hxy hxk
        clear hrr nP HPRE nX nC nS
        gi_wp2
        refine wpIn_region_any (by kernel_rfl) ?_
        change wpAnyIn _ _ _ _ _ _ _ _ _ (World.drew W)
        refine cutA (A := ?pAq141) (fun hcut => ?pathsq141) ?restq141
        case pathsq141 =>
         refine wpAnyIn_ready (rs := [0, 1]) (by kernel_rfl) (by simp) ?_
         refine AllReadyIn.cons (o := ?zog142_0) ?zhg142_0 ?zkg142_0 (AllReadyIn.cons (o := ?zog142_1) ?zhg142_1 ?zkg142_1 AllReadyIn.nil)
         case zhg142_0 => (simp only [List.getElem?_toArray, List.getElem?_cons_succ, List.getElem?_cons_zero]; rfl)
         case zhg142_1 => (simp only [List.getElem?_toArray, List.getElem?_cons_succ, List.getElem?_cons_zero]; rfl)
         ·
          intro K hK
          rw [if_pos (by kernel_rfl)]
          go_simp
          refine hK _ _ ?_
          try simp only [Act.put, List.setIfInBounds_toArray, List.set_cons_zero, List.set_cons_succ]
          clear hK
          clear K
          refine wpAnyIn_ready (rs := [1]) (by kernel_rfl) (by simp) ?_
          refine AllReadyIn.cons (o := ?zog143_1) ?zhg143_1 ?zkg143_1 AllReadyIn.nil
          case zhg143_1 => (simp only [List.getElem?_toArray, List.getElem?_cons_succ, List.getElem?_cons_zero]; rfl)
          ·
           intro K hK
           rw [if_pos (by kernel_rfl)]
           go_simp
           refine hK _ _ ?_
           try simp only [Act.put, List.setIfInBounds_toArray, List.set_cons_zero, List.set_cons_succ]
           clear hK
           clear K
           refine wpAnyIn_ready (rs := [2]) (by kernel_rfl) (by simp) ?_
           refine AllReadyIn.cons (o := ?zog144_2) ?zhg144_2 ?zkg144_2 AllReadyIn.nil
           case zhg144_2 => (simp only [List.getElem?_toArray, List.getElem?_cons_succ, List.getElem?_cons_zero]; rfl)
           ·
            intro K hK
            rw [if_pos (by kernel_rfl)]
            go_simp
            refine hK _ _ ?_
            try simp only [Act.put, List.setIfInBounds_toArray, List.set_cons_zero, List.set_cons_succ]
            clear hK
            clear K
            exact hcut
         ·
          intro K hK
          rw [if_pos (by kernel_rfl)]
          go_simp
          refine hK _ _ ?_
          try simp only [Act.put, List.setIfInBounds_toArray, List.set_cons_zero, List.set_cons_succ]
          clear hK
          clear K
          refine wpAnyIn_ready (rs := [0, 2]) (by kernel_rfl) (by simp) ?_
          refine AllReadyIn.cons (o := ?zog145_0) ?zhg145_0 ?zkg145_0 (AllReadyIn.cons (o := ?zog145_2) ?zhg145_2 ?zkg145_2 AllReadyIn.nil)
          case zhg145_0 => (simp only [List.getElem?_toArray, List.getElem?_cons_succ, List.getElem?_cons_zero]; rfl)
          case zhg145_2 => (simp only [List.getElem?_toArray, List.getElem?_cons_succ, List.getElem?_cons_zero]; rfl)
          ·
           intro K hK
           rw [if_pos (by kernel_rfl)]
           go_simp
           refine hK _ _ ?_
           try simp only [Act.put, List.setIfInBounds_toArray, List.set_cons_zero, List.set_cons_succ]
           clear hK
           clear K
           refine wpAnyIn_ready (rs := [2]) (by kernel_rfl) (by simp) ?_
           refine AllReadyIn.cons (o := ?zog146_2) ?zhg146_2 ?zkg146_2 AllReadyIn.nil
           case zhg146_2 => (simp only [List.getElem?_toArray, List.getElem?_cons_succ, List.getElem?_cons_zero]; rfl)
           ·
            intro K hK
            rw [if_pos (by kernel_rfl)]
            go_simp
            refine hK _ _ ?_
            try simp only [Act.put, List.setIfInBounds_toArray, List.set_cons_zero, List.set_cons_succ]
            clear hK
            clear K
            exact hcut
          ·
           intro K hK
           rw [if_pos (by kernel_rfl)]
           go_simp
           refine hK _ _ ?_
           try simp only [Act.put, List.setIfInBounds_toArray, List.set_cons_zero, List.set_cons_succ]
           clear hK
           clear K
           refine wpAnyIn_ready (rs := [0]) (by kernel_rfl) (by simp) ?_
           refine AllReadyIn.cons (o := ?zog147_0) ?zhg147_0 ?zkg147_0 AllReadyIn.nil
           case zhg147_0 => (simp only [List.getElem?_toArray, List.getElem?_cons_succ, List.getElem?_cons_zero]; rfl)
           ·
            intro K hK
            rw [if_pos (by kernel_rfl)]
            go_simp
            refine hK _ _ ?_
            try simp only [Act.put, List.setIfInBounds_toArray, List.set_cons_zero, List.set_cons_succ]
            clear hK
            clear K
            exact hcut
        case restq141 =>
         refine wpAnyIn_ready (rs := [3]) (by kernel_rfl) (by simp) ?_
         refine AllReadyIn.cons (o := ?zog148_3) ?zhg148_3 ?zkg148_3 AllReadyIn.nil
         case zhg148_3 => (simp only [List.getElem?_toArray, List.getElem?_cons_succ, List.getElem?_cons_zero]; rfl)
         ·
          intro K hK
          rw [if_pos (by kernel_rfl)]
          go_simp
          refine hK _ _ ?_
          try simp only [Act.put, List.setIfInBounds_toArray, List.set_cons_zero, List.set_cons_succ]
          clear hK
          clear K
          refine wpAnyIn_ready (rs := [4]) (by kernel_rfl) (by simp) ?_
          refine AllReadyIn.cons (o := ?zog149_4) ?zhg149_4 ?zkg149_4 AllReadyIn.nil
          case zhg149_4 => (simp only [List.getElem?_toArray, List.getElem?_cons_succ, List.getElem?_cons_zero]; rfl)
          ·
           intro K hK
           rw [if_pos (by kernel_rfl)]
           go_simp
           refine hK _ _ ?_
           try simp only [Act.put, List.setIfInBounds_toArray, List.set_cons_zero, List.set_cons_succ]
           clear hK
           clear K
           refine cutA (A := ?pBq141) (fun hcut => ?pathsBq141) ?restBq141
           case pathsBq141 =>
            refine wpAnyIn_ready (rs := [5, 6, 7]) (by kernel_rfl) (by simp) ?_
            refine AllReadyIn.cons (o := ?zog150_5) ?zhg150_5 ?zkg150_5 (AllReadyIn.cons (o := ?zog150_6) ?zhg150_6 ?zkg150_6 (AllReadyIn.cons (o := ?zog150_7) ?zhg150_7 ?zkg150_7 AllReadyIn.nil))
            case zhg150_5 => (simp only [List.getElem?_toArray, List.getElem?_cons_succ, List.getElem?_cons_zero]; rfl)
            case zhg150_6 => (simp only [List.getElem?_toArray, List.getElem?_cons_succ, List.getElem?_cons_zero]; rfl)
            case zhg150_7 => (simp only [List.getElem?_toArray, List.getElem?_cons_succ, List.getElem?_cons_zero]; rfl)
            ·
             intro K hK
             rw [if_pos (by kernel_rfl)]
             go_simp
             refine hK _ _ ?_
             try simp only [Act.put, List.setIfInBounds_toArray, List.set_cons_zero, List.set_cons_succ]
             clear hK
             clear K
             refine wpAnyIn_ready (rs := [6, 7]) (by kernel_rfl) (by simp) ?_
             refine AllReadyIn.cons (o := ?zog151_6) ?zhg151_6 ?zkg151_6 (AllReadyIn.cons (o := ?zog151_7) ?zhg151_7 ?zkg151_7 AllReadyIn.nil)
             case zhg151_6 => (simp only [List.getElem?_toArray, List.getElem?_cons_succ, List.getElem?_cons_zero]; rfl)
             case zhg151_7 => (simp only [List.getElem?_toArray, List.getElem?_cons_succ, List.getElem?_cons_zero]; rfl)
             ·
              intro K hK
              rw [if_pos (by kernel_rfl)]
              go_simp
              refine hK _ _ ?_
              try simp only [Act.put, List.setIfInBounds_toArray, List.set_cons_zero, List.set_cons_succ]
              clear hK
              clear K
              refine wpAnyIn_ready (rs := [7]) (by kernel_rfl) (by simp) ?_
              refine AllReadyIn.cons (o := ?zog152_7) ?zhg152_7 ?zkg152_7 AllReadyIn.nil
              case zhg152_7 => (simp only [List.getElem?_toArray, List.getElem?_cons_succ, List.getElem?_cons_zero]; rfl)
              ·
               intro K hK
               rw [if_pos (by kernel_rfl)]
               go_simp
               refine hK _ _ ?_
               try simp only [Act.put, List.setIfInBounds_toArray, List.set_cons_zero, List.set_cons_succ]
               clear hK
               clear K
               refine wpAnyIn_ready (rs := [8]) (by kernel_rfl) (by simp) ?_
               refine AllReadyIn.cons (o := ?zog153_8) ?zhg153_8 ?zkg153_8 AllReadyIn.nil
               case zhg153_8 => (simp only [List.getElem?_toArray, List.getElem?_cons_succ, List.getElem?_cons_zero]; rfl)
               ·
                intro K hK
                rw [if_pos (by kernel_rfl)]
                go_simp
                refine hK _ _ ?_
                try simp only [Act.put, List.setIfInBounds_toArray, List.set_cons_zero, List.set_cons_succ]
                clear hK
                clear K
                refine wpAnyIn_ready (rs := [9]) (by kernel_rfl) (by simp) ?_
                refine AllReadyIn.cons (o := ?zog154_9) ?zhg154_9 ?zkg154_9 AllReadyIn.nil
                case zhg154_9 => (simp only [List.getElem?_toArray, List.getElem?_cons_succ, List.getElem?_cons_zero]; rfl)
                ·
                 intro K hK
                 rw [if_pos (by kernel_rfl)]
                 go_simp
                 refine hK _ _ ?_
                 try simp only [Act.put, List.setIfInBounds_toArray, List.set_cons_zero, List.set_cons_succ]
                 clear hK
                 clear K
                 exact hcut
             ·
              intro K hK
              rw [if_pos (by kernel_rfl)]
              go_simp
              refine hK _ _ ?_
              try simp only [Act.put, List.setIfInBounds_toArray, List.set_cons_zero, List.set_cons_succ]
              clear hK
              clear K
              refine wpAnyIn_ready (rs := [6]) (by kernel_rfl) (by simp) ?_
              refine AllReadyIn.cons (o := ?zog155_6) ?zhg155_6 ?zkg155_6 AllReadyIn.nil
              case zhg155_6 => (simp only [List.getElem?_toArray, List.getElem?_cons_succ, List.getElem?_cons_zero]; rfl)
              ·
               intro K hK
               rw [if_pos (by kernel_rfl)]
               go_simp
               refine hK _ _ ?_
               try simp only [Act.put, List.setIfInBounds_toArray, List.set_cons_zero, List.set_cons_succ]
               clear hK
               clear K
               refine wpAnyIn_ready (rs := [8]) (by kernel_rfl) (by simp) ?_
               refine AllReadyIn.cons (o := ?zog156_8) ?zhg156_8 ?zkg156_8 AllReadyIn.nil
               case zhg156_8 => (simp only [List.getElem?_toArray, List.getElem?_cons_succ, List.getElem?_cons_zero]; rfl)
               ·
                intro K hK
                rw [if_pos (by kernel_rfl)]
                go_simp
                refine hK _ _ ?_
                try simp only [Act.put, List.setIfInBounds_toArray, List.set_cons_zero, List.set_cons_succ]
                clear hK
                clear K
                refine wpAnyIn_ready (rs := [9]) (by kernel_rfl) (by simp) ?_
                refine AllReadyIn.cons (o := ?zog157_9) ?zhg157_9 ?zkg157_9 AllReadyIn.nil
                case zhg157_9 => (simp only [List.getElem?_toArray, List.getElem?_cons_succ, List.getElem?_cons_zero]; rfl)
                ·
                 intro K hK
                 rw [if_pos (by kernel_rfl)]
                 go_simp
                 refine hK _ _ ?_
                 try simp only [Act.put, List.setIfInBounds_toArray, List.set_cons_zero, List.set_cons_succ]
                 clear hK
                 clear K
                 exact hcut
            ·
             intro K hK
             rw [if_pos (by kernel_rfl)]
             go_simp
             refine hK _ _ ?_
             try simp only [Act.put, List.setIfInBounds_toArray, List.set_cons_zero, List.set_cons_succ]
             clear hK
             clear K
             refine wpAnyIn_ready (rs := [5, 7]) (by kernel_rfl) (by simp) ?_
             refine AllReadyIn.cons (o := ?zog158_5) ?zhg158_5 ?zkg158_5 (AllReadyIn.cons (o := ?zog158_7) ?zhg158_7 ?zkg158_7 AllReadyIn.nil)
             case zhg158_5 => (simp only [List.getElem?_toArray, List.getElem?_cons_succ, List.getElem?_cons_zero]; rfl)
             case zhg158_7 => (simp only [List.getElem?_toArray, List.getElem?_cons_succ, List.getElem?_cons_zero]; rfl)
             ·
              intro K hK
              rw [if_pos (by kernel_rfl)]
              go_simp
              refine hK _ _ ?_
              try simp only [Act.put, List.setIfInBounds_toArray, List.set_cons_zero, List.set_cons_succ]
              clear hK
              clear K
              refine wpAnyIn_ready (rs := [7]) (by kernel_rfl) (by simp) ?_
              refine AllReadyIn.cons (o := ?zog159_7) ?zhg159_7 ?zkg159_7 AllReadyIn.nil
              case zhg159_7 => (simp only [List.getElem?_toArray, List.getElem?_cons_succ, List.getElem?_cons_zero]; rfl)
              ·
               intro K hK
               rw [if_pos (by kernel_rfl)]
               go_simp
               refine hK _ _ ?_
               try simp only [Act.put, List.setIfInBounds_toArray, List.set_cons_zero, List.set_cons_succ]
               clear hK
               clear K
               refine wpAnyIn_ready (rs := [8]) (by kernel_rfl) (by simp) ?_
               refine AllReadyIn.cons (o := ?zog160_8) ?zhg160_8 ?zkg160_8 AllReadyIn.nil
               case zhg160_8 => (simp only [List.getElem?_toArray, List.getElem?_cons_succ, List.getElem?_cons_zero]; rfl)
               ·
                intro K hK
                rw [if_pos (by kernel_rfl)]
                go_simp
                refine hK _ _ ?_
                try simp only [Act.put, List.setIfInBounds_toArray, List.set_cons_zero, List.set_cons_succ]
                clear hK
                clear K
                refine wpAnyIn_ready (rs := [9]) (by kernel_rfl) (by simp) ?_
                refine AllReadyIn.cons (o := ?zog161_9) ?zhg161_9 ?zkg161_9 AllReadyIn.nil
                case zhg161_9 => (simp only [List.getElem?_toArray, List.getElem?_cons_succ, List.getElem?_cons_zero]; rfl)
                ·
                 intro K hK
                 rw [if_pos (by kernel_rfl)]
                 go_simp
                 refine hK _ _ ?_
                 try simp only [Act.put, List.setIfInBounds_toArray, List.set_cons_zero, List.set_cons_succ]
                 clear hK
                 clear K
                 exact hcut
             ·
              intro K hK
              rw [if_pos (by kernel_rfl)]
              go_simp
              refine hK _ _ ?_
              try simp only [Act.put, List.setIfInBounds_toArray, List.set_cons_zero, List.set_cons_succ]
              clear hK
              clear K
              refine wpAnyIn_ready (rs := [5, 8]) (by kernel_rfl) (by simp) ?_
              refine AllReadyIn.cons (o := ?zog162_5) ?zhg162_5 ?zkg162_5 (AllReadyIn.cons (o := ?zog162_8) ?zhg162_8 ?zkg162_8 AllReadyIn.nil)
              case zhg162_5 => (simp only [List.getElem?_toArray, List.getElem?_cons_succ, List.getElem?_cons_zero]; rfl)
              case zhg162_8 => (simp only [List.getElem?_toArray, List.getElem?_cons_succ, List.getElem?_cons_zero]; rfl)
              ·
               intro K hK
               rw [if_pos (by kernel_rfl)]
               go_simp
               refine hK _ _ ?_
               try simp only [Act.put, List.setIfInBounds_toArray, List.set_cons_zero, List.set_cons_succ]
               clear hK
               clear K
               refine wpAnyIn_ready (rs := [8]) (by kernel_rfl) (by simp) ?_
               refine AllReadyIn.cons (o := ?zog163_8) ?zhg163_8 ?zkg163_8 AllReadyIn.nil
               case zhg163_8 => (simp only [List.getElem?_toArray, List.getElem?_cons_succ, List.getElem?_cons_zero]; rfl)
               ·
                intro K hK
                rw [if_pos (by kernel_rfl)]
                go_simp
                refine hK _ _ ?_
                try simp only [Act.put, List.setIfInBounds_toArray, List.set_cons_zero, List.set_cons_succ]
                clear hK
                clear K
                refine wpAnyIn_ready (rs := [9]) (by kernel_rfl) (by simp) ?_
                refine AllReadyIn.cons (o := ?zog164_9) ?zhg164_9 ?zkg164_9 AllReadyIn.nil
                case zhg164_9 => (simp only [List.getElem?_toArray, List.getElem?_cons_succ, List.getElem?_cons_zero]; rfl)
                ·
                 intro K hK
                 rw [if_pos (by kernel_rfl)]
                 go_simp
                 refine hK _ _ ?_
                 try simp only [Act.put, List.setIfInBounds_toArray, List.set_cons_zero, List.set_cons_succ]
                 clear hK
                 clear K
                 exact hcut
              ·
               intro K hK
               rw [if_pos (by kernel_rfl)]
               go_simp
               refine hK _ _ ?_
               try simp only [Act.put, List.setIfInBounds_toArray, List.set_cons_zero, List.set_cons_succ]
               clear hK
               clear K
               refine wpAnyIn_ready (rs := [5, 9]) (by kernel_rfl) (by simp) ?_
               refine AllReadyIn.cons (o := ?zog165_5) ?zhg165_5 ?zkg165_5 (AllReadyIn.cons (o := ?zog165_9) ?zhg165_9 ?zkg165_9 AllReadyIn.nil)
               case zhg165_5 => (simp only [List.getElem?_toArray, List.getElem?_cons_succ, List.getElem?_cons_zero]; rfl)
               case zhg165_9 => (simp only [List.getElem?_toArray, List.getElem?_cons_succ, List.getElem?_cons_zero]; rfl)
               ·
                intro K hK
                rw [if_pos (by kernel_rfl)]
                go_simp
                refine hK _ _ ?_
                try simp only [Act.put, List.setIfInBounds_toArray, List.set_cons_zero, List.set_cons_succ]
                clear hK
                clear K
                refine wpAnyIn_ready (rs := [9]) (by kernel_rfl) (by simp) ?_
                refine AllReadyIn.cons (o := ?zog166_9) ?zhg166_9 ?zkg166_9 AllReadyIn.nil
                case zhg166_9 => (simp only [List.getElem?_toArray, List.getElem?_cons_succ, List.getElem?_cons_zero]; rfl)
                ·
                 intro K hK
                 rw [if_pos (by kernel_rfl)]
                 go_simp
                 refine hK _ _ ?_
                 try simp only [Act.put, List.setIfInBounds_toArray, List.set_cons_zero, List.set_cons_succ]
                 clear hK
                 clear K
                 exact hcut
               ·
                intro K hK
                rw [if_pos (by kernel_rfl)]
                go_simp
                refine hK _ _ ?_
                try simp only [Act.put, List.setIfInBounds_toArray, List.set_cons_zero, List.set_cons_succ]
                clear hK
                clear K
                refine wpAnyIn_ready (rs := [5]) (by kernel_rfl) (by simp) ?_
                refine AllReadyIn.cons (o := ?zog167_5) ?zhg167_5 ?zkg167_5 AllReadyIn.nil
                case zhg167_5 => (simp only [List.getElem?_toArray, List.getElem?_cons_succ, List.getElem?_cons_zero]; rfl)
                ·
                 intro K hK
                 rw [if_pos (by kernel_rfl)]
                 go_simp
                 refine hK _ _ ?_
                 try simp only [Act.put, List.setIfInBounds_toArray, List.set_cons_zero, List.set_cons_succ]
                 clear hK
                 clear K
                 exact hcut
            ·
             intro K hK
             rw [if_pos (by kernel_rfl)]
             go_simp
             refine hK _ _ ?_
             try simp only [Act.put, List.setIfInBounds_toArray, List.set_cons_zero, List.set_cons_succ]
             clear hK
             clear K
             refine wpAnyIn_ready (rs := [5, 6]) (by kernel_rfl) (by simp) ?_
             refine AllReadyIn.cons (o := ?zog168_5) ?zhg168_5 ?zkg168_5 (AllReadyIn.cons (o := ?zog168_6) ?zhg168_6 ?zkg168_6 AllReadyIn.nil)
             case zhg168_5 => (simp only [List.getElem?_toArray, List.getElem?_cons_succ, List.getElem?_cons_zero]; rfl)
             case zhg168_6 => (simp only [List.getElem?_toArray, List.getElem?_cons_succ, List.getElem?_cons_zero]; rfl)
             ·
              intro K hK
              rw [if_pos (by kernel_rfl)]
              go_simp
              refine hK _ _ ?_
              try simp only [Act.put, List.setIfInBounds_toArray, List.set_cons_zero, List.set_cons_succ]
              clear hK
              clear K
              refine wpAnyIn_ready (rs := [6]) (by kernel_rfl) (by simp) ?_
              refine AllReadyIn.cons (o := ?zog169_6) ?zhg169_6 ?zkg169_6 AllReadyIn.nil
              case zhg169_6 => (simp only [List.getElem?_toArray, List.getElem?_cons_succ, List.getElem?_cons_zero]; rfl)
              ·
               intro K hK
               rw [if_pos (by kernel_rfl)]
               go_simp
               refine hK _ _ ?_
               try simp only [Act.put, List.setIfInBounds_toArray, List.set_cons_zero, List.set_cons_succ]
               clear hK
               clear K
               refine wpAnyIn_ready (rs := [8]) (by kernel_rfl) (by simp) ?_
               refine AllReadyIn.cons (o := ?zog170_8) ?zhg170_8 ?zkg170_8 AllReadyIn.nil
               case zhg170_8 => (simp only [List.getElem?_toArray, List.getElem?_cons_succ, List.getElem?_cons_zero]; rfl)
               ·
                intro K hK
                rw [if_pos (by kernel_rfl)]
                go_simp
                refine hK _ _ ?_
                try simp only [Act.put, List.setIfInBounds_toArray, List.set_cons_zero, List.set_cons_succ]
                clear hK
                clear K
                refine wpAnyIn_ready (rs := [9]) (by kernel_rfl) (by simp) ?_
                refine AllReadyIn.cons (o := ?zog171_9) ?zhg171_9 ?zkg171_9 AllReadyIn.nil
                case zhg171_9 => (simp only [List.getElem?_toArray, List.getElem?_cons_succ, List.getElem?_cons_zero]; rfl)
                ·
                 intro K hK
                 rw [if_pos (by kernel_rfl)]
                 go_simp
                 refine hK _ _ ?_
                 try simp only [Act.put, List.setIfInBounds_toArray, List.set_cons_zero, List.set_cons_succ]
                 clear hK
                 clear K
                 exact hcut
             ·
              intro K hK
              rw [if_pos (by kernel_rfl)]
              go_simp
              refine hK _ _ ?_
              try simp only [Act.put, List.setIfInBounds_toArray, List.set_cons_zero, List.set_cons_succ]
              clear hK
              clear K
              refine wpAnyIn_ready (rs := [5, 8]) (by kernel_rfl) (by simp) ?_
              refine AllReadyIn.cons (o := ?zog172_5) ?zhg172_5 ?zkg172_5 (AllReadyIn.cons (o := ?zog172_8) ?zhg172_8 ?zkg172_8 AllReadyIn.nil)
              case zhg172_5 => (simp only [List.getElem?_toArray, List.getElem?_cons_succ, List.getElem?_cons_zero]; rfl)
              case zhg172_8 => (simp only [List.getElem?_toArray, List.getElem?_cons_succ, List.getElem?_cons_zero]; rfl)
              ·
               intro K hK
               rw [if_pos (by kernel_rfl)]
               go_simp
               refine hK _ _ ?_
               try simp only [Act.put, List.setIfInBounds_toArray, List.set_cons_zero, List.set_cons_succ]
               clear hK
               clear K
               refine wpAnyIn_ready (rs := [8]) (by kernel_rfl) (by simp) ?_
               refine AllReadyIn.cons (o := ?zog173_8) ?zhg173_8 ?zkg173_8 AllReadyIn.nil
               case zhg173_8 => (simp only [List.getElem?_toArray, List.getElem?_cons_succ, List.getElem?_cons_zero]; rfl)
               ·
                intro K hK
                rw [if_pos (by kernel_rfl)]
                go_simp
                refine hK _ _ ?_
                try simp only [Act.put, List.setIfInBounds_toArray, List.set_cons_zero, List.set_cons_succ]
                clear hK
                clear K
                refine wpAnyIn_ready (rs := [9]) (by kernel_rfl) (by simp) ?_
                refine AllReadyIn.cons (o := ?zog174_9) ?zhg174_9 ?zkg174_9 AllReadyIn.nil
                case zhg174_9 => (simp only [List.getElem?_toArray, List.getElem?_cons_succ, List.getElem?_cons_zero]; rfl)
                ·
                 intro K hK
                 rw [if_pos (by kernel_rfl)]
                 go_simp
                 refine hK _ _ ?_
                 try simp only [Act.put, List.setIfInBounds_toArray, List.set_cons_zero, List.set_cons_succ]
                 clear hK
                 clear K
                 exact hcut
              ·
               intro K hK
               rw [if_pos (by kernel_rfl)]
               go_simp
               refine hK _ _ ?_
               try simp only [Act.put, List.setIfInBounds_toArray, List.set_cons_zero, List.set_cons_succ]
               clear hK
               clear K
               refine wpAnyIn_ready (rs := [5, 9]) (by kernel_rfl) (by simp) ?_
               refine AllReadyIn.cons (o := ?zog175_5) ?zhg175_5 ?zkg175_5 (AllReadyIn.cons (o := ?zog175_9) ?zhg175_9 ?zkg175_9 AllReadyIn.nil)
               case zhg175_5 => (simp only [List.getElem?_toArray, List.getElem?_cons_succ, List.getElem?_cons_zero]; rfl)
               case zhg175_9 => (simp only [List.getElem?_toArray, List.getElem?_cons_succ, List.getElem?_cons_zero]; rfl)
               ·
                intro K hK
                rw [if_pos (by kernel_rfl)]
                go_simp
                refine hK _ _ ?_
                try simp only [Act.put, List.setIfInBounds_toArray, List.set_cons_zero, List.set_cons_succ]
                clear hK
                clear K
                refine wpAnyIn_ready (rs := [9]) (by kernel_rfl) (by simp) ?_
                refine AllReadyIn.cons (o := ?zog176_9) ?zhg176_9 ?zkg176_9 AllReadyIn.nil
                case zhg176_9 => (simp only [List.getElem?_toArray, List.getElem?_cons_succ, List.getElem?_cons_zero]; rfl)
                ·
                 intro K hK
                 rw [if_pos (by kernel_rfl)]
                 go_simp
                 refine hK _ _ ?_
                 try simp only [Act.put, List.setIfInBounds_toArray, List.set_cons_zero, List.set_cons_succ]
                 clear hK
                 clear K
                 exact hcut
               ·
                intro K hK
                rw [if_pos (by kernel_rfl)]
                go_simp
                refine hK _ _ ?_
                try simp only [Act.put, List.setIfInBounds_toArray, List.set_cons_zero, List.set_cons_succ]
                clear hK
                clear K
                refine wpAnyIn_ready (rs := [5]) (by kernel_rfl) (by simp) ?_
                refine AllReadyIn.cons (o := ?zog177_5) ?zhg177_5 ?zkg177_5 AllReadyIn.nil
                case zhg177_5 => (simp only [List.getElem?_toArray, List.getElem?_cons_succ, List.getElem?_cons_zero]; rfl)
                ·
                 intro K hK
                 rw [if_pos (by kernel_rfl)]
                 go_simp
                 refine hK _ _ ?_
                 try simp only [Act.put, List.setIfInBounds_toArray, List.set_cons_zero, List.set_cons_succ]
                 clear hK
                 clear K
                 exact hcut
           case restBq141 =>
            refine wpAnyIn_ready (rs := [10]) (by kernel_rfl) (by simp) ?_
            refine AllReadyIn.cons (o := ?zog178_10) ?zhg178_10 ?zkg178_10 AllReadyIn.nil
            case zhg178_10 => (simp only [List.getElem?_toArray, List.getElem?_cons_succ, List.getElem?_cons_zero]; rfl)
            ·
             intro K hK
             rw [if_pos (by kernel_rfl)]
             go_simp
             refine hK _ _ ?_
             try simp only [Act.put, List.setIfInBounds_toArray, List.set_cons_zero, List.set_cons_succ]
             clear hK
             clear K
             refine wpAnyIn_ready (rs := [11]) (by kernel_rfl) (by simp) ?_
             refine AllReadyIn.cons (o := ?zog179_11) ?zhg179_11 ?zkg179_11 AllReadyIn.nil
             case zhg179_11 => (simp only [List.getElem?_toArray, List.getElem?_cons_succ, List.getElem?_cons_zero]; rfl)
             ·
              intro K hK
              rw [if_pos (by kernel_rfl)]
              go_simp
              refine hK _ _ ?_
              try simp only [Act.put, List.setIfInBounds_toArray, List.set_cons_zero, List.set_cons_succ]
              clear hK
              clear K
              refine wpAnyIn_done (by kernel_rfl) ?_ _
              gi_wp2
              exact HFAIL.out HNE.out
      ·
       have HNE : Hid (pl <+: LB → False) := Lib.hid (fun h => by have := (HPRE.out h).1; rw [← HNB.out] at this; omega)
       have hjd : decide ((nB : Int) ≤ (j : Int)) = true := by simp; omega
       have hjd2 : nB ≤ j := by omega
       have hjd3 : decide (nB ≤ j) = true := decide_eq_true hjd2
       clear nP HPRE nX nC nS
       gi_wp2
       refine wpIn_region_any (by kernel_rfl) ?_
       change wpAnyIn _ _ _ _ _ _ _ _ _ (World.drew W)
       refine cutA (A := ?pAq219) (fun hcut => ?pathsq219) ?restq219
       case pathsq219 =>
        refine wpAnyIn_ready (rs := [0, 1]) (by kernel_rfl) (by simp) ?_
        refine AllReadyIn.cons (o := ?zog220_0) ?zhg220_0 ?zkg220_0 (AllReadyIn.cons (o := ?zog220_1) ?zhg220_1 ?zkg220_1 AllReadyIn.nil)
        case zhg220_0 => (simp only [List.getElem?_toArray, List.getElem?_cons_succ, List.getElem?_cons_zero]; rfl)
        case zhg220_1 => (simp only [List.getElem?_toArray, List.getElem?_cons_succ, List.getElem?_cons_zero]; rfl)
        ·
         intro K hK
         rw [if_pos (by kernel_rfl)]
         go_simp
         refine hK _ _ ?_
         try simp only [Act.put, List.setIfInBounds_toArray, List.set_cons_zero, List.set_cons_succ]
         clear hK
         clear K
         refine wpAnyIn_ready (rs := [1]) (by kernel_rfl) (by simp) ?_
         refine AllReadyIn.cons (o := ?zog221_1) ?zhg221_1 ?zkg221_1 AllReadyIn.nil
         case zhg221_1 => (simp only [List.getElem?_toArray, List.getElem?_cons_succ, List.getElem?_cons_zero]; rfl)
         ·
          intro K hK
          rw [if_pos (by kernel_rfl)]
          go_simp
          refine hK _ _ ?_
          try simp only [Act.put, List.setIfInBounds_toArray, List.set_cons_zero, List.set_cons_succ]
          clear hK
          clear K
          refine wpAnyIn_ready (rs := [2]) (by kernel_rfl) (by simp) ?_
          refine AllReadyIn.cons (o := ?zog222_2) ?zhg222_2 ?zkg222_2 AllReadyIn.nil
          case zhg222_2 => (simp only [List.getElem?_toArray, List.getElem?_cons_succ, List.getElem?_cons_zero]; rfl)
          ·
           intro K hK
           rw [if_pos (by kernel_rfl)]
           go_simp
           refine hK _ _ ?_
           try simp only [Act.put, List.setIfInBounds_toArray, List.set_cons_zero, List.set_cons_succ]
           clear hK
           clear K
           exact hcut
        ·
         intro K hK
         rw [if_pos (by kernel_rfl)]
         go_simp
         refine hK _ _ ?_
         try simp only [Act.put, List.setIfInBounds_toArray, List.set_cons_zero, List.set_cons_succ]
         clear hK
         clear K
         refine wpAnyIn_ready (rs := [0, 2]) (by kernel_rfl) (by simp) ?_
         refine AllReadyIn.cons (o := ?zog223_0) ?zhg223_0 ?zkg223_0 (AllReadyIn.cons (o := ?zog223_2) ?zhg223_2 ?zkg223_2 AllReadyIn.nil)
         case zhg223_0 => (simp only [List.getElem?_toArray, List.getElem?_cons_succ, List.getElem?_cons_zero]; rfl)
         case zhg223_2 => (simp only [List.getElem?_toArray, List.getElem?_cons_succ, List.getElem?_cons_zero]; rfl)
         ·
          intro K hK
          rw [if_pos (by kernel_rfl)]
          go_simp
          refine hK _ _ ?_
          try simp only [Act.put, List.setIfInBounds_toArray, List.set_cons_zero, List.set_cons_succ]
          clear hK
          clear K
          refine wpAnyIn_ready (rs := [2]) (by kernel_rfl) (by simp) ?_
          refine AllReadyIn.cons (o := ?zog224_2) ?zhg224_2 ?zkg224_2 AllReadyIn.nil
          case zhg224_2 => (simp only [List.getElem?_toArray, List.getElem?_cons_succ, List.getElem?_cons_zero]; rfl)
          ·
           intro K hK
           rw [if_pos (by kernel_rfl)]
           go_simp
           refine hK _ _ ?_
           try simp only [Act.put, List.setIfInBounds_toArray, List.set_cons_zero, List.set_cons_succ]
           clear hK
           clear K
           exact hcut
         ·
          intro K hK
          rw [if_pos (by kernel_rfl)]
          go_simp
          refine hK _ _ ?_
          try simp only [Act.put, List.setIfInBounds_toArray, List.set_cons_zero, List.set_cons_succ]
          clear hK
          clear K
          refine wpAnyIn_ready (rs := [0]) (by kernel_rfl) (by simp) ?_
          refine AllReadyIn.cons (o := ?zog225_0) ?zhg225_0 ?zkg225_0 AllReadyIn.nil
          case zhg225_0 => (simp only [List.getElem?_toArray, List.getElem?_cons_succ, List.getElem?_cons_zero]; rfl)
          ·
           intro K hK
           rw [if_pos (by kernel_rfl)]
           go_simp
           refine hK _ _ ?_
           try simp only [Act.put, List.setIfInBounds_toArray, List.set_cons_zero, List.set_cons_succ]
           clear hK
           clear K
           exact hcut
       case restq219 =>
        refine wpAnyIn_ready (rs := [3]) (by kernel_rfl) (by simp) ?_
        refine AllReadyIn.cons (o := ?zog226_3) ?zhg226_3 ?zkg226_3 AllReadyIn.nil
        case zhg226_3 => (simp only [List.getElem?_toArray, List.getElem?_cons_succ, List.getElem?_cons_zero]; rfl)
        ·
         intro K hK
         rw [if_pos (by kernel_rfl)]
         go_simp
         refine hK _ _ ?_
         try simp only [Act.put, List.setIfInBounds_toArray, List.set_cons_zero, List.set_cons_succ]
         clear hK
         clear K
         refine wpAnyIn_ready (rs := [4]) (by kernel_rfl) (by simp) ?_
         refine AllReadyIn.cons (o := ?zog227_4) ?zhg227_4 ?zkg227_4 AllReadyIn.nil
         case zhg227_4 => (simp only [List.getElem?_toArray, List.getElem?_cons_succ, List.getElem?_cons_zero]; rfl)
         ·
          intro K hK
          rw [if_pos (by kernel_rfl)]
          go_simp
          refine hK _ _ ?_
          try simp only [Act.put, List.setIfInBounds_toArray, List.set_cons_zero, List.set_cons_succ]
          clear hK
          clear K
          refine cutA (A := ?pBq219) (fun hcut => ?pathsBq219) ?restBq219
          case pathsBq219 =>
           refine wpAnyIn_ready (rs := [5, 6, 7]) (by kernel_rfl) (by simp) ?_
           refine AllReadyIn.cons (o := ?zog228_5) ?zhg228_5 ?zkg228_5 (AllReadyIn.cons (o := ?zog228_6) ?zhg228_6 ?zkg228_6 (AllReadyIn.cons (o := ?zog228_7) ?zhg228_7 ?zkg228_7 AllReadyIn.nil))
           case zhg228_5 => (simp only [List.getElem?_toArray, List.getElem?_cons_succ, List.getElem?_cons_zero]; rfl)
           case zhg228_6 => (simp only [List.getElem?_toArray, List.getElem?_cons_succ, List.getElem?_cons_zero]; rfl)
           case zhg228_7 => (simp only [List.getElem?_toArray, List.getElem?_cons_succ, List.getElem?_cons_zero]; rfl)
           ·
            intro K hK
            rw [if_neg (by rw [show Region.wanted _ _ = false by kernel_rfl]; exact Bool.false_ne_true)]
            refine ⟨fun _ _ => trivial, hK _ _ ?_⟩
            try simp only [Act.put, List.setIfInBounds_toArray, List.set_cons_zero, List.set_cons_succ]
            clear hK
            clear K
            refine wpAnyIn_ready (rs := [6, 7]) (by kernel_rfl) (by simp) ?_
            refine AllReadyIn.cons (o := ?zog229_6) ?zhg229_6 ?zkg229_6 (AllReadyIn.cons (o := ?zog229_7) ?zhg229_7 ?zkg229_7 AllReadyIn.nil)
            case zhg229_6 => (simp only [List.getElem?_toArray, List.getElem?_cons_succ, List.getElem?_cons_zero]; rfl)
            case zhg229_7 => (simp only [List.getElem?_toArray, List.getElem?_cons_succ, List.getElem?_cons_zero]; rfl)
            ·
             intro K hK
             rw [if_neg (by rw [show Region.wanted _ _ = false by kernel_rfl]; exact Bool.false_ne_true)]
             refine ⟨fun _ _ => trivial, hK _ _ ?_⟩
             try simp only [Act.put, List.setIfInBounds_toArray, List.set_cons_zero, List.set_cons_succ]
             clear hK
             clear K
             refine wpAnyIn_ready (rs := [7]) (by kernel_rfl) (by simp) ?_
             refine AllReadyIn.cons (o := ?zog230_7) ?zhg230_7 ?zkg230_7 AllReadyIn.nil
             case zhg230_7 => (simp only [List.getElem?_toArray, List.getElem?_cons_succ, List.getElem?_cons_zero]; rfl)
             ·
              intro K hK
              rw [if_neg (by rw [show Region.wanted _ _ = false by kernel_rfl]; exact Bool.false_ne_true)]
              refine ⟨fun _ _ => trivial, hK _ _ ?_⟩
              try simp only [Act.put, List.setIfInBounds_toArray, List.set_cons_zero, List.set_cons_succ]
              clear hK
              clear K
              refine wpAnyIn_ready (rs := [8]) (by kernel_rfl) (by simp) ?_
              refine AllReadyIn.cons (o := ?zog231_8) ?zhg231_8 ?zkg231_8 AllReadyIn.nil
              case zhg231_8 => (simp only [List.getElem?_toArray, List.getElem?_cons_succ, List.getElem?_cons_zero]; rfl)
              ·
               intro K hK
               rw [if_neg (by rw [show Region.wanted _ _ = false by kernel_rfl]; exact Bool.false_ne_true)]
               refine ⟨fun _ _ => trivial, hK _ _ ?_⟩
               try simp only [Act.put, List.setIfInBounds_toArray, List.set_cons_zero, List.set_cons_succ]
               clear hK
               clear K
               refine wpAnyIn_ready (rs := [9]) (by kernel_rfl) (by simp) ?_
               refine AllReadyIn.cons (o := ?zog232_9) ?zhg232_9 ?zkg232_9 AllReadyIn.nil
               case zhg232_9 => (simp only [List.getElem?_toArray, List.getElem?_cons_succ, List.getElem?_cons_zero]; rfl)
               ·
                intro K hK
                rw [if_neg (by rw [show Region.wanted _ _ = false by kernel_rfl]; exact Bool.false_ne_true)]
                refine ⟨fun _ _ => trivial, hK _ _ ?_⟩
                try simp only [Act.put, List.setIfInBounds_toArray, List.set_cons_zero, List.set_cons_succ]
                clear hK
                clear K
                exact hcut
            ·
             intro K hK
             rw [if_neg (by rw [show Region.wanted _ _ = false by kernel_rfl]; exact Bool.false_ne_true)]
             refine ⟨fun _ _ => trivial, hK _ _ ?_⟩
             try simp only [Act.put, List.setIfInBounds_toArray, List.set_cons_zero, List.set_cons_succ]
             clear hK
             clear K
             refine wpAnyIn_ready (rs := [6]) (by kernel_rfl) (by simp) ?_
             refine AllReadyIn.cons (o := ?zog233_6) ?zhg233_6 ?zkg233_6 AllReadyIn.nil
             case zhg233_6 => (simp only [List.getElem?_toArray, List.getElem?_cons_succ, List.getElem?_cons_zero]; rfl)
             ·
              intro K hK
              rw [if_neg (by rw [show Region.wanted _ _ = false by kernel_rfl]; exact Bool.false_ne_true)]
              refine ⟨fun _ _ => trivial, hK _ _ ?_⟩
              try simp only [Act.put, List.setIfInBounds_toArray, List.set_cons_zero, List.set_cons_succ]
              clear hK
              clear K
              refine wpAnyIn_ready (rs := [8]) (by kernel_rfl) (by simp) ?_
              refine AllReadyIn.cons (o := ?zog234_8) ?zhg234_8 ?zkg234_8 AllReadyIn.nil
              case zhg234_8 => (simp only [List.getElem?_toArray, List.getElem?_cons_succ, List.getElem?_cons_zero]; rfl)
              ·
               intro K hK
               rw [if_neg (by rw [show Region.wanted _ _ = false by kernel_rfl]; exact Bool.false_ne_true)]
               refine ⟨fun _ _ => trivial, hK _ _ ?_⟩
               try simp only [Act.put, List.setIfInBounds_toArray, List.set_cons_zero, List.set_cons_succ]
               clear hK
               clear K
               refine wpAnyIn_ready (rs := [9]) (by kernel_rfl) (by simp) ?_
               refine AllReadyIn.cons (o := ?zog235_9) ?zhg235_9 ?zkg235_9 AllReadyIn.nil
               case zhg235_9 => (simp only [List.getElem?_toArray, List.getElem?_cons_succ, List.getElem?_cons_zero]; rfl)
               ·
                intro K hK
                rw [if_neg (by rw [show Region.wanted _ _ = false by kernel_rfl]; exact Bool.false_ne_true)]
                refine ⟨fun _ _ => trivial, hK _ _ ?_⟩
                try simp only [Act.put, List.setIfInBounds_toArray, List.set_cons_zero, List.set_cons_succ]
                clear hK
                clear K
                exact hcut
           ·
            intro K hK
            rw [if_neg (by rw [show Region.wanted _ _ = false by kernel_rfl]; exact Bool.false_ne_true)]
            refine ⟨fun _ _ => trivial, hK _ _ ?_⟩
            try simp only [Act.put, List.setIfInBounds_toArray, List.set_cons_zero, List.set_cons_succ]
            clear hK
            clear K
            refine wpAnyIn_ready (rs := [5, 7]) (by kernel_rfl) (by simp) ?_
            refine AllReadyIn.cons (o := ?zog236_5) ?zhg236_5 ?zkg236_5 (AllReadyIn.cons (o := ?zog236_7) ?zhg236_7 ?zkg236_7 AllReadyIn.nil)
            case zhg236_5 => (simp only [List.getElem?_toArray, List.getElem?_cons_succ, List.getElem?_cons_zero]; rfl)
            case zhg236_7 => (simp only [List.getElem?_toArray, List.getElem?_cons_succ, List.getElem?_cons_zero]; rfl)
            ·
             intro K hK
             rw [if_neg (by rw [show Region.wanted _ _ = false by kernel_rfl]; exact Bool.false_ne_true)]
             refine ⟨fun _ _ => trivial, hK _ _ ?_⟩
             try simp only [Act.put, List.setIfInBounds_toArray, List.set_cons_zero, List.set_cons_succ]
             clear hK
             clear K
             refine wpAnyIn_ready (rs := [7]) (by kernel_rfl) (by simp) ?_
             refine AllReadyIn.cons (o := ?zog237_7) ?zhg237_7 ?zkg237_7 AllReadyIn.nil
             case zhg237_7 => (simp only [List.getElem?_toArray, List.getElem?_cons_succ, List.getElem?_cons_zero]; rfl)
             ·
              intro K hK
              rw [if_neg (by rw [show Region.wanted _ _ = false by kernel_rfl]; exact Bool.false_ne_true)]
              refine ⟨fun _ _ => trivial, hK _ _ ?_⟩
              try simp only [Act.put, List.setIfInBounds_toArray, List.set_cons_zero, List.set_cons_succ]
              clear hK
              clear K
              refine wpAnyIn_ready (rs := [8]) (by kernel_rfl) (by simp) ?_
              refine AllReadyIn.cons (o := ?zog238_8) ?zhg238_8 ?zkg238_8 AllReadyIn.nil
              case zhg238_8 => (simp only [List.getElem?_toArray, List.getElem?_cons_succ, List.getElem?_cons_zero]; rfl)
              ·
               intro K hK
               rw [if_neg (by rw [show Region.wanted _ _ = false by kernel_rfl]; exact Bool.false_ne_true)]
               refine ⟨fun _ _ => trivial, hK _ _ ?_⟩
               try simp only [Act.put, List.setIfInBounds_toArray, List.set_cons_zero, List.set_cons_succ]
               clear hK
               clear K
               refine wpAnyIn_ready (rs := [9]) (by kernel_rfl) (by simp) ?_
               refine AllReadyIn.cons (o := ?zog239_9) ?zhg239_9 ?zkg239_9 AllReadyIn.nil
               case zhg239_9 => (simp only [List.getElem?_toArray, List.getElem?_cons_succ, List.getElem?_cons_zero]; rfl)
               ·
                intro K hK
                rw [if_neg (by rw [show Region.wanted _ _ = false by kernel_rfl]; exact Bool.false_ne_true)]
                refine ⟨fun _ _ => trivial, hK _ _ ?_⟩
                try simp only [Act.put, List.setIfInBounds_toArray, List.set_cons_zero, List.set_cons_succ]
                clear hK
                clear K
                exact hcut
            ·
             intro K hK
             rw [if_neg (by rw [show Region.wanted _ _ = false by kernel_rfl]; exact Bool.false_ne_true)]
             refine ⟨fun _ _ => trivial, hK _ _ ?_⟩
             try simp only [Act.put, List.setIfInBounds_toArray, List.set_cons_zero, List.set_cons_succ]
             clear hK
             clear K
             refine wpAnyIn_ready (rs := [5, 8]) (by kernel_rfl) (by simp) ?_
             refine AllReadyIn.cons (o := ?zog240_5) ?zhg240_5 ?zkg240_5 (AllReadyIn.cons (o := ?zog240_8) ?zhg240_8 ?zkg240_8 AllReadyIn.nil)
             case zhg240_5 => (simp only [List.getElem?_toArray, List.getElem?_cons_succ, List.getElem?_cons_zero]; rfl)
             case zhg240_8 => (simp only [List.getElem?_toArray, List.getElem?_cons_succ, List.getElem?_cons_zero]; rfl)
             ·
              intro K hK
              rw [if_neg (by rw [show Region.wanted _ _ = false by kernel_rfl]; exact Bool.false_ne_true)]
              refine ⟨fun _ _ => trivial, hK _ _ ?_⟩
              try simp only [Act.put, List.setIfInBounds_toArray, List.set_cons_zero, List.set_cons_succ]
              clear hK
              clear K
              refine wpAnyIn_ready (rs := [8]) (by kernel_rfl) (by simp) ?_
              refine AllReadyIn.cons (o := ?zog241_8) ?zhg241_8 ?zkg241_8 AllReadyIn.nil
              case zhg241_8 => (simp only [List.getElem?_toArray, List.getElem?_cons_succ, List.getElem?_cons_zero]; rfl)
              ·
               intro K hK
               rw [if_neg (by rw [show Region.wanted _ _ = false by kernel_rfl]; exact Bool.false_ne_true)]
               refine ⟨fun _ _ => trivial, hK _ _ ?_⟩
               try simp only [Act.put, List.setIfInBounds_toArray, List.set_cons_zero, List.set_cons_succ]
               clear hK
               clear K
               refine wpAnyIn_ready (rs := [9]) (by kernel_rfl) (by simp) ?_
               refine AllReadyIn.cons (o := ?zog242_9) ?zhg242_9 ?zkg242_9 AllReadyIn.nil
               case zhg242_9 => (simp only [List.getElem?_toArray, List.getElem?_cons_succ, List.getElem?_cons_zero]; rfl)
               ·
                intro K hK
                rw [if_neg (by rw [show Region.wanted _ _ = false by kernel_rfl]; exact Bool.false_ne_true)]
                refine ⟨fun _ _ => trivial, hK _ _ ?_⟩
                try simp only [Act.put, List.setIfInBounds_toArray, List.set_cons_zero, List.set_cons_succ]
                clear hK
                clear K
                exact hcut
             ·
              intro K hK
              rw [if_neg (by rw [show Region.wanted _ _ = false by kernel_rfl]; exact Bool.false_ne_true)]
              refine ⟨fun _ _ => trivial, hK _ _ ?_⟩
              try simp only [Act.put, List.setIfInBounds_toArray, List.set_cons_zero, List.set_cons_succ]
              clear hK
              clear K
              refine wpAnyIn_ready (rs := [5, 9]) (by kernel_rfl) (by simp) ?_
              refine AllReadyIn.cons (o := ?zog243_5) ?zhg243_5 ?zkg243_5 (AllReadyIn.cons (o := ?zog243_9) ?zhg243_9 ?zkg243_9 AllReadyIn.nil)
              case zhg243_5 => (simp only [List.getElem?_toArray, List.getElem?_cons_succ, List.getElem?_cons_zero]; rfl)
              case zhg243_9 => (simp only [List.getElem?_toArray, List.getElem?_cons_succ, List.getElem?_cons_zero]; rfl)
              ·
               intro K hK
               rw [if_neg (by rw [show Region.wanted _ _ = false by kernel_rfl]; exact Bool.false_ne_true)]
               refine ⟨fun _ _ => trivial, hK _ _ ?_⟩
               try simp only [Act.put, List.setIfInBounds_toArray, List.set_cons_zero, List.set_cons_succ]
               clear hK
               clear K
               refine wpAnyIn_ready (rs := [9]) (by kernel_rfl) (by simp) ?_
               refine AllReadyIn.cons (o := ?zog244_9) ?zhg244_9 ?zkg244_9 AllReadyIn.nil
               case zhg244_9 => (simp only [List.getElem?_toArray, List.getElem?_cons_succ, List.getElem?_cons_zero]; rfl)
               ·
                intro K hK
                rw [if_neg (by rw [show Region.wanted _ _ = false by kernel_rfl]; exact Bool.false_ne_true)]
                refine ⟨fun _ _ => trivial, hK _ _ ?_⟩
                try simp only [Act.put, List.setIfInBounds_toArray, List.set_cons_zero, List.set_cons_succ]
                clear hK
                clear K
                exact hcut
              ·
               intro K hK
               rw [if_neg (by rw [show Region.wanted _ _ = false by kernel_rfl]; exact Bool.false_ne_true)]
               refine ⟨fun _ _ => trivial, hK _ _ ?_⟩
               try simp only [Act.put, List.setIfInBounds_toArray, List.set_cons_zero, List.set_cons_succ]
               clear hK
               clear K
               refine wpAnyIn_ready (rs := [5]) (by kernel_rfl) (by simp) ?_
               refine AllReadyIn.cons (o := ?zog245_5) ?zhg245_5 ?zkg245_5 AllReadyIn.nil
               case zhg245_5 => (simp only [List.getElem?_toArray, List.getElem?_cons_succ, List.getElem?_cons_zero]; rfl)
               ·
                intro K hK
                rw [if_neg (by rw [show Region.wanted _ _ = false by kernel_rfl]; exact Bool.false_ne_true)]
                refine ⟨fun _ _ => trivial, hK _ _ ?_⟩
                try simp only [Act.put, List.setIfInBounds_toArray, List.set_cons_zero, List.set_cons_succ]
                clear hK
                clear K
                exact hcut
           ·
            intro K hK
            rw [if_neg (by rw [show Region.wanted _ _ = false by kernel_rfl]; exact Bool.false_ne_true)]
            refine ⟨fun _ _ => trivial, hK _ _ ?_⟩
            try simp only [Act.put, List.setIfInBounds_toArray, List.set_cons_zero, List.set_cons_succ]
            clear hK
            clear K
            refine wpAnyIn_ready (rs := [5, 6]) (by kernel_rfl) (by simp) ?_
            refine AllReadyIn.cons (o := ?zog246_5) ?zhg246_5 ?zkg246_5 (AllReadyIn.cons (o := ?zog246_6) ?zhg246_6 ?zkg246_6 AllReadyIn.nil)
            case zhg246_5 => (simp only [List.getElem?_toArray, List.getElem?_cons_succ, List.getElem?_cons_zero]; rfl)
            case zhg246_6 => (simp only [List.getElem?_toArray, List.getElem?_cons_succ, List.getElem?_cons_zero]; rfl)
            ·
             intro K hK
             rw [if_neg (by rw [show Region.wanted _ _ = false by kernel_rfl]; exact Bool.false_ne_true)]
             refine ⟨fun _ _ => trivial, hK _ _ ?_⟩
             try simp only [Act.put, List.setIfInBounds_toArray, List.set_cons_zero, List.set_cons_succ]
             clear hK
             clear K
             refine wpAnyIn_ready (rs := [6]) (by kernel_rfl) (by simp) ?_
             refine AllReadyIn.cons (o := ?zog247_6) ?zhg247_6 ?zkg247_6 AllReadyIn.nil
             case zhg247_6 => (simp only [List.getElem?_toArray, List.getElem?_cons_succ, List.getElem?_cons_zero]; rfl)
             ·
              intro K hK
              rw [if_neg (by rw [show Region.wanted _ _ = false by kernel_rfl]; exact Bool.false_ne_true)]
              refine ⟨fun _ _ => trivial, hK _ _ ?_⟩
              try simp only [Act.put, List.setIfInBounds_toArray, List.set_cons_zero, List.set_cons_succ]
              clear hK
              clear K
              refine wpAnyIn_ready (rs := [8]) (by kernel_rfl) (by simp) ?_
              refine AllReadyIn.cons (o := ?zog248_8) ?zhg248_8 ?zkg248_8 AllReadyIn.nil
              case zhg248_8 => (simp only [List.getElem?_toArray, List.getElem?_cons_succ, List.getElem?_cons_zero]; rfl)
              ·
               intro K hK
               rw [if_neg (by rw [show Region.wanted _ _ = false by kernel_rfl]; exact Bool.false_ne_true)]
               refine ⟨fun _ _ => trivial, hK _ _ ?_⟩
               try simp only [Act.put, List.setIfInBounds_toArray, List.set_cons_zero, List.set_cons_succ]
               clear hK
               clear K
               refine wpAnyIn_ready (rs := [9]) (by kernel_rfl) (by simp) ?_
               refine AllReadyIn.cons (o := ?zog249_9) ?zhg249_9 ?zkg249_9 AllReadyIn.nil
               case zhg249_9 => (simp only [List.getElem?_toArray, List.getElem?_cons_succ, List.getElem?_cons_zero]; rfl)
               ·
                intro K hK
                rw [if_neg (by rw [show Region.wanted _ _ = false by kernel_rfl]; exact Bool.false_ne_true)]
                refine ⟨fun _ _ => trivial, hK _ _ ?_⟩
                try simp only [Act.put, List.setIfInBounds_toArray, List.set_cons_zero, List.set_cons_succ]
                clear hK
                clear K
                exact hcut
            ·
             intro K hK
             rw [if_neg (by rw [show Region.wanted _ _ = false by kernel_rfl]; exact Bool.false_ne_true)]
             refine ⟨fun _ _ => trivial, hK _ _ ?_⟩
             try simp only [Act.put, List.setIfInBounds_toArray, List.set_cons_zero, List.set_cons_succ]
             clear hK
             clear K
             refine wpAnyIn_ready (rs := [5, 8]) (by kernel_rfl) (by simp) ?_
             refine AllReadyIn.cons (o := ?zog250_5) ?zhg250_5 ?zkg250_5 (AllReadyIn.cons (o := ?zog250_8) ?zhg250_8 ?zkg250_8 AllReadyIn.nil)
             case zhg250_5 => (simp only [List.getElem?_toArray, List.getElem?_cons_succ, List.getElem?_cons_zero]; rfl)
             case zhg250_8 => (simp only [List.getElem?_toArray, List.getElem?_cons_succ, List.getElem?_cons_zero]; rfl)
             ·
              intro K hK
              rw [if_neg (by rw [show Region.wanted _ _ = false by kernel_rfl]; exact Bool.false_ne_true)]
              refine ⟨fun _ _ => trivial, hK _ _ ?_⟩
              try simp only [Act.put, List.setIfInBounds_toArray, List.set_cons_zero, List.set_cons_succ]
              clear hK
              clear K
              refine wpAnyIn_ready (rs := [8]) (by kernel_rfl) (by simp) ?_
              refine AllReadyIn.cons (o := ?zog251_8) ?zhg251_8 ?zkg251_8 AllReadyIn.nil
              case zhg251_8 => (simp only [List.getElem?_toArray, List.getElem?_cons_succ, List.getElem?_cons_zero]; rfl)
              ·
               intro K hK
               rw [if_neg (by rw [show Region.wanted _ _ = false by kernel_rfl]; exact Bool.false_ne_true)]
               refine ⟨fun _ _ => trivial, hK _ _ ?_⟩
               try simp only [Act.put, List.setIfInBounds_toArray, List.set_cons_zero, List.set_cons_succ]
               clear hK
               clear K
               refine wpAnyIn_ready (rs := [9]) (by kernel_rfl) (by simp) ?_
               refine AllReadyIn.cons (o := ?zog252_9) ?zhg252_9 ?zkg252_9 AllReadyIn.nil
               case zhg252_9 => (simp only [List.getElem?_toArray, List.getElem?_cons_succ, List.getElem?_cons_zero]; rfl)
               ·
                intro K hK
                rw [if_neg (by rw [show Region.wanted _ _ = false by kernel_rfl]; exact Bool.false_ne_true)]
                refine ⟨fun _ _ => trivial, hK _ _ ?_⟩
                try simp only [Act.put, List.setIfInBounds_toArray, List.set_cons_zero, List.set_cons_succ]
                clear hK
                clear K
                exact hcut
             ·
              intro K hK
              rw [if_neg (by rw [show Region.wanted _ _ = false by kernel_rfl]; exact Bool.false_ne_true)]
              refine ⟨fun _ _ => trivial, hK _ _ ?_⟩
              try simp only [Act.put, List.setIfInBounds_toArray, List.set_cons_zero, List.set_cons_succ]
              clear hK
              clear K
              refine wpAnyIn_ready (rs := [5, 9]) (by kernel_rfl) (by simp) ?_
              refine AllReadyIn.cons (o := ?zog253_5) ?zhg253_5 ?zkg253_5 (AllReadyIn.cons (o := ?zog253_9) ?zhg253_9 ?zkg253_9 AllReadyIn.nil)
              case zhg253_5 => (simp only [List.getElem?_toArray, List.getElem?_cons_succ, List.getElem?_cons_zero]; rfl)
              case zhg253_9 => (simp only [List.getElem?_toArray, List.getElem?_cons_succ, List.getElem?_cons_zero]; rfl)
              ·
               intro K hK
               rw [if_neg (by rw [show Region.wanted _ _ = false by kernel_rfl]; exact Bool.false_ne_true)]
               refine ⟨fun _ _ => trivial, hK _ _ ?_⟩
               try simp only [Act.put, List.setIfInBounds_toArray, List.set_cons_zero, List.set_cons_succ]
               clear hK
               clear K
               refine wpAnyIn_ready (rs := [9]) (by kernel_rfl) (by simp) ?_
               refine AllReadyIn.cons (o := ?zog254_9) ?zhg254_9 ?zkg254_9 AllReadyIn.nil
               case zhg254_9 => (simp only [List.getElem?_toArray, List.getElem?_cons_succ, List.getElem?_cons_zero]; rfl)
               ·
                intro K hK
                rw [if_neg (by rw [show Region.wanted _ _ = false by kernel_rfl]; exact Bool.false_ne_true)]
                refine ⟨fun _ _ => trivial, hK _ _ ?_⟩
                try simp only [Act.put, List.setIfInBounds_toArray, List.set_cons_zero, List.set_cons_succ]
                clear hK
                clear K
                exact hcut
              ·
               intro K hK
               rw [if_neg (by rw [show Region.wanted _ _ = false by kernel_rfl]; exact Bool.false_ne_true)]
               refine ⟨fun _ _ => trivial, hK _ _ ?_⟩
               try simp only [Act.put, List.setIfInBounds_toArray, List.set_cons_zero, List.set_cons_succ]
               clear hK
               clear K
               refine wpAnyIn_ready (rs := [5]) (by kernel_rfl) (by simp) ?_
               refine AllReadyIn.cons (o := ?zog255_5) ?zhg255_5 ?zkg255_5 AllReadyIn.nil
               case zhg255_5 => (simp only [List.getElem?_toArray, List.getElem?_cons_succ, List.getElem?_cons_zero]; rfl)
               ·
                intro K hK
                rw [if_neg (by rw [show Region.wanted _ _ = false by kernel_rfl]; exact Bool.false_ne_true)]
                refine ⟨fun _ _ => trivial, hK _ _ ?_⟩
                try simp only [Act.put, List.setIfInBounds_toArray, List.set_cons_zero, List.set_cons_succ]
                clear hK
                clear K
                exact hcut
          case restBq219 =>
           refine wpAnyIn_ready (rs := [10]) (by kernel_rfl) (by simp) ?_
           refine AllReadyIn.cons (o := ?zog256_10) ?zhg256_10 ?zkg256_10 AllReadyIn.nil
           case zhg256_10 => (simp only [List.getElem?_toArray, List.getElem?_cons_succ, List.getElem?_cons_zero]; rfl)
           ·
            intro K hK
            rw [if_neg (by rw [show Region.wanted _ _ = false by kernel_rfl]; exact Bool.false_ne_true)]
            refine ⟨fun _ _ => trivial, hK _ _ ?_⟩
            try simp only [Act.put, List.setIfInBounds_toArray, List.set_cons_zero, List.set_cons_succ]
            clear hK
            clear K
            refine wpAnyIn_ready (rs := [11]) (by kernel_rfl) (by simp) ?_
            refine AllReadyIn.cons (o := ?zog257_11) ?zhg257_11 ?zkg257_11 AllReadyIn.nil
            case zhg257_11 => (simp only [List.getElem?_toArray, List.getElem?_cons_succ, List.getElem?_cons_zero]; rfl)
            ·
             intro K hK
             rw [if_pos (by kernel_rfl)]
             go_simp
             refine hK _ _ ?_
             try simp only [Act.put, List.setIfInBounds_toArray, List.set_cons_zero, List.set_cons_succ]
             clear hK
             clear K
             refine wpAnyIn_done (by kernel_rfl) ?_ _
             gi_wp2
             exact HFAIL.out HNE.out
     case done =>
      rintro D ys W hD hys ⟨hsm, h2, h3, hb⟩ hK
      subst ha0
      have hlen : ys.length = nB := by rw [show ys = thrL l ⟨mb, mg, ma⟩ f t from hys, HNB.out, HBE.out]
      rw [hlen] at h2
      have c23 := h2.cell 0
      have c17 := (CT.out.sm hsm (by omega)).cell 0
      have c12 := h3.cell 0
      have f12 := h3.frozen 0
      obtain ⟨W2, hW2⟩ : ∃ W2, W2 = W.setCell ⟨w.heap.size + 3, 0, none⟩ (.bool true) := ⟨_, rfl⟩
      have P2 : Hid (Blk W2 (w.heap.size + 3) 4 [.bool true]) := Lib.hid (by rw [hW2]; exact h3.setCell 0 _)
      have BW2 : Hid (Below w.heap.size w W2) := Lib.hid (by rw [hW2]; exact hb.setCell (p := ⟨w.heap.size + 3, 0, none⟩) (by show w.heap.size ≤ w.heap.size + 3; omega) _)
      have HKD : Hid (W2.heap[D]? = some (.deferred (some []))) := Lib.hid (by
       rw [hW2, Below.heap_setCell _ _ _ _ (by show D ≠ w.heap.size + 3; omega)]
       exact hK)
      have HW2 := Lib.hid hW2
      clear hsm h2 h3 hb hK hW2
      dsimp only
      go_wp2_with fail
      rw [← HW2.out]
      refine ⟨by simp, .inl ⟨_, _, rfl, run_takeDeferred HKD.out, ?_⟩⟩
      have hno : ∀ r, some D = some r → ∃ o : Obj, W2.heap[r]? = some o ∧ o.isCells = false := fun r e => by cases e; exact ⟨_, HKD.out, rfl⟩
      refine ⟨_, results_boolcell rfl _ _ (w.heap.size + 3) true rfl (P2.out.own (grownBy_putObj' W2 D _) hno), rfl, ?_⟩
      exact BW2.out.grown (grownBy_putObj' W2 D _) BW2.out.size (fun k e => by cases e; omega)
     case stop =>
      rintro D c pre W hD hSp ⟨rfl, rb, hrb, h3, hb⟩ hK
      subst ha0
      obtain rfl : rb = true := hrb (by rw [HBE.out]; exact hSp)
      refine wpIn_wide.2 ?_
      dsimp only
      go_wp2_with fail
      refine ⟨by simp, .inl ⟨_, _, rfl, run_takeDeferred hK, ?_⟩⟩
      have hno : ∀ r, some D = some r → ∃ o : Obj, W.heap[r]? = some o ∧ o.isCells = false := fun r e => by cases e; exact ⟨_, hK, rfl⟩
      refine ⟨_, results_boolcell rfl _ _ (w.heap.size + 3) true rfl (h3.own (grownBy_putObj' W D _) hno), rfl, ?_⟩
      exact hb.grown (grownBy_putObj' W D _) hb.size (fun k e => by cases e; omega)
    | false =>
     obtain ⟨hnz, hyD⟩ := HYB.out rfl
     subst hyD
     have hpos : decide ((0 : Int) < (nB : Int)) = false := by rw [hnz]; rfl
     have q1 : ∀ (C : World → Prop) x z (q : BW wa) v, BinQ Try.prog C .neq 30 x z (.agg (encPtr pD).toArray) (.agg #[.int .i64 0, .int .i64 0, .int .i64 0, .int .i64 0, .bool false, .int .i64 0, .int .i64 0, .int .i64 0, .int .u64 0, .int .u64 0, .int .u64 0, .int .u64 0]) q.w v = (Value.bool false = v) := q0
     refine wp_region_below (by kernel_rfl) (by kernel_rfl) ?_
     repeat (go_big_quiet_step (first | (go_at_call_of 17 f; refine Calls.bw_of (HCQ.out _))))
     refine wpQuiet_nil ?_
     rintro _ ⟨q, rfl⟩
     have CB := Lib.hid (CA.out.below q.bel)
     have BBB := Lib.hid (BBA.out.trans (q.bel.mono BBA.out.size))
     have GB := Lib.hid (GA.out.below q.bel)
     have DB := Lib.hid (DA.out.below q.bel)
     have PB := Lib.hid (PA.out.below q.bel)
     have SB := Lib.hid (Nat.le_trans SA.out q.bel.size)
     obtain ⟨wb, hwb⟩ : ∃ wb, wb = q.w := ⟨_, rfl⟩
     rw [← hwb] at CB BBB GB DB PB SB ⊢
     clear hwb c17 lx r0 r1 HCQ q0 CA BBA GA DA PA SA YA q1 hpos hnz
     go_wp2_with fail
     refine (without_psl ao bo n m cap cap' l lo wb (HPL.out _ BBB.out) (HPQ.out _ BBB.out) (by omega)).mono ?_
     rintro e w6 ⟨pg, cg, rfl, hpg, hb6⟩
     have C6 := Lib.hid (CB.out.below hb6)
     have BB6 := Lib.hid (BBB.out.trans (hb6.mono BBB.out.size))
     have D6 := Lib.hid (DB.out.below hb6)
     have P6 := Lib.hid (PB.out.below hb6)
     have S6 := Lib.hid (Nat.le_trans SB.out hb6.size)
     have HS6 := Lib.hid (same_ps _ _ _ _ _ _ _ _ w6 hpg (GB.out.below hb6))
     rw [decide_eq_true HG.out.symm] at HS6
     clear hpg hb6 CB BBB GB DB PB SB
     go_wp2_with fail
     refine HS6.out.mono ?_
     rintro e w7 ⟨rfl, hb7⟩
     have C7 := Lib.hid (C6.out.below hb7)
     have BB7 := Lib.hid (BB6.out.trans (hb7.mono BB6.out.size))
     have D7 := Lib.hid (D6.out.below hb7)
     have P7 := Lib.hid (P6.out.below hb7)
     have S7 := Lib.hid (Nat.le_trans S6.out hb7.size)
     clear hb7 C6 BB6 D6 P6 S6 HS6
     go_wp2_with fail
     refine (dead_psl ao bo n m cap cap' l lo prev w7 (HPL.out _ BB7.out) (HPQ.out _ BB7.out) (by omega)).mono ?_
     rintro e w8 ⟨pd, cd, rfl, hpd, hb8⟩
     have C8 := Lib.hid (C7.out.below hb8)
     have BB8 := Lib.hid (BB7.out.trans (hb8.mono BB7.out.size))
     have P8 := Lib.hid (P7.out.below hb8)
     have S8 := Lib.hid (Nat.le_trans S7.out hb8.size)
     have HS8 := Lib.hid (same_ps _ _ _ _ _ _ _ _ w8 hpd (D7.out.below hb8))
     rw [decide_eq_true HD.out.symm] at HS8
     clear hpd hb8 C7 BB7 D7 P7 S7
     go_wp2_with fail
     refine HS8.out.mono ?_
     rintro e w9 ⟨rfl, hb9⟩
     have C9 := Lib.hid (C8.out.below hb9)
     have BB9 := Lib.hid (BB8.out.trans (hb9.mono BB8.out.size))
     have P9 := Lib.hid (P8.out.below hb9)
     have S9 := Lib.hid (Nat.le_trans S8.out hb9.size)
     clear hb9 C8 BB8 P8 S8 HS8
     have bA := (Below.refl w9.heap.size w9).alloc (Nat.le_refl _) (.cells #[.int .i64 0] 3)
     have m0 : (w9.alloc (.cells #[.int .i64 0] 3)).cell? ⟨w.heap.size, 0, none⟩ = some (.int .i64 mb) := (HKM.out _ (BB9.out.trans (bA.mono BB9.out.size))).cell 0
     have m1 : (w9.alloc (.cells #[.int .i64 0] 3)).cell? ⟨w.heap.size, 1, none⟩ = some (.int .i64 mg) := (HKM.out _ (BB9.out.trans (bA.mono BB9.out.size))).cell 1
     have m2 : (w9.alloc (.cells #[.int .i64 0] 3)).cell? ⟨w.heap.size, 2, none⟩ = some (.int .i64 ma) := (HKM.out _ (BB9.out.trans (bA.mono BB9.out.size))).cell 2
     have r0 : (w9.alloc (.cells #[.int .i64 0] 3)).cell? ⟨w.heap.size + 1, 0, none⟩ = some (.int .i64 f) := (HKR.out _ (BB9.out.trans (bA.mono BB9.out.size))).cell 0
     have r1 : (w9.alloc (.cells #[.int .i64 0] 3)).cell? ⟨w.heap.size + 1, 1, none⟩ = some (.int .i64 t) := (HKR.out _ (BB9.out.trans (bA.mono BB9.out.size))).cell 1
     have HT : Hid (∀ W, Calls Try.prog 22 #[.slice ao n cap, .agg #[.int .i64 mb, .int .i64 mg, .int .i64 ma], .agg #[.int .i64 f, .int .i64 t]] W fun e w' => e = .returned (.func (.func 36) #[] #[.pointer (some ⟨W.heap.size, 0, none⟩), .pointer (some ⟨W.heap.size + 1, 0, none⟩), .pointer (some ⟨W.heap.size + 2, 0, none⟩)]) ∧
      w' = ((W.alloc (.cells #[.slice ao n cap] 22)).alloc (.cells #[.int .i64 mb, .int .i64 mg, .int .i64 ma] 34)).alloc (.cells #[.int .i64 f, .int .i64 t] 42)) := Lib.hid (fun W => through_any ao n cap ⟨mb, mg, ma⟩ f t W)
     clear bA
     go_wp2_with fail
     refine (HT.out _).mono ?_
     rintro e w10 ⟨rfl, rfl⟩
     clear m0 m1 m2 r0 r1
     go_wp2_with fail
     obtain ⟨Wt, hWt⟩ : ∃ Wt, Wt = (((w9.alloc (.cells #[.int .i64 0] 3)).alloc (.cells #[.slice ao n cap] 22)).alloc (.cells #[.int .i64 mb, .int .i64 mg, .int .i64 ma] 34)).alloc (.cells #[.int .i64 f, .int .i64 t] 42) := ⟨_, rfl⟩
     have bT : Below w9.heap.size w9 Wt := by rw [hWt]; exact ((((Below.refl _ _).alloc (Nat.le_refl _) _).alloc (by simp) _).alloc (by simp; omega) _).alloc (by simp; omega) _
     have hsT : Wt.heap.size = w9.heap.size + 4 := by rw [hWt]; simp
     have k23 : Blk Wt w9.heap.size 3 [.int .i64 0] := by rw [hWt]; exact (((Blk.new _ _ [.int .i64 0]).alloc _).alloc _).alloc _
     have k1 : Blk Wt (w9.heap.size + 1) 22 [.slice ao n cap] := by rw [hWt]; exact ((Blk.newAt (g := w9.heap.size + 1) _ [.slice ao n cap] (by simp)).alloc _).alloc _
     have k2 : Blk Wt (w9.heap.size + 2) 34 [.int .i64 mb, .int .i64 mg, .int .i64 ma] := by rw [hWt]; exact (Blk.newAt (g := w9.heap.size + 2) _ [.int .i64 mb, .int .i64 mg, .int .i64 ma] (by simp)).alloc _
     have k3 : Blk Wt (w9.heap.size + 3) 42 [.int .i64 f, .int .i64 t] := by rw [hWt]; exact Blk.newAt (g := w9.heap.size + 3) _ [.int .i64 f, .int .i64 t] (by simp)
     have CT := Lib.hid (C9.out.below bT)
     have BBT := Lib.hid (BB9.out.trans (bT.mono BB9.out.size))
     have PT := Lib.hid (P9.out.below bT)
     have PLT := HPL.out Wt BBT.out
     have KBT := HKB.out Wt BBT.out
     have KST := Lib.hid (HKS.out Wt BBT.out)
     have BWT := Lib.hid (BW4.out.trans (BBT.out.mono BW4.out.size))
     have hw9 : w4.heap.size + 2 ≤ w9.heap.size := S9.out
     have HBP := Lib.hid P9.out
     rw [← hWt]
     clear hWt HT
     simp only [Nat.add_assoc, Nat.reduceAdd]
     have HOWN : Hid (∀ b off, aB = some ⟨b, off, none⟩ → 0 < nB → ¬ (b = w9.heap.size ∨ b = w.heap.size + 3)) := Lib.hid (fun b off e hp => by
      have h1 := HBO.out b off e
      obtain ⟨b2, off2, e2, h2, _⟩ := HBP.out.read hp
      rw [e] at e2
      have e3 := Option.some.inj e2
      have e4 : b = b2 := congrArg Addr.block e3
      omega)
     refine frame_name (fun a0 ha0 => ?_)
     refine (wpIn_wide (n := 10)).1 (wpIn_rangeFunc_ownH rfl (by omega) (gf := 36) (lb := #[.pointer (some ⟨w9.heap.size + 1, 0, none⟩), .pointer (some ⟨w9.heap.size + 2, 0, none⟩), .pointer (some ⟨w9.heap.size + 3, 0, none⟩)]) (by rw [ha0]; rfl) trivial (enters_of Try.func36 (by kernel_rfl) rfl)
      (thr_stops (fun k => k = w9.heap.size ∨ k = w.heap.size + 3) _ (w9.heap.size + 1) (w9.heap.size + 2) (w9.heap.size + 3) ao n cap l ⟨mb, mg, ma⟩ f t Wt k1 k2 k3 PLT (by omega) (fun k hk => by omega)) (fun h k => h.trans k) (fun W l o o' _ h ho _ => KpO.putObj W l o o' h ho) (Below.refl _ _) (fun _ => rfl)
      (fun pre W => Sm (fun k => k = w9.heap.size ∨ k = w.heap.size + 3) Wt W ∧ Blk W w9.heap.size 3 [.int .i64 (pre.length : Nat)] ∧ Blk W (w.heap.size + 3) 4 [.bool false] ∧ Below w.heap.size w W)
      (fun c pre W => c = .ret ∧ ∃ rb : Bool, (pre <+: LB → rb = true) ∧ Blk W (w.heap.size + 3) 4 [.bool rb] ∧ Below w.heap.size w W)
      ?hI ?hIx ⟨Sm.refl _ _, k23, KBT, BWT.out⟩ (fun x a' W => ∃ Bx, Wt.heap.size ≤ Bx ∧ Blk W Bx 30 (encPtr x) ∧ a' = ({ tmps := (a0.put (some 180) (.agg (encPtr x).toArray)).tmps, defers := [] } : Act).put (some 24) (.pointer (some ⟨Bx, 0, none⟩))) ?hAx ?assign ?body ?done ?stop)
     case hI => exact fun s A B row ⟨hs, h2, h3, hb⟩ hg hr => ⟨hs.step hg (fun r e => .inr (hr r e).1), h2.own hg (fun r e => (hr r e).2), h3.own hg (fun r e => (hr r e).2), hb.grown hg hb.size (fun k e => by have := (hr k e).1; omega)⟩
     case hIx => exact fun c s A B row ⟨e, rb, he, h3, hb⟩ hg hr => ⟨e, rb, he, h3.own hg (fun r e => (hr r e).2), hb.grown hg hb.size (fun k e => by have := (hr k e).1; omega)⟩
     case hAx => exact fun x a' s A B row ⟨Bx, h1, h2, h3⟩ hg hr => ⟨Bx, h1, h2.own hg (fun r e => (hr r e).2), h3⟩
     case assign =>
      rintro lp pre x W K ⟨hsm, h2, h3, hb⟩ hK
      subst ha0
      have s1 := fun n => store_newI (F := Fence.wide.inRound lp) (n := n) W x
      have hbA : Below W.heap.size W (W.alloc (.cells (encPtr x).toArray 30)) := (Below.refl _ _).alloc (Nat.le_refl _) _
      have HK := Lib.hid (hK _ _ ((KeepsOthers.alloc W (.cells (encPtr x).toArray 30)).from _) (KpO.of_below hbA) ⟨hsm.below hbA, h2.below hbA, h3.below hbA, hb.trans (hbA.mono hb.size)⟩ ⟨W.heap.size, hsm.1, Blk.new _ _ _, rfl⟩)
      simp only [Act.put, List.setIfInBounds_toArray, List.set_cons_zero, List.set_cons_succ] at HK
      clear hK h2 h3 hb hbA
      gi_wp2
      exact HK.out
     case body =>
      rintro lp pre x a' W hl ⟨r, hr⟩ ⟨hsm, h2, h3, hb⟩ ⟨Bx, hBx, hX, rfl⟩ hlt
      subst ha0
      simp only [Act.put, List.setIfInBounds_toArray, List.set_cons_zero, List.set_cons_succ]
      have HPRE := Lib.hid (fun h => prefix_at (pre := pre) (LB := LB) (x := x) h)
      have HLEN : Hid ((pre ++ [x]).length = pre.length + 1) := Lib.hid (by simp)
      obtain ⟨pl, hpl⟩ : ∃ pl, pl = pre ++ [x] := ⟨_, rfl⟩
      rw [← hpl] at HPRE HLEN ⊢
      obtain ⟨j, hj⟩ : ∃ j, j = pre.length := ⟨_, rfl⟩
      rw [← hj] at HPRE HLEN h2 hlt
      clear hpl hj hr
      have bd : Below W.heap.size W W.drew := (Below.refl _ _).drew
      have smd := hsm.below bd
      have n23 := h2.below bd
      have n12 := h3.below bd
      have nX := hX.below bd
      have nC := (CT.out.sm smd (by omega))
      have nS := (KST.out.sm smd (by omega))
      have nP := PT.out.sm smd HOWN.out
      have nBW := hb.trans (bd.mono hb.size)
      have c23 := n23.cell 0
      have f23 := n23.frozen 0
      have c12 := n12.cell 0
      have f12 := n12.frozen 0
      have c17 : W.drew.cell? ⟨w4.heap.size, 0, none⟩ = some (.slice aB nB cpB) := nC.cell 0
      have lx := fun n => load_ptrI (F := Fence.wide.inRound lp) (n := n) (range0 nX)
      have HFAIL : Hid ((pl <+: LB → False) → ownPostG Wt.heap.size (KpO fun k => k = w9.heap.size ∨ k = w.heap.size + 3) (fun pre W => Sm (fun k => k = w9.heap.size ∨ k = w.heap.size + 3) Wt W ∧ Blk W w9.heap.size 3 [.int .i64 (pre.length : Nat)] ∧ Blk W (w.heap.size + 3) 4 [.bool false] ∧ Below w.heap.size w W)
        (fun c pre W => c = .ret ∧ ∃ rb : Bool, (pre <+: LB → rb = true) ∧ Blk W (w.heap.size + 3) 4 [.bool rb] ∧ Below w.heap.size w W) pl W .ret { tmps := #[], defers := [] } (W.drew.setCell ⟨w.heap.size + 3, 0, none⟩ (.bool false))) := Lib.hid (fun h =>
       ⟨(KeepsFrom.of_grownBy (row := none) (grown_of_below bd) (fun k e => by cases e)).trans ((KeepsOthers.setCell _ _ _).from _), rfl, false, fun hp => (h hp).elim, n12.setCell 0 _, nBW.setCell (p := ⟨w.heap.size + 3, 0, none⟩) (by show w.heap.size ≤ w.heap.size + 3; omega) _⟩)
      by_cases hjn : j < nB
      ·
       obtain ⟨b, off, hab, hbb, hrr⟩ := nP.read (by omega)
       have ly := fun n => load_ptrI (F := Fence.wide.inRound lp) (n := n) (hrr j hjn)
       rw [hab] at c17
       have hjz : (j : Int) < (nB : Int) := by omega
       have hjd : decide ((nB : Int) ≤ (j : Int)) = false := by simp; omega
       have hjd2 : ¬ nB ≤ j := by omega
       have hjd3 : decide (nB ≤ j) = false := decide_eq_false hjd2
       by_cases hxy : x = LB.getD j pD
       ·
        rw [← hxy] at ly
        have q0 := fun n => binI_same (F := Fence.wide.inRound lp) (n := n) x
        clear hrr nP HPRE HFAIL hxy
        gi_wp2
        refine wpIn_region_any (by kernel_rfl) ?_
        change wpAnyIn _ _ _ _ _ _ _ _ _ (World.drew W)
        refine cutA (A := ?pAq102) (fun hcut => ?pathsq102) ?restq102
        case pathsq102 =>
         refine wpAnyIn_ready (rs := [0, 1]) (by kernel_rfl) (by simp) ?_
         refine AllReadyIn.cons (o := ?zog103_0) ?zhg103_0 ?zkg103_0 (AllReadyIn.cons (o := ?zog103_1) ?zhg103_1 ?zkg103_1 AllReadyIn.nil)
         case zhg103_0 => (simp only [List.getElem?_toArray, List.getElem?_cons_succ, List.getElem?_cons_zero]; rfl)
         case zhg103_1 => (simp only [List.getElem?_toArray, List.getElem?_cons_succ, List.getElem?_cons_zero]; rfl)
         ·
          intro K hK
          rw [if_pos (by kernel_rfl)]
          go_simp
          refine hK _ _ ?_
          try simp only [Act.put, List.setIfInBounds_toArray, List.set_cons_zero, List.set_cons_succ]
          clear hK
          clear K
          refine wpAnyIn_ready (rs := [1]) (by kernel_rfl) (by simp) ?_
          refine AllReadyIn.cons (o := ?zog104_1) ?zhg104_1 ?zkg104_1 AllReadyIn.nil
          case zhg104_1 => (simp only [List.getElem?_toArray, List.getElem?_cons_succ, List.getElem?_cons_zero]; rfl)
          ·
           intro K hK
           rw [if_pos (by kernel_rfl)]
           go_simp
           refine hK _ _ ?_
           try simp only [Act.put, List.setIfInBounds_toArray, List.set_cons_zero, List.set_cons_succ]
           clear hK
           clear K
           refine wpAnyIn_ready (rs := [2]) (by kernel_rfl) (by simp) ?_
           refine AllReadyIn.cons (o := ?zog105_2) ?zhg105_2 ?zkg105_2 AllReadyIn.nil
           case zhg105_2 => (simp only [List.getElem?_toArray, List.getElem?_cons_succ, List.getElem?_cons_zero]; rfl)
           ·
            intro K hK
            rw [if_pos (by kernel_rfl)]
            go_simp
            refine hK _ _ ?_
            try simp only [Act.put, List.setIfInBounds_toArray, List.set_cons_zero, List.set_cons_succ]
            clear hK
            clear K
            exact hcut
         ·
          intro K hK
          rw [if_pos (by kernel_rfl)]
          go_simp
          refine hK _ _ ?_
          try simp only [Act.put, List.setIfInBounds_toArray, List.set_cons_zero, List.set_cons_succ]
          clear hK
          clear K
          refine wpAnyIn_ready (rs := [0, 2]) (by kernel_rfl) (by simp) ?_
          refine AllReadyIn.cons (o := ?zog106_0) ?zhg106_0 ?zkg106_0 (AllReadyIn.cons (o := ?zog106_2) ?zhg106_2 ?zkg106_2 AllReadyIn.nil)
          case zhg106_0 => (simp only [List.getElem?_toArray, List.getElem?_cons_succ, List.getElem?_cons_zero]; rfl)
          case zhg106_2 => (simp only [List.getElem?_toArray, List.getElem?_cons_succ, List.getElem?_cons_zero]; rfl)
          ·
           intro K hK
           rw [if_pos (by kernel_rfl)]
           go_simp
           refine hK _ _ ?_
           try simp only [Act.put, List.setIfInBounds_toArray, List.set_cons_zero, List.set_cons_succ]
           clear hK
           clear K
           refine wpAnyIn_ready (rs := [2]) (by kernel_rfl) (by simp) ?_
           refine AllReadyIn.cons (o := ?zog107_2) ?zhg107_2 ?zkg107_2 AllReadyIn.nil
           case zhg107_2 => (simp only [List.getElem?_toArray, List.getElem?_cons_succ, List.getElem?_cons_zero]; rfl)
           ·
            intro K hK
            rw [if_pos (by kernel_rfl)]
            go_simp
            refine hK _ _ ?_
            try simp only [Act.put, List.setIfInBounds_toArray, List.set_cons_zero, List.set_cons_succ]
            clear hK
            clear K
            exact hcut
          ·
           intro K hK
           rw [if_pos (by kernel_rfl)]
           go_simp
           refine hK _ _ ?_
           try simp only [Act.put, List.setIfInBounds_toArray, List.set_cons_zero, List.set_cons_succ]
           clear hK
           clear K
           refine wpAnyIn_ready (rs := [0]) (by kernel_rfl) (by simp) ?_
           refine AllReadyIn.cons (o := ?zog108_0) ?zhg108_0 ?zkg108_0 AllReadyIn.nil
           case zhg108_0 => (simp only [List.getElem?_toArray, List.getElem?_cons_succ, List.getElem?_cons_zero]; rfl)
           ·
            intro K hK
            rw [if_pos (by kernel_rfl)]
            go_simp
            refine hK _ _ ?_
            try simp only [Act.put, List.setIfInBounds_toArray, List.set_cons_zero, List.set_cons_succ]
            clear hK
            clear K
            exact hcut
        case restq102 =>
         refine wpAnyIn_ready (rs := [3]) (by kernel_rfl) (by simp) ?_
         refine AllReadyIn.cons (o := ?zog109_3) ?zhg109_3 ?zkg109_3 AllReadyIn.nil
         case zhg109_3 => (simp only [List.getElem?_toArray, List.getElem?_cons_succ, List.getElem?_cons_zero]; rfl)
         ·
          intro K hK
          rw [if_pos (by kernel_rfl)]
          go_simp
          refine hK _ _ ?_
          try simp only [Act.put, List.setIfInBounds_toArray, List.set_cons_zero, List.set_cons_succ]
          clear hK
          clear K
          refine wpAnyIn_ready (rs := [4]) (by kernel_rfl) (by simp) ?_
          refine AllReadyIn.cons (o := ?zog110_4) ?zhg110_4 ?zkg110_4 AllReadyIn.nil
          case zhg110_4 => (simp only [List.getElem?_toArray, List.getElem?_cons_succ, List.getElem?_cons_zero]; rfl)
          ·
           intro K hK
           rw [if_pos (by kernel_rfl)]
           go_simp
           refine hK _ _ ?_
           try simp only [Act.put, List.setIfInBounds_toArray, List.set_cons_zero, List.set_cons_succ]
           clear hK
           clear K
           refine cutA (A := ?pBq102) (fun hcut => ?pathsBq102) ?restBq102
           case pathsBq102 =>
            refine wpAnyIn_ready (rs := [5, 6, 7]) (by kernel_rfl) (by simp) ?_
            refine AllReadyIn.cons (o := ?zog111_5) ?zhg111_5 ?zkg111_5 (AllReadyIn.cons (o := ?zog111_6) ?zhg111_6 ?zkg111_6 (AllReadyIn.cons (o := ?zog111_7) ?zhg111_7 ?zkg111_7 AllReadyIn.nil))
            case zhg111_5 => (simp only [List.getElem?_toArray, List.getElem?_cons_succ, List.getElem?_cons_zero]; rfl)
            case zhg111_6 => (simp only [List.getElem?_toArray, List.getElem?_cons_succ, List.getElem?_cons_zero]; rfl)
            case zhg111_7 => (simp only [List.getElem?_toArray, List.getElem?_cons_succ, List.getElem?_cons_zero]; rfl)
            ·
             intro K hK
             rw [if_pos (by kernel_rfl)]
             go_simp
             refine hK _ _ ?_
             try simp only [Act.put, List.setIfInBounds_toArray, List.set_cons_zero, List.set_cons_succ]
             clear hK
             clear K
             refine wpAnyIn_ready (rs := [6, 7]) (by kernel_rfl) (by simp) ?_
             refine AllReadyIn.cons (o := ?zog112_6) ?zhg112_6 ?zkg112_6 (AllReadyIn.cons (o := ?zog112_7) ?zhg112_7 ?zkg112_7 AllReadyIn.nil)
             case zhg112_6 => (simp only [List.getElem?_toArray, List.getElem?_cons_succ, List.getElem?_cons_zero]; rfl)
             case zhg112_7 => (simp only [List.getElem?_toArray, List.getElem?_cons_succ, List.getElem?_cons_zero]; rfl)
             ·
              intro K hK
              rw [if_pos (by kernel_rfl)]
              go_simp
              refine hK _ _ ?_
              try simp only [Act.put, List.setIfInBounds_toArray, List.set_cons_zero, List.set_cons_succ]
              clear hK
              clear K
              refine wpAnyIn_ready (rs := [7]) (by kernel_rfl) (by simp) ?_
              refine AllReadyIn.cons (o := ?zog113_7) ?zhg113_7 ?zkg113_7 AllReadyIn.nil
              case zhg113_7 => (simp only [List.getElem?_toArray, List.getElem?_cons_succ, List.getElem?_cons_zero]; rfl)
              ·
               intro K hK
               rw [if_pos (by kernel_rfl)]
               go_simp
               refine hK _ _ ?_
               try simp only [Act.put, List.setIfInBounds_toArray, List.set_cons_zero, List.set_cons_succ]
               clear hK
               clear K
               refine wpAnyIn_ready (rs := [8]) (by kernel_rfl) (by simp) ?_
               refine AllReadyIn.cons (o := ?zog114_8) ?zhg114_8 ?zkg114_8 AllReadyIn.nil
               case zhg114_8 => (simp only [List.getElem?_toArray, List.getElem?_cons_succ, List.getElem?_cons_zero]; rfl)
               ·
                intro K hK
                rw [if_pos (by kernel_rfl)]
                go_simp
                refine hK _ _ ?_
                try simp only [Act.put, List.setIfInBounds_toArray, List.set_cons_zero, List.set_cons_succ]
                clear hK
                clear K
                refine wpAnyIn_ready (rs := [9]) (by kernel_rfl) (by simp) ?_
                refine AllReadyIn.cons (o := ?zog115_9) ?zhg115_9 ?zkg115_9 AllReadyIn.nil
                case zhg115_9 => (simp only [List.getElem?_toArray, List.getElem?_cons_succ, List.getElem?_cons_zero]; rfl)
                ·
                 intro K hK
                 rw [if_pos (by kernel_rfl)]
                 go_simp
                 refine hK _ _ ?_
                 try simp only [Act.put, List.setIfInBounds_toArray, List.set_cons_zero, List.set_cons_succ]
                 clear hK
                 clear K
                 exact hcut
             ·
              intro K hK
              rw [if_pos (by kernel_rfl)]
              go_simp
              refine hK _ _ ?_
              try simp only [Act.put, List.setIfInBounds_toArray, List.set_cons_zero, List.set_cons_succ]
              clear hK
              clear K
              refine wpAnyIn_ready (rs := [6]) (by kernel_rfl) (by simp) ?_
              refine AllReadyIn.cons (o := ?zog116_6) ?zhg116_6 ?zkg116_6 AllReadyIn.nil
              case zhg116_6 => (simp only [List.getElem?_toArray, List.getElem?_cons_succ, List.getElem?_cons_zero]; rfl)
              ·
               intro K hK
               rw [if_pos (by kernel_rfl)]
               go_simp
               refine hK _ _ ?_
               try simp only [Act.put, List.setIfInBounds_toArray, List.set_cons_zero, List.set_cons_succ]
               clear hK
               clear K
               refine wpAnyIn_ready (rs := [8]) (by kernel_rfl) (by simp) ?_
               refine AllReadyIn.cons (o := ?zog117_8) ?zhg117_8 ?zkg117_8 AllReadyIn.nil
               case zhg117_8 => (simp only [List.getElem?_toArray, List.getElem?_cons_succ, List.getElem?_cons_zero]; rfl)
               ·
                intro K hK
                rw [if_pos (by kernel_rfl)]
                go_simp
                refine hK _ _ ?_
                try simp only [Act.put, List.setIfInBounds_toArray, List.set_cons_zero, List.set_cons_succ]
                clear hK
                clear K
                refine wpAnyIn_ready (rs := [9]) (by kernel_rfl) (by simp) ?_
                refine AllReadyIn.cons (o := ?zog118_9) ?zhg118_9 ?zkg118_9 AllReadyIn.nil
                case zhg118_9 => (simp only [List.getElem?_toArray, List.getElem?_cons_succ, List.getElem?_cons_zero]; rfl)
                ·
                 intro K hK
                 rw [if_pos (by kernel_rfl)]
                 go_simp
                 refine hK _ _ ?_
                 try simp only [Act.put, List.setIfInBounds_toArray, List.set_cons_zero, List.set_cons_succ]
                 clear hK
                 clear K
                 exact hcut
            ·
             intro K hK
             rw [if_pos (by kernel_rfl)]
             go_simp
             refine hK _ _ ?_
             try simp only [Act.put, List.setIfInBounds_toArray, List.set_cons_zero, List.set_cons_succ]
             clear hK
             clear K
             refine wpAnyIn_ready (rs := [5, 7]) (by kernel_rfl) (by simp) ?_
             refine AllReadyIn.cons (o := ?zog119_5) ?zhg119_5 ?zkg119_5 (AllReadyIn.cons (o := ?zog119_7) ?zhg119_7 ?zkg119_7 AllReadyIn.nil)
             case zhg119_5 => (simp only [List.getElem?_toArray, List.getElem?_cons_succ, List.getElem?_cons_zero]; rfl)
             case zhg119_7 => (simp only [List.getElem?_toArray, List.getElem?_cons_succ, List.getElem?_cons_zero]; rfl)
             ·
              intro K hK
              rw [if_pos (by kernel_rfl)]
              go_simp
              refine hK _ _ ?_
              try simp only [Act.put, List.setIfInBounds_toArray, List.set_cons_zero, List.set_cons_succ]
              clear hK
              clear K
              refine wpAnyIn_ready (rs := [7]) (by kernel_rfl) (by simp) ?_
              refine AllReadyIn.cons (o := ?zog120_7) ?zhg120_7 ?zkg120_7 AllReadyIn.nil
              case zhg120_7 => (simp only [List.getElem?_toArray, List.getElem?_cons_succ, List.getElem?_cons_zero]; rfl)
              ·
               intro K hK
               rw [if_pos (by kernel_rfl)]
               go_simp
               refine hK _ _ ?_
               try simp only [Act.put, List.setIfInBounds_toArray, List.set_cons_zero, List.set_cons_succ]
               clear hK
               clear K
               refine wpAnyIn_ready (rs := [8]) (by kernel_rfl) (by simp) ?_
               refine AllReadyIn.cons (o := ?zog121_8) ?zhg121_8 ?zkg121_8 AllReadyIn.nil
               case zhg121_8 => (simp only [List.getElem?_toArray, List.getElem?_cons_succ, List.getElem?_cons_zero]; rfl)
               ·
                intro K hK
                rw [if_pos (by kernel_rfl)]
                go_simp
                refine hK _ _ ?_
                try simp only [Act.put, List.setIfInBounds_toArray, List.set_cons_zero, List.set_cons_succ]
                clear hK
                clear K
                refine wpAnyIn_ready (rs := [9]) (by kernel_rfl) (by simp) ?_
                refine AllReadyIn.cons (o := ?zog122_9) ?zhg122_9 ?zkg122_9 AllReadyIn.nil
                case zhg122_9 => (simp only [List.getElem?_toArray, List.getElem?_cons_succ, List.getElem?_cons_zero]; rfl)
                ·
                 intro K hK
                 rw [if_pos (by kernel_rfl)]
                 go_simp
                 refine hK _ _ ?_
                 try simp only [Act.put, List.setIfInBounds_toArray, List.set_cons_zero, List.set_cons_succ]
                 clear hK
                 clear K
                 exact hcut
             ·
              intro K hK
              rw [if_pos (by kernel_rfl)]
              go_simp
              refine hK _ _ ?_
              try simp only [Act.put, List.setIfInBounds_toArray, List.set_cons_zero, List.set_cons_succ]
              clear hK
              clear K
              refine wpAnyIn_ready (rs := [5, 8]) (by kernel_rfl) (by simp) ?_
              refine AllReadyIn.cons (o := ?zog123_5) ?zhg123_5 ?zkg123_5 (AllReadyIn.cons (o := ?zog123_8) ?zhg123_8 ?zkg123_8 AllReadyIn.nil)
              case zhg123_5 => (simp only [List.getElem?_toArray, List.getElem?_cons_succ, List.getElem?_cons_zero]; rfl)
              case zhg123_8 => (simp only [List.getElem?_toArray, List.getElem?_cons_succ, List.getElem?_cons_zero]; rfl)
              ·
               intro K hK
               rw [if_pos (by kernel_rfl)]
               go_simp
               refine hK _ _ ?_
               try simp only [Act.put, List.setIfInBounds_toArray, List.set_cons_zero, List.set_cons_succ]
               clear hK
               clear K
               refine wpAnyIn_ready (rs := [8]) (by kernel_rfl) (by simp) ?_
               refine AllReadyIn.cons (o := ?zog124_8) ?zhg124_8 ?zkg124_8 AllReadyIn.nil
               case zhg124_8 => (simp only [List.getElem?_toArray, List.getElem?_cons_succ, List.getElem?_cons_zero]; rfl)
               ·
                intro K hK
                rw [if_pos (by kernel_rfl)]
                go_simp
                refine hK _ _ ?_
                try simp only [Act.put, List.setIfInBounds_toArray, List.set_cons_zero, List.set_cons_succ]
                clear hK
                clear K
                refine wpAnyIn_ready (rs := [9]) (by kernel_rfl) (by simp) ?_
                refine AllReadyIn.cons (o := ?zog125_9) ?zhg125_9 ?zkg125_9 AllReadyIn.nil
                case zhg125_9 => (simp only [List.getElem?_toArray, List.getElem?_cons_succ, List.getElem?_cons_zero]; rfl)
                ·
                 intro K hK
                 rw [if_pos (by kernel_rfl)]
                 go_simp
                 refine hK _ _ ?_
                 try simp only [Act.put, List.setIfInBounds_toArray, List.set_cons_zero, List.set_cons_succ]
                 clear hK
                 clear K
                 exact hcut
              ·
               intro K hK
               rw [if_pos (by kernel_rfl)]
               go_simp
               refine hK _ _ ?_
               try simp only [Act.put, List.setIfInBounds_toArray, List.set_cons_zero, List.set_cons_succ]
               clear hK
               clear K
               refine wpAnyIn_ready (rs := [5, 9]) (by kernel_rfl) (by simp) ?_
               refine AllReadyIn.cons (o := ?zog126_5) ?zhg126_5 ?zkg126_5 (AllReadyIn.cons (o := ?zog126_9) ?zhg126_9 ?zkg126_9 AllReadyIn.nil)
               case zhg126_5 => (simp only [List.getElem?_toArray, List.getElem?_cons_succ, List.getElem?_cons_zero]; rfl)
               case zhg126_9 => (simp only [List.getElem?_toArray, List.getElem?_cons_succ, List.getElem?_cons_zero]; rfl)
               ·
                intro K hK
                rw [if_pos (by kernel_rfl)]
                go_simp
                refine hK _ _ ?_
                try simp only [Act.put, List.setIfInBounds_toArray, List.set_cons_zero, List.set_cons_succ]
                clear hK
                clear K
                refine wpAnyIn_ready (rs := [9]) (by kernel_rfl) (by simp) ?_
                refine AllReadyIn.cons (o := ?zog127_9) ?zhg127_9 ?zkg127_9 AllReadyIn.nil
                case zhg127_9 => (simp only [List.getElem?_toArray, List.getElem?_cons_succ, List.getElem?_cons_zero]; rfl)
                ·
                 intro K hK
                 rw [if_pos (by kernel_rfl)]
                 go_simp
                 refine hK _ _ ?_
                 try simp only [Act.put, List.setIfInBounds_toArray, List.set_cons_zero, List.set_cons_succ]
                 clear hK
                 clear K
                 exact hcut
               ·
                intro K hK
                rw [if_pos (by kernel_rfl)]
                go_simp
                refine hK _ _ ?_
                try simp only [Act.put, List.setIfInBounds_toArray, List.set_cons_zero, List.set_cons_succ]
                clear hK
                clear K
                refine wpAnyIn_ready (rs := [5]) (by kernel_rfl) (by simp) ?_
                refine AllReadyIn.cons (o := ?zog128_5) ?zhg128_5 ?zkg128_5 AllReadyIn.nil
                case zhg128_5 => (simp only [List.getElem?_toArray, List.getElem?_cons_succ, List.getElem?_cons_zero]; rfl)
                ·
                 intro K hK
                 rw [if_pos (by kernel_rfl)]
                 go_simp
                 refine hK _ _ ?_
                 try simp only [Act.put, List.setIfInBounds_toArray, List.set_cons_zero, List.set_cons_succ]
                 clear hK
                 clear K
                 exact hcut
            ·
             intro K hK
             rw [if_pos (by kernel_rfl)]
             go_simp
             refine hK _ _ ?_
             try simp only [Act.put, List.setIfInBounds_toArray, List.set_cons_zero, List.set_cons_succ]
             clear hK
             clear K
             refine wpAnyIn_ready (rs := [5, 6]) (by kernel_rfl) (by simp) ?_
             refine AllReadyIn.cons (o := ?zog129_5) ?zhg129_5 ?zkg129_5 (AllReadyIn.cons (o := ?zog129_6) ?zhg129_6 ?zkg129_6 AllReadyIn.nil)
             case zhg129_5 => (simp only [List.getElem?_toArray, List.getElem?_cons_succ, List.getElem?_cons_zero]; rfl)
             case zhg129_6 => (simp only [List.getElem?_toArray, List.getElem?_cons_succ, List.getElem?_cons_zero]; rfl)
             ·
              intro K hK
              rw [if_pos (by kernel_rfl)]
              go_simp
              refine hK _ _ ?_
              try simp only [Act.put, List.setIfInBounds_toArray, List.set_cons_zero, List.set_cons_succ]
              clear hK
              clear K
              refine wpAnyIn_ready (rs := [6]) (by kernel_rfl) (by simp) ?_
              refine AllReadyIn.cons (o := ?zog130_6) ?zhg130_6 ?zkg130_6 AllReadyIn.nil
              case zhg130_6 => (simp only [List.getElem?_toArray, List.getElem?_cons_succ, List.getElem?_cons_zero]; rfl)
              ·
               intro K hK
               rw [if_pos (by kernel_rfl)]
               go_simp
               refine hK _ _ ?_
               try simp only [Act.put, List.setIfInBounds_toArray, List.set_cons_zero, List.set_cons_succ]
               clear hK
               clear K
               refine wpAnyIn_ready (rs := [8]) (by kernel_rfl) (by simp) ?_
               refine AllReadyIn.cons (o := ?zog131_8) ?zhg131_8 ?zkg131_8 AllReadyIn.nil
               case zhg131_8 => (simp only [List.getElem?_toArray, List.getElem?_cons_succ, List.getElem?_cons_zero]; rfl)
               ·
                intro K hK
                rw [if_pos (by kernel_rfl)]
                go_simp
                refine hK _ _ ?_
                try simp only [Act.put, List.setIfInBounds_toArray, List.set_cons_zero, List.set_cons_succ]
                clear hK
                clear K
                refine wpAnyIn_ready (rs := [9]) (by kernel_rfl) (by simp) ?_
                refine AllReadyIn.cons (o := ?zog132_9) ?zhg132_9 ?zkg132_9 AllReadyIn.nil
                case zhg132_9 => (simp only [List.getElem?_toArray, List.getElem?_cons_succ, List.getElem?_cons_zero]; rfl)
                ·
                 intro K hK
                 rw [if_pos (by kernel_rfl)]
                 go_simp
                 refine hK _ _ ?_
                 try simp only [Act.put, List.setIfInBounds_toArray, List.set_cons_zero, List.set_cons_succ]
                 clear hK
                 clear K
                 exact hcut
             ·
              intro K hK
              rw [if_pos (by kernel_rfl)]
              go_simp
              refine hK _ _ ?_
              try simp only [Act.put, List.setIfInBounds_toArray, List.set_cons_zero, List.set_cons_succ]
              clear hK
              clear K
              refine wpAnyIn_ready (rs := [5, 8]) (by kernel_rfl) (by simp) ?_
              refine AllReadyIn.cons (o := ?zog133_5) ?zhg133_5 ?zkg133_5 (AllReadyIn.cons (o := ?zog133_8) ?zhg133_8 ?zkg133_8 AllReadyIn.nil)
              case zhg133_5 => (simp only [List.getElem?_toArray, List.getElem?_cons_succ, List.getElem?_cons_zero]; rfl)
              case zhg133_8 => (simp only [List.getElem?_toArray, List.getElem?_cons_succ, List.getElem?_cons_zero]; rfl)
              ·
               intro K hK
               rw [if_pos (by kernel_rfl)]
               go_simp
               refine hK _ _ ?_
               try simp only [Act.put, List.setIfInBounds_toArray, List.set_cons_zero, List.set_cons_succ]
               clear hK
               clear K
               refine wpAnyIn_ready (rs := [8]) (by kernel_rfl) (by simp) ?_
               refine AllReadyIn.cons (o := ?zog134_8) ?zhg134_8 ?zkg134_8 AllReadyIn.nil
               case zhg134_8 => (simp only [List.getElem?_toArray, List.getElem?_cons_succ, List.getElem?_cons_zero]; rfl)
               ·
                intro K hK
                rw [if_pos (by kernel_rfl)]
                go_simp
                refine hK _ _ ?_
                try simp only [Act.put, List.setIfInBounds_toArray, List.set_cons_zero, List.set_cons_succ]
                clear hK
                clear K
                refine wpAnyIn_ready (rs := [9]) (by kernel_rfl) (by simp) ?_
                refine AllReadyIn.cons (o := ?zog135_9) ?zhg135_9 ?zkg135_9 AllReadyIn.nil
                case zhg135_9 => (simp only [List.getElem?_toArray, List.getElem?_cons_succ, List.getElem?_cons_zero]; rfl)
                ·
                 intro K hK
                 rw [if_pos (by kernel_rfl)]
                 go_simp
                 refine hK _ _ ?_
                 try simp only [Act.put, List.setIfInBounds_toArray, List.set_cons_zero, List.set_cons_succ]
                 clear hK
                 clear K
                 exact hcut
              ·
               intro K hK
               rw [if_pos (by kernel_rfl)]
               go_simp
               refine hK _ _ ?_
               try simp only [Act.put, List.setIfInBounds_toArray, List.set_cons_zero, List.set_cons_succ]
               clear hK
               clear K
               refine wpAnyIn_ready (rs := [5, 9]) (by kernel_rfl) (by simp) ?_
               refine AllReadyIn.cons (o := ?zog136_5) ?zhg136_5 ?zkg136_5 (AllReadyIn.cons (o := ?zog136_9) ?zhg136_9 ?zkg136_9 AllReadyIn.nil)
               case zhg136_5 => (simp only [List.getElem?_toArray, List.getElem?_cons_succ, List.getElem?_cons_zero]; rfl)
               case zhg136_9 => (simp only [List.getElem?_toArray, List.getElem?_cons_succ, List.getElem?_cons_zero]; rfl)
               ·
                intro K hK
                rw [if_pos (by kernel_rfl)]
                go_simp
                refine hK _ _ ?_
                try simp only [Act.put, List.setIfInBounds_toArray, List.set_cons_zero, List.set_cons_succ]
                clear hK
                clear K
                refine wpAnyIn_ready (rs := [9]) (by kernel_rfl) (by simp) ?_
                refine AllReadyIn.cons (o := ?zog137_9) ?zhg137_9 ?zkg137_9 AllReadyIn.nil
                case zhg137_9 => (simp only [List.getElem?_toArray, List.getElem?_cons_succ, List.getElem?_cons_zero]; rfl)
                ·
                 intro K hK
                 rw [if_pos (by kernel_rfl)]
                 go_simp
                 refine hK _ _ ?_
                 try simp only [Act.put, List.setIfInBounds_toArray, List.set_cons_zero, List.set_cons_succ]
                 clear hK
                 clear K
                 exact hcut
               ·
                intro K hK
                rw [if_pos (by kernel_rfl)]
                go_simp
                refine hK _ _ ?_
                try simp only [Act.put, List.setIfInBounds_toArray, List.set_cons_zero, List.set_cons_succ]
                clear hK
                clear K
                refine wpAnyIn_ready (rs := [5]) (by kernel_rfl) (by simp) ?_
                refine AllReadyIn.cons (o := ?zog138_5) ?zhg138_5 ?zkg138_5 AllReadyIn.nil
                case zhg138_5 => (simp only [List.getElem?_toArray, List.getElem?_cons_succ, List.getElem?_cons_zero]; rfl)
                ·
                 intro K hK
                 rw [if_pos (by kernel_rfl)]
                 go_simp
                 refine hK _ _ ?_
                 try simp only [Act.put, List.setIfInBounds_toArray, List.set_cons_zero, List.set_cons_succ]
                 clear hK
                 clear K
                 exact hcut
           case restBq102 =>
            refine wpAnyIn_ready (rs := [10]) (by kernel_rfl) (by simp) ?_
            refine AllReadyIn.cons (o := ?zog139_10) ?zhg139_10 ?zkg139_10 AllReadyIn.nil
            case zhg139_10 => (simp only [List.getElem?_toArray, List.getElem?_cons_succ, List.getElem?_cons_zero]; rfl)
            ·
             intro K hK
             rw [if_pos (by kernel_rfl)]
             go_simp
             refine hK _ _ ?_
             try simp only [Act.put, List.setIfInBounds_toArray, List.set_cons_zero, List.set_cons_succ]
             clear hK
             clear K
             refine wpAnyIn_ready (rs := [11]) (by kernel_rfl) (by simp) ?_
             refine AllReadyIn.cons (o := ?zog140_11) ?zhg140_11 ?zkg140_11 AllReadyIn.nil
             case zhg140_11 => (simp only [List.getElem?_toArray, List.getElem?_cons_succ, List.getElem?_cons_zero]; rfl)
             ·
              intro K hK
              rw [if_pos (by kernel_rfl)]
              go_simp
              refine hK _ _ ?_
              try simp only [Act.put, List.setIfInBounds_toArray, List.set_cons_zero, List.set_cons_succ]
              clear hK
              clear K
              refine wpAnyIn_done (by kernel_rfl) ?_ _
              clear c17 lx ly q0 c23 f23 c12 f12
              generalize hWd : W.drew = Wd at n23 n12 nC nS smd nBW bd ⊢
              clear hWd
              have c23 : Wd.cell? ⟨w9.heap.size, 0, none⟩ = some (.int .i64 (j : Nat)) := n23.cell 0
              have f23 := n23.frozen 0
              have hwk : IntKind.i64.wrap ((j : Int) + 1) = (j : Int) + 1 := IntWalk.i64_in _ (by omega)
              have hws : IntKind.i64.wrap st = st := IntWalk.i64_in _ (by omega)
              have e1 : ((j + 1 : Nat) : Int) = (j : Int) + 1 := by omega
              have N23 := n23.setCell 0 (.int .i64 ((j : Int) + 1))
              have B12 := n12.other (a := ⟨w9.heap.size, 0, none⟩) (by show w.heap.size + 3 ≠ w9.heap.size; omega) (.int .i64 ((j : Int) + 1))
              have s11 : (Wd.setCell ⟨w9.heap.size, 0, none⟩ (.int .i64 ((j : Int) + 1))).cell? ⟨w.heap.size + 2, 0, none⟩ = some (.int .u8 st) := (nS.other (a := ⟨w9.heap.size, 0, none⟩) (by show w.heap.size + 2 ≠ w9.heap.size; omega) (.int .i64 ((j : Int) + 1))).cell 0
              have d12 := B12.cell 0
              have g12 := B12.frozen 0
              have d23 : (Wd.setCell ⟨w9.heap.size, 0, none⟩ (.int .i64 ((j : Int) + 1))).cell? ⟨w9.heap.size, 0, none⟩ = some (.int .i64 ((j : Int) + 1)) := N23.cell 0
              have BW1 := Lib.hid (nBW.setCell (p := ⟨w9.heap.size, 0, none⟩) (by show w.heap.size ≤ w9.heap.size; omega) (.int .i64 ((j : Int) + 1)))
              have KF1 := Lib.hid ((KeepsFrom.of_grownBy (B := Wt.heap.size) (row := none) (grown_of_below bd) (fun k e => by cases e)).trans ((KeepsOthers.setCell Wd ⟨w9.heap.size, 0, none⟩ (.int .i64 ((j : Int) + 1))).from Wt.heap.size))
              have KP1 : Hid (KpO (fun k => k = w9.heap.size ∨ k = w.heap.size + 3) W (Wd.setCell ⟨w9.heap.size, 0, none⟩ (.int .i64 ((j : Int) + 1)))) := Lib.hid ((KpO.of_below bd).trans (KpO.grown (setCell_grown Wd w9.heap.size 0 (.int .i64 ((j : Int) + 1))) (fun r e => .inl (Option.some.inj e).symm)))
              have SM1 := Lib.hid (smd.step (setCell_grown Wd w9.heap.size 0 (.int .i64 ((j : Int) + 1))) (fun r e => .inl (.inl (Option.some.inj e).symm)))
              have P23 : Hid (Blk (Wd.setCell ⟨w9.heap.size, 0, none⟩ (.int .i64 ((j : Int) + 1))) w9.heap.size 3 [.int .i64 (pl.length : Nat)]) := Lib.hid (by rw [HLEN.out, e1]; exact N23)
              have P12 := Lib.hid B12
              clear N23 B12 n23 n12 nX nC nS smd hsm h2 h3 hX nBW e1
              by_cases hjs : (j : Int) + 1 = st
              ·
               have hjb : ((j : Int) + 1 == st) = true := by simpa using hjs
               have P2 := Lib.hid (P12.out.setCell 0 (.bool true))
               have BW2 := Lib.hid (BW1.out.setCell (p := ⟨w.heap.size + 3, 0, none⟩) (by show w.heap.size ≤ w.heap.size + 3; omega) (.bool true))
               have KF2 := Lib.hid (KF1.out.trans ((KeepsOthers.setCell _ ⟨w.heap.size + 3, 0, none⟩ (.bool true)).from Wt.heap.size))
               clear hjs
               gi_wp2
               exact ⟨KF2.out, rfl, true, fun _ => rfl, P2.out, BW2.out⟩
              ·
               have hjb : ((j : Int) + 1 == st) = false := by simpa using hjs
               gi_wp2
               exact ⟨KF1.out, KP1.out, SM1.out, P23.out, P12.out, BW1.out⟩
       ·
        have HNE : Hid (pl <+: LB → False) := Lib.hid (fun h => hxy (HPRE.out h).2.symm)
        have q0 := fun n => binI_diff (F := Fence.wide.inRound lp) (n := n) hxy
        obtain ⟨xk, hxk⟩ : ∃ xk, xk = LB.getD j pD := ⟨_, rfl⟩
        rw [← hxk] at ly q0
        clear hxy hxk
        clear hrr nP HPRE nX nC nS
        gi_wp2
        refine wpIn_region_any (by kernel_rfl) ?_
        change wpAnyIn _ _ _ _ _ _ _ _ _ (World.drew W)
        refine cutA (A := ?pAq180) (fun hcut => ?pathsq180) ?restq180
        case pathsq180 =>
         refine wpAnyIn_ready (rs := [0, 1]) (by kernel_rfl) (by simp) ?_
         refine AllReadyIn.cons (o := ?zog181_0) ?zhg181_0 ?zkg181_0 (AllReadyIn.cons (o := ?zog181_1) ?zhg181_1 ?zkg181_1 AllReadyIn.nil)
         case zhg181_0 => (simp only [List.getElem?_toArray, List.getElem?_cons_succ, List.getElem?_cons_zero]; rfl)
         case zhg181_1 => (simp only [List.getElem?_toArray, List.getElem?_cons_succ, List.getElem?_cons_zero]; rfl)
         ·
          intro K hK
          rw [if_pos (by kernel_rfl)]
          go_simp
          refine hK _ _ ?_
          try simp only [Act.put, List.setIfInBounds_toArray, List.set_cons_zero, List.set_cons_succ]
          clear hK
          clear K
          refine wpAnyIn_ready (rs := [1]) (by kernel_rfl) (by simp) ?_
          refine AllReadyIn.cons (o := ?zog182_1) ?zhg182_1 ?zkg182_1 AllReadyIn.nil
          case zhg182_1 => (simp only [List.getElem?_toArray, List.getElem?_cons_succ, List.getElem?_cons_zero]; rfl)
          ·
           intro K hK
           rw [if_pos (by kernel_rfl)]
           go_simp
           refine hK _ _ ?_
           try simp only [Act.put, List.setIfInBounds_toArray, List.set_cons_zero, List.set_cons_succ]
           clear hK
           clear K
           refine wpAnyIn_ready (rs := [2]) (by kernel_rfl) (by simp) ?_
           refine AllReadyIn.cons (o := ?zog183_2) ?zhg183_2 ?zkg183_2 AllReadyIn.nil
           case zhg183_2 => (simp only [List.getElem?_toArray, List.getElem?_cons_succ, List.getElem?_cons_zero]; rfl)
           ·
            intro K hK
            rw [if_pos (by kernel_rfl)]
            go_simp
            refine hK _ _ ?_
            try simp only [Act.put, List.setIfInBounds_toArray, List.set_cons_zero, List.set_cons_succ]
            clear hK
            clear K
            exact hcut
         ·
          intro K hK
          rw [if_pos (by kernel_rfl)]
          go_simp
          refine hK _ _ ?_
          try simp only [Act.put, List.setIfInBounds_toArray, List.set_cons_zero, List.set_cons_succ]
          clear hK
          clear K
          refine wpAnyIn_ready (rs := [0, 2]) (by kernel_rfl) (by simp) ?_
          refine AllReadyIn.cons (o := ?zog184_0) ?zhg184_0 ?zkg184_0 (AllReadyIn.cons (o := ?zog184_2) ?zhg184_2 ?zkg184_2 AllReadyIn.nil)
          case zhg184_0 => (simp only [List.getElem?_toArray, List.getElem?_cons_succ, List.getElem?_cons_zero]; rfl)
          case zhg184_2 => (simp only [List.getElem?_toArray, List.getElem?_cons_succ, List.getElem?_cons_zero]; rfl)
          ·
           intro K hK
           rw [if_pos (by kernel_rfl)]
           go_simp
           refine hK _ _ ?_
           try simp only [Act.put, List.setIfInBounds_toArray, List.set_cons_zero, List.set_cons_succ]
           clear hK
           clear K
           refine wpAnyIn_ready (rs := [2]) (by kernel_rfl) (by simp) ?_
           refine AllReadyIn.cons (o := ?zog185_2) ?zhg185_2 ?zkg185_2 AllReadyIn.nil
           case zhg185_2 => (simp only [List.getElem?_toArray, List.getElem?_cons_succ, List.getElem?_cons_zero]; rfl)
           ·
            intro K hK
            rw [if_pos (by kernel_rfl)]
            go_simp
            refine hK _ _ ?_
            try simp only [Act.put, List.setIfInBounds_toArray, List.set_cons_zero, List.set_cons_succ]
            clear hK
            clear K
            exact hcut
          ·
           intro K hK
           rw [if_pos (by kernel_rfl)]
           go_simp
           refine hK _ _ ?_
           try simp only [Act.put, List.setIfInBounds_toArray, List.set_cons_zero, List.set_cons_succ]
           clear hK
           clear K
           refine wpAnyIn_ready (rs := [0]) (by kernel_rfl) (by simp) ?_
           refine AllReadyIn.cons (o := ?zog186_0) ?zhg186_0 ?zkg186_0 AllReadyIn.nil
           case zhg186_0 => (simp only [List.getElem?_toArray, List.getElem?_cons_succ, List.getElem?_cons_zero]; rfl)
           ·
            intro K hK
            rw [if_pos (by kernel_rfl)]
            go_simp
            refine hK _ _ ?_
            try simp only [Act.put, List.setIfInBounds_toArray, List.set_cons_zero, List.set_cons_succ]
            clear hK
            clear K
            exact hcut
        case restq180 =>
         refine wpAnyIn_ready (rs := [3]) (by kernel_rfl) (by simp) ?_
         refine AllReadyIn.cons (o := ?zog187_3) ?zhg187_3 ?zkg187_3 AllReadyIn.nil
         case zhg187_3 => (simp only [List.getElem?_toArray, List.getElem?_cons_succ, List.getElem?_cons_zero]; rfl)
         ·
          intro K hK
          rw [if_pos (by kernel_rfl)]
          go_simp
          refine hK _ _ ?_
          try simp only [Act.put, List.setIfInBounds_toArray, List.set_cons_zero, List.set_cons_succ]
          clear hK
          clear K
          refine wpAnyIn_ready (rs := [4]) (by kernel_rfl) (by simp) ?_
          refine AllReadyIn.cons (o := ?zog188_4) ?zhg188_4 ?zkg188_4 AllReadyIn.nil
          case zhg188_4 => (simp only [List.getElem?_toArray, List.getElem?_cons_succ, List.getElem?_cons_zero]; rfl)
          ·
           intro K hK
           rw [if_pos (by kernel_rfl)]
           go_simp
           refine hK _ _ ?_
           try simp only [Act.put, List.setIfInBounds_toArray, List.set_cons_zero, List.set_cons_succ]
           clear hK
           clear K
           refine cutA (A := ?pBq180) (fun hcut => ?pathsBq180) ?restBq180
           case pathsBq180 =>
            refine wpAnyIn_ready (rs := [5, 6, 7]) (by kernel_rfl) (by simp) ?_
            refine AllReadyIn.cons (o := ?zog189_5) ?zhg189_5 ?zkg189_5 (AllReadyIn.cons (o := ?zog189_6) ?zhg189_6 ?zkg189_6 (AllReadyIn.cons (o := ?zog189_7) ?zhg189_7 ?zkg189_7 AllReadyIn.nil))
            case zhg189_5 => (simp only [List.getElem?_toArray, List.getElem?_cons_succ, List.getElem?_cons_zero]; rfl)
            case zhg189_6 => (simp only [List.getElem?_toArray, List.getElem?_cons_succ, List.getElem?_cons_zero]; rfl)
            case zhg189_7 => (simp only [List.getElem?_toArray, List.getElem?_cons_succ, List.getElem?_cons_zero]; rfl)
            ·
             intro K hK
             rw [if_pos (by kernel_rfl)]
             go_simp
             refine hK _ _ ?_
             try simp only [Act.put, List.setIfInBounds_toArray, List.set_cons_zero, List.set_cons_succ]
             clear hK
             clear K
             refine wpAnyIn_ready (rs := [6, 7]) (by kernel_rfl) (by simp) ?_
             refine AllReadyIn.cons (o := ?zog190_6) ?zhg190_6 ?zkg190_6 (AllReadyIn.cons (o := ?zog190_7) ?zhg190_7 ?zkg190_7 AllReadyIn.nil)
             case zhg190_6 => (simp only [List.getElem?_toArray, List.getElem?_cons_succ, List.getElem?_cons_zero]; rfl)
             case zhg190_7 => (simp only [List.getElem?_toArray, List.getElem?_cons_succ, List.getElem?_cons_zero]; rfl)
             ·
              intro K hK
              rw [if_pos (by kernel_rfl)]
              go_simp
              refine hK _ _ ?_
              try simp only [Act.put, List.setIfInBounds_toArray, List.set_cons_zero, List.set_cons_succ]
              clear hK
              clear K
              refine wpAnyIn_ready (rs := [7]) (by kernel_rfl) (by simp) ?_
              refine AllReadyIn.cons (o := ?zog191_7) ?zhg191_7 ?zkg191_7 AllReadyIn.nil
              case zhg191_7 => (simp only [List.getElem?_toArray, List.getElem?_cons_succ, List.getElem?_cons_zero]; rfl)
              ·
               intro K hK
               rw [if_pos (by kernel_rfl)]
               go_simp
               refine hK _ _ ?_
               try simp only [Act.put, List.setIfInBounds_toArray, List.set_cons_zero, List.set_cons_succ]
               clear hK
               clear K
               refine wpAnyIn_ready (rs := [8]) (by kernel_rfl) (by simp) ?_
               refine AllReadyIn.cons (o := ?zog192_8) ?zhg192_8 ?zkg192_8 AllReadyIn.nil
               case zhg192_8 => (simp only [List.getElem?_toArray, List.getElem?_cons_succ, List.getElem?_cons_zero]; rfl)
               ·
                intro K hK
                rw [if_pos (by kernel_rfl)]
                go_simp
                refine hK _ _ ?_
                try simp only [Act.put, List.setIfInBounds_toArray, List.set_cons_zero, List.set_cons_succ]
                clear hK
                clear K
                refine wpAnyIn_ready (rs := [9]) (by kernel_rfl) (by simp) ?_
                refine AllReadyIn.cons (o := ?zog193_9) ?zhg193_9 ?zkg193_9 AllReadyIn.nil
                case zhg193_9 => (simp only [List.getElem?_toArray, List.getElem?_cons_succ, List.getElem?_cons_zero]; rfl)
                ·
                 intro K hK
                 rw [if_pos (by kernel_rfl)]
                 go_simp
                 refine hK _ _ ?_
                 try simp only [Act.put, List.setIfInBounds_toArray, List.set_cons_zero, List.set_cons_succ]
                 clear hK
                 clear K
                 exact hcut
             ·
              intro K hK
              rw [if_pos (by kernel_rfl)]
              go_simp
              refine hK _ _ ?_
              try simp only [Act.put, List.setIfInBounds_toArray, List.set_cons_zero, List.set_cons_succ]
              clear hK
              clear K
              refine wpAnyIn_ready (rs := [6]) (by kernel_rfl) (by simp) ?_
              refine AllReadyIn.cons (o := ?zog194_6) ?zhg194_6 ?zkg194_6 AllReadyIn.nil
              case zhg194_6 => (simp only [List.getElem?_toArray, List.getElem?_cons_succ, List.getElem?_cons_zero]; rfl)
              ·
               intro K hK
               rw [if_pos (by kernel_rfl)]
               go_simp
               refine hK _ _ ?_
               try simp only [Act.put, List.setIfInBounds_toArray, List.set_cons_zero, List.set_cons_succ]
               clear hK
               clear K
               refine wpAnyIn_ready (rs := [8]) (by kernel_rfl) (by simp) ?_
               refine AllReadyIn.cons (o := ?zog195_8) ?zhg195_8 ?zkg195_8 AllReadyIn.nil
               case zhg195_8 => (simp only [List.getElem?_toArray, List.getElem?_cons_succ, List.getElem?_cons_zero]; rfl)
               ·
                intro K hK
                rw [if_pos (by kernel_rfl)]
                go_simp
                refine hK _ _ ?_
                try simp only [Act.put, List.setIfInBounds_toArray, List.set_cons_zero, List.set_cons_succ]
                clear hK
                clear K
                refine wpAnyIn_ready (rs := [9]) (by kernel_rfl) (by simp) ?_
                refine AllReadyIn.cons (o := ?zog196_9) ?zhg196_9 ?zkg196_9 AllReadyIn.nil
                case zhg196_9 => (simp only [List.getElem?_toArray, List.getElem?_cons_succ, List.getElem?_cons_zero]; rfl)
                ·
                 intro K hK
                 rw [if_pos (by kernel_rfl)]
                 go_simp
                 refine hK _ _ ?_
                 try simp only [Act.put, List.setIfInBounds_toArray, List.set_cons_zero, List.set_cons_succ]
                 clear hK
                 clear K
                 exact hcut
            ·
             intro K hK
             rw [if_pos (by kernel_rfl)]
             go_simp
             refine hK _ _ ?_
             try simp only [Act.put, List.setIfInBounds_toArray, List.set_cons_zero, List.set_cons_succ]
             clear hK
             clear K
             refine wpAnyIn_ready (rs := [5, 7]) (by kernel_rfl) (by simp) ?_
             refine AllReadyIn.cons (o := ?zog197_5) ?zhg197_5 ?zkg197_5 (AllReadyIn.cons (o := ?zog197_7) ?zhg197_7 ?zkg197_7 AllReadyIn.nil)
             case zhg197_5 => (simp only [List.getElem?_toArray, List.getElem?_cons_succ, List.getElem?_cons_zero]; rfl)
             case zhg197_7 => (simp only [List.getElem?_toArray, List.getElem?_cons_succ, List.getElem?_cons_zero]; rfl)
             ·
              intro K hK
              rw [if_pos (by kernel_rfl)]
              go_simp
              refine hK _ _ ?_
              try simp only [Act.put, List.setIfInBounds_toArray, List.set_cons_zero, List.set_cons_succ]
              clear hK
              clear K
              refine wpAnyIn_ready (rs := [7]) (by kernel_rfl) (by simp) ?_
              refine AllReadyIn.cons (o := ?zog198_7) ?zhg198_7 ?zkg198_7 AllReadyIn.nil
              case zhg198_7 => (simp only [List.getElem?_toArray, List.getElem?_cons_succ, List.getElem?_cons_zero]; rfl)
              ·
               intro K hK
               rw [if_pos (by kernel_rfl)]
               go_simp
               refine hK _ _ ?_
               try simp only [Act.put, List.setIfInBounds_toArray, List.set_cons_zero, List.set_cons_succ]
               clear hK
               clear K
               refine wpAnyIn_ready (rs := [8]) (by kernel_rfl) (by simp) ?_
               refine AllReadyIn.cons (o := ?zog199_8) ?zhg199_8 ?zkg199_8 AllReadyIn.nil
               case zhg199_8 => (simp only [List.getElem?_toArray, List.getElem?_cons_succ, List.getElem?_cons_zero]; rfl)
               ·
                intro K hK
                rw [if_pos (by kernel_rfl)]
                go_simp
                refine hK _ _ ?_
                try simp only [Act.put, List.setIfInBounds_toArray, List.set_cons_zero, List.set_cons_succ]
                clear hK
                clear K
                refine wpAnyIn_ready (rs := [9]) (by kernel_rfl) (by simp) ?_
                refine AllReadyIn.cons (o := ?zog200_9) ?zhg200_9 ?zkg200_9 AllReadyIn.nil
                case zhg200_9 => (simp only [List.getElem?_toArray, List.getElem?_cons_succ, List.getElem?_cons_zero]; rfl)
                ·
                 intro K hK
                 rw [if_pos (by kernel_rfl)]
                 go_simp
                 refine hK _ _ ?_
                 try simp only [Act.put, List.setIfInBounds_toArray, List.set_cons_zero, List.set_cons_succ]
                 clear hK
                 clear K
                 exact hcut
             ·
              intro K hK
              rw [if_pos (by kernel_rfl)]
              go_simp
              refine hK _ _ ?_
              try simp only [Act.put, List.setIfInBounds_toArray, List.set_cons_zero, List.set_cons_succ]
              clear hK
              clear K
              refine wpAnyIn_ready (rs := [5, 8]) (by kernel_rfl) (by simp) ?_
              refine AllReadyIn.cons (o := ?zog201_5) ?zhg201_5 ?zkg201_5 (AllReadyIn.cons (o := ?zog201_8) ?zhg201_8 ?zkg201_8 AllReadyIn.nil)
              case zhg201_5 => (simp only [List.getElem?_toArray, List.getElem?_cons_succ, List.getElem?_cons_zero]; rfl)
              case zhg201_8 => (simp only [List.getElem?_toArray, List.getElem?_cons_succ, List.getElem?_cons_zero]; rfl)
              ·
               intro K hK
               rw [if_pos (by kernel_rfl)]
               go_simp
               refine hK _ _ ?_
               try simp only [Act.put, List.setIfInBounds_toArray, List.set_cons_zero, List.set_cons_succ]
               clear hK
               clear K
               refine wpAnyIn_ready (rs := [8]) (by kernel_rfl) (by simp) ?_
               refine AllReadyIn.cons (o := ?zog202_8) ?zhg202_8 ?zkg202_8 AllReadyIn.nil
               case zhg202_8 => (simp only [List.getElem?_toArray, List.getElem?_cons_succ, List.getElem?_cons_zero]; rfl)
               ·
                intro K hK
                rw [if_pos (by kernel_rfl)]
                go_simp
                refine hK _ _ ?_
                try simp only [Act.put, List.setIfInBounds_toArray, List.set_cons_zero, List.set_cons_succ]
                clear hK
                clear K
                refine wpAnyIn_ready (rs := [9]) (by kernel_rfl) (by simp) ?_
                refine AllReadyIn.cons (o := ?zog203_9) ?zhg203_9 ?zkg203_9 AllReadyIn.nil
                case zhg203_9 => (simp only [List.getElem?_toArray, List.getElem?_cons_succ, List.getElem?_cons_zero]; rfl)
                ·
                 intro K hK
                 rw [if_pos (by kernel_rfl)]
                 go_simp
                 refine hK _ _ ?_
                 try simp only [Act.put, List.setIfInBounds_toArray, List.set_cons_zero, List.set_cons_succ]
                 clear hK
                 clear K
                 exact hcut
              ·
               intro K hK
               rw [if_pos (by kernel_rfl)]
               go_simp
               refine hK _ _ ?_
               try simp only [Act.put, List.setIfInBounds_toArray, List.set_cons_zero, List.set_cons_succ]
               clear hK
               clear K
               refine wpAnyIn_ready (rs := [5, 9]) (by kernel_rfl) (by simp) ?_
               refine AllReadyIn.cons (o := ?zog204_5) ?zhg204_5 ?zkg204_5 (AllReadyIn.cons (o := ?zog204_9) ?zhg204_9 ?zkg204_9 AllReadyIn.nil)
               case zhg204_5 => (simp only [List.getElem?_toArray, List.getElem?_cons_succ, List.getElem?_cons_zero]; rfl)
               case zhg204_9 => (simp only [List.getElem?_toArray, List.getElem?_cons_succ, List.getElem?_cons_zero]; rfl)
               ·
                intro K hK
                rw [if_pos (by kernel_rfl)]
                go_simp
                refine hK _ _ ?_
                try simp only [Act.put, List.setIfInBounds_toArray, List.set_cons_zero, List.set_cons_succ]
                clear hK
                clear K
                refine wpAnyIn_ready (rs := [9]) (by kernel_rfl) (by simp) ?_
                refine AllReadyIn.cons (o := ?zog205_9) ?zhg205_9 ?zkg205_9 AllReadyIn.nil
                case zhg205_9 => (simp only [List.getElem?_toArray, List.getElem?_cons_succ, List.getElem?_cons_zero]; rfl)
                ·
                 intro K hK
                 rw [if_pos (by kernel_rfl)]
                 go_simp
                 refine hK _ _ ?_
                 try simp only [Act.put, List.setIfInBounds_toArray, List.set_cons_zero, List.set_cons_succ]
                 clear hK
                 clear K
                 exact hcut
               ·
                intro K hK
                rw [if_pos (by kernel_rfl)]
                go_simp
                refine hK _ _ ?_
                try simp only [Act.put, List.setIfInBounds_toArray, List.set_cons_zero, List.set_cons_succ]
                clear hK
                clear K
                refine wpAnyIn_ready (rs := [5]) (by kernel_rfl) (by simp) ?_
                refine AllReadyIn.cons (o := ?zog206_5) ?zhg206_5 ?zkg206_5 AllReadyIn.nil
                case zhg206_5 => (simp only [List.getElem?_toArray, List.getElem?_cons_succ, List.getElem?_cons_zero]; rfl)
                ·
                 intro K hK
                 rw [if_pos (by kernel_rfl)]
                 go_simp
                 refine hK _ _ ?_
                 try simp only [Act.put, List.setIfInBounds_toArray, List.set_cons_zero, List.set_cons_succ]
                 clear hK
                 clear K
                 exact hcut
            ·
             intro K hK
             rw [if_pos (by kernel_rfl)]
             go_simp
             refine hK _ _ ?_
             try simp only [Act.put, List.setIfInBounds_toArray, List.set_cons_zero, List.set_cons_succ]
             clear hK
             clear K
             refine wpAnyIn_ready (rs := [5, 6]) (by kernel_rfl) (by simp) ?_
             refine AllReadyIn.cons (o := ?zog207_5) ?zhg207_5 ?zkg207_5 (AllReadyIn.cons (o := ?zog207_6) ?zhg207_6 ?zkg207_6 AllReadyIn.nil)
             case zhg207_5 => (simp only [List.getElem?_toArray, List.getElem?_cons_succ, List.getElem?_cons_zero]; rfl)
             case zhg207_6 => (simp only [List.getElem?_toArray, List.getElem?_cons_succ, List.getElem?_cons_zero]; rfl)
             ·
              intro K hK
              rw [if_pos (by kernel_rfl)]
              go_simp
              refine hK _ _ ?_
              try simp only [Act.put, List.setIfInBounds_toArray, List.set_cons_zero, List.set_cons_succ]
              clear hK
              clear K
              refine wpAnyIn_ready (rs := [6]) (by kernel_rfl) (by simp) ?_
              refine AllReadyIn.cons (o := ?zog208_6) ?zhg208_6 ?zkg208_6 AllReadyIn.nil
              case zhg208_6 => (simp only [List.getElem?_toArray, List.getElem?_cons_succ, List.getElem?_cons_zero]; rfl)
              ·
               intro K hK
               rw [if_pos (by kernel_rfl)]
               go_simp
               refine hK _ _ ?_
               try simp only [Act.put, List.setIfInBounds_toArray, List.set_cons_zero, List.set_cons_succ]
               clear hK
               clear K
               refine wpAnyIn_ready (rs := [8]) (by kernel_rfl) (by simp) ?_
               refine AllReadyIn.cons (o := ?zog209_8) ?zhg209_8 ?zkg209_8 AllReadyIn.nil
               case zhg209_8 => (simp only [List.getElem?_toArray, List.getElem?_cons_succ, List.getElem?_cons_zero]; rfl)
               ·
                intro K hK
                rw [if_pos (by kernel_rfl)]
                go_simp
                refine hK _ _ ?_
                try simp only [Act.put, List.setIfInBounds_toArray, List.set_cons_zero, List.set_cons_succ]
                clear hK
                clear K
                refine wpAnyIn_ready (rs := [9]) (by kernel_rfl) (by simp) ?_
                refine AllReadyIn.cons (o := ?zog210_9) ?zhg210_9 ?zkg210_9 AllReadyIn.nil
                case zhg210_9 => (simp only [List.getElem?_toArray, List.getElem?_cons_succ, List.getElem?_cons_zero]; rfl)
                ·
                 intro K hK
                 rw [if_pos (by kernel_rfl)]
                 go_simp
                 refine hK _ _ ?_
                 try simp only [Act.put, List.setIfInBounds_toArray, List.set_cons_zero, List.set_cons_succ]
                 clear hK
                 clear K
                 exact hcut
             ·
              intro K hK
              rw [if_pos (by kernel_rfl)]
              go_simp
              refine hK _ _ ?_
              try simp only [Act.put, List.setIfInBounds_toArray, List.set_cons_zero, List.set_cons_succ]
              clear hK
              clear K
              refine wpAnyIn_ready (rs := [5, 8]) (by kernel_rfl) (by simp) ?_
              refine AllReadyIn.cons (o := ?zog211_5) ?zhg211_5 ?zkg211_5 (AllReadyIn.cons (o := ?zog211_8) ?zhg211_8 ?zkg211_8 AllReadyIn.nil)
              case zhg211_5 => (simp only [List.getElem?_toArray, List.getElem?_cons_succ, List.getElem?_cons_zero]; rfl)
              case zhg211_8 => (simp only [List.getElem?_toArray, List.getElem?_cons_succ, List.getElem?_cons_zero]; rfl)
              ·
               intro K hK
               rw [if_pos (by kernel_rfl)]
               go_simp
               refine hK _ _ ?_
               try simp only [Act.put, List.setIfInBounds_toArray, List.set_cons_zero, List.set_cons_succ]
               clear hK
               clear K
               refine wpAnyIn_ready (rs := [8]) (by kernel_rfl) (by simp) ?_
               refine AllReadyIn.cons (o := ?zog212_8) ?zhg212_8 ?zkg212_8 AllReadyIn.nil
               case zhg212_8 => (simp only [List.getElem?_toArray, List.getElem?_cons_succ, List.getElem?_cons_zero]; rfl)
               ·
                intro K hK
                rw [if_pos (by kernel_rfl)]
                go_simp
                refine hK _ _ ?_
                try simp only [Act.put, List.setIfInBounds_toArray, List.set_cons_zero, List.set_cons_succ]
                clear hK
                clear K
                refine wpAnyIn_ready (rs := [9]) (by kernel_rfl) (by simp) ?_
                refine AllReadyIn.cons (o := ?zog213_9) ?zhg213_9 ?zkg213_9 AllReadyIn.nil
                case zhg213_9 => (simp only [List.getElem?_toArray, List.getElem?_cons_succ, List.getElem?_cons_zero]; rfl)
                ·
                 intro K hK
                 rw [if_pos (by kernel_rfl)]
                 go_simp
                 refine hK _ _ ?_
                 try simp only [Act.put, List.setIfInBounds_toArray, List.set_cons_zero, List.set_cons_succ]
                 clear hK
                 clear K
                 exact hcut
              ·
               intro K hK
               rw [if_pos (by kernel_rfl)]
               go_simp
               refine hK _ _ ?_
               try simp only [Act.put, List.setIfInBounds_toArray, List.set_cons_zero, List.set_cons_succ]
               clear hK
               clear K
               refine wpAnyIn_ready (rs := [5, 9]) (by kernel_rfl) (by simp) ?_
               refine AllReadyIn.cons (o := ?zog214_5) ?zhg214_5 ?zkg214_5 (AllReadyIn.cons (o := ?zog214_9) ?zhg214_9 ?zkg214_9 AllReadyIn.nil)
               case zhg214_5 => (simp only [List.getElem?_toArray, List.getElem?_cons_succ, List.getElem?_cons_zero]; rfl)
               case zhg214_9 => (simp only [List.getElem?_toArray, List.getElem?_cons_succ, List.getElem?_cons_zero]; rfl)
               ·
                intro K hK
                rw [if_pos (by kernel_rfl)]
                go_simp
                refine hK _ _ ?_
                try simp only [Act.put, List.setIfInBounds_toArray, List.set_cons_zero, List.set_cons_succ]
                clear hK
                clear K
                refine wpAnyIn_ready (rs := [9]) (by kernel_rfl) (by simp) ?_
                refine AllReadyIn.cons (o := ?zog215_9) ?zhg215_9 ?zkg215_9 AllReadyIn.nil
                case zhg215_9 => (simp only [List.getElem?_toArray, List.getElem?_cons_succ, List.getElem?_cons_zero]; rfl)
                ·
                 intro K hK
                 rw [if_pos (by kernel_rfl)]
                 go_simp
                 refine hK _ _ ?_
                 try simp only [Act.put, List.setIfInBounds_toArray, List.set_cons_zero, List.set_cons_succ]
                 clear hK
                 clear K
                 exact hcut
               ·
                intro K hK
                rw [if_pos (by kernel_rfl)]
                go_simp
                refine hK _ _ ?_
                try simp only [Act.put, List.setIfInBounds_toArray, List.set_cons_zero, List.set_cons_succ]
                clear hK
                clear K
                refine wpAnyIn_ready (rs := [5]) (by kernel_rfl) (by simp) ?_
                refine AllReadyIn.cons (o := ?zog216_5) ?zhg216_5 ?zkg216_5 AllReadyIn.nil
                case zhg216_5 => (simp only [List.getElem?_toArray, List.getElem?_cons_succ, List.getElem?_cons_zero]; rfl)
                ·
                 intro K hK
                 rw [if_pos (by kernel_rfl)]
                 go_simp
                 refine hK _ _ ?_
                 try simp only [Act.put, List.setIfInBounds_toArray, List.set_cons_zero, List.set_cons_succ]
                 clear hK
                 clear K
                 exact hcut
           case restBq180 =>
            refine wpAnyIn_ready (rs := [10]) (by kernel_rfl) (by simp) ?_
            refine AllReadyIn.cons (o := ?zog217_10) ?zhg217_10 ?zkg217_10 AllReadyIn.nil
            case zhg217_10 => (simp only [List.getElem?_toArray, List.getElem?_cons_succ, List.getElem?_cons_zero]; rfl)
            ·
             intro K hK
             rw [if_pos (by kernel_rfl)]
             go_simp
             refine hK _ _ ?_
             try simp only [Act.put, List.setIfInBounds_toArray, List.set_cons_zero, List.set_cons_succ]
             clear hK
             clear K
             refine wpAnyIn_ready (rs := [11]) (by kernel_rfl) (by simp) ?_
             refine AllReadyIn.cons (o := ?zog218_11) ?zhg218_11 ?zkg218_11 AllReadyIn.nil
             case zhg218_11 => (simp only [List.getElem?_toArray, List.getElem?_cons_succ, List.getElem?_cons_zero]; rfl)
             ·
              intro K hK
              rw [if_pos (by kernel_rfl)]
              go_simp
              refine hK _ _ ?_
              try simp only [Act.put, List.setIfInBounds_toArray, List.set_cons_zero, List.set_cons_succ]
              clear hK
              clear K
              refine wpAnyIn_done (by kernel_rfl) ?_ _
              gi_wp2
              exact HFAIL.out HNE.out
      ·
       have HNE : Hid (pl <+: LB → False) := Lib.hid (fun h => by have := (HPRE.out h).1; rw [← HNB.out] at this; omega)
       have hjd : decide ((nB : Int) ≤ (j : Int)) = true := by simp; omega
       have hjd2 : nB ≤ j := by omega
       have hjd3 : decide (nB ≤ j) = true := decide_eq_true hjd2
       clear nP HPRE nX nC nS
       gi_wp2
       refine wpIn_region_any (by kernel_rfl) ?_
       change wpAnyIn _ _ _ _ _ _ _ _ _ (World.drew W)
       refine cutA (A := ?pAq258) (fun hcut => ?pathsq258) ?restq258
       case pathsq258 =>
        refine wpAnyIn_ready (rs := [0, 1]) (by kernel_rfl) (by simp) ?_
        refine AllReadyIn.cons (o := ?zog259_0) ?zhg259_0 ?zkg259_0 (AllReadyIn.cons (o := ?zog259_1) ?zhg259_1 ?zkg259_1 AllReadyIn.nil)
        case zhg259_0 => (simp only [List.getElem?_toArray, List.getElem?_cons_succ, List.getElem?_cons_zero]; rfl)
        case zhg259_1 => (simp only [List.getElem?_toArray, List.getElem?_cons_succ, List.getElem?_cons_zero]; rfl)
        ·
         intro K hK
         rw [if_pos (by kernel_rfl)]
         go_simp
         refine hK _ _ ?_
         try simp only [Act.put, List.setIfInBounds_toArray, List.set_cons_zero, List.set_cons_succ]
         clear hK
         clear K
         refine wpAnyIn_ready (rs := [1]) (by kernel_rfl) (by simp) ?_
         refine AllReadyIn.cons (o := ?zog260_1) ?zhg260_1 ?zkg260_1 AllReadyIn.nil
         case zhg260_1 => (simp only [List.getElem?_toArray, List.getElem?_cons_succ, List.getElem?_cons_zero]; rfl)
         ·
          intro K hK
          rw [if_pos (by kernel_rfl)]
          go_simp
          refine hK _ _ ?_
          try simp only [Act.put, List.setIfInBounds_toArray, List.set_cons_zero, List.set_cons_succ]
          clear hK
          clear K
          refine wpAnyIn_ready (rs := [2]) (by kernel_rfl) (by simp) ?_
          refine AllReadyIn.cons (o := ?zog261_2) ?zhg261_2 ?zkg261_2 AllReadyIn.nil
          case zhg261_2 => (simp only [List.getElem?_toArray, List.getElem?_cons_succ, List.getElem?_cons_zero]; rfl)
          ·
           intro K hK
           rw [if_pos (by kernel_rfl)]
           go_simp
           refine hK _ _ ?_
           try simp only [Act.put, List.setIfInBounds_toArray, List.set_cons_zero, List.set_cons_succ]
           clear hK
           clear K
           exact hcut
        ·
         intro K hK
         rw [if_pos (by kernel_rfl)]
         go_simp
         refine hK _ _ ?_
         try simp only [Act.put, List.setIfInBounds_toArray, List.set_cons_zero, List.set_cons_succ]
         clear hK
         clear K
         refine wpAnyIn_ready (rs := [0, 2]) (by kernel_rfl) (by simp) ?_
         refine AllReadyIn.cons (o := ?zog262_0) ?zhg262_0 ?zkg262_0 (AllReadyIn.cons (o := ?zog262_2) ?zhg262_2 ?zkg262_2 AllReadyIn.nil)
         case zhg262_0 => (simp only [List.getElem?_toArray, List.getElem?_cons_succ, List.getElem?_cons_zero]; rfl)
         case zhg262_2 => (simp only [List.getElem?_toArray, List.getElem?_cons_succ, List.getElem?_cons_zero]; rfl)
         ·
          intro K hK
          rw [if_pos (by kernel_rfl)]
          go_simp
          refine hK _ _ ?_
          try simp only [Act.put, List.setIfInBounds_toArray, List.set_cons_zero, List.set_cons_succ]
          clear hK
          clear K
          refine wpAnyIn_ready (rs := [2]) (by kernel_rfl) (by simp) ?_
          refine AllReadyIn.cons (o := ?zog263_2) ?zhg263_2 ?zkg263_2 AllReadyIn.nil
          case zhg263_2 => (simp only [List.getElem?_toArray, List.getElem?_cons_succ, List.getElem?_cons_zero]; rfl)
          ·
           intro K hK
           rw [if_pos (by kernel_rfl)]
           go_simp
           refine hK _ _ ?_
           try simp only [Act.put, List.setIfInBounds_toArray, List.set_cons_zero, List.set_cons_succ]
           clear hK
           clear K
           exact hcut
         ·
          intro K hK
          rw [if_pos (by kernel_rfl)]
          go_simp
          refine hK _ _ ?_
          try simp only [Act.put, List.setIfInBounds_toArray, List.set_cons_zero, List.set_cons_succ]
          clear hK
          clear K
          refine wpAnyIn_ready (rs := [0]) (by kernel_rfl) (by simp) ?_
          refine AllReadyIn.cons (o := ?zog264_0) ?zhg264_0 ?zkg264_0 AllReadyIn.nil
          case zhg264_0 => (simp only [List.getElem?_toArray, List.getElem?_cons_succ, List.getElem?_cons_zero]; rfl)
          ·
           intro K hK
           rw [if_pos (by kernel_rfl)]
           go_simp
           refine hK _ _ ?_
           try simp only [Act.put, List.setIfInBounds_toArray, List.set_cons_zero, List.set_cons_succ]
           clear hK
           clear K
           exact hcut
       case restq258 =>
        refine wpAnyIn_ready (rs := [3]) (by kernel_rfl) (by simp) ?_
        refine AllReadyIn.cons (o := ?zog265_3) ?zhg265_3 ?zkg265_3 AllReadyIn.nil
        case zhg265_3 => (simp only [List.getElem?_toArray, List.getElem?_cons_succ, List.getElem?_cons_zero]; rfl)
        ·
         intro K hK
         rw [if_pos (by kernel_rfl)]
         go_simp
         refine hK _ _ ?_
         try simp only [Act.put, List.setIfInBounds_toArray, List.set_cons_zero, List.set_cons_succ]
         clear hK
         clear K
         refine wpAnyIn_ready (rs := [4]) (by kernel_rfl) (by simp) ?_
         refine AllReadyIn.cons (o := ?zog266_4) ?zhg266_4 ?zkg266_4 AllReadyIn.nil
         case zhg266_4 => (simp only [List.getElem?_toArray, List.getElem?_cons_succ, List.getElem?_cons_zero]; rfl)
         ·
          intro K hK
          rw [if_pos (by kernel_rfl)]
          go_simp
          refine hK _ _ ?_
          try simp only [Act.put, List.setIfInBounds_toArray, List.set_cons_zero, List.set_cons_succ]
          clear hK
          clear K
          refine cutA (A := ?pBq258) (fun hcut => ?pathsBq258) ?restBq258
          case pathsBq258 =>
           refine wpAnyIn_ready (rs := [5, 6, 7]) (by kernel_rfl) (by simp) ?_
           refine AllReadyIn.cons (o := ?zog267_5) ?zhg267_5 ?zkg267_5 (AllReadyIn.cons (o := ?zog267_6) ?zhg267_6 ?zkg267_6 (AllReadyIn.cons (o := ?zog267_7) ?zhg267_7 ?zkg267_7 AllReadyIn.nil))
           case zhg267_5 => (simp only [List.getElem?_toArray, List.getElem?_cons_succ, List.getElem?_cons_zero]; rfl)
           case zhg267_6 => (simp only [List.getElem?_toArray, List.getElem?_cons_succ, List.getElem?_cons_zero]; rfl)
           case zhg267_7 => (simp only [List.getElem?_toArray, List.getElem?_cons_succ, List.getElem?_cons_zero]; rfl)
           ·
            intro K hK
            rw [if_neg (by rw [show Region.wanted _ _ = false by kernel_rfl]; exact Bool.false_ne_true)]
            refine ⟨fun _ _ => trivial, hK _ _ ?_⟩
            try simp only [Act.put, List.setIfInBounds_toArray, List.set_cons_zero, List.set_cons_succ]
            clear hK
            clear K
            refine wpAnyIn_ready (rs := [6, 7]) (by kernel_rfl) (by simp) ?_
            refine AllReadyIn.cons (o := ?zog268_6) ?zhg268_6 ?zkg268_6 (AllReadyIn.cons (o := ?zog268_7) ?zhg268_7 ?zkg268_7 AllReadyIn.nil)
            case zhg268_6 => (simp only [List.getElem?_toArray, List.getElem?_cons_succ, List.getElem?_cons_zero]; rfl)
            case zhg268_7 => (simp only [List.getElem?_toArray, List.getElem?_cons_succ, List.getElem?_cons_zero]; rfl)
            ·
             intro K hK
             rw [if_neg (by rw [show Region.wanted _ _ = false by kernel_rfl]; exact Bool.false_ne_true)]
             refine ⟨fun _ _ => trivial, hK _ _ ?_⟩
             try simp only [Act.put, List.setIfInBounds_toArray, List.set_cons_zero, List.set_cons_succ]
             clear hK
             clear K
             refine wpAnyIn_ready (rs := [7]) (by kernel_rfl) (by simp) ?_
             refine AllReadyIn.cons (o := ?zog269_7) ?zhg269_7 ?zkg269_7 AllReadyIn.nil
             case zhg269_7 => (simp only [List.getElem?_toArray, List.getElem?_cons_succ, List.getElem?_cons_zero]; rfl)
             ·
              intro K hK
              rw [if_neg (by rw [show Region.wanted _ _ = false by kernel_rfl]; exact Bool.false_ne_true)]
              refine ⟨fun _ _ => trivial, hK _ _ ?_⟩
              try simp only [Act.put, List.setIfInBounds_toArray, List.set_cons_zero, List.set_cons_succ]
              clear hK
              clear K
              refine wpAnyIn_ready (rs := [8]) (by kernel_rfl) (by simp) ?_
              refine AllReadyIn.cons (o := ?zog270_8) ?zhg270_8 ?zkg270_8 AllReadyIn.nil
              case zhg270_8 => (simp only [List.getElem?_toArray, List.getElem?_cons_succ, List.getElem?_cons_zero]; rfl)
              ·
               intro K hK
               rw [if_neg (by rw [show Region.wanted _ _ = false by kernel_rfl]; exact Bool.false_ne_true)]
               refine ⟨fun _ _ => trivial, hK _ _ ?_⟩
               try simp only [Act.put, List.setIfInBounds_toArray, List.set_cons_zero, List.set_cons_succ]
               clear hK
               clear K
               refine wpAnyIn_ready (rs := [9]) (by kernel_rfl) (by simp) ?_
               refine AllReadyIn.cons (o := ?zog271_9) ?zhg271_9 ?zkg271_9 AllReadyIn.nil
               case zhg271_9 => (simp only [List.getElem?_toArray, List.getElem?_cons_succ, List.getElem?_cons_zero]; rfl)
               ·
                intro K hK
                rw [if_neg (by rw [show Region.wanted _ _ = false by kernel_rfl]; exact Bool.false_ne_true)]
                refine ⟨fun _ _ => trivial, hK _ _ ?_⟩
                try simp only [Act.put, List.setIfInBounds_toArray, List.set_cons_zero, List.set_cons_succ]
                clear hK
                clear K
                exact hcut
            ·
             intro K hK
             rw [if_neg (by rw [show Region.wanted _ _ = false by kernel_rfl]; exact Bool.false_ne_true)]
             refine ⟨fun _ _ => trivial, hK _ _ ?_⟩
             try simp only [Act.put, List.setIfInBounds_toArray, List.set_cons_zero, List.set_cons_succ]
             clear hK
             clear K
             refine wpAnyIn_ready (rs := [6]) (by kernel_rfl) (by simp) ?_
             refine AllReadyIn.cons (o := ?zog272_6) ?zhg272_6 ?zkg272_6 AllReadyIn.nil
             case zhg272_6 => (simp only [List.getElem?_toArray, List.getElem?_cons_succ, List.getElem?_cons_zero]; rfl)
             ·
              intro K hK
              rw [if_neg (by rw [show Region.wanted _ _ = false by kernel_rfl]; exact Bool.false_ne_true)]
              refine ⟨fun _ _ => trivial, hK _ _ ?_⟩
              try simp only [Act.put, List.setIfInBounds_toArray, List.set_cons_zero, List.set_cons_succ]
              clear hK
              clear K
              refine wpAnyIn_ready (rs := [8]) (by kernel_rfl) (by simp) ?_
              refine AllReadyIn.cons (o := ?zog273_8) ?zhg273_8 ?zkg273_8 AllReadyIn.nil
              case zhg273_8 => (simp only [List.getElem?_toArray, List.getElem?_cons_succ, List.getElem?_cons_zero]; rfl)
              ·
               intro K hK
               rw [if_neg (by rw [show Region.wanted _ _ = false by kernel_rfl]; exact Bool.false_ne_true)]
               refine ⟨fun _ _ => trivial, hK _ _ ?_⟩
               try simp only [Act.put, List.setIfInBounds_toArray, List.set_cons_zero, List.set_cons_succ]
               clear hK
               clear K
               refine wpAnyIn_ready (rs := [9]) (by kernel_rfl) (by simp) ?_
               refine AllReadyIn.cons (o := ?zog274_9) ?zhg274_9 ?zkg274_9 AllReadyIn.nil
               case zhg274_9 => (simp only [List.getElem?_toArray, List.getElem?_cons_succ, List.getElem?_cons_zero]; rfl)
               ·
                intro K hK
                rw [if_neg (by rw [show Region.wanted _ _ = false by kernel_rfl]; exact Bool.false_ne_true)]
                refine ⟨fun _ _ => trivial, hK _ _ ?_⟩
                try simp only [Act.put, List.setIfInBounds_toArray, List.set_cons_zero, List.set_cons_succ]
                clear hK
                clear K
                exact hcut
           ·
            intro K hK
            rw [if_neg (by rw [show Region.wanted _ _ = false by kernel_rfl]; exact Bool.false_ne_true)]
            refine ⟨fun _ _ => trivial, hK _ _ ?_⟩
            try simp only [Act.put, List.setIfInBounds_toArray, List.set_cons_zero, List.set_cons_succ]
            clear hK
            clear K
            refine wpAnyIn_ready (rs := [5, 7]) (by kernel_rfl) (by simp) ?_
            refine AllReadyIn.cons (o := ?zog275_5) ?zhg275_5 ?zkg275_5 (AllReadyIn.cons (o := ?zog275_7) ?zhg275_7 ?zkg275_7 AllReadyIn.nil)
            case zhg275_5 => (simp only [List.getElem?_toArray, List.getElem?_cons_succ, List.getElem?_cons_zero]; rfl)
            case zhg275_7 => (simp only [List.getElem?_toArray, List.getElem?_cons_succ, List.getElem?_cons_zero]; rfl)
            ·
             intro K hK
             rw [if_neg (by rw [show Region.wanted _ _ = false by kernel_rfl]; exact Bool.false_ne_true)]
             refine ⟨fun _ _ => trivial, hK _ _ ?_⟩
             try simp only [Act.put, List.setIfInBounds_toArray, List.set_cons_zero, List.set_cons_succ]
             clear hK
             clear K
             refine wpAnyIn_ready (rs := [7]) (by kernel_rfl) (by simp) ?_
             refine AllReadyIn.cons (o := ?zog276_7) ?zhg276_7 ?zkg276_7 AllReadyIn.nil
             case zhg276_7 => (simp only [List.getElem?_toArray, List.getElem?_cons_succ, List.getElem?_cons_zero]; rfl)
             ·
              intro K hK
              rw [if_neg (by rw [show Region.wanted _ _ = false by kernel_rfl]; exact Bool.false_ne_true)]
              refine ⟨fun _ _ => trivial, hK _ _ ?_⟩
              try simp only [Act.put, List.setIfInBounds_toArray, List.set_cons_zero, List.set_cons_succ]
              clear hK
              clear K
              refine wpAnyIn_ready (rs := [8]) (by kernel_rfl) (by simp) ?_
              refine AllReadyIn.cons (o := ?zog277_8) ?zhg277_8 ?zkg277_8 AllReadyIn.nil
              case zhg277_8 => (simp only [List.getElem?_toArray, List.getElem?_cons_succ, List.getElem?_cons_zero]; rfl)
              ·
               intro K hK
               rw [if_neg (by rw [show Region.wanted _ _ = false by kernel_rfl]; exact Bool.false_ne_true)]
               refine ⟨fun _ _ => trivial, hK _ _ ?_⟩
               try simp only [Act.put, List.setIfInBounds_toArray, List.set_cons_zero, List.set_cons_succ]
               clear hK
               clear K
               refine wpAnyIn_ready (rs := [9]) (by kernel_rfl) (by simp) ?_
               refine AllReadyIn.cons (o := ?zog278_9) ?zhg278_9 ?zkg278_9 AllReadyIn.nil
               case zhg278_9 => (simp only [List.getElem?_toArray, List.getElem?_cons_succ, List.getElem?_cons_zero]; rfl)
               ·
                intro K hK
                rw [if_neg (by rw [show Region.wanted _ _ = false by kernel_rfl]; exact Bool.false_ne_true)]
                refine ⟨fun _ _ => trivial, hK _ _ ?_⟩
                try simp only [Act.put, List.setIfInBounds_toArray, List.set_cons_zero, List.set_cons_succ]
                clear hK
                clear K
                exact hcut
            ·
             intro K hK
             rw [if_neg (by rw [show Region.wanted _ _ = false by kernel_rfl]; exact Bool.false_ne_true)]
             refine ⟨fun _ _ => trivial, hK _ _ ?_⟩
             try simp only [Act.put, List.setIfInBounds_toArray, List.set_cons_zero, List.set_cons_succ]
             clear hK
             clear K
             refine wpAnyIn_ready (rs := [5, 8]) (by kernel_rfl) (by simp) ?_
             refine AllReadyIn.cons (o := ?zog279_5) ?zhg279_5 ?zkg279_5 (AllReadyIn.cons (o := ?zog279_8) ?zhg279_8 ?zkg279_8 AllReadyIn.nil)
             case zhg279_5 => (simp only [List.getElem?_toArray, List.getElem?_cons_succ, List.getElem?_cons_zero]; rfl)
             case zhg279_8 => (simp only [List.getElem?_toArray, List.getElem?_cons_succ, List.getElem?_cons_zero]; rfl)
             ·
              intro K hK
              rw [if_neg (by rw [show Region.wanted _ _ = false by kernel_rfl]; exact Bool.false_ne_true)]
              refine ⟨fun _ _ => trivial, hK _ _ ?_⟩
              try simp only [Act.put, List.setIfInBounds_toArray, List.set_cons_zero, List.set_cons_succ]
              clear hK
              clear K
              refine wpAnyIn_ready (rs := [8]) (by kernel_rfl) (by simp) ?_
              refine AllReadyIn.cons (o := ?zog280_8) ?zhg280_8 ?zkg280_8 AllReadyIn.nil
              case zhg280_8 => (simp only [List.getElem?_toArray, List.getElem?_cons_succ, List.getElem?_cons_zero]; rfl)
              ·
               intro K hK
               rw [if_neg (by rw [show Region.wanted _ _ = false by kernel_rfl]; exact Bool.false_ne_true)]
               refine ⟨fun _ _ => trivial, hK _ _ ?_⟩
               try simp only [Act.put, List.setIfInBounds_toArray, List.set_cons_zero, List.set_cons_succ]
               clear hK
               clear K
               refine wpAnyIn_ready (rs := [9]) (by kernel_rfl) (by simp) ?_
               refine AllReadyIn.cons (o := ?zog281_9) ?zhg281_9 ?zkg281_9 AllReadyIn.nil
               case zhg281_9 => (simp only [List.getElem?_toArray, List.getElem?_cons_succ, List.getElem?_cons_zero]; rfl)
               ·
                intro K hK
                rw [if_neg (by rw [show Region.wanted _ _ = false by kernel_rfl]; exact Bool.false_ne_true)]
                refine ⟨fun _ _ => trivial, hK _ _ ?_⟩
                try simp only [Act.put, List.setIfInBounds_toArray, List.set_cons_zero, List.set_cons_succ]
                clear hK
                clear K
                exact hcut
             ·
              intro K hK
              rw [if_neg (by rw [show Region.wanted _ _ = false by kernel_rfl]; exact Bool.false_ne_true)]
              refine ⟨fun _ _ => trivial, hK _ _ ?_⟩
              try simp only [Act.put, List.setIfInBounds_toArray, List.set_cons_zero, List.set_cons_succ]
              clear hK
              clear K
              refine wpAnyIn_ready (rs := [5, 9]) (by kernel_rfl) (by simp) ?_
              refine AllReadyIn.cons (o := ?zog282_5) ?zhg282_5 ?zkg282_5 (AllReadyIn.cons (o := ?zog282_9) ?zhg282_9 ?zkg282_9 AllReadyIn.nil)
              case zhg282_5 => (simp only [List.getElem?_toArray, List.getElem?_cons_succ, List.getElem?_cons_zero]; rfl)
              case zhg282_9 => (simp only [List.getElem?_toArray, List.getElem?_cons_succ, List.getElem?_cons_zero]; rfl)
              ·
               intro K hK
               rw [if_neg (by rw [show Region.wanted _ _ = false by kernel_rfl]; exact Bool.false_ne_true)]
               refine ⟨fun _ _ => trivial, hK _ _ ?_⟩
               try simp only [Act.put, List.setIfInBounds_toArray, List.set_cons_zero, List.set_cons_succ]
               clear hK
               clear K
               refine wpAnyIn_ready (rs := [9]) (by kernel_rfl) (by simp) ?_
               refine AllReadyIn.cons (o := ?zog283_9) ?zhg283_9 ?zkg283_9 AllReadyIn.nil
               case zhg283_9 => (simp only [List.getElem?_toArray, List.getElem?_cons_succ, List.getElem?_cons_zero]; rfl)
               ·
                intro K hK
                rw [if_neg (by rw [show Region.wanted _ _ = false by kernel_rfl]; exact Bool.false_ne_true)]
                refine ⟨fun _ _ => trivial, hK _ _ ?_⟩
                try simp only [Act.put, List.setIfInBounds_toArray, List.set_cons_zero, List.set_cons_succ]
                clear hK
                clear K
                exact hcut
              ·
               intro K hK
               rw [if_neg (by rw [show Region.wanted _ _ = false by kernel_rfl]; exact Bool.false_ne_true)]
               refine ⟨fun _ _ => trivial, hK _ _ ?_⟩
               try simp only [Act.put, List.setIfInBounds_toArray, List.set_cons_zero, List.set_cons_succ]
               clear hK
               clear K
               refine wpAnyIn_ready (rs := [5]) (by kernel_rfl) (by simp) ?_
               refine AllReadyIn.cons (o := ?zog284_5) ?zhg284_5 ?zkg284_5 AllReadyIn.nil
               case zhg284_5 => (simp only [List.getElem?_toArray, List.getElem?_cons_succ, List.getElem?_cons_zero]; rfl)
               ·
                intro K hK
                rw [if_neg (by rw [show Region.wanted _ _ = false by kernel_rfl]; exact Bool.false_ne_true)]
                refine ⟨fun _ _ => trivial, hK _ _ ?_⟩
                try simp only [Act.put, List.setIfInBounds_toArray, List.set_cons_zero, List.set_cons_succ]
                clear hK
                clear K
                exact hcut
           ·
            intro K hK
            rw [if_neg (by rw [show Region.wanted _ _ = false by kernel_rfl]; exact Bool.false_ne_true)]
            refine ⟨fun _ _ => trivial, hK _ _ ?_⟩
            try simp only [Act.put, List.setIfInBounds_toArray, List.set_cons_zero, List.set_cons_succ]
            clear hK
            clear K
            refine wpAnyIn_ready (rs := [5, 6]) (by kernel_rfl) (by simp) ?_
            refine AllReadyIn.cons (o := ?zog285_5) ?zhg285_5 ?zkg285_5 (AllReadyIn.cons (o := ?zog285_6) ?zhg285_6 ?zkg285_6 AllReadyIn.nil)
            case zhg285_5 => (simp only [List.getElem?_toArray, List.getElem?_cons_succ, List.getElem?_cons_zero]; rfl)
            case zhg285_6 => (simp only [List.getElem?_toArray, List.getElem?_cons_succ, List.getElem?_cons_zero]; rfl)
            ·
             intro K hK
             rw [if_neg (by rw [show Region.wanted _ _ = false by kernel_rfl]; exact Bool.false_ne_true)]
             refine ⟨fun _ _ => trivial, hK _ _ ?_⟩
             try simp only [Act.put, List.setIfInBounds_toArray, List.set_cons_zero, List.set_cons_succ]
             clear hK
             clear K
             refine wpAnyIn_ready (rs := [6]) (by kernel_rfl) (by simp) ?_
             refine AllReadyIn.cons (o := ?zog286_6) ?zhg286_6 ?zkg286_6 AllReadyIn.nil
             case zhg286_6 => (simp only [List.getElem?_toArray, List.getElem?_cons_succ, List.getElem?_cons_zero]; rfl)
             ·
              intro K hK
              rw [if_neg (by rw [show Region.wanted _ _ = false by kernel_rfl]; exact Bool.false_ne_true)]
              refine ⟨fun _ _ => trivial, hK _ _ ?_⟩
              try simp only [Act.put, List.setIfInBounds_toArray, List.set_cons_zero, List.set_cons_succ]
              clear hK
              clear K
              refine wpAnyIn_ready (rs := [8]) (by kernel_rfl) (by simp) ?_
              refine AllReadyIn.cons (o := ?zog287_8) ?zhg287_8 ?zkg287_8 AllReadyIn.nil
              case zhg287_8 => (simp only [List.getElem?_toArray, List.getElem?_cons_succ, List.getElem?_cons_zero]; rfl)
              ·
               intro K hK
               rw [if_neg (by rw [show Region.wanted _ _ = false by kernel_rfl]; exact Bool.false_ne_true)]
               refine ⟨fun _ _ => trivial, hK _ _ ?_⟩
               try simp only [Act.put, List.setIfInBounds_toArray, List.set_cons_zero, List.set_cons_succ]
               clear hK
               clear K
               refine wpAnyIn_ready (rs := [9]) (by kernel_rfl) (by simp) ?_
               refine AllReadyIn.cons (o := ?zog288_9) ?zhg288_9 ?zkg288_9 AllReadyIn.nil
               case zhg288_9 => (simp only [List.getElem?_toArray, List.getElem?_cons_succ, List.getElem?_cons_zero]; rfl)
               ·
                intro K hK
                rw [if_neg (by rw [show Region.wanted _ _ = false by kernel_rfl]; exact Bool.false_ne_true)]
                refine ⟨fun _ _ => trivial, hK _ _ ?_⟩
                try simp only [Act.put, List.setIfInBounds_toArray, List.set_cons_zero, List.set_cons_succ]
                clear hK
                clear K
                exact hcut
            ·
             intro K hK
             rw [if_neg (by rw [show Region.wanted _ _ = false by kernel_rfl]; exact Bool.false_ne_true)]
             refine ⟨fun _ _ => trivial, hK _ _ ?_⟩
             try simp only [Act.put, List.setIfInBounds_toArray, List.set_cons_zero, List.set_cons_succ]
             clear hK
             clear K
             refine wpAnyIn_ready (rs := [5, 8]) (by kernel_rfl) (by simp) ?_
             refine AllReadyIn.cons (o := ?zog289_5) ?zhg289_5 ?zkg289_5 (AllReadyIn.cons (o := ?zog289_8) ?zhg289_8 ?zkg289_8 AllReadyIn.nil)
             case zhg289_5 => (simp only [List.getElem?_toArray, List.getElem?_cons_succ, List.getElem?_cons_zero]; rfl)
             case zhg289_8 => (simp only [List.getElem?_toArray, List.getElem?_cons_succ, List.getElem?_cons_zero]; rfl)
             ·
              intro K hK
              rw [if_neg (by rw [show Region.wanted _ _ = false by kernel_rfl]; exact Bool.false_ne_true)]
              refine ⟨fun _ _ => trivial, hK _ _ ?_⟩
              try simp only [Act.put, List.setIfInBounds_toArray, List.set_cons_zero, List.set_cons_succ]
              clear hK
              clear K
              refine wpAnyIn_ready (rs := [8]) (by kernel_rfl) (by simp) ?_
              refine AllReadyIn.cons (o := ?zog290_8) ?zhg290_8 ?zkg290_8 AllReadyIn.nil
              case zhg290_8 => (simp only [List.getElem?_toArray, List.getElem?_cons_succ, List.getElem?_cons_zero]; rfl)
              ·
               intro K hK
               rw [if_neg (by rw [show Region.wanted _ _ = false by kernel_rfl]; exact Bool.false_ne_true)]
               refine ⟨fun _ _ => trivial, hK _ _ ?_⟩
               try simp only [Act.put, List.setIfInBounds_toArray, List.set_cons_zero, List.set_cons_succ]
               clear hK
               clear K
               refine wpAnyIn_ready (rs := [9]) (by kernel_rfl) (by simp) ?_
               refine AllReadyIn.cons (o := ?zog291_9) ?zhg291_9 ?zkg291_9 AllReadyIn.nil
               case zhg291_9 => (simp only [List.getElem?_toArray, List.getElem?_cons_succ, List.getElem?_cons_zero]; rfl)
               ·
                intro K hK
                rw [if_neg (by rw [show Region.wanted _ _ = false by kernel_rfl]; exact Bool.false_ne_true)]
                refine ⟨fun _ _ => trivial, hK _ _ ?_⟩
                try simp only [Act.put, List.setIfInBounds_toArray, List.set_cons_zero, List.set_cons_succ]
                clear hK
                clear K
                exact hcut
             ·
              intro K hK
              rw [if_neg (by rw [show Region.wanted _ _ = false by kernel_rfl]; exact Bool.false_ne_true)]
              refine ⟨fun _ _ => trivial, hK _ _ ?_⟩
              try simp only [Act.put, List.setIfInBounds_toArray, List.set_cons_zero, List.set_cons_succ]
              clear hK
              clear K
              refine wpAnyIn_ready (rs := [5, 9]) (by kernel_rfl) (by simp) ?_
              refine AllReadyIn.cons (o := ?zog292_5) ?zhg292_5 ?zkg292_5 (AllReadyIn.cons (o := ?zog292_9) ?zhg292_9 ?zkg292_9 AllReadyIn.nil)
              case zhg292_5 => (simp only [List.getElem?_toArray, List.getElem?_cons_succ, List.getElem?_cons_zero]; rfl)
              case zhg292_9 => (simp only [List.getElem?_toArray, List.getElem?_cons_succ, List.getElem?_cons_zero]; rfl)
              ·
               intro K hK
               rw [if_neg (by rw [show Region.wanted _ _ = false by kernel_rfl]; exact Bool.false_ne_true)]
               refine ⟨fun _ _ => trivial, hK _ _ ?_⟩
               try simp only [Act.put, List.setIfInBounds_toArray, List.set_cons_zero, List.set_cons_succ]
               clear hK
               clear K
               refine wpAnyIn_ready (rs := [9]) (by kernel_rfl) (by simp) ?_
               refine AllReadyIn.cons (o := ?zog293_9) ?zhg293_9 ?zkg293_9 AllReadyIn.nil
               case zhg293_9 => (simp only [List.getElem?_toArray, List.getElem?_cons_succ, List.getElem?_cons_zero]; rfl)
               ·
                intro K hK
                rw [if_neg (by rw [show Region.wanted _ _ = false by kernel_rfl]; exact Bool.false_ne_true)]
                refine ⟨fun _ _ => trivial, hK _ _ ?_⟩
                try simp only [Act.put, List.setIfInBounds_toArray, List.set_cons_zero, List.set_cons_succ]
                clear hK
                clear K
                exact hcut
              ·
               intro K hK
               rw [if_neg (by rw [show Region.wanted _ _ = false by kernel_rfl]; exact Bool.false_ne_true)]
               refine ⟨fun _ _ => trivial, hK _ _ ?_⟩
               try simp only [Act.put, List.setIfInBounds_toArray, List.set_cons_zero, List.set_cons_succ]
               clear hK
               clear K
               refine wpAnyIn_ready (rs := [5]) (by kernel_rfl) (by simp) ?_
               refine AllReadyIn.cons (o := ?zog294_5) ?zhg294_5 ?zkg294_5 AllReadyIn.nil
               case zhg294_5 => (simp only [List.getElem?_toArray, List.getElem?_cons_succ, List.getElem?_cons_zero]; rfl)
               ·
                intro K hK
                rw [if_neg (by rw [show Region.wanted _ _ = false by kernel_rfl]; exact Bool.false_ne_true)]
                refine ⟨fun _ _ => trivial, hK _ _ ?_⟩
                try simp only [Act.put, List.setIfInBounds_toArray, List.set_cons_zero, List.set_cons_succ]
                clear hK
                clear K
                exact hcut
          case restBq258 =>
           refine wpAnyIn_ready (rs := [10]) (by kernel_rfl) (by simp) ?_
           refine AllReadyIn.cons (o := ?zog295_10) ?zhg295_10 ?zkg295_10 AllReadyIn.nil
           case zhg295_10 => (simp only [List.getElem?_toArray, List.getElem?_cons_succ, List.getElem?_cons_zero]; rfl)
           ·
            intro K hK
            rw [if_neg (by rw [show Region.wanted _ _ = false by kernel_rfl]; exact Bool.false_ne_true)]
            refine ⟨fun _ _ => trivial, hK _ _ ?_⟩
            try simp only [Act.put, List.setIfInBounds_toArray, List.set_cons_zero, List.set_cons_succ]
            clear hK
            clear K
            refine wpAnyIn_ready (rs := [11]) (by kernel_rfl) (by simp) ?_
            refine AllReadyIn.cons (o := ?zog296_11) ?zhg296_11 ?zkg296_11 AllReadyIn.nil
            case zhg296_11 => (simp only [List.getElem?_toArray, List.getElem?_cons_succ, List.getElem?_cons_zero]; rfl)
            ·
             intro K hK
             rw [if_pos (by kernel_rfl)]
             go_simp
             refine hK _ _ ?_
             try simp only [Act.put, List.setIfInBounds_toArray, List.set_cons_zero, List.set_cons_succ]
             clear hK
             clear K
             refine wpAnyIn_done (by kernel_rfl) ?_ _
             gi_wp2
             exact HFAIL.out HNE.out
     case done =>
      rintro D ys W hD hys ⟨hsm, h2, h3, hb⟩ hK
      subst ha0
      have hlen : ys.length = nB := by rw [show ys = thrL l ⟨mb, mg, ma⟩ f t from hys, HNB.out, HBE.out]
      rw [hlen] at h2
      have c23 := h2.cell 0
      have c17 := (CT.out.sm hsm (by omega)).cell 0
      have c12 := h3.cell 0
      have f12 := h3.frozen 0
      obtain ⟨W2, hW2⟩ : ∃ W2, W2 = W.setCell ⟨w.heap.size + 3, 0, none⟩ (.bool true) := ⟨_, rfl⟩
      have P2 : Hid (Blk W2 (w.heap.size + 3) 4 [.bool true]) := Lib.hid (by rw [hW2]; exact h3.setCell 0 _)
      have BW2 : Hid (Below w.heap.size w W2) := Lib.hid (by rw [hW2]; exact hb.setCell (p := ⟨w.heap.size + 3, 0, none⟩) (by show w.heap.size ≤ w.heap.size + 3; omega) _)
      have HKD : Hid (W2.heap[D]? = some (.deferred (some []))) := Lib.hid (by
       rw [hW2, Below.heap_setCell _ _ _ _ (by show D ≠ w.heap.size + 3; omega)]
       exact hK)
      have HW2 := Lib.hid hW2
      clear hsm h2 h3 hb hK hW2
      dsimp only
      go_wp2_with fail
      rw [← HW2.out]
      refine ⟨by simp, .inl ⟨_, _, rfl, run_takeDeferred HKD.out, ?_⟩⟩
      have hno : ∀ r, some D = some r → ∃ o : Obj, W2.heap[r]? = some o ∧ o.isCells = false := fun r e => by cases e; exact ⟨_, HKD.out, rfl⟩
      refine ⟨_, results_boolcell rfl _ _ (w.heap.size + 3) true rfl (P2.out.own (grownBy_putObj' W2 D _) hno), rfl, ?_⟩
      exact BW2.out.grown (grownBy_putObj' W2 D _) BW2.out.size (fun k e => by cases e; omega)
     case stop =>
      rintro D c pre W hD hSp ⟨rfl, rb, hrb, h3, hb⟩ hK
      subst ha0
      obtain rfl : rb = true := hrb (by rw [HBE.out]; exact hSp)
      refine wpIn_wide.2 ?_
      dsimp only
      go_wp2_with fail
      refine ⟨by simp, .inl ⟨_, _, rfl, run_takeDeferred hK, ?_⟩⟩
      have hno : ∀ r, some D = some r → ∃ o : Obj, W.heap[r]? = some o ∧ o.isCells = false := fun r e => by cases e; exact ⟨_, hK, rfl⟩
      refine ⟨_, results_boolcell rfl _ _ (w.heap.size + 3) true rfl (h3.own (grownBy_putObj' W D _) hno), rfl, ?_⟩
      exact hb.grown (grownBy_putObj' W D _) hb.size (fun k e => by cases e; omega)
end Go.Proofs.Ytbkknpodipapoaa
