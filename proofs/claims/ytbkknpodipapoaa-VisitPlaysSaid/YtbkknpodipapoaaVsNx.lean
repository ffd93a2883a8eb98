/- The walk of visit.Next. -/
import Derived.Test.YtbkknpodipapoaaVsTh
import Derived.Shelf.Abstract
namespace Go.Proofs.Ytbkknpodipapoaa
open Go.RowKit Go.Shelf
set_option linter.unusedSimpArgs false
attribute [local go_sem ↓] Go.wp_at_zero Go.wp_at_succ

def LoadI (F : Fence) (n : Nat) (P : Program) (o : Oper) (t : TypeId) (v : Value) (a : Act) (w : World) (next : Act → World → Prop) (Q : Exit → Act → World → Prop) : Prop :=
  o.uponIn F n P a next Q ((do let x ← Instr.loadAt t v; pure (Next.value x) : Sem Next).run P w)
def StoreI (F : Fence) (n : Nat) (P : Program) (o : Oper) (t : TypeId) (v u : Value) (a : Act) (w : World) (next : Act → World → Prop) (Q : Exit → Act → World → Prop) : Prop :=
  o.uponIn F n P a next Q ((do Instr.storeAt t v u; pure Next.skip : Sem Next).run P w)
theorem semAt_any {r : Option Nat} {ρ : Operand → Value} {o : Oper} (h : ∀ c, o.op ≠ .defer c) : o.semAt r ρ = execOp ρ o := by
  cases r with
  | none => exact Oper.semAt_none _ _
  | some l => exact Oper.semAt_some l ρ o h
theorem wpIn_loadP {F : Fence} {n : Nat} {dst : Option Tmp} {x : Operand} {ty : TypeId} {pos : String} {after : Array Edge} {guard : Option (Nat × Bool)} {a : Act} {w : World} {next : Act → World → Prop} {Q : Exit → Act → World → Prop} :
    Oper.wpIn F n Try.prog ⟨dst, .load 30 x, ty, pos, after, guard⟩ a w next Q = LoadI F n Try.prog ⟨dst, .load 30 x, ty, pos, after, guard⟩ 30 (a.eval x) a w next Q := by
  unfold Oper.wpIn
  rw [semAt_any (fun c h => by cases h)]
  exact propext ⟨fun h => h.2, fun h => ⟨fun f hf => (by cases hf), h⟩⟩
theorem wpIn_storeP {F : Fence} {n : Nat} {dst : Option Tmp} {x y : Operand} {ty : TypeId} {pos : String} {after : Array Edge} {guard : Option (Nat × Bool)} {a : Act} {w : World} {next : Act → World → Prop} {Q : Exit → Act → World → Prop} :
    Oper.wpIn F n Try.prog ⟨dst, .store 30 x y, ty, pos, after, guard⟩ a w next Q = StoreI F n Try.prog ⟨dst, .store 30 x y, ty, pos, after, guard⟩ 30 (a.eval x) (a.eval y) a w next Q := by
  unfold Oper.wpIn
  rw [semAt_any (fun c h => by cases h)]
  exact propext ⟨fun h => h.2, fun h => ⟨fun f hf => (by cases hf), h⟩⟩
theorem load_ptrI {F : Fence} {n : Nat} {w : World} {g o : Nat} {p : PtrT} (h : w.rangeAt g o (encPtr p)) (op : Oper) (a : Act) (next : Act → World → Prop) (Q : Exit → Act → World → Prop) : LoadI F n Try.prog op 30 (.pointer (some ⟨g, o, none⟩)) a w next Q = next (a.put op.dst (.agg (encPtr p).toArray)) w := by
  unfold LoadI
  rw [Sem.run_bind, run_loadAt_mid w g o 30 (encPtr p) _ h Try.underlying30 rfl infoSz]
  rfl
theorem store_ptrI {F : Fence} {n : Nat} {w : World} {g o : Nat} (p : PtrT) (h : w.there g o 12) (op : Oper) (a : Act) (next : Act → World → Prop) (Q : Exit → Act → World → Prop) : StoreI F n Try.prog op 30 (.pointer (some ⟨g, o, none⟩)) (.agg (encPtr p).toArray) a w next Q = next (a.put op.dst undef) (w.setCells g o (encPtr p)) := by
  unfold StoreI
  have := run_storeAt_mid (P := Try.prog) w g o 30 (encPtr p).toArray h infoSz (all_oneCell_toArray (encPtr_one p))
  rw [Sem.run_bind, this, List.toList_toArray]
  rfl
theorem thr_stops (own : Nat → Prop) (nn c1 c2 c3 : Nat) (ao : Option Addr) (n cap : Nat) (l : List PtrT) (m : MarkT) (f t : Int) (w : World) (h1 : Blk w c1 22 [.slice ao n cap]) (h2 : Blk w c2 34 (encM m)) (h3 : Blk w c3 42 [.int .i64 f, .int .i64 t])
    (hp : PSl w ao n cap l) (hn : n ≤ 500) (ho : ∀ k, own k → k < w.heap.size ∧ k ≠ c2 ∧ k ≠ c3) :
    SeqStopsK Fence.wide nn Try.prog 36 #[.pointer (some ⟨c1, 0, none⟩), .pointer (some ⟨c2, 0, none⟩), .pointer (some ⟨c3, 0, none⟩)] (fun p : PtrT => #[Value.agg (encPtr p).toArray]) (KpO own) (fun ys => ys = thrL l m f t) (fun pre => pre <+: thrL l m f t) 1000 w := fun lp J Jx W hW hJ _ hY h0 =>
  callsIn_wide.2 (thr1_any own c1 c2 c3 ao n cap l m f t (nn - 1) lp J Jx W (h1.below hW) (h2.below hW) (h3.below hW) (hp.below hW) hn (fun k hk => ⟨Nat.lt_of_lt_of_le (ho k hk).1 hW.size, (ho k hk).2⟩) hJ hY h0)
theorem Blk.own {W W' : World} {g e : Nat} {cs : List Value} {row : Option Nat} (h : Blk W g e cs) (hg : W.grownBy W' row) (hr : ∀ r, row = some r → ∃ o : Obj, W.heap[r]? = some o ∧ o.isCells = false) : Blk W' g e cs := by
  unfold Blk
  rw [hg.block g h.lt (fun e2 => ?_)]
  · exact h
  · obtain ⟨o, h2, h3⟩ := hr g e2.symm
    unfold Blk at h
    rw [h] at h2
    have := Option.some.inj h2
    subst this
    cases h3
/-- the first of what Through gives -/
def nextL (l : List PtrT) (m : MarkT) (f t : Int) : PtrT × Bool := match thrL l m f t with | [] => (pD, false) | p :: _ => (p, true)
attribute [local go_sem ↓] wp_loadP wp_storeP wpIn_loadP wpIn_storeP
attribute [local go_sem] Oper.semAt_some
theorem Blk.apart {W : World} {g e : Nat} {cs : List Value} (h : Blk W g e cs) (g' o : Nat) (vs : List Value) (hne : g ≠ g') : Blk (W.setCells g' o vs) g e cs := by
  unfold Blk
  rw [(setCells_grown g' vs W o).block g h.lt (fun e2 => hne (Option.some.inj e2))]
  exact h
theorem Blk.there {W : World} {g e : Nat} {cs : List Value} (h : Blk W g e cs) (hl : cs.length = 12) : W.there g 0 12 := fun j hj => by
  refine ⟨?_, h.frozen _⟩
  rw [h.cell, Nat.zero_add, List.getElem?_eq_getElem (by omega)]
  rfl
theorem Blk.setAll {W : World} {g e : Nat} {cs vs : List Value} (h : Blk W g e cs) (hl : cs.length = vs.length) : Blk (W.setCells g 0 vs) g e vs := by
  have := h.setCells vs 0 (by omega)
  simpa [List.drop_eq_nil_of_le (Nat.le_of_eq hl)] using this
theorem range0 {W : World} {g e : Nat} {p : PtrT} (h : Blk W g e (encPtr p)) : W.rangeAt g 0 (encPtr p) := fun j v hv => by rw [Nat.zero_add, h.cell, hv]
theorem run_loadVar_bool (W : World) (g : Nat) (b : Bool) (h : W.cell? ⟨g, 0, none⟩ = some (.bool b)) : (loadVar 4 ⟨g, 0, none⟩).run Try.prog W = .ok (.bool b) W := by
  go_simp
theorem results_ptr_bool {fn : Func} {p q : Tmp} (h : fn.results = #[.cell p 30, .cell q 4]) (tmps : Array Value) (w : World) (g g2 : Nat) (x : PtrT) (b : Bool)
    (hp : tmps.getD p undef = .pointer (some ⟨g, 0, none⟩)) (hq : tmps.getD q undef = .pointer (some ⟨g2, 0, none⟩)) (hg : Blk w g 30 (encPtr x)) (hg2 : Blk w g2 4 [.bool b]) :
    (results fn tmps).run Try.prog w = .ok (.tuple #[.agg (encPtr x).toArray, .bool b]) w := by
  have hp' : tmps[p]?.getD undef = .pointer (some ⟨g, 0, none⟩) := by simpa using hp
  have hq' : tmps[q]?.getD undef = .pointer (some ⟨g2, 0, none⟩) := by simpa using hq
  have e1 := run_loadVar_mid (P := Try.prog) w g 0 30 (encPtr x) _ (range0 hg) Try.underlying30 rfl infoSz
  have e2 := run_loadVar_bool w g2 b (hg2.cell 0)
  simp [results, h, hp', hq', asAddr, e1, e2]
/-- a new variable, inside a fence -/
theorem store_newI {F : Fence} {n : Nat} (W : World) (p : PtrT) (op : Oper) (a : Act) (next : Act → World → Prop) (Q : Exit → Act → World → Prop) :
    StoreI F n Try.prog op 30 (.pointer (some ⟨W.heap.size, 0, none⟩)) (.agg (encPtr p).toArray) a (W.alloc (.cells #[.int .i64 0, .int .i64 0, .int .i64 0, .int .i64 0, .bool false, .int .i64 0, .int .i64 0, .int .i64 0, .int .u64 0, .int .u64 0, .int .u64 0, .int .u64 0] 30)) next Q =
      next (a.put op.dst undef) (W.alloc (.cells (encPtr p).toArray 30)) := by
  have s1 := store_ptrI (F := F) (n := n) (w := W.alloc (.cells zeroL.toArray 30)) (g := W.heap.size) (o := 0) p ((Blk.new W 30 zeroL).there rfl) op a next Q
  rw [setCells_alloc W _ _ _ (by rw [encPtr_length]; rfl)] at s1
  exact s1
set_option maxRecDepth 100000 in
set_option maxHeartbeats 3200000 in
theorem next_any (ao : Option Addr) (n cap : Nat) (l : List PtrT) (m : MarkT) (f t : Int) (w : World) (hp : PSl w ao n cap l) (hn : n ≤ 500) :
    Calls Try.prog 15 #[.slice ao n cap, .agg (encM m).toArray, .agg #[.int .i64 f, .int .i64 t]] w fun e w' => e = .returned (.tuple #[.agg (encPtr (nextL l m f t).1).toArray, .bool (nextL l m f t).2]) ∧ Below w.heap.size w w' := by
  have HP := Lib.hid hp
  clear hp
  obtain ⟨mb, mg, ma⟩ := m
  have HT : Hid (∀ W, Calls Try.prog 22 #[.slice ao n cap, .agg #[.int .i64 mb, .int .i64 mg, .int .i64 ma], .agg #[.int .i64 f, .int .i64 t]] W fun e w' => e = .returned (.func (.func 36) #[] #[.pointer (some ⟨W.heap.size, 0, none⟩), .pointer (some ⟨W.heap.size + 1, 0, none⟩), .pointer (some ⟨W.heap.size + 2, 0, none⟩)]) ∧
      w' = ((W.alloc (.cells #[.slice ao n cap] 22)).alloc (.cells #[.int .i64 mb, .int .i64 mg, .int .i64 ma] 34)).alloc (.cells #[.int .i64 f, .int .i64 t] 42)) := Lib.hid (fun W => through_any ao n cap ⟨mb, mg, ma⟩ f t W)
  show Calls _ _ #[_, .agg #[.int .i64 mb, .int .i64 mg, .int .i64 ma], _] _ _
  refine (callsIn_wide (n := 10)).1 (callsIn_of_wp_marks Try.func15 rfl trivial ?_ rfl)
  refine wpIn_wide.2 ?_
  simp only [Try.ntmps15, List.size_toArray, List.length_cons, List.length_nil, Nat.reduceAdd, Nat.reduceSub, Array.replicate_succ, Array.replicate_zero, List.push_toArray, List.append_toArray, List.nil_append, List.cons_append]
  go_wp2_with fail
  refine (HT.out _).mono ?_
  rintro e w1 ⟨rfl, rfl⟩
  go_wp2_with fail
  obtain ⟨W0, hW0⟩ : ∃ W0, W0 = ((((((w.alloc (.cells #[.int .i64 mb, .int .i64 mg, .int .i64 ma] 34)).alloc (.cells #[.int .i64 f, .int .i64 t] 42)).alloc (.cells #[.int .i64 0, .int .i64 0, .int .i64 0, .int .i64 0, .bool false, .int .i64 0, .int .i64 0, .int .i64 0, .int .u64 0, .int .u64 0, .int .u64 0, .int .u64 0] 30)).alloc (.cells #[.bool false] 4)).alloc (.cells #[.slice ao n cap] 22)).alloc (.cells #[.int .i64 mb, .int .i64 mg, .int .i64 ma] 34)).alloc (.cells #[.int .i64 f, .int .i64 t] 42) := ⟨_, rfl⟩
  have hb0 : Below w.heap.size w W0 := by
    rw [hW0]
    exact (((((((Below.refl _ _).alloc (Nat.le_refl _) _).alloc (by simp) _).alloc (by simp; omega) _).alloc (by simp; omega) _).alloc (by simp; omega) _).alloc (by simp; omega) _).alloc (by simp; omega) _
  have k6 : Blk W0 (w.heap.size + 2) 30 zeroL := by rw [hW0]; exact ((((Blk.newAt (g := w.heap.size + 2) _ zeroL (by simp)).alloc _).alloc _).alloc _).alloc _
  have k7 : Blk W0 (w.heap.size + 3) 4 [.bool false] := by rw [hW0]; exact (((Blk.newAt (g := w.heap.size + 3) _ [.bool false] (by simp)).alloc _).alloc _).alloc _
  have k1 : Blk W0 (w.heap.size + 4) 22 [.slice ao n cap] := by rw [hW0]; exact ((Blk.newAt (g := w.heap.size + 4) _ [.slice ao n cap] (by simp)).alloc _).alloc _
  have k2 : Blk W0 (w.heap.size + 5) 34 [.int .i64 mb, .int .i64 mg, .int .i64 ma] := by rw [hW0]; exact (Blk.newAt (g := w.heap.size + 5) _ [.int .i64 mb, .int .i64 mg, .int .i64 ma] (by simp)).alloc _
  have k3 : Blk W0 (w.heap.size + 6) 42 [.int .i64 f, .int .i64 t] := by rw [hW0]; exact Blk.newAt (g := w.heap.size + 6) _ [.int .i64 f, .int .i64 t] (by simp)
  have hsz : W0.heap.size = w.heap.size + 7 := by rw [hW0]; simp
  rw [← hW0]
  clear hW0 HT
  simp only [Nat.add_assoc, Nat.reduceAdd]
  refine (wpIn_wide (n := 10)).1 (wpIn_rangeFunc_ownH rfl (by omega) (gf := 36) (lb := #[.pointer (some ⟨w.heap.size + 4, 0, none⟩), .pointer (some ⟨w.heap.size + 5, 0, none⟩), .pointer (some ⟨w.heap.size + 6, 0, none⟩)]) rfl trivial (enters_of Try.func36 (by kernel_rfl) rfl)
    (thr_stops (fun k => k = w.heap.size + 2 ∨ k = w.heap.size + 3) _ (w.heap.size + 4) (w.heap.size + 5) (w.heap.size + 6) ao n cap l ⟨mb, mg, ma⟩ f t W0 k1 k2 k3 (HP.out.below hb0) hn (fun k hk => by omega)) (fun h k => h.trans k) (fun W l o o' _ h ho _ => KpO.putObj W l o o' h ho) (Below.refl _ _) (fun _ => rfl)
    (fun pre W => pre = [] ∧ Blk W (w.heap.size + 2) 30 zeroL ∧ Blk W (w.heap.size + 3) 4 [.bool false] ∧ Below w.heap.size w W ∧ w.heap.size + 7 ≤ W.heap.size)
    (fun c pre W => c = .ret ∧ ∃ x, pre = [x] ∧ Blk W (w.heap.size + 2) 30 (encPtr x) ∧ Blk W (w.heap.size + 3) 4 [.bool true] ∧ Below w.heap.size w W ∧ w.heap.size + 7 ≤ W.heap.size)
    ?hI ?hIx ⟨rfl, k6, k7, hb0, by omega⟩ (fun x a' W => ∃ Bx, w.heap.size + 7 ≤ Bx ∧ Blk W Bx 30 (encPtr x) ∧ a' = { tmps := #[Value.slice ao n cap, .agg #[.int .i64 mb, .int .i64 mg, .int .i64 ma], .agg #[.int .i64 f, .int .i64 t], undef, .pointer (some ⟨w.heap.size, 0, none⟩), .pointer (some ⟨w.heap.size + 1, 0, none⟩), .pointer (some ⟨w.heap.size + 2, 0, none⟩), .pointer (some ⟨w.heap.size + 3, 0, none⟩), .pointer (some ⟨Bx, 0, none⟩), .slice ao n cap, .agg #[.int .i64 mb, .int .i64 mg, .int .i64 ma], .agg #[.int .i64 f, .int .i64 t], .func (.func 36) #[] #[.pointer (some ⟨w.heap.size + 4, 0, none⟩), .pointer (some ⟨w.heap.size + 5, 0, none⟩), .pointer (some ⟨w.heap.size + 6, 0, none⟩)], .agg (encPtr x).toArray, undef, undef], defers := [] }) ?hAx ?assign ?body ?done ?stop)
  case hI => exact fun s A B row ⟨e, h6, h7, hb, hs⟩ hg hr => ⟨e, h6.own hg (fun r e => (hr r e).2), h7.own hg (fun r e => (hr r e).2), hb.grown hg hb.size (fun k e => by have := (hr k e).1; omega), Nat.le_trans hs hg.size⟩
  case hIx => exact fun c s A B row ⟨e, x, ex, h6, h7, hb, hs⟩ hg hr => ⟨e, x, ex, h6.own hg (fun r e => (hr r e).2), h7.own hg (fun r e => (hr r e).2), hb.grown hg hb.size (fun k e => by have := (hr k e).1; omega), Nat.le_trans hs hg.size⟩
  case hAx => exact fun x a' s A B row ⟨Bx, h1, h2, h3⟩ hg hr => ⟨Bx, h1, h2.own hg (fun r e => (hr r e).2), h3⟩
  case assign =>
    rintro lp pre x W K ⟨e, h6, h7, hb, hs⟩ hK
    have s1 := fun n => store_newI (F := Fence.wide.inRound lp) (n := n) W x
    have hbA : Below W.heap.size W (W.alloc (.cells (encPtr x).toArray 30)) := (Below.refl _ _).alloc (Nat.le_refl _) _
    have HK := Lib.hid (hK _ _ ((KeepsOthers.alloc W (.cells (encPtr x).toArray 30)).from _) (KpO.of_below hbA) ⟨e, h6.below hbA, h7.below hbA, hb.trans (hbA.mono hb.size), Nat.le_trans hs hbA.size⟩ ⟨W.heap.size, hs, Blk.new _ _ _, rfl⟩)
    clear hK h6 h7 hb hbA
    gi_wp2
    exact HK.out
  case body =>
    rintro lp pre x a' W hl ⟨r, hr⟩ ⟨rfl, h6, h7, hb, hs⟩ ⟨Bx, hBx, hX, rfl⟩ hlt
    have l1 := fun n => load_ptrI (F := Fence.wide.inRound lp) (n := n) (range0 hX)
    have s1 := fun n => store_ptrI (F := Fence.wide.inRound lp) (n := n) x (h6.there rfl)
    have n7 : Blk (W.setCells (w.heap.size + 2) 0 (encPtr x)) (w.heap.size + 3) 4 [.bool false] := h7.apart _ _ _ (by omega)
    have c7 := n7.cell 0
    have f7 := n7.frozen 0
    have HB1 : Hid (Below w.heap.size w ((W.setCells (w.heap.size + 2) 0 (encPtr x)).setCell ⟨w.heap.size + 3, 0, none⟩ (.bool true))) := Lib.hid ((hb.grown (setCells_grown (w.heap.size + 2) (encPtr x) W 0) hb.size (fun k e => by have := Option.some.inj e; omega)).setCell (p := ⟨w.heap.size + 3, 0, none⟩) (by show w.heap.size ≤ w.heap.size + 3; omega) _)
    have H6 : Hid (Blk ((W.setCells (w.heap.size + 2) 0 (encPtr x)).setCell ⟨w.heap.size + 3, 0, none⟩ (.bool true)) (w.heap.size + 2) 30 (encPtr x)) := Lib.hid ((h6.setAll (vs := encPtr x) rfl).other (a := ⟨w.heap.size + 3, 0, none⟩) (by show w.heap.size + 2 ≠ w.heap.size + 3; omega) _)
    have H7 : Hid (Blk ((W.setCells (w.heap.size + 2) 0 (encPtr x)).setCell ⟨w.heap.size + 3, 0, none⟩ (.bool true)) (w.heap.size + 3) 4 [.bool true]) := Lib.hid (n7.setCell 0 _)
    have HKF : Hid (KeepsFrom W0.heap.size W ((W.setCells (w.heap.size + 2) 0 (encPtr x)).setCell ⟨w.heap.size + 3, 0, none⟩ (.bool true))) := Lib.hid ((KeepsFrom.of_grownBy (setCells_grown (w.heap.size + 2) (encPtr x) W 0) (fun k e => by have := Option.some.inj e; omega)).trans ((KeepsOthers.setCell _ _ _).from _))
    have HSZ : Hid (w.heap.size + 7 ≤ ((W.setCells (w.heap.size + 2) 0 (encPtr x)).setCell ⟨w.heap.size + 3, 0, none⟩ (.bool true)).heap.size) := Lib.hid (Nat.le_trans hs HKF.out.size)
    clear hr h6 h7 hb hs hX n7
    gi_wp2
    exact ⟨HKF.out, rfl, x, rfl, H6.out, H7.out, HB1.out, HSZ.out⟩
  case done =>
    rintro D ys W hD rfl ⟨he, h6, h7, hb, hs⟩ hK
    have HE : Hid (nextL l ⟨mb, mg, ma⟩ f t = (pD, false)) := Lib.hid (by unfold nextL; rw [he])
    have s1 : ∀ (op : Oper) (a : Act) (next : Act → World → Prop) (Q : Exit → Act → World → Prop), StoreW Try.prog op 30 (.pointer (some ⟨w.heap.size + 2, 0, none⟩)) (.agg #[.int .i64 0, .int .i64 0, .int .i64 0, .int .i64 0, .bool false, .int .i64 0, .int .i64 0, .int .i64 0, .int .u64 0, .int .u64 0, .int .u64 0, .int .u64 0]) a W next Q = next (a.put op.dst undef) (W.setCells (w.heap.size + 2) 0 (encPtr pD)) := store_ptr pD (h6.there rfl)
    have n7 : Blk (W.setCells (w.heap.size + 2) 0 (encPtr pD)) (w.heap.size + 3) 4 [.bool false] := h7.apart _ _ _ (by omega)
    have c7 := n7.cell 0
    have f7 := n7.frozen 0
    obtain ⟨W2, hW2⟩ : ∃ W2, W2 = (W.setCells (w.heap.size + 2) 0 (encPtr pD)).setCell ⟨w.heap.size + 3, 0, none⟩ (.bool false) := ⟨_, rfl⟩
    have HB1 : Hid (Below w.heap.size w W2) := Lib.hid (by rw [hW2]; exact (hb.grown (setCells_grown (w.heap.size + 2) (encPtr pD) W 0) hb.size (fun k e => by have := Option.some.inj e; omega)).setCell (p := ⟨w.heap.size + 3, 0, none⟩) (by show w.heap.size ≤ w.heap.size + 3; omega) _)
    have H6 : Hid (Blk W2 (w.heap.size + 2) 30 (encPtr pD)) := Lib.hid (by rw [hW2]; exact (h6.setAll (vs := encPtr pD) rfl).other (a := ⟨w.heap.size + 3, 0, none⟩) (by show w.heap.size + 2 ≠ w.heap.size + 3; omega) _)
    have H7 : Hid (Blk W2 (w.heap.size + 3) 4 [.bool false]) := Lib.hid (by rw [hW2]; exact n7.setCell 0 _)
    have HKD : Hid (W2.heap[D]? = some (.deferred (some []))) := Lib.hid (by
      rw [hW2, Below.heap_setCell _ _ _ _ (by show D ≠ w.heap.size + 3; omega), (setCells_grown (w.heap.size + 2) (encPtr pD) W 0).block D (Array.getElem?_eq_some_iff.1 hK).1 (fun e => by have := Option.some.inj e; omega)]
      exact hK)
    have HW2 := Lib.hid hW2
    have HDD := Lib.hid hD
    clear h6 h7 hb hs n7 hK he hW2
    dsimp only
    go_wp2_with fail
    rw [← HW2.out]
    refine ⟨by simp, .inl ⟨_, _, rfl, run_takeDeferred HKD.out, ?_⟩⟩
    have hno : ∀ r, some D = some r → ∃ o : Obj, W2.heap[r]? = some o ∧ o.isCells = false := fun r e => by cases e; exact ⟨_, HKD.out, rfl⟩
    refine ⟨_, results_ptr_bool rfl _ _ (w.heap.size + 2) (w.heap.size + 3) pD false rfl rfl (H6.out.own (grownBy_putObj' W2 D _) hno) (H7.out.own (grownBy_putObj' W2 D _) hno), by rw [HE.out], ?_⟩
    exact HB1.out.grown (grownBy_putObj' W2 D _) HB1.out.size (fun k e => by cases e; omega)
  case stop =>
    rintro D c pre W hD hSp ⟨rfl, x, rfl, h6, h7, hb, hs⟩ hK
    have HE : Hid (nextL l ⟨mb, mg, ma⟩ f t = (x, true)) := Lib.hid (by
      obtain ⟨r, hr⟩ := hSp
      unfold nextL
      rw [← hr]
      rfl)
    refine wpIn_wide.2 ?_
    dsimp only
    go_wp2_with fail
    refine ⟨by simp, .inl ⟨_, _, rfl, run_takeDeferred hK, ?_⟩⟩
    have hno : ∀ r, some D = some r → ∃ o : Obj, W.heap[r]? = some o ∧ o.isCells = false := fun r e => by cases e; exact ⟨_, hK, rfl⟩
    refine ⟨_, results_ptr_bool rfl _ _ (w.heap.size + 2) (w.heap.size + 3) x true rfl rfl (h6.own (grownBy_putObj' W D _) hno) (h7.own (grownBy_putObj' W D _) hno), by rw [HE.out], ?_⟩
    exact hb.grown (grownBy_putObj' W D _) hb.size (fun k e => by cases e; omega)
end Go.Proofs.Ytbkknpodipapoaa
