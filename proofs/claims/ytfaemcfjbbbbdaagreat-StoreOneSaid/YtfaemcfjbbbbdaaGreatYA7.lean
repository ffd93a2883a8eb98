/- Parts of the proof of the statement that the last file of this claim proves: lemmas, without any condition of their own beyond those that each states. -/
import Derived.Test.YtfaemcfjbbbbdaaGreatYA6
import Derived.Deep.CutBlock
set_option linter.unusedVariables false
set_option linter.unusedSimpArgs false
set_option linter.unnecessarySimpa false
namespace Go.Proofs.YtfaemcfjbbbbdaaGreat
open Go.RowKit
attribute [local go_sem ↓] Go.wp_at_zero Go.wp_at_succ
attribute [local go_sem ↓] wp_loadPt wp_storePt
def BuildWS (P : Program) (o : Oper) (t : TypeId) (v : Value) (a : Act) (w : World) (next : Act → World → Prop) (Q : Exit → Act → World → Prop) : Prop :=
 o.upon P a next Q ((do let r ← Instr.buildSlice t 1 #[(0, v)]; pure (Next.value r) : Sem Next).run P w)
theorem wp_buildPS {dst : Option Tmp} {x : Operand} {ty : TypeId} {pos : String} {after : Array Edge} {guard : Option (Nat × Bool)} {a : Act} {w : World} {next : Act → World → Prop} {Q : Exit → Act → World → Prop} :
  Oper.wp Tryz.prog ⟨dst, .buildSlice 58 1 #[(0, x)], ty, pos, after, guard⟩ a w next Q = BuildWS Tryz.prog ⟨dst, .buildSlice 58 1 #[(0, x)], ty, pos, after, guard⟩ 58 (a.eval x) a w next Q := by
 unfold Oper.wp BuildWS execOp
 simp
theorem build_ptrS (w : World) (p : PtrT) (o : Oper) (a : Act) (next : Act → World → Prop) (Q : Exit → Act → World → Prop) :
  BuildWS Tryz.prog o 58 (.agg (encPtr p).toArray) a w next Q = next (a.put o.dst (.slice (some ⟨w.heap.size, 0, none⟩) 1 1)) (w.alloc (.cells (encPtr p).toArray 49)) := by
 unfold BuildWS
 obtain ⟨p0, p1, p2, p3, p4, p5, p6, p7, p8, p9, p10, p11⟩ := p
 have h : (do let r ← Instr.buildSlice 58 1 #[(0, .agg #[.int .i64 p0, .int .i64 p1, .int .i64 p2, .int .i64 p3, .bool p4, .int .i64 p5, .int .i64 p6, .int .i64 p7, .int .u64 p8, .int .u64 p9, .int .u64 p10, .int .u64 p11])]; pure (Next.value r) : Sem Next).run Tryz.prog w = .ok (.value (.slice (some ⟨w.heap.size, 0, none⟩) 1 1)) (w.alloc (.cells #[.int .i64 p0, .int .i64 p1, .int .i64 p2, .int .i64 p3, .bool p4, .int .i64 p5, .int .i64 p6, .int .i64 p7, .int .u64 p8, .int .u64 p9, .int .u64 p10, .int .u64 p11] 49)) := by
  go_simp
 exact congrArg (fun r => o.upon Tryz.prog a next Q r) h
theorem wp_build_at {o : Oper} {a : Act} {K : Act → World → Prop} {Q : Exit → Act → World → Prop} {w : World} (x : Operand) (ho : o.op = .buildSlice 58 1 #[(0, x)]) (p : PtrT) (hx : a.eval x = .agg (encPtr p).toArray)
  (h : K (a.put o.dst (.slice (some ⟨w.heap.size, 0, none⟩) 1 1)) (w.alloc (.cells (encPtr p).toArray 49))) : Oper.wp Tryz.prog o a w K Q := by
 obtain ⟨dst, op, ty, pos, after, guard⟩ := o
 dsimp only at ho h
 subst ho
 rw [wp_buildPS, hx, build_ptrS]
 exact h
theorem results_pt {fn : Func} {p u : Tmp} (h : fn.results = #[.cell p 49, .tmp u]) (tmps : Array Value) (w : World) (g : Nat) (x : PtrT)
  (hp : tmps.getD p undef = .pointer (some ⟨g, 0, none⟩)) (hg : Blk w g 49 (encPtr x)) :
  (results fn tmps).run Tryz.prog w = .ok (.tuple #[.agg (encPtr x).toArray, tmps.getD u undef]) w := by
 have hp' : tmps[p]?.getD undef = .pointer (some ⟨g, 0, none⟩) := by simpa using hp
 have e1 := run_loadVar_mid (P := Tryz.prog) w g 0 49 (encPtr x) _ (fun j v hv => by rw [Nat.zero_add, hg.cell, hv]) Tryz.underlying49 rfl iszPt
 simp [results, h, hp', asAddr, e1]
structure PuR (gS gT sb : Nat) (sc : List Value) (t : Bs) (w : World) : Prop where
 s : Blk w gS 32 [.pointer (some ⟨sb, 0, none⟩)]
 t : Blk w gT 9 [.string ⟨t.toArray⟩]
 b : Blk w sb 41 sc
theorem PuR.below {gS gT sb : Nat} {sc : List Value} {t : Bs} {w w' : World} (h : PuR gS gT sb sc t w) (hb : Below w.heap.size w w') : PuR gS gT sb sc t w' := ⟨h.s.below hb, h.t.below hb, h.b.below hb⟩
structure PuW (gS g8 gR sb : Nat) (p : PtrT) (w : World) : Prop where
 s : Blk w gS 32 [.pointer (some ⟨sb, 0, none⟩)]
 p : Blk w g8 49 (encPtr p)
 r : Blk w gR 49 (encPtr pD)
theorem PuW.below {gS g8 gR sb : Nat} {p : PtrT} {w w' : World} (h : PuW gS g8 gR sb p w) (hb : Below w.heap.size w w') : PuW gS g8 gR sb p w' := ⟨h.s.below hb, h.p.below hb, h.r.below hb⟩
theorem PuW.mod {gS g8 gR sb : Nat} {p : PtrT} {w w' : World} {T : Nat → Prop} (h : PuW gS g8 gR sb p w) (hm : Mod T w w') (hT : ¬ T gS ∧ ¬ T g8 ∧ ¬ T gR) : PuW gS g8 gR sb p w' := ⟨hm.blk h.s hT.1, hm.blk h.p hT.2.1, hm.blk h.r hT.2.2⟩
def PutFn (w : World) (sb : Nat) (V : DvV) (bb : Nat) (dn : Option Nat) (T : Nat → Prop) (R : PutR) (e : Ending) (w' : World) : Prop :=
 e = .returned (.tuple #[.agg (encPtr R.p).toArray, .int .i64 (R.err : Nat)]) ∧ ∃ dn', (∀ d, dn = some d → dn' = some d) ∧ StoStep R.s V sb bb dn' T w w'
theorem blk_gr {W : World} {g j : Nat} {u : Value} : W.grownBy (W.setCell ⟨g, j, none⟩ u) (some g) := setCells_grown g [u] W j
set_option maxRecDepth 100000 in
set_option maxHeartbeats 1600000 in
theorem put_no {w : World} {sb : Nat} {S : StoT} {V : DvV} {bb : Nat} {dn : Option Nat} {T : Nat → Prop} (h : IsSto w sb S V bb dn T) (t : Bs) (level : Int) (htl : t.length ≤ 1000000) (hr : S.x.right = true) (K : Nat) (hK : S.x.deep K) (hK2 : K + 200 ≤ 1000000000) (hw : S.x.takes) (hkp : 0 ≤ S.keep ∧ S.keep ≤ 1000000000) (hbn : S.born.length ≤ 1000000)
  (hpl : (plcX S ((t.length / 64 : Nat) : Int) level).err = 0 → ∀ q ∈ (plcX S ((t.length / 64 : Nat) : Int) level).l, mayC S.x.gs S.x.secs (q.1 : Nat) (q.2 : Nat) ((t.length / 64 : Nat) : Int) = true) (hno : putOk S t level = false) :
  Calls Tryz.prog 12 #[.pointer (some ⟨sb, 0, none⟩), .string ⟨t.toArray⟩, .int .i64 level] w (PutFn w sb V bb dn T (putR S t level)) := by
 obtain ⟨ga, gc, la, lc, wa, acp, rfl⟩ := h.form
 have HNOO := Lib.hid hno
 clear hno
 obtain ⟨w0, hw0⟩ : ∃ w0, w0 = ((w.alloc (.cells #[.pointer (some ⟨sb, 0, none⟩)] 32)).alloc (.cells #[.string ⟨t.toArray⟩] 9)).alloc (.cells #[.int .i64 0, .int .i64 0, .int .i64 0, .int .i64 0, .bool false, .int .i64 0, .int .i64 0, .int .i64 0, .int .u64 0, .int .u64 0, .int .u64 0, .int .u64 0] 49) := ⟨_, rfl⟩
 have hb0 : Below w.heap.size w w0 := by rw [hw0]; exact (((Below.refl _ _).alloc (Nat.le_refl _) _).alloc (by simp) _).alloc (by simp; omega) _
 have kS : Blk w0 w.heap.size 32 [.pointer (some ⟨sb, 0, none⟩)] := by rw [hw0]; exact ((Blk.new w _ [.pointer (some ⟨sb, 0, none⟩)]).alloc _).alloc _
 have kT : Blk w0 (w.heap.size + 1) 9 [.string ⟨t.toArray⟩] := by rw [hw0]; exact (Blk.newAt (g := w.heap.size + 1) _ [.string ⟨t.toArray⟩] (by simp)).alloc _
 have kR : Blk w0 (w.heap.size + 2) 49 (encPtr pD) := by rw [hw0]; exact Blk.newAt (g := w.heap.size + 2) _ (encPtr pD) (by simp)
 have HS0 : Hid (w0.heap.size = w.heap.size + 3) := Lib.hid (by rw [hw0]; simp)
 have HAT0 := Lib.hid ((StoAt.start h).below hb0)
 have HNT : Hid (¬ T w.heap.size ∧ ¬ T (w.heap.size + 1) ∧ ¬ T (w.heap.size + 2)) := Lib.hid ⟨fun hf => by have := h.lt _ hf; omega, fun hf => by have := h.lt _ hf; omega, fun hf => by have := h.lt _ hf; omega⟩
 have HKS := Lib.hid kS
 have HKT := Lib.hid kT
 have HKR := Lib.hid kR
 have HTX := Lib.hid (stext_any t htl w0)
 have c0 : w0.cell? ⟨w.heap.size, 0, none⟩ = some (.pointer (some ⟨sb, 0, none⟩)) := kS.cell 0
 have c1 : w0.cell? ⟨w.heap.size + 1, 0, none⟩ = some (.string ⟨t.toArray⟩) := kT.cell 0
 have hcs := HAT0.out.is.cells
 have e4 : w0.cell? ⟨sb, 4, none⟩ = some (.pointer (some ⟨bb, 0, none⟩)) := hcs.cell 4
 have e5 : w0.cell? ⟨sb, 5, none⟩ = some (.int .i64 S.txg) := hcs.cell 5
 obtain ⟨R, hR⟩ : ∃ R, R = putR S t level := ⟨_, rfl⟩
 rw [← hR]
 have HR := Lib.hid hR
 have s0 : ∀ (op : Oper) (a : Act) (next : Act → World → Prop) (Q : Exit → Act → World → Prop), StoreW Tryz.prog op 49 (.pointer (some ⟨w.heap.size + 2, 0, none⟩)) (.agg #[.int .i64 0, .int .i64 0, .int .i64 0, .int .i64 0, .bool false, .int .i64 0, .int .i64 0, .int .i64 0, .int .u64 0, .int .u64 0, .int .u64 0, .int .u64 0]) a w0 next Q = next (a.put op.dst undef) (w0.setCells (w.heap.size + 2) 0 (encPtr pD)) := fun op a next Q => storeW_part (cs := encPtr pD) kR (Nat.le_refl _) iszPt (encPtr_ones pD) op a next Q
 have HERR : Hid (putOk S t level = false → ∀ e, e = Ending.returned (.tuple #[.agg (encPtr pD).toArray, .int .i64 1]) → PutFn w sb _ bb dn T R e (w0.setCells (w.heap.size + 2) 0 (encPtr pD))) := Lib.hid (fun hno e he => by
  have hRe : R = ⟨pD, 1, S⟩ := by rw [HR.out]; unfold putR; rw [if_pos hno]
  rw [hRe]
  refine ⟨he, dn, fun d e => e, ?_⟩
  exact (HAT0.out.other HKR.out (by unfold BookTy; decide) HNT.out.2.2 (by omega) (setCells_grown _ _ _ _)).fin)
 have HBR : Hid (Blk (w0.setCells (w.heap.size + 2) 0 (encPtr pD)) (w.heap.size + 2) 49 (encPtr pD)) := Lib.hid (kR.put rfl)
 have HFN : Hid (DvsT.right S.x = true ∧ S.x.deep K ∧ K + 200 ≤ 1000000000 ∧ S.x.takes ∧ (0 ≤ S.keep ∧ S.keep ≤ 1000000000) ∧ S.born.length ≤ 1000000) := Lib.hid ⟨hr, hK, hK2, hw, hkp, hbn⟩
 have HPL := Lib.hid hpl
 clear h htl hr hK hK2 hw hkp hbn hpl kS kT kR hR hb0 hcs
 go_enter Tryz.func12, Tryz.ntmps12
 go_upto_region 1 with fail
 simp only [Nat.add_assoc, Nat.reduceAdd]
 rw [← hw0]
 clear hw0
 by_cases hb : blkOk t = true
 ·by_cases h1 : level < 0
  ·have HNO : Hid (putOk S t level = false) := Lib.hid (by unfold putOk; rw [hb, decide_eq_false (fun h => by omega)]; rfl)
   rw [hb] at HTX
   go_wp2_with fail
   refine HTX.out.mono ?_
   rintro e wx ⟨rfl, hwx⟩
   subst hwx
   go_wp2_with fail
   refine bodyPost_ret (results_pt rfl _ _ (w.heap.size + 2) pD rfl HBR.out) rfl ?_
   exact HERR.out HNO.out _ rfl
  ·by_cases h2 : 3 < level
   ·have HNO : Hid (putOk S t level = false) := Lib.hid (by unfold putOk; rw [hb, decide_eq_false (fun h => by omega)]; rfl)
    rw [hb] at HTX
    go_wp2_with fail
    refine HTX.out.mono ?_
    rintro e wx ⟨rfl, hwx⟩
    subst hwx
    go_wp2_with fail
    refine bodyPost_ret (results_pt rfl _ _ (w.heap.size + 2) pD rfl HBR.out) rfl ?_
    exact HERR.out HNO.out _ rfl
   ·by_cases h3 : S.txg < 1
    ·have HNO : Hid (putOk S t level = false) := Lib.hid (by unfold putOk; rw [hb, decide_eq_false (fun h => by omega)]; rfl)
     rw [hb] at HTX
     go_wp2_with fail
     refine HTX.out.mono ?_
     rintro e wx ⟨rfl, hwx⟩
     subst hwx
     go_wp2_with fail
     refine bodyPost_ret (results_pt rfl _ _ (w.heap.size + 2) pD rfl HBR.out) rfl ?_
     exact HERR.out HNO.out _ rfl
    ·by_cases h4 : 4294967295 < S.txg
     ·have HNO : Hid (putOk S t level = false) := Lib.hid (by unfold putOk; rw [hb, decide_eq_false (fun h => by omega)]; rfl)
      rw [hb] at HTX
      go_wp2_with fail
      refine HTX.out.mono ?_
      rintro e wx ⟨rfl, hwx⟩
      subst hwx
      go_wp2_with fail
      refine bodyPost_ret (results_pt rfl _ _ (w.heap.size + 2) pD rfl HBR.out) rfl ?_
      exact HERR.out HNO.out _ rfl
     ·exfalso
      have := HNOO.out
      unfold putOk at this
      rw [hb, decide_eq_true (by omega)] at this
      cases this
 ·have hb2 : blkOk t = false := by simpa using hb
  have HNO : Hid (putOk S t level = false) := Lib.hid (by unfold putOk; rw [hb2]; rfl)
  rw [hb2] at HTX
  go_wp2_with fail
  refine HTX.out.mono ?_
  rintro e wx ⟨rfl, hwx⟩
  subst hwx
  go_wp2_with fail
  refine bodyPost_ret (results_pt rfl _ _ (w.heap.size + 2) pD rfl HBR.out) rfl ?_
  exact HERR.out HNO.out _ rfl
set_option maxRecDepth 100000 in
set_option maxHeartbeats 8000000 in
theorem put_yes {w : World} {sb : Nat} {S : StoT} {V : DvV} {bb : Nat} {dn : Option Nat} {T : Nat → Prop} (h : IsSto w sb S V bb dn T) (t : Bs) (level : Int) (htl : t.length ≤ 1000000) (hr : S.x.right = true) (K : Nat) (hK : S.x.deep K) (hK2 : K + 200 ≤ 1000000000) (hw : S.x.takes) (hkp : 0 ≤ S.keep ∧ S.keep ≤ 1000000000) (hbn : S.born.length ≤ 1000000)
  (hpl : (plcX S ((t.length / 64 : Nat) : Int) level).err = 0 → ∀ q ∈ (plcX S ((t.length / 64 : Nat) : Int) level).l, mayC S.x.gs S.x.secs (q.1 : Nat) (q.2 : Nat) ((t.length / 64 : Nat) : Int) = true) (hyes : putOk S t level = true) :
  Calls Tryz.prog 12 #[.pointer (some ⟨sb, 0, none⟩), .string ⟨t.toArray⟩, .int .i64 level] w (PutFn w sb V bb dn T (putR S t level)) := by
 obtain ⟨ga, gc, la, lc, wa, acp, rfl⟩ := h.form
 have HYES := Lib.hid hyes
 clear hyes
 obtain ⟨w0, hw0⟩ : ∃ w0, w0 = ((w.alloc (.cells #[.pointer (some ⟨sb, 0, none⟩)] 32)).alloc (.cells #[.string ⟨t.toArray⟩] 9)).alloc (.cells #[.int .i64 0, .int .i64 0, .int .i64 0, .int .i64 0, .bool false, .int .i64 0, .int .i64 0, .int .i64 0, .int .u64 0, .int .u64 0, .int .u64 0, .int .u64 0] 49) := ⟨_, rfl⟩
 have hb0 : Below w.heap.size w w0 := by rw [hw0]; exact (((Below.refl _ _).alloc (Nat.le_refl _) _).alloc (by simp) _).alloc (by simp; omega) _
 have kS : Blk w0 w.heap.size 32 [.pointer (some ⟨sb, 0, none⟩)] := by rw [hw0]; exact ((Blk.new w _ [.pointer (some ⟨sb, 0, none⟩)]).alloc _).alloc _
 have kT : Blk w0 (w.heap.size + 1) 9 [.string ⟨t.toArray⟩] := by rw [hw0]; exact (Blk.newAt (g := w.heap.size + 1) _ [.string ⟨t.toArray⟩] (by simp)).alloc _
 have kR : Blk w0 (w.heap.size + 2) 49 (encPtr pD) := by rw [hw0]; exact Blk.newAt (g := w.heap.size + 2) _ (encPtr pD) (by simp)
 have HS0 : Hid (w0.heap.size = w.heap.size + 3) := Lib.hid (by rw [hw0]; simp)
 have HAT0 := Lib.hid ((StoAt.start h).below hb0)
 have HNT : Hid (¬ T w.heap.size ∧ ¬ T (w.heap.size + 1) ∧ ¬ T (w.heap.size + 2)) := Lib.hid ⟨fun hf => by have := h.lt _ hf; omega, fun hf => by have := h.lt _ hf; omega, fun hf => by have := h.lt _ hf; omega⟩
 have HKS := Lib.hid kS
 have HKT := Lib.hid kT
 have HKR := Lib.hid kR
 have HTX := Lib.hid (stext_any t htl w0)
 have c0 : w0.cell? ⟨w.heap.size, 0, none⟩ = some (.pointer (some ⟨sb, 0, none⟩)) := kS.cell 0
 have c1 : w0.cell? ⟨w.heap.size + 1, 0, none⟩ = some (.string ⟨t.toArray⟩) := kT.cell 0
 have hcs := HAT0.out.is.cells
 have e4 : w0.cell? ⟨sb, 4, none⟩ = some (.pointer (some ⟨bb, 0, none⟩)) := hcs.cell 4
 have e5 : w0.cell? ⟨sb, 5, none⟩ = some (.int .i64 S.txg) := hcs.cell 5
 obtain ⟨R, hR⟩ : ∃ R, R = putR S t level := ⟨_, rfl⟩
 rw [← hR]
 have HR := Lib.hid hR
 have s0 : ∀ (op : Oper) (a : Act) (next : Act → World → Prop) (Q : Exit → Act → World → Prop), StoreW Tryz.prog op 49 (.pointer (some ⟨w.heap.size + 2, 0, none⟩)) (.agg #[.int .i64 0, .int .i64 0, .int .i64 0, .int .i64 0, .bool false, .int .i64 0, .int .i64 0, .int .i64 0, .int .u64 0, .int .u64 0, .int .u64 0, .int .u64 0]) a w0 next Q = next (a.put op.dst undef) (w0.setCells (w.heap.size + 2) 0 (encPtr pD)) := fun op a next Q => storeW_part (cs := encPtr pD) kR (Nat.le_refl _) iszPt (encPtr_ones pD) op a next Q
 have HERR : Hid (putOk S t level = false → ∀ e, e = Ending.returned (.tuple #[.agg (encPtr pD).toArray, .int .i64 1]) → PutFn w sb _ bb dn T R e (w0.setCells (w.heap.size + 2) 0 (encPtr pD))) := Lib.hid (fun hno e he => by
  have hRe : R = ⟨pD, 1, S⟩ := by rw [HR.out]; unfold putR; rw [if_pos hno]
  rw [hRe]
  refine ⟨he, dn, fun d e => e, ?_⟩
  exact (HAT0.out.other HKR.out (by unfold BookTy; decide) HNT.out.2.2 (by omega) (setCells_grown _ _ _ _)).fin)
 have HBR : Hid (Blk (w0.setCells (w.heap.size + 2) 0 (encPtr pD)) (w.heap.size + 2) 49 (encPtr pD)) := Lib.hid (kR.put rfl)
 have HFN : Hid (DvsT.right S.x = true ∧ S.x.deep K ∧ K + 200 ≤ 1000000000 ∧ S.x.takes ∧ (0 ≤ S.keep ∧ S.keep ≤ 1000000000) ∧ S.born.length ≤ 1000000) := Lib.hid ⟨hr, hK, hK2, hw, hkp, hbn⟩
 have HPL := Lib.hid hpl
 clear h htl hr hK hK2 hw hkp hbn hpl kS kT kR hR hb0 hcs
 go_enter Tryz.func12, Tryz.ntmps12
 go_upto_region 1 with fail
 simp only [Nat.add_assoc, Nat.reduceAdd]
 rw [← hw0]
 clear hw0
 have hyy := HYES.out
 unfold putOk at hyy
 simp only [Bool.and_eq_true, decide_eq_true_eq] at hyy
 obtain ⟨hb, h1, h2, h3, h4⟩ := hyy
 rw [hb] at HTX
 clear HERR HBR s0
 obtain ⟨F, hdv, _, _⟩ := HAT0.out.is.dvs
 have HVR := Lib.hid (vright_any hdv HFN.out.1)
 have hcs := HAT0.out.is.cells
 have d0 : w0.cell? ⟨sb, 0, none⟩ = some (.slice ga S.x.gs.length gc) := hcs.cell 0
 have d1 : w0.cell? ⟨sb, 1, none⟩ = some (.int .i64 S.x.secs) := hcs.cell 1
 have d2 : w0.cell? ⟨sb, 2, none⟩ = some (.slice la S.x.ds.length lc) := hcs.cell 2
 have d3 : w0.cell? ⟨sb, 3, none⟩ = some (.slice wa S.x.ds.length acp) := hcs.cell 3
 have hb256 : t.length ≤ 256 ∧ t.length % 64 = 0 ∧ 0 < t.length := by
  have := hb
  unfold blkOk at this
  simp only [decide_eq_true_eq] at this
  exact ⟨this.2.2, this.2.1, by rcases t with _ | _; exact absurd rfl this.1; simp⟩
 obtain ⟨⟨x0, x1, x2, x3⟩, hx⟩ : ∃ z, z = sumF t := ⟨_, rfl⟩
 have HSM : Hid (∀ W, Calls Tryz.prog 17 #[.string ⟨t.toArray⟩] W fun e w' => e = .returned (.agg #[.int .u64 (x0 : Nat), .int .u64 (x1 : Nat), .int .u64 (x2 : Nat), .int .u64 (x3 : Nat)]) ∧ Below W.heap.size W w') := Lib.hid (fun W => by
  have h9 := sum_any t (by omega) W
  rw [← hx] at h9
  exact h9)
 have HWQ : Hid (IntKind.i64.wrap ((t.length : Int) / 64) = ((t.length / 64 : Nat) : Int)) := Lib.hid (by rw [IntWalk.i64_in _ (by omega)]; omega)
 have HX := Lib.hid hx
 clear hcs hdv hx
 go_wp2_with fail
 refine HTX.out.mono ?_
 rintro e wx ⟨rfl, hwx⟩
 subst hwx
 go_wp2_with fail
 refine HVR.out.mono ?_
 rintro e w1 ⟨rfl, hb1⟩
 have HAT1 := Lib.hid (HAT0.out.below hb1)
 have K1S := Lib.hid (HKS.out.below hb1)
 have K1T := Lib.hid (HKT.out.below hb1)
 have K1R := Lib.hid (HKR.out.below hb1)
 have HS1 : Hid (w.heap.size + 3 ≤ w1.heap.size) := Lib.hid (by have := hb1.size; have := HS0.out; omega)
 have hS0 : PuR w.heap.size (w.heap.size + 1) sb (stoC ⟨.slice ga S.x.gs.length gc, .slice la S.x.ds.length lc, .slice wa S.x.ds.length acp⟩ S bb dn) t w1.drew := ⟨K1S.out, K1T.out, HAT1.out.is.cells⟩
 clear hb1 c0 c1 e4 e5 d0 d1 d2 d3 HVR HTX
 go_upto_region 3 with fail
 go_cut [8] (fun v8 wx => ∃ g8, v8 = .pointer (some ⟨g8, 0, none⟩) ∧ Hid (Blk wx g8 49 (encPtr ⟨0, 0, 0, 0, false, ((t.length / 64 : Nat) : Int), level, S.txg, (x0 : Nat), (x1 : Nat), (x2 : Nat), (x3 : Nat)⟩) ∧ w1.heap.size ≤ g8 ∧ Below w1.heap.size w1 wx))
 case first =>
  refine wp_region_held_drew (S := PuR w.heap.size (w.heap.size + 1) sb (stoC ⟨.slice ga S.x.gs.length gc, .slice la S.x.ds.length lc, .slice wa S.x.ds.length acp⟩ S bb dn) t) (by kernel_rfl) hS0 (fun hS0 => ?_)
  refine rtv (i := 0) (v := ?vy0) (hy := ?yy0) (h := ?_)
  case yy0 => intro w hSw; (try dsimp only at hSw); go_simp; rw [(PuR.t hSw).cell 0]; rfl
  try simp only [Act.put, z1, z2, z3]
  refine rtv (i := 1) (v := ?vy1) (hy := ?yy1) (h := ?_)
  case yy1 => intro w hSw; (try dsimp only at hSw); go_simp; try with_reducible rfl
  try simp only [Act.put, z1, z2, z3]
  refine rtv (i := 2) (v := ?vy2) (hy := ?yy2) (h := ?_)
  case yy2 => intro w hSw; (try dsimp only at hSw); go_simp; rw [HWQ.out]
  try simp only [Act.put, z1, z2, z3]
  refine rtv (i := 3) (v := ?vy3) (hy := ?yy3) (h := ?_)
  case yy3 => intro w hSw; (try dsimp only at hSw); go_simp; try with_reducible rfl
  try simp only [Act.put, z1, z2, z3]
  refine rtv (i := 4) (v := ?vy4) (hy := ?yy4) (h := ?_)
  case yy4 => intro w hSw; (try dsimp only at hSw); go_simp; rw [(PuR.s hSw).cell 0]; rfl
  try simp only [Act.put, z1, z2, z3]
  refine rtv (i := 5) (v := ?vy5) (hy := ?yy5) (h := ?_)
  case yy5 => intro w hSw; (try dsimp only at hSw); go_simp; try with_reducible rfl
  try simp only [Act.put, z1, z2, z3]
  refine rtv (i := 6) (v := ?vy6) (hy := ?yy6) (h := ?_)
  case yy6 => intro w hSw; (try dsimp only at hSw); go_simp; try with_reducible rfl
  try simp only [Act.put, z1, z2, z3]
  refine rtv (i := 7) (v := ?vy7) (hy := ?yy7) (h := ?_)
  case yy7 => intro w hSw; (try dsimp only at hSw); go_simp; rw [(PuR.b hSw).cell 5]; rfl
  try simp only [Act.put, z1, z2, z3]
  refine rtv (i := 8) (v := ?vy8) (hy := ?yy8) (h := ?_)
  case yy8 => intro w hSw; (try dsimp only at hSw); go_simp; rw [(PuR.t hSw).cell 0]; rfl
  try simp only [Act.put, z1, z2, z3]
  refine wpAnyH_ready (rs := [9, 11]) (by kernel_rfl) (by simp) ?_
  refine AllReadyH.cons (by simp only [List.getElem?_toArray, List.getElem?_cons_succ, List.getElem?_cons_zero]; rfl) (fun K hK => ?_) (AllReadyH.cons (by simp only [List.getElem?_toArray, List.getElem?_cons_succ, List.getElem?_cons_zero]; rfl) (fun K hK => ?_) AllReadyH.nil)
  ·go_simp
   refine (HSM.out w1.drew).mono ?_
   rintro e w6 ⟨rfl, hb6⟩
   have HB6 : Hid (Below w1.heap.size w1 w6) := Lib.hid ((Below.refl w1.heap.size w1).drew.trans (hb6.mono ((Below.refl w1.heap.size w1).drew).size))
   have HP6 := Lib.hid (hS0.below hb6)
   clear hb6
   try dsimp only
   refine hK.out _ _ (HP6.out) (fun hSyp9 => ?_)
   try simp only [Act.put, z1, z2, z3]
   refine rtv (i := 10) (v := ?vyp10) (hy := ?yyp10) (h := ?_)
   case yyp10 => intro w hSw; (try dsimp only at hSw); go_simp; try with_reducible rfl
   try simp only [Act.put, z1, z2, z3]
   refine rr1 (i := 11) (h := fun K hK => ?_)
   go_simp
   skip
   refine hK.out _ _ ((HP6.out.below ((Below.refl _ _).alloc (Nat.le_refl _) (.cells (encPtr pD).toArray 49)))) (fun hSyp11 => ?_)
   try simp only [Act.put, z1, z2, z3]
   refine rr1 (i := 12) (h := fun K hK => ?_)
   rw [if_pos (by kernel_rfl)]
   refine wp_store_mid 49 (.tmp 8) (.tmp 66) rfl w6.heap.size (0) (encPtr ⟨0, 0, 0, 0, false, ((t.length / 64 : Nat) : Int), level, S.txg, (x0 : Nat), (x1 : Nat), (x2 : Nat), (x3 : Nat)⟩).toArray rfl rfl (blk_there (Blk.new w6 49 (encPtr pD)) (Nat.le_refl 12)) iszPt (all_oneCell_toArray (encPtr_ones _)) ?_
   refine hK.out _ _ (⟨(HP6.out.s.alloc _).away 0 _ (by have := HP6.out.s.lt; omega), (HP6.out.t.alloc _).away 0 _ (by have := HP6.out.t.lt; omega), (HP6.out.b.alloc _).away 0 _ (by have := HP6.out.b.lt; omega)⟩) (fun hSyp12 => ?_)
   try simp only [Act.put, z1, z2, z3]
   have HT : Hid (Blk ((w6.alloc (.cells (encPtr pD).toArray 49)).setCells w6.heap.size 0 (encPtr ⟨0, 0, 0, 0, false, ((t.length / 64 : Nat) : Int), level, S.txg, (x0 : Nat), (x1 : Nat), (x2 : Nat), (x3 : Nat)⟩)) w6.heap.size 49 (encPtr ⟨0, 0, 0, 0, false, ((t.length / 64 : Nat) : Int), level, S.txg, (x0 : Nat), (x1 : Nat), (x2 : Nat), (x3 : Nat)⟩) ∧ w1.heap.size ≤ w6.heap.size ∧ Below w1.heap.size w1 ((w6.alloc (.cells (encPtr pD).toArray 49)).setCells w6.heap.size 0 (encPtr ⟨0, 0, 0, 0, false, ((t.length / 64 : Nat) : Int), level, S.txg, (x0 : Nat), (x1 : Nat), (x2 : Nat), (x3 : Nat)⟩))) := Lib.hid ⟨(Blk.new w6 49 (encPtr pD)).put rfl, HB6.out.size, below_put (HB6.out.alloc HB6.out.size _) (by have := HB6.out.size; simp; omega) HB6.out.size⟩
   refine wpAnyH_done (by kernel_rfl) ?_ _
   go_wp2_with fail
   go_meet
   exact ⟨_, rfl, HT⟩
  ·go_simp
   skip
   refine hK.out _ _ ((hS0.below ((Below.refl _ _).alloc (Nat.le_refl _) (.cells (encPtr pD).toArray 49)))) (fun hSyq11 => ?_)
   try simp only [Act.put, z1, z2, z3]
   refine rr1 (i := 9) (h := fun K hK => ?_)
   go_simp
   refine (HSM.out (w1.drew.alloc (.cells (encPtr pD).toArray 49))).mono ?_
   rintro e w6 ⟨rfl, hb6⟩
   have HB6 : Hid (Below w1.heap.size w1 w6) := Lib.hid (((Below.refl _ _).drew.alloc (Nat.le_refl _) (.cells (encPtr pD).toArray 49)).trans (hb6.mono ((Below.refl w1.heap.size w1).drew.alloc (Nat.le_refl _) (.cells (encPtr pD).toArray 49)).size))
   have HP6 := Lib.hid ((hS0.below ((Below.refl _ _).alloc (Nat.le_refl _) (.cells (encPtr pD).toArray 49))).below hb6)
   have HX6 : Hid (Blk w6 w1.heap.size 49 (encPtr pD)) := Lib.hid ((Blk.new w1.drew _ (encPtr pD)).below hb6)
   clear hb6
   try dsimp only
   refine hK.out _ _ (HP6.out) (fun hSyq9 => ?_)
   try simp only [Act.put, z1, z2, z3]
   refine rtv (i := 10) (v := ?vyq10) (hy := ?yyq10) (h := ?_)
   case yyq10 => intro w hSw; (try dsimp only at hSw); go_simp; try with_reducible rfl
   try simp only [Act.put, z1, z2, z3]
   refine rr1 (i := 12) (h := fun K hK => ?_)
   rw [if_pos (by kernel_rfl)]
   refine wp_store_mid 49 (.tmp 8) (.tmp 66) rfl w1.heap.size (0) (encPtr ⟨0, 0, 0, 0, false, ((t.length / 64 : Nat) : Int), level, S.txg, (x0 : Nat), (x1 : Nat), (x2 : Nat), (x3 : Nat)⟩).toArray rfl rfl (blk_there HX6.out (Nat.le_refl 12)) iszPt (all_oneCell_toArray (encPtr_ones _)) ?_
   refine hK.out _ _ (⟨HP6.out.s.away 0 _ (by have := HS1.out; omega), HP6.out.t.away 0 _ (by have := HS1.out; omega), HP6.out.b.away 0 _ (by have := hS0.b.lt; have e : w1.drew.heap.size = w1.heap.size := rfl; omega)⟩) (fun hSyq12 => ?_)
   try simp only [Act.put, z1, z2, z3]
   have HT : Hid (Blk (w6.setCells w1.heap.size 0 (encPtr ⟨0, 0, 0, 0, false, ((t.length / 64 : Nat) : Int), level, S.txg, (x0 : Nat), (x1 : Nat), (x2 : Nat), (x3 : Nat)⟩)) w1.heap.size 49 (encPtr ⟨0, 0, 0, 0, false, ((t.length / 64 : Nat) : Int), level, S.txg, (x0 : Nat), (x1 : Nat), (x2 : Nat), (x3 : Nat)⟩) ∧ w1.heap.size ≤ w1.heap.size ∧ Below w1.heap.size w1 (w6.setCells w1.heap.size 0 (encPtr ⟨0, 0, 0, 0, false, ((t.length / 64 : Nat) : Int), level, S.txg, (x0 : Nat), (x1 : Nat), (x2 : Nat), (x3 : Nat)⟩))) := Lib.hid ⟨HX6.out.put rfl, Nat.le_refl _, below_put HB6.out HB6.out.size (Nat.le_refl _)⟩
   refine wpAnyH_done (by kernel_rfl) ?_ _
   go_wp2_with fail
   go_meet
   exact ⟨_, rfl, HT⟩
 case rest =>
  obtain ⟨g8, rfl, HG8⟩ := hcut
  have HAT2 := Lib.hid (HAT1.out.below HG8.out.2.2)
  have K2S := Lib.hid (K1S.out.below HG8.out.2.2)
  have K2T := Lib.hid (K1T.out.below HG8.out.2.2)
  have K2R := Lib.hid (K1R.out.below HG8.out.2.2)
  have HG8N : Hid (¬ T g8 ∧ w.heap.size + 3 ≤ g8) := Lib.hid ⟨fun hf => by have := HAT1.out.is.lt _ hf; have := HG8.out.2.1; omega, by have := HG8.out.2.1; have := HS1.out; omega⟩
  have b0 : wc.cell? ⟨w.heap.size, 0, none⟩ = some (.pointer (some ⟨sb, 0, none⟩)) := K2S.out.cell 0
  have b5 : wc.cell? ⟨g8, 5, none⟩ = some (.int .i64 ((t.length / 64 : Nat) : Int)) := HG8.out.1.cell 5
  obtain ⟨sz, hsz⟩ : ∃ sz : Int, sz = ((t.length / 64 : Nat) : Int) := ⟨_, rfl⟩
  have HSZ := Lib.hid hsz
  rw [← hsz] at b5
  have HPC := Lib.hid (places_yes HAT2.out.is sz level HFN.out.2.2.2.2.1)
  obtain ⟨er, hper⟩ : ∃ er, er = (plcX S sz level).err := ⟨_, rfl⟩
  obtain ⟨l, hl⟩ : ∃ l, l = (plcX S sz level).l := ⟨_, rfl⟩
  obtain ⟨sn1, hsn1⟩ : ∃ sn1, sn1 = (plcX S sz level).sn := ⟨_, rfl⟩
  obtain ⟨es1, hes1⟩ : ∃ es1, es1 = (plcX S sz level).es := ⟨_, rfl⟩
  rw [← hper, ← hl, ← hsn1, ← hes1] at HPC
  have HRE : Hid (R = if er ≠ 0 then ⟨pD, er, { S with sn := sn1, es := es1 }⟩ else ⟨mkPt t level S.txg l, 0, { S with sn := sn1, es := es1, x := putsL t l S.x, born := S.born ++ [mkPt t level S.txg l] }⟩) := Lib.hid (by
   rw [HR.out]
   unfold putR
   rw [if_neg (by rw [HYES.out]; decide), ← HSZ.out, ← hper, ← hl, ← hsn1, ← hes1])
  have HL12 : Hid (er = 0 → l.length = 1 ∨ l.length = 2) := Lib.hid (fun h0 => by rw [hl]; exact plc_len S sz level (hper.symm.trans h0))
  have HLM : Hid (er = 0 → ∀ q ∈ l, mayC S.x.gs S.x.secs (q.1 : Nat) (q.2 : Nat) ((t.length / 64 : Nat) : Int) = true) := Lib.hid (fun h0 q hq => by
   refine HPL.out ?_ q ?_
   ·rw [← HSZ.out, ← hper]; exact h0
   ·rw [← HSZ.out, ← hl]; exact hq)
  clear hper hl hsn1 hes1 hsz HR
  go_wp2_with fail
  refine HPC.out.mono ?_
  rintro e w3 ⟨v, rfl, ⟨vao, vn, vc, rfl⟩, hv, hst⟩
  obtain ⟨T3, hat3, hfr3, hm3⟩ := HAT2.out.step hst
  have HAT3 := Lib.hid hat3
  have HNT3 : Hid (¬ T3 w.heap.size ∧ ¬ T3 (w.heap.size + 1) ∧ ¬ T3 (w.heap.size + 2) ∧ ¬ T3 g8) := Lib.hid ⟨hfr3 _ K2S.out.lt HNT.out.1, hfr3 _ K2T.out.lt HNT.out.2.1, hfr3 _ K2R.out.lt HNT.out.2.2, hfr3 _ HG8.out.1.lt HG8N.out.1⟩
  have K3S := Lib.hid (hm3.blk K2S.out HNT.out.1)
  have K3T := Lib.hid (hm3.blk K2T.out HNT.out.2.1)
  have K3R := Lib.hid (hm3.blk K2R.out HNT.out.2.2)
  have K38 := Lib.hid (hm3.blk HG8.out.1 HG8N.out.1)
  have HV := Lib.hid hv
  clear hv hst hat3 hfr3 hm3 HPC b0 b5
  by_cases her : er = 0
  ·obtain ⟨gl, hve, hgl, hkl⟩ := HV.out her
   rw [hve]
   subst her
   clear hve HV
   have hll : l.length ≤ 2 := by rcases HL12.out rfl with h | h <;> omega
   have HDL := Lib.hid (deleteP_any HAT3.out.is w.heap.size (w.heap.size + 1) g8 gl l.length t l K3S.out K3T.out hkl HNT3.out.1 HNT3.out.2.1 hll HFN.out.1 hb (HLM.out rfl) K HFN.out.2.1 HFN.out.2.2.1 HFN.out.2.2.2.1)
   have HKL := Lib.hid hkl
   have HKN := Lib.hid (HAT3.out.is.noType hkl (by unfold StoTy BookTy DevTy; decide))
   clear hgl hkl
   go_wp2_with fail
   refine HDL.out.mono ?_
   rintro e w4 ⟨rfl, hst⟩
   obtain ⟨T4, hat4, hfr4, hm4⟩ := HAT3.out.step hst
   have HAT4 := Lib.hid hat4
   have HNT4 : Hid (¬ T4 w.heap.size ∧ ¬ T4 g8 ∧ ¬ T4 (w.heap.size + 2)) := Lib.hid ⟨hfr4 _ K3S.out.lt HNT3.out.1, hfr4 _ K38.out.lt HNT3.out.2.2.2, hfr4 _ K3R.out.lt HNT3.out.2.2.1⟩
   have K4S := Lib.hid (hm4.blk K3S.out HNT3.out.1)
   have K4R := Lib.hid (hm4.blk K3R.out HNT3.out.2.2.1)
   have K48 := Lib.hid (hm4.blk K38.out HNT3.out.2.2.2)
   have K4L := Lib.hid (hm4.blk HKL.out HKN.out)
   clear hst hat4 hfr4 hm4 HDL
   rcases l with _ | ⟨⟨q0g, q0a⟩, _ | ⟨⟨q1g, q1a⟩, _ | ⟨q2, rr⟩⟩⟩
   ·exfalso
    rcases HL12.out (by trivial) with h | h <;> cases h
   ·have hgS : w.heap.size ≠ g8 := by have := HG8N.out.2; omega
    have hgR : w.heap.size + 2 ≠ g8 := by have := HG8N.out.2; omega
    have hg8 : w.heap.size + 3 ≤ g8 := HG8N.out.2
    obtain ⟨w5, hw5⟩ : ∃ w5, w5 = (((w4.setCell ⟨g8, 0, none⟩ (.int .i64 (q0g : Nat))).setCell ⟨g8, 1, none⟩ (.int .i64 (q0a : Nat))).setCell ⟨g8, 4, none⟩ (.bool false)) := ⟨_, rfl⟩
    have HAT5 : Hid (StoAt { S with sn := sn1, es := es1, x := putsL t [(q0g, q0a)] S.x } _ sb bb dn T w w5 T4) := Lib.hid (by rw [hw5]; exact (((HAT4.out.other (wd := w4.setCell ⟨g8, 0, none⟩ (.int .i64 (q0g : Nat))) K48.out (by unfold BookTy; decide) HNT4.out.2.1 (by omega) blk_gr).other (wd := (w4.setCell ⟨g8, 0, none⟩ (.int .i64 (q0g : Nat))).setCell ⟨g8, 1, none⟩ (.int .i64 (q0a : Nat))) (K48.out.setCell 0 (.int .i64 (q0g : Nat))) (by unfold BookTy; decide) HNT4.out.2.1 (by omega) blk_gr).other (wd := ((w4.setCell ⟨g8, 0, none⟩ (.int .i64 (q0g : Nat))).setCell ⟨g8, 1, none⟩ (.int .i64 (q0a : Nat))).setCell ⟨g8, 4, none⟩ (.bool false)) ((K48.out.setCell 0 (.int .i64 (q0g : Nat))).setCell 1 (.int .i64 (q0a : Nat))) (by unfold BookTy; decide) HNT4.out.2.1 (by omega) blk_gr))
    have HPW : Hid (PuW w.heap.size g8 (w.heap.size + 2) sb ⟨(q0g : Nat), (q0a : Nat), 0, 0, false, sz, level, S.txg, (x0 : Nat), (x1 : Nat), (x2 : Nat), (x3 : Nat)⟩ w5) := Lib.hid (by rw [hw5, HSZ.out]; exact ⟨(((K4S.out.other (a := ⟨g8, 0, none⟩) hgS _).other (a := ⟨g8, 1, none⟩) hgS _).other (a := ⟨g8, 4, none⟩) hgS _), (((K48.out.setCell 0 (.int .i64 (q0g : Nat))).setCell 1 (.int .i64 (q0a : Nat))).setCell 4 (.bool false)), (((K4R.out.other (a := ⟨g8, 0, none⟩) hgR _).other (a := ⟨g8, 1, none⟩) hgR _).other (a := ⟨g8, 4, none⟩) hgR _)⟩)
    have HRR : Hid (R = ⟨⟨(q0g : Nat), (q0a : Nat), 0, 0, false, sz, level, S.txg, (x0 : Nat), (x1 : Nat), (x2 : Nat), (x3 : Nat)⟩, 0, { S with sn := sn1, es := es1, x := putsL t [(q0g, q0a)] S.x, born := S.born ++ [⟨(q0g : Nat), (q0a : Nat), 0, 0, false, sz, level, S.txg, (x0 : Nat), (x1 : Nat), (x2 : Nat), (x3 : Nat)⟩] }⟩) := Lib.hid (by
     have hp : mkPt t level S.txg [(q0g, q0a)] = ⟨(q0g : Nat), (q0a : Nat), 0, 0, false, sz, level, S.txg, (x0 : Nat), (x1 : Nat), (x2 : Nat), (x3 : Nat)⟩ := by unfold mkPt; rw [← HX.out, ← HSZ.out]; rfl
     rw [HRE.out, if_neg (by simp), hp])
    have z0 : w4.cell? ⟨gl, 0, none⟩ = some (.int .i64 (q0g : Nat)) := K4L.out.cell 0
    have z1 : w4.cell? ⟨gl, 1, none⟩ = some (.int .i64 (q0a : Nat)) := K4L.out.cell 1
    have hgl : gl ≠ g8 := fun e => by
     have h1 := K4L.out
     have h2 := K48.out
     unfold Blk at h1 h2
     rw [e, h2] at h1
     simp only [Option.some.injEq, Obj.cells.injEq] at h1
     exact absurd h1.2.1 (by decide)
    have y0 : w4.cell? ⟨g8, 0, none⟩ = some (.int .i64 0) := K48.out.cell 0
    have y1 : w4.cell? ⟨g8, 1, none⟩ = some (.int .i64 0) := K48.out.cell 1
    have y2 : w4.cell? ⟨g8, 2, none⟩ = some (.int .i64 0) := K48.out.cell 2
    have y3 : w4.cell? ⟨g8, 3, none⟩ = some (.int .i64 0) := K48.out.cell 3
    have y4 : w4.cell? ⟨g8, 4, none⟩ = some (.bool false) := K48.out.cell 4
    have v0 := K48.out.frozen 0
    have v1 := K48.out.frozen 1
    have v2 := K48.out.frozen 2
    have v3 := K48.out.frozen 3
    have v4 := K48.out.frozen 4
    simp only [List.length_cons, List.length_nil, Nat.zero_add, Nat.reduceAdd]
    go_upto_region 13 with fail
    rw [← hw5]
    clear hw5 y0 y1 y2 y3 y4 v0 v1 v2 v3 v4 z0 z1 hgl
    have HA5 := Lib.hid (HAT5.out.below (Below.refl _ _).drew)
    have HA5b := Lib.hid (HA5.out.alloc (.cells (encPtr ⟨(q0g : Nat), (q0a : Nat), 0, 0, false, sz, level, S.txg, (x0 : Nat), (x1 : Nat), (x2 : Nat), (x3 : Nat)⟩).toArray 49))
    have hS5 : PuW w.heap.size g8 (w.heap.size + 2) sb ⟨(q0g : Nat), (q0a : Nat), 0, 0, false, sz, level, S.txg, (x0 : Nat), (x1 : Nat), (x2 : Nat), (x3 : Nat)⟩ w5.drew := HPW.out.below (Below.refl _ _).drew
    go_cut [100] (fun v wx => ∃ d Tz, v = .pointer (some ⟨sb, 0, none⟩) ∧ Hid (∀ d0, dn = some d0 → d = d0) ∧ Hid (StoAt { S with sn := sn1, es := es1, x := putsL t [(q0g, q0a)] S.x, born := S.born ++ [⟨(q0g : Nat), (q0a : Nat), 0, 0, false, sz, level, S.txg, (x0 : Nat), (x1 : Nat), (x2 : Nat), (x3 : Nat)⟩] } ⟨.slice ga S.x.gs.length gc, .slice la S.x.ds.length lc, .slice wa S.x.ds.length acp⟩ sb bb (some d) T w wx Tz) ∧ Hid (PuW w.heap.size g8 (w.heap.size + 2) sb ⟨(q0g : Nat), (q0a : Nat), 0, 0, false, sz, level, S.txg, (x0 : Nat), (x1 : Nat), (x2 : Nat), (x3 : Nat)⟩ wx) ∧ Hid (¬ Tz g8 ∧ ¬ Tz (w.heap.size + 2)))
    case first =>
     refine wp_region_held_drew (S := PuW w.heap.size g8 (w.heap.size + 2) sb ⟨(q0g : Nat), (q0a : Nat), 0, 0, false, sz, level, S.txg, (x0 : Nat), (x1 : Nat), (x2 : Nat), (x3 : Nat)⟩) (by kernel_rfl) hS5 (fun hS5 => ?_)
     refine rtv (i := 0) (v := ?vz0) (hy := ?yz0) (h := ?_)
     case yz0 => intro w hSw; (try dsimp only at hSw); go_simp; rw [(PuW.s hSw).cell 0]; rfl
     try simp only [Act.put, z1, z2, z3]
     refine rtv (i := 2) (v := ?vz2) (hy := ?yz2) (h := ?_)
     case yz2 => intro w hSw; (try dsimp only at hSw); go_simp; rw [(PuW.s hSw).cell 0]; rfl
     try simp only [Act.put, z1, z2, z3]
     refine wpAnyH_take (i := 7) (oi := ?oiz7) (v := ?vz7) ?hiz7 ?hsz7 ?hfz7 ?hrz7 ?hQz7 ?hyz7 ?hSz7 ?hz7
     case hiz7 => (simp only [List.getElem?_toArray, List.getElem?_cons_succ, List.getElem?_cons_zero]; rfl)
     case hsz7 => kernel_rfl
     case hfz7 => kernel_rfl
     case hrz7 => kernel_rfl
     case hSz7 => first | assumption | trivial
     case hyz7 => refine yieldsIf_load_mid (by kernel_rfl) 49 (.tmp 8) ?_ g8 (0) ?_ (encPtr ⟨(q0g : Nat), (q0a : Nat), 0, 0, false, sz, level, S.txg, (x0 : Nat), (x1 : Nat), (x2 : Nat), (x3 : Nat)⟩) _ (fun w' (hw : PuW _ _ _ _ _ w') => range0M hw.p) Tryz.underlying49 rfl iszPt <;> rfl
     case hQz7 => exact fun _ _ _ h => h
     try simp only [Act.put, z1, z2, z3]
     refine wpAnyH_ready (rs := [1, 8]) (by kernel_rfl) (by simp) ?_
     refine AllReadyH.cons (by simp only [List.getElem?_toArray, List.getElem?_cons_succ, List.getElem?_cons_zero]; rfl) (fun K hK => ?_) (AllReadyH.cons (by simp only [List.getElem?_toArray, List.getElem?_cons_succ, List.getElem?_cons_zero]; rfl) (fun K hK => ?_) AllReadyH.nil)
     ·go_simp
      refine (work_any2 HA5.out.is).mono ?_
      rintro e w6 ⟨d, rfl, hst, hdd⟩
      obtain ⟨T6, hat6, hfr6, hm6⟩ := HA5.out.step hst
      have HAT6 := Lib.hid hat6
      have HD6 := Lib.hid hdd
      have HN6 : Hid (¬ T6 w.heap.size ∧ ¬ T6 g8 ∧ ¬ T6 (w.heap.size + 2)) := Lib.hid ⟨hfr6 _ (hS5).s.lt HNT4.out.1, hfr6 _ (hS5).p.lt HNT4.out.2.1, hfr6 _ (hS5).r.lt HNT4.out.2.2⟩
      have HP6 := Lib.hid ((hS5).mod hm6 HNT4.out)
      clear hst hdd hat6 hfr6 hm6
      try dsimp only
      refine hK.out _ _ (HP6.out) (fun hSzp1 => ?_)
      try simp only [Act.put, z1, z2, z3]
      refine wpAnyH_ready (rs := [3, 8]) (by kernel_rfl) (by simp) ?_
      refine AllReadyH.cons (by simp only [List.getElem?_toArray, List.getElem?_cons_succ, List.getElem?_cons_zero]; rfl) (fun K hK => ?_) (AllReadyH.cons (by simp only [List.getElem?_toArray, List.getElem?_cons_succ, List.getElem?_cons_zero]; rfl) (fun K hK => ?_) AllReadyH.nil)
      ·go_simp
       refine (work_some HAT6.out.is).mono ?_
       rintro e w7 ⟨rfl, hw7⟩
       rw [hw7]
       clear hw7
       try dsimp only
       refine hK.out _ _ (HP6.out) (fun hSzpp3 => ?_)
       try simp only [Act.put, z1, z2, z3]
       refine rtv (i := 4) (v := ?vzpp4) (hy := ?yzpp4) (h := ?_)
       case yzpp4 => intro w hSw; (try dsimp only at hSw); go_simp; try with_reducible rfl
       try simp only [Act.put, z1, z2, z3]
       refine rtv (i := 5) (v := ?vzpp5) (hy := ?yzpp5) (h := ?_)
       case yzpp5 => intro w hSw; (try dsimp only at hSw); go_simp; try with_reducible rfl
       try simp only [Act.put, z1, z2, z3]
       obtain ⟨bv, hbv⟩ := HAT6.out.is.done
       obtain ⟨bo, bc, rfl⟩ := own_form (HAT6.out.is.app2 hbv).1
       have HBV := Lib.hid hbv
       have e6 : w6.cell? ⟨d, 1, none⟩ = some (.slice bo S.born.length bc) := hbv.cell 1
       clear hbv
       refine wpAnyH_ready (rs := [6, 8]) (by kernel_rfl) (by simp) ?_
       refine AllReadyH.cons (by simp only [List.getElem?_toArray, List.getElem?_cons_succ, List.getElem?_cons_zero]; rfl) (fun K hK => ?_) (AllReadyH.cons (by simp only [List.getElem?_toArray, List.getElem?_cons_succ, List.getElem?_cons_zero]; rfl) (fun K hK => ?_) AllReadyH.nil)
       ·go_simp
        clear e6
        refine hK.out _ _ (HP6.out) (fun hSzppp6 => ?_)
        try simp only [Act.put, z1, z2, z3]
        refine rr1 (i := 8) (h := fun K hK => ?_)
        rw [if_pos (by kernel_rfl)]
        refine wp_build_at (.tmp 107) rfl ⟨(q0g : Nat), (q0a : Nat), 0, 0, false, sz, level, S.txg, (x0 : Nat), (x1 : Nat), (x2 : Nat), (x3 : Nat)⟩ rfl ?_
        refine hK.out _ _ ((HP6.out.below ((Below.refl _ _).alloc (Nat.le_refl _) (.cells (encPtr ⟨(q0g : Nat), (q0a : Nat), 0, 0, false, sz, level, S.txg, (x0 : Nat), (x1 : Nat), (x2 : Nat), (x3 : Nat)⟩).toArray 49)))) (fun hSzppp8 => ?_)
        try simp only [Act.put, z1, z2, z3]
        have HAT6b := Lib.hid (HAT6.out.alloc (.cells (encPtr ⟨(q0g : Nat), (q0a : Nat), 0, 0, false, sz, level, S.txg, (x0 : Nat), (x1 : Nat), (x2 : Nat), (x3 : Nat)⟩).toArray 49))
        have HP6b := Lib.hid (HP6.out.below ((Below.refl _ _).alloc (Nat.le_refl _) (.cells (encPtr ⟨(q0g : Nat), (q0a : Nat), 0, 0, false, sz, level, S.txg, (x0 : Nat), (x1 : Nat), (x2 : Nat), (x3 : Nat)⟩).toArray 49)))
        have HGBb : Hid (Blk (w6.alloc (.cells (encPtr ⟨(q0g : Nat), (q0a : Nat), 0, 0, false, sz, level, S.txg, (x0 : Nat), (x1 : Nat), (x2 : Nat), (x3 : Nat)⟩).toArray 49)) w6.heap.size 49 (encPtr ⟨(q0g : Nat), (q0a : Nat), 0, 0, false, sz, level, S.txg, (x0 : Nat), (x1 : Nat), (x2 : Nat), (x3 : Nat)⟩)) := Lib.hid (Blk.new w6 _ (encPtr ⟨(q0g : Nat), (q0a : Nat), 0, 0, false, sz, level, S.txg, (x0 : Nat), (x1 : Nat), (x2 : Nat), (x3 : Nat)⟩))
        refine rr1 (i := 9) (h := fun K hK => ?_)
        rw [if_pos (by kernel_rfl)]
        obtain ⟨hrow, hTd, hTb, happ⟩ := HAT6b.out.is.app2 (HBV.out.alloc _)
        refine wp_app_ptrS (.tmp 106) (.tmp 108) rfl (.slice bo S.born.length bc) S.born rfl hrow w6.heap.size 1 ⟨(q0g : Nat), (q0a : Nat), 0, 0, false, sz, level, S.txg, (x0 : Nat), (x1 : Nat), (x2 : Nat), (x3 : Nat)⟩ rfl (range0M HGBb.out) HFN.out.2.2.2.2.2 ?_
        intro v9 w9 hown hgrow hat
        obtain ⟨hd9, hst9⟩ := happ ⟨(q0g : Nat), (q0a : Nat), 0, 0, false, sz, level, S.txg, (x0 : Nat), (x1 : Nat), (x2 : Nat), (x3 : Nat)⟩ v9 w9 hown hgrow hat
        obtain ⟨ao9, cap9, rfl⟩ := own_form hown
        obtain ⟨T9, hat9, hfr9, _⟩ := HAT6b.out.step hst9
        have HP9 := Lib.hid (HP6b.out.mod (mod_grown hgrow hTb) HN6.out)
        have HAT9 := Lib.hid (by simpa only [List.length_append, List.length_singleton] using hat9)
        have HN9 : Hid (¬ T9 g8 ∧ ¬ T9 (w.heap.size + 2)) := Lib.hid ⟨hfr9 _ HP6b.out.p.lt HN6.out.2.1, hfr9 _ HP6b.out.r.lt HN6.out.2.2⟩
        have HNE9 : Hid (w.heap.size ≠ d ∧ g8 ≠ d ∧ w.heap.size + 2 ≠ d) := Lib.hid ⟨fun e => HN6.out.1 (by rw [e]; exact hTd), fun e => HN6.out.2.1 (by rw [e]; exact hTd), fun e => HN6.out.2.2 (by rw [e]; exact hTd)⟩
        have e9 : w9.cell? ⟨d, 1, none⟩ = some (.slice bo S.born.length bc) := hd9.cell 1
        have f9 := hd9.frozen 1
        clear hrow hTd hTb happ hown hgrow hat hd9 hst9 hat9 hfr9
        refine hK.out _ _ (HP9.out) (fun hSzppp9 => ?_)
        try simp only [Act.put, z1, z2, z3]
        refine rtv (i := 10) (v := ?vzppp10) (hy := ?yzppp10) (h := ?_)
        case yzppp10 => intro w hSw; (try dsimp only at hSw); go_simp; try with_reducible rfl
        try simp only [Act.put, z1, z2, z3]
        refine rtv (i := 11) (v := ?vzppp11) (hy := ?yzppp11) (h := ?_)
        case yzppp11 => intro w hSw; (try dsimp only at hSw); go_simp; try with_reducible rfl
        try simp only [Act.put, z1, z2, z3]
        refine rr1 (i := 12) (h := fun K hK => ?_)
        go_simp
        skip
        refine hK.out _ _ (⟨HP9.out.s.other HNE9.out.1 _, HP9.out.p.other HNE9.out.2.1 _, HP9.out.r.other HNE9.out.2.2 _⟩) (fun hSzppp12 => ?_)
        try simp only [Act.put, z1, z2, z3]
        have HP12 : Hid (PuW w.heap.size g8 (w.heap.size + 2) sb ⟨(q0g : Nat), (q0a : Nat), 0, 0, false, sz, level, S.txg, (x0 : Nat), (x1 : Nat), (x2 : Nat), (x3 : Nat)⟩ (w9.setCell ⟨d, 1, none⟩ (.slice ao9 (S.born.length + 1) cap9))) := Lib.hid (PuW.mk (HP9.out.s.other HNE9.out.1 _) (HP9.out.p.other HNE9.out.2.1 _) (HP9.out.r.other HNE9.out.2.2 _))
        refine wpAnyH_done (by kernel_rfl) ?_ _
        go_wp2_with fail
        go_meet
        exact ⟨d, T9, rfl, HD6, HAT9, HP12, HN9⟩
       ·rw [if_pos (by kernel_rfl)]
        refine wp_build_at (.tmp 107) rfl ⟨(q0g : Nat), (q0a : Nat), 0, 0, false, sz, level, S.txg, (x0 : Nat), (x1 : Nat), (x2 : Nat), (x3 : Nat)⟩ rfl ?_
        refine hK.out _ _ ((HP6.out.below ((Below.refl _ _).alloc (Nat.le_refl _) (.cells (encPtr ⟨(q0g : Nat), (q0a : Nat), 0, 0, false, sz, level, S.txg, (x0 : Nat), (x1 : Nat), (x2 : Nat), (x3 : Nat)⟩).toArray 49)))) (fun hSzppq8 => ?_)
        try simp only [Act.put, z1, z2, z3]
        have HAT6b := Lib.hid (HAT6.out.alloc (.cells (encPtr ⟨(q0g : Nat), (q0a : Nat), 0, 0, false, sz, level, S.txg, (x0 : Nat), (x1 : Nat), (x2 : Nat), (x3 : Nat)⟩).toArray 49))
        have HP6b := Lib.hid (HP6.out.below ((Below.refl _ _).alloc (Nat.le_refl _) (.cells (encPtr ⟨(q0g : Nat), (q0a : Nat), 0, 0, false, sz, level, S.txg, (x0 : Nat), (x1 : Nat), (x2 : Nat), (x3 : Nat)⟩).toArray 49)))
        have HGBb : Hid (Blk (w6.alloc (.cells (encPtr ⟨(q0g : Nat), (q0a : Nat), 0, 0, false, sz, level, S.txg, (x0 : Nat), (x1 : Nat), (x2 : Nat), (x3 : Nat)⟩).toArray 49)) w6.heap.size 49 (encPtr ⟨(q0g : Nat), (q0a : Nat), 0, 0, false, sz, level, S.txg, (x0 : Nat), (x1 : Nat), (x2 : Nat), (x3 : Nat)⟩)) := Lib.hid (Blk.new w6 _ (encPtr ⟨(q0g : Nat), (q0a : Nat), 0, 0, false, sz, level, S.txg, (x0 : Nat), (x1 : Nat), (x2 : Nat), (x3 : Nat)⟩))
        have e6b : (w6.alloc (.cells (encPtr ⟨(q0g : Nat), (q0a : Nat), 0, 0, false, sz, level, S.txg, (x0 : Nat), (x1 : Nat), (x2 : Nat), (x3 : Nat)⟩).toArray 49)).cell? ⟨d, 1, none⟩ = some (.slice bo S.born.length bc) := (HBV.out.alloc _).cell 1
        refine rr1 (i := 6) (h := fun K hK => ?_)
        go_simp
        clear e6b
        refine hK.out _ _ (HP6b.out) (fun hSzppq6 => ?_)
        try simp only [Act.put, z1, z2, z3]
        refine rr1 (i := 9) (h := fun K hK => ?_)
        rw [if_pos (by kernel_rfl)]
        obtain ⟨hrow, hTd, hTb, happ⟩ := HAT6b.out.is.app2 (HBV.out.alloc _)
        refine wp_app_ptrS (.tmp 106) (.tmp 108) rfl (.slice bo S.born.length bc) S.born rfl hrow w6.heap.size 1 ⟨(q0g : Nat), (q0a : Nat), 0, 0, false, sz, level, S.txg, (x0 : Nat), (x1 : Nat), (x2 : Nat), (x3 : Nat)⟩ rfl (range0M HGBb.out) HFN.out.2.2.2.2.2 ?_
        intro v9 w9 hown hgrow hat
        obtain ⟨hd9, hst9⟩ := happ ⟨(q0g : Nat), (q0a : Nat), 0, 0, false, sz, level, S.txg, (x0 : Nat), (x1 : Nat), (x2 : Nat), (x3 : Nat)⟩ v9 w9 hown hgrow hat
        obtain ⟨ao9, cap9, rfl⟩ := own_form hown
        obtain ⟨T9, hat9, hfr9, _⟩ := HAT6b.out.step hst9
        have HP9 := Lib.hid (HP6b.out.mod (mod_grown hgrow hTb) HN6.out)
        have HAT9 := Lib.hid (by simpa only [List.length_append, List.length_singleton] using hat9)
        have HN9 : Hid (¬ T9 g8 ∧ ¬ T9 (w.heap.size + 2)) := Lib.hid ⟨hfr9 _ HP6b.out.p.lt HN6.out.2.1, hfr9 _ HP6b.out.r.lt HN6.out.2.2⟩
        have HNE9 : Hid (w.heap.size ≠ d ∧ g8 ≠ d ∧ w.heap.size + 2 ≠ d) := Lib.hid ⟨fun e => HN6.out.1 (by rw [e]; exact hTd), fun e => HN6.out.2.1 (by rw [e]; exact hTd), fun e => HN6.out.2.2 (by rw [e]; exact hTd)⟩
        have e9 : w9.cell? ⟨d, 1, none⟩ = some (.slice bo S.born.length bc) := hd9.cell 1
        have f9 := hd9.frozen 1
        clear hrow hTd hTb happ hown hgrow hat hd9 hst9 hat9 hfr9
        refine hK.out _ _ (HP9.out) (fun hSzppq9 => ?_)
        try simp only [Act.put, z1, z2, z3]
        refine rtv (i := 10) (v := ?vzppq10) (hy := ?yzppq10) (h := ?_)
        case yzppq10 => intro w hSw; (try dsimp only at hSw); go_simp; try with_reducible rfl
        try simp only [Act.put, z1, z2, z3]
        refine rtv (i := 11) (v := ?vzppq11) (hy := ?yzppq11) (h := ?_)
        case yzppq11 => intro w hSw; (try dsimp only at hSw); go_simp; try with_reducible rfl
        try simp only [Act.put, z1, z2, z3]
        refine rr1 (i := 12) (h := fun K hK => ?_)
        go_simp
        skip
        refine hK.out _ _ (⟨HP9.out.s.other HNE9.out.1 _, HP9.out.p.other HNE9.out.2.1 _, HP9.out.r.other HNE9.out.2.2 _⟩) (fun hSzppq12 => ?_)
        try simp only [Act.put, z1, z2, z3]
        have HP12 : Hid (PuW w.heap.size g8 (w.heap.size + 2) sb ⟨(q0g : Nat), (q0a : Nat), 0, 0, false, sz, level, S.txg, (x0 : Nat), (x1 : Nat), (x2 : Nat), (x3 : Nat)⟩ (w9.setCell ⟨d, 1, none⟩ (.slice ao9 (S.born.length + 1) cap9))) := Lib.hid (PuW.mk (HP9.out.s.other HNE9.out.1 _) (HP9.out.p.other HNE9.out.2.1 _) (HP9.out.r.other HNE9.out.2.2 _))
        refine wpAnyH_done (by kernel_rfl) ?_ _
        go_wp2_with fail
        go_meet
        exact ⟨d, T9, rfl, HD6, HAT9, HP12, HN9⟩
      ·rw [if_pos (by kernel_rfl)]
       refine wp_build_at (.tmp 107) rfl ⟨(q0g : Nat), (q0a : Nat), 0, 0, false, sz, level, S.txg, (x0 : Nat), (x1 : Nat), (x2 : Nat), (x3 : Nat)⟩ rfl ?_
       refine hK.out _ _ ((HP6.out.below ((Below.refl _ _).alloc (Nat.le_refl _) (.cells (encPtr ⟨(q0g : Nat), (q0a : Nat), 0, 0, false, sz, level, S.txg, (x0 : Nat), (x1 : Nat), (x2 : Nat), (x3 : Nat)⟩).toArray 49)))) (fun hSzpq8 => ?_)
       try simp only [Act.put, z1, z2, z3]
       have HAT6b := Lib.hid (HAT6.out.alloc (.cells (encPtr ⟨(q0g : Nat), (q0a : Nat), 0, 0, false, sz, level, S.txg, (x0 : Nat), (x1 : Nat), (x2 : Nat), (x3 : Nat)⟩).toArray 49))
       have HP6b := Lib.hid (HP6.out.below ((Below.refl _ _).alloc (Nat.le_refl _) (.cells (encPtr ⟨(q0g : Nat), (q0a : Nat), 0, 0, false, sz, level, S.txg, (x0 : Nat), (x1 : Nat), (x2 : Nat), (x3 : Nat)⟩).toArray 49)))
       have HGBb : Hid (Blk (w6.alloc (.cells (encPtr ⟨(q0g : Nat), (q0a : Nat), 0, 0, false, sz, level, S.txg, (x0 : Nat), (x1 : Nat), (x2 : Nat), (x3 : Nat)⟩).toArray 49)) w6.heap.size 49 (encPtr ⟨(q0g : Nat), (q0a : Nat), 0, 0, false, sz, level, S.txg, (x0 : Nat), (x1 : Nat), (x2 : Nat), (x3 : Nat)⟩)) := Lib.hid (Blk.new w6 _ (encPtr ⟨(q0g : Nat), (q0a : Nat), 0, 0, false, sz, level, S.txg, (x0 : Nat), (x1 : Nat), (x2 : Nat), (x3 : Nat)⟩))
       refine rr1 (i := 3) (h := fun K hK => ?_)
       go_simp
       refine (work_some HAT6b.out.is).mono ?_
       rintro e w7 ⟨rfl, hw7⟩
       rw [hw7]
       clear hw7
       try dsimp only
       refine hK.out _ _ (HP6b.out) (fun hSzpq3 => ?_)
       try simp only [Act.put, z1, z2, z3]
       refine rtv (i := 4) (v := ?vzpq4) (hy := ?yzpq4) (h := ?_)
       case yzpq4 => intro w hSw; (try dsimp only at hSw); go_simp; try with_reducible rfl
       try simp only [Act.put, z1, z2, z3]
       refine rtv (i := 5) (v := ?vzpq5) (hy := ?yzpq5) (h := ?_)
       case yzpq5 => intro w hSw; (try dsimp only at hSw); go_simp; try with_reducible rfl
       try simp only [Act.put, z1, z2, z3]
       obtain ⟨bv, hbv⟩ := HAT6b.out.is.done
       obtain ⟨bo, bc, rfl⟩ := own_form (HAT6b.out.is.app2 hbv).1
       have HBV := Lib.hid hbv
       have e6 : (w6.alloc (.cells (encPtr ⟨(q0g : Nat), (q0a : Nat), 0, 0, false, sz, level, S.txg, (x0 : Nat), (x1 : Nat), (x2 : Nat), (x3 : Nat)⟩).toArray 49)).cell? ⟨d, 1, none⟩ = some (.slice bo S.born.length bc) := hbv.cell 1
       clear hbv
       refine rr1 (i := 6) (h := fun K hK => ?_)
       go_simp
       clear e6
       refine hK.out _ _ (HP6b.out) (fun hSzpq6 => ?_)
       try simp only [Act.put, z1, z2, z3]
       refine rr1 (i := 9) (h := fun K hK => ?_)
       rw [if_pos (by kernel_rfl)]
       obtain ⟨hrow, hTd, hTb, happ⟩ := HAT6b.out.is.app2 HBV.out
       refine wp_app_ptrS (.tmp 106) (.tmp 108) rfl (.slice bo S.born.length bc) S.born rfl hrow w6.heap.size 1 ⟨(q0g : Nat), (q0a : Nat), 0, 0, false, sz, level, S.txg, (x0 : Nat), (x1 : Nat), (x2 : Nat), (x3 : Nat)⟩ rfl (range0M HGBb.out) HFN.out.2.2.2.2.2 ?_
       intro v9 w9 hown hgrow hat
       obtain ⟨hd9, hst9⟩ := happ ⟨(q0g : Nat), (q0a : Nat), 0, 0, false, sz, level, S.txg, (x0 : Nat), (x1 : Nat), (x2 : Nat), (x3 : Nat)⟩ v9 w9 hown hgrow hat
       obtain ⟨ao9, cap9, rfl⟩ := own_form hown
       obtain ⟨T9, hat9, hfr9, _⟩ := HAT6b.out.step hst9
       have HP9 := Lib.hid (HP6b.out.mod (mod_grown hgrow hTb) HN6.out)
       have HAT9 := Lib.hid (by simpa only [List.length_append, List.length_singleton] using hat9)
       have HN9 : Hid (¬ T9 g8 ∧ ¬ T9 (w.heap.size + 2)) := Lib.hid ⟨hfr9 _ HP6b.out.p.lt HN6.out.2.1, hfr9 _ HP6b.out.r.lt HN6.out.2.2⟩
       have HNE9 : Hid (w.heap.size ≠ d ∧ g8 ≠ d ∧ w.heap.size + 2 ≠ d) := Lib.hid ⟨fun e => HN6.out.1 (by rw [e]; exact hTd), fun e => HN6.out.2.1 (by rw [e]; exact hTd), fun e => HN6.out.2.2 (by rw [e]; exact hTd)⟩
       have e9 : w9.cell? ⟨d, 1, none⟩ = some (.slice bo S.born.length bc) := hd9.cell 1
       have f9 := hd9.frozen 1
       clear hrow hTd hTb happ hown hgrow hat hd9 hst9 hat9 hfr9
       refine hK.out _ _ (HP9.out) (fun hSzpq9 => ?_)
       try simp only [Act.put, z1, z2, z3]
       refine rtv (i := 10) (v := ?vzpq10) (hy := ?yzpq10) (h := ?_)
       case yzpq10 => intro w hSw; (try dsimp only at hSw); go_simp; try with_reducible rfl
       try simp only [Act.put, z1, z2, z3]
       refine rtv (i := 11) (v := ?vzpq11) (hy := ?yzpq11) (h := ?_)
       case yzpq11 => intro w hSw; (try dsimp only at hSw); go_simp; try with_reducible rfl
       try simp only [Act.put, z1, z2, z3]
       refine rr1 (i := 12) (h := fun K hK => ?_)
       go_simp
       skip
       refine hK.out _ _ (⟨HP9.out.s.other HNE9.out.1 _, HP9.out.p.other HNE9.out.2.1 _, HP9.out.r.other HNE9.out.2.2 _⟩) (fun hSzpq12 => ?_)
       try simp only [Act.put, z1, z2, z3]
       have HP12 : Hid (PuW w.heap.size g8 (w.heap.size + 2) sb ⟨(q0g : Nat), (q0a : Nat), 0, 0, false, sz, level, S.txg, (x0 : Nat), (x1 : Nat), (x2 : Nat), (x3 : Nat)⟩ (w9.setCell ⟨d, 1, none⟩ (.slice ao9 (S.born.length + 1) cap9))) := Lib.hid (PuW.mk (HP9.out.s.other HNE9.out.1 _) (HP9.out.p.other HNE9.out.2.1 _) (HP9.out.r.other HNE9.out.2.2 _))
       refine wpAnyH_done (by kernel_rfl) ?_ _
       go_wp2_with fail
       go_meet
       exact ⟨d, T9, rfl, HD6, HAT9, HP12, HN9⟩
     ·rw [if_pos (by kernel_rfl)]
      refine wp_build_at (.tmp 107) rfl ⟨(q0g : Nat), (q0a : Nat), 0, 0, false, sz, level, S.txg, (x0 : Nat), (x1 : Nat), (x2 : Nat), (x3 : Nat)⟩ rfl ?_
      refine hK.out _ _ ((hS5.below ((Below.refl _ _).alloc (Nat.le_refl _) (.cells (encPtr ⟨(q0g : Nat), (q0a : Nat), 0, 0, false, sz, level, S.txg, (x0 : Nat), (x1 : Nat), (x2 : Nat), (x3 : Nat)⟩).toArray 49)))) (fun hSzq8 => ?_)
      try simp only [Act.put, z1, z2, z3]
      refine rr1 (i := 1) (h := fun K hK => ?_)
      go_simp
      refine (work_any2 HA5b.out.is).mono ?_
      rintro e w6 ⟨d, rfl, hst, hdd⟩
      obtain ⟨T6, hat6, hfr6, hm6⟩ := HA5b.out.step hst
      have HAT6 := Lib.hid hat6
      have HD6 := Lib.hid hdd
      have HN6 : Hid (¬ T6 w.heap.size ∧ ¬ T6 g8 ∧ ¬ T6 (w.heap.size + 2)) := Lib.hid ⟨hfr6 _ (hS5.below ((Below.refl _ _).alloc (Nat.le_refl _) (.cells (encPtr ⟨(q0g : Nat), (q0a : Nat), 0, 0, false, sz, level, S.txg, (x0 : Nat), (x1 : Nat), (x2 : Nat), (x3 : Nat)⟩).toArray 49))).s.lt HNT4.out.1, hfr6 _ (hS5.below ((Below.refl _ _).alloc (Nat.le_refl _) (.cells (encPtr ⟨(q0g : Nat), (q0a : Nat), 0, 0, false, sz, level, S.txg, (x0 : Nat), (x1 : Nat), (x2 : Nat), (x3 : Nat)⟩).toArray 49))).p.lt HNT4.out.2.1, hfr6 _ (hS5.below ((Below.refl _ _).alloc (Nat.le_refl _) (.cells (encPtr ⟨(q0g : Nat), (q0a : Nat), 0, 0, false, sz, level, S.txg, (x0 : Nat), (x1 : Nat), (x2 : Nat), (x3 : Nat)⟩).toArray 49))).r.lt HNT4.out.2.2⟩
      have HP6 := Lib.hid ((hS5.below ((Below.refl _ _).alloc (Nat.le_refl _) (.cells (encPtr ⟨(q0g : Nat), (q0a : Nat), 0, 0, false, sz, level, S.txg, (x0 : Nat), (x1 : Nat), (x2 : Nat), (x3 : Nat)⟩).toArray 49))).mod hm6 HNT4.out)
      have HGB6 : Hid (Blk w6 w5.heap.size 49 (encPtr ⟨(q0g : Nat), (q0a : Nat), 0, 0, false, sz, level, S.txg, (x0 : Nat), (x1 : Nat), (x2 : Nat), (x3 : Nat)⟩)) := Lib.hid (hm6.blk (Blk.new w5.drew _ (encPtr ⟨(q0g : Nat), (q0a : Nat), 0, 0, false, sz, level, S.txg, (x0 : Nat), (x1 : Nat), (x2 : Nat), (x3 : Nat)⟩)) (fun hf => by have := HA5.out.is.lt _ hf; have e : w5.drew.heap.size = w5.heap.size := rfl; omega))
      clear hst hdd hat6 hfr6 hm6
      try dsimp only
      refine hK.out _ _ (HP6.out) (fun hSzq1 => ?_)
      try simp only [Act.put, z1, z2, z3]
      refine rr1 (i := 3) (h := fun K hK => ?_)
      go_simp
      refine (work_some HAT6.out.is).mono ?_
      rintro e w7 ⟨rfl, hw7⟩
      rw [hw7]
      clear hw7
      try dsimp only
      refine hK.out _ _ (HP6.out) (fun hSzq3 => ?_)
      try simp only [Act.put, z1, z2, z3]
      refine rtv (i := 4) (v := ?vzq4) (hy := ?yzq4) (h := ?_)
      case yzq4 => intro w hSw; (try dsimp only at hSw); go_simp; try with_reducible rfl
      try simp only [Act.put, z1, z2, z3]
      refine rtv (i := 5) (v := ?vzq5) (hy := ?yzq5) (h := ?_)
      case yzq5 => intro w hSw; (try dsimp only at hSw); go_simp; try with_reducible rfl
      try simp only [Act.put, z1, z2, z3]
      obtain ⟨bv, hbv⟩ := HAT6.out.is.done
      obtain ⟨bo, bc, rfl⟩ := own_form (HAT6.out.is.app2 hbv).1
      have HBV := Lib.hid hbv
      have e6 : w6.cell? ⟨d, 1, none⟩ = some (.slice bo S.born.length bc) := hbv.cell 1
      clear hbv
      refine rr1 (i := 6) (h := fun K hK => ?_)
      go_simp
      clear e6
      refine hK.out _ _ (HP6.out) (fun hSzq6 => ?_)
      try simp only [Act.put, z1, z2, z3]
      refine rr1 (i := 9) (h := fun K hK => ?_)
      rw [if_pos (by kernel_rfl)]
      obtain ⟨hrow, hTd, hTb, happ⟩ := HAT6.out.is.app2 HBV.out
      refine wp_app_ptrS (.tmp 106) (.tmp 108) rfl (.slice bo S.born.length bc) S.born rfl hrow w5.heap.size 1 ⟨(q0g : Nat), (q0a : Nat), 0, 0, false, sz, level, S.txg, (x0 : Nat), (x1 : Nat), (x2 : Nat), (x3 : Nat)⟩ rfl (range0M HGB6.out) HFN.out.2.2.2.2.2 ?_
      intro v9 w9 hown hgrow hat
      obtain ⟨hd9, hst9⟩ := happ ⟨(q0g : Nat), (q0a : Nat), 0, 0, false, sz, level, S.txg, (x0 : Nat), (x1 : Nat), (x2 : Nat), (x3 : Nat)⟩ v9 w9 hown hgrow hat
      obtain ⟨ao9, cap9, rfl⟩ := own_form hown
      obtain ⟨T9, hat9, hfr9, _⟩ := HAT6.out.step hst9
      have HP9 := Lib.hid (HP6.out.mod (mod_grown hgrow hTb) HN6.out)
      have HAT9 := Lib.hid (by simpa only [List.length_append, List.length_singleton] using hat9)
      have HN9 : Hid (¬ T9 g8 ∧ ¬ T9 (w.heap.size + 2)) := Lib.hid ⟨hfr9 _ HP6.out.p.lt HN6.out.2.1, hfr9 _ HP6.out.r.lt HN6.out.2.2⟩
      have HNE9 : Hid (w.heap.size ≠ d ∧ g8 ≠ d ∧ w.heap.size + 2 ≠ d) := Lib.hid ⟨fun e => HN6.out.1 (by rw [e]; exact hTd), fun e => HN6.out.2.1 (by rw [e]; exact hTd), fun e => HN6.out.2.2 (by rw [e]; exact hTd)⟩
      have e9 : w9.cell? ⟨d, 1, none⟩ = some (.slice bo S.born.length bc) := hd9.cell 1
      have f9 := hd9.frozen 1
      clear hrow hTd hTb happ hown hgrow hat hd9 hst9 hat9 hfr9
      refine hK.out _ _ (HP9.out) (fun hSzq9 => ?_)
      try simp only [Act.put, z1, z2, z3]
      refine rtv (i := 10) (v := ?vzq10) (hy := ?yzq10) (h := ?_)
      case yzq10 => intro w hSw; (try dsimp only at hSw); go_simp; try with_reducible rfl
      try simp only [Act.put, z1, z2, z3]
      refine rtv (i := 11) (v := ?vzq11) (hy := ?yzq11) (h := ?_)
      case yzq11 => intro w hSw; (try dsimp only at hSw); go_simp; try with_reducible rfl
      try simp only [Act.put, z1, z2, z3]
      refine rr1 (i := 12) (h := fun K hK => ?_)
      go_simp
      skip
      refine hK.out _ _ (⟨HP9.out.s.other HNE9.out.1 _, HP9.out.p.other HNE9.out.2.1 _, HP9.out.r.other HNE9.out.2.2 _⟩) (fun hSzq12 => ?_)
      try simp only [Act.put, z1, z2, z3]
      have HP12 : Hid (PuW w.heap.size g8 (w.heap.size + 2) sb ⟨(q0g : Nat), (q0a : Nat), 0, 0, false, sz, level, S.txg, (x0 : Nat), (x1 : Nat), (x2 : Nat), (x3 : Nat)⟩ (w9.setCell ⟨d, 1, none⟩ (.slice ao9 (S.born.length + 1) cap9))) := Lib.hid (PuW.mk (HP9.out.s.other HNE9.out.1 _) (HP9.out.p.other HNE9.out.2.1 _) (HP9.out.r.other HNE9.out.2.2 _))
      refine wpAnyH_done (by kernel_rfl) ?_ _
      go_wp2_with fail
      go_meet
      exact ⟨d, T9, rfl, HD6, HAT9, HP12, HN9⟩
    case rest =>
     obtain ⟨d, Tz, rfl, HD, HATZ, HPZ, HNZ⟩ := hcut
     have l8 : ∀ (op : Oper) (a : Act) (next : Act → World → Prop) (Q : Exit → Act → World → Prop), LoadW Tryz.prog op 49 (.pointer (some ⟨g8, 0, none⟩)) a wc next Q = next (a.put op.dst (.agg (encPtr ⟨(q0g : Nat), (q0a : Nat), 0, 0, false, sz, level, S.txg, (x0 : Nat), (x1 : Nat), (x2 : Nat), (x3 : Nat)⟩).toArray)) wc := fun op a next Q => loadW_blk HPZ.out.p Tryz.underlying49 rfl iszPt op a next Q
     have sR : ∀ (op : Oper) (a : Act) (next : Act → World → Prop) (Q : Exit → Act → World → Prop), StoreW Tryz.prog op 49 (.pointer (some ⟨w.heap.size + 2, 0, none⟩)) (.agg (encPtr ⟨(q0g : Nat), (q0a : Nat), 0, 0, false, sz, level, S.txg, (x0 : Nat), (x1 : Nat), (x2 : Nat), (x3 : Nat)⟩).toArray) a wc next Q = next (a.put op.dst undef) (wc.setCells (w.heap.size + 2) 0 (encPtr ⟨(q0g : Nat), (q0a : Nat), 0, 0, false, sz, level, S.txg, (x0 : Nat), (x1 : Nat), (x2 : Nat), (x3 : Nat)⟩)) := fun op a next Q => storeW_part (cs := encPtr ⟨(q0g : Nat), (q0a : Nat), 0, 0, false, sz, level, S.txg, (x0 : Nat), (x1 : Nat), (x2 : Nat), (x3 : Nat)⟩) HPZ.out.r (Nat.le_refl _) iszPt (encPtr_ones _) op a next Q
     have HBZ : Hid (Blk (wc.setCells (w.heap.size + 2) 0 (encPtr ⟨(q0g : Nat), (q0a : Nat), 0, 0, false, sz, level, S.txg, (x0 : Nat), (x1 : Nat), (x2 : Nat), (x3 : Nat)⟩)) (w.heap.size + 2) 49 (encPtr ⟨(q0g : Nat), (q0a : Nat), 0, 0, false, sz, level, S.txg, (x0 : Nat), (x1 : Nat), (x2 : Nat), (x3 : Nat)⟩)) := Lib.hid (HPZ.out.r.put rfl)
     have HFZ := Lib.hid ((HATZ.out.other HPZ.out.r (by unfold BookTy; decide) HNZ.out.2 (by omega) (setCells_grown (w.heap.size + 2) (encPtr ⟨(q0g : Nat), (q0a : Nat), 0, 0, false, sz, level, S.txg, (x0 : Nat), (x1 : Nat), (x2 : Nat), (x3 : Nat)⟩) wc 0)).fin)
     go_wp2_with fail
     refine bodyPost_ret (results_pt rfl _ _ (w.heap.size + 2) ⟨(q0g : Nat), (q0a : Nat), 0, 0, false, sz, level, S.txg, (x0 : Nat), (x1 : Nat), (x2 : Nat), (x3 : Nat)⟩ rfl HBZ.out) rfl ?_
     rw [HRR.out]
     exact ⟨rfl, some d, fun d0 e => by rw [HD.out d0 e], HFZ.out⟩
   ·have hgS : w.heap.size ≠ g8 := by have := HG8N.out.2; omega
    have hgR : w.heap.size + 2 ≠ g8 := by have := HG8N.out.2; omega
    have hg8 : w.heap.size + 3 ≤ g8 := HG8N.out.2
    obtain ⟨w5, hw5⟩ : ∃ w5, w5 = (((((w4.setCell ⟨g8, 0, none⟩ (.int .i64 (q0g : Nat))).setCell ⟨g8, 1, none⟩ (.int .i64 (q0a : Nat))).setCell ⟨g8, 4, none⟩ (.bool true)).setCell ⟨g8, 2, none⟩ (.int .i64 (q1g : Nat))).setCell ⟨g8, 3, none⟩ (.int .i64 (q1a : Nat))) := ⟨_, rfl⟩
    have HAT5 : Hid (StoAt { S with sn := sn1, es := es1, x := putsL t [(q0g, q0a), (q1g, q1a)] S.x } _ sb bb dn T w w5 T4) := Lib.hid (by rw [hw5]; exact (((((HAT4.out.other (wd := w4.setCell ⟨g8, 0, none⟩ (.int .i64 (q0g : Nat))) K48.out (by unfold BookTy; decide) HNT4.out.2.1 (by omega) blk_gr).other (wd := (w4.setCell ⟨g8, 0, none⟩ (.int .i64 (q0g : Nat))).setCell ⟨g8, 1, none⟩ (.int .i64 (q0a : Nat))) (K48.out.setCell 0 (.int .i64 (q0g : Nat))) (by unfold BookTy; decide) HNT4.out.2.1 (by omega) blk_gr).other (wd := ((w4.setCell ⟨g8, 0, none⟩ (.int .i64 (q0g : Nat))).setCell ⟨g8, 1, none⟩ (.int .i64 (q0a : Nat))).setCell ⟨g8, 4, none⟩ (.bool true)) ((K48.out.setCell 0 (.int .i64 (q0g : Nat))).setCell 1 (.int .i64 (q0a : Nat))) (by unfold BookTy; decide) HNT4.out.2.1 (by omega) blk_gr).other (wd := (((w4.setCell ⟨g8, 0, none⟩ (.int .i64 (q0g : Nat))).setCell ⟨g8, 1, none⟩ (.int .i64 (q0a : Nat))).setCell ⟨g8, 4, none⟩ (.bool true)).setCell ⟨g8, 2, none⟩ (.int .i64 (q1g : Nat))) (((K48.out.setCell 0 (.int .i64 (q0g : Nat))).setCell 1 (.int .i64 (q0a : Nat))).setCell 4 (.bool true)) (by unfold BookTy; decide) HNT4.out.2.1 (by omega) blk_gr).other (wd := ((((w4.setCell ⟨g8, 0, none⟩ (.int .i64 (q0g : Nat))).setCell ⟨g8, 1, none⟩ (.int .i64 (q0a : Nat))).setCell ⟨g8, 4, none⟩ (.bool true)).setCell ⟨g8, 2, none⟩ (.int .i64 (q1g : Nat))).setCell ⟨g8, 3, none⟩ (.int .i64 (q1a : Nat))) ((((K48.out.setCell 0 (.int .i64 (q0g : Nat))).setCell 1 (.int .i64 (q0a : Nat))).setCell 4 (.bool true)).setCell 2 (.int .i64 (q1g : Nat))) (by unfold BookTy; decide) HNT4.out.2.1 (by omega) blk_gr))
    have HPW : Hid (PuW w.heap.size g8 (w.heap.size + 2) sb ⟨(q0g : Nat), (q0a : Nat), (q1g : Nat), (q1a : Nat), true, sz, level, S.txg, (x0 : Nat), (x1 : Nat), (x2 : Nat), (x3 : Nat)⟩ w5) := Lib.hid (by rw [hw5, HSZ.out]; exact ⟨(((((K4S.out.other (a := ⟨g8, 0, none⟩) hgS _).other (a := ⟨g8, 1, none⟩) hgS _).other (a := ⟨g8, 4, none⟩) hgS _).other (a := ⟨g8, 2, none⟩) hgS _).other (a := ⟨g8, 3, none⟩) hgS _), (((((K48.out.setCell 0 (.int .i64 (q0g : Nat))).setCell 1 (.int .i64 (q0a : Nat))).setCell 4 (.bool true)).setCell 2 (.int .i64 (q1g : Nat))).setCell 3 (.int .i64 (q1a : Nat))), (((((K4R.out.other (a := ⟨g8, 0, none⟩) hgR _).other (a := ⟨g8, 1, none⟩) hgR _).other (a := ⟨g8, 4, none⟩) hgR _).other (a := ⟨g8, 2, none⟩) hgR _).other (a := ⟨g8, 3, none⟩) hgR _)⟩)
    have HRR : Hid (R = ⟨⟨(q0g : Nat), (q0a : Nat), (q1g : Nat), (q1a : Nat), true, sz, level, S.txg, (x0 : Nat), (x1 : Nat), (x2 : Nat), (x3 : Nat)⟩, 0, { S with sn := sn1, es := es1, x := putsL t [(q0g, q0a), (q1g, q1a)] S.x, born := S.born ++ [⟨(q0g : Nat), (q0a : Nat), (q1g : Nat), (q1a : Nat), true, sz, level, S.txg, (x0 : Nat), (x1 : Nat), (x2 : Nat), (x3 : Nat)⟩] }⟩) := Lib.hid (by
     have hp : mkPt t level S.txg [(q0g, q0a), (q1g, q1a)] = ⟨(q0g : Nat), (q0a : Nat), (q1g : Nat), (q1a : Nat), true, sz, level, S.txg, (x0 : Nat), (x1 : Nat), (x2 : Nat), (x3 : Nat)⟩ := by unfold mkPt; rw [← HX.out, ← HSZ.out]; rfl
     rw [HRE.out, if_neg (by simp), hp])
    have z0 : w4.cell? ⟨gl, 0, none⟩ = some (.int .i64 (q0g : Nat)) := K4L.out.cell 0
    have z1 : w4.cell? ⟨gl, 1, none⟩ = some (.int .i64 (q0a : Nat)) := K4L.out.cell 1
    have z2 : w4.cell? ⟨gl, 2, none⟩ = some (.int .i64 (q1g : Nat)) := K4L.out.cell 2
    have z3 : w4.cell? ⟨gl, 3, none⟩ = some (.int .i64 (q1a : Nat)) := K4L.out.cell 3
    have hgl : gl ≠ g8 := fun e => by
     have h1 := K4L.out
     have h2 := K48.out
     unfold Blk at h1 h2
     rw [e, h2] at h1
     simp only [Option.some.injEq, Obj.cells.injEq] at h1
     exact absurd h1.2.1 (by decide)
    have y0 : w4.cell? ⟨g8, 0, none⟩ = some (.int .i64 0) := K48.out.cell 0
    have y1 : w4.cell? ⟨g8, 1, none⟩ = some (.int .i64 0) := K48.out.cell 1
    have y2 : w4.cell? ⟨g8, 2, none⟩ = some (.int .i64 0) := K48.out.cell 2
    have y3 : w4.cell? ⟨g8, 3, none⟩ = some (.int .i64 0) := K48.out.cell 3
    have y4 : w4.cell? ⟨g8, 4, none⟩ = some (.bool false) := K48.out.cell 4
    have v0 := K48.out.frozen 0
    have v1 := K48.out.frozen 1
    have v2 := K48.out.frozen 2
    have v3 := K48.out.frozen 3
    have v4 := K48.out.frozen 4
    simp only [List.length_cons, List.length_nil, Nat.zero_add, Nat.reduceAdd]
    go_upto_region 13 with fail
    rw [← hw5]
    clear hw5 y0 y1 y2 y3 y4 v0 v1 v2 v3 v4 z0 z1 z2 z3 hgl
    have HA5 := Lib.hid (HAT5.out.below (Below.refl _ _).drew)
    have HA5b := Lib.hid (HA5.out.alloc (.cells (encPtr ⟨(q0g : Nat), (q0a : Nat), (q1g : Nat), (q1a : Nat), true, sz, level, S.txg, (x0 : Nat), (x1 : Nat), (x2 : Nat), (x3 : Nat)⟩).toArray 49))
    have hS5 : PuW w.heap.size g8 (w.heap.size + 2) sb ⟨(q0g : Nat), (q0a : Nat), (q1g : Nat), (q1a : Nat), true, sz, level, S.txg, (x0 : Nat), (x1 : Nat), (x2 : Nat), (x3 : Nat)⟩ w5.drew := HPW.out.below (Below.refl _ _).drew
    go_cut [100] (fun v wx => ∃ d Tz, v = .pointer (some ⟨sb, 0, none⟩) ∧ Hid (∀ d0, dn = some d0 → d = d0) ∧ Hid (StoAt { S with sn := sn1, es := es1, x := putsL t [(q0g, q0a), (q1g, q1a)] S.x, born := S.born ++ [⟨(q0g : Nat), (q0a : Nat), (q1g : Nat), (q1a : Nat), true, sz, level, S.txg, (x0 : Nat), (x1 : Nat), (x2 : Nat), (x3 : Nat)⟩] } ⟨.slice ga S.x.gs.length gc, .slice la S.x.ds.length lc, .slice wa S.x.ds.length acp⟩ sb bb (some d) T w wx Tz) ∧ Hid (PuW w.heap.size g8 (w.heap.size + 2) sb ⟨(q0g : Nat), (q0a : Nat), (q1g : Nat), (q1a : Nat), true, sz, level, S.txg, (x0 : Nat), (x1 : Nat), (x2 : Nat), (x3 : Nat)⟩ wx) ∧ Hid (¬ Tz g8 ∧ ¬ Tz (w.heap.size + 2)))
    case first =>
     refine wp_region_held_drew (S := PuW w.heap.size g8 (w.heap.size + 2) sb ⟨(q0g : Nat), (q0a : Nat), (q1g : Nat), (q1a : Nat), true, sz, level, S.txg, (x0 : Nat), (x1 : Nat), (x2 : Nat), (x3 : Nat)⟩) (by kernel_rfl) hS5 (fun hS5 => ?_)
     refine rtv (i := 0) (v := ?vx0) (hy := ?yx0) (h := ?_)
     case yx0 => intro w hSw; (try dsimp only at hSw); go_simp; rw [(PuW.s hSw).cell 0]; rfl
     try simp only [Act.put, z1, z2, z3]
     refine rtv (i := 2) (v := ?vx2) (hy := ?yx2) (h := ?_)
     case yx2 => intro w hSw; (try dsimp only at hSw); go_simp; rw [(PuW.s hSw).cell 0]; rfl
     try simp only [Act.put, z1, z2, z3]
     refine wpAnyH_take (i := 7) (oi := ?oix7) (v := ?vx7) ?hix7 ?hsx7 ?hfx7 ?hrx7 ?hQx7 ?hyx7 ?hSx7 ?hx7
     case hix7 => (simp only [List.getElem?_toArray, List.getElem?_cons_succ, List.getElem?_cons_zero]; rfl)
     case hsx7 => kernel_rfl
     case hfx7 => kernel_rfl
     case hrx7 => kernel_rfl
     case hSx7 => first | assumption | trivial
     case hyx7 => refine yieldsIf_load_mid (by kernel_rfl) 49 (.tmp 8) ?_ g8 (0) ?_ (encPtr ⟨(q0g : Nat), (q0a : Nat), (q1g : Nat), (q1a : Nat), true, sz, level, S.txg, (x0 : Nat), (x1 : Nat), (x2 : Nat), (x3 : Nat)⟩) _ (fun w' (hw : PuW _ _ _ _ _ w') => range0M hw.p) Tryz.underlying49 rfl iszPt <;> rfl
     case hQx7 => exact fun _ _ _ h => h
     try simp only [Act.put, z1, z2, z3]
     refine wpAnyH_ready (rs := [1, 8]) (by kernel_rfl) (by simp) ?_
     refine AllReadyH.cons (by simp only [List.getElem?_toArray, List.getElem?_cons_succ, List.getElem?_cons_zero]; rfl) (fun K hK => ?_) (AllReadyH.cons (by simp only [List.getElem?_toArray, List.getElem?_cons_succ, List.getElem?_cons_zero]; rfl) (fun K hK => ?_) AllReadyH.nil)
     ·go_simp
      refine (work_any2 HA5.out.is).mono ?_
      rintro e w6 ⟨d, rfl, hst, hdd⟩
      obtain ⟨T6, hat6, hfr6, hm6⟩ := HA5.out.step hst
      have HAT6 := Lib.hid hat6
      have HD6 := Lib.hid hdd
      have HN6 : Hid (¬ T6 w.heap.size ∧ ¬ T6 g8 ∧ ¬ T6 (w.heap.size + 2)) := Lib.hid ⟨hfr6 _ (hS5).s.lt HNT4.out.1, hfr6 _ (hS5).p.lt HNT4.out.2.1, hfr6 _ (hS5).r.lt HNT4.out.2.2⟩
      have HP6 := Lib.hid ((hS5).mod hm6 HNT4.out)
      clear hst hdd hat6 hfr6 hm6
      try dsimp only
      refine hK.out _ _ (HP6.out) (fun hSxp1 => ?_)
      try simp only [Act.put, z1, z2, z3]
      refine wpAnyH_ready (rs := [3, 8]) (by kernel_rfl) (by simp) ?_
      refine AllReadyH.cons (by simp only [List.getElem?_toArray, List.getElem?_cons_succ, List.getElem?_cons_zero]; rfl) (fun K hK => ?_) (AllReadyH.cons (by simp only [List.getElem?_toArray, List.getElem?_cons_succ, List.getElem?_cons_zero]; rfl) (fun K hK => ?_) AllReadyH.nil)
      ·go_simp
       refine (work_some HAT6.out.is).mono ?_
       rintro e w7 ⟨rfl, hw7⟩
       rw [hw7]
       clear hw7
       try dsimp only
       refine hK.out _ _ (HP6.out) (fun hSxpp3 => ?_)
       try simp only [Act.put, z1, z2, z3]
       refine rtv (i := 4) (v := ?vxpp4) (hy := ?yxpp4) (h := ?_)
       case yxpp4 => intro w hSw; (try dsimp only at hSw); go_simp; try with_reducible rfl
       try simp only [Act.put, z1, z2, z3]
       refine rtv (i := 5) (v := ?vxpp5) (hy := ?yxpp5) (h := ?_)
       case yxpp5 => intro w hSw; (try dsimp only at hSw); go_simp; try with_reducible rfl
       try simp only [Act.put, z1, z2, z3]
       obtain ⟨bv, hbv⟩ := HAT6.out.is.done
       obtain ⟨bo, bc, rfl⟩ := own_form (HAT6.out.is.app2 hbv).1
       have HBV := Lib.hid hbv
       have e6 : w6.cell? ⟨d, 1, none⟩ = some (.slice bo S.born.length bc) := hbv.cell 1
       clear hbv
       refine wpAnyH_ready (rs := [6, 8]) (by kernel_rfl) (by simp) ?_
       refine AllReadyH.cons (by simp only [List.getElem?_toArray, List.getElem?_cons_succ, List.getElem?_cons_zero]; rfl) (fun K hK => ?_) (AllReadyH.cons (by simp only [List.getElem?_toArray, List.getElem?_cons_succ, List.getElem?_cons_zero]; rfl) (fun K hK => ?_) AllReadyH.nil)
       ·go_simp
        clear e6
        refine hK.out _ _ (HP6.out) (fun hSxppp6 => ?_)
        try simp only [Act.put, z1, z2, z3]
        refine rr1 (i := 8) (h := fun K hK => ?_)
        rw [if_pos (by kernel_rfl)]
        refine wp_build_at (.tmp 107) rfl ⟨(q0g : Nat), (q0a : Nat), (q1g : Nat), (q1a : Nat), true, sz, level, S.txg, (x0 : Nat), (x1 : Nat), (x2 : Nat), (x3 : Nat)⟩ rfl ?_
        refine hK.out _ _ ((HP6.out.below ((Below.refl _ _).alloc (Nat.le_refl _) (.cells (encPtr ⟨(q0g : Nat), (q0a : Nat), (q1g : Nat), (q1a : Nat), true, sz, level, S.txg, (x0 : Nat), (x1 : Nat), (x2 : Nat), (x3 : Nat)⟩).toArray 49)))) (fun hSxppp8 => ?_)
        try simp only [Act.put, z1, z2, z3]
        have HAT6b := Lib.hid (HAT6.out.alloc (.cells (encPtr ⟨(q0g : Nat), (q0a : Nat), (q1g : Nat), (q1a : Nat), true, sz, level, S.txg, (x0 : Nat), (x1 : Nat), (x2 : Nat), (x3 : Nat)⟩).toArray 49))
        have HP6b := Lib.hid (HP6.out.below ((Below.refl _ _).alloc (Nat.le_refl _) (.cells (encPtr ⟨(q0g : Nat), (q0a : Nat), (q1g : Nat), (q1a : Nat), true, sz, level, S.txg, (x0 : Nat), (x1 : Nat), (x2 : Nat), (x3 : Nat)⟩).toArray 49)))
        have HGBb : Hid (Blk (w6.alloc (.cells (encPtr ⟨(q0g : Nat), (q0a : Nat), (q1g : Nat), (q1a : Nat), true, sz, level, S.txg, (x0 : Nat), (x1 : Nat), (x2 : Nat), (x3 : Nat)⟩).toArray 49)) w6.heap.size 49 (encPtr ⟨(q0g : Nat), (q0a : Nat), (q1g : Nat), (q1a : Nat), true, sz, level, S.txg, (x0 : Nat), (x1 : Nat), (x2 : Nat), (x3 : Nat)⟩)) := Lib.hid (Blk.new w6 _ (encPtr ⟨(q0g : Nat), (q0a : Nat), (q1g : Nat), (q1a : Nat), true, sz, level, S.txg, (x0 : Nat), (x1 : Nat), (x2 : Nat), (x3 : Nat)⟩))
        refine rr1 (i := 9) (h := fun K hK => ?_)
        rw [if_pos (by kernel_rfl)]
        obtain ⟨hrow, hTd, hTb, happ⟩ := HAT6b.out.is.app2 (HBV.out.alloc _)
        refine wp_app_ptrS (.tmp 106) (.tmp 108) rfl (.slice bo S.born.length bc) S.born rfl hrow w6.heap.size 1 ⟨(q0g : Nat), (q0a : Nat), (q1g : Nat), (q1a : Nat), true, sz, level, S.txg, (x0 : Nat), (x1 : Nat), (x2 : Nat), (x3 : Nat)⟩ rfl (range0M HGBb.out) HFN.out.2.2.2.2.2 ?_
        intro v9 w9 hown hgrow hat
        obtain ⟨hd9, hst9⟩ := happ ⟨(q0g : Nat), (q0a : Nat), (q1g : Nat), (q1a : Nat), true, sz, level, S.txg, (x0 : Nat), (x1 : Nat), (x2 : Nat), (x3 : Nat)⟩ v9 w9 hown hgrow hat
        obtain ⟨ao9, cap9, rfl⟩ := own_form hown
        obtain ⟨T9, hat9, hfr9, _⟩ := HAT6b.out.step hst9
        have HP9 := Lib.hid (HP6b.out.mod (mod_grown hgrow hTb) HN6.out)
        have HAT9 := Lib.hid (by simpa only [List.length_append, List.length_singleton] using hat9)
        have HN9 : Hid (¬ T9 g8 ∧ ¬ T9 (w.heap.size + 2)) := Lib.hid ⟨hfr9 _ HP6b.out.p.lt HN6.out.2.1, hfr9 _ HP6b.out.r.lt HN6.out.2.2⟩
        have HNE9 : Hid (w.heap.size ≠ d ∧ g8 ≠ d ∧ w.heap.size + 2 ≠ d) := Lib.hid ⟨fun e => HN6.out.1 (by rw [e]; exact hTd), fun e => HN6.out.2.1 (by rw [e]; exact hTd), fun e => HN6.out.2.2 (by rw [e]; exact hTd)⟩
        have e9 : w9.cell? ⟨d, 1, none⟩ = some (.slice bo S.born.length bc) := hd9.cell 1
        have f9 := hd9.frozen 1
        clear hrow hTd hTb happ hown hgrow hat hd9 hst9 hat9 hfr9
        refine hK.out _ _ (HP9.out) (fun hSxppp9 => ?_)
        try simp only [Act.put, z1, z2, z3]
        refine rtv (i := 10) (v := ?vxppp10) (hy := ?yxppp10) (h := ?_)
        case yxppp10 => intro w hSw; (try dsimp only at hSw); go_simp; try with_reducible rfl
        try simp only [Act.put, z1, z2, z3]
        refine rtv (i := 11) (v := ?vxppp11) (hy := ?yxppp11) (h := ?_)
        case yxppp11 => intro w hSw; (try dsimp only at hSw); go_simp; try with_reducible rfl
        try simp only [Act.put, z1, z2, z3]
        refine rr1 (i := 12) (h := fun K hK => ?_)
        go_simp
        skip
        refine hK.out _ _ (⟨HP9.out.s.other HNE9.out.1 _, HP9.out.p.other HNE9.out.2.1 _, HP9.out.r.other HNE9.out.2.2 _⟩) (fun hSxppp12 => ?_)
        try simp only [Act.put, z1, z2, z3]
        have HP12 : Hid (PuW w.heap.size g8 (w.heap.size + 2) sb ⟨(q0g : Nat), (q0a : Nat), (q1g : Nat), (q1a : Nat), true, sz, level, S.txg, (x0 : Nat), (x1 : Nat), (x2 : Nat), (x3 : Nat)⟩ (w9.setCell ⟨d, 1, none⟩ (.slice ao9 (S.born.length + 1) cap9))) := Lib.hid (PuW.mk (HP9.out.s.other HNE9.out.1 _) (HP9.out.p.other HNE9.out.2.1 _) (HP9.out.r.other HNE9.out.2.2 _))
        refine wpAnyH_done (by kernel_rfl) ?_ _
        go_wp2_with fail
        go_meet
        exact ⟨d, T9, rfl, HD6, HAT9, HP12, HN9⟩
       ·rw [if_pos (by kernel_rfl)]
        refine wp_build_at (.tmp 107) rfl ⟨(q0g : Nat), (q0a : Nat), (q1g : Nat), (q1a : Nat), true, sz, level, S.txg, (x0 : Nat), (x1 : Nat), (x2 : Nat), (x3 : Nat)⟩ rfl ?_
        refine hK.out _ _ ((HP6.out.below ((Below.refl _ _).alloc (Nat.le_refl _) (.cells (encPtr ⟨(q0g : Nat), (q0a : Nat), (q1g : Nat), (q1a : Nat), true, sz, level, S.txg, (x0 : Nat), (x1 : Nat), (x2 : Nat), (x3 : Nat)⟩).toArray 49)))) (fun hSxppq8 => ?_)
        try simp only [Act.put, z1, z2, z3]
        have HAT6b := Lib.hid (HAT6.out.alloc (.cells (encPtr ⟨(q0g : Nat), (q0a : Nat), (q1g : Nat), (q1a : Nat), true, sz, level, S.txg, (x0 : Nat), (x1 : Nat), (x2 : Nat), (x3 : Nat)⟩).toArray 49))
        have HP6b := Lib.hid (HP6.out.below ((Below.refl _ _).alloc (Nat.le_refl _) (.cells (encPtr ⟨(q0g : Nat), (q0a : Nat), (q1g : Nat), (q1a : Nat), true, sz, level, S.txg, (x0 : Nat), (x1 : Nat), (x2 : Nat), (x3 : Nat)⟩).toArray 49)))
        have HGBb : Hid (Blk (w6.alloc (.cells (encPtr ⟨(q0g : Nat), (q0a : Nat), (q1g : Nat), (q1a : Nat), true, sz, level, S.txg, (x0 : Nat), (x1 : Nat), (x2 : Nat), (x3 : Nat)⟩).toArray 49)) w6.heap.size 49 (encPtr ⟨(q0g : Nat), (q0a : Nat), (q1g : Nat), (q1a : Nat), true, sz, level, S.txg, (x0 : Nat), (x1 : Nat), (x2 : Nat), (x3 : Nat)⟩)) := Lib.hid (Blk.new w6 _ (encPtr ⟨(q0g : Nat), (q0a : Nat), (q1g : Nat), (q1a : Nat), true, sz, level, S.txg, (x0 : Nat), (x1 : Nat), (x2 : Nat), (x3 : Nat)⟩))
        have e6b : (w6.alloc (.cells (encPtr ⟨(q0g : Nat), (q0a : Nat), (q1g : Nat), (q1a : Nat), true, sz, level, S.txg, (x0 : Nat), (x1 : Nat), (x2 : Nat), (x3 : Nat)⟩).toArray 49)).cell? ⟨d, 1, none⟩ = some (.slice bo S.born.length bc) := (HBV.out.alloc _).cell 1
        refine rr1 (i := 6) (h := fun K hK => ?_)
        go_simp
        clear e6b
        refine hK.out _ _ (HP6b.out) (fun hSxppq6 => ?_)
        try simp only [Act.put, z1, z2, z3]
        refine rr1 (i := 9) (h := fun K hK => ?_)
        rw [if_pos (by kernel_rfl)]
        obtain ⟨hrow, hTd, hTb, happ⟩ := HAT6b.out.is.app2 (HBV.out.alloc _)
        refine wp_app_ptrS (.tmp 106) (.tmp 108) rfl (.slice bo S.born.length bc) S.born rfl hrow w6.heap.size 1 ⟨(q0g : Nat), (q0a : Nat), (q1g : Nat), (q1a : Nat), true, sz, level, S.txg, (x0 : Nat), (x1 : Nat), (x2 : Nat), (x3 : Nat)⟩ rfl (range0M HGBb.out) HFN.out.2.2.2.2.2 ?_
        intro v9 w9 hown hgrow hat
        obtain ⟨hd9, hst9⟩ := happ ⟨(q0g : Nat), (q0a : Nat), (q1g : Nat), (q1a : Nat), true, sz, level, S.txg, (x0 : Nat), (x1 : Nat), (x2 : Nat), (x3 : Nat)⟩ v9 w9 hown hgrow hat
        obtain ⟨ao9, cap9, rfl⟩ := own_form hown
        obtain ⟨T9, hat9, hfr9, _⟩ := HAT6b.out.step hst9
        have HP9 := Lib.hid (HP6b.out.mod (mod_grown hgrow hTb) HN6.out)
        have HAT9 := Lib.hid (by simpa only [List.length_append, List.length_singleton] using hat9)
        have HN9 : Hid (¬ T9 g8 ∧ ¬ T9 (w.heap.size + 2)) := Lib.hid ⟨hfr9 _ HP6b.out.p.lt HN6.out.2.1, hfr9 _ HP6b.out.r.lt HN6.out.2.2⟩
        have HNE9 : Hid (w.heap.size ≠ d ∧ g8 ≠ d ∧ w.heap.size + 2 ≠ d) := Lib.hid ⟨fun e => HN6.out.1 (by rw [e]; exact hTd), fun e => HN6.out.2.1 (by rw [e]; exact hTd), fun e => HN6.out.2.2 (by rw [e]; exact hTd)⟩
        have e9 : w9.cell? ⟨d, 1, none⟩ = some (.slice bo S.born.length bc) := hd9.cell 1
        have f9 := hd9.frozen 1
        clear hrow hTd hTb happ hown hgrow hat hd9 hst9 hat9 hfr9
        refine hK.out _ _ (HP9.out) (fun hSxppq9 => ?_)
        try simp only [Act.put, z1, z2, z3]
        refine rtv (i := 10) (v := ?vxppq10) (hy := ?yxppq10) (h := ?_)
        case yxppq10 => intro w hSw; (try dsimp only at hSw); go_simp; try with_reducible rfl
        try simp only [Act.put, z1, z2, z3]
        refine rtv (i := 11) (v := ?vxppq11) (hy := ?yxppq11) (h := ?_)
        case yxppq11 => intro w hSw; (try dsimp only at hSw); go_simp; try with_reducible rfl
        try simp only [Act.put, z1, z2, z3]
        refine rr1 (i := 12) (h := fun K hK => ?_)
        go_simp
        skip
        refine hK.out _ _ (⟨HP9.out.s.other HNE9.out.1 _, HP9.out.p.other HNE9.out.2.1 _, HP9.out.r.other HNE9.out.2.2 _⟩) (fun hSxppq12 => ?_)
        try simp only [Act.put, z1, z2, z3]
        have HP12 : Hid (PuW w.heap.size g8 (w.heap.size + 2) sb ⟨(q0g : Nat), (q0a : Nat), (q1g : Nat), (q1a : Nat), true, sz, level, S.txg, (x0 : Nat), (x1 : Nat), (x2 : Nat), (x3 : Nat)⟩ (w9.setCell ⟨d, 1, none⟩ (.slice ao9 (S.born.length + 1) cap9))) := Lib.hid (PuW.mk (HP9.out.s.other HNE9.out.1 _) (HP9.out.p.other HNE9.out.2.1 _) (HP9.out.r.other HNE9.out.2.2 _))
        refine wpAnyH_done (by kernel_rfl) ?_ _
        go_wp2_with fail
        go_meet
        exact ⟨d, T9, rfl, HD6, HAT9, HP12, HN9⟩
      ·rw [if_pos (by kernel_rfl)]
       refine wp_build_at (.tmp 107) rfl ⟨(q0g : Nat), (q0a : Nat), (q1g : Nat), (q1a : Nat), true, sz, level, S.txg, (x0 : Nat), (x1 : Nat), (x2 : Nat), (x3 : Nat)⟩ rfl ?_
       refine hK.out _ _ ((HP6.out.below ((Below.refl _ _).alloc (Nat.le_refl _) (.cells (encPtr ⟨(q0g : Nat), (q0a : Nat), (q1g : Nat), (q1a : Nat), true, sz, level, S.txg, (x0 : Nat), (x1 : Nat), (x2 : Nat), (x3 : Nat)⟩).toArray 49)))) (fun hSxpq8 => ?_)
       try simp only [Act.put, z1, z2, z3]
       have HAT6b := Lib.hid (HAT6.out.alloc (.cells (encPtr ⟨(q0g : Nat), (q0a : Nat), (q1g : Nat), (q1a : Nat), true, sz, level, S.txg, (x0 : Nat), (x1 : Nat), (x2 : Nat), (x3 : Nat)⟩).toArray 49))
       have HP6b := Lib.hid (HP6.out.below ((Below.refl _ _).alloc (Nat.le_refl _) (.cells (encPtr ⟨(q0g : Nat), (q0a : Nat), (q1g : Nat), (q1a : Nat), true, sz, level, S.txg, (x0 : Nat), (x1 : Nat), (x2 : Nat), (x3 : Nat)⟩).toArray 49)))
       have HGBb : Hid (Blk (w6.alloc (.cells (encPtr ⟨(q0g : Nat), (q0a : Nat), (q1g : Nat), (q1a : Nat), true, sz, level, S.txg, (x0 : Nat), (x1 : Nat), (x2 : Nat), (x3 : Nat)⟩).toArray 49)) w6.heap.size 49 (encPtr ⟨(q0g : Nat), (q0a : Nat), (q1g : Nat), (q1a : Nat), true, sz, level, S.txg, (x0 : Nat), (x1 : Nat), (x2 : Nat), (x3 : Nat)⟩)) := Lib.hid (Blk.new w6 _ (encPtr ⟨(q0g : Nat), (q0a : Nat), (q1g : Nat), (q1a : Nat), true, sz, level, S.txg, (x0 : Nat), (x1 : Nat), (x2 : Nat), (x3 : Nat)⟩))
       refine rr1 (i := 3) (h := fun K hK => ?_)
       go_simp
       refine (work_some HAT6b.out.is).mono ?_
       rintro e w7 ⟨rfl, hw7⟩
       rw [hw7]
       clear hw7
       try dsimp only
       refine hK.out _ _ (HP6b.out) (fun hSxpq3 => ?_)
       try simp only [Act.put, z1, z2, z3]
       refine rtv (i := 4) (v := ?vxpq4) (hy := ?yxpq4) (h := ?_)
       case yxpq4 => intro w hSw; (try dsimp only at hSw); go_simp; try with_reducible rfl
       try simp only [Act.put, z1, z2, z3]
       refine rtv (i := 5) (v := ?vxpq5) (hy := ?yxpq5) (h := ?_)
       case yxpq5 => intro w hSw; (try dsimp only at hSw); go_simp; try with_reducible rfl
       try simp only [Act.put, z1, z2, z3]
       obtain ⟨bv, hbv⟩ := HAT6b.out.is.done
       obtain ⟨bo, bc, rfl⟩ := own_form (HAT6b.out.is.app2 hbv).1
       have HBV := Lib.hid hbv
       have e6 : (w6.alloc (.cells (encPtr ⟨(q0g : Nat), (q0a : Nat), (q1g : Nat), (q1a : Nat), true, sz, level, S.txg, (x0 : Nat), (x1 : Nat), (x2 : Nat), (x3 : Nat)⟩).toArray 49)).cell? ⟨d, 1, none⟩ = some (.slice bo S.born.length bc) := hbv.cell 1
       clear hbv
       refine rr1 (i := 6) (h := fun K hK => ?_)
       go_simp
       clear e6
       refine hK.out _ _ (HP6b.out) (fun hSxpq6 => ?_)
       try simp only [Act.put, z1, z2, z3]
       refine rr1 (i := 9) (h := fun K hK => ?_)
       rw [if_pos (by kernel_rfl)]
       obtain ⟨hrow, hTd, hTb, happ⟩ := HAT6b.out.is.app2 HBV.out
       refine wp_app_ptrS (.tmp 106) (.tmp 108) rfl (.slice bo S.born.length bc) S.born rfl hrow w6.heap.size 1 ⟨(q0g : Nat), (q0a : Nat), (q1g : Nat), (q1a : Nat), true, sz, level, S.txg, (x0 : Nat), (x1 : Nat), (x2 : Nat), (x3 : Nat)⟩ rfl (range0M HGBb.out) HFN.out.2.2.2.2.2 ?_
       intro v9 w9 hown hgrow hat
       obtain ⟨hd9, hst9⟩ := happ ⟨(q0g : Nat), (q0a : Nat), (q1g : Nat), (q1a : Nat), true, sz, level, S.txg, (x0 : Nat), (x1 : Nat), (x2 : Nat), (x3 : Nat)⟩ v9 w9 hown hgrow hat
       obtain ⟨ao9, cap9, rfl⟩ := own_form hown
       obtain ⟨T9, hat9, hfr9, _⟩ := HAT6b.out.step hst9
       have HP9 := Lib.hid (HP6b.out.mod (mod_grown hgrow hTb) HN6.out)
       have HAT9 := Lib.hid (by simpa only [List.length_append, List.length_singleton] using hat9)
       have HN9 : Hid (¬ T9 g8 ∧ ¬ T9 (w.heap.size + 2)) := Lib.hid ⟨hfr9 _ HP6b.out.p.lt HN6.out.2.1, hfr9 _ HP6b.out.r.lt HN6.out.2.2⟩
       have HNE9 : Hid (w.heap.size ≠ d ∧ g8 ≠ d ∧ w.heap.size + 2 ≠ d) := Lib.hid ⟨fun e => HN6.out.1 (by rw [e]; exact hTd), fun e => HN6.out.2.1 (by rw [e]; exact hTd), fun e => HN6.out.2.2 (by rw [e]; exact hTd)⟩
       have e9 : w9.cell? ⟨d, 1, none⟩ = some (.slice bo S.born.length bc) := hd9.cell 1
       have f9 := hd9.frozen 1
       clear hrow hTd hTb happ hown hgrow hat hd9 hst9 hat9 hfr9
       refine hK.out _ _ (HP9.out) (fun hSxpq9 => ?_)
       try simp only [Act.put, z1, z2, z3]
       refine rtv (i := 10) (v := ?vxpq10) (hy := ?yxpq10) (h := ?_)
       case yxpq10 => intro w hSw; (try dsimp only at hSw); go_simp; try with_reducible rfl
       try simp only [Act.put, z1, z2, z3]
       refine rtv (i := 11) (v := ?vxpq11) (hy := ?yxpq11) (h := ?_)
       case yxpq11 => intro w hSw; (try dsimp only at hSw); go_simp; try with_reducible rfl
       try simp only [Act.put, z1, z2, z3]
       refine rr1 (i := 12) (h := fun K hK => ?_)
       go_simp
       skip
       refine hK.out _ _ (⟨HP9.out.s.other HNE9.out.1 _, HP9.out.p.other HNE9.out.2.1 _, HP9.out.r.other HNE9.out.2.2 _⟩) (fun hSxpq12 => ?_)
       try simp only [Act.put, z1, z2, z3]
       have HP12 : Hid (PuW w.heap.size g8 (w.heap.size + 2) sb ⟨(q0g : Nat), (q0a : Nat), (q1g : Nat), (q1a : Nat), true, sz, level, S.txg, (x0 : Nat), (x1 : Nat), (x2 : Nat), (x3 : Nat)⟩ (w9.setCell ⟨d, 1, none⟩ (.slice ao9 (S.born.length + 1) cap9))) := Lib.hid (PuW.mk (HP9.out.s.other HNE9.out.1 _) (HP9.out.p.other HNE9.out.2.1 _) (HP9.out.r.other HNE9.out.2.2 _))
       refine wpAnyH_done (by kernel_rfl) ?_ _
       go_wp2_with fail
       go_meet
       exact ⟨d, T9, rfl, HD6, HAT9, HP12, HN9⟩
     ·rw [if_pos (by kernel_rfl)]
      refine wp_build_at (.tmp 107) rfl ⟨(q0g : Nat), (q0a : Nat), (q1g : Nat), (q1a : Nat), true, sz, level, S.txg, (x0 : Nat), (x1 : Nat), (x2 : Nat), (x3 : Nat)⟩ rfl ?_
      refine hK.out _ _ ((hS5.below ((Below.refl _ _).alloc (Nat.le_refl _) (.cells (encPtr ⟨(q0g : Nat), (q0a : Nat), (q1g : Nat), (q1a : Nat), true, sz, level, S.txg, (x0 : Nat), (x1 : Nat), (x2 : Nat), (x3 : Nat)⟩).toArray 49)))) (fun hSxq8 => ?_)
      try simp only [Act.put, z1, z2, z3]
      refine rr1 (i := 1) (h := fun K hK => ?_)
      go_simp
      refine (work_any2 HA5b.out.is).mono ?_
      rintro e w6 ⟨d, rfl, hst, hdd⟩
      obtain ⟨T6, hat6, hfr6, hm6⟩ := HA5b.out.step hst
      have HAT6 := Lib.hid hat6
      have HD6 := Lib.hid hdd
      have HN6 : Hid (¬ T6 w.heap.size ∧ ¬ T6 g8 ∧ ¬ T6 (w.heap.size + 2)) := Lib.hid ⟨hfr6 _ (hS5.below ((Below.refl _ _).alloc (Nat.le_refl _) (.cells (encPtr ⟨(q0g : Nat), (q0a : Nat), (q1g : Nat), (q1a : Nat), true, sz, level, S.txg, (x0 : Nat), (x1 : Nat), (x2 : Nat), (x3 : Nat)⟩).toArray 49))).s.lt HNT4.out.1, hfr6 _ (hS5.below ((Below.refl _ _).alloc (Nat.le_refl _) (.cells (encPtr ⟨(q0g : Nat), (q0a : Nat), (q1g : Nat), (q1a : Nat), true, sz, level, S.txg, (x0 : Nat), (x1 : Nat), (x2 : Nat), (x3 : Nat)⟩).toArray 49))).p.lt HNT4.out.2.1, hfr6 _ (hS5.below ((Below.refl _ _).alloc (Nat.le_refl _) (.cells (encPtr ⟨(q0g : Nat), (q0a : Nat), (q1g : Nat), (q1a : Nat), true, sz, level, S.txg, (x0 : Nat), (x1 : Nat), (x2 : Nat), (x3 : Nat)⟩).toArray 49))).r.lt HNT4.out.2.2⟩
      have HP6 := Lib.hid ((hS5.below ((Below.refl _ _).alloc (Nat.le_refl _) (.cells (encPtr ⟨(q0g : Nat), (q0a : Nat), (q1g : Nat), (q1a : Nat), true, sz, level, S.txg, (x0 : Nat), (x1 : Nat), (x2 : Nat), (x3 : Nat)⟩).toArray 49))).mod hm6 HNT4.out)
      have HGB6 : Hid (Blk w6 w5.heap.size 49 (encPtr ⟨(q0g : Nat), (q0a : Nat), (q1g : Nat), (q1a : Nat), true, sz, level, S.txg, (x0 : Nat), (x1 : Nat), (x2 : Nat), (x3 : Nat)⟩)) := Lib.hid (hm6.blk (Blk.new w5.drew _ (encPtr ⟨(q0g : Nat), (q0a : Nat), (q1g : Nat), (q1a : Nat), true, sz, level, S.txg, (x0 : Nat), (x1 : Nat), (x2 : Nat), (x3 : Nat)⟩)) (fun hf => by have := HA5.out.is.lt _ hf; have e : w5.drew.heap.size = w5.heap.size := rfl; omega))
      clear hst hdd hat6 hfr6 hm6
      try dsimp only
      refine hK.out _ _ (HP6.out) (fun hSxq1 => ?_)
      try simp only [Act.put, z1, z2, z3]
      refine rr1 (i := 3) (h := fun K hK => ?_)
      go_simp
      refine (work_some HAT6.out.is).mono ?_
      rintro e w7 ⟨rfl, hw7⟩
      rw [hw7]
      clear hw7
      try dsimp only
      refine hK.out _ _ (HP6.out) (fun hSxq3 => ?_)
      try simp only [Act.put, z1, z2, z3]
      refine rtv (i := 4) (v := ?vxq4) (hy := ?yxq4) (h := ?_)
      case yxq4 => intro w hSw; (try dsimp only at hSw); go_simp; try with_reducible rfl
      try simp only [Act.put, z1, z2, z3]
      refine rtv (i := 5) (v := ?vxq5) (hy := ?yxq5) (h := ?_)
      case yxq5 => intro w hSw; (try dsimp only at hSw); go_simp; try with_reducible rfl
      try simp only [Act.put, z1, z2, z3]
      obtain ⟨bv, hbv⟩ := HAT6.out.is.done
      obtain ⟨bo, bc, rfl⟩ := own_form (HAT6.out.is.app2 hbv).1
      have HBV := Lib.hid hbv
      have e6 : w6.cell? ⟨d, 1, none⟩ = some (.slice bo S.born.length bc) := hbv.cell 1
      clear hbv
      refine rr1 (i := 6) (h := fun K hK => ?_)
      go_simp
      clear e6
      refine hK.out _ _ (HP6.out) (fun hSxq6 => ?_)
      try simp only [Act.put, z1, z2, z3]
      refine rr1 (i := 9) (h := fun K hK => ?_)
      rw [if_pos (by kernel_rfl)]
      obtain ⟨hrow, hTd, hTb, happ⟩ := HAT6.out.is.app2 HBV.out
      refine wp_app_ptrS (.tmp 106) (.tmp 108) rfl (.slice bo S.born.length bc) S.born rfl hrow w5.heap.size 1 ⟨(q0g : Nat), (q0a : Nat), (q1g : Nat), (q1a : Nat), true, sz, level, S.txg, (x0 : Nat), (x1 : Nat), (x2 : Nat), (x3 : Nat)⟩ rfl (range0M HGB6.out) HFN.out.2.2.2.2.2 ?_
      intro v9 w9 hown hgrow hat
      obtain ⟨hd9, hst9⟩ := happ ⟨(q0g : Nat), (q0a : Nat), (q1g : Nat), (q1a : Nat), true, sz, level, S.txg, (x0 : Nat), (x1 : Nat), (x2 : Nat), (x3 : Nat)⟩ v9 w9 hown hgrow hat
      obtain ⟨ao9, cap9, rfl⟩ := own_form hown
      obtain ⟨T9, hat9, hfr9, _⟩ := HAT6.out.step hst9
      have HP9 := Lib.hid (HP6.out.mod (mod_grown hgrow hTb) HN6.out)
      have HAT9 := Lib.hid (by simpa only [List.length_append, List.length_singleton] using hat9)
      have HN9 : Hid (¬ T9 g8 ∧ ¬ T9 (w.heap.size + 2)) := Lib.hid ⟨hfr9 _ HP6.out.p.lt HN6.out.2.1, hfr9 _ HP6.out.r.lt HN6.out.2.2⟩
      have HNE9 : Hid (w.heap.size ≠ d ∧ g8 ≠ d ∧ w.heap.size + 2 ≠ d) := Lib.hid ⟨fun e => HN6.out.1 (by rw [e]; exact hTd), fun e => HN6.out.2.1 (by rw [e]; exact hTd), fun e => HN6.out.2.2 (by rw [e]; exact hTd)⟩
      have e9 : w9.cell? ⟨d, 1, none⟩ = some (.slice bo S.born.length bc) := hd9.cell 1
      have f9 := hd9.frozen 1
      clear hrow hTd hTb happ hown hgrow hat hd9 hst9 hat9 hfr9
      refine hK.out _ _ (HP9.out) (fun hSxq9 => ?_)
      try simp only [Act.put, z1, z2, z3]
      refine rtv (i := 10) (v := ?vxq10) (hy := ?yxq10) (h := ?_)
      case yxq10 => intro w hSw; (try dsimp only at hSw); go_simp; try with_reducible rfl
      try simp only [Act.put, z1, z2, z3]
      refine rtv (i := 11) (v := ?vxq11) (hy := ?yxq11) (h := ?_)
      case yxq11 => intro w hSw; (try dsimp only at hSw); go_simp; try with_reducible rfl
      try simp only [Act.put, z1, z2, z3]
      refine rr1 (i := 12) (h := fun K hK => ?_)
      go_simp
      skip
      refine hK.out _ _ (⟨HP9.out.s.other HNE9.out.1 _, HP9.out.p.other HNE9.out.2.1 _, HP9.out.r.other HNE9.out.2.2 _⟩) (fun hSxq12 => ?_)
      try simp only [Act.put, z1, z2, z3]
      have HP12 : Hid (PuW w.heap.size g8 (w.heap.size + 2) sb ⟨(q0g : Nat), (q0a : Nat), (q1g : Nat), (q1a : Nat), true, sz, level, S.txg, (x0 : Nat), (x1 : Nat), (x2 : Nat), (x3 : Nat)⟩ (w9.setCell ⟨d, 1, none⟩ (.slice ao9 (S.born.length + 1) cap9))) := Lib.hid (PuW.mk (HP9.out.s.other HNE9.out.1 _) (HP9.out.p.other HNE9.out.2.1 _) (HP9.out.r.other HNE9.out.2.2 _))
      refine wpAnyH_done (by kernel_rfl) ?_ _
      go_wp2_with fail
      go_meet
      exact ⟨d, T9, rfl, HD6, HAT9, HP12, HN9⟩
    case rest =>
     obtain ⟨d, Tz, rfl, HD, HATZ, HPZ, HNZ⟩ := hcut
     have l8 : ∀ (op : Oper) (a : Act) (next : Act → World → Prop) (Q : Exit → Act → World → Prop), LoadW Tryz.prog op 49 (.pointer (some ⟨g8, 0, none⟩)) a wc next Q = next (a.put op.dst (.agg (encPtr ⟨(q0g : Nat), (q0a : Nat), (q1g : Nat), (q1a : Nat), true, sz, level, S.txg, (x0 : Nat), (x1 : Nat), (x2 : Nat), (x3 : Nat)⟩).toArray)) wc := fun op a next Q => loadW_blk HPZ.out.p Tryz.underlying49 rfl iszPt op a next Q
     have sR : ∀ (op : Oper) (a : Act) (next : Act → World → Prop) (Q : Exit → Act → World → Prop), StoreW Tryz.prog op 49 (.pointer (some ⟨w.heap.size + 2, 0, none⟩)) (.agg (encPtr ⟨(q0g : Nat), (q0a : Nat), (q1g : Nat), (q1a : Nat), true, sz, level, S.txg, (x0 : Nat), (x1 : Nat), (x2 : Nat), (x3 : Nat)⟩).toArray) a wc next Q = next (a.put op.dst undef) (wc.setCells (w.heap.size + 2) 0 (encPtr ⟨(q0g : Nat), (q0a : Nat), (q1g : Nat), (q1a : Nat), true, sz, level, S.txg, (x0 : Nat), (x1 : Nat), (x2 : Nat), (x3 : Nat)⟩)) := fun op a next Q => storeW_part (cs := encPtr ⟨(q0g : Nat), (q0a : Nat), (q1g : Nat), (q1a : Nat), true, sz, level, S.txg, (x0 : Nat), (x1 : Nat), (x2 : Nat), (x3 : Nat)⟩) HPZ.out.r (Nat.le_refl _) iszPt (encPtr_ones _) op a next Q
     have HBZ : Hid (Blk (wc.setCells (w.heap.size + 2) 0 (encPtr ⟨(q0g : Nat), (q0a : Nat), (q1g : Nat), (q1a : Nat), true, sz, level, S.txg, (x0 : Nat), (x1 : Nat), (x2 : Nat), (x3 : Nat)⟩)) (w.heap.size + 2) 49 (encPtr ⟨(q0g : Nat), (q0a : Nat), (q1g : Nat), (q1a : Nat), true, sz, level, S.txg, (x0 : Nat), (x1 : Nat), (x2 : Nat), (x3 : Nat)⟩)) := Lib.hid (HPZ.out.r.put rfl)
     have HFZ := Lib.hid ((HATZ.out.other HPZ.out.r (by unfold BookTy; decide) HNZ.out.2 (by omega) (setCells_grown (w.heap.size + 2) (encPtr ⟨(q0g : Nat), (q0a : Nat), (q1g : Nat), (q1a : Nat), true, sz, level, S.txg, (x0 : Nat), (x1 : Nat), (x2 : Nat), (x3 : Nat)⟩) wc 0)).fin)
     go_wp2_with fail
     refine bodyPost_ret (results_pt rfl _ _ (w.heap.size + 2) ⟨(q0g : Nat), (q0a : Nat), (q1g : Nat), (q1a : Nat), true, sz, level, S.txg, (x0 : Nat), (x1 : Nat), (x2 : Nat), (x3 : Nat)⟩ rfl HBZ.out) rfl ?_
     rw [HRR.out]
     exact ⟨rfl, some d, fun d0 e => by rw [HD.out d0 e], HFZ.out⟩
   ·exfalso
    simp only [List.length_cons] at hll
    omega
  ·obtain ⟨ei, hei⟩ : ∃ ei : Int, ei = ((er : Nat) : Int) := ⟨_, rfl⟩
   have q9 : ¬ ei = 0 := by omega
   rw [← hei]
   have HEI := Lib.hid hei
   have HER := Lib.hid her
   clear hei her hb256 h1 h2 h3 h4 hS0
   have s0 : ∀ (op : Oper) (a : Act) (next : Act → World → Prop) (Q : Exit → Act → World → Prop), StoreW Tryz.prog op 49 (.pointer (some ⟨w.heap.size + 2, 0, none⟩)) (.agg #[.int .i64 0, .int .i64 0, .int .i64 0, .int .i64 0, .bool false, .int .i64 0, .int .i64 0, .int .i64 0, .int .u64 0, .int .u64 0, .int .u64 0, .int .u64 0]) a w3 next Q = next (a.put op.dst undef) (w3.setCells (w.heap.size + 2) 0 (encPtr pD)) := fun op a next Q => storeW_part (cs := encPtr pD) K3R.out (Nat.le_refl _) iszPt (encPtr_ones pD) op a next Q
   have HBR : Hid (Blk (w3.setCells (w.heap.size + 2) 0 (encPtr pD)) (w.heap.size + 2) 49 (encPtr pD)) := Lib.hid (K3R.out.put rfl)
   have HRR : Hid (R = ⟨pD, er, { S with sn := sn1, es := es1 }⟩) := Lib.hid (by rw [HRE.out, if_pos HER.out])
   have HFI := Lib.hid ((HAT3.out.other K3R.out (by unfold BookTy; decide) HNT3.out.2.2.1 (by omega) (setCells_grown (w.heap.size + 2) (encPtr pD) w3 0)).fin)
   have q6 : (ei == 0) = false := by simpa using q9
   have q7 : decide (ei = 0) = false := decide_eq_false q9
   have q8 : (ei != 0) = true := by simpa using q9
   go_wp2_with fail
   refine bodyPost_ret (results_pt rfl _ _ (w.heap.size + 2) pD rfl HBR.out) rfl ?_
   rw [HRR.out]
   exact ⟨by rw [HEI.out]; rfl, dn, fun d e => e, HFI.out⟩
theorem put_any {w : World} {sb : Nat} {S : StoT} {V : DvV} {bb : Nat} {dn : Option Nat} {T : Nat → Prop} (h : IsSto w sb S V bb dn T) (t : Bs) (level : Int) (htl : t.length ≤ 1000000) (hr : S.x.right = true) (K : Nat) (hK : S.x.deep K) (hK2 : K + 200 ≤ 1000000000) (hw : S.x.takes) (hkp : 0 ≤ S.keep ∧ S.keep ≤ 1000000000) (hbn : S.born.length ≤ 1000000)
  (hpl : (plcX S ((t.length / 64 : Nat) : Int) level).err = 0 → ∀ q ∈ (plcX S ((t.length / 64 : Nat) : Int) level).l, mayC S.x.gs S.x.secs (q.1 : Nat) (q.2 : Nat) ((t.length / 64 : Nat) : Int) = true) :
  Calls Tryz.prog 12 #[.pointer (some ⟨sb, 0, none⟩), .string ⟨t.toArray⟩, .int .i64 level] w (PutFn w sb V bb dn T (putR S t level)) := by
 by_cases hy : putOk S t level = true
 ·exact put_yes h t level htl hr K hK hK2 hw hkp hbn hpl hy
 ·exact put_no h t level htl hr K hK hK2 hw hkp hbn hpl (by simpa using hy)
end Go.Proofs.YtfaemcfjbbbbdaaGreat
namespace Go.Proofs.YtfaemcfjbbbbdaaGreat
open Go.RowKit
attribute [local go_sem ↓] Go.wp_at_zero Go.wp_at_succ
theorem IsSto.fix {w : World} {sb : Nat} {S : StoT} {V : DvV} {bb d : Nat} {T : Nat → Prop} (h : IsSto w sb S V bb (some d) T) (n : Nat) : T d ∧ StoStep { S with fixed := n } V sb bb (some d) T w (w.setCell ⟨d, 0, none⟩ (.int .i64 (n : Nat))) := by
 obtain ⟨eb, ms, bv, F, h, hT⟩ := h
 obtain ⟨hd, hrow⟩ := h.don
 have hTd : T d := (hT d).2 (.inr (.inr (.inr (.inl rfl))))
 have set1 : ∀ {k : Nat}, k ≠ d → (w.setCell ⟨d, 0, none⟩ (.int .i64 (n : Nat))).heap[k]? = w.heap[k]? := fun {k} hk => Below.heap_setCell _ _ _ _ hk
 have hnd : ∀ {k : Nat} {cs : Array Value} {e : Nat} {fr : Nat × Nat}, w.heap[k]? = some (Obj.cells cs e fr) → e ≠ 102 → k ≠ d := fun {k cs e fr} hk he e2 => by
  subst e2
  have h2 := hd
  unfold Blk at h2
  rw [hk] at h2
  simp only [Option.some.injEq, Obj.cells.injEq] at h2
  exact he h2.2.1
 refine ⟨hTd, T, ⟨eb, ms, bv, F, ⟨?_, ?_, ?_, h.sn, ?_, ?_⟩, hT⟩, (Mod.refl _ _).setCell (.inl hTd), fun g hg => .inl hg⟩
 ·have hb := h.blk
  exact hb.other (a := ⟨d, 0, none⟩) (hnd hb (by decide)) _
 ·exact h.dvs.keep (fun g hf => set1 (fun e => by
   subst e
   rcases h.dvs.type g hf _ _ _ hd with e1 | e1 | e1 | e1 | e1 <;> exact absurd e1 (by decide)))
 ·refine h.bok.typed (fun g cs e fr hg2 he => ?_)
  have e2 : e ≠ 102 := by rcases he with e3 | e3 | e3 | e3 | e3 | e3 <;> rw [e3] <;> decide
  rw [set1 (hnd hg2 e2)]
  exact hg2
 ·exact hd.setCell 0 _
 ·exact own_keep hrow (fun g hg2 => by
   obtain ⟨c2, f2, h2⟩ := own_type hrow hg2
   exact set1 (hnd h2 (by decide)))
theorem encCm_ones (s : Bs) (a b c : Int) : ∀ u ∈ encCm s a b c, u.oneCell' = true := by
 intro u hu
 simp only [encCm, List.mem_cons, List.not_mem_nil, or_false] at hu
 rcases hu with rfl | rfl | rfl | rfl <;> rfl
structure GeS (sb g3 : Nat) (sc : List Value) (p : PtrT) (w : World) : Prop where
 b : Blk w sb 41 sc
 p : Blk w g3 49 (encPtr p)
set_option maxRecDepth 100000 in
set_option maxHeartbeats 2000000 in
theorem get_yes {w : World} {sb : Nat} {S : StoT} {V : DvV} {bb : Nat} {dn : Option Nat} {T : Nat → Prop} (h : IsSto w sb S V bb dn T) (p : PtrT) (hr : S.x.right = true) (hp : p.ok) (hpr : ptrRight S.x.gs S.x.secs p = true) (hf : S.x.fits) {i : Nat} {d : Int} {s : Bs} (hl : lookX S.x p = some (i, d, s)) (hs : blkOk s = true) (hsz : p.size = ((s.length / 64 : Nat) : Int)) (hil : i + 1 ≤ (plL p).length) (K : Nat) (hK : S.x.deep K) (hK2 : K + 200 ≤ 1000000000)
  (hfx : S.fixed ≤ 1000000) (hmn : (mendedL s ((plL p).take (i + 1)) S.x 0).1 ≤ 1000) (hkp : Kept S.x (mendedL s ((plL p).take (i + 1)) S.x 0).2) :
  Calls Tryz.prog 13 #[.pointer (some ⟨sb, 0, none⟩), .agg (encPtr p).toArray] w fun e w' => e = .returned (.tuple #[.string ⟨s.toArray⟩, .int .i64 0]) ∧ ∃ dn', (∀ d, dn = some d → dn' = some d) ∧ StoStep { S with x := (mendedL s ((plL p).take (i + 1)) S.x 0).2, fixed := S.fixed + (mendedL s ((plL p).take (i + 1)) S.x 0).1 } V sb bb dn' T w w' := by
 obtain ⟨ga, gc, la, lc, wa, acp, rfl⟩ := h.form
 obtain ⟨mn, hmn2⟩ : ∃ mn, mn = (mendedL s ((plL p).take (i + 1)) S.x 0).1 := ⟨_, rfl⟩
 obtain ⟨x2, hx2⟩ : ∃ x2, x2 = (mendedL s ((plL p).take (i + 1)) S.x 0).2 := ⟨_, rfl⟩
 have HRD : Hid (∀ W T1, IsSto W sb S ⟨.slice ga S.x.gs.length gc, .slice la S.x.ds.length lc, .slice wa S.x.ds.length acp⟩ bb dn T1 → Calls Tryz.prog 38 #[.agg ([.slice ga S.x.gs.length gc, .int .i64 S.x.secs, .slice la S.x.ds.length lc, .slice wa S.x.ds.length acp]).toArray, .agg (encPtr p).toArray] W fun e w' => e = .returned (.tuple #[.agg (encCm s i d (mn : Nat)).toArray, .int .i64 0]) ∧ StoStep { S with x := x2 } ⟨.slice ga S.x.gs.length gc, .slice la S.x.ds.length lc, .slice wa S.x.ds.length acp⟩ sb bb dn T1 W w') := Lib.hid (fun W T1 hW => by
  obtain ⟨F, hd, _, hstp⟩ := hW.dvs
  have h1 := hread_any hd hr p hp hpr hf hl hs hsz hil K hK hK2
  rw [← hmn2, ← hx2] at h1
  exact h1.mono (fun e w' h2 => ⟨h2.1, (hstp _ _ h2.2 (by rw [hx2]; exact hkp.gs) (by rw [hx2]; exact hkp.secs)).1⟩))
 have HSC : Hid (x2.secs = S.x.secs) := Lib.hid (by rw [hx2]; exact hkp.secs)
 rw [← hmn2] at hmn ⊢
 rw [← hx2]
 have hbA : Below w.heap.size w (w.alloc (.cells (encPtr p).toArray 49)).drew := ((Below.refl _ _).alloc (Nat.le_refl _) _).drew
 have HAT := Lib.hid ((StoAt.start h).below hbA)
 have HATb := Lib.hid (HAT.out.alloc (.cells (encCm [] 0 0 0).toArray 105))
 have HSW : Hid (sb < w.heap.size) := Lib.hid h.cells.lt
 have hS0 : GeS sb w.heap.size (stoC ⟨.slice ga S.x.gs.length gc, .slice la S.x.ds.length lc, .slice wa S.x.ds.length acp⟩ S bb dn) p (w.alloc (.cells (encPtr p).toArray 49)).drew := ⟨HAT.out.is.cells, Blk.new w _ (encPtr p)⟩
 have HNT : Hid (¬ T w.heap.size) := Lib.hid (fun hf => by have := h.lt _ hf; omega)
 have HFX := Lib.hid hfx
 have HMN := Lib.hid hmn
 clear h hr hp hpr hf hl hs hsz hil hK hK2 hfx hmn hkp hmn2 hx2 hbA
 obtain ⟨fx, hfe⟩ : ∃ fx, fx = S.fixed + mn := ⟨_, rfl⟩
 rw [← hfe]
 have HFE := Lib.hid hfe
 clear hfe
 go_enter Tryz.func13, Tryz.ntmps13
 go_upto_region 3 with fail
 go_cut [6, 7] (fun v6 v7 wx => ∃ g6 T2, v6 = .pointer (some ⟨g6, 0, none⟩) ∧ v7 = .int .i64 0 ∧ Hid (StoAt { S with x := x2 } ⟨.slice ga S.x.gs.length gc, .slice la S.x.ds.length lc, .slice wa S.x.ds.length acp⟩ sb bb dn T w wx T2) ∧ Hid (Blk wx g6 105 (encCm s i d (mn : Nat))) ∧ Hid (¬ T2 g6))
 case first =>
  refine wp_region_held_drew (S := GeS sb w.heap.size (stoC ⟨.slice ga S.x.gs.length gc, .slice la S.x.ds.length lc, .slice wa S.x.ds.length acp⟩ S bb dn) p) (by kernel_rfl) hS0 (fun hS0 => ?_)
  refine rtv (i := 0) (v := ?vy0) (hy := ?yy0) (h := ?_)
  case yy0 => intro w hSw; (try dsimp only at hSw); go_simp; try with_reducible rfl
  try simp only [Act.put, z1, z2, z3]
  refine rtv (i := 1) (v := ?vy1) (hy := ?yy1) (h := ?_)
  case yy1 => intro w hSw; (try dsimp only at hSw); go_simp; try with_reducible rfl
  try simp only [Act.put, z1, z2, z3]
  refine rtv (i := 2) (v := ?vy2) (hy := ?yy2) (h := ?_)
  case yy2 => intro w hSw; (try dsimp only at hSw); go_simp; try with_reducible rfl
  try simp only [Act.put, z1, z2, z3]
  refine wpAnyH_take (i := 3) (oi := ?oiy3) (v := ?vy3) ?hiy3 ?hsy3 ?hfy3 ?hry3 ?hQy3 ?hyy3 ?hSy3 ?hy3
  case hiy3 => (simp only [List.getElem?_toArray, List.getElem?_cons_succ, List.getElem?_cons_zero]; rfl)
  case hsy3 => kernel_rfl
  case hfy3 => kernel_rfl
  case hry3 => kernel_rfl
  case hSy3 => first | assumption | trivial
  case hyy3 => refine yieldsIf_load_mid (by kernel_rfl) 37 (.tmp 13) ?_ sb (0) ?_ ([.slice ga S.x.gs.length gc, .int .i64 S.x.secs, .slice la S.x.ds.length lc, .slice wa S.x.ds.length acp]) _ (fun w' (hw : GeS _ _ _ _ w') => range_preS (cs := [.slice ga S.x.gs.length gc, .int .i64 S.x.secs, .slice la S.x.ds.length lc, .slice wa S.x.ds.length acp]) hw.b) Tryz.underlying37 rfl iszDsM <;> rfl
  case hQy3 => exact fun _ _ _ h => h
  try simp only [Act.put, z1, z2, z3]
  refine wpAnyH_take (i := 4) (oi := ?oiy4) (v := ?vy4) ?hiy4 ?hsy4 ?hfy4 ?hry4 ?hQy4 ?hyy4 ?hSy4 ?hy4
  case hiy4 => (simp only [List.getElem?_toArray, List.getElem?_cons_succ, List.getElem?_cons_zero]; rfl)
  case hsy4 => kernel_rfl
  case hfy4 => kernel_rfl
  case hry4 => kernel_rfl
  case hSy4 => first | assumption | trivial
  case hyy4 => refine yieldsIf_load_mid (by kernel_rfl) 49 (.tmp 3) ?_ w.heap.size (0) ?_ (encPtr p) _ (fun w' (hw : GeS _ _ _ _ w') => range0M hw.p) Tryz.underlying49 rfl iszPt <;> rfl
  case hQy4 => exact fun _ _ _ h => h
  try simp only [Act.put, z1, z2, z3]
  refine wpAnyH_ready (rs := [5, 9]) (by kernel_rfl) (by simp) ?_
  refine AllReadyH.cons (by simp only [List.getElem?_toArray, List.getElem?_cons_succ, List.getElem?_cons_zero]; rfl) (fun K hK => ?_) (AllReadyH.cons (by simp only [List.getElem?_toArray, List.getElem?_cons_succ, List.getElem?_cons_zero]; rfl) (fun K hK => ?_) AllReadyH.nil)
  ·go_simp
   refine (HRD.out _ _ HAT.out.is).mono ?_
   rintro e w6 ⟨rfl, hst⟩
   obtain ⟨T6, hat6, hfr6, hm6⟩ := HAT.out.step hst
   have HAT6 := Lib.hid hat6
   have HP6 : Hid (GeS sb w.heap.size (stoC ⟨.slice ga S.x.gs.length gc, .slice la S.x.ds.length lc, .slice wa S.x.ds.length acp⟩ S bb dn) p w6) := Lib.hid ⟨by have h9 := hat6.is.cells; unfold stoC at h9 ⊢; rw [← HSC.out]; exact h9, hm6.blk (hS0.p) HNT.out⟩
   clear hst hat6 hfr6 hm6
   try dsimp only
   refine hK.out _ _ (HP6.out) (fun hSyp5 => ?_)
   try simp only [Act.put, z1, z2, z3]
   refine rtv (i := 6) (v := ?vyp6) (hy := ?yyp6) (h := ?_)
   case yyp6 => intro w hSw; (try dsimp only at hSw); go_simp; try with_reducible rfl
   try simp only [Act.put, z1, z2, z3]
   refine rtv (i := 7) (v := ?vyp7) (hy := ?yyp7) (h := ?_)
   case yyp7 => intro w hSw; (try dsimp only at hSw); go_simp; try with_reducible rfl
   try simp only [Act.put, z1, z2, z3]
   refine rtv (i := 8) (v := ?vyp8) (hy := ?yyp8) (h := ?_)
   case yyp8 => intro w hSw; (try dsimp only at hSw); go_simp; try with_reducible rfl
   try simp only [Act.put, z1, z2, z3]
   refine rr1 (i := 9) (h := fun K hK => ?_)
   go_simp
   skip
   refine hK.out _ _ (⟨HP6.out.b.alloc _, HP6.out.p.alloc _⟩) (fun hSyp9 => ?_)
   try simp only [Act.put, z1, z2, z3]
   refine rr1 (i := 10) (h := fun K hK => ?_)
   rw [if_pos (by kernel_rfl)]
   refine wp_store_mid 105 (.tmp 6) (.tmp 17) rfl w6.heap.size (0) (encCm s i d (mn : Nat)).toArray rfl rfl (blk_there (Blk.new w6 105 (encCm [] 0 0 0)) (Nat.le_refl 4)) infoCm (all_oneCell_toArray (encCm_ones _ _ _ _)) ?_
   refine hK.out _ _ (⟨(HP6.out.b.alloc _).away 0 _ (by have := HP6.out.b.lt; omega), (HP6.out.p.alloc _).away 0 _ (by have := HP6.out.p.lt; omega)⟩) (fun hSyp10 => ?_)
   try simp only [Act.put, z1, z2, z3]
   refine rtv (i := 11) (v := ?vyp11) (hy := ?yyp11) (h := ?_)
   case yyp11 => intro w hSw; (try dsimp only at hSw); go_simp; try with_reducible rfl
   try simp only [Act.put, z1, z2, z3]
   have HT : Hid (StoAt { S with x := x2 } ⟨.slice ga S.x.gs.length gc, .slice la S.x.ds.length lc, .slice wa S.x.ds.length acp⟩ sb bb dn T w ((w6.alloc (.cells (encCm [] 0 0 0).toArray 105)).setCells w6.heap.size 0 (encCm s i d (mn : Nat))) T6 ∧ Blk ((w6.alloc (.cells (encCm [] 0 0 0).toArray 105)).setCells w6.heap.size 0 (encCm s i d (mn : Nat))) w6.heap.size 105 (encCm s i d (mn : Nat)) ∧ ¬ T6 w6.heap.size) := Lib.hid ⟨(HAT6.out.alloc _).other (Blk.new w6 _ (encCm [] 0 0 0)) (by unfold BookTy; decide) (HAT6.out.fresh (Nat.le_refl _)) HAT6.out.mo.size (setCells_grown _ _ _ _), (Blk.new w6 _ (encCm [] 0 0 0)).put rfl, HAT6.out.fresh (Nat.le_refl _)⟩
   refine wpAnyH_done (by kernel_rfl) ?_ _
   go_wp2_with fail
   go_meet
   exact ⟨_, T6, rfl, rfl, Lib.hid HT.out.1, Lib.hid HT.out.2.1, Lib.hid HT.out.2.2⟩
  ·go_simp
   skip
   refine hK.out _ _ (⟨hS0.b.alloc _, hS0.p.alloc _⟩) (fun hSyq9 => ?_)
   try simp only [Act.put, z1, z2, z3]
   refine rr1 (i := 5) (h := fun K hK => ?_)
   go_simp
   refine (HRD.out _ _ HATb.out.is).mono ?_
   rintro e w6 ⟨rfl, hst⟩
   obtain ⟨T6, hat6, hfr6, hm6⟩ := HATb.out.step hst
   have HAT6 := Lib.hid hat6
   have HP6 : Hid (GeS sb w.heap.size (stoC ⟨.slice ga S.x.gs.length gc, .slice la S.x.ds.length lc, .slice wa S.x.ds.length acp⟩ S bb dn) p w6) := Lib.hid ⟨by have h9 := hat6.is.cells; unfold stoC at h9 ⊢; rw [← HSC.out]; exact h9, hm6.blk (hS0.p.alloc _) HNT.out⟩
   have HX6 : Hid (Blk w6 (w.heap.size + 1) 105 (encCm [] 0 0 0) ∧ ¬ T6 (w.heap.size + 1)) := Lib.hid ⟨hm6.blk (Blk.newAt (g := w.heap.size + 1) _ _ (by simp)) (HAT.out.fresh (by simp)), hfr6 _ (by simp) (HAT.out.fresh (by simp))⟩
   clear hst hat6 hfr6 hm6
   try dsimp only
   refine hK.out _ _ (HP6.out) (fun hSyq5 => ?_)
   try simp only [Act.put, z1, z2, z3]
   refine rtv (i := 6) (v := ?vyq6) (hy := ?yyq6) (h := ?_)
   case yyq6 => intro w hSw; (try dsimp only at hSw); go_simp; try with_reducible rfl
   try simp only [Act.put, z1, z2, z3]
   refine rtv (i := 7) (v := ?vyq7) (hy := ?yyq7) (h := ?_)
   case yyq7 => intro w hSw; (try dsimp only at hSw); go_simp; try with_reducible rfl
   try simp only [Act.put, z1, z2, z3]
   refine rtv (i := 8) (v := ?vyq8) (hy := ?yyq8) (h := ?_)
   case yyq8 => intro w hSw; (try dsimp only at hSw); go_simp; try with_reducible rfl
   try simp only [Act.put, z1, z2, z3]
   refine rr1 (i := 10) (h := fun K hK => ?_)
   rw [if_pos (by kernel_rfl)]
   refine wp_store_mid 105 (.tmp 6) (.tmp 17) rfl (w.heap.size + 1) (0) (encCm s i d (mn : Nat)).toArray rfl rfl (blk_there HX6.out.1 (Nat.le_refl 4)) infoCm (all_oneCell_toArray (encCm_ones _ _ _ _)) ?_
   refine hK.out _ _ (⟨HP6.out.b.away 0 _ (by have := HSW.out; omega), HP6.out.p.away 0 _ (by omega)⟩) (fun hSyq10 => ?_)
   try simp only [Act.put, z1, z2, z3]
   refine rtv (i := 11) (v := ?vyq11) (hy := ?yyq11) (h := ?_)
   case yyq11 => intro w hSw; (try dsimp only at hSw); go_simp; try with_reducible rfl
   try simp only [Act.put, z1, z2, z3]
   have HT : Hid (StoAt { S with x := x2 } ⟨.slice ga S.x.gs.length gc, .slice la S.x.ds.length lc, .slice wa S.x.ds.length acp⟩ sb bb dn T w (w6.setCells (w.heap.size + 1) 0 (encCm s i d (mn : Nat))) T6 ∧ Blk (w6.setCells (w.heap.size + 1) 0 (encCm s i d (mn : Nat))) (w.heap.size + 1) 105 (encCm s i d (mn : Nat)) ∧ ¬ T6 (w.heap.size + 1)) := Lib.hid ⟨HAT6.out.other HX6.out.1 (by unfold BookTy; decide) HX6.out.2 (by omega) (setCells_grown _ _ _ _), HX6.out.1.put rfl, HX6.out.2⟩
   refine wpAnyH_done (by kernel_rfl) ?_ _
   go_wp2_with fail
   go_meet
   exact ⟨_, T6, rfl, rfl, Lib.hid HT.out.1, Lib.hid HT.out.2.1, Lib.hid HT.out.2.2⟩
 case rest =>
  obtain ⟨g6, T2, rfl, rfl, HAT2, HG6, HN6⟩ := hcut
  have HAT2d := Lib.hid (HAT2.out.below (Below.refl _ _).drew)
  have hS4 : Blk wc.drew g6 105 (encCm s i d (mn : Nat)) := HG6.out
  have HADD : Hid (IntKind.i64.wrap (((S.fixed : Nat) : Int) + ((mn : Nat) : Int)) = ((fx : Nat) : Int)) := Lib.hid (by have := HFX.out; have := HMN.out; have := HFE.out; rw [IntWalk.i64_in _ (by omega)]; omega)
  clear HATb hS0
  go_upto_region 4 with fail
  refine wp_region_held_drew (S := fun W => Blk W g6 105 (encCm s i d (mn : Nat))) (by kernel_rfl) hS4 (fun hS4 => ?_)
  refine rtv (i := 0) (v := ?vx0) (hy := ?yx0) (h := ?_)
  case yx0 => intro w hSw; (try dsimp only at hSw); go_simp; try with_reducible rfl
  try simp only [Act.put, z1, z2, z3]
  refine rtv (i := 5) (v := ?vx5) (hy := ?yx5) (h := ?_)
  case yx5 => intro w hSw; (try dsimp only at hSw); go_simp; try with_reducible rfl
  try simp only [Act.put, z1, z2, z3]
  refine rtv (i := 6) (v := ?vx6) (hy := ?yx6) (h := ?_)
  case yx6 => intro w hSw; (try dsimp only at hSw); go_simp; rw [hSw.cell 3]; rfl
  try simp only [Act.put, z1, z2, z3]
  refine rr1 (i := 1) (h := fun K hK => ?_)
  go_simp
  refine (work_any2 HAT2d.out.is).mono ?_
  rintro e w7 ⟨dd, rfl, hst, hdd⟩
  obtain ⟨T7, hat7, hfr7, hm7⟩ := HAT2d.out.step hst
  have HAT7 := Lib.hid hat7
  have HD7 := Lib.hid hdd
  have HG7 := Lib.hid (hm7.blk hS4 HN6.out)
  have HN7 := Lib.hid (hfr7 _ hS4.lt HN6.out)
  clear hst hdd hat7 hfr7 hm7
  try dsimp only
  refine hK.out _ _ (HG7.out) (fun hSx1 => ?_)
  try simp only [Act.put, z1, z2, z3]
  refine rtv (i := 2) (v := ?vx2) (hy := ?yx2) (h := ?_)
  case yx2 => intro w hSw; (try dsimp only at hSw); go_simp; try with_reducible rfl
  try simp only [Act.put, z1, z2, z3]
  refine rtv (i := 3) (v := ?vx3) (hy := ?yx3) (h := ?_)
  case yx3 => intro w hSw; (try dsimp only at hSw); go_simp; try with_reducible rfl
  try simp only [Act.put, z1, z2, z3]
  obtain ⟨bv, hbv⟩ := HAT7.out.is.done
  have e4 : w7.cell? ⟨dd, 0, none⟩ = some (.int .i64 (S.fixed : Nat)) := hbv.cell 0
  have f4 := hbv.frozen 0
  obtain ⟨hTd, hfx⟩ := HAT7.out.is.fix fx
  obtain ⟨T8, hat8, hfr8, _⟩ := HAT7.out.step hfx
  have HAT8 := Lib.hid hat8
  have HNE : Hid (g6 ≠ dd) := Lib.hid (fun e => HN7.out (by rw [e]; exact hTd))
  clear hbv hTd hfx hat8 hfr8
  refine rr1 (i := 4) (h := fun K hK => ?_)
  go_simp
  skip
  refine hK.out _ _ (HG7.out) (fun hSx4 => ?_)
  try simp only [Act.put, z1, z2, z3]
  refine rtv (i := 7) (v := ?vx7) (hy := ?yx7) (h := ?_)
  case yx7 => intro w hSw; (try dsimp only at hSw); go_simp; rw [HADD.out]
  try simp only [Act.put, z1, z2, z3]
  refine rtv (i := 8) (v := ?vx8) (hy := ?yx8) (h := ?_)
  case yx8 => intro w hSw; (try dsimp only at hSw); go_simp; try with_reducible rfl
  try simp only [Act.put, z1, z2, z3]
  refine rtv (i := 9) (v := ?vx9) (hy := ?yx9) (h := ?_)
  case yx9 => intro w hSw; (try dsimp only at hSw); go_simp; try with_reducible rfl
  try simp only [Act.put, z1, z2, z3]
  refine rr1 (i := 10) (h := fun K hK => ?_)
  go_simp
  skip
  refine hK.out _ _ ((HG7.out.other (a := ⟨dd, 0, none⟩) HNE.out _)) (fun hSx10 => ?_)
  try simp only [Act.put, z1, z2, z3]
  have x0 : (w7.setCell ⟨dd, 0, none⟩ (.int .i64 ((fx : Nat) : Int))).cell? ⟨g6, 0, none⟩ = some (.string ⟨s.toArray⟩) := (HG7.out.other (a := ⟨dd, 0, none⟩) HNE.out _).cell 0
  refine wpAnyH_done (by kernel_rfl) ?_ _
  go_wp2_with fail
  go_ret2
  exact ⟨rfl, some dd, fun d0 e => by rw [HD7.out d0 e], HAT8.out.fin⟩
end Go.Proofs.YtfaemcfjbbbbdaaGreat
namespace Go.Proofs.YtfaemcfjbbbbdaaGreat
open Go.RowKit
theorem devX_getD {gs : Gs} {secs : Int} {al ll : List Bool} {k d : Nat} (hd : d < devsN gs) : (devX gs secs al ll k).ds.getD d dvD = (if d < k ∧ ll.getD d false = true then (freshD secs.toNat 0).lose else freshD secs.toNat 0) ∧ (devX gs secs al ll k).away.getD d true = (decide (d < k) && al.getD d false) := by
 unfold devX
 constructor
 ·rw [List.getD_eq_getElem?_getD, List.getElem?_map, List.getElem?_range hd]; rfl
 ·rw [List.getD_eq_getElem?_getD, List.getElem?_map, List.getElem?_range hd]; rfl
theorem devX_here {gs : Gs} {secs : Int} {al ll : List Bool} {d : Nat} (hd : d < devsN gs) : (devX gs secs al ll (devsN gs)).here d = (!al.getD d false && !ll.getD d false) := by
 obtain ⟨h1, h2⟩ := devX_getD (gs := gs) (secs := secs) (al := al) (ll := ll) (k := devsN gs) hd
 unfold DvsT.here
 rw [h1, h2, decide_eq_true hd, Bool.true_and]
 congr 1
 cases hl : ll.getD d false with
 | true => rw [if_pos ⟨hd, rfl⟩]; rfl
 | false => rw [if_neg (fun h => by cases h.2)]; rfl
theorem devX_out {gs : Gs} {secs : Int} {al ll : List Bool} {k d : Nat} (hd : devsN gs ≤ d) : (devX gs secs al ll k).ds.getD d dvD = dvD := by
 unfold devX
 rw [List.getD_eq_getElem?_getD, List.getElem?_eq_none (by simpa using hd)]
 rfl
theorem blank_get (n : Nat) (b : UInt8) (k : Nat) : (blankL n b).getD k [] = [] ∨ ((blankL n b).getD k []).length = 64 := by
 unfold blankL
 rw [List.getD_eq_getElem?_getD, List.getElem?_replicate]
 split
 ·right; simp
 ·left; rfl
def OneOut (gs : Gs) (al ll : List Bool) : Prop := ∀ g d e, g < gs.length → (wsum gs g).toNat ≤ d → d < (wsum gs g).toNat + (gs.getD g (0, 0)).2.toNat → (wsum gs g).toNat ≤ e → e < (wsum gs g).toNat + (gs.getD g (0, 0)).2.toNat → (al.getD d false = true ∨ ll.getD d false = true) → 2 ≤ (gs.getD g (0, 0)).2 ∧ ((al.getD e false = true ∨ ll.getD e false = true) → d = e)
theorem wsum_top {gs : Gs} {secs : Int} (hr : rightB gs secs = true) {g : Nat} (hg : g < gs.length) : (wsum gs g).toNat + (gs.getD g (0, 0)).2.toNat ≤ devsN gs := by
 have h1 := wsum_stepS hg
 have h2 := wsum_mono hr (gs.length - (g + 1)) (g + 1) (by omega)
 rw [show g + 1 + (gs.length - (g + 1)) = gs.length by omega] at h2
 have h3 := (wsum_bd hr g (by omega)).1
 have h4 := getD_right hr hg
 unfold devsN
 omega
theorem devX_ok {gs : Gs} {secs : Int} {al ll : List Bool} (hr : rightB gs secs = true) (ho : OneOut gs al ll) : (devX gs secs al ll (devsN gs)).one ∧ (devX gs secs al ll (devsN gs)).fits ∧ (devX gs secs al ll (devsN gs)).deep 0 := by
 have hsp := rightB_spec hr
 have hcase : ∀ i, (devX gs secs al ll (devsN gs)).ds.getD i dvD = freshD secs.toNat 0 ∨ (devX gs secs al ll (devsN gs)).ds.getD i dvD = (freshD secs.toNat 0).lose ∨ ((devX gs secs al ll (devsN gs)).ds.getD i dvD = dvD ∧ devsN gs ≤ i) := fun i => by
  by_cases hi : i < devsN gs
  ·rw [(devX_getD hi).1]
   split
   ·exact .inr (.inl rfl)
   ·exact .inl rfl
  ·exact .inr (.inr ⟨devX_out (by omega), by omega⟩)
 refine ⟨⟨fun i => ?_, ?_, fun g d e hg h1 h2 h3 h4 h5 h6 => ?_, fun g d hg h1 h2 h3 => ?_⟩, fun i k => ?_, fun i k => ?_⟩
 ·rcases hcase i with h | h | ⟨h, h2⟩
  ·rw [h]; exact .inl rfl
  ·rw [h]; exact .inl rfl
  ·right; rw [(devX_n gs secs al ll (devsN gs)).1]; exact h2
 ·refine (right_iff _).2 ⟨hr, (devX_n gs secs al ll (devsN gs)).1, by rw [(devX_n gs secs al ll (devsN gs)).1, (devX_n gs secs al ll (devsN gs)).2], fun i hi => ?_⟩
  rw [(devX_n gs secs al ll (devsN gs)).1] at hi
  have hl : (blankL secs.toNat 0).length = secs.toNat := blankL_len _ _
  show (((devX gs secs al ll (devsN gs)).ds.getD i dvD).med.length : Int) = secs
  rcases hcase i with h | h | ⟨h, h2⟩
  ·rw [h]; show ((blankL secs.toNat 0).length : Int) = secs; omega
  ·rw [h]; show ((blankL secs.toNat 0).length : Int) = secs; omega
  ·omega
 ·have ht := wsum_top hr (g := g) hg
  rw [devX_here (by have : (devX gs secs al ll (devsN gs)).gs = gs := rfl; rw [this] at h2; omega)] at h5
  rw [devX_here (by have : (devX gs secs al ll (devsN gs)).gs = gs := rfl; rw [this] at h4; omega)] at h6
  refine (ho g d e hg h1 h2 h3 h4 ?_).2 ?_
  ·cases ha : al.getD d false with
   | true => exact .inl rfl
   | false => right; rw [ha] at h5; simpa using h5
  ·cases ha : al.getD e false with
   | true => exact .inl rfl
   | false => right; rw [ha] at h6; simpa using h6
 ·have ht := wsum_top hr (g := g) hg
  rw [devX_here (by have : (devX gs secs al ll (devsN gs)).gs = gs := rfl; rw [this] at h2; omega)] at h3
  refine (ho g d d hg h1 h2 h1 h2 ?_).1
  cases ha : al.getD d false with
  | true => exact .inl rfl
  | false => right; rw [ha] at h3; simpa using h3
 ·have hn : fit1 (((devX gs secs al ll (devsN gs)).ds.getD i dvD).now k) = true := by
   unfold fit1
   rcases hcase i with h | h | ⟨h, h2⟩
   ·rw [h]; exact decide_eq_true (by simpa [DevT.now, freshD] using blank_get secs.toNat 0 k)
   ·rw [h]; exact decide_eq_true (by simpa [DevT.now, freshD, DevT.lose] using blank_get secs.toNat 0 k)
   ·rw [h]; exact decide_eq_true (by left; simp [DevT.now, dvD])
  exact hn
 ·rcases hcase i with h | h | ⟨h, h2⟩
  ·rw [h]; simp [freshD]
  ·rw [h]; simp [freshD, DevT.lose]
  ·rw [h]; simp [dvD]
theorem newSt_ok {gs : Gs} {secs : Int} {al ll : List Bool} {sn : SN} {txg keep : Int} (hr : rightB gs secs = true) (ho : OneOut gs al ll) (hl : sn.length = gs.length) (hs : ∀ j, j < gs.length → sn.getD j sD = ((sect (gs.getD j (0, 0)) secs).toNat, [])) : StOk (newSt gs secs al ll sn txg keep) [] 0 := by
 obtain ⟨h1, h2, h3⟩ := devX_ok hr ho
 exact ⟨h1, h2, h3, Inv.fresh hr hl hs, Cov.empty hl hs⟩
theorem out_nil (gs : Gs) : OneOut gs [] [] := fun g d e _ _ _ _ _ h => by rcases h with h | h <;> simp at h
theorem get_whole {w : World} {sb : Nat} {S : StoT} {V : DvV} {bb : Nat} {dn : Option Nat} {T : Nat → Prop} {L : List St} {K : Nat} (h : IsSto w sb S V bb dn T) (hok : StOk S L K) (hK2 : K + 200 ≤ 1000000000) (hfx : S.fixed ≤ 1000000) {p : PtrT} {t : Bs} (hp : PWhole S.x p t) :
  Calls Tryz.prog 13 #[.pointer (some ⟨sb, 0, none⟩), .agg (encPtr p).toArray] w fun e w' => e = .returned (.tuple #[.string ⟨t.toArray⟩, .int .i64 0]) ∧ ∃ dn', (∀ d, dn = some d → dn' = some d) ∧ StoStep S V sb bb dn' T w w' := by
 obtain ⟨d, hl⟩ := hp.look hok.one
 have hm := hp.mended hok.one.right (0 + 1) 0
 have h1 := get_yes h p hok.one.right hp.ok hp.right hok.fits hl hp.blk hp.size (by rw [plL_len]; split <;> omega) K hok.deep hK2 hfx (by rw [hm]; exact Nat.zero_le _) (by rw [hm]; exact Kept.refl _)
 rw [hm] at h1
 exact h1
theorem plc_may2 {S : StoT} {L : List St} {K : Nat} (h : StOk S L K) (size level : Int) : (plcX S size level).err = 0 → ∀ q ∈ (plcX S size level).l, mayC S.x.gs S.x.secs (q.1 : Nat) (q.2 : Nat) size = true := by
 intro he
 by_cases hs : 1 ≤ size ∧ size ≤ 4
 ·rcases plc_spec h (size := size) (level := level) hs.1 hs.2 with ⟨e, _⟩ | ⟨_, _, _, p, q, two, e, hr, _⟩
  ·rw [e] at he; cases he
  ·rw [e]; exact mayN hr
 ·exfalso
  have hg : ∀ two, (getA S.x.gs S.x.secs S.sn S.es size two) = ⟨(0, 0), (0, 0), 1, S.sn, S.es⟩ := fun two => by unfold getA; rw [if_neg hs]
  unfold plcX plc1 at he
  rw [hg true] at he
  dsimp only at he
  rw [hg false] at he
  split at he
  ·cases he
  ·split at he
   ·rw [if_neg (by decide)] at he; cases he
   ·cases he
theorem put_law {w : World} {sb : Nat} {S : StoT} {V : DvV} {bb : Nat} {dn : Option Nat} {T : Nat → Prop} {L : List St} {K : Nat} (h : IsSto w sb S V bb dn T) (hok : StOk S L K) (hK2 : K + 200 ≤ 1000000000) (hkp : 0 ≤ S.keep ∧ S.keep ≤ 1000000000) (hbn : S.born.length ≤ 1000000) (t : Bs) (level : Int) (htl : t.length ≤ 1000000) :
  Calls Tryz.prog 12 #[.pointer (some ⟨sb, 0, none⟩), .string ⟨t.toArray⟩, .int .i64 level] w (PutFn w sb V bb dn T (putR S t level)) := by
 exact put_any h t level htl hok.one.right K hok.deep hK2 hok.one.takes hkp hbn (plc_may2 hok _ level)
end Go.Proofs.YtfaemcfjbbbbdaaGreat
namespace Go.Proofs.YtfaemcfjbbbbdaaGreat
open Go.RowKit
theorem two_ok {gs : Gs} {secs : Int} {sn : SN} (hr : rightB gs secs = true) (hl : sn.length = gs.length) (hs : ∀ j, j < gs.length → sn.getD j sD = ((sect (gs.getD j (0, 0)) secs).toNat, [])) {size : Int} (h1 : 1 ≤ size) (h2 : size ≤ 4) (h2g : 2 ≤ gs.length) : (getA gs secs sn (List.replicate gs.length 0) size true).err = 0 := by
 have hi := Inv.fresh hr hl hs
 have hc : Cov gs secs sn [] := Cov.empty hl hs
 generalize List.replicate gs.length 0 = es at *
 rcases oneA_spec gs secs sn es size (-1) with ⟨_, h0⟩ | ⟨x, h0, hx, hf, _⟩
 ·exact absurd (h0 0 (by omega)) (find_fresh hi h1 h2 (show 0 < gs.length by omega) (by rw [hs 0 (by omega)]))
 ·have hi1 := hi.put h1 h2 hx hf
  obtain ⟨_, _, e1⟩ := hi.find h1 h2 hx hf hc
  rcases oneA_spec gs secs (putS gs secs sn size x) (putE gs secs es size x) size (x.1 : Nat) with ⟨_, h3⟩ | ⟨y, h3, _⟩
  ·exfalso
   obtain ⟨g, hg, hgx⟩ : ∃ g, g < gs.length ∧ g ≠ x.1 := by
    by_cases e : x.1 = 0
    ·exact ⟨1, by omega, by omega⟩
    ·exact ⟨0, by omega, fun h => e h.symm⟩
   refine absurd (h3 g hg) (find_fresh hi1 h1 h2 hg ?_)
   rw [e1, setG_other hgx, hs g hg]
  ·unfold getA
   rw [if_pos ⟨h1, h2⟩, h0]
   dsimp only
   rw [if_pos rfl, h3]
def gsW : Gs := [(0, 1), (0, 1)]
def tW : Bs := List.replicate 256 0
theorem awake_put {sn : SN} (hl : sn.length = gsW.length) (hs : ∀ j, j < gsW.length → sn.getD j sD = ((sect (gsW.getD j (0, 0)) 60).toNat, [])) : ∃ a b c d s0 s1 s2 s3 : Int, a ≠ c ∧ (putR (newSt gsW 60 [] [] sn 1 0) tW 1).err = 0 ∧ (putR (newSt gsW 60 [] [] sn 1 0) tW 1).p = ⟨a, b, c, d, true, 4, 1, 1, s0, s1, s2, s3⟩ := by
 have hr : rightB gsW 60 = true := by decide
 have he := two_ok hr hl hs (size := 4) (by omega) (by omega) (by decide)
 obtain ⟨_, h2⟩ := two_law hr hl hs 4 he
 have hne := h2 (by decide)
 have e0 := hs 0 (by decide)
 have e1 := hs 1 (by decide)
 have hleft : leftA sn = 88 := by
  match sn, hl with
  | [x, y], _ =>
   have a0 : x = (44, []) := e0
   have a1 : y = (44, []) := e1
   rw [a0, a1]
   decide
 have htw : tW.length = 256 := List.length_replicate
 have htl : ((tW.length / 64 : Nat) : Int) = 4 := by rw [htw]; rfl
 have hpl : plcX (newSt gsW 60 [] [] sn 1 0) 4 1 = ⟨[(getA gsW 60 sn (List.replicate gsW.length 0) 4 true).p, (getA gsW 60 sn (List.replicate gsW.length 0) 4 true).q], 0, (getA gsW 60 sn (List.replicate gsW.length 0) 4 true).sn, (getA gsW 60 sn (List.replicate gsW.length 0) 4 true).es⟩ := by
  unfold plcX
  rw [if_neg (show ¬ leftA (newSt gsW 60 [] [] sn 1 0).sn < (newSt gsW 60 [] [] sn 1 0).keep + 16 by show ¬ leftA sn < 0 + 16; rw [hleft]; omega), if_pos (.inl (by omega)), if_pos (show (getA (newSt gsW 60 [] [] sn 1 0).x.gs (newSt gsW 60 [] [] sn 1 0).x.secs (newSt gsW 60 [] [] sn 1 0).sn (newSt gsW 60 [] [] sn 1 0).es 4 true).err = 0 from he)]
  rfl
 have hput : putR (newSt gsW 60 [] [] sn 1 0) tW 1 = ⟨mkPt tW 1 1 [(getA gsW 60 sn (List.replicate gsW.length 0) 4 true).p, (getA gsW 60 sn (List.replicate gsW.length 0) 4 true).q], 0, (putR (newSt gsW 60 [] [] sn 1 0) tW 1).s⟩ := by
  have hok : putOk (newSt gsW 60 [] [] sn 1 0) tW 1 = true := by
   show (blkOk tW && decide ((0 : Int) ≤ 1 ∧ (1 : Int) ≤ 3 ∧ (1 : Int) ≤ 1 ∧ (1 : Int) ≤ 4294967295)) = true
   have : blkOk tW = true := by
    unfold blkOk
    rw [htw]
    exact decide_eq_true ⟨(fun e => by rw [e] at htw; cases htw), by omega, by omega⟩
   rw [this]; decide
  unfold putR
  rw [if_neg (by rw [hok]; decide), htl, hpl, if_neg (by simp)]
  rfl
 obtain ⟨G, hG⟩ : ∃ G, G = getA gsW 60 sn (List.replicate gsW.length 0) 4 true := ⟨_, rfl⟩
 rw [← hG] at hput hne
 refine ⟨(G.p.1 : Nat), (G.p.2 : Nat), (G.q.1 : Nat), (G.q.2 : Nat), ((sumF tW).1 : Nat), ((sumF tW).2.1 : Nat), ((sumF tW).2.2.1 : Nat), ((sumF tW).2.2.2 : Nat), fun e => hne (by omega), by rw [hput], ?_⟩
 rw [hput]
 show mkPt tW 1 1 _ = _
 unfold mkPt
 rw [htl]
 rfl
theorem bsl_nil (w : World) : BSl w none 0 0 [] := ⟨rfl, Nat.zero_le _, by unfold maxLen; omega, fun _ => rfl, fun h => by omega⟩
set_option maxHeartbeats 1600000 in
set_option maxRecDepth 100000 in
theorem awake15_any (w : World) : Calls Tryz.prog 7 #[] w fun e w' => e = .returned (.bool true) ∧ Below w.heap.size w w' := by
 have hG : GSl (w.alloc (.cells (encG gsW).toArray 31)) (some ⟨w.heap.size, 0, none⟩) 2 2 gsW := by
  have hB := Blk.new w 31 (encG gsW)
  have := rsl_of_owns (blk_owns (base := 0) (n := 2) (cap := 2) (size := 2) hB (Nat.zero_le _) (Nat.le_refl _) (by unfold maxLen; omega) (by decide))
  exact this
 have hb0 : Below w.heap.size w (w.alloc (.cells (encG gsW).toArray 31)) := (Below.refl _ _).alloc (Nat.le_refl _) _
 have HM := Lib.hid (made_yes (some ⟨w.heap.size, 0, none⟩) 2 2 gsW 60 _ hG none 0 0 [] (bsl_nil _) none 0 0 [] (bsl_nil _) 1 0 (by decide))
 have HB0 := Lib.hid hb0
 clear hG hb0
 go_enter Tryz.func7, Tryz.ntmps7
 go_wp2_with fail
 refine HM.out.mono ?_
 rintro e w1 ⟨sb, bb, V, T, sn, rfl, hst, hsl, hsn, hfr, hb1⟩
 obtain ⟨i0, hi, hz0, hz1, hz2⟩ := info_parts u8info
 have hmk : (Instr.makeSlice 82 (.int .i64 256) (.int .i64 256)).run Tryz.prog w1 = .ok (.slice (some ⟨w1.heap.size, 0, none⟩) 256 256) (w1.alloc (.cells (enc8 tW).toArray 5)) := by
  have := run_make (P := Tryz.prog) w1 82 5 i0 (.int .u8 0) Tryz.underlying82 hi hz0 .i64 .i64 256 256 (by omega) (by omega) (by rw [hz2]; omega) (by omega)
  rw [this, hz1]
  have e := enc8_zero 256
  show _ = Result.ok _ (w1.alloc (.cells (enc8 (List.replicate 256 0)).toArray 5))
  rw [← e]
  rfl
 have hcv := run_string_of_own (P := Tryz.prog) (base := 0) (l := tW) (by
  have hB := Blk.new w1 5 (enc8 tW)
  have := blk_owns (base := 0) (n := 256) (cap := 256) (size := 1) hB (Nat.zero_le _) (Nat.le_refl _) (by unfold maxLen; omega) (by rw [enc8_length]; exact List.length_replicate)
  rw [List.take_of_length_le (by rw [enc8_length]; unfold tW; rw [List.length_replicate]; omega)] at this
  exact this) 82 5 9 Tryz.underlying82 Tryz.underlying5 Tryz.underlying9
 have hbA : Below w1.heap.size w1 (w1.alloc (.cells (enc8 tW).toArray 5)) := (Below.refl _ _).alloc (Nat.le_refl _) _
 obtain ⟨a, b, c, d, z0, z1, z2, z3, hac, he, hp⟩ := awake_put hsl hsn
 have hput := put_law (hst.below hbA) (newSt_ok (by decide) (out_nil gsW) hsl hsn) (by omega) (by show (0 : Int) ≤ 0 ∧ (0 : Int) ≤ 1000000000; omega) (by show 0 ≤ 1000000; omega) tW 1 (by unfold tW; rw [List.length_replicate]; omega)
 have HPUT : Hid (Calls Tryz.prog 12 #[.pointer (some ⟨sb, 0, none⟩), .string ⟨tW.toArray⟩, .int .i64 1] (w1.alloc (.cells (enc8 tW).toArray 5)) fun e w' => e = .returned (.tuple #[.agg #[.int .i64 a, .int .i64 b, .int .i64 c, .int .i64 d, .bool true, .int .i64 4, .int .i64 1, .int .i64 1, .int .u64 z0, .int .u64 z1, .int .u64 z2, .int .u64 z3], .int .i64 0]) ∧ Below w.heap.size w w') := Lib.hid (hput.mono (fun e w' h => by
  obtain ⟨h1, dn', _, T', h2, h3, h4⟩ := h
  rw [he, hp] at h1
  have hB1 : Below w.heap.size w w1 := HB0.out.trans (hb1.mono (by simp))
  exact ⟨h1, (hB1.trans (hbA.mono hB1.size)).trans (h3.toBelow (fun k hk => by have := hfr k hk; simp at this; omega) (by have := hB1.size; simp; omega))⟩))
 have q1 : ¬ a = c := hac
 have q2 : (a != c) = true := by simpa using hac
 have q3 : (a == c) = false := by simpa using hac
 clear hst hsl hsn hfr hb1 hi hz0 hz1 hz2 hbA he hp hput HM hac
 go_wp2_with fail
 refine HPUT.out.mono ?_
 rintro e w3 ⟨rfl, hb3⟩
 have HB3 := Lib.hid hb3
 clear hmk hcv hb3 HPUT HB0
 go_wp2_with fail
 go_ret
 exact ⟨rfl, HB3.out.alloc HB3.out.size _⟩
end Go.Proofs.YtfaemcfjbbbbdaaGreat
namespace Go.Proofs.YtfaemcfjbbbbdaaGreat
def flagP (gs : Gs) (dv g : Nat) : Nat := (wsum gs g).toNat + dv % (gs.getD g (0, 0)).2.toNat
def flagsK (gs : Gs) (dv : Nat) : Nat → List Bool
 | 0 => List.replicate 40 false
 | k + 1 => (flagsK gs dv k).set (flagP gs dv k) true
theorem flagsK_len (gs : Gs) (dv : Nat) : ∀ k, (flagsK gs dv k).length = 40
 | 0 => List.length_replicate
 | k + 1 => by unfold flagsK; rw [List.length_set]; exact flagsK_len gs dv k
theorem flagsK_true {gs : Gs} {dv d : Nat} : ∀ {k}, (flagsK gs dv k).getD d false = true → ∃ g, g < k ∧ d = flagP gs dv g
 | 0, h => by
  unfold flagsK at h
  rw [List.getD_eq_getElem?_getD, List.getElem?_replicate] at h
  split at h <;> simp at h
 | k + 1, h => by
  unfold flagsK at h
  by_cases e : d = flagP gs dv k
  ·exact ⟨k, by omega, e⟩
  ·rw [List.getD_eq_getElem?_getD, List.getElem?_set_ne (fun e2 => e e2.symm), ← List.getD_eq_getElem?_getD] at h
   obtain ⟨g, hg, e3⟩ := flagsK_true h
   exact ⟨g, by omega, e3⟩
theorem flagP_in {gs : Gs} {secs : Int} (hr : rightB gs secs = true) (dv : Nat) {g : Nat} (hg : g < gs.length) : (wsum gs g).toNat ≤ flagP gs dv g ∧ flagP gs dv g < (wsum gs g).toNat + (gs.getD g (0, 0)).2.toNat := by
 have h1 := getD_right hr hg
 unfold flagP
 have := Nat.mod_lt dv (show 0 < (gs.getD g (0, 0)).2.toNat by omega)
 omega
theorem flag_grp {gs : Gs} {secs : Int} (hr : rightB gs secs = true) {g g2 d : Nat} (hg : g < gs.length) (hg2 : g2 < gs.length) (h1 : (wsum gs g).toNat ≤ d) (h2 : d < (wsum gs g).toNat + (gs.getD g (0, 0)).2.toNat) (h3 : (wsum gs g2).toNat ≤ d) (h4 : d < (wsum gs g2).toNat + (gs.getD g2 (0, 0)).2.toNat) : g = g2 := by
 have b1 := (wsum_bd hr g (by omega)).1
 have b2 := (wsum_bd hr g2 (by omega)).1
 have w1 := getD_right hr hg
 have w2 := getD_right hr hg2
 rcases Nat.lt_trichotomy g g2 with h | h | h
 ·have := wsum_apart hr h hg2; omega
 ·exact h
 ·have := wsum_apart hr h hg; omega
theorem flags_one {gs : Gs} {secs : Int} (hr : rightB gs secs = true) (dv : Nat) (hw : ∀ g, g < gs.length → 2 ≤ (gs.getD g (0, 0)).2) {al ll : List Bool} (h : ∀ d, al.getD d false = true ∨ ll.getD d false = true → (flagsK gs dv gs.length).getD d false = true) : OneOut gs al ll := by
 intro g d e hg h1 h2 h3 h4 h5
 refine ⟨hw g hg, fun h6 => ?_⟩
 obtain ⟨a, ha, ea⟩ := flagsK_true (h d h5)
 obtain ⟨b, hb, eb⟩ := flagsK_true (h e h6)
 have ia := flagP_in hr dv ha
 have ib := flagP_in hr dv hb
 have e1 := flag_grp hr hg ha h1 h2 (by omega) (by omega)
 have e2 := flag_grp hr hg hb h3 h4 (by omega) (by omega)
 rw [ea, eb, ← e1, ← e2]
end Go.Proofs.YtfaemcfjbbbbdaaGreat
namespace Go.Proofs.YtfaemcfjbbbbdaaGreat
open Go.RowKit
attribute [local go_sem ↓] Go.wp_at_zero Go.wp_at_succ
structure BlkT where
 s : Bs
 level : Int
 mt : Bool
def bkD : BlkT := ⟨[], 0, false⟩
def encBk (b : BlkT) : List Value := [.string ⟨b.s.toArray⟩, .int .i64 b.level, .bool b.mt]
def encBs (l : List BlkT) : List Value := l.flatMap encBk
def BkSl (w : World) (ao : Option Addr) (n cap : Nat) (l : List BlkT) : Prop := RSl w 3 ao n cap (encBs l)
theorem BkSl.len {w : World} {ao : Option Addr} {n cap : Nat} {l : List BlkT} (h : BkSl w ao n cap l) : l.length = n := by
 have h1 := h.1
 have : ∀ l : List BlkT, (encBs l).length = l.length * 3 := fun l => by
  induction l with
  | nil => rfl
  | cons a r ih =>
   show (encBk a ++ encBs r).length = _
   rw [List.length_append, ih, List.length_cons]
   show 3 + _ = _
   omega
 rw [this] at h1
 omega
theorem BkSl.cells {w : World} {ao : Option Addr} {n cap : Nat} {l : List BlkT} (h : BkSl w ao n cap l) (hn : 0 < n) : ∃ b off, ao = some ⟨b, off, none⟩ ∧ b < w.heap.size ∧ ∀ k, k < n → w.cell? ⟨b, off + k * 3, none⟩ = some (.string ⟨(l.getD k bkD).s.toArray⟩) ∧ w.cell? ⟨b, off + k * 3 + 1, none⟩ = some (.int .i64 (l.getD k bkD).level) ∧ w.cell? ⟨b, off + k * 3 + 2, none⟩ = some (.bool (l.getD k bkD).mt) := by
 have hl := h.len
 obtain ⟨b, off, e, hb, hc⟩ := h.2.2.2.2 hn
 refine ⟨b, off, e, hb, fun k hk => ?_⟩
 have key : ∀ i, i < 3 → w.cell? ⟨b, off + (k * 3 + i), none⟩ = (encBk (l.getD k bkD))[i]? := fun i hi => by
  rw [hc (k * 3 + i) (by omega)]
  exact flat_get (f := encBk) (K := 3) (fun _ => rfl) l k i bkD (by omega) hi
 exact ⟨key 0 (by omega), by rw [Nat.add_assoc]; exact key 1 (by omega), by rw [Nat.add_assoc]; exact key 2 (by omega)⟩
def fewS (l : List BlkT) : Bool := decide (l.length ≤ 30) && l.all fun b => decide (b.s.length ≤ 1000)
set_option maxRecDepth 100000 in
theorem few15_any (ao : Option Addr) (n cap : Nat) (l : List BlkT) (w : World) (h : BkSl w ao n cap l) (hn : n ≤ 9223372036854775807) :
  Calls Tryz.prog 8 #[.slice ao n cap] w fun e w' => e = .returned (.bool (fewS l)) ∧ w' = w := by
 have hl := h.len
 have HC := Lib.hid (fun hn => h.cells hn)
 have HF0 : Hid (∀ j, j < n → 1000 < (l.getD j bkD).s.length → fewS l = false) := Lib.hid (fun j hj hs => by
  unfold fewS
  rw [Bool.and_eq_false_iff]
  right
  rw [List.all_eq_false]
  refine ⟨l.getD j bkD, ?_, by rw [decide_eq_false (by omega)]; decide⟩
  rw [List.getD_eq_getElem?_getD, List.getElem?_eq_getElem (by omega)]
  exact List.getElem_mem _)
 have HF1 : Hid (30 < n → fewS l = false) := Lib.hid (fun h30 => by unfold fewS; rw [decide_eq_false (by omega)]; rfl)
 have HF2 : Hid (n ≤ 30 → (∀ j, j < n → (l.getD j bkD).s.length ≤ 1000) → fewS l = true) := Lib.hid (fun h30 ha => by
  unfold fewS
  rw [decide_eq_true (by omega), Bool.true_and, List.all_eq_true]
  intro b hb
  obtain ⟨j, hj, rfl⟩ := List.getElem_of_mem hb
  have := ha j (by omega)
  rw [List.getD_eq_getElem?_getD, List.getElem?_eq_getElem hj] at this
  exact decide_eq_true this)
 clear hl h
 go_enter Tryz.func8, Tryz.ntmps8
 go_wp2_with fail
 go_loopw [3] (fun v wr => ∃ k : Nat, v = .int .i64 (k : Nat) ∧ k ≤ n ∧ k ≤ 31 ∧ wr = w ∧ Hid (∀ j, j < k → (l.getD j bkD).s.length ≤ 1000)) (fun v _ => 31 - (intOf v).toNat)
 case atStart => exact ⟨0, rfl, Nat.zero_le _, by omega, rfl, Lib.hid (fun j hj => by omega)⟩
 case round =>
  obtain ⟨k, rfl, hkn, hk31, hwr, HA⟩ := hrel
  subst hwr
  by_cases h1 : k < n
  ·by_cases h2 : k ≤ 30
   ·have q1 : (k : Int) < (n : Int) := by omega
    have q2 : (k : Int) ≤ 30 := by omega
    have q3 : 0 ≤ (k : Int) := by omega
    obtain ⟨b, off, rfl, hb, hc⟩ := HC.out (by omega)
    have c0 := (hc k h1).1
    obtain ⟨sz, hsz⟩ : ∃ sz, sz = (l.getD k bkD).s := ⟨_, rfl⟩
    rw [← hsz] at c0
    have HSZ := Lib.hid hsz
    clear hc hsz
    by_cases h3 : 1000 < sz.length
    ·have q4 : (1000 : Int) < (sz.length : Int) := by omega
     have HV := Lib.hid (HF0.out k h1 (by rw [← HSZ.out]; exact h3))
     go_wp2_with fail
     go_ret
     exact ⟨by rw [HV.out]; rfl, rfl⟩
    ·have q4 : ¬ (1000 : Int) < (sz.length : Int) := by omega
     have HA2 : Hid (∀ j, j < k + 1 → (l.getD j bkD).s.length ≤ 1000) := Lib.hid (fun j hj => by
      by_cases e : j = k
      ·rw [e, ← HSZ.out]; omega
      ·exact HA.out j (by omega))
     go_wp2_with fail
     go_roundw
     case rel => exact ⟨k + 1, by go_num, by omega, by omega, by trivial, HA2⟩
     case measure => simp [intOf]; omega
   ·have q1 : (k : Int) < (n : Int) := by omega
    have q2 : ¬ (k : Int) ≤ 30 := by omega
    have q5 : ¬ (n : Int) ≤ 30 := by omega
    have HV := Lib.hid (HF1.out (by omega))
    go_wp2_with fail
    go_ret
    exact ⟨by rw [HV.out]; simp, rfl⟩
  ·have q1 : ¬ (k : Int) < (n : Int) := by omega
   obtain rfl : k = n := by omega
   by_cases h4 : k ≤ 30
   ·have q5 : (k : Int) ≤ 30 := by omega
    have HV := Lib.hid (HF2.out h4 HA.out)
    go_wp2_with fail
    go_ret
    exact ⟨by rw [HV.out]; simp, rfl⟩
   ·have q5 : ¬ (k : Int) ≤ 30 := by omega
    have HV := Lib.hid (HF1.out (by omega))
    go_wp2_with fail
    go_ret
    exact ⟨by rw [HV.out]; simp, rfl⟩
end Go.Proofs.YtfaemcfjbbbbdaaGreat
namespace Go.Proofs.YtfaemcfjbbbbdaaGreat
open Go.RowKit
attribute [local go_sem ↓] Go.wp_at_zero Go.wp_at_succ
set_option maxRecDepth 100000 in
set_option maxHeartbeats 1000000 in
theorem refright_any (ao : Option Addr) (n cap : Nat) (gs : Gs) (secs : Int) (w : World) (h : GSl w ao n cap gs) :
  Calls Tryz.prog 9 #[.agg #[.slice ao n cap, .int .i64 secs]] w fun e w' => e = .returned (.bool (rightB gs secs)) ∧ Below w.heap.size w w' := by
 have hl := h.len
 have hmx := h.mx
 have hb0 : Below w.heap.size w (w.alloc (.cells #[.slice ao n cap, .int .i64 secs] 24)) := (Below.refl _ _).alloc (Nat.le_refl _) _
 by_cases hbad : n < 1 ∨ 4 < n ∨ secs < 24 ∨ 4096 < secs
 ·have HR : Hid (rightB gs secs = false) := Lib.hid (by unfold rightB; rw [hl, decide_eq_false (by omega)]; rfl)
  have HB0 := Lib.hid hb0
  clear hb0 h hl
  by_cases h1 : n < 1
  ·have q1 : (n : Int) < 1 := by omega
   go_enter Tryz.func9, Tryz.ntmps9
   go_wp2_with fail
   go_ret
   exact ⟨ret_bool HR.out.symm, HB0.out⟩
  ·have q1 : ¬ (n : Int) < 1 := by omega
   by_cases h2 : 4 < n
   ·have q2 : (4 : Int) < (n : Int) := by omega
    go_enter Tryz.func9, Tryz.ntmps9
    go_wp2_with fail
    go_ret
    exact ⟨ret_bool HR.out.symm, HB0.out⟩
   ·have q2 : ¬ (4 : Int) < (n : Int) := by omega
    by_cases h3 : secs < 24
    ·go_enter Tryz.func9, Tryz.ntmps9
     go_wp2_with fail
     go_ret
     exact ⟨ret_bool HR.out.symm, HB0.out⟩
    ·have h4 : 4096 < secs := by omega
     go_enter Tryz.func9, Tryz.ntmps9
     go_wp2_with fail
     go_ret
     exact ⟨ret_bool HR.out.symm, HB0.out⟩
 ·have hn1 : 1 ≤ n := by omega
  have hn4 : n ≤ 4 := by omega
  have hs1 : 24 ≤ secs := by omega
  have hs2 : secs ≤ 4096 := by omega
  have q1 : ¬ (n : Int) < 1 := by omega
  have q2 : ¬ (4 : Int) < (n : Int) := by omega
  have HRG : Hid (rightB gs secs = gsOk gs) := Lib.hid (by unfold rightB; rw [hl, decide_eq_true (by omega)]; rfl)
  have HNO : Hid (∀ j, j < n → oneB (gs.getD j (0, 0)).1 (gs.getD j (0, 0)).2 = false → rightB gs secs = false) := Lib.hid (fun j hj hf => by
   rw [HRG.out]
   unfold gsOk
   rw [List.all_eq_false]
   refine ⟨gs.getD j (0, 0), ?_, by rw [hf]; decide⟩
   rw [List.getD_eq_getElem?_getD, List.getElem?_eq_getElem (by omega)]
   exact List.getElem_mem _)
  have HOK : Hid ((∀ j, j < n → oneB (gs.getD j (0, 0)).1 (gs.getD j (0, 0)).2 = true) → rightB gs secs = true) := Lib.hid (fun ha => by
   rw [HRG.out]
   unfold gsOk
   rw [List.all_eq_true]
   intro q hq
   obtain ⟨j, hj, rfl⟩ := List.getElem_of_mem hq
   have := ha j (by omega)
   rwa [List.getD_eq_getElem?_getD, List.getElem?_eq_getElem hj] at this)
  have HH := Lib.hid h
  have HB0 := Lib.hid hb0
  have HX0 : Hid (Blk (w.alloc (.cells #[.slice ao n cap, .int .i64 secs] 24)) w.heap.size 24 [.slice ao n cap, .int .i64 secs]) := Lib.hid (Blk.new w _ [.slice ao n cap, .int .i64 secs])
  clear h hl hb0 hbad hmx
  go_enter Tryz.func9, Tryz.ntmps9
  go_wp2_with fail
  go_loopw [3] (fun v wr => ∃ k : Nat, v = .int .i64 (k : Nat) ∧ k ≤ n ∧ Hid (∀ j, j < k → oneB (gs.getD j (0, 0)).1 (gs.getD j (0, 0)).2 = true) ∧ Hid (Below (w.alloc (.cells #[.slice ao n cap, .int .i64 secs] 24)).heap.size (w.alloc (.cells #[.slice ao n cap, .int .i64 secs] 24)) wr)) (fun v _ => n - (intOf v).toNat)
  case atStart => exact ⟨0, rfl, Nat.zero_le _, Lib.hid (fun j hj => by omega), Lib.hid (Below.refl _ _)⟩
  case round =>
   obtain ⟨k, rfl, hkn, HA, HBR⟩ := hrel
   have g0 : wr.cell? ⟨w.heap.size, 0, none⟩ = some (.slice ao n cap) := (HX0.out.below HBR.out).cell 0
   have HBW0 := Lib.hid (HB0.out.trans (HBR.out.mono HB0.out.size))
   by_cases h1 : k < n
   ·have q3 : (k : Int) < (n : Int) := by omega
    have q4 : 0 ≤ (k : Int) := by omega
    obtain ⟨b, off, rfl, hb, hc⟩ := (GSl.below (GSl.below HH.out HB0.out) HBR.out).at_ (by omega)
    obtain ⟨c0, c1⟩ := hc k h1
    have HBD := Lib.hid (HNO.out k h1)
    obtain ⟨⟨kd, wd⟩, hq⟩ : ∃ q : Int × Int, q = gs.getD k (0, 0) := ⟨_, rfl⟩
    rw [← hq] at c0 c1
    have HQ := Lib.hid hq
    dsimp only at c0 c1
    have hbA : Below wr.heap.size wr (wr.alloc (.cells #[.int .i64 kd, .int .i64 wd] 31)) := (Below.refl _ _).alloc (Nat.le_refl _) _
    have HBB := Lib.hid (HBR.out.trans (hbA.mono HBR.out.size))
    have HBW := Lib.hid (HBW0.out.trans (hbA.mono HBW0.out.size))
    clear hc hq hbA hb
    by_cases hk0 : kd = 0
    ·subst hk0
     by_cases hw : wd < 1
     ·have HV := Lib.hid (HBD.out (by rw [← HQ.out]; unfold oneB; exact decide_eq_false (by omega)))
      go_wp2_with fail
      go_ret
      exact ⟨ret_bool HV.out.symm, HBW.out⟩
     ·by_cases hw2 : 8 < wd
      ·have HV := Lib.hid (HBD.out (by rw [← HQ.out]; unfold oneB; exact decide_eq_false (by omega)))
       go_wp2_with fail
       go_ret
       exact ⟨ret_bool HV.out.symm, HBW.out⟩
      ·have HA2 : Hid (∀ j, j < k + 1 → oneB (gs.getD j (0, 0)).1 (gs.getD j (0, 0)).2 = true) := Lib.hid (fun j hj => by
        by_cases e : j = k
        ·rw [e, ← HQ.out]
         unfold oneB
         exact decide_eq_true (by omega)
        ·exact HA.out j (by omega))
       go_wp2_with fail
       go_roundw
       case rel => exact ⟨k + 1, by go_num, by omega, HA2, HBB⟩
       case measure => simp [intOf]; omega
    ·by_cases hk1 : kd = 1
     ·subst hk1
      by_cases hw : wd < 3
      ·have HV := Lib.hid (HBD.out (by rw [← HQ.out]; unfold oneB; exact decide_eq_false (by omega)))
       go_wp2_with fail
       go_ret
       exact ⟨ret_bool HV.out.symm, HBW.out⟩
      ·by_cases hw2 : 8 < wd
       ·have HV := Lib.hid (HBD.out (by rw [← HQ.out]; unfold oneB; exact decide_eq_false (by omega)))
        go_wp2_with fail
        go_ret
        exact ⟨ret_bool HV.out.symm, HBW.out⟩
       ·have HA2 : Hid (∀ j, j < k + 1 → oneB (gs.getD j (0, 0)).1 (gs.getD j (0, 0)).2 = true) := Lib.hid (fun j hj => by
         by_cases e : j = k
         ·rw [e, ← HQ.out]
          unfold oneB
          exact decide_eq_true (by omega)
         ·exact HA.out j (by omega))
        go_wp2_with fail
        go_roundw
        case rel => exact ⟨k + 1, by go_num, by omega, HA2, HBB⟩
        case measure => simp [intOf]; omega
     ·have r0 : (kd == 0) = false := by simpa using hk0
      have r1 : (kd != 0) = true := by simpa using hk0
      have r2 : decide (kd = 0) = false := decide_eq_false hk0
      have s0 : (kd == 1) = false := by simpa using hk1
      have s1 : (kd != 1) = true := by simpa using hk1
      have s2 : decide (kd = 1) = false := decide_eq_false hk1
      have HV := Lib.hid (HBD.out (by rw [← HQ.out]; unfold oneB; exact decide_eq_false (by omega)))
      go_wp2_with fail
      go_ret
      exact ⟨ret_bool HV.out.symm, HBW.out⟩
   ·have q3 : ¬ (k : Int) < (n : Int) := by omega
    obtain rfl : k = n := by omega
    have HV := Lib.hid (HOK.out HA.out)
    go_wp2_with fail
    go_ret
    exact ⟨ret_bool HV.out.symm, HBW0.out⟩
end Go.Proofs.YtfaemcfjbbbbdaaGreat
namespace Go.Proofs.YtfaemcfjbbbbdaaGreat
open Go.RowKit
attribute [local go_sem ↓] wp_loadPt wp_storePt
set_option maxHeartbeats 3200000 in
set_option maxRecDepth 100000 in
theorem storeone_pos (gb go_ n gc : Nat) (gs : Gs) (secs : Int) (w : World) (h : GSl w (some ⟨gb, go_, none⟩) n gc gs) (dv : Nat) (hdv : dv ≤ 255) (xb xo bn : Nat) (bc : Nat) (bl : List BlkT) (hb : BkSl w (some ⟨xb, xo, none⟩) bn bc bl) (hbn : 0 < bn) (lz : Bool) :
  Calls Tryz.prog 3 #[.agg #[.slice (some ⟨gb, go_, none⟩) n gc, .int .i64 secs], .int .u8 (dv : Nat), .slice (some ⟨xb, xo, none⟩) bn bc, .bool lz] w fun e w' => e = .returned (.bool true) ∧ Below w.heap.size w w' := by
 have hl := h.len
 have hbl := hb.len
 have hbmx : bn ≤ maxLen := Nat.le_trans hb.2.1 hb.2.2.1
 obtain ⟨w0, hw0⟩ : ∃ w0, w0 = w.alloc (.cells #[.slice (some ⟨gb, go_, none⟩) n gc, .int .i64 secs] 24) := ⟨_, rfl⟩
 have hb0 : Below w.heap.size w w0 := by rw [hw0]; exact (Below.refl _ _).alloc (Nat.le_refl _) _
 have hg0 : Blk w0 w.heap.size 24 [.slice (some ⟨gb, go_, none⟩) n gc, .int .i64 secs] := by rw [hw0]; exact Blk.new w _ _
 have hs0 : w0.heap.size = w.heap.size + 1 := by rw [hw0]; simp
 have HAW := Lib.hid awake15_any
 have HFEW : Hid (∀ W, Below w.heap.size w W → Calls Tryz.prog 8 #[.slice (some ⟨xb, xo, none⟩) bn bc] W fun e w' => e = .returned (.bool (fewS bl)) ∧ w' = W) := Lib.hid (fun W hW => few15_any _ _ bc bl W (RSl.below hb hW) (by unfold maxLen at hbmx; omega))
 have HRR : Hid (∀ W, Below w.heap.size w W → Calls Tryz.prog 9 #[.agg #[.slice (some ⟨gb, go_, none⟩) n gc, .int .i64 secs]] W fun e w' => e = .returned (.bool (rightB gs secs)) ∧ Below W.heap.size W w') := Lib.hid (fun W hW => refright_any _ _ _ gs secs W (h.below hW))
 have HG := Lib.hid h
 have HBK := Lib.hid hb
 have HB0 := Lib.hid hb0
 have HG0 := Lib.hid hg0
 have HL := Lib.hid hl
 have HBL := Lib.hid hbl
 obtain ⟨fw, hfw⟩ : ∃ fw, fw = fewS bl := ⟨_, rfl⟩
 obtain ⟨rt, hrt⟩ : ∃ rt, rt = rightB gs secs := ⟨_, rfl⟩
 rw [← hfw] at HFEW
 rw [← hrt] at HRR
 have HFW := Lib.hid hfw
 have HRT := Lib.hid hrt
 clear h hb hl hbl hb0 hg0 hfw hrt hbmx
 go_enter Tryz.func3, Tryz.ntmps3
 go_upto_region 1 with fail
 rw [← hw0]
 clear hw0
 go_wp2_with fail
 refine (HAW.out w0).mono ?_
 rintro e w1 ⟨rfl, hb1⟩
 have HB1 : Hid (Below w.heap.size w w1) := Lib.hid (HB0.out.trans (hb1.mono (by omega)))
 have HG1 := Lib.hid (HG0.out.below hb1)
 have hs1 : w.heap.size + 1 ≤ w1.heap.size := by have := hb1.size; omega
 clear hb1 HG0 HB0
 cases fw with
 | false =>
  go_wp2_with fail
  refine (HFEW.out w1 HB1.out).mono ?_
  rintro e w2 ⟨rfl, rfl⟩
  go_wp2_with fail
  refine (HAW.out w2).mono ?_
  rintro e w3 ⟨rfl, hb3⟩
  have HB3 : Hid (Below w.heap.size w w3) := Lib.hid (HB1.out.trans (hb3.mono (by omega)))
  clear hb3
  go_wp2_with fail
  go_ret
  exact ⟨rfl, HB3.out⟩
 | true =>
  go_wp2_with fail
  refine (HFEW.out w1 HB1.out).mono ?_
  rintro e w2 ⟨rfl, hw2⟩
  subst hw2
  have c0 := HG1.out.cell 0
  have c1 := HG1.out.cell 1
  go_wp2_with fail
  refine (HRR.out w2 HB1.out).mono ?_
  rintro e w3 ⟨rfl, hb3⟩
  have HB3 : Hid (Below w.heap.size w w3) := Lib.hid (HB1.out.trans (hb3.mono (by omega)))
  have HG3 := Lib.hid (HG1.out.below hb3)
  have hs3 : w.heap.size + 1 ≤ w3.heap.size := by have := hb3.size; omega
  clear hb3 HB1 HG1 c0 c1
  cases rt with
  | false =>
   go_wp2_with fail
   refine (HAW.out w3).mono ?_
   rintro e w4 ⟨rfl, hb4⟩
   have HB4 : Hid (Below w.heap.size w w4) := Lib.hid (HB3.out.trans (hb4.mono (by omega)))
   clear hb4
   go_wp2_with fail
   go_ret
   exact ⟨rfl, HB4.out⟩
  | true =>
   obtain ⟨fl0, hfl0⟩ : ∃ fl0, fl0 = List.replicate 40 false := ⟨_, rfl⟩
   have HFL0 : Hid (fl0 = flagsK gs dv 0) := Lib.hid hfl0
   have hmk := make_bools 40 (by omega) w3
   rw [← hfl0] at hmk
   have hmk2 : (Instr.makeSlice 29 (.int .i64 40) (.int .i64 40)).run Tryz.prog w3 = .ok (.slice (some ⟨w3.heap.size, 0, none⟩) 40 40) (w3.alloc (.cells (boolsV fl0).toArray 4)) := hmk
   clear hmk hfl0
   go_upto_region 4 with fail
   obtain ⟨w4, hw4⟩ : ∃ w4, w4 = w3.alloc (.cells (boolsV fl0).toArray 4) := ⟨_, rfl⟩
   obtain ⟨fb, hfb⟩ : ∃ fb, fb = w3.heap.size := ⟨_, rfl⟩
   have hb4 : Below w3.heap.size w3 w4 := by rw [hw4]; exact (Below.refl _ _).alloc (Nat.le_refl _) _
   have HF4 : Hid (Blk w4 fb 4 (boolsV (flagsK gs dv 0))) := Lib.hid (by rw [hw4, hfb, ← HFL0.out]; exact Blk.new w3 _ (boolsV fl0))
   have HB4 : Hid (Below w.heap.size w w4) := Lib.hid (HB3.out.trans (hb4.mono (by omega)))
   have HG4 := Lib.hid (HG3.out.below hb4)
   have hs4 : w.heap.size + 1 ≤ fb := by omega
   rw [← hw4, ← hfb]
   clear hw4 hfb hb4 HB3 HG3 hmk2 HFL0
   have hn4 : n ≤ 4 ∧ 1 ≤ n := by have := rightB_spec HRT.out.symm; have := HL.out; omega
   have c4 : w4.cell? ⟨w.heap.size, 0, none⟩ = some (.slice (some ⟨gb, go_, none⟩) n gc) := HG4.out.cell 0
   go_wp2_with fail
   clear c4
   go_loopw [10, 11] (fun va vi wr => ∃ k : Nat, k ≤ n ∧ vi = .int .i64 (k : Nat) ∧ va = .int .i64 ((wsum gs k).toNat : Nat) ∧ Hid (Blk wr fb 4 (boolsV (flagsK gs dv k))) ∧ Hid (∀ g, g < k → 2 ≤ (gs.getD g (0, 0)).2) ∧ Hid (Blk wr w.heap.size 24 [.slice (some ⟨gb, go_, none⟩) n gc, .int .i64 secs]) ∧ Hid (Below w.heap.size w wr)) (fun _ vi _ => n - (intOf vi).toNat)
   case atStart => exact ⟨0, by omega, rfl, rfl, HF4, Lib.hid (fun g hg => absurd hg (by omega)), HG4, HB4⟩
   case round =>
    obtain ⟨k, hk, rfl, rfl, HFL, HW2, HGR, HBR⟩ := hrel
    clear HF4 HG4 HB4
    have c4 : wr.cell? ⟨w.heap.size, 0, none⟩ = some (.slice (some ⟨gb, go_, none⟩) n gc) := HGR.out.cell 0
    by_cases hkn : k < n
    ·have q1 : (k : Int) < (n : Int) := by omega
     have q0 : 0 ≤ (k : Int) := by omega
     have hkg : k < gs.length := by have := HL.out; omega
     have hgk := getD_right HRT.out.symm hkg
     obtain ⟨wd, hwd⟩ : ∃ wd, wd = (gs.getD k (0, 0)).2.toNat := ⟨_, rfl⟩
     have hwd2 : (gs.getD k (0, 0)).2 = (wd : Nat) := by omega
     have hcel : wr.cell? ⟨gb, go_ + k * 2 + 1, none⟩ = some (.int .i64 (wd : Nat)) := by
      have h9 := HG.out.below HBR.out
      obtain ⟨b, off, e, hb, hc⟩ := h9.2.2.2.2 (by omega)
      simp only [Option.some.injEq, Addr.mk.injEq, and_true] at e
      obtain ⟨rfl, rfl⟩ := e
      rw [Nat.add_assoc, hc _ (by omega), ← hwd2]
      exact (encG_get gs k hkg).2
     have HWD := Lib.hid hwd2
     have HWT := Lib.hid hwd
     have HKG := Lib.hid hkg
     have hw8 : 1 ≤ wd ∧ wd ≤ 8 := by omega
     have hst := wsum_stepS hkg
     have hwb := (wsum_bd HRT.out.symm k (by omega))
     have HST : Hid ((wsum gs (k + 1)).toNat = (wsum gs k).toNat + wd) := Lib.hid (by omega)
     have hwb2 : (wsum gs k).toNat + wd ≤ 32 := by have := (wsum_bd HRT.out.symm (k + 1) (by omega)).2; omega
     clear hwd hwd2 hgk hkg hst hwb
     by_cases hw2 : wd < 2
     ·have q2 : (wd : Int) < 2 := by omega
      go_wp2_with fail
      go_ret
      exact ⟨rfl, HBR.out⟩
     ·have q2 : ¬ (wd : Int) < 2 := by omega
      obtain ⟨P, hP⟩ : ∃ P, P = (wsum gs k).toNat := ⟨_, rfl⟩
      rw [← hP] at hwb2 HST ⊢
      obtain ⟨D, hD⟩ : ∃ D, D = dv % wd := ⟨_, rfl⟩
      have hDl : D < wd := by rw [hD]; exact Nat.mod_lt _ (by omega)
      have q3 : ¬ (wd : Int) = 0 := by omega
      have e1 : (dv : Int).tmod (wd : Int) = (D : Nat) := by rw [hD, Int.tmod_eq_emod_of_nonneg (by omega)]; omega
      have e2 : IntKind.i64.wrap (D : Int) = (D : Int) := IntWalk.i64_in _ (by omega)
      have e3 : IntKind.i64.wrap ((P : Int) + (D : Int)) = ((P + D : Nat) : Int) := by rw [IntWalk.i64_in _ (by omega)]; omega
      have e4 : IntKind.i64.wrap (dv : Int) = (dv : Int) := IntWalk.i64_in _ (by omega)
      have HP := Lib.hid hP
      have HD := Lib.hid hD
      have q4 : ((P + D : Nat) : Int) < 40 := by omega
      have hfl : P + D < (flagsK gs dv k).length := by rw [flagsK_len]; omega
      have t1 : wr.cell? ⟨fb, P + D, none⟩ = some (.bool ((flagsK gs dv k).getD (P + D) false)) := by
       rw [HFL.out.cell]
       simp [boolsV, List.getD_eq_getElem?_getD, hfl]
      have f1 := HFL.out.frozen (P + D)
      have hgb : gb < w.heap.size := by
       obtain ⟨b, off, e, hb, _⟩ := HG.out.2.2.2.2 (by omega)
       simp only [Option.some.injEq, Addr.mk.injEq, and_true] at e
       omega
      have c5 : (wr.setCell ⟨fb, P + D, none⟩ (.bool true)).cell? ⟨w.heap.size, 0, none⟩ = some (.slice (some ⟨gb, go_, none⟩) n gc) := (HGR.out.other (a := ⟨fb, P + D, none⟩) (by show w.heap.size ≠ fb; omega) _).cell 0
      have c6 : (wr.setCell ⟨fb, P + D, none⟩ (.bool true)).cell? ⟨gb, go_ + k * 2 + 1, none⟩ = some (.int .i64 (wd : Nat)) := by
       rw [World.cell?_of_block (w := wr) (Below.heap_setCell _ _ _ _ (show gb ≠ fb by omega))]
       exact hcel
      have e5 : IntKind.i64.wrap ((P : Int) + (wd : Int)) = ((P + wd : Nat) : Int) := by rw [IntWalk.i64_in _ (by omega)]; omega
      clear hP hD hfl hgb
      go_wp2_with fail
      go_roundw
      case rel =>
       refine ⟨k + 1, by omega, by go_num, ?_, Lib.hid ?_, Lib.hid (fun g hg => ?_), Lib.hid (HGR.out.other (a := ⟨fb, P + D, none⟩) (by show w.heap.size ≠ fb; omega) _), Lib.hid (HBR.out.setCell (by show w.heap.size ≤ fb; omega) _)⟩
       ·rw [HST.out]; go_num
       ·have e9 : flagsK gs dv (k + 1) = (flagsK gs dv k).set (P + D) true := by
         show (flagsK gs dv k).set (flagP gs dv k) true = _
         unfold flagP
         rw [← HP.out, ← HWT.out, ← HD.out]
        rw [e9, show boolsV ((flagsK gs dv k).set (P + D) true) = (boolsV (flagsK gs dv k)).set (P + D) (.bool true) by simp [boolsV, List.map_set]]
        exact HFL.out.setCell (P + D) _
       ·rcases Nat.lt_or_ge g k with h9 | h9
        ·exact HW2.out g h9
        ·have e9 : g = k := by omega
         subst e9
         rw [HWD.out]; omega
      case measure => simp [intOf]; omega
    ·have hkn' : k = n := by omega
     subst hkn'
     obtain ⟨P, hP⟩ : ∃ P, P = (wsum gs k).toNat := ⟨_, rfl⟩
     rw [← hP]
     clear hP
     have q1 : ¬ (k : Int) < (k : Int) := by omega
     have hkl : k = gs.length := HL.out.symm
     have hrow : BSl wr (some ⟨fb, 0, none⟩) 40 40 (flagsK gs dv gs.length) := by
      rw [← hkl]
      have h9 := rsl_of_owns (blk_owns (base := 0) (n := 40) (cap := 40) (size := 1) HFL.out (Nat.zero_le _) (Nat.le_refl _) (by unfold maxLen; omega) (by simp [boolsV, flagsK_len]))
      rw [List.take_of_length_le (by simp [boolsV, flagsK_len])] at h9
      exact h9
     have HOA : Hid (OneOut gs (flagsK gs dv gs.length) []) := Lib.hid (flags_one HRT.out.symm dv (by rw [← hkl]; exact HW2.out) (fun d hd => by rcases hd with hd | hd; exact hd; simp at hd))
     have HOB : Hid (OneOut gs [] (flagsK gs dv gs.length)) := Lib.hid (flags_one HRT.out.symm dv (by rw [← hkl]; exact HW2.out) (fun d hd => by rcases hd with hd | hd; simp at hd; exact hd))
     have HROW := Lib.hid hrow
     clear hrow hkl HW2 HFL
     go_upto_if 72 with fail
     go_cut [12, 13] (fun v12 v13 wx => ∃ al ll a1 n1 c1 a2 n2 c2, v12 = .slice a1 n1 c1 ∧ v13 = .slice a2 n2 c2 ∧ wx = wr ∧ Hid (BSl wr a1 n1 c1 al) ∧ Hid (BSl wr a2 n2 c2 ll) ∧ Hid (OneOut gs al ll))
     case first =>
      cases lz with
      | true =>
       go_wp2_with fail
       go_meet
       exact ⟨_, _, _, _, _, _, _, _, rfl, rfl, rfl, Lib.hid (bsl_nil _), HROW, HOB⟩
      | false =>
       go_wp2_with fail
       go_meet
       exact ⟨_, _, _, _, _, _, _, _, rfl, rfl, rfl, HROW, Lib.hid (bsl_nil _), HOA⟩
     case rest =>
      obtain ⟨al, ll, a1, n1, c1, a2, n2, c2, rfl, rfl, rfl, HA1, HA2, HOO⟩ := hcut
      clear HOA HOB HROW
      have hgr : GSl wc (some ⟨gb, go_, none⟩) k gc gs := HG.out.below HBR.out
      have hrt : rightB gs secs = true := HRT.out.symm
      have HMN : Hid (devOk gs secs = false → Calls Tryz.prog 10 #[.agg #[.slice (some ⟨gb, go_, none⟩) k gc, .int .i64 secs], .slice a1 n1 c1, .slice a2 n2 c2, .int .i64 3, .int .i64 0] wc fun e w' => e = .returned (.tuple #[.pointer none, .bool false]) ∧ Below wc.heap.size wc w') := Lib.hid (fun hok => made_no _ _ gc gs secs wc hgr _ _ 3 0 hok (by omega))
      have HMY : Hid (devOk gs secs = true → Calls Tryz.prog 10 #[.agg #[.slice (some ⟨gb, go_, none⟩) k gc, .int .i64 secs], .slice a1 n1 c1, .slice a2 n2 c2, .int .i64 3, .int .i64 0] wc fun e w' => ∃ sb bb V T S, e = .returned (.tuple #[.pointer (some ⟨sb, 0, none⟩), .bool true]) ∧ IsSto w' sb S V bb none T ∧ StOk S [] 0 ∧ (S.keep = 0 ∧ S.fixed = 0 ∧ S.born = []) ∧ (∀ g, T g → wc.heap.size ≤ g) ∧ Below wc.heap.size wc w') := Lib.hid (fun hok => (made_yes _ _ gc gs secs wc hgr a1 n1 c1 al HA1.out a2 n2 c2 ll HA2.out 3 0 hok).mono (fun e w' hh => by
       obtain ⟨sb, bb, V, T, sn, r1, r2, r3, r4, r5, r6⟩ := hh
       exact ⟨sb, bb, V, T, _, r1, r2, newSt_ok hrt HOO.out r3 r4, ⟨rfl, rfl, rfl⟩, r5, r6⟩))
      obtain ⟨dk, hdk⟩ : ∃ dk, dk = devOk gs secs := ⟨_, rfl⟩
      rw [← hdk] at HMN HMY
      have HG5 := Lib.hid HGR.out
      have g0 := HGR.out.cell 0
      have g1 := HGR.out.cell 1
      clear hgr hrt hdk HA1 HA2 HOO
      cases dk with
      | false =>
       go_wp2_with fail
       refine (HMN.out (by first | trivial | rfl)).mono ?_
       rintro e w6 ⟨rfl, hb6⟩
       have HB6 : Hid (Below w.heap.size w w6) := Lib.hid (HBR.out.trans (hb6.mono HBR.out.size))
       clear hb6
       go_wp2_with fail
       go_ret
       exact ⟨rfl, HB6.out⟩
      | true =>
       go_wp2_with fail
       refine (HMY.out (by first | trivial | rfl)).mono ?_
       rintro e w6 ⟨sb, bb, V, T, S, rfl, hst, hso, hs0, htf, hb6⟩
       have HST := Lib.hid hst
       have HSO := Lib.hid hso
       have HS0 := Lib.hid hs0
       have HTF : Hid (∀ g, T g → w.heap.size ≤ g) := Lib.hid (fun g hg => Nat.le_trans HBR.out.size (htf g hg))
       have HB6 : Hid (Below w.heap.size w w6) := Lib.hid (HBR.out.trans (hb6.mono HBR.out.size))
       have HBT : Hid (¬ T w.heap.size ∧ Blk w6 w.heap.size 24 [.slice (some ⟨gb, go_, none⟩) k gc, .int .i64 secs]) := Lib.hid ⟨fun hf => by have := htf _ hf; have := HGR.out.lt; omega, HGR.out.below hb6⟩
       have hbn30 : bn ≤ 30 := by
        have h9 := HFW.out
        unfold fewS at h9
        have h8 := h9.symm
        rw [Bool.and_eq_true, decide_eq_true_eq] at h8
        rw [← HBL.out]
        exact h8.1
       clear hst hso hs0 htf hb6 HMN HMY g0 g1
       go_wp2_with fail
       go_loopw [16] (fun vi wr => ∃ (k : Nat) (S : StoT) (L : List St) (K : Nat) (T : Nat → Prop) (dn : Option Nat), k ≤ bn ∧ vi = .int .i64 (k : Nat) ∧ K ≤ 64 * k ∧ Hid (IsSto wr sb S V bb dn T) ∧ Hid (StOk S L K) ∧ Hid (S.keep = 0 ∧ S.fixed = 0 ∧ S.born.length ≤ k) ∧ Hid (∀ g, T g → w.heap.size ≤ g) ∧ Hid (Below w.heap.size w wr)) (fun vi _ => bn - (intOf vi).toNat)
       case atStart => exact ⟨0, S, [], 0, T, none, by omega, rfl, by omega, HST, HSO, Lib.hid ⟨HS0.out.1, HS0.out.2.1, by rw [HS0.out.2.2]; exact Nat.zero_le _⟩, HTF, HB6⟩
       case round =>
        clear HST HSO HS0 HTF HB6 HBT
        obtain ⟨i, S, L, K, T, dn, hi, rfl, hK, HST, HSO, HS0, HTF, HB6⟩ := hrel
        by_cases hin : i < bn
        ·have q1 : (i : Int) < ((bn : Nat) : Int) := by omega
         have q0 : 0 ≤ (i : Int) := by omega
         have e4 : wr.cell? ⟨sb, 4, none⟩ = some (.pointer (some ⟨bb, 0, none⟩)) := HST.out.cells.cell 4
         have HLF := Lib.hid (sleft_any HST.out)
         have HBC : Hid (∀ W, Below w.heap.size w W → W.cell? ⟨xb, xo + i * 3, none⟩ = some (.string ⟨(bl.getD i bkD).s.toArray⟩) ∧ W.cell? ⟨xb, xo + i * 3 + 1, none⟩ = some (.int .i64 (bl.getD i bkD).level)) := Lib.hid (fun W hW => by
          obtain ⟨b, off, e, hb, hc⟩ := BkSl.cells (RSl.below HBK.out hW) hbn
          simp only [Option.some.injEq, Addr.mk.injEq, and_true] at e
          obtain ⟨rfl, rfl⟩ := e
          exact ⟨(hc i hin).1, (hc i hin).2.1⟩)
         have HTL : Hid ((bl.getD i bkD).s.length ≤ 1000) := Lib.hid (by
          have h9 := HFW.out.symm
          unfold fewS at h9
          rw [Bool.and_eq_true, List.all_eq_true] at h9
          have h8 : bl.getD i bkD ∈ bl := by
           have : i < bl.length := by rw [HBL.out]; exact hin
           rw [List.getD_eq_getElem?_getD, List.getElem?_eq_getElem this]
           exact List.getElem_mem _
          have := h9.2 _ h8
          simpa using this)
         obtain ⟨t, ht⟩ : ∃ t, t = (bl.getD i bkD).s := ⟨_, rfl⟩
         obtain ⟨lv, hlv⟩ : ∃ lv, lv = (bl.getD i bkD).level := ⟨_, rfl⟩
         rw [← ht] at HBC HTL
         rw [← hlv] at HBC
         clear ht hlv
         obtain ⟨lf, hlf⟩ : ∃ lf, lf = leftA S.sn := ⟨_, rfl⟩
         rw [← hlf] at HLF
         have HLE := Lib.hid hlf
         obtain ⟨R, hR⟩ : ∃ R, R = putR S t lv := ⟨_, rfl⟩
         have HPP := Lib.hid (put_plain HSO.out t lv)
         have HPL : Hid (∀ W T1, IsSto W sb S V bb dn T1 → Calls Tryz.prog 12 #[.pointer (some ⟨sb, 0, none⟩), .string ⟨t.toArray⟩, .int .i64 lv] W (PutFn W sb V bb dn T1 R)) := Lib.hid (fun W T1 hW => by
          rw [hR]
          exact put_law hW HSO.out (by omega) (by rw [HS0.out.1]; omega) (by have := HS0.out.2.2; omega) t lv (by have := HTL.out; omega))
         rw [← hR] at HPP
         clear hlf hR
         go_wp2_with fail
         refine HLF.out.mono ?_
         rintro e w7 ⟨rfl, hb7⟩
         have HST7 := Lib.hid (HST.out.below hb7)
         have HB7 : Hid (Below w.heap.size w w7) := Lib.hid (HB6.out.trans (hb7.mono HB6.out.size))
         clear hb7 e4 HST HB6 HLF
         go_upto_region 22 with fail
         go_cut [18, 19] (fun v18 v19 wx => ∃ gp T' dn', v18 = .pointer (some ⟨gp, 0, none⟩) ∧ v19 = .int .i64 (R.err : Nat) ∧ Hid (IsSto wx sb R.s V bb dn' T') ∧ Hid (∀ g, T' g → w.heap.size ≤ g) ∧ Hid (Below w.heap.size w wx) ∧ Hid (Blk wx gp 49 (encPtr R.p)))
         case first =>
          have hS0 : Below w.heap.size w w7.drew ∧ w7.drew.cell? ⟨xb, xo + i * 3, none⟩ = some (.string ⟨t.toArray⟩) ∧ w7.drew.cell? ⟨xb, xo + i * 3 + 1, none⟩ = some (.int .i64 lv) := ⟨HB7.out.drew, HBC.out _ HB7.out.drew⟩
          have HSD : Hid (IsSto w7.drew sb S V bb dn T) := Lib.hid (HST7.out.below (Below.refl _ _).drew)
          refine wp_region_held_drew (S := fun W => Below w.heap.size w W ∧ W.cell? ⟨xb, xo + i * 3, none⟩ = some (.string ⟨t.toArray⟩) ∧ W.cell? ⟨xb, xo + i * 3 + 1, none⟩ = some (.int .i64 lv)) (by kernel_rfl) hS0 (fun hS0 => ?_)
          refine rtv (i := 0) (v := ?vd0) (hy := ?yd0) (h := ?_)
          case yd0 => intro w hSw; (try dsimp only at hSw); go_simp; try with_reducible rfl
          try simp only [Act.put, z1, z2, z3]
          refine rtv (i := 1) (v := ?vd1) (hy := ?yd1) (h := ?_)
          case yd1 => intro w hSw; (try dsimp only at hSw); go_simp; try with_reducible rfl
          try simp only [Act.put, z1, z2, z3]
          refine rtv (i := 2) (v := ?vd2) (hy := ?yd2) (h := ?_)
          case yd2 => intro w hSw; (try dsimp only at hSw); go_simp; try with_reducible rfl
          try simp only [Act.put, z1, z2, z3]
          refine rtv (i := 3) (v := ?vd3) (hy := ?yd3) (h := ?_)
          case yd3 => intro w hSw; (try dsimp only at hSw); go_simp; try with_reducible rfl
          try simp only [Act.put, z1, z2, z3]
          refine rtv (i := 4) (v := ?vd4) (hy := ?yd4) (h := ?_)
          case yd4 => intro w hSw; (try dsimp only at hSw); go_simp; try with_reducible rfl
          try simp only [Act.put, z1, z2, z3]
          refine rtv (i := 5) (v := ?vd5) (hy := ?yd5) (h := ?_)
          case yd5 => intro w hSw; (try dsimp only at hSw); go_simp; try with_reducible rfl
          try simp only [Act.put, z1, z2, z3]
          refine rtv (i := 6) (v := ?vd6) (hy := ?yd6) (h := ?_)
          case yd6 => intro w hSw; (try dsimp only at hSw); go_simp; try with_reducible rfl
          try simp only [Act.put, z1, z2, z3]
          refine rtv (i := 7) (v := ?vd7) (hy := ?yd7) (h := ?_)
          case yd7 => intro w hSw; (try dsimp only at hSw); go_simp; try with_reducible rfl
          try simp only [Act.put, z1, z2, z3]
          refine rtv (i := 8) (v := ?vd8) (hy := ?yd8) (h := ?_)
          case yd8 => intro w hSw; (try dsimp only at hSw); go_simp; try with_reducible rfl
          try simp only [Act.put, z1, z2, z3]
          refine rtv (i := 9) (v := ?vd9) (hy := ?yd9) (h := ?_)
          case yd9 => intro w hSw; (try dsimp only at hSw); go_simp; try with_reducible rfl
          try simp only [Act.put, z1, z2, z3]
          refine rtv (i := 10) (v := ?vd10) (hy := ?yd10) (h := ?_)
          case yd10 => intro w hSw; (try dsimp only at hSw); go_simp; try with_reducible rfl
          try simp only [Act.put, z1, z2, z3]
          refine wpAnyH_ready (rs := [11, 15]) (by kernel_rfl) (by simp) ?_
          refine AllReadyH.cons (by simp only [List.getElem?_toArray, List.getElem?_cons_succ, List.getElem?_cons_zero]; rfl) (fun K hK => ?_) (AllReadyH.cons (by simp only [List.getElem?_toArray, List.getElem?_cons_succ, List.getElem?_cons_zero]; rfl) (fun K hK => ?_) AllReadyH.nil)
          ·go_simp
           refine (HPL.out w7.drew T (HSD.out)).mono ?_
           rintro e w8 ⟨rfl, dn2, hdn2, T2, hst8, hmo8, hnw8⟩
           have HST8 := Lib.hid hst8
           have HSZ8 : Hid (w7.heap.size ≤ w8.heap.size) := Lib.hid (by have := hmo8.size; simpa using this)
           have HB8 : Hid (Below w.heap.size w w8) := Lib.hid ((HB7.out.drew).trans (hmo8.toBelow HTF.out (by have := HB7.out.size; simp; omega)))
           have HTF8 : Hid (∀ g, T2 g → w.heap.size ≤ g) := Lib.hid (fun g hg => by
            rcases hnw8 g hg with h9 | h9
            ·exact HTF.out g h9
            ·have := HB7.out.size; simp at h9; omega)
           clear hst8 hmo8 hnw8
           try dsimp only
           refine hK.out _ _ (⟨HB8.out, HBC.out _ HB8.out⟩) (fun hSda11 => ?_)
           try simp only [Act.put, z1, z2, z3]
           refine rtv (i := 12) (v := ?vda12) (hy := ?yda12) (h := ?_)
           case yda12 => intro w hSw; (try dsimp only at hSw); go_simp; try with_reducible rfl
           try simp only [Act.put, z1, z2, z3]
           refine rtv (i := 13) (v := ?vda13) (hy := ?yda13) (h := ?_)
           case yda13 => intro w hSw; (try dsimp only at hSw); go_simp; try with_reducible rfl
           try simp only [Act.put, z1, z2, z3]
           refine rtv (i := 14) (v := ?vda14) (hy := ?yda14) (h := ?_)
           case yda14 => intro w hSw; (try dsimp only at hSw); go_simp; try with_reducible rfl
           try simp only [Act.put, z1, z2, z3]
           refine rr1 (i := 15) (h := fun K hK => ?_)
           go_simp
           skip
           refine hK.out _ _ (⟨HB8.out.alloc HB8.out.size _, HBC.out _ (HB8.out.alloc HB8.out.size _)⟩) (fun hSda15 => ?_)
           try simp only [Act.put, z1, z2, z3]
           refine rr1 (i := 16) (h := fun K hK => ?_)
           rw [if_pos (by kernel_rfl)]
           refine wp_store_mid 49 (.tmp 18) (.tmp 107) rfl w8.heap.size (0) (encPtr R.p).toArray rfl rfl (blk_there (Blk.new w8 49 [.int .i64 0, .int .i64 0, .int .i64 0, .int .i64 0, .bool false, .int .i64 0, .int .i64 0, .int .i64 0, .int .u64 0, .int .u64 0, .int .u64 0, .int .u64 0]) (Nat.le_refl 12)) iszPt (all_oneCell_toArray (encPtr_ones R.p)) ?_
           refine hK.out _ _ (⟨((HB8.out.alloc HB8.out.size _).grown (setCells_grown _ _ _ _) (HB8.out.alloc HB8.out.size _).size (fun k e => by have := Option.some.inj e; have := HB7.out.size; have := HB8.out.size; omega)), HBC.out _ ((HB8.out.alloc HB8.out.size _).grown (setCells_grown _ _ _ _) (HB8.out.alloc HB8.out.size _).size (fun k e => by have := Option.some.inj e; have := HB7.out.size; have := HB8.out.size; omega))⟩) (fun hSda16 => ?_)
           try simp only [Act.put, z1, z2, z3]
           refine rtv (i := 17) (v := ?vda17) (hy := ?yda17) (h := ?_)
           case yda17 => intro w hSw; (try dsimp only at hSw); go_simp; try with_reducible rfl
           try simp only [Act.put, z1, z2, z3]
           refine wpAnyH_done (by kernel_rfl) ?_ _
           have HT : Hid (IsSto ((w8.alloc (.cells #[.int .i64 0, .int .i64 0, .int .i64 0, .int .i64 0, .bool false, .int .i64 0, .int .i64 0, .int .i64 0, .int .u64 0, .int .u64 0, .int .u64 0, .int .u64 0] 49)).setCells w8.heap.size 0 (encPtr R.p)) sb R.s V bb dn2 T2 ∧ Blk ((w8.alloc (.cells #[.int .i64 0, .int .i64 0, .int .i64 0, .int .i64 0, .bool false, .int .i64 0, .int .i64 0, .int .i64 0, .int .u64 0, .int .u64 0, .int .u64 0, .int .u64 0] 49)).setCells w8.heap.size 0 (encPtr R.p)) w8.heap.size 49 (encPtr R.p) ∧ Below w.heap.size w ((w8.alloc (.cells #[.int .i64 0, .int .i64 0, .int .i64 0, .int .i64 0, .bool false, .int .i64 0, .int .i64 0, .int .i64 0, .int .u64 0, .int .u64 0, .int .u64 0, .int .u64 0] 49)).setCells w8.heap.size 0 (encPtr R.p))) := Lib.hid ⟨(HST8.out.below ((Below.refl _ _).alloc (Nat.le_refl _) _)).other (Blk.new w8 49 [.int .i64 0, .int .i64 0, .int .i64 0, .int .i64 0, .bool false, .int .i64 0, .int .i64 0, .int .i64 0, .int .u64 0, .int .u64 0, .int .u64 0, .int .u64 0]) (by unfold BookTy; decide) (fun hf => by have := HST8.out.lt _ hf; omega) (setCells_grown _ _ _ _), (Blk.new w8 49 [.int .i64 0, .int .i64 0, .int .i64 0, .int .i64 0, .bool false, .int .i64 0, .int .i64 0, .int .i64 0, .int .u64 0, .int .u64 0, .int .u64 0, .int .u64 0]).put rfl, ((HB8.out.alloc HB8.out.size _).grown (setCells_grown _ _ _ _) (HB8.out.alloc HB8.out.size _).size (fun k e => by have := Option.some.inj e; have := HB7.out.size; have := HB8.out.size; omega))⟩
           go_wp2_with fail
           go_meet
           exact ⟨_, T2, dn2, rfl, rfl, Lib.hid HT.out.1, HTF8, Lib.hid HT.out.2.2, Lib.hid HT.out.2.1⟩
          ·go_simp
           skip
           refine hK.out _ _ (⟨hS0.1.alloc hS0.1.size _, HBC.out _ (hS0.1.alloc hS0.1.size _)⟩) (fun hSdb15 => ?_)
           try simp only [Act.put, z1, z2, z3]
           refine rr1 (i := 11) (h := fun K hK => ?_)
           go_simp
           refine (HPL.out (w7.drew.alloc (.cells #[.int .i64 0, .int .i64 0, .int .i64 0, .int .i64 0, .bool false, .int .i64 0, .int .i64 0, .int .i64 0, .int .u64 0, .int .u64 0, .int .u64 0, .int .u64 0] 49)) T (HSD.out.below ((Below.refl _ _).alloc (Nat.le_refl _) _))).mono ?_
           rintro e w8 ⟨rfl, dn2, hdn2, T2, hst8, hmo8, hnw8⟩
           have HST8 := Lib.hid hst8
           have HSZ8 : Hid (w7.heap.size + 1 ≤ w8.heap.size) := Lib.hid (by have := hmo8.size; simpa using this)
           have HB8 : Hid (Below w.heap.size w w8) := Lib.hid ((HB7.out.drew.alloc HB7.out.size _).trans (hmo8.toBelow HTF.out (by have := HB7.out.size; simp; omega)))
           have HTF8 : Hid (∀ g, T2 g → w.heap.size ≤ g) := Lib.hid (fun g hg => by
            rcases hnw8 g hg with h9 | h9
            ·exact HTF.out g h9
            ·have := HB7.out.size; simp at h9; omega)
           have HX8 : Hid (Blk w8 w7.heap.size 49 [.int .i64 0, .int .i64 0, .int .i64 0, .int .i64 0, .bool false, .int .i64 0, .int .i64 0, .int .i64 0, .int .u64 0, .int .u64 0, .int .u64 0, .int .u64 0] ∧ ¬ T2 w7.heap.size) := Lib.hid ⟨hmo8.blk (Blk.newAt (g := w7.heap.size) _ _ rfl) (fun hf => by have := HSD.out.lt _ hf; have e9 : w7.drew.heap.size = w7.heap.size := rfl; omega), fun hf => by
            rcases hnw8 _ hf with h9 | h9
            ·have := HSD.out.lt _ h9; have e9 : w7.drew.heap.size = w7.heap.size := rfl; omega
            ·simp at h9; omega⟩
           clear hst8 hmo8 hnw8
           try dsimp only
           refine hK.out _ _ (⟨HB8.out, HBC.out _ HB8.out⟩) (fun hSdb11 => ?_)
           try simp only [Act.put, z1, z2, z3]
           refine rtv (i := 12) (v := ?vdb12) (hy := ?ydb12) (h := ?_)
           case ydb12 => intro w hSw; (try dsimp only at hSw); go_simp; try with_reducible rfl
           try simp only [Act.put, z1, z2, z3]
           refine rtv (i := 13) (v := ?vdb13) (hy := ?ydb13) (h := ?_)
           case ydb13 => intro w hSw; (try dsimp only at hSw); go_simp; try with_reducible rfl
           try simp only [Act.put, z1, z2, z3]
           refine rtv (i := 14) (v := ?vdb14) (hy := ?ydb14) (h := ?_)
           case ydb14 => intro w hSw; (try dsimp only at hSw); go_simp; try with_reducible rfl
           try simp only [Act.put, z1, z2, z3]
           refine rr1 (i := 16) (h := fun K hK => ?_)
           rw [if_pos (by kernel_rfl)]
           refine wp_store_mid 49 (.tmp 18) (.tmp 107) rfl w7.heap.size (0) (encPtr R.p).toArray rfl rfl (blk_there HX8.out.1 (Nat.le_refl 12)) iszPt (all_oneCell_toArray (encPtr_ones R.p)) ?_
           refine hK.out _ _ (⟨(HB8.out.grown (setCells_grown _ _ _ _) HB8.out.size (fun k e => by have := Option.some.inj e; have := HB7.out.size; have := HB8.out.size; omega)), HBC.out _ (HB8.out.grown (setCells_grown _ _ _ _) HB8.out.size (fun k e => by have := Option.some.inj e; have := HB7.out.size; have := HB8.out.size; omega))⟩) (fun hSdb16 => ?_)
           try simp only [Act.put, z1, z2, z3]
           refine rtv (i := 17) (v := ?vdb17) (hy := ?ydb17) (h := ?_)
           case ydb17 => intro w hSw; (try dsimp only at hSw); go_simp; try with_reducible rfl
           try simp only [Act.put, z1, z2, z3]
           refine wpAnyH_done (by kernel_rfl) ?_ _
           have HT : Hid (IsSto (w8.setCells w7.heap.size 0 (encPtr R.p)) sb R.s V bb dn2 T2 ∧ Blk (w8.setCells w7.heap.size 0 (encPtr R.p)) w7.heap.size 49 (encPtr R.p) ∧ Below w.heap.size w (w8.setCells w7.heap.size 0 (encPtr R.p))) := Lib.hid ⟨HST8.out.other HX8.out.1 (by unfold BookTy; decide) HX8.out.2 (setCells_grown _ _ _ _), HX8.out.1.put rfl, (HB8.out.grown (setCells_grown _ _ _ _) HB8.out.size (fun k e => by have := Option.some.inj e; have := HB7.out.size; have := HB8.out.size; omega))⟩
           go_wp2_with fail
           go_meet
           exact ⟨_, T2, dn2, rfl, rfl, Lib.hid HT.out.1, HTF8, Lib.hid HT.out.2.2, Lib.hid HT.out.2.1⟩
         case rest =>
          obtain ⟨gp, T2, dn2, rfl, rfl, HST8, HTF8, HB8, HGP⟩ := hcut
          clear HST7 HB7 HPL
          have e4 : wc.cell? ⟨sb, 4, none⟩ = some (.pointer (some ⟨bb, 0, none⟩)) := HST8.out.cells.cell 4
          by_cases hre : R.err = 0
          ·have z1 := HPP.out.resolve_left (fun h9 => h9.1 hre)
           rw [hre]
           have l12 := fun (op : Oper) (a : Act) (next : Act → World → Prop) (Q : Exit → Act → World → Prop) => loadW_blk (P := Tryz.prog) (t := 49) HGP.out Tryz.underlying49 rfl iszPt op a next Q
           obtain ⟨_, z2, z3, _, z5, z6, _⟩ := z1
           have HGT := Lib.hid (get_whole HST8.out z2 (by omega) (by rw [z6.fixed, HS0.out.2.1]; omega) z3)
           have HSO2 := Lib.hid z2
           have HS2 : Hid (R.s.keep = 0 ∧ R.s.fixed = 0 ∧ R.s.born.length ≤ i + 1) := Lib.hid ⟨by rw [z6.keep]; exact HS0.out.1, by rw [z6.fixed]; exact HS0.out.2.1, by rw [z5, List.length_append]; have := HS0.out.2.2; simp; omega⟩
           clear z2 z3 z5 z6 HPP
           go_wp2_with fail
           refine HGT.out.mono ?_
           rintro e w9 ⟨rfl, dn3, hdn3, T3, hst9, hmo9, hnw9⟩
           have HB9 : Hid (Below w.heap.size w w9) := Lib.hid (HB8.out.trans (hmo9.toBelow HTF8.out HB8.out.size))
           have HTF9 : Hid (∀ g, T3 g → w.heap.size ≤ g) := Lib.hid (fun g hg => by
            rcases hnw9 g hg with h9 | h9
            ·exact HTF8.out g h9
            ·exact Nat.le_trans HB8.out.size h9)
           have HST9 := Lib.hid hst9
           have c9 := (HBC.out w9 HB9.out).1
           clear hst9 hmo9 hnw9 e4 l12 hdn3
           go_wp2_with fail
           go_roundw
           case rel => exact ⟨i + 1, R.s, _, K + 64, T3, dn3, by omega, by go_num, by omega, HST9, HSO2, HS2, HTF9, HB9⟩
           case measure => simp [intOf]; omega
          ·have z1 := HPP.out.resolve_right (fun h9 => hre h9.1)
           obtain ⟨er, her⟩ : ∃ er : Int, er = (R.err : Nat) := ⟨_, rfl⟩
           rw [← her]
           obtain ⟨_, z2, _, z4, z5, _, z7, z8⟩ := z1
           have q2 : er ≠ 0 := by omega
           have q3 : er ≠ 6 := by omega
           have q4 : (er == 0) = false := by simpa using q2
           have q5 : decide (er = 0) = false := decide_eq_false q2
           have q6 : (er != 0) = true := by simpa using q2
           have q7 : (er == 6) = false := by simpa using q3
           have q8 : decide (er = 6) = false := decide_eq_false q3
           have HLF2 := Lib.hid (sleft_any HST8.out)
           rw [z5, ← HLE.out] at HLF2
           have HSO2 := Lib.hid z4
           have HS2 : Hid (R.s.keep = 0 ∧ R.s.fixed = 0 ∧ R.s.born.length ≤ i + 1) := Lib.hid ⟨by rw [z8.keep]; exact HS0.out.1, by rw [z8.fixed]; exact HS0.out.2.1, by rw [z7]; have := HS0.out.2.2; omega⟩
           have q9 : (lf != lf) = false := by simp
           clear z2 z4 z5 z7 z8 HPP her hre
           go_wp2_with fail
           refine HLF2.out.mono ?_
           rintro e w9 ⟨rfl, hb9⟩
           have HST9 := Lib.hid (HST8.out.below hb9)
           have HB9 : Hid (Below w.heap.size w w9) := Lib.hid (HB8.out.trans (hb9.mono HB8.out.size))
           clear hb9 e4
           go_wp2_with fail
           go_roundw
           case rel => exact ⟨i + 1, R.s, L, K, T2, dn2, by omega, by go_num, by omega, HST9, HSO2, HS2, HTF8, HB9⟩
           case measure => simp [intOf]; omega
        ·have q1 : ¬ (i : Int) < ((bn : Nat) : Int) := by omega
         go_wp2_with fail
         go_ret
         exact ⟨rfl, HB6.out⟩
set_option maxHeartbeats 3200000 in
set_option maxRecDepth 100000 in
theorem storeone_zero (gb go_ n gc : Nat) (gs : Gs) (secs : Int) (w : World) (h : GSl w (some ⟨gb, go_, none⟩) n gc gs) (dv : Nat) (hdv : dv ≤ 255) (ao : Option Addr) (bc : Nat) (bl : List BlkT) (hb : BkSl w ao 0 bc bl) (lz : Bool) :
  Calls Tryz.prog 3 #[.agg #[.slice (some ⟨gb, go_, none⟩) n gc, .int .i64 secs], .int .u8 (dv : Nat), .slice ao 0 bc, .bool lz] w fun e w' => e = .returned (.bool true) ∧ Below w.heap.size w w' := by
 have hl := h.len
 have hbl := hb.len
 have hbmx : 0 ≤ maxLen := Nat.le_trans hb.2.1 hb.2.2.1
 obtain ⟨w0, hw0⟩ : ∃ w0, w0 = w.alloc (.cells #[.slice (some ⟨gb, go_, none⟩) n gc, .int .i64 secs] 24) := ⟨_, rfl⟩
 have hb0 : Below w.heap.size w w0 := by rw [hw0]; exact (Below.refl _ _).alloc (Nat.le_refl _) _
 have hg0 : Blk w0 w.heap.size 24 [.slice (some ⟨gb, go_, none⟩) n gc, .int .i64 secs] := by rw [hw0]; exact Blk.new w _ _
 have hs0 : w0.heap.size = w.heap.size + 1 := by rw [hw0]; simp
 have HAW := Lib.hid awake15_any
 have HFEW : Hid (∀ W, Below w.heap.size w W → Calls Tryz.prog 8 #[.slice ao 0 bc] W fun e w' => e = .returned (.bool (fewS bl)) ∧ w' = W) := Lib.hid (fun W hW => few15_any _ _ bc bl W (RSl.below hb hW) (by unfold maxLen at hbmx; omega))
 have HRR : Hid (∀ W, Below w.heap.size w W → Calls Tryz.prog 9 #[.agg #[.slice (some ⟨gb, go_, none⟩) n gc, .int .i64 secs]] W fun e w' => e = .returned (.bool (rightB gs secs)) ∧ Below W.heap.size W w') := Lib.hid (fun W hW => refright_any _ _ _ gs secs W (h.below hW))
 have HG := Lib.hid h
 have HBK := Lib.hid hb
 have HB0 := Lib.hid hb0
 have HG0 := Lib.hid hg0
 have HL := Lib.hid hl
 have HBL := Lib.hid hbl
 obtain ⟨fw, hfw⟩ : ∃ fw, fw = fewS bl := ⟨_, rfl⟩
 obtain ⟨rt, hrt⟩ : ∃ rt, rt = rightB gs secs := ⟨_, rfl⟩
 rw [← hfw] at HFEW
 rw [← hrt] at HRR
 have HFW := Lib.hid hfw
 have HRT := Lib.hid hrt
 clear h hb hl hbl hb0 hg0 hfw hrt hbmx
 go_enter Tryz.func3, Tryz.ntmps3
 go_upto_region 1 with fail
 rw [← hw0]
 clear hw0
 go_wp2_with fail
 refine (HAW.out w0).mono ?_
 rintro e w1 ⟨rfl, hb1⟩
 have HB1 : Hid (Below w.heap.size w w1) := Lib.hid (HB0.out.trans (hb1.mono (by omega)))
 have HG1 := Lib.hid (HG0.out.below hb1)
 have hs1 : w.heap.size + 1 ≤ w1.heap.size := by have := hb1.size; omega
 clear hb1 HG0 HB0
 cases fw with
 | false =>
  go_wp2_with fail
  refine (HFEW.out w1 HB1.out).mono ?_
  rintro e w2 ⟨rfl, rfl⟩
  go_wp2_with fail
  refine (HAW.out w2).mono ?_
  rintro e w3 ⟨rfl, hb3⟩
  have HB3 : Hid (Below w.heap.size w w3) := Lib.hid (HB1.out.trans (hb3.mono (by omega)))
  clear hb3
  go_wp2_with fail
  go_ret
  exact ⟨rfl, HB3.out⟩
 | true =>
  go_wp2_with fail
  refine (HFEW.out w1 HB1.out).mono ?_
  rintro e w2 ⟨rfl, hw2⟩
  subst hw2
  have c0 := HG1.out.cell 0
  have c1 := HG1.out.cell 1
  go_wp2_with fail
  refine (HRR.out w2 HB1.out).mono ?_
  rintro e w3 ⟨rfl, hb3⟩
  have HB3 : Hid (Below w.heap.size w w3) := Lib.hid (HB1.out.trans (hb3.mono (by omega)))
  have HG3 := Lib.hid (HG1.out.below hb3)
  have hs3 : w.heap.size + 1 ≤ w3.heap.size := by have := hb3.size; omega
  clear hb3 HB1 HG1 c0 c1
  cases rt with
  | false =>
   go_wp2_with fail
   refine (HAW.out w3).mono ?_
   rintro e w4 ⟨rfl, hb4⟩
   have HB4 : Hid (Below w.heap.size w w4) := Lib.hid (HB3.out.trans (hb4.mono (by omega)))
   clear hb4
   go_wp2_with fail
   go_ret
   exact ⟨rfl, HB4.out⟩
  | true =>
   obtain ⟨fl0, hfl0⟩ : ∃ fl0, fl0 = List.replicate 40 false := ⟨_, rfl⟩
   have HFL0 : Hid (fl0 = flagsK gs dv 0) := Lib.hid hfl0
   have hmk := make_bools 40 (by omega) w3
   rw [← hfl0] at hmk
   have hmk2 : (Instr.makeSlice 29 (.int .i64 40) (.int .i64 40)).run Tryz.prog w3 = .ok (.slice (some ⟨w3.heap.size, 0, none⟩) 40 40) (w3.alloc (.cells (boolsV fl0).toArray 4)) := hmk
   clear hmk hfl0
   go_upto_region 4 with fail
   obtain ⟨w4, hw4⟩ : ∃ w4, w4 = w3.alloc (.cells (boolsV fl0).toArray 4) := ⟨_, rfl⟩
   obtain ⟨fb, hfb⟩ : ∃ fb, fb = w3.heap.size := ⟨_, rfl⟩
   have hb4 : Below w3.heap.size w3 w4 := by rw [hw4]; exact (Below.refl _ _).alloc (Nat.le_refl _) _
   have HF4 : Hid (Blk w4 fb 4 (boolsV (flagsK gs dv 0))) := Lib.hid (by rw [hw4, hfb, ← HFL0.out]; exact Blk.new w3 _ (boolsV fl0))
   have HB4 : Hid (Below w.heap.size w w4) := Lib.hid (HB3.out.trans (hb4.mono (by omega)))
   have HG4 := Lib.hid (HG3.out.below hb4)
   have hs4 : w.heap.size + 1 ≤ fb := by omega
   rw [← hw4, ← hfb]
   clear hw4 hfb hb4 HB3 HG3 hmk2 HFL0
   have hn4 : n ≤ 4 ∧ 1 ≤ n := by have := rightB_spec HRT.out.symm; have := HL.out; omega
   have c4 : w4.cell? ⟨w.heap.size, 0, none⟩ = some (.slice (some ⟨gb, go_, none⟩) n gc) := HG4.out.cell 0
   go_wp2_with fail
   clear c4
   go_loopw [10, 11] (fun va vi wr => ∃ k : Nat, k ≤ n ∧ vi = .int .i64 (k : Nat) ∧ va = .int .i64 ((wsum gs k).toNat : Nat) ∧ Hid (Blk wr fb 4 (boolsV (flagsK gs dv k))) ∧ Hid (∀ g, g < k → 2 ≤ (gs.getD g (0, 0)).2) ∧ Hid (Blk wr w.heap.size 24 [.slice (some ⟨gb, go_, none⟩) n gc, .int .i64 secs]) ∧ Hid (Below w.heap.size w wr)) (fun _ vi _ => n - (intOf vi).toNat)
   case atStart => exact ⟨0, by omega, rfl, rfl, HF4, Lib.hid (fun g hg => absurd hg (by omega)), HG4, HB4⟩
   case round =>
    obtain ⟨k, hk, rfl, rfl, HFL, HW2, HGR, HBR⟩ := hrel
    clear HF4 HG4 HB4
    have c4 : wr.cell? ⟨w.heap.size, 0, none⟩ = some (.slice (some ⟨gb, go_, none⟩) n gc) := HGR.out.cell 0
    by_cases hkn : k < n
    ·have q1 : (k : Int) < (n : Int) := by omega
     have q0 : 0 ≤ (k : Int) := by omega
     have hkg : k < gs.length := by have := HL.out; omega
     have hgk := getD_right HRT.out.symm hkg
     obtain ⟨wd, hwd⟩ : ∃ wd, wd = (gs.getD k (0, 0)).2.toNat := ⟨_, rfl⟩
     have hwd2 : (gs.getD k (0, 0)).2 = (wd : Nat) := by omega
     have hcel : wr.cell? ⟨gb, go_ + k * 2 + 1, none⟩ = some (.int .i64 (wd : Nat)) := by
      have h9 := HG.out.below HBR.out
      obtain ⟨b, off, e, hb, hc⟩ := h9.2.2.2.2 (by omega)
      simp only [Option.some.injEq, Addr.mk.injEq, and_true] at e
      obtain ⟨rfl, rfl⟩ := e
      rw [Nat.add_assoc, hc _ (by omega), ← hwd2]
      exact (encG_get gs k hkg).2
     have HWD := Lib.hid hwd2
     have HWT := Lib.hid hwd
     have HKG := Lib.hid hkg
     have hw8 : 1 ≤ wd ∧ wd ≤ 8 := by omega
     have hst := wsum_stepS hkg
     have hwb := (wsum_bd HRT.out.symm k (by omega))
     have HST : Hid ((wsum gs (k + 1)).toNat = (wsum gs k).toNat + wd) := Lib.hid (by omega)
     have hwb2 : (wsum gs k).toNat + wd ≤ 32 := by have := (wsum_bd HRT.out.symm (k + 1) (by omega)).2; omega
     clear hwd hwd2 hgk hkg hst hwb
     by_cases hw2 : wd < 2
     ·have q2 : (wd : Int) < 2 := by omega
      go_wp2_with fail
      go_ret
      exact ⟨rfl, HBR.out⟩
     ·have q2 : ¬ (wd : Int) < 2 := by omega
      obtain ⟨P, hP⟩ : ∃ P, P = (wsum gs k).toNat := ⟨_, rfl⟩
      rw [← hP] at hwb2 HST ⊢
      obtain ⟨D, hD⟩ : ∃ D, D = dv % wd := ⟨_, rfl⟩
      have hDl : D < wd := by rw [hD]; exact Nat.mod_lt _ (by omega)
      have q3 : ¬ (wd : Int) = 0 := by omega
      have e1 : (dv : Int).tmod (wd : Int) = (D : Nat) := by rw [hD, Int.tmod_eq_emod_of_nonneg (by omega)]; omega
      have e2 : IntKind.i64.wrap (D : Int) = (D : Int) := IntWalk.i64_in _ (by omega)
      have e3 : IntKind.i64.wrap ((P : Int) + (D : Int)) = ((P + D : Nat) : Int) := by rw [IntWalk.i64_in _ (by omega)]; omega
      have e4 : IntKind.i64.wrap (dv : Int) = (dv : Int) := IntWalk.i64_in _ (by omega)
      have HP := Lib.hid hP
      have HD := Lib.hid hD
      have q4 : ((P + D : Nat) : Int) < 40 := by omega
      have hfl : P + D < (flagsK gs dv k).length := by rw [flagsK_len]; omega
      have t1 : wr.cell? ⟨fb, P + D, none⟩ = some (.bool ((flagsK gs dv k).getD (P + D) false)) := by
       rw [HFL.out.cell]
       simp [boolsV, List.getD_eq_getElem?_getD, hfl]
      have f1 := HFL.out.frozen (P + D)
      have hgb : gb < w.heap.size := by
       obtain ⟨b, off, e, hb, _⟩ := HG.out.2.2.2.2 (by omega)
       simp only [Option.some.injEq, Addr.mk.injEq, and_true] at e
       omega
      have c5 : (wr.setCell ⟨fb, P + D, none⟩ (.bool true)).cell? ⟨w.heap.size, 0, none⟩ = some (.slice (some ⟨gb, go_, none⟩) n gc) := (HGR.out.other (a := ⟨fb, P + D, none⟩) (by show w.heap.size ≠ fb; omega) _).cell 0
      have c6 : (wr.setCell ⟨fb, P + D, none⟩ (.bool true)).cell? ⟨gb, go_ + k * 2 + 1, none⟩ = some (.int .i64 (wd : Nat)) := by
       rw [World.cell?_of_block (w := wr) (Below.heap_setCell _ _ _ _ (show gb ≠ fb by omega))]
       exact hcel
      have e5 : IntKind.i64.wrap ((P : Int) + (wd : Int)) = ((P + wd : Nat) : Int) := by rw [IntWalk.i64_in _ (by omega)]; omega
      clear hP hD hfl hgb
      go_wp2_with fail
      go_roundw
      case rel =>
       refine ⟨k + 1, by omega, by go_num, ?_, Lib.hid ?_, Lib.hid (fun g hg => ?_), Lib.hid (HGR.out.other (a := ⟨fb, P + D, none⟩) (by show w.heap.size ≠ fb; omega) _), Lib.hid (HBR.out.setCell (by show w.heap.size ≤ fb; omega) _)⟩
       ·rw [HST.out]; go_num
       ·have e9 : flagsK gs dv (k + 1) = (flagsK gs dv k).set (P + D) true := by
         show (flagsK gs dv k).set (flagP gs dv k) true = _
         unfold flagP
         rw [← HP.out, ← HWT.out, ← HD.out]
        rw [e9, show boolsV ((flagsK gs dv k).set (P + D) true) = (boolsV (flagsK gs dv k)).set (P + D) (.bool true) by simp [boolsV, List.map_set]]
        exact HFL.out.setCell (P + D) _
       ·rcases Nat.lt_or_ge g k with h9 | h9
        ·exact HW2.out g h9
        ·have e9 : g = k := by omega
         subst e9
         rw [HWD.out]; omega
      case measure => simp [intOf]; omega
    ·have hkn' : k = n := by omega
     subst hkn'
     obtain ⟨P, hP⟩ : ∃ P, P = (wsum gs k).toNat := ⟨_, rfl⟩
     rw [← hP]
     clear hP
     have q1 : ¬ (k : Int) < (k : Int) := by omega
     have hkl : k = gs.length := HL.out.symm
     have hrow : BSl wr (some ⟨fb, 0, none⟩) 40 40 (flagsK gs dv gs.length) := by
      rw [← hkl]
      have h9 := rsl_of_owns (blk_owns (base := 0) (n := 40) (cap := 40) (size := 1) HFL.out (Nat.zero_le _) (Nat.le_refl _) (by unfold maxLen; omega) (by simp [boolsV, flagsK_len]))
      rw [List.take_of_length_le (by simp [boolsV, flagsK_len])] at h9
      exact h9
     have HOA : Hid (OneOut gs (flagsK gs dv gs.length) []) := Lib.hid (flags_one HRT.out.symm dv (by rw [← hkl]; exact HW2.out) (fun d hd => by rcases hd with hd | hd; exact hd; simp at hd))
     have HOB : Hid (OneOut gs [] (flagsK gs dv gs.length)) := Lib.hid (flags_one HRT.out.symm dv (by rw [← hkl]; exact HW2.out) (fun d hd => by rcases hd with hd | hd; simp at hd; exact hd))
     have HROW := Lib.hid hrow
     clear hrow hkl HW2 HFL
     go_upto_if 72 with fail
     go_cut [12, 13] (fun v12 v13 wx => ∃ al ll a1 n1 c1 a2 n2 c2, v12 = .slice a1 n1 c1 ∧ v13 = .slice a2 n2 c2 ∧ wx = wr ∧ Hid (BSl wr a1 n1 c1 al) ∧ Hid (BSl wr a2 n2 c2 ll) ∧ Hid (OneOut gs al ll))
     case first =>
      cases lz with
      | true =>
       go_wp2_with fail
       go_meet
       exact ⟨_, _, _, _, _, _, _, _, rfl, rfl, rfl, Lib.hid (bsl_nil _), HROW, HOB⟩
      | false =>
       go_wp2_with fail
       go_meet
       exact ⟨_, _, _, _, _, _, _, _, rfl, rfl, rfl, HROW, Lib.hid (bsl_nil _), HOA⟩
     case rest =>
      obtain ⟨al, ll, a1, n1, c1, a2, n2, c2, rfl, rfl, rfl, HA1, HA2, HOO⟩ := hcut
      clear HOA HOB HROW
      have hgr : GSl wc (some ⟨gb, go_, none⟩) k gc gs := HG.out.below HBR.out
      have hrt : rightB gs secs = true := HRT.out.symm
      have HMN : Hid (devOk gs secs = false → Calls Tryz.prog 10 #[.agg #[.slice (some ⟨gb, go_, none⟩) k gc, .int .i64 secs], .slice a1 n1 c1, .slice a2 n2 c2, .int .i64 3, .int .i64 0] wc fun e w' => e = .returned (.tuple #[.pointer none, .bool false]) ∧ Below wc.heap.size wc w') := Lib.hid (fun hok => made_no _ _ gc gs secs wc hgr _ _ 3 0 hok (by omega))
      have HMY : Hid (devOk gs secs = true → Calls Tryz.prog 10 #[.agg #[.slice (some ⟨gb, go_, none⟩) k gc, .int .i64 secs], .slice a1 n1 c1, .slice a2 n2 c2, .int .i64 3, .int .i64 0] wc fun e w' => ∃ sb bb V T S, e = .returned (.tuple #[.pointer (some ⟨sb, 0, none⟩), .bool true]) ∧ IsSto w' sb S V bb none T ∧ StOk S [] 0 ∧ (S.keep = 0 ∧ S.fixed = 0 ∧ S.born = []) ∧ (∀ g, T g → wc.heap.size ≤ g) ∧ Below wc.heap.size wc w') := Lib.hid (fun hok => (made_yes _ _ gc gs secs wc hgr a1 n1 c1 al HA1.out a2 n2 c2 ll HA2.out 3 0 hok).mono (fun e w' hh => by
       obtain ⟨sb, bb, V, T, sn, r1, r2, r3, r4, r5, r6⟩ := hh
       exact ⟨sb, bb, V, T, _, r1, r2, newSt_ok hrt HOO.out r3 r4, ⟨rfl, rfl, rfl⟩, r5, r6⟩))
      obtain ⟨dk, hdk⟩ : ∃ dk, dk = devOk gs secs := ⟨_, rfl⟩
      rw [← hdk] at HMN HMY
      have HG5 := Lib.hid HGR.out
      have g0 := HGR.out.cell 0
      have g1 := HGR.out.cell 1
      clear hgr hrt hdk HA1 HA2 HOO
      cases dk with
      | false =>
       go_wp2_with fail
       refine (HMN.out (by first | trivial | rfl)).mono ?_
       rintro e w6 ⟨rfl, hb6⟩
       have HB6 : Hid (Below w.heap.size w w6) := Lib.hid (HBR.out.trans (hb6.mono HBR.out.size))
       clear hb6
       go_wp2_with fail
       go_ret
       exact ⟨rfl, HB6.out⟩
      | true =>
       go_wp2_with fail
       refine (HMY.out (by first | trivial | rfl)).mono ?_
       rintro e w6 ⟨sb, bb, V, T, S, rfl, hst, hso, hs0, htf, hb6⟩
       have HST := Lib.hid hst
       have HSO := Lib.hid hso
       have HS0 := Lib.hid hs0
       have HTF : Hid (∀ g, T g → w.heap.size ≤ g) := Lib.hid (fun g hg => Nat.le_trans HBR.out.size (htf g hg))
       have HB6 : Hid (Below w.heap.size w w6) := Lib.hid (HBR.out.trans (hb6.mono HBR.out.size))
       have HBT : Hid (¬ T w.heap.size ∧ Blk w6 w.heap.size 24 [.slice (some ⟨gb, go_, none⟩) k gc, .int .i64 secs]) := Lib.hid ⟨fun hf => by have := htf _ hf; have := HGR.out.lt; omega, HGR.out.below hb6⟩
       have hbn30 : 0 ≤ 30 := by
        have h9 := HFW.out
        unfold fewS at h9
        have h8 := h9.symm
        rw [Bool.and_eq_true, decide_eq_true_eq] at h8
        rw [← HBL.out]
        exact h8.1
       clear hst hso hs0 htf hb6 HMN HMY g0 g1
       go_wp2_with fail
       go_loopw [16] (fun vi wr => ∃ (k : Nat) (S : StoT) (L : List St) (K : Nat) (T : Nat → Prop) (dn : Option Nat), k ≤ 0 ∧ vi = .int .i64 (k : Nat) ∧ K ≤ 64 * k ∧ Hid (IsSto wr sb S V bb dn T) ∧ Hid (StOk S L K) ∧ Hid (S.keep = 0 ∧ S.fixed = 0 ∧ S.born.length ≤ k) ∧ Hid (∀ g, T g → w.heap.size ≤ g) ∧ Hid (Below w.heap.size w wr)) (fun vi _ => 0 - (intOf vi).toNat)
       case atStart => exact ⟨0, S, [], 0, T, none, by omega, rfl, by omega, HST, HSO, Lib.hid ⟨HS0.out.1, HS0.out.2.1, by rw [HS0.out.2.2]; exact Nat.zero_le _⟩, HTF, HB6⟩
       case round =>
        clear HST HSO HS0 HTF HB6 HBT
        obtain ⟨i, S, L, K, T, dn, hi, rfl, hK, HST, HSO, HS0, HTF, HB6⟩ := hrel
        have q1 : ¬ (i : Int) < 0 := by omega
        go_wp2_with fail
        go_ret
        exact ⟨rfl, HB6.out⟩
set_option maxHeartbeats 3200000 in
set_option maxRecDepth 100000 in
theorem storeone_bad (ga : Option Addr) (n gc : Nat) (gs : Gs) (secs : Int) (w : World) (h : GSl w ga n gc gs) (dv : Nat) (hdv : dv ≤ 255) (ao : Option Addr) (bn : Nat) (bc : Nat) (bl : List BlkT) (hb : BkSl w ao bn bc bl) (hno : rightB gs secs = false) (lz : Bool) :
  Calls Tryz.prog 3 #[.agg #[.slice ga n gc, .int .i64 secs], .int .u8 (dv : Nat), .slice ao bn bc, .bool lz] w fun e w' => e = .returned (.bool true) ∧ Below w.heap.size w w' := by
 have hl := h.len
 have hbl := hb.len
 have hbmx : bn ≤ maxLen := Nat.le_trans hb.2.1 hb.2.2.1
 obtain ⟨w0, hw0⟩ : ∃ w0, w0 = w.alloc (.cells #[.slice ga n gc, .int .i64 secs] 24) := ⟨_, rfl⟩
 have hb0 : Below w.heap.size w w0 := by rw [hw0]; exact (Below.refl _ _).alloc (Nat.le_refl _) _
 have hg0 : Blk w0 w.heap.size 24 [.slice ga n gc, .int .i64 secs] := by rw [hw0]; exact Blk.new w _ _
 have hs0 : w0.heap.size = w.heap.size + 1 := by rw [hw0]; simp
 have HAW := Lib.hid awake15_any
 have HFEW : Hid (∀ W, Below w.heap.size w W → Calls Tryz.prog 8 #[.slice ao bn bc] W fun e w' => e = .returned (.bool (fewS bl)) ∧ w' = W) := Lib.hid (fun W hW => few15_any _ _ bc bl W (RSl.below hb hW) (by unfold maxLen at hbmx; omega))
 have HRR : Hid (∀ W, Below w.heap.size w W → Calls Tryz.prog 9 #[.agg #[.slice ga n gc, .int .i64 secs]] W fun e w' => e = .returned (.bool (rightB gs secs)) ∧ Below W.heap.size W w') := Lib.hid (fun W hW => refright_any _ _ _ gs secs W (h.below hW))
 have HG := Lib.hid h
 have HBK := Lib.hid hb
 have HB0 := Lib.hid hb0
 have HG0 := Lib.hid hg0
 have HL := Lib.hid hl
 have HBL := Lib.hid hbl
 obtain ⟨fw, hfw⟩ : ∃ fw, fw = fewS bl := ⟨_, rfl⟩
 obtain ⟨rt, hrt⟩ : ∃ rt, rt = rightB gs secs := ⟨_, rfl⟩
 rw [← hfw] at HFEW
 rw [← hrt] at HRR
 have HFW := Lib.hid hfw
 have HRT := Lib.hid hrt
 clear h hb hl hbl hb0 hg0 hfw hrt hbmx
 go_enter Tryz.func3, Tryz.ntmps3
 go_upto_region 1 with fail
 rw [← hw0]
 clear hw0
 go_wp2_with fail
 refine (HAW.out w0).mono ?_
 rintro e w1 ⟨rfl, hb1⟩
 have HB1 : Hid (Below w.heap.size w w1) := Lib.hid (HB0.out.trans (hb1.mono (by omega)))
 have HG1 := Lib.hid (HG0.out.below hb1)
 have hs1 : w.heap.size + 1 ≤ w1.heap.size := by have := hb1.size; omega
 clear hb1 HG0 HB0
 cases fw with
 | false =>
  go_wp2_with fail
  refine (HFEW.out w1 HB1.out).mono ?_
  rintro e w2 ⟨rfl, rfl⟩
  go_wp2_with fail
  refine (HAW.out w2).mono ?_
  rintro e w3 ⟨rfl, hb3⟩
  have HB3 : Hid (Below w.heap.size w w3) := Lib.hid (HB1.out.trans (hb3.mono (by omega)))
  clear hb3
  go_wp2_with fail
  go_ret
  exact ⟨rfl, HB3.out⟩
 | true =>
  go_wp2_with fail
  refine (HFEW.out w1 HB1.out).mono ?_
  rintro e w2 ⟨rfl, hw2⟩
  subst hw2
  have c0 := HG1.out.cell 0
  have c1 := HG1.out.cell 1
  go_wp2_with fail
  refine (HRR.out w2 HB1.out).mono ?_
  rintro e w3 ⟨rfl, hb3⟩
  have HB3 : Hid (Below w.heap.size w w3) := Lib.hid (HB1.out.trans (hb3.mono (by omega)))
  have HG3 := Lib.hid (HG1.out.below hb3)
  have hs3 : w.heap.size + 1 ≤ w3.heap.size := by have := hb3.size; omega
  clear hb3 HB1 HG1 c0 c1
  cases rt with
  | false =>
   go_wp2_with fail
   refine (HAW.out w3).mono ?_
   rintro e w4 ⟨rfl, hb4⟩
   have HB4 : Hid (Below w.heap.size w w4) := Lib.hid (HB3.out.trans (hb4.mono (by omega)))
   clear hb4
   go_wp2_with fail
   go_ret
   exact ⟨rfl, HB4.out⟩
  | true => exact absurd (HRT.out.trans hno) (by decide)
theorem storeone_any (ga : Option Addr) (n gc : Nat) (gs : Gs) (secs : Int) (w : World) (h : GSl w ga n gc gs) (dv : Nat) (hdv : dv ≤ 255) (ao : Option Addr) (bn bc : Nat) (bl : List BlkT) (hb : BkSl w ao bn bc bl) (lz : Bool) :
  Calls Tryz.prog 3 #[.agg #[.slice ga n gc, .int .i64 secs], .int .u8 (dv : Nat), .slice ao bn bc, .bool lz] w fun e w' => e = .returned (.bool true) ∧ Below w.heap.size w w' := by
 by_cases hr : rightB gs secs = true
 ·have hn := (rightB_spec hr).1
  have hl := h.len
  obtain ⟨b, off, e, _⟩ := h.2.2.2.2 (by omega)
  subst e
  rcases Nat.eq_zero_or_pos bn with h0 | h0
  ·subst h0
   exact storeone_zero b off n gc gs secs w h dv hdv ao bc bl hb lz
  ·obtain ⟨b2, off2, e2, _⟩ := hb.2.2.2.2 h0
   subst e2
   exact storeone_pos b off n gc gs secs w h dv hdv b2 off2 bn bc bl hb h0 lz
 ·exact storeone_bad ga n gc gs secs w h dv hdv ao bn bc bl hb (by simpa using hr) lz
end Go.Proofs.YtfaemcfjbbbbdaaGreat
namespace Go.Proofs.YtfaemcfjbbbbdaaGreat
open Go.RowKit Go.ChangeShapes Go.WideShapes Go.Deep
instance : Inhabited BlkT := ⟨bkD⟩
section
variable {H : Type} {enc : TypeId × Value → H} {W : World} {base : Nat} {spare : Nat → Bool} {held : Bool}
set_option maxRecDepth 100000 in
theorem open_blocks {a : Option Addr} {len cap : Nat} {d : DataW H} {p : List MemPlace} (h : DataW.Trod enc Tryz.prog W base spare held 25 (.slice a len cap) d p) : ∃ zs, BkSl W a len cap zs := by
 obtain ⟨g, hg, hf⟩ := open_flat (n := 9) (K := 3) (ks := [.str, .int .i64, .bool]) Tryz.underlying25 (by kernel_rfl) rfl (by kernel_rfl) (by omega) h
 have each : ∀ i, i < len → ∃ r : BlkT, g i = encBk r := by
  intro i hi
  have := hf i hi
  match g i, fits_length this, this with
  | [v0, v1, v2], _, h =>
   obtain ⟨⟨x0, rfl⟩, ⟨x1, rfl, _⟩, ⟨x2, rfl⟩, _⟩ := h
   exact ⟨⟨x0.data.toList, x1, x2⟩, by simp [encBk]⟩
 obtain ⟨q, hq⟩ := choose_lt each
 refine ⟨(List.range len).map q, ?_⟩
 have : ((List.range len).map g).flatten = encBs ((List.range len).map q) := by
  unfold encBs
  rw [List.flatMap_def, List.map_map]
  congr 1
  apply List.map_congr_left
  intro i hi
  exact hq i (List.mem_range.1 hi)
 unfold BkSl
 rw [← this]
 exact hg
end
theorem storeone_law (ga : Option Addr) (gn gc : Nat) (gs : Gs) (secs : Int) (dv : Int) (ao : Option Addr) (bn bc : Nat) (bl : List BlkT) (lz : Bool) (w : World) (h : GSl w ga gn gc gs) (hdv : 0 ≤ dv ∧ dv ≤ 255) (hb : BkSl w ao bn bc bl) :
  Calls Tryz.prog 3 #[.agg #[.slice ga gn gc, .int .i64 secs], .int .u8 dv, .slice ao bn bc, .bool lz] w fun e w' => e = .returned (.bool true) ∧ Below w.heap.size w w' := by
 obtain ⟨d, rfl⟩ : ∃ d : Nat, dv = (d : Nat) := ⟨dv.toNat, by omega⟩
 exact storeone_any ga gn gc gs secs w h d (by omega) ao bn bc bl hb lz
end Go.Proofs.YtfaemcfjbbbbdaaGreat
