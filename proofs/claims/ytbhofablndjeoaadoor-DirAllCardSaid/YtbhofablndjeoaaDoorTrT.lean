/- The walks of tree.grown, lowered. -/
import Derived.Test.YtbhofablndjeoaaDoorTrR
namespace Go.Proofs.YtbhofablndjeoaaDoor
open Go.RowKit
set_option linter.unusedSimpArgs false
set_option linter.unusedVariables false
attribute [local go_sem ↓] wp_loadPt wp_storePt wp_loadA4 wp_storeA4 wp_binA4 wp_loadNd wp_storeNd

def NdR : Except Nat NodeT → Ending → Prop
  | .ok n, e => e = .returned (.tuple #[.agg (encN n).toArray, .int .i64 0]) ∧ n.wf
  | .error k, e => e = .returned (.tuple #[.agg (encN nD).toArray, .int .i64 (k : Nat)]) ∧ k ≠ 0
def ndV : Except Nat NodeT → NodeT
  | .ok p => p
  | .error _ => nD
theorem NdR.val {r : Except Nat NodeT} {e : Ending} (h : NdR r e) : e = .returned (.tuple #[.agg (encN (ndV r)).toArray, .int .i64 (errV r : Nat)]) := by
  cases r with
  | ok p => exact h.1
  | error n => exact h.1
theorem NdR.two {r : Except Nat NodeT} {e : Ending} (h : NdR r e) : (∃ n, r = .error n ∧ n ≠ 0) ∨ ∃ q, r = .ok q ∧ q.wf := by
  cases r with
  | ok p => exact .inr ⟨p, rfl, h.2⟩
  | error n => exact .inl ⟨n, rfl, h.2⟩
section
variable {σ : Type} {S : StF σ} {ty : TypeId} {a : Addr} {C : StoreC S ty a}
/-- where a walk of lowered stands -/
structure LowI (C : StoreC S ty a) (F : Nat → Prop) (w wr : World) (k : Nat) (p : PtrT) (s1 : σ) (R : Except Nat PtrT × σ) (F1 : Nat → Prop) : Prop where
  wf : p.wf
  eq : loweredM S k p s1 = R
  at_ : C.At F s1 w wr F1
  bp : Blk wr w.heap.size 35 (encPtr p)
  br : Blk wr (w.heap.size + 1) 35 (encPtr pD)
  f0 : ¬ F1 w.heap.size
  f1 : ¬ F1 (w.heap.size + 1)
set_option maxHeartbeats 2000000 in
set_option maxRecDepth 100000 in
theorem lowered_any {w : World} {s : σ} {F : Nat → Prop} (h : C.Is w s F) (p : PtrT) (hp : p.wf) (k tt : Nat) (hk : k + tt ≤ 3) (hok : C.Ok (loweredM S k p s).2) :
    Calls Tryd.prog 37 #[.iface ty (.pointer (some a)), .agg (encPtr p).toArray, .int .i64 ((k + tt : Nat) : Int), .int .i64 (tt : Nat)] w fun e w' => PutR (loweredM S k p s).1 e ∧ C.Step F (loweredM S k p s).2 w w' := by
  obtain ⟨w0, hw0⟩ : ∃ w0, w0 = (w.alloc (.cells (encPtr p).toArray 35)).alloc (.cells (encPtr pD).toArray 35) := ⟨_, rfl⟩
  have hb : Blk w0 w.heap.size 35 (encPtr p) := by rw [hw0]; exact (Blk.new w _ _).alloc _
  have hr : Blk w0 (w.heap.size + 1) 35 (encPtr pD) := by rw [hw0]; exact Blk.newAt (w := w.alloc _) _ _ (by simp)
  have hbel : Below w.heap.size w w0 := by rw [hw0]; exact ((Below.refl _ _).alloc (Nat.le_refl _) _).alloc (by simp) _
  have h0 : ¬ F w.heap.size := fun hf => by have := C.lt h _ hf; omega
  have h1 : ¬ F (w.heap.size + 1) := fun hf => by have := C.lt h _ hf; omega
  obtain ⟨R, hR⟩ : ∃ R, loweredM S k p s = R := ⟨_, rfl⟩
  have HI : Hid (LowI C F w w0 k p s R F) := Lib.hid ⟨hp, hR, (StoreC.At.start h).below hbel, hb, hr, h0, h1⟩
  rw [hR] at hok ⊢
  have HOK := Lib.hid hok
  clear hb hr hbel h0 h1 hok hR hp
  go_enter Tryd.func37, Tryd.ntmps37
  go_upto_block 0 with fail
  rw [show (w.alloc (.cells (encPtr p).toArray 35)).alloc (.cells #[.int .i64 0, .int .i64 0, .int .i64 0, .int .i64 0, .bool false, .int .i64 0, .int .i64 0, .int .i64 0, .int .u64 0, .int .u64 0, .int .u64 0, .int .u64 0] 35) = w0 from hw0.symm]
  clear hw0
  go_wp2_with fail
  go_loopw [2] (fun lv wr => ∃ (k : Nat) (p : PtrT) (s1 : σ) (F1 : Nat → Prop), lv = .int .i64 ((k + tt : Nat) : Int) ∧ k + tt ≤ 3 ∧ Hid (LowI C F w wr k p s1 R F1)) (fun lv _ => (intOf lv).toNat)
  case atStart => exact ⟨k, p, s, F, by go_num, hk, HI⟩
  case round =>
    clear HI
    obtain ⟨k, p, s1, F1, rfl, hk3, HI⟩ := hrel
    have hpw := HI.out.wf
    have hld := fun op a next Q => loadW_blk (P := Tryd.prog) HI.out.bp Tryd.underlying35 rfl iszPt op a next Q
    cases k with
    | zero =>
      have hst := fun op a next Q => storeW_part (P := Tryd.prog) (t := 35) (o := 0) (cs := encPtr p) HI.out.br (Nat.le_refl 12) iszPt (encPtr_ones p) op a next Q
      have HB2 := Lib.hid (HI.out.br.put (vs := encPtr p) rfl)
      have HA2 := Lib.hid (HI.out.at_.put (o := 0) (vs := encPtr p) (Nat.le_succ _) HI.out.f1)
      have hRe := HI.out.eq
      have HRE : Hid ((.ok p, s1) = R) := Lib.hid hRe
      have hx : ¬ ((tt : Int) < ((0 + tt : Nat) : Int)) := by omega
      clear hRe
      go_wp2_with fail
      refine bodyPost_ret (res_cell_tmp rfl _ _ (w.heap.size + 1) 35 _ _ rfl HB2.out Tryd.underlying35 rfl iszPt) rfl ?_
      rw [← HRE.out]
      exact ⟨⟨rfl, hpw⟩, HA2.out.fin⟩
    | succ k =>
      have hx : ((tt : Int) < ((k + 1 + tt : Nat) : Int)) := by omega
      by_cases hn : isNone p = true
      · have hRe := HI.out.eq
        rw [loweredM, if_pos hn] at hRe
        have HRE : Hid ((.ok p, s1) = R) := Lib.hid hRe
        have HN := Lib.hid hn
        clear hRe hn
        go_wp2_with fail
        refine (None_any p hpw wr).mono ?_
        rintro e w1 ⟨rfl, hb1⟩
        rw [HN.out]
        have hbp := HI.out.bp.below hb1
        have hbr := HI.out.br.below hb1
        have hat := HI.out.at_.below hb1
        have hld1 := fun op a next Q => loadW_blk (P := Tryd.prog) hbp Tryd.underlying35 rfl iszPt op a next Q
        have hst := fun op a next Q => storeW_part (P := Tryd.prog) (t := 35) (o := 0) (cs := encPtr p) hbr (Nat.le_refl 12) iszPt (encPtr_ones p) op a next Q
        have HB2 := Lib.hid (hbr.put (vs := encPtr p) rfl)
        have HA2 := Lib.hid (hat.put (o := 0) (vs := encPtr p) (Nat.le_succ _) HI.out.f1)
        clear hbp hbr hat hb1 hld
        go_wp2_with fail
        refine bodyPost_ret (res_cell_tmp rfl _ _ (w.heap.size + 1) 35 _ _ rfl HB2.out Tryd.underlying35 rfl iszPt) rfl ?_
        rw [← HRE.out]
        exact ⟨⟨rfl, hpw⟩, HA2.out.fin⟩
      · have hn' : isNone p = false := by simpa using hn
        have hRe := HI.out.eq
        rw [loweredM, if_neg hn] at hRe
        have hokl : C.Ok (linksM S p s1).2 := back_first (fun l => back_lowered C.bg k _) (by rw [hRe]; exact HOK.out)
        have HN := Lib.hid hn'
        have HOKL := Lib.hid hokl
        have HRE := Lib.hid hRe
        clear hRe hn hn' hokl
        go_wp2_with fail
        refine (None_any p hpw wr).mono ?_
        rintro e w1 ⟨rfl, hb1⟩
        rw [HN.out]
        have HBP := Lib.hid (HI.out.bp.below hb1)
        have HBR := Lib.hid (HI.out.br.below hb1)
        have HAT := Lib.hid (HI.out.at_.below hb1)
        have hld1 := fun op a next Q => loadW_blk (P := Tryd.prog) HBP.out Tryd.underlying35 rfl iszPt op a next Q
        have HL := Lib.hid (links_any HAT.out.1 p hpw HOKL.out)
        clear hb1 hld
        rcases hlm : linksM S p s1 with ⟨r | l, s2⟩
        · have hRe := HRE.out
          rw [M.bind_err hlm] at hRe
          rw [hlm] at HL
          have HRE2 := Lib.hid hRe
          clear hRe hlm
          go_wp2_with fail
          refine HL.out.mono ?_
          rintro e w2 ⟨⟨rfl, hr0⟩, hstep⟩
          have hr1 : ((r : Int) != 0) = true := by simpa using hr0
          obtain ⟨F2, hat, hfr, hm⟩ := HAT.out.step hstep
          have hsn := store_newA4 zs4 rfl w2
          have hbr := (hm.blk HBR.out HI.out.f1).alloc (.cells (encPs zs4).toArray 108)
          have hst := fun op a next Q => storeZPt hbr rfl op a next Q
          have HB2 := Lib.hid (hbr.put (vs := encPtr pD) rfl)
          have HA2 := Lib.hid ((hat.below ((Below.refl _ _).alloc (Nat.le_refl _) (.cells (encPs zs4).toArray 108))).put (o := 0) (vs := encPtr pD) (Nat.le_succ _) (hfr _ HBR.out.lt HI.out.f1))
          clear hat hfr hm hbr hstep hld1
          go_wp2_with fail
          refine bodyPost_ret (res_cell_tmp rfl _ _ (w.heap.size + 1) 35 _ _ rfl HB2.out Tryd.underlying35 rfl iszPt) rfl ?_
          rw [← HRE2.out]
          exact ⟨⟨rfl, hr0⟩, HA2.out.fin⟩
        · have hRe := HRE.out
          rw [M.bind_ok hlm] at hRe
          rw [hlm] at HL
          have HRE2 := Lib.hid hRe
          clear hRe hlm
          go_wp2_with fail
          refine HL.out.mono ?_
          rintro e w2 ⟨⟨rfl, hl4, hlw⟩, hstep⟩
          obtain ⟨F2, hat, hfr, hm⟩ := HAT.out.step hstep
          have hsn := store_newA4 l hl4 w2
          obtain ⟨w3, hw3⟩ : ∃ w3, w3 = w2.alloc (.cells (encPs l).toArray 108) := ⟨_, rfl⟩
          have hb23 : Below w2.heap.size w2 w3 := by rw [hw3]; exact (Below.refl _ _).alloc (Nat.le_refl _) _
          have hbl : Blk w3 w2.heap.size 108 (encPs l) := by rw [hw3]; exact Blk.new w2 _ _
          rw [← hw3] at hsn
          have hl0 : 0 < l.length := by omega
          obtain ⟨q, hq⟩ : ∃ q, q = l[0] := ⟨_, rfl⟩
          have hqw : q.wf := by rw [hq]; exact hlw _ (List.getElem_mem hl0)
          have hgd : l.getD 0 pD = q := by rw [List.getD_eq_getElem?_getD, List.getElem?_eq_getElem hl0, hq]; rfl
          have hl1 := fun op a next Q => loadW_mid (P := Tryd.prog) (t := 35) (by rw [hq]; have := range_ps hbl hl0; rwa [Nat.zero_mul] at this : w3.rangeAt w2.heap.size 0 (encPtr q)) Tryd.underlying35 rfl iszPt op a next Q
          have hbp := (hm.blk HBP.out HI.out.f0).below hb23
          have hbr := (hm.blk HBR.out HI.out.f1).below hb23
          have hst := fun op a next Q => storeW_part (P := Tryd.prog) (t := 35) (o := 0) (cs := encPtr q) hbp (Nat.le_refl 12) iszPt (encPtr_ones q) op a next Q
          have hf0 := hfr _ HBP.out.lt HI.out.f0
          have hf1 := hfr _ HBR.out.lt HI.out.f1
          have hRe := HRE2.out
          rw [hgd] at hRe
          have HI3 : Hid (LowI C F w (w3.setCells w.heap.size 0 (encPtr q)) k q s2 R F2) := Lib.hid ⟨hqw, hRe, (hat.below hb23).put (Nat.le_refl _) hf0, hbp.put rfl, hbr.away 0 _ (by omega), hf0, hf1⟩
          clear hat hfr hm hstep hld1 hw3 hb23 hbl hq hgd hbp hbr hRe hl4 hf0 hf1
          go_wp2_with fail
          go_roundw
          case rel => exact ⟨k, q, s2, F2, by go_num, by omega, HI3⟩
          case measure => simp [intOf]; omega
/-- where a walk of grown stands -/
structure GroI (C : StoreC S ty a) (F : Nat → Prop) (w wr : World) (n : NodeT) (k lv : Nat) (p : PtrT) (s1 : σ) (R : Except Nat PtrT × σ) (F1 : Nat → Prop) : Prop where
  wf : p.wf
  eq : grownTo S k lv p s1 = R
  at_ : C.At F s1 w wr F1
  bn : Blk wr w.heap.size 37 (encN n)
  br : Blk wr (w.heap.size + 1) 37 (encN nD)
  bp : Blk wr (w.heap.size + 2) 35 (encPtr p)
  f0 : ¬ F1 w.heap.size
  f1 : ¬ F1 (w.heap.size + 1)
  f2 : ¬ F1 (w.heap.size + 2)
/-- a value that is built, kept whole -/
def BdW (P : Program) (o : Oper) (t : TypeId) (parts : Array (Nat × Value)) (a : Act) (w : World) (next : Act → World → Prop) (Q : Exit → Act → World → Prop) : Prop :=
  o.upon P a next Q ((do let r ← Instr.build t parts; pure (Next.value r) : Sem Next).run P w)
theorem wp_bldNd {dst : Option Tmp} {x y : Operand} {ty : TypeId} {pos : String} {after : Array Edge} {guard : Option (Nat × Bool)} {a : Act} {w : World} {next : Act → World → Prop} {Q : Exit → Act → World → Prop} :
    Oper.wp Tryd.prog ⟨dst, .build 37 #[(0, x), (1, y)], ty, pos, after, guard⟩ a w next Q = BdW Tryd.prog ⟨dst, .build 37 #[(0, x), (1, y)], ty, pos, after, guard⟩ 37 #[(0, a.eval x), (1, a.eval y)] a w next Q := by
  unfold Oper.wp BdW execOp
  simp
theorem wp_bldA1 {dst : Option Tmp} {x : Operand} {ty : TypeId} {pos : String} {after : Array Edge} {guard : Option (Nat × Bool)} {a : Act} {w : World} {next : Act → World → Prop} {Q : Exit → Act → World → Prop} :
    Oper.wp Tryd.prog ⟨dst, .build 108 #[(0, x)], ty, pos, after, guard⟩ a w next Q = BdW Tryd.prog ⟨dst, .build 108 #[(0, x)], ty, pos, after, guard⟩ 108 #[(0, a.eval x)] a w next Q := by
  unfold Oper.wp BdW execOp
  simp
theorem bld_nd (size : Int) (p : PtrT) (o : Oper) (a : Act) (w : World) (next : Act → World → Prop) (Q : Exit → Act → World → Prop) :
    BdW Tryd.prog o 37 #[(0, .int .i64 size), (1, .agg (encPtr p).toArray)] a w next Q = next (a.put o.dst (.agg (encN ⟨size, p⟩).toArray)) w := by
  unfold BdW
  obtain ⟨p0, p1, p2, p3, p4, p5, p6, p7, p8, p9, p10, p11⟩ := p
  have h : (do let r ← Instr.build 37 #[(0, .int .i64 size), (1, .agg #[.int .i64 p0, .int .i64 p1, .int .i64 p2, .int .i64 p3, .bool p4, .int .i64 p5, .int .i64 p6, .int .i64 p7, .int .u64 p8, .int .u64 p9, .int .u64 p10, .int .u64 p11])]; pure (Next.value r) : Sem Next).run Tryd.prog w = .ok (.value (.agg #[.int .i64 size, .int .i64 p0, .int .i64 p1, .int .i64 p2, .int .i64 p3, .bool p4, .int .i64 p5, .int .i64 p6, .int .i64 p7, .int .u64 p8, .int .u64 p9, .int .u64 p10, .int .u64 p11])) w := by
    go_simp
  exact congrArg (fun r => o.upon Tryd.prog a next Q r) h
theorem bld_a1 (p : PtrT) (o : Oper) (a : Act) (w : World) (next : Act → World → Prop) (Q : Exit → Act → World → Prop) :
    BdW Tryd.prog o 108 #[(0, .agg (encPtr p).toArray)] a w next Q = next (a.put o.dst (.agg (encPs [p, pD, pD, pD]).toArray)) w := by
  unfold BdW
  obtain ⟨p0, p1, p2, p3, p4, p5, p6, p7, p8, p9, p10, p11⟩ := p
  have h : (do let r ← Instr.build 108 #[(0, .agg #[.int .i64 p0, .int .i64 p1, .int .i64 p2, .int .i64 p3, .bool p4, .int .i64 p5, .int .i64 p6, .int .i64 p7, .int .u64 p8, .int .u64 p9, .int .u64 p10, .int .u64 p11])]; pure (Next.value r) : Sem Next).run Tryd.prog w = .ok (.value (.agg #[.int .i64 p0, .int .i64 p1, .int .i64 p2, .int .i64 p3, .bool p4, .int .i64 p5, .int .i64 p6, .int .i64 p7, .int .u64 p8, .int .u64 p9, .int .u64 p10, .int .u64 p11, .int .i64 0, .int .i64 0, .int .i64 0, .int .i64 0, .bool false, .int .i64 0, .int .i64 0, .int .i64 0, .int .u64 0, .int .u64 0, .int .u64 0, .int .u64 0, .int .i64 0, .int .i64 0, .int .i64 0, .int .i64 0, .bool false, .int .i64 0, .int .i64 0, .int .i64 0, .int .u64 0, .int .u64 0, .int .u64 0, .int .u64 0, .int .i64 0, .int .i64 0, .int .i64 0, .int .i64 0, .bool false, .int .i64 0, .int .i64 0, .int .i64 0, .int .u64 0, .int .u64 0, .int .u64 0, .int .u64 0])) w := by
    go_simp
  exact congrArg (fun r => o.upon Tryd.prog a next Q r) h
attribute [local go_sem ↓] wp_bldNd wp_bldA1
set_option maxHeartbeats 1000000 in
set_option maxRecDepth 100000 in
theorem grown_any {w : World} {s : σ} {F : Nat → Prop} (h : C.Is w s F) (n : NodeT) (hn : n.wf) (size : Int) (hs : I64' size) (hok : C.Ok (grownM S n size s).2) :
    Calls Tryd.prog 30 #[.iface ty (.pointer (some a)), .agg (encN n).toArray, .int .i64 size] w fun e w' => NdR (grownM S n size s).1 e ∧ C.Step F (grownM S n size s).2 w w' := by
  obtain ⟨w0, hw0⟩ : ∃ w0, w0 = ((w.alloc (.cells (encN n).toArray 37)).alloc (.cells (encN nD).toArray 37)).alloc (.cells (encPtr n.root).toArray 35) := ⟨_, rfl⟩
  obtain ⟨wp, hwp⟩ : ∃ wp, wp = (w.alloc (.cells (encN n).toArray 37)).alloc (.cells (encN nD).toArray 37) := ⟨_, rfl⟩
  have hpb : Blk wp w.heap.size 37 (encN n) := by rw [hwp]; exact (Blk.new w _ _).alloc _
  have hps : wp.heap.size = w.heap.size + 2 := by rw [hwp]; simp
  have hld0 := fun op a next Q => loadW_part (P := Tryd.prog) (t := 35) (o := 1) (cs := encPtr n.root) hpb rfl Tryd.underlying35 rfl iszPt op a next Q
  have hsn0 := store_newPt n.root wp
  rw [show wp.alloc (.cells (encPtr n.root).toArray 35) = w0 by rw [hw0, hwp]] at hsn0
  rw [hps] at hsn0
  have hb : Blk w0 w.heap.size 37 (encN n) := by rw [hw0]; exact ((Blk.new w _ _).alloc _).alloc _
  have hr : Blk w0 (w.heap.size + 1) 37 (encN nD) := by rw [hw0]; exact (Blk.newAt (w := w.alloc _) _ _ (by simp)).alloc _
  have hq : Blk w0 (w.heap.size + 2) 35 (encPtr n.root) := by rw [hw0]; exact Blk.newAt (w := (w.alloc _).alloc _) _ _ (by simp)
  have hbel : Below w.heap.size w w0 := by rw [hw0]; exact (((Below.refl _ _).alloc (Nat.le_refl _) _).alloc (by simp) _).alloc (by simp; omega) _
  have hcs : w0.cell? ⟨w.heap.size, 0, none⟩ = some (.int .i64 n.size) := hb.cell 0
  have h0 : ¬ F w.heap.size := fun hf => by have := C.lt h _ hf; omega
  have h1 : ¬ F (w.heap.size + 1) := fun hf => by have := C.lt h _ hf; omega
  have h2 : ¬ F (w.heap.size + 2) := fun hf => by have := C.lt h _ hf; omega
  have hge : grownM S n size s = M.bind (grownTo S (lvl size - lvl n.size) (lvl n.size) n.root) (fun r => M.ret ⟨max n.size size, r⟩) s := rfl
  obtain ⟨R, hR⟩ : ∃ R, grownTo S (lvl size - lvl n.size) (lvl n.size) n.root s = R := ⟨_, rfl⟩
  have hokR : C.Ok R.2 := by rw [← hR]; exact back_first (fun r => back_ret _) (by rw [← hge]; exact hok)
  have HI : Hid (GroI C F w w0 n (lvl size - lvl n.size) (lvl n.size) n.root s R F) := Lib.hid ⟨hn.root, hR, (StoreC.At.start h).below hbel, hb, hr, hq, h0, h1, h2⟩
  have HGE : Hid (∀ r s2, R = (r, s2) → grownM S n size s = (match r with | .ok q => .ok ⟨max n.size size, q⟩ | .error e => .error e, s2)) := Lib.hid (fun r s2 hr => by
    rw [hge]
    cases r with
    | ok q => exact M.bind_ok (hR.trans hr)
    | error e => exact M.bind_err (hR.trans hr))
  obtain ⟨RR, hRR⟩ : ∃ RR, grownM S n size s = RR := ⟨_, rfl⟩
  rw [hRR] at HGE ⊢
  have HOK := Lib.hid hokR
  have hL1 := Lib.hid fun W => Level_any n.size W hn.size
  have hL2 := Lib.hid fun W => Level_any size W hs
  have hl3 := lvl_le n.size
  have hl4 := lvl_le size
  have hnsz := hn.size
  unfold I64' at hs hnsz
  obtain ⟨hs1, hs2⟩ := hs
  obtain ⟨hn1, hn2⟩ := hnsz
  obtain ⟨la, hla⟩ : ∃ la, lvl n.size = la := ⟨_, rfl⟩
  obtain ⟨lb, hlb⟩ : ∃ lb, lvl size = lb := ⟨_, rfl⟩
  rw [hla, hlb] at HI
  rw [hla] at hL1 hl3
  rw [hlb] at hL2 hl4
  clear hpb hb hr hq hbel h0 h1 h2 hge hR hokR hok hRR hn hla hlb
  go_enter Tryd.func30, Tryd.ntmps30
  go_upto_region 1 with fail
  rw [show (w.alloc (.cells (encN n).toArray 37)).alloc (.cells #[.int .i64 0, .int .i64 0, .int .i64 0, .int .i64 0, .int .i64 0, .bool false, .int .i64 0, .int .i64 0, .int .i64 0, .int .u64 0, .int .u64 0, .int .u64 0, .int .u64 0] 37) = wp from hwp.symm]
  clear hwp hw0
  go_wp2_with fail
  refine (hL1.out _).mono ?_
  rintro e w1 ⟨rfl, rfl⟩
  go_wp2_with fail
  go_loopw [9] (fun lv wr => ∃ (k l1 : Nat) (p : PtrT) (s1 : σ) (F1 : Nat → Prop), lv = .int .i64 (l1 : Nat) ∧ l1 ≤ 3 ∧ k = lb - l1 ∧ Hid (GroI C F w wr n k l1 p s1 R F1)) (fun lv _ => 4 - (intOf lv).toNat)
  case atStart => exact ⟨_, la, n.root, s, F, rfl, hl3, rfl, HI⟩
  case round =>
    clear HI hcs hld0 hsn0
    obtain ⟨k, l1, p, s1, F1, rfl, hl1, hk, HI⟩ := hrel
    have hpw := HI.out.wf
    have hld := fun op a next Q => loadW_blk (P := Tryd.prog) HI.out.bp Tryd.underlying35 rfl iszPt op a next Q
    have hcs : wr.cell? ⟨w.heap.size, 0, none⟩ = some (.int .i64 n.size) := HI.out.bn.cell 0
    go_wp2_with fail
    refine (hL2.out _).mono ?_
    rintro e w1 ⟨rfl, rfl⟩
    cases k with
    | zero =>
      have hx : ¬ ((l1 : Int) < (lb : Int)) := by omega
      have hRe := HI.out.eq
      have HRE : Hid ((Except.ok (NodeT.mk (max n.size size) p), s1) = RR) := Lib.hid (HGE.out (.ok p) s1 hRe.symm).symm
      clear HGE
      have HA2 := Lib.hid (HI.out.at_.put (o := 0) (vs := encN ⟨max n.size size, p⟩) (Nat.le_succ _) HI.out.f1)
      have hbn := fun o a w next Q => bld_nd (max n.size size) p o a w next Q
      have hst := fun op a next Q => storeW_part (P := Tryd.prog) (t := 37) (o := 0) (cs := encN ⟨max n.size size, p⟩) HI.out.br (Nat.le_refl 13) iszNd (encN_ones _) op a next Q
      clear hRe hk
      go_wp2_with fail
      refine bodyPost_ret (res_cell_tmp rfl _ _ (w.heap.size + 1) 37 _ _ rfl (HI.out.br.put (vs := encN ⟨max n.size size, p⟩) rfl) Tryd.underlying37 rfl iszNd) rfl ?_
      rw [← HRE.out]
      exact ⟨⟨rfl, ⟨(by show -9223372036854775808 ≤ max n.size size ∧ max n.size size ≤ 9223372036854775807; omega), hpw⟩⟩, HA2.out.fin⟩
    | succ k =>
      have hx : ((l1 : Int) < (lb : Int)) := by omega
      by_cases hn : isNone p = true
      · have hRe := HI.out.eq
        rw [grownTo, if_pos hn] at hRe
        have HRE : Hid ((Except.ok (NodeT.mk (max n.size size) p), s1) = RR) := Lib.hid (HGE.out (.ok p) s1 hRe.symm).symm
        have HN := Lib.hid hn
        clear hRe hn HGE hk
        go_wp2_with fail
        refine (None_any p hpw w1).mono ?_
        rintro e w2 ⟨rfl, hb2⟩
        rw [HN.out]
        have hcs2 : w2.cell? ⟨w.heap.size, 0, none⟩ = some (.int .i64 n.size) := (HI.out.bn.below hb2).cell 0
        have hld2 := fun op a next Q => loadW_blk (P := Tryd.prog) (HI.out.bp.below hb2) Tryd.underlying35 rfl iszPt op a next Q
        have hbn := fun o a w next Q => bld_nd (max n.size size) p o a w next Q
        have hst := fun op a next Q => storeW_part (P := Tryd.prog) (t := 37) (o := 0) (cs := encN ⟨max n.size size, p⟩) (HI.out.br.below hb2) (Nat.le_refl 13) iszNd (encN_ones _) op a next Q
        have HA2 := Lib.hid ((HI.out.at_.below hb2).put (o := 0) (vs := encN ⟨max n.size size, p⟩) (Nat.le_succ _) HI.out.f1)
        have HB2 := Lib.hid hb2
        clear hb2 hld hcs
        go_wp2_with fail
        refine bodyPost_ret (res_cell_tmp rfl _ _ (w.heap.size + 1) 37 _ _ rfl ((HI.out.br.below HB2.out).put (vs := encN ⟨max n.size size, p⟩) rfl) Tryd.underlying37 rfl iszNd) rfl ?_
        rw [← HRE.out]
        exact ⟨⟨rfl, ⟨(by show -9223372036854775808 ≤ max n.size size ∧ max n.size size ≤ 9223372036854775807; omega), hpw⟩⟩, HA2.out.fin⟩
      · have hn' : isNone p = false := by simpa using hn
        have hRe := HI.out.eq
        rw [grownTo, if_neg hn] at hRe
        have hokl : C.Ok (putM S [p, pD, pD, pD] (l1 + 1) s1).2 := back_first (fun l => back_grownTo C.bp k _ _) (by rw [hRe]; exact HOK.out)
        have HN := Lib.hid hn'
        have HOKL := Lib.hid hokl
        have HRE := Lib.hid hRe
        clear hRe hn hn' hokl
        go_wp2_with fail
        refine (None_any p hpw w1).mono ?_
        rintro e w2 ⟨rfl, hb2⟩
        rw [HN.out]
        have HBP := Lib.hid (HI.out.bp.below hb2)
        have HBN := Lib.hid (HI.out.bn.below hb2)
        have HBR := Lib.hid (HI.out.br.below hb2)
        have HAT := Lib.hid (HI.out.at_.below hb2)
        have hld1 := fun op a next Q => loadW_blk (P := Tryd.prog) HBP.out Tryd.underlying35 rfl iszPt op a next Q
        have hbn := fun o a w next Q => bld_a1 p o a w next Q
        have HPT : Hid (Calls Tryd.prog 48 #[.iface ty (.pointer (some a)), .agg (encPs [p, pD, pD, pD]).toArray, .int .i64 ((l1 : Int) + 1)] w2 fun e w' => PutR (putM S [p, pD, pD, pD] (l1 + 1) s1).1 e ∧ C.Step F1 (putM S [p, pD, pD, pD] (l1 + 1) s1).2 w2 w') := Lib.hid (put_any HAT.out.1 [p, pD, pD, pD] rfl (by
          intro x hx
          simp only [List.mem_cons, List.not_mem_nil, or_false] at hx
          rcases hx with rfl | rfl | rfl | rfl <;> first | exact hpw | exact pD_wf) (l1 + 1) (by omega) HOKL.out)
        clear hb2 hld hcs
        rcases hpm : putM S [p, pD, pD, pD] (l1 + 1) s1 with ⟨r | q, s2⟩
        · have hRe := HRE.out
          rw [M.bind_err hpm] at hRe
          rw [hpm] at HPT
          have HRE2 : Hid ((Except.error r, s2) = RR) := Lib.hid (HGE.out (.error r) s2 hRe.symm).symm
          clear hRe hpm HGE hk
          go_wp2_with fail
          refine HPT.out.mono ?_
          rintro e w3 ⟨⟨rfl, hr0⟩, hstep⟩
          have hr1 : ((r : Int) != 0) = true := by simpa using hr0
          obtain ⟨F2, hat, hfr, hm⟩ := HAT.out.step hstep
          have hsn := store_newPt pD w3
          have hbr := (hm.blk HBR.out HI.out.f1).alloc (.cells (encPtr pD).toArray 35)
          have hst := fun op a next Q => storeZNd hbr rfl op a next Q
          have HB3 := Lib.hid hbr
          have HA2 := Lib.hid ((hat.below ((Below.refl _ _).alloc (Nat.le_refl _) (.cells (encPtr pD).toArray 35))).put (o := 0) (vs := encN nD) (Nat.le_succ _) (hfr _ HBR.out.lt HI.out.f1))
          clear hat hfr hm hbr hstep hld1
          go_wp2_with fail
          refine bodyPost_ret (res_cell_tmp rfl _ _ (w.heap.size + 1) 37 _ _ rfl (HB3.out.put (vs := encN nD) rfl) Tryd.underlying37 rfl iszNd) rfl ?_
          rw [← HRE2.out]
          exact ⟨⟨rfl, hr0⟩, HA2.out.fin⟩
        · have hRe := HRE.out
          rw [M.bind_ok hpm] at hRe
          rw [hpm] at HPT
          have HRE2 := Lib.hid hRe
          clear hRe hpm
          go_wp2_with fail
          refine HPT.out.mono ?_
          rintro e w3 ⟨⟨rfl, hqw⟩, hstep⟩
          obtain ⟨F2, hat, hfr, hm⟩ := HAT.out.step hstep
          have hsn := store_newPt q w3
          have hbq := Blk.new w3 35 (encPtr q)
          have hb34 : Below w3.heap.size w3 (w3.alloc (.cells (encPtr q).toArray 35)) := (Below.refl _ _).alloc (Nat.le_refl _) _
          have hlq := fun op a next Q => loadW_blk (P := Tryd.prog) hbq Tryd.underlying35 rfl iszPt op a next Q
          have hbp := (hm.blk HBP.out HI.out.f2).below hb34
          have hst := fun op a next Q => storeW_part (P := Tryd.prog) (t := 35) (o := 0) (cs := encPtr q) hbp (Nat.le_refl 12) iszPt (encPtr_ones q) op a next Q
          have hf0 := hfr _ HBN.out.lt HI.out.f0
          have hf1 := hfr _ HBR.out.lt HI.out.f1
          have hf2 := hfr _ HBP.out.lt HI.out.f2
          have HI3 : Hid (GroI C F w ((w3.alloc (.cells (encPtr q).toArray 35)).setCells (w.heap.size + 2) 0 (encPtr q)) n k (l1 + 1) q s2 R F2) := Lib.hid ⟨hqw, HRE2.out, (hat.below hb34).put (by omega) hf2, ((hm.blk HBN.out HI.out.f0).below hb34).away 0 _ (by omega), ((hm.blk HBR.out HI.out.f1).below hb34).away 0 _ (by omega), hbp.put rfl, hf0, hf1, hf2⟩
          clear hat hfr hm hstep hld1 hb34 hbq hbp hf0 hf1 hf2
          go_wp2_with fail
          go_roundw
          case rel => exact ⟨k, l1 + 1, q, s2, F2, by go_num, by omega, by omega, HI3⟩
          case measure => simp [intOf]; omega
end
end Go.Proofs.YtbhofablndjeoaaDoor
