/- The law TreeAll. -/
import Derived.Test.YtbhofablndjeoaaDoorTmI
import Derived.Test.YtbhofablndjeoaaDoorTk
import Derived.Deep.DeepCutAuto
namespace Go.Proofs.YtbhofablndjeoaaDoor
open Go.RowKit
set_option linter.unusedSimpArgs false
set_option linter.unusedVariables false
attribute [local go_sem ↓] wp_loadPt wp_storePt wp_loadNd wp_storeNd wp_loadAc wp_binNd
theorem yieldsIf_eqlPt {ops : Array Oper} {S : World → Prop} {op : Oper} {a : Act} (hw : Region.wanted op (yielded ops a.tmps) = true) (x y : Operand) (t' : TypeId) (ho : op.op = .binOp .eql 35 x y t') (p q : PtrT)
    (hx : a.eval x = .agg (encPtr p).toArray) (hy : a.eval y = .agg (encPtr q).toArray) (hp : p.wf) (hq : q.wf) {b : Bool} (hb : (decide (p = q)) = b) : YieldsIf Tryd.prog ops S op (.bool b) a :=
  .inl ⟨hw, fun w hw' => by
    unfold execOp
    simp only [ho, hx, hy]
    rw [Sem.run_bind, Sem.run_bind, run_eqGuard_agg w _ _ _ _ _ _ grdPt, Result.andThen_ok, run_eql_struct, run_eqPt hp hq, ← hb]
    rfl⟩
theorem yieldsIf_neqPt {ops : Array Oper} {S : World → Prop} {op : Oper} {a : Act} (hw : Region.wanted op (yielded ops a.tmps) = true) (x y : Operand) (t' : TypeId) (ho : op.op = .binOp .neq 35 x y t') (p q : PtrT)
    (hx : a.eval x = .agg (encPtr p).toArray) (hy : a.eval y = .agg (encPtr q).toArray) (hp : p.wf) (hq : q.wf) {b : Bool} (hb : (!decide (p = q)) = b) : YieldsIf Tryd.prog ops S op (.bool b) a :=
  .inl ⟨hw, fun w hw' => by
    unfold execOp
    simp only [ho, hx, hy]
    rw [Sem.run_bind, Sem.run_bind, run_eqGuard_agg w _ _ _ _ _ _ grdPt, Result.andThen_ok, run_neq_struct, run_eqPt hp hq, ← hb]
    rfl⟩
theorem encS_zero (n : Nat) : (madeCells (Value.string ⟨#[]⟩).cells (n * 1)).toList = encS (bts (List.replicate n [])) := by
  rw [Nat.mul_one, encS, bts, List.map_replicate, List.map_replicate]
  exact toList_madeCells_one _ _
structure HLen (n : Nat) : Prop where
  le : n ≤ 900000
theorem LpI.step {mb gN k k2 : Nat} {w wr wc : World} {n : NodeT} {st s2 : MemT} {F : Nat → Prop} (h : LpI mb gN w wr k n st F) (hs : (memC mb).Step F s2 wr wc) (hr : Rn k2 s2) (hL : s2.L = st.L) : ∃ F2, LpI mb gN w wc k2 n s2 F2 ∧ (∀ x, x < wr.heap.size → ¬ F x → ¬ F2 x) ∧ Mod F wr wc := by
  obtain ⟨F2, hat, hfr, hm⟩ := h.at_.step hs
  exact ⟨F2, ⟨hat, hm.blk h.bn h.fN, hfr _ h.bn.lt h.fN, hr, by rw [hL]; exact h.nw, by rw [hL]; exact h.uq⟩, hfr, hm⟩
/-- a store, a node's variable, and a row of pointers -/
structure LpA (mb gN : Nat) (w wr : World) (k : Nat) (n : NodeT) (st : MemT) (F : Nat → Prop) (v : Value) (out : List PtrT) : Prop where
  lp : LpI mb gN w wr k n st F
  rp : wr.ownsRow w.heap.size 35 12 v out.length (encPs out)
  dp : ∀ g, v.ownBlock = some g → ¬ F g ∧ g ≠ gN
section
variable {mb gN k k2 : Nat} {w wr wc : World} {n : NodeT} {st s2 : MemT} {F : Nat → Prop} {v : Value} {out : List PtrT}
theorem LpA.below (h : LpA mb gN w wr k n st F v out) (hb : Below wr.heap.size wr wc) : LpA mb gN w wc k n st F v out := ⟨h.lp.below hb, owns_below h.rp hb, h.dp⟩
theorem LpA.step (h : LpA mb gN w wr k n st F v out) (hs : (memC mb).Step F s2 wr wc) (hr : Rn k2 s2) (hL : s2.L = st.L) : ∃ F2, LpA mb gN w wc k2 n s2 F2 v out ∧ (∀ x, x < wr.heap.size → ¬ F x → ¬ F2 x) ∧ Mod F wr wc := by
  obtain ⟨F2, h1, h2, h3⟩ := h.lp.step hs hr hL
  exact ⟨F2, ⟨h1, h3.row h.rp (fun g hg => (h.dp g hg).1), fun g hg => ⟨h2 g (h.rp.lt g hg).2 (h.dp g hg).1, (h.dp g hg).2⟩⟩, h2, h3⟩
end
/-- and a second store, that is laid cell by cell -/
structure LpB (mb gN go ob : Nat) (w wr : World) (k : Nat) (n : NodeT) (st : MemT) (F : Nat → Prop) (v : Value) (out : List PtrT) (oL : List Bs) : Prop where
  a : LpA mb gN w wr k n st F v out
  orow : Blk wr go 9 (encS (bts oL))
  om : Blk wr ob 27 [.slice (some ⟨go, 0, none⟩) oL.length oL.length, .int .i64 0, .int .i64 0]
  f1 : ¬ F go
  f2 : ¬ F ob
  v1 : ¬ v.ownBlock = some go
  v2 : ¬ v.ownBlock = some ob
  n1 : go ≠ ob
  n2 : go ≠ gN
  n3 : ob ≠ gN
  g1 : w.heap.size ≤ go
  g2 : w.heap.size ≤ ob
section
variable {mb gN go ob k k2 : Nat} {w wr wc : World} {n : NodeT} {st s2 : MemT} {F : Nat → Prop} {v : Value} {out : List PtrT} {oL : List Bs}
theorem LpB.below (h : LpB mb gN go ob w wr k n st F v out oL) (hb : Below wr.heap.size wr wc) : LpB mb gN go ob w wc k n st F v out oL :=
  ⟨h.a.below hb, h.orow.below hb, h.om.below hb, h.f1, h.f2, h.v1, h.v2, h.n1, h.n2, h.n3, h.g1, h.g2⟩
theorem LpB.put (h : LpB mb gN go ob w wr k n st F v out oL) (j : Nat) (t : Bs) : LpB mb gN go ob w (wr.setCell ⟨go, j, none⟩ (.string ⟨t.toArray⟩)) k n st F v out (oL.set j t) := by
  have hm : Mod (fun x => x = go) wr (wr.setCell ⟨go, j, none⟩ (.string ⟨t.toArray⟩)) := (Mod.refl _ wr).setCell (.inl rfl)
  refine ⟨⟨⟨h.a.lp.at_.set h.g1 h.f1, hm.blk h.a.lp.bn (fun e => h.n2 e.symm), h.a.lp.fN, h.a.lp.rn, h.a.lp.nw, h.a.lp.uq⟩, hm.rowN h.a.rp (fun g hg e => h.v1 (by rw [hg, e])), h.a.dp⟩, ?_, ?_, h.f1, h.f2, h.v1, h.v2, h.n1, h.n2, h.n3, h.g1, h.g2⟩
  · have := h.orow.setCell j (.string ⟨t.toArray⟩)
    have e : (encS (bts oL)).set j (.string ⟨t.toArray⟩) = encS (bts (oL.set j t)) := by simp [encS, bts, List.map_set]
    rw [e] at this; exact this
  · rw [List.length_set]; exact hm.blk h.om (fun e => h.n1 e.symm)
end
structure SB0 (gN : Nat) (n : NodeT) (w : World) : Prop where
  blk : Blk w gN 37 (encN n)
structure SB (gN g9 : Nat) (n : NodeT) (w : World) : Prop where
  blk : Blk w gN 37 (encN n)
  row : w.rangeAt g9 0 (encPtr n.root)
theorem bnW_zNd {p : NodeT} (hp : p.wf) (o : Oper) (x y : Operand) (a : Act) (W : World) (next : Act → World → Prop) (Q : Exit → Act → World → Prop) : BnW Tryd.prog o .eql 37 x y (.agg (encN p).toArray) (.agg #[.int .i64 0, .int .i64 0, .int .i64 0, .int .i64 0, .int .i64 0, .bool false, .int .i64 0, .int .i64 0, .int .i64 0, .int .u64 0, .int .u64 0, .int .u64 0, .int .u64 0]) a W next Q = next (a.put o.dst (.bool (decide (p = nD)))) W :=
  bnW_eqlNd hp nD_wf o x y a W next Q
theorem range_both1 {w : World} {b o p : Nat} {cs ds : List Value} (h : w.rangeAt b o cs ∧ w.rangeAt b p ds) : w.rangeAt b o cs := h.1
theorem range_both2 {w : World} {b o p : Nat} {cs ds : List Value} (h : w.rangeAt b o cs ∧ w.rangeAt b p ds) : w.rangeAt b p ds := h.2
theorem SB0.root {gN : Nat} {n : NodeT} {w : World} (h : SB0 gN n w) : w.rangeAt gN 1 (encPtr n.root) := range_root h.blk
theorem SB.root {gN g9 : Nat} {n : NodeT} {w : World} (h : SB gN g9 n w) : w.rangeAt gN 1 (encPtr n.root) := range_root h.blk
set_option maxHeartbeats 4000000 in
set_option maxRecDepth 100000 in
theorem alls_any (a : Option Addr) (len cap : Nat) (zs : List ActA) (w : World) (h : ZSl w a len cap zs) :
    Calls Tryd.prog 6 #[.slice a len cap] w fun e w' => e = .returned (.bool true) ∧ Below w.heap.size w w' := by
  have HAW := Lib.hid awake14_any
  have hmx := h.mx
  by_cases hlen : 40 < len
  · have q1 : (40 : Int) < (len : Int) := by omega
    go_enter Tryd.func6, Tryd.ntmps6
    go_wp2_with fail
    refine (HAW.out _).mono ?_
    rintro e w1 ⟨rfl, hb1⟩
    have HB1 := Lib.hid hb1
    clear hb1
    go_wp2_with fail
    refine (HAW.out _).mono ?_
    rintro e w2 ⟨rfl, hb2⟩
    have hfin := HB1.out.trans (hb2.mono HB1.out.size)
    go_wp2_with fail
    go_ret
    exact ⟨rfl, hfin⟩
  · have q1 : ¬ (40 : Int) < (len : Int) := by omega
    have q1' : (len : Int) ≤ 40 := by omega
    go_enter Tryd.func6, Tryd.ntmps6
    go_wp2_with fail
    refine (HAW.out _).mono ?_
    rintro e w1 ⟨rfl, hb1⟩
    have HB1 := Lib.hid hb1
    clear hb1
    go_upto_region 5 with fail
    have hst := fun op a next Q => store_newZNd (w1.alloc (.cells mem0.toArray 27)) op a next Q
    obtain ⟨mb, hmb⟩ : ∃ mb, mb = w1.heap.size := ⟨_, rfl⟩
    obtain ⟨gN, hgN⟩ : ∃ gN, gN = w1.heap.size + 1 := ⟨_, rfl⟩
    obtain ⟨wm, hwm⟩ : ∃ wm, wm = w1.alloc (.cells mem0.toArray 27) := ⟨_, rfl⟩
    obtain ⟨wB, hwB⟩ : ∃ wB, wB = wm.alloc (.cells (encN nD).toArray 37) := ⟨_, rfl⟩
    have hsm : wm.heap.size = w1.heap.size + 1 := by rw [hwm]; simp
    have hLP : LpI mb gN wm wB 0 nD s0 (fun x => x = mb) := by
      have hm0 : memIs mb wm s0 (fun k => k = mb) := by rw [hwm]; exact mem_new hmb.symm
      refine ⟨(StoreC.At.start (C := memC mb) hm0).below (by rw [hwB]; exact (Below.refl _ _).alloc (Nat.le_refl _) _), ?_, by omega, Rn.start, NW.start _, Uq.start _⟩
      rw [hwB]; exact Blk.newAt _ _ (by omega)
    have hold : Below w.heap.size w wm := by
      rw [hwm]; exact HB1.out.alloc HB1.out.size _
    have HLP := Lib.hid hLP
    have HOLD := Lib.hid hold
    have HMB : Hid (w.heap.size ≤ mb) := Lib.hid (by rw [hmb]; exact HB1.out.size)
    have HGN : Hid (wm.heap.size ≤ gN) := Lib.hid (by omega)
    have HZ := Lib.hid (fun (hn : 0 < len) => h.cells hn)
    rw [show w1.alloc (.cells #[.slice none 0 0, .int .i64 0, .int .i64 0] 27) = wm from hwm.symm] at *
    rw [← hwm] at hst
    rw [← hwB, hsm] at hst
    rw [hst, ← hgN, ← hmb]
    clear hmb hgN hwm hLP hold hwB hsm hst
    go_wp2_with fail
    go_loopw [5] (fun vi wr => ∃ (i : Nat) (n : NodeT) (st : MemT) (F : Nat → Prop), vi = .int .i64 i ∧ i ≤ len ∧ Hid (LpI mb gN wm wr i n st F)) (fun vi _ => len - (intOf vi).toNat)
    case atStart => exact ⟨0, nD, s0, _, rfl, Nat.zero_le _, HLP⟩
    case round =>
      obtain ⟨i, n, st, F, rfl, hil, HLI⟩ := hrel
      by_cases hlt : i < len
      · have q2 : (i : Int) < (len : Int) := by omega
        have q2' : (i : Int) < (len : Int) := by omega
        have q3 : 0 ≤ (i : Int) := by omega
        have hi40 : i ≤ 40 := by omega
        obtain ⟨b, off0, rfl, HZ2⟩ : ∃ b off, a = some ⟨b, off, none⟩ ∧ Hid (∀ W, Below w.heap.size w W → ∀ k, k < len → (zs.getD k aT).ok ∧ W.rangeAt b (off + k * 4) (encAc (zs.getD k aT))) := by
          obtain ⟨b, off, e, _, h2⟩ := HZ.out (by omega)
          exact ⟨b, off, e, Lib.hid h2⟩
        have HXO := Lib.hid (HZ2.out wm HOLD.out i (by omega)).1
        obtain ⟨rv, s2, hd, hrn, hext, hnw, huq, htw⟩ := rn_done HLI.out.rn (by omega) HLI.out.nw HLI.out.uq (zs.getD i aT)
        have HD := Lib.hid hd
        have HRN := Lib.hid hrn
        have HNW := Lib.hid hnw
        have HUQ := Lib.hid huq
        have HTW := Lib.hid (htw.imp And.left id)
        have HRK : Hid (memOk s2) := Lib.hid (hrn.ok (by omega))
        clear hd hrn hext hnw huq htw
        go_upto_region 8 with fail
        go_cut [6, 7] (fun vx ve wx => ∃ g F3, vx = .pointer (some ⟨g, 0, none⟩) ∧ ve = .int .i64 (errV rv : Nat) ∧ Hid (LpX mb gN wm wx (i + 1) n g rv s2 F3))
        case first =>
          have hold0 : Below w.heap.size w wr.drew := HOLD.out.trans (((HLI.out.at_.below (Below.refl _ _).drew).2.1).toBelow (B := w.heap.size) (fun k hk => by have := HMB.out; omega) HOLD.out.size)
          refine wp_region_held_drew (S := fun w' => Blk w' gN 37 (encN n) ∧ w'.rangeAt b (off0 + i * 4) (encAc (zs.getD i aT))) (by kernel_rfl) ⟨HLI.out.bn.drew, (HZ2.out _ hold0 i (by omega)).2⟩ (fun hS0 => ?_)
          refine wpAnyH_take (i := 0) (oi := ?oic0) (v := ?vc0) ?hic0 ?hsc0 ?hfc0 ?hrc0 ?hQc0 ?hyc0 ?hSc0 ?hc0
          case hic0 => (simp only [List.getElem?_toArray, List.getElem?_cons_succ, List.getElem?_cons_zero]; rfl)
          case hsc0 => kernel_rfl
          case hfc0 => kernel_rfl
          case hrc0 => kernel_rfl
          case hSc0 => first | assumption | trivial
          case hyc0 => refine Or.inl ⟨by kernel_rfl, ?_⟩; (intro w hSw; (try dsimp only at hSw); go_simp; try with_reducible rfl)
          case hQc0 => exact fun _ _ _ h => h
          try simp only [Act.put, List.setIfInBounds_toArray, List.set_cons_zero, List.set_cons_succ]
          refine wpAnyH_take (i := 1) (oi := ?oic1) (v := ?vc1) ?hic1 ?hsc1 ?hfc1 ?hrc1 ?hQc1 ?hyc1 ?hSc1 ?hc1
          case hic1 => (simp only [List.getElem?_toArray, List.getElem?_cons_succ, List.getElem?_cons_zero]; rfl)
          case hsc1 => kernel_rfl
          case hfc1 => kernel_rfl
          case hrc1 => kernel_rfl
          case hSc1 => first | assumption | trivial
          case hyc1 => refine yieldsIf_load_mid (by kernel_rfl) 37 (.tmp 4) ?_ gN (0) ?_ (encN n) _ (fun w' hw => range_and1 hw) Tryd.underlying37 rfl iszNd <;> rfl
          case hQc1 => exact fun _ _ _ h => h
          try simp only [Act.put, List.setIfInBounds_toArray, List.set_cons_zero, List.set_cons_succ]
          refine wpAnyH_take (i := 2) (oi := ?oic2) (v := ?vc2) ?hic2 ?hsc2 ?hfc2 ?hrc2 ?hQc2 ?hyc2 ?hSc2 ?hc2
          case hic2 => (simp only [List.getElem?_toArray, List.getElem?_cons_succ, List.getElem?_cons_zero]; rfl)
          case hsc2 => kernel_rfl
          case hfc2 => kernel_rfl
          case hrc2 => kernel_rfl
          case hSc2 => first | assumption | trivial
          case hyc2 => refine Or.inl ⟨by kernel_rfl, ?_⟩; (intro w hSw; (try dsimp only at hSw); go_simp; try with_reducible rfl)
          case hQc2 => exact fun _ _ _ h => h
          try simp only [Act.put, List.setIfInBounds_toArray, List.set_cons_zero, List.set_cons_succ]
          refine wpAnyH_take (i := 3) (oi := ?oic3) (v := ?vc3) ?hic3 ?hsc3 ?hfc3 ?hrc3 ?hQc3 ?hyc3 ?hSc3 ?hc3
          case hic3 => (simp only [List.getElem?_toArray, List.getElem?_cons_succ, List.getElem?_cons_zero]; rfl)
          case hsc3 => kernel_rfl
          case hfc3 => kernel_rfl
          case hrc3 => kernel_rfl
          case hSc3 => first | assumption | trivial
          case hyc3 => refine Or.inl ⟨by kernel_rfl, ?_⟩; (intro w hSw; (try dsimp only at hSw); go_simp; try with_reducible rfl)
          case hQc3 => exact fun _ _ _ h => h
          try simp only [Act.put, List.setIfInBounds_toArray, List.set_cons_zero, List.set_cons_succ]
          refine wpAnyH_take (i := 4) (oi := ?oic4) (v := ?vc4) ?hic4 ?hsc4 ?hfc4 ?hrc4 ?hQc4 ?hyc4 ?hSc4 ?hc4
          case hic4 => (simp only [List.getElem?_toArray, List.getElem?_cons_succ, List.getElem?_cons_zero]; rfl)
          case hsc4 => kernel_rfl
          case hfc4 => kernel_rfl
          case hrc4 => kernel_rfl
          case hSc4 => first | assumption | trivial
          case hyc4 => refine Or.inl ⟨by kernel_rfl, ?_⟩; (intro w hSw; (try dsimp only at hSw); go_simp; first | with_reducible rfl | rw [if_pos (by omega)])
          case hQc4 => exact fun _ _ _ h => h
          try simp only [Act.put, List.setIfInBounds_toArray, List.set_cons_zero, List.set_cons_succ]
          refine wpAnyH_take (i := 5) (oi := ?oic5) (v := ?vc5) ?hic5 ?hsc5 ?hfc5 ?hrc5 ?hQc5 ?hyc5 ?hSc5 ?hc5
          case hic5 => (simp only [List.getElem?_toArray, List.getElem?_cons_succ, List.getElem?_cons_zero]; rfl)
          case hsc5 => kernel_rfl
          case hfc5 => kernel_rfl
          case hrc5 => kernel_rfl
          case hSc5 => first | assumption | trivial
          case hyc5 => refine yieldsIf_load_mid (by kernel_rfl) 42 (.tmp 38) ?_ b ((off0 + i * 4)) ?_ (encAc (zs.getD i aT)) _ (fun w' hw => range_and2 hw) Tryd.underlying42 rfl iszAc <;> rfl
          case hQc5 => exact fun _ _ _ h => h
          try simp only [Act.put, List.setIfInBounds_toArray, List.set_cons_zero, List.set_cons_succ]
          refine wpAnyH_ready (rs := [6, 10]) (by kernel_rfl) (by simp) ?_
          refine AllReadyH.cons (by simp only [List.getElem?_toArray, List.getElem?_cons_succ, List.getElem?_cons_zero]; rfl) (fun K hK => ?_) (AllReadyH.cons (by simp only [List.getElem?_toArray, List.getElem?_cons_succ, List.getElem?_cons_zero]; rfl) (fun K hK => ?_) AllReadyH.nil)
          · go_simp
            have HLW := Lib.hid (HLI.out.below (wr' := wr.drew) (Below.refl _ _).drew)
            refine (done_any HLW.out.at_.1 n (HLW.out.nwf (by omega)) (zs.getD i aT) HXO.out (by rw [HD.out]; exact HRK.out)).mono ?_
            rintro e w6 ⟨hpr, hstep6⟩
            rw [HD.out] at hpr hstep6
            have hpe := NdR.val hpr
            subst hpe
            obtain ⟨F3, hat6, hfr6, hm6⟩ := HLW.out.at_.step hstep6
            have hbn6 := hm6.blk HLW.out.bn HLW.out.fN
            have hfN6 := hfr6 _ HLW.out.bn.lt HLW.out.fN
            have hold6 := HOLD.out.trans (hat6.2.1.toBelow (B := w.heap.size) (fun k hk => by have := HMB.out; omega) HOLD.out.size)
            have hra6 := (HZ2.out w6 hold6 i (by omega)).2
            clear hfr6 hstep6 hm6
            try dsimp only
            refine hK.out _ _ (⟨hbn6, hra6⟩) (fun hScp6 => ?_)
            try simp only [Act.put, List.setIfInBounds_toArray, List.set_cons_zero, List.set_cons_succ]
            refine wpAnyH_take (i := 7) (oi := ?oicp7) (v := ?vcp7) ?hicp7 ?hscp7 ?hfcp7 ?hrcp7 ?hQcp7 ?hycp7 ?hScp7 ?hcp7
            case hicp7 => (simp only [List.getElem?_toArray, List.getElem?_cons_succ, List.getElem?_cons_zero]; rfl)
            case hscp7 => kernel_rfl
            case hfcp7 => kernel_rfl
            case hrcp7 => kernel_rfl
            case hScp7 => first | assumption | trivial
            case hycp7 => refine Or.inl ⟨by kernel_rfl, ?_⟩; (intro w hSw; (try dsimp only at hSw); go_simp; try with_reducible rfl)
            case hQcp7 => exact fun _ _ _ h => h
            try simp only [Act.put, List.setIfInBounds_toArray, List.set_cons_zero, List.set_cons_succ]
            refine wpAnyH_take (i := 8) (oi := ?oicp8) (v := ?vcp8) ?hicp8 ?hscp8 ?hfcp8 ?hrcp8 ?hQcp8 ?hycp8 ?hScp8 ?hcp8
            case hicp8 => (simp only [List.getElem?_toArray, List.getElem?_cons_succ, List.getElem?_cons_zero]; rfl)
            case hscp8 => kernel_rfl
            case hfcp8 => kernel_rfl
            case hrcp8 => kernel_rfl
            case hScp8 => first | assumption | trivial
            case hycp8 => refine Or.inl ⟨by kernel_rfl, ?_⟩; (intro w hSw; (try dsimp only at hSw); go_simp; try with_reducible rfl)
            case hQcp8 => exact fun _ _ _ h => h
            try simp only [Act.put, List.setIfInBounds_toArray, List.set_cons_zero, List.set_cons_succ]
            refine wpAnyH_take (i := 9) (oi := ?oicp9) (v := ?vcp9) ?hicp9 ?hscp9 ?hfcp9 ?hrcp9 ?hQcp9 ?hycp9 ?hScp9 ?hcp9
            case hicp9 => (simp only [List.getElem?_toArray, List.getElem?_cons_succ, List.getElem?_cons_zero]; rfl)
            case hscp9 => kernel_rfl
            case hfcp9 => kernel_rfl
            case hrcp9 => kernel_rfl
            case hScp9 => first | assumption | trivial
            case hycp9 => refine Or.inl ⟨by kernel_rfl, ?_⟩; (intro w hSw; (try dsimp only at hSw); go_simp; try with_reducible rfl)
            case hQcp9 => exact fun _ _ _ h => h
            try simp only [Act.put, List.setIfInBounds_toArray, List.set_cons_zero, List.set_cons_succ]
            refine wpAnyH_ready (rs := [10]) (by kernel_rfl) (by simp) ?_
            refine AllReadyH.cons (by simp only [List.getElem?_toArray, List.getElem?_cons_succ, List.getElem?_cons_zero]; rfl) (fun K hK => ?_) AllReadyH.nil
            go_simp
            skip
            refine hK.out _ _ (⟨hbn6.alloc _, (HZ2.out _ (hold6.alloc hold6.size _) i (by omega)).2⟩) (fun hScp10 => ?_)
            try simp only [Act.put, List.setIfInBounds_toArray, List.set_cons_zero, List.set_cons_succ]
            refine wpAnyH_ready (rs := [11]) (by kernel_rfl) (by simp) ?_
            refine AllReadyH.cons (by simp only [List.getElem?_toArray, List.getElem?_cons_succ, List.getElem?_cons_zero]; rfl) (fun K hK => ?_) AllReadyH.nil
            rw [if_pos (by kernel_rfl)]
            refine wp_store_mid 37 (.tmp 6) (.tmp 41) rfl w6.heap.size (0) (encN (ndV rv)).toArray rfl rfl (blk_there (Blk.new w6 37 (encN nD)) (Nat.le_refl 13)) iszNd (all_oneCell_toArray (encN_ones _)) ?_
            refine hK.out _ _ (⟨(hbn6.alloc _).away 0 _ (by have := hbn6.lt; omega), (HZ2.out _ (HOLD.out.trans (((hat6.below ((Below.refl _ _).alloc (Nat.le_refl _) (.cells (encN nD).toArray 37))).put (o := 0) (vs := encN (ndV rv)) hat6.size (hat6.fresh (Nat.le_refl _))).2.1.toBelow (B := w.heap.size) (fun k hk => by have := HMB.out; omega) HOLD.out.size)) i (by omega)).2⟩) (fun hScp11 => ?_)
            try simp only [Act.put, List.setIfInBounds_toArray, List.set_cons_zero, List.set_cons_succ]
            refine wpAnyH_take (i := 12) (oi := ?oicp12) (v := ?vcp12) ?hicp12 ?hscp12 ?hfcp12 ?hrcp12 ?hQcp12 ?hycp12 ?hScp12 ?hcp12
            case hicp12 => (simp only [List.getElem?_toArray, List.getElem?_cons_succ, List.getElem?_cons_zero]; rfl)
            case hscp12 => kernel_rfl
            case hfcp12 => kernel_rfl
            case hrcp12 => kernel_rfl
            case hScp12 => first | assumption | trivial
            case hycp12 => refine Or.inl ⟨by kernel_rfl, ?_⟩; (intro w hSw; (try dsimp only at hSw); go_simp; try with_reducible rfl)
            case hQcp12 => exact fun _ _ _ h => h
            try simp only [Act.put, List.setIfInBounds_toArray, List.set_cons_zero, List.set_cons_succ]
            have HT : Hid (LpX mb gN wm ((w6.alloc (.cells (encN nD).toArray 37)).setCells w6.heap.size 0 (encN (ndV rv))) (i + 1) n w6.heap.size rv s2 F3) := Lib.hid ⟨(hat6.below ((Below.refl _ _).alloc (Nat.le_refl _) _)).put hat6.size (hat6.fresh (Nat.le_refl _)), (hbn6.alloc _).away 0 _ (by have := hbn6.lt; omega), (Blk.new w6 37 (encN nD)).put rfl, hfN6, hat6.fresh (Nat.le_refl _), by have := hbn6.lt; omega, HRN.out, HNW.out, HUQ.out, HTW.out⟩
            refine wpAnyH_done (by kernel_rfl) ?_ _
            go_wp2_with fail
            go_meet
            exact ⟨_, F3, rfl, rfl, HT⟩
          · go_simp
            skip
            refine hK.out _ _ (⟨HLI.out.bn.drew.alloc _, (HZ2.out _ (HOLD.out.trans ((HLI.out.at_.below ((Below.refl _ _).drew.alloc (Nat.le_refl _) (.cells (encN nD).toArray 37))).2.1.toBelow (B := w.heap.size) (fun k hk => by have := HMB.out; omega) HOLD.out.size)) i (by omega)).2⟩) (fun hScq10 => ?_)
            try simp only [Act.put, List.setIfInBounds_toArray, List.set_cons_zero, List.set_cons_succ]
            refine wpAnyH_ready (rs := [6]) (by kernel_rfl) (by simp) ?_
            refine AllReadyH.cons (by simp only [List.getElem?_toArray, List.getElem?_cons_succ, List.getElem?_cons_zero]; rfl) (fun K hK => ?_) AllReadyH.nil
            go_simp
            have HLW := Lib.hid (HLI.out.below (wr' := (wr.drew.alloc (.cells (encN nD).toArray 37))) ((Below.refl _ _).drew.alloc (Nat.le_refl _) _))
            refine (done_any HLW.out.at_.1 n (HLW.out.nwf (by omega)) (zs.getD i aT) HXO.out (by rw [HD.out]; exact HRK.out)).mono ?_
            rintro e w6 ⟨hpr, hstep6⟩
            rw [HD.out] at hpr hstep6
            have hpe := NdR.val hpr
            subst hpe
            obtain ⟨F3, hat6, hfr6, hm6⟩ := HLW.out.at_.step hstep6
            have hbn6 := hm6.blk HLW.out.bn HLW.out.fN
            have hfN6 := hfr6 _ HLW.out.bn.lt HLW.out.fN
            have hold6 := HOLD.out.trans (hat6.2.1.toBelow (B := w.heap.size) (fun k hk => by have := HMB.out; omega) HOLD.out.size)
            have hra6 := (HZ2.out w6 hold6 i (by omega)).2
            have hbx6 : Blk w6 wr.heap.size 37 (encN nD) := hm6.blk (Blk.new wr.drew _ _) (HLI.out.at_.fresh (Nat.le_refl _))
            have hfX6 : ¬ F3 wr.heap.size := hfr6 _ (Blk.new wr.drew 37 (encN nD)).lt (HLI.out.at_.fresh (Nat.le_refl _))
            clear hfr6 hstep6 hm6
            try dsimp only
            refine hK.out _ _ (⟨hbn6, hra6⟩) (fun hScq6 => ?_)
            try simp only [Act.put, List.setIfInBounds_toArray, List.set_cons_zero, List.set_cons_succ]
            refine wpAnyH_take (i := 7) (oi := ?oicq7) (v := ?vcq7) ?hicq7 ?hscq7 ?hfcq7 ?hrcq7 ?hQcq7 ?hycq7 ?hScq7 ?hcq7
            case hicq7 => (simp only [List.getElem?_toArray, List.getElem?_cons_succ, List.getElem?_cons_zero]; rfl)
            case hscq7 => kernel_rfl
            case hfcq7 => kernel_rfl
            case hrcq7 => kernel_rfl
            case hScq7 => first | assumption | trivial
            case hycq7 => refine Or.inl ⟨by kernel_rfl, ?_⟩; (intro w hSw; (try dsimp only at hSw); go_simp; try with_reducible rfl)
            case hQcq7 => exact fun _ _ _ h => h
            try simp only [Act.put, List.setIfInBounds_toArray, List.set_cons_zero, List.set_cons_succ]
            refine wpAnyH_take (i := 8) (oi := ?oicq8) (v := ?vcq8) ?hicq8 ?hscq8 ?hfcq8 ?hrcq8 ?hQcq8 ?hycq8 ?hScq8 ?hcq8
            case hicq8 => (simp only [List.getElem?_toArray, List.getElem?_cons_succ, List.getElem?_cons_zero]; rfl)
            case hscq8 => kernel_rfl
            case hfcq8 => kernel_rfl
            case hrcq8 => kernel_rfl
            case hScq8 => first | assumption | trivial
            case hycq8 => refine Or.inl ⟨by kernel_rfl, ?_⟩; (intro w hSw; (try dsimp only at hSw); go_simp; try with_reducible rfl)
            case hQcq8 => exact fun _ _ _ h => h
            try simp only [Act.put, List.setIfInBounds_toArray, List.set_cons_zero, List.set_cons_succ]
            refine wpAnyH_take (i := 9) (oi := ?oicq9) (v := ?vcq9) ?hicq9 ?hscq9 ?hfcq9 ?hrcq9 ?hQcq9 ?hycq9 ?hScq9 ?hcq9
            case hicq9 => (simp only [List.getElem?_toArray, List.getElem?_cons_succ, List.getElem?_cons_zero]; rfl)
            case hscq9 => kernel_rfl
            case hfcq9 => kernel_rfl
            case hrcq9 => kernel_rfl
            case hScq9 => first | assumption | trivial
            case hycq9 => refine Or.inl ⟨by kernel_rfl, ?_⟩; (intro w hSw; (try dsimp only at hSw); go_simp; try with_reducible rfl)
            case hQcq9 => exact fun _ _ _ h => h
            try simp only [Act.put, List.setIfInBounds_toArray, List.set_cons_zero, List.set_cons_succ]
            refine wpAnyH_ready (rs := [11]) (by kernel_rfl) (by simp) ?_
            refine AllReadyH.cons (by simp only [List.getElem?_toArray, List.getElem?_cons_succ, List.getElem?_cons_zero]; rfl) (fun K hK => ?_) AllReadyH.nil
            rw [if_pos (by kernel_rfl)]
            refine wp_store_mid 37 (.tmp 6) (.tmp 41) rfl wr.heap.size (0) (encN (ndV rv)).toArray rfl rfl (blk_there hbx6 (Nat.le_refl 13)) iszNd (all_oneCell_toArray (encN_ones _)) ?_
            refine hK.out _ _ (⟨hbn6.away 0 _ (by have := HLI.out.bn.lt; omega), (HZ2.out _ (HOLD.out.trans ((hat6.put (o := 0) (vs := encN (ndV rv)) (HLI.out.at_.size) hfX6).2.1.toBelow (B := w.heap.size) (fun k hk => by have := HMB.out; omega) HOLD.out.size)) i (by omega)).2⟩) (fun hScq11 => ?_)
            try simp only [Act.put, List.setIfInBounds_toArray, List.set_cons_zero, List.set_cons_succ]
            refine wpAnyH_take (i := 12) (oi := ?oicq12) (v := ?vcq12) ?hicq12 ?hscq12 ?hfcq12 ?hrcq12 ?hQcq12 ?hycq12 ?hScq12 ?hcq12
            case hicq12 => (simp only [List.getElem?_toArray, List.getElem?_cons_succ, List.getElem?_cons_zero]; rfl)
            case hscq12 => kernel_rfl
            case hfcq12 => kernel_rfl
            case hrcq12 => kernel_rfl
            case hScq12 => first | assumption | trivial
            case hycq12 => refine Or.inl ⟨by kernel_rfl, ?_⟩; (intro w hSw; (try dsimp only at hSw); go_simp; try with_reducible rfl)
            case hQcq12 => exact fun _ _ _ h => h
            try simp only [Act.put, List.setIfInBounds_toArray, List.set_cons_zero, List.set_cons_succ]
            have HT : Hid (LpX mb gN wm (w6.setCells wr.heap.size 0 (encN (ndV rv))) (i + 1) n wr.heap.size rv s2 F3) := Lib.hid ⟨hat6.put HLI.out.at_.size hfX6, hbn6.away 0 _ (by have := HLI.out.bn.lt; omega), hbx6.put rfl, hfN6, hfX6, by have := HLI.out.bn.lt; omega, HRN.out, HNW.out, HUQ.out, HTW.out⟩
            refine wpAnyH_done (by kernel_rfl) ?_ _
            go_wp2_with fail
            go_meet
            exact ⟨_, F3, rfl, rfl, HT⟩
        obtain ⟨g, F3, rfl, rfl, HT⟩ := hcut
        rcases HT.out.two with rfl | ⟨q, rfl⟩
        · unfold errV
          go_wp2_with fail
          go_roundw
          case rel => exact ⟨i + 1, n, s2, F3, by go_num, by omega, Lib.hid ⟨HT.out.at_, HT.out.bn, HT.out.fN, HT.out.rn, HT.out.nw, HT.out.uq⟩⟩
          case measure => simp [intOf]; omega
        · unfold errV
          have hl := fun op a next Q => loadW_blk (P := Tryd.prog) HT.out.bx Tryd.underlying37 rfl iszNd op a next Q
          have hst := fun op a next Q => storeW_part (P := Tryd.prog) (t := 37) (o := 0) (cs := encN q) HT.out.bn (Nat.le_refl 13) iszNd (encN_ones _) op a next Q
          have HL2 : Hid (LpI mb gN wm (wc.setCells gN 0 (encN q)) (i + 1) q s2 F3) := Lib.hid ⟨HT.out.at_.put HGN.out HT.out.fN, HT.out.bn.put rfl, HT.out.fN, HT.out.rn, HT.out.nw, HT.out.uq⟩
          unfold ndV at hl
          go_wp2_with fail
          go_roundw
          case rel => exact ⟨i + 1, q, s2, F3, by go_num, by omega, HL2⟩
          case measure => simp [intOf]; omega
      · have q2 : ¬ (i : Int) < (len : Int) := by omega
        have hik : i ≤ 40 := by omega
        obtain ⟨s1, e1, hL1, hR1⟩ := rn_whole HLI.out.rn HLI.out.nw
        obtain ⟨s2, e2, hL2, hR2⟩ := rn_all hR1 (by rw [hL1]; exact HLI.out.nw)
        rw [hL1] at e2 hL2
        obtain ⟨T, hT⟩ : ∃ T, T = txt st.L n := ⟨_, rfl⟩
        obtain ⟨out, hout⟩ : ∃ out, out = nPtrs st.L n := ⟨_, rfl⟩
        rw [← hT] at e1
        rw [← hout] at e2
        have HNF := Lib.hid (HLI.out.nwf (by omega))
        have hll := HLI.out.rn.l
        have HRW : Hid n.root.wf := Lib.hid (HNF.out.root)
        have HLV : Hid (isNone n.root = true ∨ n.root.level = (lvl n.size : Int)) := Lib.hid (by
          by_cases hh : isNone n.root = true
          · exact .inl hh
          · exact .inr (HLI.out.nw.wf.level (by simpa using hh)))
        have HNW := Lib.hid HLI.out.nw
        have HHD := Lib.hid (nPtrs_head HLI.out.nw)
        rw [← hout] at HHD
        have HUQ : Hid (out.Nodup) := Lib.hid (by rw [hout]; exact HLI.out.uq)
        have HBD : Hid (∀ x ∈ out, 0 ≤ x.aa ∧ x.aa < st.L.length) := Lib.hid (by rw [hout]; exact HLI.out.nw.wf.bound)
        have hld := fun op a next Q => loadW_blk (P := Tryd.prog) HLI.out.bn Tryd.underlying37 rfl iszNd op a next Q
        have HWH := Lib.hid (whole_any (mb := mb) HLI.out.at_.1 n HNF.out (by rw [e1]; exact hR1.ok (by omega)))
        rw [e1] at HWH
        have HE2 := Lib.hid e2
        have HL1 := Lib.hid hL1
        have HR1 := Lib.hid hR1
        have HL2 := Lib.hid hL2
        have HR2 := Lib.hid hR2
        have HT := Lib.hid hT
        have HOUT := Lib.hid hout
        clear e1 e2 hL1 hR1 hL2 hR2 hT hout
        go_wp2_with fail
        refine HWH.out.mono ?_
        rintro e w2 ⟨rfl, hstep⟩
        unfold wholeT
        obtain ⟨F2, hI2, _, _⟩ := HLI.out.step hstep HR1.out HL1.out
        have HI2 := Lib.hid hI2
        clear hstep hI2 hld
        have hld := fun op a next Q => loadW_blk (P := Tryd.prog) HI2.out.bn Tryd.underlying37 rfl iszNd op a next Q
        have HAL := Lib.hid (All_any (C := memC mb) HI2.out.at_.1 n HNF.out (lvl n.size) (lvl_le3 _) HLV.out (by rw [HE2.out]; exact HR2.out.ok (by omega)))
        rw [HE2.out] at HAL
        go_wp2_with fail
        refine HAL.out.mono ?_
        rintro e w3 ⟨v9, F3, rfl, hS⟩
        have hA3 : LpA mb gN wm w3 (i + 1 + 1) n s2 F3 v9 out := by
          obtain ⟨F', hI, hfr, hm⟩ := HI2.out.step ⟨F3, hS.at_.1, hS.at_.2.1, hS.at_.2.2⟩ HR2.out (by rw [HL2.out, HL1.out])
          have hat3 := HI2.out.at_
          refine ⟨⟨⟨hS.at_.1, hI.at_.2.1, fun x hx => ?_⟩, hI.bn, ?_, HR2.out, by rw [HL2.out]; exact HNW.out, by rw [HL2.out, ← HL1.out]; exact HI2.out.uq⟩, owns_weaken hS.row HI2.out.at_.size, fun g hg => ⟨hS.dis g hg, ?_⟩⟩
          · rcases hS.at_.2.2 x hx with h | h
            · exact HI2.out.at_.2.2 x h
            · exact .inr (Nat.le_trans HI2.out.at_.size h)
          · intro hx
            rcases hS.at_.2.2 _ hx with h | h
            · exact HI2.out.fN h
            · have := HI2.out.bn.lt; omega
          · have h1 := (hS.row.lt g hg).1
            have := HI2.out.bn.lt
            omega
        have HA3 := Lib.hid hA3
        obtain ⟨ao9, cp9, rfl⟩ := row_form hA3.rp
        clear hS hA3 hld
        go_upto_region 13 with fail
        go_cut [80] (fun vx wx => vx = .bool false ∧ Hid (LpA mb gN wm wx (i + 1 + 1) n s2 F3 (.slice ao9 out.length cp9) out))
        case first =>
          have HAD := Lib.hid (HA3.out.below (wc := w3.drew) (Below.refl _ _).drew)
          rcases HHD.out with ⟨hr, ho⟩ | ⟨hr, r, ho⟩
          · have hol : out.length = 0 := by rw [ho]; rfl
            have HOL := Lib.hid hol
            have HQ5 : Hid (((out.length : Int) == 0) = true) := Lib.hid (by simp; omega)
            have HQ15 : Hid (decide (0 < out.length) = false) := Lib.hid (by simp; exact List.eq_nil_of_length_eq_zero hol)
            have HDD : Hid (decide (n.root = pD) = true) := Lib.hid (decide_eq_true hr)
            clear hr ho hol
            refine wp_region_held_drew (S := fun w' => SB0 gN n w') (by kernel_rfl) ⟨HAD.out.lp.bn⟩ (fun hS0 => ?_)
            refine wpAnyH_take (i := 0) (oi := ?oia0) (v := ?va0) ?hia0 ?hsa0 ?hfa0 ?hra0 ?hQa0 ?hya0 ?hSa0 ?ha0
            case hia0 => (simp only [List.getElem?_toArray, List.getElem?_cons_succ, List.getElem?_cons_zero]; rfl)
            case hsa0 => kernel_rfl
            case hfa0 => kernel_rfl
            case hra0 => kernel_rfl
            case hSa0 => first | assumption | trivial
            case hya0 => refine Or.inl ⟨by kernel_rfl, ?_⟩; (intro w hSw; (try dsimp only at hSw); go_simp; try with_reducible rfl)
            case hQa0 => exact fun _ _ _ h => h
            try simp only [Act.put, List.setIfInBounds_toArray, List.set_cons_zero, List.set_cons_succ]
            refine wpAnyH_take (i := 1) (oi := ?oia1) (v := ?va1) ?hia1 ?hsa1 ?hfa1 ?hra1 ?hQa1 ?hya1 ?hSa1 ?ha1
            case hia1 => (simp only [List.getElem?_toArray, List.getElem?_cons_succ, List.getElem?_cons_zero]; rfl)
            case hsa1 => kernel_rfl
            case hfa1 => kernel_rfl
            case hra1 => kernel_rfl
            case hSa1 => first | assumption | trivial
            case hya1 => refine Or.inl ⟨by kernel_rfl, ?_⟩; (intro w hSw; (try dsimp only at hSw); go_simp; try with_reducible rfl)
            case hQa1 => exact fun _ _ _ h => h
            try simp only [Act.put, List.setIfInBounds_toArray, List.set_cons_zero, List.set_cons_succ]
            refine wpAnyH_take (i := 2) (oi := ?oia2) (v := ?va2) ?hia2 ?hsa2 ?hfa2 ?hra2 ?hQa2 ?hya2 ?hSa2 ?ha2
            case hia2 => (simp only [List.getElem?_toArray, List.getElem?_cons_succ, List.getElem?_cons_zero]; rfl)
            case hsa2 => kernel_rfl
            case hfa2 => kernel_rfl
            case hra2 => kernel_rfl
            case hSa2 => first | assumption | trivial
            case hya2 => refine Or.inl ⟨by kernel_rfl, ?_⟩; (intro w hSw; (try dsimp only at hSw); go_simp; try with_reducible rfl)
            case hQa2 => exact fun _ _ _ h => h
            try simp only [Act.put, List.setIfInBounds_toArray, List.set_cons_zero, List.set_cons_succ]
            refine wpAnyH_take (i := 3) (oi := ?oia3) (v := ?va3) ?hia3 ?hsa3 ?hfa3 ?hra3 ?hQa3 ?hya3 ?hSa3 ?ha3
            case hia3 => (simp only [List.getElem?_toArray, List.getElem?_cons_succ, List.getElem?_cons_zero]; rfl)
            case hsa3 => kernel_rfl
            case hfa3 => kernel_rfl
            case hra3 => kernel_rfl
            case hSa3 => first | assumption | trivial
            case hya3 => refine Or.inl ⟨by kernel_rfl, ?_⟩; (intro w hSw; (try dsimp only at hSw); go_simp; try with_reducible rfl)
            case hQa3 => exact fun _ _ _ h => h
            try simp only [Act.put, List.setIfInBounds_toArray, List.set_cons_zero, List.set_cons_succ]
            refine wpAnyH_take (i := 4) (oi := ?oia4) (v := ?va4) ?hia4 ?hsa4 ?hfa4 ?hra4 ?hQa4 ?hya4 ?hSa4 ?ha4
            case hia4 => (simp only [List.getElem?_toArray, List.getElem?_cons_succ, List.getElem?_cons_zero]; rfl)
            case hsa4 => kernel_rfl
            case hfa4 => kernel_rfl
            case hra4 => kernel_rfl
            case hSa4 => first | assumption | trivial
            case hya4 => refine Or.inl ⟨by kernel_rfl, ?_⟩; (intro w hSw; (try dsimp only at hSw); go_simp; try with_reducible rfl)
            case hQa4 => exact fun _ _ _ h => h
            try simp only [Act.put, List.setIfInBounds_toArray, List.set_cons_zero, List.set_cons_succ]
            refine wpAnyH_take (i := 5) (oi := ?oia5) (v := ?va5) ?hia5 ?hsa5 ?hfa5 ?hra5 ?hQa5 ?hya5 ?hSa5 ?ha5
            case hia5 => (simp only [List.getElem?_toArray, List.getElem?_cons_succ, List.getElem?_cons_zero]; rfl)
            case hsa5 => kernel_rfl
            case hfa5 => kernel_rfl
            case hra5 => kernel_rfl
            case hSa5 => first | assumption | trivial
            case hya5 => refine Or.inl ⟨by kernel_rfl, ?_⟩; (intro w hSw; (try dsimp only at hSw); go_simp; first | rw [HQ5.out] | simp only [HQ5.out])
            case hQa5 => exact fun _ _ _ h => h
            try simp only [Act.put, List.setIfInBounds_toArray, List.set_cons_zero, List.set_cons_succ]
            refine wpAnyH_take (i := 6) (oi := ?oia6) (v := ?va6) ?hia6 ?hsa6 ?hfa6 ?hra6 ?hQa6 ?hya6 ?hSa6 ?ha6
            case hia6 => (simp only [List.getElem?_toArray, List.getElem?_cons_succ, List.getElem?_cons_zero]; rfl)
            case hsa6 => kernel_rfl
            case hfa6 => kernel_rfl
            case hra6 => kernel_rfl
            case hSa6 => first | assumption | trivial
            case hya6 => refine Or.inl ⟨by kernel_rfl, ?_⟩; (intro w hSw; (try dsimp only at hSw); go_simp; try with_reducible rfl)
            case hQa6 => exact fun _ _ _ h => h
            try simp only [Act.put, List.setIfInBounds_toArray, List.set_cons_zero, List.set_cons_succ]
            refine wpAnyH_take (i := 7) (oi := ?oia7) (v := ?va7) ?hia7 ?hsa7 ?hfa7 ?hra7 ?hQa7 ?hya7 ?hSa7 ?ha7
            case hia7 => (simp only [List.getElem?_toArray, List.getElem?_cons_succ, List.getElem?_cons_zero]; rfl)
            case hsa7 => kernel_rfl
            case hfa7 => kernel_rfl
            case hra7 => kernel_rfl
            case hSa7 => first | assumption | trivial
            case hya7 => refine yieldsIf_load_mid (by kernel_rfl) 35 (.tmp 62) ?_ gN (1) ?_ (encPtr n.root) _ (fun w' hw => SB0.root hw) Tryd.underlying35 rfl iszPt <;> rfl
            case hQa7 => exact fun _ _ _ h => h
            try simp only [Act.put, List.setIfInBounds_toArray, List.set_cons_zero, List.set_cons_succ]
            refine wpAnyH_take (i := 8) (oi := ?oia8) (v := ?va8) ?hia8 ?hsa8 ?hfa8 ?hra8 ?hQa8 ?hya8 ?hSa8 ?ha8
            case hia8 => (simp only [List.getElem?_toArray, List.getElem?_cons_succ, List.getElem?_cons_zero]; rfl)
            case hsa8 => kernel_rfl
            case hfa8 => kernel_rfl
            case hra8 => kernel_rfl
            case hSa8 => first | assumption | trivial
            case hya8 => refine Or.inl ⟨by kernel_rfl, ?_⟩; (intro w hSw; (try dsimp only at hSw); go_simp; try with_reducible rfl)
            case hQa8 => exact fun _ _ _ h => h
            try simp only [Act.put, List.setIfInBounds_toArray, List.set_cons_zero, List.set_cons_succ]
            refine wpAnyH_take (i := 9) (oi := ?oia9) (v := ?va9) ?hia9 ?hsa9 ?hfa9 ?hra9 ?hQa9 ?hya9 ?hSa9 ?ha9
            case hia9 => (simp only [List.getElem?_toArray, List.getElem?_cons_succ, List.getElem?_cons_zero]; rfl)
            case hsa9 => kernel_rfl
            case hfa9 => kernel_rfl
            case hra9 => kernel_rfl
            case hSa9 => first | assumption | trivial
            case hya9 => exact (by refine yieldsIf_eqlPt (by kernel_rfl) (.tmp 63) (.tmp 64) 35 ?_ n.root pD ?_ ?_ HRW.out pD_wf HDD.out <;> rfl)
            case hQa9 => exact fun _ _ _ h => h
            try simp only [Act.put, List.setIfInBounds_toArray, List.set_cons_zero, List.set_cons_succ]
            refine wpAnyH_take (i := 10) (oi := ?oia10) (v := ?va10) ?hia10 ?hsa10 ?hfa10 ?hra10 ?hQa10 ?hya10 ?hSa10 ?ha10
            case hia10 => (simp only [List.getElem?_toArray, List.getElem?_cons_succ, List.getElem?_cons_zero]; rfl)
            case hsa10 => kernel_rfl
            case hfa10 => kernel_rfl
            case hra10 => kernel_rfl
            case hSa10 => first | assumption | trivial
            case hya10 => refine Or.inl ⟨by kernel_rfl, ?_⟩; (intro w hSw; (try dsimp only at hSw); go_simp; try with_reducible rfl)
            case hQa10 => exact fun _ _ _ h => h
            try simp only [Act.put, List.setIfInBounds_toArray, List.set_cons_zero, List.set_cons_succ]
            refine wpAnyH_take (i := 11) (oi := ?oia11) (v := ?va11) ?hia11 ?hsa11 ?hfa11 ?hra11 ?hQa11 ?hya11 ?hSa11 ?ha11
            case hia11 => (simp only [List.getElem?_toArray, List.getElem?_cons_succ, List.getElem?_cons_zero]; rfl)
            case hsa11 => kernel_rfl
            case hfa11 => kernel_rfl
            case hra11 => kernel_rfl
            case hSa11 => first | assumption | trivial
            case hya11 => refine Or.inl ⟨by kernel_rfl, ?_⟩; (intro w hSw; (try dsimp only at hSw); go_simp; try with_reducible rfl)
            case hQa11 => exact fun _ _ _ h => h
            try simp only [Act.put, List.setIfInBounds_toArray, List.set_cons_zero, List.set_cons_succ]
            refine wpAnyH_take (i := 12) (oi := ?oia12) (v := ?va12) ?hia12 ?hsa12 ?hfa12 ?hra12 ?hQa12 ?hya12 ?hSa12 ?ha12
            case hia12 => (simp only [List.getElem?_toArray, List.getElem?_cons_succ, List.getElem?_cons_zero]; rfl)
            case hsa12 => kernel_rfl
            case hfa12 => kernel_rfl
            case hra12 => kernel_rfl
            case hSa12 => first | assumption | trivial
            case hya12 => refine Or.inl ⟨by kernel_rfl, ?_⟩; (intro w hSw; (try dsimp only at hSw); go_simp; try with_reducible rfl)
            case hQa12 => exact fun _ _ _ h => h
            try simp only [Act.put, List.setIfInBounds_toArray, List.set_cons_zero, List.set_cons_succ]
            refine wpAnyH_take (i := 13) (oi := ?oia13) (v := ?va13) ?hia13 ?hsa13 ?hfa13 ?hra13 ?hQa13 ?hya13 ?hSa13 ?ha13
            case hia13 => (simp only [List.getElem?_toArray, List.getElem?_cons_succ, List.getElem?_cons_zero]; rfl)
            case hsa13 => kernel_rfl
            case hfa13 => kernel_rfl
            case hra13 => kernel_rfl
            case hSa13 => first | assumption | trivial
            case hya13 => refine Or.inl ⟨by kernel_rfl, ?_⟩; (intro w hSw; (try dsimp only at hSw); go_simp; try with_reducible rfl)
            case hQa13 => exact fun _ _ _ h => h
            try simp only [Act.put, List.setIfInBounds_toArray, List.set_cons_zero, List.set_cons_succ]
            refine wpAnyH_take (i := 14) (oi := ?oia14) (v := ?va14) ?hia14 ?hsa14 ?hfa14 ?hra14 ?hQa14 ?hya14 ?hSa14 ?ha14
            case hia14 => (simp only [List.getElem?_toArray, List.getElem?_cons_succ, List.getElem?_cons_zero]; rfl)
            case hsa14 => kernel_rfl
            case hfa14 => kernel_rfl
            case hra14 => kernel_rfl
            case hSa14 => first | assumption | trivial
            case hya14 => refine Or.inl ⟨by kernel_rfl, ?_⟩; (intro w hSw; (try dsimp only at hSw); go_simp; try with_reducible rfl)
            case hQa14 => exact fun _ _ _ h => h
            try simp only [Act.put, List.setIfInBounds_toArray, List.set_cons_zero, List.set_cons_succ]
            refine wpAnyH_take (i := 15) (oi := ?oia15) (v := ?va15) ?hia15 ?hsa15 ?hfa15 ?hra15 ?hQa15 ?hya15 ?hSa15 ?ha15
            case hia15 => (simp only [List.getElem?_toArray, List.getElem?_cons_succ, List.getElem?_cons_zero]; rfl)
            case hsa15 => kernel_rfl
            case hfa15 => kernel_rfl
            case hra15 => kernel_rfl
            case hSa15 => first | assumption | trivial
            case hya15 => refine Or.inl ⟨by kernel_rfl, ?_⟩; (intro w hSw; (try dsimp only at hSw); go_simp; first | rw [HQ15.out] | simp only [HQ15.out])
            case hQa15 => exact fun _ _ _ h => h
            try simp only [Act.put, List.setIfInBounds_toArray, List.set_cons_zero, List.set_cons_succ]
            refine wpAnyH_take (i := 16) (oi := ?oia16) (v := ?va16) ?hia16 ?hsa16 ?hfa16 ?hra16 ?hQa16 ?hya16 ?hSa16 ?ha16
            case hia16 => (simp only [List.getElem?_toArray, List.getElem?_cons_succ, List.getElem?_cons_zero]; rfl)
            case hsa16 => kernel_rfl
            case hfa16 => kernel_rfl
            case hra16 => kernel_rfl
            case hSa16 => first | assumption | trivial
            case hya16 => refine Or.inl ⟨by kernel_rfl, ?_⟩; (intro w hSw; (try dsimp only at hSw); go_simp; try with_reducible rfl)
            case hQa16 => exact fun _ _ _ h => h
            try simp only [Act.put, List.setIfInBounds_toArray, List.set_cons_zero, List.set_cons_succ]
            refine wpAnyH_take (i := 17) (oi := ?oia17) (v := undef) ?hia17 ?hsa17 ?hfa17 ?hra17 ?hQa17 ?hya17 ?hSa17 ?ha17
            case hia17 => (simp only [List.getElem?_toArray, List.getElem?_cons_succ, List.getElem?_cons_zero]; rfl)
            case hsa17 => kernel_rfl
            case hfa17 => kernel_rfl
            case hra17 => kernel_rfl
            case hSa17 => first | assumption | trivial
            case hya17 => exact Or.inr ⟨by kernel_rfl, rfl⟩
            case hQa17 => exact fun _ _ _ h => h
            try simp only [Act.put, List.setIfInBounds_toArray, List.set_cons_zero, List.set_cons_succ]
            refine wpAnyH_take (i := 18) (oi := ?oia18) (v := undef) ?hia18 ?hsa18 ?hfa18 ?hra18 ?hQa18 ?hya18 ?hSa18 ?ha18
            case hia18 => (simp only [List.getElem?_toArray, List.getElem?_cons_succ, List.getElem?_cons_zero]; rfl)
            case hsa18 => kernel_rfl
            case hfa18 => kernel_rfl
            case hra18 => kernel_rfl
            case hSa18 => first | assumption | trivial
            case hya18 => exact Or.inr ⟨by kernel_rfl, rfl⟩
            case hQa18 => exact fun _ _ _ h => h
            try simp only [Act.put, List.setIfInBounds_toArray, List.set_cons_zero, List.set_cons_succ]
            refine wpAnyH_take (i := 19) (oi := ?oia19) (v := undef) ?hia19 ?hsa19 ?hfa19 ?hra19 ?hQa19 ?hya19 ?hSa19 ?ha19
            case hia19 => (simp only [List.getElem?_toArray, List.getElem?_cons_succ, List.getElem?_cons_zero]; rfl)
            case hsa19 => kernel_rfl
            case hfa19 => kernel_rfl
            case hra19 => kernel_rfl
            case hSa19 => first | assumption | trivial
            case hya19 => exact Or.inr ⟨by kernel_rfl, rfl⟩
            case hQa19 => exact fun _ _ _ h => h
            try simp only [Act.put, List.setIfInBounds_toArray, List.set_cons_zero, List.set_cons_succ]
            refine wpAnyH_take (i := 20) (oi := ?oia20) (v := undef) ?hia20 ?hsa20 ?hfa20 ?hra20 ?hQa20 ?hya20 ?hSa20 ?ha20
            case hia20 => (simp only [List.getElem?_toArray, List.getElem?_cons_succ, List.getElem?_cons_zero]; rfl)
            case hsa20 => kernel_rfl
            case hfa20 => kernel_rfl
            case hra20 => kernel_rfl
            case hSa20 => first | assumption | trivial
            case hya20 => exact Or.inr ⟨by kernel_rfl, rfl⟩
            case hQa20 => exact fun _ _ _ h => h
            try simp only [Act.put, List.setIfInBounds_toArray, List.set_cons_zero, List.set_cons_succ]
            refine wpAnyH_take (i := 21) (oi := ?oia21) (v := undef) ?hia21 ?hsa21 ?hfa21 ?hra21 ?hQa21 ?hya21 ?hSa21 ?ha21
            case hia21 => (simp only [List.getElem?_toArray, List.getElem?_cons_succ, List.getElem?_cons_zero]; rfl)
            case hsa21 => kernel_rfl
            case hfa21 => kernel_rfl
            case hra21 => kernel_rfl
            case hSa21 => first | assumption | trivial
            case hya21 => exact Or.inr ⟨by kernel_rfl, rfl⟩
            case hQa21 => exact fun _ _ _ h => h
            try simp only [Act.put, List.setIfInBounds_toArray, List.set_cons_zero, List.set_cons_succ]
            refine wpAnyH_take (i := 22) (oi := ?oia22) (v := undef) ?hia22 ?hsa22 ?hfa22 ?hra22 ?hQa22 ?hya22 ?hSa22 ?ha22
            case hia22 => (simp only [List.getElem?_toArray, List.getElem?_cons_succ, List.getElem?_cons_zero]; rfl)
            case hsa22 => kernel_rfl
            case hfa22 => kernel_rfl
            case hra22 => kernel_rfl
            case hSa22 => first | assumption | trivial
            case hya22 => exact Or.inr ⟨by kernel_rfl, rfl⟩
            case hQa22 => exact fun _ _ _ h => h
            try simp only [Act.put, List.setIfInBounds_toArray, List.set_cons_zero, List.set_cons_succ]
            refine wpAnyH_take (i := 23) (oi := ?oia23) (v := ?va23) ?hia23 ?hsa23 ?hfa23 ?hra23 ?hQa23 ?hya23 ?hSa23 ?ha23
            case hia23 => (simp only [List.getElem?_toArray, List.getElem?_cons_succ, List.getElem?_cons_zero]; rfl)
            case hsa23 => kernel_rfl
            case hfa23 => kernel_rfl
            case hra23 => kernel_rfl
            case hSa23 => first | assumption | trivial
            case hya23 => refine Or.inl ⟨by kernel_rfl, ?_⟩; (intro w hSw; (try dsimp only at hSw); go_simp; try with_reducible rfl)
            case hQa23 => exact fun _ _ _ h => h
            try simp only [Act.put, List.setIfInBounds_toArray, List.set_cons_zero, List.set_cons_succ]
            refine wpAnyH_take (i := 24) (oi := ?oia24) (v := ?va24) ?hia24 ?hsa24 ?hfa24 ?hra24 ?hQa24 ?hya24 ?hSa24 ?ha24
            case hia24 => (simp only [List.getElem?_toArray, List.getElem?_cons_succ, List.getElem?_cons_zero]; rfl)
            case hsa24 => kernel_rfl
            case hfa24 => kernel_rfl
            case hra24 => kernel_rfl
            case hSa24 => first | assumption | trivial
            case hya24 => refine Or.inl ⟨by kernel_rfl, ?_⟩; (intro w hSw; (try dsimp only at hSw); go_simp; try with_reducible rfl)
            case hQa24 => exact fun _ _ _ h => h
            try simp only [Act.put, List.setIfInBounds_toArray, List.set_cons_zero, List.set_cons_succ]
            refine wpAnyH_done (by kernel_rfl) ?_ _
            try go_wp2_with fail
            go_meet
            exact ⟨by first | rfl | simp, HAD⟩
          · have hon : 0 < out.length := by rw [ho]; simp
            have HQ5 : Hid (((out.length : Int) == 0) = false) := Lib.hid (by simp; intro e; rw [e] at hon; simp at hon)
            have HQ15 : Hid (decide (0 < out.length) = true) := Lib.hid (decide_eq_true hon)
            obtain ⟨g9, hg9⟩ : ∃ g, ao9 = some ⟨g, 0, none⟩ := by
              obtain ⟨g, c, e⟩ := row_form1 HA3.out.rp (by omega)
              simp only [Value.slice.injEq] at e
              exact ⟨g, e.1⟩
            subst hg9
            have hrow : w3.drew.rangeAt g9 0 (encPtr n.root) := fun j v hv => by
              have hj : j < 12 := by
                by_cases hj : j < 12
                · exact hj
                · rw [List.getElem?_eq_none (by simp [encPtr]; omega)] at hv; cases hv
              have h1 := HAD.out.rp.cellAt (j := 0 + j) (by omega)
              rw [h1, ← hv]
              have h2 := encPs_get out 0 j (by omega) hj
              rw [Nat.zero_mul] at h2
              rw [h2, ho]; rfl
            have HS0 : Hid (SB gN g9 n w3.drew) := Lib.hid ⟨HAD.out.lp.bn, hrow⟩
            have HDD : Hid (decide (n.root = pD) = false) := Lib.hid (decide_eq_false hr)
            have HON := Lib.hid hon
            clear hrow hr ho hon
            refine wp_region_held_drew (S := fun w' => SB gN g9 n w') (by kernel_rfl) HS0.out (fun hS0 => ?_)
            refine wpAnyH_take (i := 0) (oi := ?oib0) (v := ?vb0) ?hib0 ?hsb0 ?hfb0 ?hrb0 ?hQb0 ?hyb0 ?hSb0 ?hb0
            case hib0 => (simp only [List.getElem?_toArray, List.getElem?_cons_succ, List.getElem?_cons_zero]; rfl)
            case hsb0 => kernel_rfl
            case hfb0 => kernel_rfl
            case hrb0 => kernel_rfl
            case hSb0 => first | assumption | trivial
            case hyb0 => refine Or.inl ⟨by kernel_rfl, ?_⟩; (intro w hSw; (try dsimp only at hSw); go_simp; try with_reducible rfl)
            case hQb0 => exact fun _ _ _ h => h
            try simp only [Act.put, List.setIfInBounds_toArray, List.set_cons_zero, List.set_cons_succ]
            refine wpAnyH_take (i := 1) (oi := ?oib1) (v := ?vb1) ?hib1 ?hsb1 ?hfb1 ?hrb1 ?hQb1 ?hyb1 ?hSb1 ?hb1
            case hib1 => (simp only [List.getElem?_toArray, List.getElem?_cons_succ, List.getElem?_cons_zero]; rfl)
            case hsb1 => kernel_rfl
            case hfb1 => kernel_rfl
            case hrb1 => kernel_rfl
            case hSb1 => first | assumption | trivial
            case hyb1 => refine Or.inl ⟨by kernel_rfl, ?_⟩; (intro w hSw; (try dsimp only at hSw); go_simp; try with_reducible rfl)
            case hQb1 => exact fun _ _ _ h => h
            try simp only [Act.put, List.setIfInBounds_toArray, List.set_cons_zero, List.set_cons_succ]
            refine wpAnyH_take (i := 2) (oi := ?oib2) (v := ?vb2) ?hib2 ?hsb2 ?hfb2 ?hrb2 ?hQb2 ?hyb2 ?hSb2 ?hb2
            case hib2 => (simp only [List.getElem?_toArray, List.getElem?_cons_succ, List.getElem?_cons_zero]; rfl)
            case hsb2 => kernel_rfl
            case hfb2 => kernel_rfl
            case hrb2 => kernel_rfl
            case hSb2 => first | assumption | trivial
            case hyb2 => refine Or.inl ⟨by kernel_rfl, ?_⟩; (intro w hSw; (try dsimp only at hSw); go_simp; try with_reducible rfl)
            case hQb2 => exact fun _ _ _ h => h
            try simp only [Act.put, List.setIfInBounds_toArray, List.set_cons_zero, List.set_cons_succ]
            refine wpAnyH_take (i := 3) (oi := ?oib3) (v := ?vb3) ?hib3 ?hsb3 ?hfb3 ?hrb3 ?hQb3 ?hyb3 ?hSb3 ?hb3
            case hib3 => (simp only [List.getElem?_toArray, List.getElem?_cons_succ, List.getElem?_cons_zero]; rfl)
            case hsb3 => kernel_rfl
            case hfb3 => kernel_rfl
            case hrb3 => kernel_rfl
            case hSb3 => first | assumption | trivial
            case hyb3 => refine Or.inl ⟨by kernel_rfl, ?_⟩; (intro w hSw; (try dsimp only at hSw); go_simp; try with_reducible rfl)
            case hQb3 => exact fun _ _ _ h => h
            try simp only [Act.put, List.setIfInBounds_toArray, List.set_cons_zero, List.set_cons_succ]
            refine wpAnyH_take (i := 4) (oi := ?oib4) (v := ?vb4) ?hib4 ?hsb4 ?hfb4 ?hrb4 ?hQb4 ?hyb4 ?hSb4 ?hb4
            case hib4 => (simp only [List.getElem?_toArray, List.getElem?_cons_succ, List.getElem?_cons_zero]; rfl)
            case hsb4 => kernel_rfl
            case hfb4 => kernel_rfl
            case hrb4 => kernel_rfl
            case hSb4 => first | assumption | trivial
            case hyb4 => refine Or.inl ⟨by kernel_rfl, ?_⟩; (intro w hSw; (try dsimp only at hSw); go_simp; try with_reducible rfl)
            case hQb4 => exact fun _ _ _ h => h
            try simp only [Act.put, List.setIfInBounds_toArray, List.set_cons_zero, List.set_cons_succ]
            refine wpAnyH_take (i := 5) (oi := ?oib5) (v := ?vb5) ?hib5 ?hsb5 ?hfb5 ?hrb5 ?hQb5 ?hyb5 ?hSb5 ?hb5
            case hib5 => (simp only [List.getElem?_toArray, List.getElem?_cons_succ, List.getElem?_cons_zero]; rfl)
            case hsb5 => kernel_rfl
            case hfb5 => kernel_rfl
            case hrb5 => kernel_rfl
            case hSb5 => first | assumption | trivial
            case hyb5 => refine Or.inl ⟨by kernel_rfl, ?_⟩; (intro w hSw; (try dsimp only at hSw); go_simp; first | rw [HQ5.out] | simp only [HQ5.out])
            case hQb5 => exact fun _ _ _ h => h
            try simp only [Act.put, List.setIfInBounds_toArray, List.set_cons_zero, List.set_cons_succ]
            refine wpAnyH_take (i := 6) (oi := ?oib6) (v := ?vb6) ?hib6 ?hsb6 ?hfb6 ?hrb6 ?hQb6 ?hyb6 ?hSb6 ?hb6
            case hib6 => (simp only [List.getElem?_toArray, List.getElem?_cons_succ, List.getElem?_cons_zero]; rfl)
            case hsb6 => kernel_rfl
            case hfb6 => kernel_rfl
            case hrb6 => kernel_rfl
            case hSb6 => first | assumption | trivial
            case hyb6 => refine Or.inl ⟨by kernel_rfl, ?_⟩; (intro w hSw; (try dsimp only at hSw); go_simp; try with_reducible rfl)
            case hQb6 => exact fun _ _ _ h => h
            try simp only [Act.put, List.setIfInBounds_toArray, List.set_cons_zero, List.set_cons_succ]
            refine wpAnyH_take (i := 7) (oi := ?oib7) (v := ?vb7) ?hib7 ?hsb7 ?hfb7 ?hrb7 ?hQb7 ?hyb7 ?hSb7 ?hb7
            case hib7 => (simp only [List.getElem?_toArray, List.getElem?_cons_succ, List.getElem?_cons_zero]; rfl)
            case hsb7 => kernel_rfl
            case hfb7 => kernel_rfl
            case hrb7 => kernel_rfl
            case hSb7 => first | assumption | trivial
            case hyb7 => refine yieldsIf_load_mid (by kernel_rfl) 35 (.tmp 62) ?_ gN (1) ?_ (encPtr n.root) _ (fun w' hw => SB.root hw) Tryd.underlying35 rfl iszPt <;> rfl
            case hQb7 => exact fun _ _ _ h => h
            try simp only [Act.put, List.setIfInBounds_toArray, List.set_cons_zero, List.set_cons_succ]
            refine wpAnyH_take (i := 8) (oi := ?oib8) (v := ?vb8) ?hib8 ?hsb8 ?hfb8 ?hrb8 ?hQb8 ?hyb8 ?hSb8 ?hb8
            case hib8 => (simp only [List.getElem?_toArray, List.getElem?_cons_succ, List.getElem?_cons_zero]; rfl)
            case hsb8 => kernel_rfl
            case hfb8 => kernel_rfl
            case hrb8 => kernel_rfl
            case hSb8 => first | assumption | trivial
            case hyb8 => refine Or.inl ⟨by kernel_rfl, ?_⟩; (intro w hSw; (try dsimp only at hSw); go_simp; try with_reducible rfl)
            case hQb8 => exact fun _ _ _ h => h
            try simp only [Act.put, List.setIfInBounds_toArray, List.set_cons_zero, List.set_cons_succ]
            refine wpAnyH_take (i := 9) (oi := ?oib9) (v := ?vb9) ?hib9 ?hsb9 ?hfb9 ?hrb9 ?hQb9 ?hyb9 ?hSb9 ?hb9
            case hib9 => (simp only [List.getElem?_toArray, List.getElem?_cons_succ, List.getElem?_cons_zero]; rfl)
            case hsb9 => kernel_rfl
            case hfb9 => kernel_rfl
            case hrb9 => kernel_rfl
            case hSb9 => first | assumption | trivial
            case hyb9 => exact (by refine yieldsIf_eqlPt (by kernel_rfl) (.tmp 63) (.tmp 64) 35 ?_ n.root pD ?_ ?_ HRW.out pD_wf HDD.out <;> rfl)
            case hQb9 => exact fun _ _ _ h => h
            try simp only [Act.put, List.setIfInBounds_toArray, List.set_cons_zero, List.set_cons_succ]
            refine wpAnyH_take (i := 10) (oi := ?oib10) (v := ?vb10) ?hib10 ?hsb10 ?hfb10 ?hrb10 ?hQb10 ?hyb10 ?hSb10 ?hb10
            case hib10 => (simp only [List.getElem?_toArray, List.getElem?_cons_succ, List.getElem?_cons_zero]; rfl)
            case hsb10 => kernel_rfl
            case hfb10 => kernel_rfl
            case hrb10 => kernel_rfl
            case hSb10 => first | assumption | trivial
            case hyb10 => refine Or.inl ⟨by kernel_rfl, ?_⟩; (intro w hSw; (try dsimp only at hSw); go_simp; try with_reducible rfl)
            case hQb10 => exact fun _ _ _ h => h
            try simp only [Act.put, List.setIfInBounds_toArray, List.set_cons_zero, List.set_cons_succ]
            refine wpAnyH_take (i := 11) (oi := ?oib11) (v := ?vb11) ?hib11 ?hsb11 ?hfb11 ?hrb11 ?hQb11 ?hyb11 ?hSb11 ?hb11
            case hib11 => (simp only [List.getElem?_toArray, List.getElem?_cons_succ, List.getElem?_cons_zero]; rfl)
            case hsb11 => kernel_rfl
            case hfb11 => kernel_rfl
            case hrb11 => kernel_rfl
            case hSb11 => first | assumption | trivial
            case hyb11 => refine Or.inl ⟨by kernel_rfl, ?_⟩; (intro w hSw; (try dsimp only at hSw); go_simp; try with_reducible rfl)
            case hQb11 => exact fun _ _ _ h => h
            try simp only [Act.put, List.setIfInBounds_toArray, List.set_cons_zero, List.set_cons_succ]
            refine wpAnyH_take (i := 12) (oi := ?oib12) (v := ?vb12) ?hib12 ?hsb12 ?hfb12 ?hrb12 ?hQb12 ?hyb12 ?hSb12 ?hb12
            case hib12 => (simp only [List.getElem?_toArray, List.getElem?_cons_succ, List.getElem?_cons_zero]; rfl)
            case hsb12 => kernel_rfl
            case hfb12 => kernel_rfl
            case hrb12 => kernel_rfl
            case hSb12 => first | assumption | trivial
            case hyb12 => refine Or.inl ⟨by kernel_rfl, ?_⟩; (intro w hSw; (try dsimp only at hSw); go_simp; try with_reducible rfl)
            case hQb12 => exact fun _ _ _ h => h
            try simp only [Act.put, List.setIfInBounds_toArray, List.set_cons_zero, List.set_cons_succ]
            refine wpAnyH_take (i := 13) (oi := ?oib13) (v := ?vb13) ?hib13 ?hsb13 ?hfb13 ?hrb13 ?hQb13 ?hyb13 ?hSb13 ?hb13
            case hib13 => (simp only [List.getElem?_toArray, List.getElem?_cons_succ, List.getElem?_cons_zero]; rfl)
            case hsb13 => kernel_rfl
            case hfb13 => kernel_rfl
            case hrb13 => kernel_rfl
            case hSb13 => first | assumption | trivial
            case hyb13 => refine Or.inl ⟨by kernel_rfl, ?_⟩; (intro w hSw; (try dsimp only at hSw); go_simp; try with_reducible rfl)
            case hQb13 => exact fun _ _ _ h => h
            try simp only [Act.put, List.setIfInBounds_toArray, List.set_cons_zero, List.set_cons_succ]
            refine wpAnyH_take (i := 14) (oi := ?oib14) (v := ?vb14) ?hib14 ?hsb14 ?hfb14 ?hrb14 ?hQb14 ?hyb14 ?hSb14 ?hb14
            case hib14 => (simp only [List.getElem?_toArray, List.getElem?_cons_succ, List.getElem?_cons_zero]; rfl)
            case hsb14 => kernel_rfl
            case hfb14 => kernel_rfl
            case hrb14 => kernel_rfl
            case hSb14 => first | assumption | trivial
            case hyb14 => refine Or.inl ⟨by kernel_rfl, ?_⟩; (intro w hSw; (try dsimp only at hSw); go_simp; try with_reducible rfl)
            case hQb14 => exact fun _ _ _ h => h
            try simp only [Act.put, List.setIfInBounds_toArray, List.set_cons_zero, List.set_cons_succ]
            refine wpAnyH_take (i := 15) (oi := ?oib15) (v := ?vb15) ?hib15 ?hsb15 ?hfb15 ?hrb15 ?hQb15 ?hyb15 ?hSb15 ?hb15
            case hib15 => (simp only [List.getElem?_toArray, List.getElem?_cons_succ, List.getElem?_cons_zero]; rfl)
            case hsb15 => kernel_rfl
            case hfb15 => kernel_rfl
            case hrb15 => kernel_rfl
            case hSb15 => first | assumption | trivial
            case hyb15 => refine Or.inl ⟨by kernel_rfl, ?_⟩; (intro w hSw; (try dsimp only at hSw); go_simp; first | rw [HQ15.out] | simp only [HQ15.out])
            case hQb15 => exact fun _ _ _ h => h
            try simp only [Act.put, List.setIfInBounds_toArray, List.set_cons_zero, List.set_cons_succ]
            refine wpAnyH_take (i := 16) (oi := ?oib16) (v := ?vb16) ?hib16 ?hsb16 ?hfb16 ?hrb16 ?hQb16 ?hyb16 ?hSb16 ?hb16
            case hib16 => (simp only [List.getElem?_toArray, List.getElem?_cons_succ, List.getElem?_cons_zero]; rfl)
            case hsb16 => kernel_rfl
            case hfb16 => kernel_rfl
            case hrb16 => kernel_rfl
            case hSb16 => first | assumption | trivial
            case hyb16 => refine Or.inl ⟨by kernel_rfl, ?_⟩; (intro w hSw; (try dsimp only at hSw); go_simp; try with_reducible rfl)
            case hQb16 => exact fun _ _ _ h => h
            try simp only [Act.put, List.setIfInBounds_toArray, List.set_cons_zero, List.set_cons_succ]
            refine wpAnyH_take (i := 17) (oi := ?oib17) (v := ?vb17) ?hib17 ?hsb17 ?hfb17 ?hrb17 ?hQb17 ?hyb17 ?hSb17 ?hb17
            case hib17 => (simp only [List.getElem?_toArray, List.getElem?_cons_succ, List.getElem?_cons_zero]; rfl)
            case hsb17 => kernel_rfl
            case hfb17 => kernel_rfl
            case hrb17 => kernel_rfl
            case hSb17 => first | assumption | trivial
            case hyb17 => refine Or.inl ⟨by kernel_rfl, ?_⟩; (intro w hSw; (try dsimp only at hSw); go_simp; try with_reducible rfl)
            case hQb17 => exact fun _ _ _ h => h
            try simp only [Act.put, List.setIfInBounds_toArray, List.set_cons_zero, List.set_cons_succ]
            refine wpAnyH_take (i := 18) (oi := ?oib18) (v := ?vb18) ?hib18 ?hsb18 ?hfb18 ?hrb18 ?hQb18 ?hyb18 ?hSb18 ?hb18
            case hib18 => (simp only [List.getElem?_toArray, List.getElem?_cons_succ, List.getElem?_cons_zero]; rfl)
            case hsb18 => kernel_rfl
            case hfb18 => kernel_rfl
            case hrb18 => kernel_rfl
            case hSb18 => first | assumption | trivial
            case hyb18 => refine Or.inl ⟨by kernel_rfl, ?_⟩; (intro w hSw; (try dsimp only at hSw); go_simp; have hon := HON.out; first | with_reducible rfl | rw [if_pos (by omega)])
            case hQb18 => exact fun _ _ _ h => h
            try simp only [Act.put, List.setIfInBounds_toArray, List.set_cons_zero, List.set_cons_succ]
            refine wpAnyH_take (i := 19) (oi := ?oib19) (v := ?vb19) ?hib19 ?hsb19 ?hfb19 ?hrb19 ?hQb19 ?hyb19 ?hSb19 ?hb19
            case hib19 => (simp only [List.getElem?_toArray, List.getElem?_cons_succ, List.getElem?_cons_zero]; rfl)
            case hsb19 => kernel_rfl
            case hfb19 => kernel_rfl
            case hrb19 => kernel_rfl
            case hSb19 => first | assumption | trivial
            case hyb19 => refine yieldsIf_load_mid (by kernel_rfl) 35 (.tmp 74) ?_ g9 (0) ?_ (encPtr n.root) _ (fun w' hw => SB.row hw) Tryd.underlying35 rfl iszPt <;> rfl
            case hQb19 => exact fun _ _ _ h => h
            try simp only [Act.put, List.setIfInBounds_toArray, List.set_cons_zero, List.set_cons_succ]
            refine wpAnyH_take (i := 20) (oi := ?oib20) (v := ?vb20) ?hib20 ?hsb20 ?hfb20 ?hrb20 ?hQb20 ?hyb20 ?hSb20 ?hb20
            case hib20 => (simp only [List.getElem?_toArray, List.getElem?_cons_succ, List.getElem?_cons_zero]; rfl)
            case hsb20 => kernel_rfl
            case hfb20 => kernel_rfl
            case hrb20 => kernel_rfl
            case hSb20 => first | assumption | trivial
            case hyb20 => refine Or.inl ⟨by kernel_rfl, ?_⟩; (intro w hSw; (try dsimp only at hSw); go_simp; try with_reducible rfl)
            case hQb20 => exact fun _ _ _ h => h
            try simp only [Act.put, List.setIfInBounds_toArray, List.set_cons_zero, List.set_cons_succ]
            refine wpAnyH_take (i := 21) (oi := ?oib21) (v := ?vb21) ?hib21 ?hsb21 ?hfb21 ?hrb21 ?hQb21 ?hyb21 ?hSb21 ?hb21
            case hib21 => (simp only [List.getElem?_toArray, List.getElem?_cons_succ, List.getElem?_cons_zero]; rfl)
            case hsb21 => kernel_rfl
            case hfb21 => kernel_rfl
            case hrb21 => kernel_rfl
            case hSb21 => first | assumption | trivial
            case hyb21 => refine yieldsIf_load_mid (by kernel_rfl) 35 (.tmp 76) ?_ gN (1) ?_ (encPtr n.root) _ (fun w' hw => SB.root hw) Tryd.underlying35 rfl iszPt <;> rfl
            case hQb21 => exact fun _ _ _ h => h
            try simp only [Act.put, List.setIfInBounds_toArray, List.set_cons_zero, List.set_cons_succ]
            refine wpAnyH_take (i := 22) (oi := ?oib22) (v := ?vb22) ?hib22 ?hsb22 ?hfb22 ?hrb22 ?hQb22 ?hyb22 ?hSb22 ?hb22
            case hib22 => (simp only [List.getElem?_toArray, List.getElem?_cons_succ, List.getElem?_cons_zero]; rfl)
            case hsb22 => kernel_rfl
            case hfb22 => kernel_rfl
            case hrb22 => kernel_rfl
            case hSb22 => first | assumption | trivial
            case hyb22 => exact (by refine yieldsIf_neqPt (by kernel_rfl) (.tmp 75) (.tmp 77) 35 ?_ n.root n.root ?_ ?_ HRW.out HRW.out (b := false) (by simp) <;> rfl)
            case hQb22 => exact fun _ _ _ h => h
            try simp only [Act.put, List.setIfInBounds_toArray, List.set_cons_zero, List.set_cons_succ]
            refine wpAnyH_take (i := 23) (oi := ?oib23) (v := ?vb23) ?hib23 ?hsb23 ?hfb23 ?hrb23 ?hQb23 ?hyb23 ?hSb23 ?hb23
            case hib23 => (simp only [List.getElem?_toArray, List.getElem?_cons_succ, List.getElem?_cons_zero]; rfl)
            case hsb23 => kernel_rfl
            case hfb23 => kernel_rfl
            case hrb23 => kernel_rfl
            case hSb23 => first | assumption | trivial
            case hyb23 => refine Or.inl ⟨by kernel_rfl, ?_⟩; (intro w hSw; (try dsimp only at hSw); go_simp; try with_reducible rfl)
            case hQb23 => exact fun _ _ _ h => h
            try simp only [Act.put, List.setIfInBounds_toArray, List.set_cons_zero, List.set_cons_succ]
            refine wpAnyH_take (i := 24) (oi := ?oib24) (v := ?vb24) ?hib24 ?hsb24 ?hfb24 ?hrb24 ?hQb24 ?hyb24 ?hSb24 ?hb24
            case hib24 => (simp only [List.getElem?_toArray, List.getElem?_cons_succ, List.getElem?_cons_zero]; rfl)
            case hsb24 => kernel_rfl
            case hfb24 => kernel_rfl
            case hrb24 => kernel_rfl
            case hSb24 => first | assumption | trivial
            case hyb24 => refine Or.inl ⟨by kernel_rfl, ?_⟩; (intro w hSw; (try dsimp only at hSw); go_simp; try with_reducible rfl)
            case hQb24 => exact fun _ _ _ h => h
            try simp only [Act.put, List.setIfInBounds_toArray, List.set_cons_zero, List.set_cons_succ]
            refine wpAnyH_done (by kernel_rfl) ?_ _
            try go_wp2_with fail
            go_meet
            exact ⟨by first | rfl | simp, HAD⟩
        obtain ⟨rfl, HA4⟩ := hcut
        obtain ⟨v, hmem, hF⟩ : memIs mb wc s2 F3 := HA4.out.lp.at_.1
        obtain ⟨ao, cp, rfl⟩ := row_form hmem.row
        have hLe : s2.L = st.L := HL2.out
        have hc0 : wc.cell? ⟨mb, 0, none⟩ = some (.slice ao st.L.length cp) := by rw [← hLe]; exact hmem.c0
        have hmk : (Instr.makeSlice 25 (.int .i64 (st.L.length : Int)) (.int .i64 (st.L.length : Int))).run Tryd.prog wc = .ok (.slice (some ⟨wc.heap.size, 0, none⟩) st.L.length st.L.length) (wc.alloc (.cells (encS (bts (List.replicate st.L.length []))).toArray 9)) := by
          obtain ⟨i0, hi, hi0, hi1, hi2⟩ := info_parts infoStr
          have := run_make (P := Tryd.prog) wc 25 9 i0 (.string ⟨#[]⟩) Tryd.underlying25 hi hi0 .i64 .i64 (st.L.length : Int) (st.L.length : Int) (by omega) (by omega) (by rw [hi2]; omega) (by omega)
          rw [this, hi1]
          simp only [Int.toNat_natCast]
          rw [← encS_zero]
        have hln : HLen st.L.length := ⟨by omega⟩
        obtain ⟨wo, hwo⟩ : ∃ wo, wo = (wc.alloc (.cells (encS (bts (List.replicate st.L.length []))).toArray 9)).alloc (.cells #[.slice (some ⟨wc.heap.size, 0, none⟩) st.L.length st.L.length, .int .i64 0, .int .i64 0] 27) := ⟨_, rfl⟩
        obtain ⟨go, hgo⟩ : ∃ go, go = wc.heap.size := ⟨_, rfl⟩
        obtain ⟨ob, hob⟩ : ∃ ob, ob = wc.heap.size + 1 := ⟨_, rfl⟩
        have hB0 : LpB mb gN go ob wm wo (i + 1 + 1) n s2 F3 (.slice ao9 out.length cp9) out (List.replicate st.L.length []) := by
          have hbel : Below wc.heap.size wc wo := by rw [hwo]; exact ((Below.refl _ _).alloc (Nat.le_refl _) _).alloc (by simp) _
          have hA := HA4.out.below hbel
          have hlt := (memC mb).lt HA4.out.lp.at_.1
          have hgl := HA4.out.lp.bn.lt
          refine ⟨hA, ?_, ?_, fun hf => ?_, fun hf => ?_, fun hv => ?_, fun hv => ?_, by omega, by omega, by omega, ?_, ?_⟩
          · rw [hwo, hgo]; exact (Blk.new wc _ _).alloc _
          · rw [hwo, hob, hgo, List.length_replicate]; exact Blk.newAt (w := wc.alloc _) _ _ (by simp)
          · have := hlt _ hf; omega
          · have := hlt _ hf; omega
          · have := (HA4.out.rp.lt _ hv).2; omega
          · have := (HA4.out.rp.lt _ hv).2; omega
          · have := HA4.out.lp.at_.size; omega
          · have := HA4.out.lp.at_.size; omega
        have HB0 := Lib.hid hB0
        have HPW : Hid (∀ x ∈ out, x.wf) := Lib.hid (by rw [HOUT.out]; exact HNW.out.wf.ptrs_wf (lvl_le3 _) (by omega))
        have HLS : Hid (∀ t ∈ st.L, t.length ≤ 256) := Lib.hid (by rw [← HL2.out]; exact HR2.out.t)
        clear hmem hF hLe hB0
        go_upto_region 16 with fail
        rw [← hwo, ← hob]
        clear hwo hob hgo hmk hc0
        go_wp2_with fail
        go_loopw [12] (fun vi wr => ∃ (ii : Nat) (oL : List Bs), vi = .int .i64 ii ∧ ii ≤ out.length ∧ Hid (LpB mb gN go ob wm wr (i + 1 + 1) n s2 F3 (.slice ao9 out.length cp9) out oL) ∧ Hid (Part st.L oL out ii)) (fun vi _ => out.length - (intOf vi).toNat)
        case atStart => exact ⟨0, _, rfl, Nat.zero_le _, HB0, Lib.hid (Part.start _ _)⟩
        case round =>
          obtain ⟨ii, oL, rfl, hii, HLB, HPA⟩ := hrel
          have hmx9 : out.length ≤ 9223372036854775807 := by
            have hr := rsl_of_owns HLB.out.a.rp
            have h1 := hr.2.1
            have h2 := hr.2.2.1
            unfold maxLen at h2
            omega
          by_cases hil2 : ii < out.length
          · have r1 : (ii : Int) < (out.length : Int) := by omega
            have r3 : 0 ≤ (ii : Int) := by omega
            obtain ⟨g9, cp9, hv9⟩ := row_form1 HLB.out.a.rp (by omega)
            simp only [Value.slice.injEq] at hv9
            obtain ⟨rfl, _, rfl⟩ := hv9
            have HPR : Hid (∀ (W : World) (oL : List Bs) (j : Nat), LpB mb gN go ob wm W (i + 1 + 1) n s2 F3 (.slice (some ⟨g9, 0, none⟩) out.length cp9) out oL → j < out.length → W.rangeAt g9 (j * 12) (encPtr (out.getD j pD))) := Lib.hid (fun W oL j hb hj => fun c v hv => by
              have hc12 : c < 12 := by
                by_cases hc : c < 12
                · exact hc
                · rw [List.getElem?_eq_none (by simp [encPtr]; omega)] at hv; cases hv
              rw [hb.a.rp.cellAt _ (by omega), encPs_get out j c hj hc12, hv])
            have hmi : out.getD ii pD ∈ out := by rw [List.getD_eq_getElem?_getD, List.getElem?_eq_getElem hil2]; exact List.getElem_mem _
            have hbi := HBD.out _ hmi
            have HWI : Hid (out.getD ii pD).wf := Lib.hid (HPW.out _ hmi)
            obtain ⟨jj, hjj⟩ : ∃ jj : Nat, (out.getD ii pD).aa = jj := ⟨(out.getD ii pD).aa.toNat, by omega⟩
            have hjl : jj < st.L.length := by omega
            have HJJ := Lib.hid hjj
            clear hmi hbi hjj
            go_wp2_with fail
            go_loopw [13] (fun vk wk => ∃ (kk : Nat), vk = .int .i64 kk ∧ kk ≤ ii ∧ Hid (LpB mb gN go ob wm wk (i + 1 + 1) n s2 F3 (.slice (some ⟨g9, 0, none⟩) out.length cp9) out oL)) (fun vk _ => ii - (intOf vk).toNat)
            case atStart => exact ⟨0, rfl, Nat.zero_le _, HLB⟩
            case round =>
              obtain ⟨kk, rfl, hkk, HLK⟩ := hrel
              by_cases hkl : kk < ii
              · have s1' : (kk : Int) < (ii : Int) := by omega
                have s2' : (kk : Int) < (out.length : Int) := by omega
                have s3' : 0 ≤ (kk : Int) := by omega
                have hmk2 : out.getD kk pD ∈ out := by rw [List.getD_eq_getElem?_getD, List.getElem?_eq_getElem (show kk < out.length by omega)]; exact List.getElem_mem _
                have HWK : Hid (out.getD kk pD).wf := Lib.hid (HPW.out _ hmk2)
                have HNE : Hid (decide (out.getD kk pD = out.getD ii pD) = false) := Lib.hid (decide_eq_false (fun e => by
                  rw [List.getD_eq_getElem?_getD, List.getD_eq_getElem?_getD, List.getElem?_eq_getElem hil2, List.getElem?_eq_getElem (show kk < out.length by omega)] at e
                  have := (List.getElem_inj HUQ.out).1 e
                  omega))
                have HLD := Lib.hid (HLK.out.below (wc := wr.drew) (Below.refl _ _).drew)
                clear hmk2
                go_upto_region 22 with fail
                refine wp_region_held_drew (S := fun w' => w'.rangeAt g9 (kk * 12) (encPtr (out.getD kk pD)) ∧ w'.rangeAt g9 (ii * 12) (encPtr (out.getD ii pD))) (by kernel_rfl) ⟨HPR.out _ _ kk HLD.out (by omega), HPR.out _ _ ii HLD.out hil2⟩ (fun hS0 => ?_)
                refine wpAnyH_take (i := 0) (oi := ?oik0) (v := ?vk0) ?hik0 ?hsk0 ?hfk0 ?hrk0 ?hQk0 ?hyk0 ?hSk0 ?hk0
                case hik0 => (simp only [List.getElem?_toArray, List.getElem?_cons_succ, List.getElem?_cons_zero]; rfl)
                case hsk0 => kernel_rfl
                case hfk0 => kernel_rfl
                case hrk0 => kernel_rfl
                case hSk0 => first | assumption | trivial
                case hyk0 => refine Or.inl ⟨by kernel_rfl, ?_⟩; (intro w hSw; (try dsimp only at hSw); go_simp; try with_reducible rfl)
                case hQk0 => exact fun _ _ _ h => h
                try simp only [Act.put, List.setIfInBounds_toArray, List.set_cons_zero, List.set_cons_succ]
                refine wpAnyH_take (i := 1) (oi := ?oik1) (v := ?vk1) ?hik1 ?hsk1 ?hfk1 ?hrk1 ?hQk1 ?hyk1 ?hSk1 ?hk1
                case hik1 => (simp only [List.getElem?_toArray, List.getElem?_cons_succ, List.getElem?_cons_zero]; rfl)
                case hsk1 => kernel_rfl
                case hfk1 => kernel_rfl
                case hrk1 => kernel_rfl
                case hSk1 => first | assumption | trivial
                case hyk1 => refine Or.inl ⟨by kernel_rfl, ?_⟩; (intro w hSw; (try dsimp only at hSw); go_simp; try with_reducible rfl)
                case hQk1 => exact fun _ _ _ h => h
                try simp only [Act.put, List.setIfInBounds_toArray, List.set_cons_zero, List.set_cons_succ]
                refine wpAnyH_take (i := 2) (oi := ?oik2) (v := ?vk2) ?hik2 ?hsk2 ?hfk2 ?hrk2 ?hQk2 ?hyk2 ?hSk2 ?hk2
                case hik2 => (simp only [List.getElem?_toArray, List.getElem?_cons_succ, List.getElem?_cons_zero]; rfl)
                case hsk2 => kernel_rfl
                case hfk2 => kernel_rfl
                case hrk2 => kernel_rfl
                case hSk2 => first | assumption | trivial
                case hyk2 => refine Or.inl ⟨by kernel_rfl, ?_⟩; (intro w hSw; (try dsimp only at hSw); go_simp; first | with_reducible rfl | rw [if_pos (by omega)])
                case hQk2 => exact fun _ _ _ h => h
                try simp only [Act.put, List.setIfInBounds_toArray, List.set_cons_zero, List.set_cons_succ]
                refine wpAnyH_take (i := 3) (oi := ?oik3) (v := ?vk3) ?hik3 ?hsk3 ?hfk3 ?hrk3 ?hQk3 ?hyk3 ?hSk3 ?hk3
                case hik3 => (simp only [List.getElem?_toArray, List.getElem?_cons_succ, List.getElem?_cons_zero]; rfl)
                case hsk3 => kernel_rfl
                case hfk3 => kernel_rfl
                case hrk3 => kernel_rfl
                case hSk3 => first | assumption | trivial
                case hyk3 => refine yieldsIf_load_mid (by kernel_rfl) 35 (.tmp 102) ?_ g9 ((kk * 12)) ?_ (encPtr (out.getD kk pD)) _ (fun w' hw => range_both1 hw) Tryd.underlying35 rfl iszPt <;> rfl
                case hQk3 => exact fun _ _ _ h => h
                try simp only [Act.put, List.setIfInBounds_toArray, List.set_cons_zero, List.set_cons_succ]
                refine wpAnyH_take (i := 4) (oi := ?oik4) (v := ?vk4) ?hik4 ?hsk4 ?hfk4 ?hrk4 ?hQk4 ?hyk4 ?hSk4 ?hk4
                case hik4 => (simp only [List.getElem?_toArray, List.getElem?_cons_succ, List.getElem?_cons_zero]; rfl)
                case hsk4 => kernel_rfl
                case hfk4 => kernel_rfl
                case hrk4 => kernel_rfl
                case hSk4 => first | assumption | trivial
                case hyk4 => refine Or.inl ⟨by kernel_rfl, ?_⟩; (intro w hSw; (try dsimp only at hSw); go_simp; try with_reducible rfl)
                case hQk4 => exact fun _ _ _ h => h
                try simp only [Act.put, List.setIfInBounds_toArray, List.set_cons_zero, List.set_cons_succ]
                refine wpAnyH_take (i := 5) (oi := ?oik5) (v := ?vk5) ?hik5 ?hsk5 ?hfk5 ?hrk5 ?hQk5 ?hyk5 ?hSk5 ?hk5
                case hik5 => (simp only [List.getElem?_toArray, List.getElem?_cons_succ, List.getElem?_cons_zero]; rfl)
                case hsk5 => kernel_rfl
                case hfk5 => kernel_rfl
                case hrk5 => kernel_rfl
                case hSk5 => first | assumption | trivial
                case hyk5 => refine Or.inl ⟨by kernel_rfl, ?_⟩; (intro w hSw; (try dsimp only at hSw); go_simp; try with_reducible rfl)
                case hQk5 => exact fun _ _ _ h => h
                try simp only [Act.put, List.setIfInBounds_toArray, List.set_cons_zero, List.set_cons_succ]
                refine wpAnyH_take (i := 6) (oi := ?oik6) (v := ?vk6) ?hik6 ?hsk6 ?hfk6 ?hrk6 ?hQk6 ?hyk6 ?hSk6 ?hk6
                case hik6 => (simp only [List.getElem?_toArray, List.getElem?_cons_succ, List.getElem?_cons_zero]; rfl)
                case hsk6 => kernel_rfl
                case hfk6 => kernel_rfl
                case hrk6 => kernel_rfl
                case hSk6 => first | assumption | trivial
                case hyk6 => refine Or.inl ⟨by kernel_rfl, ?_⟩; (intro w hSw; (try dsimp only at hSw); go_simp; first | with_reducible rfl | rw [if_pos (by omega)])
                case hQk6 => exact fun _ _ _ h => h
                try simp only [Act.put, List.setIfInBounds_toArray, List.set_cons_zero, List.set_cons_succ]
                refine wpAnyH_take (i := 7) (oi := ?oik7) (v := ?vk7) ?hik7 ?hsk7 ?hfk7 ?hrk7 ?hQk7 ?hyk7 ?hSk7 ?hk7
                case hik7 => (simp only [List.getElem?_toArray, List.getElem?_cons_succ, List.getElem?_cons_zero]; rfl)
                case hsk7 => kernel_rfl
                case hfk7 => kernel_rfl
                case hrk7 => kernel_rfl
                case hSk7 => first | assumption | trivial
                case hyk7 => refine yieldsIf_load_mid (by kernel_rfl) 35 (.tmp 106) ?_ g9 ((ii * 12)) ?_ (encPtr (out.getD ii pD)) _ (fun w' hw => range_both2 hw) Tryd.underlying35 rfl iszPt <;> rfl
                case hQk7 => exact fun _ _ _ h => h
                try simp only [Act.put, List.setIfInBounds_toArray, List.set_cons_zero, List.set_cons_succ]
                refine wpAnyH_take (i := 8) (oi := ?oik8) (v := ?vk8) ?hik8 ?hsk8 ?hfk8 ?hrk8 ?hQk8 ?hyk8 ?hSk8 ?hk8
                case hik8 => (simp only [List.getElem?_toArray, List.getElem?_cons_succ, List.getElem?_cons_zero]; rfl)
                case hsk8 => kernel_rfl
                case hfk8 => kernel_rfl
                case hrk8 => kernel_rfl
                case hSk8 => first | assumption | trivial
                case hyk8 => exact (by refine yieldsIf_eqlPt (by kernel_rfl) (.tmp 103) (.tmp 107) 35 ?_ (out.getD kk pD) (out.getD ii pD) ?_ ?_ HWK.out HWI.out HNE.out <;> rfl)
                case hQk8 => exact fun _ _ _ h => h
                try simp only [Act.put, List.setIfInBounds_toArray, List.set_cons_zero, List.set_cons_succ]
                refine wpAnyH_done (by kernel_rfl) ?_ _
                go_wp2_with fail
                refine ⟨⟨kk + 1, by go_num, by omega, HLD⟩, ?_⟩
                simp [intOf]
                omega
              · have s1' : ¬ (kk : Int) < (ii : Int) := by omega
                have HLD := Lib.hid (HLK.out.below (wc := wr.drew) (Below.refl _ _).drew)
                have hol : oL.length = st.L.length := HPA.out.len
                obtain ⟨v, hmem, hF⟩ : memIs mb wr.drew s2 F3 := HLD.out.a.lp.at_.1
                obtain ⟨gm, cpm, rfl⟩ := row_form1 hmem.row (by rw [HL2.out]; omega)
                have hgm : gm ≠ go := fun e => HLD.out.f1 ((hF go).2 (.inr (by rw [← e]; rfl)))
                have hmbo : mb ≠ go := fun e => HLD.out.f1 ((hF go).2 (.inl e.symm))
                have h9o : g9 ≠ go := fun e => HLD.out.v1 (by rw [← e]; rfl)
                have c1 : wr.drew.cell? ⟨ob, 0, none⟩ = some (.slice (some ⟨go, 0, none⟩) st.L.length st.L.length) := by rw [← hol]; exact HLD.out.om.cell 0
                have c2 : wr.drew.cell? ⟨mb, 0, none⟩ = some (.slice (some ⟨gm, 0, none⟩) st.L.length cpm) := by rw [← HL2.out]; exact hmem.c0
                have c3 : wr.drew.cell? ⟨g9, ii * 12 + 1, none⟩ = some (.int .i64 (jj : Nat)) := by
                  have := HPR.out _ _ ii HLD.out hil2 1 (.int .i64 (out.getD ii pD).aa) rfl
                  rw [HJJ.out] at this
                  exact this
                have c4 : wr.drew.cell? ⟨gm, jj, none⟩ = some (.string ⟨(st.L[jj]).toArray⟩) := by
                  have := hmem.row.cells (g := gm) rfl jj (.string ⟨(st.L[jj]).toArray⟩) (by rw [HL2.out]; simp [encS, bts, List.getElem?_eq_getElem hjl])
                  rwa [show (⟨gm, 0, none⟩ : Addr).add jj = ⟨gm, jj, none⟩ from by unfold Addr.add; split <;> simp_all] at this
                have hob : wr.drew.cell? ⟨go, jj, none⟩ = some (.string ⟨(oL[jj]'(by omega)).toArray⟩) := by
                  rw [HLD.out.orow.cell]; simp [encS, bts, List.getElem?_eq_getElem (show jj < oL.length by omega)]
                have hoz : wr.drew.frozen? ⟨go, jj, none⟩ = false := Blk.frozen HLD.out.orow jj
                have hMo : Mod (fun x => x = go) wr.drew (wr.drew.setCell ⟨go, jj, none⟩ (.string ⟨(st.L[jj]).toArray⟩)) := (Mod.refl _ _).setCell (.inl rfl)
                have HSS : Hid ((wr.drew.setCell ⟨go, jj, none⟩ (.string ⟨(st.L[jj]).toArray⟩)).cell? ⟨ob, 0, none⟩ = some (.slice (some ⟨go, 0, none⟩) st.L.length st.L.length) ∧ (wr.drew.setCell ⟨go, jj, none⟩ (.string ⟨(st.L[jj]).toArray⟩)).cell? ⟨mb, 0, none⟩ = some (.slice (some ⟨gm, 0, none⟩) st.L.length cpm) ∧ (wr.drew.setCell ⟨go, jj, none⟩ (.string ⟨(st.L[jj]).toArray⟩)).cell? ⟨g9, ii * 12 + 1, none⟩ = some (.int .i64 (jj : Nat)) ∧ (wr.drew.setCell ⟨go, jj, none⟩ (.string ⟨(st.L[jj]).toArray⟩)).cell? ⟨gm, jj, none⟩ = some (.string ⟨(st.L[jj]).toArray⟩)) :=
                  Lib.hid ⟨hMo.cell (fun e => HLD.out.n1 e.symm) c1, hMo.cell hmbo c2, hMo.cell h9o c3, hMo.cell hgm c4⟩
                have HS0 := Lib.hid (And.intro c1 (And.intro c2 (And.intro c3 c4)))
                have HPUT := Lib.hid (HLD.out.put jj (st.L[jj]))
                have HPS := Lib.hid (HPA.out.step hil2 HJJ.out hjl HLS.out)
                have j1 : (jj : Int) < (st.L.length : Int) := by omega
                have j2 : 0 ≤ (jj : Int) := by omega
                clear hmem hF hMo c1 c2 c3 c4 hgm hmbo h9o
                go_upto_region 24 with fail
                refine wp_region_held_drew (S := fun w' => w'.cell? ⟨ob, 0, none⟩ = some (.slice (some ⟨go, 0, none⟩) st.L.length st.L.length) ∧ w'.cell? ⟨mb, 0, none⟩ = some (.slice (some ⟨gm, 0, none⟩) st.L.length cpm) ∧ w'.cell? ⟨g9, ii * 12 + 1, none⟩ = some (.int .i64 (jj : Nat)) ∧ w'.cell? ⟨gm, jj, none⟩ = some (.string ⟨(st.L[jj]).toArray⟩)) (by kernel_rfl) HS0.out (fun hS0 => ?_)
                refine wpAnyH_take (i := 0) (oi := ?oim0) (v := ?vm0) ?him0 ?hsm0 ?hfm0 ?hrm0 ?hQm0 ?hym0 ?hSm0 ?hm0
                case him0 => (simp only [List.getElem?_toArray, List.getElem?_cons_succ, List.getElem?_cons_zero]; rfl)
                case hsm0 => kernel_rfl
                case hfm0 => kernel_rfl
                case hrm0 => kernel_rfl
                case hSm0 => first | assumption | trivial
                case hym0 => refine Or.inl ⟨by kernel_rfl, ?_⟩; (intro w hSw; (try dsimp only at hSw); go_simp; try with_reducible rfl)
                case hQm0 => exact fun _ _ _ h => h
                try simp only [Act.put, List.setIfInBounds_toArray, List.set_cons_zero, List.set_cons_succ]
                refine wpAnyH_take (i := 1) (oi := ?oim1) (v := ?vm1) ?him1 ?hsm1 ?hfm1 ?hrm1 ?hQm1 ?hym1 ?hSm1 ?hm1
                case him1 => (simp only [List.getElem?_toArray, List.getElem?_cons_succ, List.getElem?_cons_zero]; rfl)
                case hsm1 => kernel_rfl
                case hfm1 => kernel_rfl
                case hrm1 => kernel_rfl
                case hSm1 => first | assumption | trivial
                case hym1 => refine Or.inl ⟨by kernel_rfl, ?_⟩; (intro w hSw; (try dsimp only at hSw); go_simp; try with_reducible rfl)
                case hQm1 => exact fun _ _ _ h => h
                try simp only [Act.put, List.setIfInBounds_toArray, List.set_cons_zero, List.set_cons_succ]
                refine wpAnyH_take (i := 2) (oi := ?oim2) (v := ?vm2) ?him2 ?hsm2 ?hfm2 ?hrm2 ?hQm2 ?hym2 ?hSm2 ?hm2
                case him2 => (simp only [List.getElem?_toArray, List.getElem?_cons_succ, List.getElem?_cons_zero]; rfl)
                case hsm2 => kernel_rfl
                case hfm2 => kernel_rfl
                case hrm2 => kernel_rfl
                case hSm2 => first | assumption | trivial
                case hym2 => refine Or.inl ⟨by kernel_rfl, ?_⟩; (intro w hSw; (try dsimp only at hSw); go_simp; try with_reducible rfl)
                case hQm2 => exact fun _ _ _ h => h
                try simp only [Act.put, List.setIfInBounds_toArray, List.set_cons_zero, List.set_cons_succ]
                refine wpAnyH_take (i := 3) (oi := ?oim3) (v := ?vm3) ?him3 ?hsm3 ?hfm3 ?hrm3 ?hQm3 ?hym3 ?hSm3 ?hm3
                case him3 => (simp only [List.getElem?_toArray, List.getElem?_cons_succ, List.getElem?_cons_zero]; rfl)
                case hsm3 => kernel_rfl
                case hfm3 => kernel_rfl
                case hrm3 => kernel_rfl
                case hSm3 => first | assumption | trivial
                case hym3 => refine Or.inl ⟨by kernel_rfl, ?_⟩; (intro w hSw; (try dsimp only at hSw); go_simp; first | (rw [hSw.1]; rfl) | rfl)
                case hQm3 => exact fun _ _ _ h => h
                try simp only [Act.put, List.setIfInBounds_toArray, List.set_cons_zero, List.set_cons_succ]
                refine wpAnyH_take (i := 4) (oi := ?oim4) (v := ?vm4) ?him4 ?hsm4 ?hfm4 ?hrm4 ?hQm4 ?hym4 ?hSm4 ?hm4
                case him4 => (simp only [List.getElem?_toArray, List.getElem?_cons_succ, List.getElem?_cons_zero]; rfl)
                case hsm4 => kernel_rfl
                case hfm4 => kernel_rfl
                case hrm4 => kernel_rfl
                case hSm4 => first | assumption | trivial
                case hym4 => refine Or.inl ⟨by kernel_rfl, ?_⟩; (intro w hSw; (try dsimp only at hSw); go_simp; try with_reducible rfl)
                case hQm4 => exact fun _ _ _ h => h
                try simp only [Act.put, List.setIfInBounds_toArray, List.set_cons_zero, List.set_cons_succ]
                refine wpAnyH_take (i := 5) (oi := ?oim5) (v := ?vm5) ?him5 ?hsm5 ?hfm5 ?hrm5 ?hQm5 ?hym5 ?hSm5 ?hm5
                case him5 => (simp only [List.getElem?_toArray, List.getElem?_cons_succ, List.getElem?_cons_zero]; rfl)
                case hsm5 => kernel_rfl
                case hfm5 => kernel_rfl
                case hrm5 => kernel_rfl
                case hSm5 => first | assumption | trivial
                case hym5 => refine Or.inl ⟨by kernel_rfl, ?_⟩; (intro w hSw; (try dsimp only at hSw); go_simp; try with_reducible rfl)
                case hQm5 => exact fun _ _ _ h => h
                try simp only [Act.put, List.setIfInBounds_toArray, List.set_cons_zero, List.set_cons_succ]
                refine wpAnyH_take (i := 6) (oi := ?oim6) (v := ?vm6) ?him6 ?hsm6 ?hfm6 ?hrm6 ?hQm6 ?hym6 ?hSm6 ?hm6
                case him6 => (simp only [List.getElem?_toArray, List.getElem?_cons_succ, List.getElem?_cons_zero]; rfl)
                case hsm6 => kernel_rfl
                case hfm6 => kernel_rfl
                case hrm6 => kernel_rfl
                case hSm6 => first | assumption | trivial
                case hym6 => refine Or.inl ⟨by kernel_rfl, ?_⟩; (intro w hSw; (try dsimp only at hSw); go_simp; first | with_reducible rfl | rw [if_pos (by omega)])
                case hQm6 => exact fun _ _ _ h => h
                try simp only [Act.put, List.setIfInBounds_toArray, List.set_cons_zero, List.set_cons_succ]
                refine wpAnyH_take (i := 7) (oi := ?oim7) (v := ?vm7) ?him7 ?hsm7 ?hfm7 ?hrm7 ?hQm7 ?hym7 ?hSm7 ?hm7
                case him7 => (simp only [List.getElem?_toArray, List.getElem?_cons_succ, List.getElem?_cons_zero]; rfl)
                case hsm7 => kernel_rfl
                case hfm7 => kernel_rfl
                case hrm7 => kernel_rfl
                case hSm7 => first | assumption | trivial
                case hym7 => refine Or.inl ⟨by kernel_rfl, ?_⟩; (intro w hSw; (try dsimp only at hSw); go_simp; try with_reducible rfl)
                case hQm7 => exact fun _ _ _ h => h
                try simp only [Act.put, List.setIfInBounds_toArray, List.set_cons_zero, List.set_cons_succ]
                refine wpAnyH_take (i := 8) (oi := ?oim8) (v := ?vm8) ?him8 ?hsm8 ?hfm8 ?hrm8 ?hQm8 ?hym8 ?hSm8 ?hm8
                case him8 => (simp only [List.getElem?_toArray, List.getElem?_cons_succ, List.getElem?_cons_zero]; rfl)
                case hsm8 => kernel_rfl
                case hfm8 => kernel_rfl
                case hrm8 => kernel_rfl
                case hSm8 => first | assumption | trivial
                case hym8 => refine Or.inl ⟨by kernel_rfl, ?_⟩; (intro w hSw; (try dsimp only at hSw); go_simp; try with_reducible rfl)
                case hQm8 => exact fun _ _ _ h => h
                try simp only [Act.put, List.setIfInBounds_toArray, List.set_cons_zero, List.set_cons_succ]
                refine wpAnyH_take (i := 9) (oi := ?oim9) (v := ?vm9) ?him9 ?hsm9 ?hfm9 ?hrm9 ?hQm9 ?hym9 ?hSm9 ?hm9
                case him9 => (simp only [List.getElem?_toArray, List.getElem?_cons_succ, List.getElem?_cons_zero]; rfl)
                case hsm9 => kernel_rfl
                case hfm9 => kernel_rfl
                case hrm9 => kernel_rfl
                case hSm9 => first | assumption | trivial
                case hym9 => refine Or.inl ⟨by kernel_rfl, ?_⟩; (intro w hSw; (try dsimp only at hSw); go_simp; first | (rw [hSw.2.2.1]; rfl) | rfl)
                case hQm9 => exact fun _ _ _ h => h
                try simp only [Act.put, List.setIfInBounds_toArray, List.set_cons_zero, List.set_cons_succ]
                refine wpAnyH_take (i := 10) (oi := ?oim10) (v := ?vm10) ?him10 ?hsm10 ?hfm10 ?hrm10 ?hQm10 ?hym10 ?hSm10 ?hm10
                case him10 => (simp only [List.getElem?_toArray, List.getElem?_cons_succ, List.getElem?_cons_zero]; rfl)
                case hsm10 => kernel_rfl
                case hfm10 => kernel_rfl
                case hrm10 => kernel_rfl
                case hSm10 => first | assumption | trivial
                case hym10 => refine Or.inl ⟨by kernel_rfl, ?_⟩; (intro w hSw; (try dsimp only at hSw); go_simp; try with_reducible rfl)
                case hQm10 => exact fun _ _ _ h => h
                try simp only [Act.put, List.setIfInBounds_toArray, List.set_cons_zero, List.set_cons_succ]
                refine wpAnyH_take (i := 11) (oi := ?oim11) (v := ?vm11) ?him11 ?hsm11 ?hfm11 ?hrm11 ?hQm11 ?hym11 ?hSm11 ?hm11
                case him11 => (simp only [List.getElem?_toArray, List.getElem?_cons_succ, List.getElem?_cons_zero]; rfl)
                case hsm11 => kernel_rfl
                case hfm11 => kernel_rfl
                case hrm11 => kernel_rfl
                case hSm11 => first | assumption | trivial
                case hym11 => refine Or.inl ⟨by kernel_rfl, ?_⟩; (intro w hSw; (try dsimp only at hSw); go_simp; try with_reducible rfl)
                case hQm11 => exact fun _ _ _ h => h
                try simp only [Act.put, List.setIfInBounds_toArray, List.set_cons_zero, List.set_cons_succ]
                refine wpAnyH_take (i := 12) (oi := ?oim12) (v := ?vm12) ?him12 ?hsm12 ?hfm12 ?hrm12 ?hQm12 ?hym12 ?hSm12 ?hm12
                case him12 => (simp only [List.getElem?_toArray, List.getElem?_cons_succ, List.getElem?_cons_zero]; rfl)
                case hsm12 => kernel_rfl
                case hfm12 => kernel_rfl
                case hrm12 => kernel_rfl
                case hSm12 => first | assumption | trivial
                case hym12 => refine Or.inl ⟨by kernel_rfl, ?_⟩; (intro w hSw; (try dsimp only at hSw); go_simp; try with_reducible rfl)
                case hQm12 => exact fun _ _ _ h => h
                try simp only [Act.put, List.setIfInBounds_toArray, List.set_cons_zero, List.set_cons_succ]
                refine wpAnyH_take (i := 13) (oi := ?oim13) (v := ?vm13) ?him13 ?hsm13 ?hfm13 ?hrm13 ?hQm13 ?hym13 ?hSm13 ?hm13
                case him13 => (simp only [List.getElem?_toArray, List.getElem?_cons_succ, List.getElem?_cons_zero]; rfl)
                case hsm13 => kernel_rfl
                case hfm13 => kernel_rfl
                case hrm13 => kernel_rfl
                case hSm13 => first | assumption | trivial
                case hym13 => refine Or.inl ⟨by kernel_rfl, ?_⟩; (intro w hSw; (try dsimp only at hSw); go_simp; first | (rw [hSw.2.1]; rfl) | rfl)
                case hQm13 => exact fun _ _ _ h => h
                try simp only [Act.put, List.setIfInBounds_toArray, List.set_cons_zero, List.set_cons_succ]
                refine wpAnyH_take (i := 14) (oi := ?oim14) (v := ?vm14) ?him14 ?hsm14 ?hfm14 ?hrm14 ?hQm14 ?hym14 ?hSm14 ?hm14
                case him14 => (simp only [List.getElem?_toArray, List.getElem?_cons_succ, List.getElem?_cons_zero]; rfl)
                case hsm14 => kernel_rfl
                case hfm14 => kernel_rfl
                case hrm14 => kernel_rfl
                case hSm14 => first | assumption | trivial
                case hym14 => refine Or.inl ⟨by kernel_rfl, ?_⟩; (intro w hSw; (try dsimp only at hSw); go_simp; try with_reducible rfl)
                case hQm14 => exact fun _ _ _ h => h
                try simp only [Act.put, List.setIfInBounds_toArray, List.set_cons_zero, List.set_cons_succ]
                refine wpAnyH_take (i := 15) (oi := ?oim15) (v := ?vm15) ?him15 ?hsm15 ?hfm15 ?hrm15 ?hQm15 ?hym15 ?hSm15 ?hm15
                case him15 => (simp only [List.getElem?_toArray, List.getElem?_cons_succ, List.getElem?_cons_zero]; rfl)
                case hsm15 => kernel_rfl
                case hfm15 => kernel_rfl
                case hrm15 => kernel_rfl
                case hSm15 => first | assumption | trivial
                case hym15 => refine Or.inl ⟨by kernel_rfl, ?_⟩; (intro w hSw; (try dsimp only at hSw); go_simp; try with_reducible rfl)
                case hQm15 => exact fun _ _ _ h => h
                try simp only [Act.put, List.setIfInBounds_toArray, List.set_cons_zero, List.set_cons_succ]
                refine wpAnyH_take (i := 16) (oi := ?oim16) (v := ?vm16) ?him16 ?hsm16 ?hfm16 ?hrm16 ?hQm16 ?hym16 ?hSm16 ?hm16
                case him16 => (simp only [List.getElem?_toArray, List.getElem?_cons_succ, List.getElem?_cons_zero]; rfl)
                case hsm16 => kernel_rfl
                case hfm16 => kernel_rfl
                case hrm16 => kernel_rfl
                case hSm16 => first | assumption | trivial
                case hym16 => refine Or.inl ⟨by kernel_rfl, ?_⟩; (intro w hSw; (try dsimp only at hSw); go_simp; first | with_reducible rfl | rw [if_pos (by omega)])
                case hQm16 => exact fun _ _ _ h => h
                try simp only [Act.put, List.setIfInBounds_toArray, List.set_cons_zero, List.set_cons_succ]
                refine wpAnyH_take (i := 17) (oi := ?oim17) (v := ?vm17) ?him17 ?hsm17 ?hfm17 ?hrm17 ?hQm17 ?hym17 ?hSm17 ?hm17
                case him17 => (simp only [List.getElem?_toArray, List.getElem?_cons_succ, List.getElem?_cons_zero]; rfl)
                case hsm17 => kernel_rfl
                case hfm17 => kernel_rfl
                case hrm17 => kernel_rfl
                case hSm17 => first | assumption | trivial
                case hym17 => refine Or.inl ⟨by kernel_rfl, ?_⟩; (intro w hSw; (try dsimp only at hSw); go_simp; try with_reducible rfl)
                case hQm17 => exact fun _ _ _ h => h
                try simp only [Act.put, List.setIfInBounds_toArray, List.set_cons_zero, List.set_cons_succ]
                refine wpAnyH_take (i := 18) (oi := ?oim18) (v := ?vm18) ?him18 ?hsm18 ?hfm18 ?hrm18 ?hQm18 ?hym18 ?hSm18 ?hm18
                case him18 => (simp only [List.getElem?_toArray, List.getElem?_cons_succ, List.getElem?_cons_zero]; rfl)
                case hsm18 => kernel_rfl
                case hfm18 => kernel_rfl
                case hrm18 => kernel_rfl
                case hSm18 => first | assumption | trivial
                case hym18 => refine Or.inl ⟨by kernel_rfl, ?_⟩; (intro w hSw; (try dsimp only at hSw); go_simp; try with_reducible rfl)
                case hQm18 => exact fun _ _ _ h => h
                try simp only [Act.put, List.setIfInBounds_toArray, List.set_cons_zero, List.set_cons_succ]
                refine wpAnyH_take (i := 19) (oi := ?oim19) (v := ?vm19) ?him19 ?hsm19 ?hfm19 ?hrm19 ?hQm19 ?hym19 ?hSm19 ?hm19
                case him19 => (simp only [List.getElem?_toArray, List.getElem?_cons_succ, List.getElem?_cons_zero]; rfl)
                case hsm19 => kernel_rfl
                case hfm19 => kernel_rfl
                case hrm19 => kernel_rfl
                case hSm19 => first | assumption | trivial
                case hym19 => refine Or.inl ⟨by kernel_rfl, ?_⟩; (intro w hSw; (try dsimp only at hSw); go_simp; first | (rw [hSw.2.2.1]; rfl) | rfl)
                case hQm19 => exact fun _ _ _ h => h
                try simp only [Act.put, List.setIfInBounds_toArray, List.set_cons_zero, List.set_cons_succ]
                refine wpAnyH_take (i := 20) (oi := ?oim20) (v := ?vm20) ?him20 ?hsm20 ?hfm20 ?hrm20 ?hQm20 ?hym20 ?hSm20 ?hm20
                case him20 => (simp only [List.getElem?_toArray, List.getElem?_cons_succ, List.getElem?_cons_zero]; rfl)
                case hsm20 => kernel_rfl
                case hfm20 => kernel_rfl
                case hrm20 => kernel_rfl
                case hSm20 => first | assumption | trivial
                case hym20 => refine Or.inl ⟨by kernel_rfl, ?_⟩; (intro w hSw; (try dsimp only at hSw); go_simp; first | with_reducible rfl | rw [if_pos (by omega)])
                case hQm20 => exact fun _ _ _ h => h
                try simp only [Act.put, List.setIfInBounds_toArray, List.set_cons_zero, List.set_cons_succ]
                refine wpAnyH_take (i := 21) (oi := ?oim21) (v := ?vm21) ?him21 ?hsm21 ?hfm21 ?hrm21 ?hQm21 ?hym21 ?hSm21 ?hm21
                case him21 => (simp only [List.getElem?_toArray, List.getElem?_cons_succ, List.getElem?_cons_zero]; rfl)
                case hsm21 => kernel_rfl
                case hfm21 => kernel_rfl
                case hrm21 => kernel_rfl
                case hSm21 => first | assumption | trivial
                case hym21 => refine Or.inl ⟨by kernel_rfl, ?_⟩; (intro w hSw; (try dsimp only at hSw); go_simp; first | (rw [hSw.2.2.2]; rfl) | rfl)
                case hQm21 => exact fun _ _ _ h => h
                try simp only [Act.put, List.setIfInBounds_toArray, List.set_cons_zero, List.set_cons_succ]
                refine wpAnyH_take (i := 22) (oi := ?oim22) (v := ?vm22) ?him22 ?hsm22 ?hfm22 ?hrm22 ?hQm22 ?hym22 ?hSm22 ?hm22
                case him22 => (simp only [List.getElem?_toArray, List.getElem?_cons_succ, List.getElem?_cons_zero]; rfl)
                case hsm22 => kernel_rfl
                case hfm22 => kernel_rfl
                case hrm22 => kernel_rfl
                case hSm22 => first | assumption | trivial
                case hym22 => refine Or.inl ⟨by kernel_rfl, ?_⟩; (intro w hSw; (try dsimp only at hSw); go_simp; first | with_reducible rfl | rw [if_pos (by omega)])
                case hQm22 => exact fun _ _ _ h => h
                try simp only [Act.put, List.setIfInBounds_toArray, List.set_cons_zero, List.set_cons_succ]
                refine wpAnyH_ready (rs := [23]) (by kernel_rfl) (by simp) ?_
                refine AllReadyH.cons (by simp only [List.getElem?_toArray, List.getElem?_cons_succ, List.getElem?_cons_zero]; rfl) (fun K hK => ?_) AllReadyH.nil
                go_simp
                try dsimp only
                refine hK.out _ _ (HSS.out) (fun hSm23 => ?_)
                try simp only [Act.put, List.setIfInBounds_toArray, List.set_cons_zero, List.set_cons_succ]
                refine wpAnyH_done (by kernel_rfl) ?_ _
                go_wp2_with fail
                refine ⟨⟨ii + 1, oL.set jj (st.L[jj]), by go_num, by omega, HPUT, HPS⟩, ?_⟩
                simp [intOf]
                omega
          · have r1 : ¬ (ii : Int) < (out.length : Int) := by omega
            obtain ⟨s3, e3, hext3, hR3⟩ := rn_cut HR2.out (by omega) (by rw [HL2.out]; exact HNW.out)
            have HTR := Lib.hid (Trunc_any (C := memC mb) HLB.out.a.lp.at_.1 n HNF.out 0 (by unfold I64'; omega) (by rw [e3]; exact hR3.ok (by omega)))
            rw [e3] at HTR
            obtain ⟨s4, e4, hok4⟩ := part_whole HNW.out HOUT.out (by have hp := HPA.out; rw [show ii = out.length by omega] at hp; exact hp) hln.le
            rw [← HT.out] at e4
            have HE4 := Lib.hid e4
            have HOK4 := Lib.hid hok4
            have hld := fun op a next Q => loadW_blk (P := Tryd.prog) HLB.out.a.lp.bn Tryd.underlying37 rfl iszNd op a next Q
            clear e3 hext3 hR3 e4 hok4
            go_wp2_with fail
            refine HTR.out.mono ?_
            rintro e w7 ⟨⟨rfl, _⟩, hstep⟩
            obtain ⟨F7, hat7, hfr7, hm7⟩ := HLB.out.a.lp.at_.step hstep
            have hst := fun op a next Q => store_newNd nD w7 op a next Q
            obtain ⟨w8, hw8⟩ : ∃ w8, w8 = w7.alloc (.cells (encN nD).toArray 37) := ⟨_, rfl⟩
            obtain ⟨gz, hgz⟩ : ∃ gz, gz = w7.heap.size := ⟨_, rfl⟩
            have hb8 : Below w7.heap.size w7 w8 := by rw [hw8]; exact (Below.refl _ _).alloc (Nat.le_refl _) _
            have HBN8 := Lib.hid ((hm7.blk HLB.out.a.lp.bn HLB.out.a.lp.fN).below hb8)
            have HBZ8 : Hid (Blk w8 gz 37 (encN nD)) := Lib.hid (by rw [hw8, hgz]; exact Blk.new w7 _ _)
            have HAT8 := Lib.hid (hat7.below hb8)
            have HOM : Hid (memIs ob w8 ⟨oL, 0, 0⟩ (memFoot ob (.slice (some ⟨go, 0, none⟩) oL.length oL.length))) := Lib.hid (by
              have h1 := (hm7.blk HLB.out.orow HLB.out.f1).below hb8
              have h2 := (hm7.blk HLB.out.om HLB.out.f2).below hb8
              have h3 := blk_owns (base := 0) (n := oL.length) (cap := oL.length) (size := 1) h1 (Nat.zero_le _) (Nat.le_refl _) (by have := HPA.out.len; have := hln.le; unfold maxLen; omega) (by simp [encS, bts])
              refine ⟨_, ⟨h2, ?_, fun e => HLB.out.n1 (by simpa [Value.ownBlock] using e), by show 0 < 1000000000; omega, by show 0 ≤ 1000; omega⟩, fun k => Iff.rfl⟩
              have e : (encS (bts oL)).take (oL.length * 1) = encS (bts oL) := List.take_of_length_le (by simp [encS, bts])
              rw [e] at h3; exact h3)
            have HNZ : Hid (gz ≠ ob ∧ gz ≠ go) := Lib.hid (by
              have h1 := HLB.out.om.lt
              have h2 := HLB.out.orow.lt
              have h3 := hm7.size
              constructor <;> omega)
            clear hat7 hfr7 hm7 hstep hb8 hld
            go_upto_region 26 with fail
            rw [← hw8, ← hgz]
            clear hw8 hgz hst
            have HWO := Lib.hid (whole_any (mb := ob) HOM.out n HNF.out (by rw [HE4.out]; exact HOK4.out))
            rw [HE4.out] at HWO
            have hld := fun op a next Q => loadW_blk (P := Tryd.prog) HBN8.out Tryd.underlying37 rfl iszNd op a next Q
            go_wp2_with fail
            refine HWO.out.mono ?_
            rintro e w9 ⟨rfl, hstep⟩
            unfold wholeT
            obtain ⟨Fo, _, hmo, _⟩ := hstep
            have hb1 := HOLD.out.trans (HAT8.out.2.1.toBelow (B := w.heap.size) (fun k hk => by have := HMB.out; omega) HOLD.out.size)
            have hbel := hb1.trans (hmo.toBelow (B := w.heap.size) (fun k hk => by
              have := HOLD.out.size; have := HLB.out.g1; have := HLB.out.g2
              rcases hk with hk | hk
              · omega
              · simp only [Value.ownBlock, Option.some.injEq] at hk; omega) hb1.size)
            have HBEL := Lib.hid hbel
            have hlz := fun op a next Q => loadW_blk (P := Tryd.prog) (hmo.blk HBZ8.out (fun hk => by
              have h1 := HBZ8.out.lt
              rcases hk with hk | hk
              · exact HNZ.out.1 hk
              · simp only [Value.ownBlock, Option.some.injEq] at hk; exact HNZ.out.2 hk.symm)) Tryd.underlying37 rfl iszNd op a next Q
            have hq := fun o x y a W next Q => bnW_zNd nD_wf o x y a W next Q
            clear hb1 hbel hmo hld
            go_wp2_with fail
            go_ret
            exact ⟨by simp, HBEL.out⟩
end Go.Proofs.YtbhofablndjeoaaDoor
