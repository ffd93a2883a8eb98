/- The law TreeKeeps. -/
import Derived.Test.YtbhofablndjeoaaDoorTmI
import Derived.Test.YtbhofablndjeoaaDoorTj
import Derived.Deep.DeepCutAuto
namespace Go.Proofs.YtbhofablndjeoaaDoor
open Go.RowKit
set_option linter.unusedSimpArgs false
set_option linter.unusedVariables false
theorem wp_buildN {dst : Option Tmp} {x : Operand} {ty : TypeId} {pos : String} {after : Array Edge} {guard : Option (Nat × Bool)} {a : Act} {w : World} {next : Act → World → Prop} {Q : Exit → Act → World → Prop} :
    Oper.wp Tryd.prog ⟨dst, .buildSlice 28 1 #[(0, x)], ty, pos, after, guard⟩ a w next Q = BuildW Tryd.prog ⟨dst, .buildSlice 28 1 #[(0, x)], ty, pos, after, guard⟩ 28 (a.eval x) a w next Q := by
  unfold Oper.wp BuildW execOp
  simp
theorem build_nd (w : World) (n : NodeT) (o : Oper) (a : Act) (next : Act → World → Prop) (Q : Exit → Act → World → Prop) :
    BuildW Tryd.prog o 28 (.agg (encN n).toArray) a w next Q = next (a.put o.dst (.slice (some ⟨w.heap.size, 0, none⟩) 1 1)) (w.alloc (.cells (encN n).toArray 37)) := by
  unfold BuildW
  obtain ⟨z, p0, p1, p2, p3, p4, p5, p6, p7, p8, p9, p10, p11⟩ := n
  have h : (do let r ← Instr.buildSlice 28 1 #[(0, .agg #[.int .i64 z, .int .i64 p0, .int .i64 p1, .int .i64 p2, .int .i64 p3, .bool p4, .int .i64 p5, .int .i64 p6, .int .i64 p7, .int .u64 p8, .int .u64 p9, .int .u64 p10, .int .u64 p11])]; pure (Next.value r) : Sem Next).run Tryd.prog w = .ok (.value (.slice (some ⟨w.heap.size, 0, none⟩) 1 1)) (w.alloc (.cells #[.int .i64 z, .int .i64 p0, .int .i64 p1, .int .i64 p2, .int .i64 p3, .bool p4, .int .i64 p5, .int .i64 p6, .int .i64 p7, .int .u64 p8, .int .u64 p9, .int .u64 p10, .int .u64 p11] 37)) := by
    go_simp
  exact congrArg (fun r => o.upon Tryd.prog a next Q r) h
attribute [local go_sem ↓] wp_loadPt wp_storePt wp_loadNd wp_storeNd wp_loadAc wp_binNd wp_buildN
theorem infoNd : (Tryd.prog.info? 37).map (fun i => (i.zero, i.size, i.bytes)) = some (some (.agg #[.int .i64 0, .int .i64 0, .int .i64 0, .int .i64 0, .int .i64 0, .bool false, .int .i64 0, .int .i64 0, .int .i64 0, .int .u64 0, .int .u64 0, .int .u64 0, .int .u64 0]), 13, 104) := by kernel_rfl
def encNs (l : List NodeT) : List Value := l.flatMap encN
theorem encNs_get (l : List NodeT) (k i : Nat) (hk : k < l.length) (hi : i < 13) : (encNs l)[k * 13 + i]? = (encN (l.getD k nD))[i]? := flat_get (f := encN) (K := 13) (fun _ => rfl) l k i nD hk hi
/-- a store, a node's variable, a row of nodes and a row of texts -/
structure KpI (mb gN : Nat) (w wr : World) (k : Nat) (n : NodeT) (st : MemT) (F : Nat → Prop) (v4 v5 : Value) (ns : List NodeT) (ts : List Bs) : Prop where
  lp : LpI mb gN w wr k n st F
  r4 : wr.ownsRow w.heap.size 37 13 v4 ns.length (encNs ns)
  r5 : wr.ownsRow w.heap.size 9 1 v5 ts.length (encS (bts ts))
  d4 : ∀ g, v4.ownBlock = some g → ¬ F g ∧ g ≠ gN
  d5 : ∀ g, v5.ownBlock = some g → ¬ F g ∧ g ≠ gN ∧ ¬ v4.ownBlock = some g
  nsw : ∀ m ∈ ns, NW st.L m
section
variable {mb gN : Nat} {w wr wc : World} {k k2 : Nat} {n n2 : NodeT} {st st2 : MemT} {F F2 : Nat → Prop} {v4 v5 v' : Value} {ns : List NodeT} {ts : List Bs}
theorem KpI.go (h : KpI mb gN w wr k n st F v4 v5 ns ts) (hl : LpI mb gN w wc k2 n2 st2 F2) (hm : Mod (fun x => F x ∨ x = gN) wr wc) (hf : ∀ x, x < wr.heap.size → ¬ F x → ¬ F2 x) (hx : ∃ X, st2.L = st.L ++ X) : KpI mb gN w wc k2 n2 st2 F2 v4 v5 ns ts := by
  refine ⟨hl, hm.rowN h.r4 (fun g hg e => e.elim (h.d4 g hg).1 (h.d4 g hg).2), hm.rowN h.r5 (fun g hg e => e.elim (h.d5 g hg).1 (h.d5 g hg).2.1), fun g hg => ⟨hf g (h.r4.lt g hg).2 (h.d4 g hg).1, (h.d4 g hg).2⟩, fun g hg => ⟨hf g (h.r5.lt g hg).2 (h.d5 g hg).1, (h.d5 g hg).2⟩, fun m hm => ?_⟩
  obtain ⟨X, e⟩ := hx
  rw [e]
  exact ((h.nsw m hm).mono X).1
theorem KpI.below (h : KpI mb gN w wr k n st F v4 v5 ns ts) (hb : Below wr.heap.size wr wc) : KpI mb gN w wc k n st F v4 v5 ns ts :=
  h.go (h.lp.below hb) (Mod.below hb) (fun _ _ h => h) ⟨[], by simp⟩
theorem LpI.grow {v : Value} (h : LpI mb gN w wr k n st F) (hg : wr.grownBy wc v.ownBlock) (hd : ∀ g, v.ownBlock = some g → (¬ F g ∧ g ≠ gN) ∧ w.heap.size ≤ g) : LpI mb gN w wc k n st F := by
  have hm : Mod (fun x => v.ownBlock = some x) wr wc := Mod.grownO hg (fun g hg => hg)
  refine ⟨⟨(memC mb).keep h.at_.1 hm.size (fun x hx => hm.block x ((memC mb).lt h.at_.1 x hx) (fun e => (hd x e).1.1 hx)), h.at_.2.1.trans hm (fun x hx e => by have := (hd x e).2; omega), h.at_.2.2⟩, hm.blk h.bn (fun e => (hd gN e).1.2 rfl), h.fN, h.rn, h.nw, h.uq⟩
theorem KpI.grow4 (h : KpI mb gN w wr k n st F v4 v5 ns ts) (hm : NW st.L n) (hown : wc.ownsRow w.heap.size 37 13 v' (ns.length + 1) (encNs ns ++ encN n)) (hg : wr.grownBy wc v4.ownBlock) (hat : v'.ownBlock = v4.ownBlock ∨ v'.ownBlock = some wr.heap.size) : KpI mb gN w wc k n st F v' v5 (ns ++ [n]) ts := by
  have hl := h.lp.grow hg (fun g hg => ⟨h.d4 g hg, (h.r4.lt g hg).1⟩)
  have hM : Mod (fun x => v4.ownBlock = some x) wr wc := Mod.grownO hg (fun g hg => hg)
  have hNl := h.lp.bn.lt
  refine ⟨hl, ?_, hM.rowN h.r5 (fun g hg e => (h.d5 g hg).2.2 e), fun g hgg => ?_, fun g hgg => ⟨(h.d5 g hgg).1, (h.d5 g hgg).2.1, fun e => ?_⟩, fun m hmm => ?_⟩
  · rw [List.length_append]
    have e : encNs (ns ++ [n]) = encNs ns ++ encN n := by simp [encNs]
    rw [e]; exact hown
  · rcases hat with e | e
    · exact h.d4 g (by rw [← e]; exact hgg)
    · rw [e] at hgg
      simp only [Option.some.injEq] at hgg
      exact ⟨fun hF => by have := (memC mb).lt h.lp.at_.1 g hF; omega, by omega⟩
  · rcases hat with e2 | e2
    · exact (h.d5 g hgg).2.2 (by rw [← e2]; exact e)
    · rw [e2] at e
      have := (h.r5.lt g hgg).2
      simp only [Option.some.injEq] at e
      omega
  · simp only [List.mem_append, List.mem_cons, List.not_mem_nil, or_false] at hmm
    rcases hmm with hmm | rfl
    · exact h.nsw m hmm
    · exact hm
theorem KpI.grow5 {t : Bs} (h : KpI mb gN w wr k n st F v4 v5 ns ts) (hown : wc.ownsRow w.heap.size 9 1 v' (ts.length + 1) (encS (bts ts) ++ [.string ⟨t.toArray⟩])) (hg : wr.grownBy wc v5.ownBlock) (hat : v'.ownBlock = v5.ownBlock ∨ v'.ownBlock = some wr.heap.size) : KpI mb gN w wc k n st F v4 v' ns (ts ++ [t]) := by
  have hl := h.lp.grow hg (fun g hg => ⟨⟨(h.d5 g hg).1, (h.d5 g hg).2.1⟩, (h.r5.lt g hg).1⟩)
  have hM : Mod (fun x => v5.ownBlock = some x) wr wc := Mod.grownO hg (fun g hg => hg)
  have hNl := h.lp.bn.lt
  refine ⟨hl, hM.rowN h.r4 (fun g hg e => (h.d5 g e).2.2 hg), ?_, h.d4, fun g hgg => ?_, h.nsw⟩
  · rw [List.length_append]
    have e : encS (bts (ts ++ [t])) = encS (bts ts) ++ [.string ⟨t.toArray⟩] := by simp [encS, bts]
    rw [e]; exact hown
  · rcases hat with e | e
    · exact h.d5 g (by rw [← e]; exact hgg)
    · rw [e] at hgg
      simp only [Option.some.injEq] at hgg
      exact ⟨fun hF => by have := (memC mb).lt h.lp.at_.1 g hF; omega, by omega, fun e4 => by have := (h.r4.lt g e4).2; omega⟩
end
theorem range_and3 {P : Prop} {w : World} {b o : Nat} {cs : List Value} (h : w.rangeAt b o cs ∧ P) : w.rangeAt b o cs := h.1
theorem hold_of {mb gN k : Nat} {w0 w wr : World} {n : NodeT} {st : MemT} {F : Nat → Prop} (h : LpI mb gN w wr k n st F) (hb : Below w0.heap.size w0 w) (hm : w0.heap.size ≤ mb) : Below w0.heap.size w0 wr := h.old hb hm
set_option maxHeartbeats 4000000 in
set_option maxRecDepth 100000 in
theorem keeps_any (a : Option Addr) (len cap : Nat) (zs : List ActA) (w : World) (h : ZSl w a len cap zs) :
    Calls Tryd.prog 3 #[.slice a len cap] w fun e w' => e = .returned (.bool true) ∧ Below w.heap.size w w' := by
  obtain ⟨i0, hi, hi0, hi1, hi2⟩ := info_parts infoNd
  obtain ⟨j0, hj, hj0, hj1, hj2⟩ := info_parts infoStr
  have HAW := Lib.hid awake14_any
  have hmx := h.mx
  by_cases hlen : 40 < len
  · have q1 : (40 : Int) < (len : Int) := by omega
    go_enter Tryd.func3, Tryd.ntmps3
    go_wp2_with fail
    refine (HAW.out _).mono ?_
    rintro e w1 ⟨rfl, hb1⟩
    have HB1 := Lib.hid hb1
    clear hb1
    go_wp2_with fail
    refine (HAW.out _).mono ?_
    rintro e w2 ⟨rfl, hb2⟩
    have hfin := HB1.out.trans (hb2.mono HB1.out.size)
    go_wp2_with fail
    go_ret
    exact ⟨rfl, hfin⟩
  · have q1 : ¬ (40 : Int) < (len : Int) := by omega
    have q1' : (len : Int) ≤ 40 := by omega
    go_enter Tryd.func3, Tryd.ntmps3
    go_wp2_with fail
    refine (HAW.out _).mono ?_
    rintro e w1 ⟨rfl, hb1⟩
    have HB1 := Lib.hid hb1
    clear hb1
    go_upto_region 7 with fail
    have hst := fun op a next Q => store_newZNd (w1.alloc (.cells mem0.toArray 27)) op a next Q
    obtain ⟨mb, hmb⟩ : ∃ mb, mb = w1.heap.size := ⟨_, rfl⟩
    obtain ⟨gN, hgN⟩ : ∃ gN, gN = w1.heap.size + 1 := ⟨_, rfl⟩
    obtain ⟨wm, hwm⟩ : ∃ wm, wm = w1.alloc (.cells mem0.toArray 27) := ⟨_, rfl⟩
    obtain ⟨wB, hwB⟩ : ∃ wB, wB = wm.alloc (.cells (encN nD).toArray 37) := ⟨_, rfl⟩
    have hsm : wm.heap.size = w1.heap.size + 1 := by rw [hwm]; simp
    have hLP : LpI mb gN wm wB 0 nD s0 (fun x => x = mb) := by
      have hm0 : memIs mb wm s0 (fun k => k = mb) := by rw [hwm]; exact mem_new hmb.symm
      refine ⟨(StoreC.At.start (C := memC mb) hm0).below (by rw [hwB]; exact (Below.refl _ _).alloc (Nat.le_refl _) _), ?_, by omega, Rn.start, NW.start _, Uq.start _⟩
      rw [hwB]; exact Blk.newAt _ _ (by omega)
    have hold : Below w.heap.size w wm := by
      rw [hwm]; exact HB1.out.alloc HB1.out.size _
    have HLP := Lib.hid hLP
    have HOLD := Lib.hid hold
    have HMB : Hid (w.heap.size ≤ mb) := Lib.hid (by rw [hmb]; exact HB1.out.size)
    have HGN : Hid (wm.heap.size ≤ gN) := Lib.hid (by omega)
    have HZ := Lib.hid (fun (hn : 0 < len) => h.cells hn)
    rw [show w1.alloc (.cells #[.slice none 0 0, .int .i64 0, .int .i64 0] 27) = wm from hwm.symm] at *
    rw [← hwm] at hst
    rw [← hwB, hsm] at hst
    rw [hst, ← hgN, ← hmb]
    have HKP : Hid (KpI mb gN wm wB (2 * 0) nD s0 (fun x => x = mb) (.slice none 0 0) (.slice none 0 0) [] []) := Lib.hid ⟨hLP, World.ownsRow_nil _ _ _ _, World.ownsRow_nil _ _ _ _, fun g hg => (by cases hg), fun g hg => (by cases hg), fun m hm => (by cases hm)⟩
    clear hmb hgN hwm hLP hold hwB hsm hst
    go_wp2_with fail
    go_loopw [4, 5, 7] (fun v4 v5 vi wr => ∃ (i : Nat) (n : NodeT) (st : MemT) (F : Nat → Prop) (ns : List NodeT) (ts : List Bs), vi = .int .i64 i ∧ i ≤ min len 12 ∧ Hid (KpI mb gN wm wr (2 * i) n st F v4 v5 ns ts) ∧ Hid (ns.length = i) ∧ Hid (ts = ns.map (txt st.L))) (fun _ _ vi _ => len - (intOf vi).toNat)
    case atStart => exact ⟨0, nD, s0, _, [], [], rfl, Nat.zero_le _, HKP, Lib.hid rfl, Lib.hid rfl⟩
    case round =>
      obtain ⟨i, n, st, F, ns, ts, rfl, hil, HKP, HNL, HTS⟩ := hrel
      have HLI := Lib.hid HKP.out.lp
      by_cases hlt : i < min len 12
      · have q2 : (i : Int) < (len : Int) := by omega
        have q2b : (i : Int) < 12 := by omega
        have HEXT0 := Lib.hid True.intro
        have q2' : (i : Int) < (len : Int) := by omega
        have q3 : 0 ≤ (i : Int) := by omega
        have hi40 : i ≤ 40 := by omega
        obtain ⟨b, off0, rfl, HZ2⟩ : ∃ b off, a = some ⟨b, off, none⟩ ∧ Hid (∀ W, Below w.heap.size w W → ∀ k, k < len → (zs.getD k aT).ok ∧ W.rangeAt b (off + k * 4) (encAc (zs.getD k aT))) := by
          obtain ⟨b, off, e, _, h2⟩ := HZ.out (by omega)
          exact ⟨b, off, e, Lib.hid h2⟩
        have HXO := Lib.hid (HZ2.out wm HOLD.out i (by omega)).1
        obtain ⟨rv, s2, hd, hrn, hext, hnw, huq, htw⟩ := rn_done HLI.out.rn (by omega) HLI.out.nw HLI.out.uq (zs.getD i aT)
        have HD := Lib.hid hd
        have HRN := Lib.hid hrn
        have HNW := Lib.hid hnw
        have HUQ := Lib.hid huq
        have HTW := Lib.hid (htw.imp And.left id)
        have HRK : Hid (memOk s2) := Lib.hid (hrn.ok (by omega))
        have HEXT := Lib.hid hext
        clear hd hrn hext hnw huq htw
        go_upto_region 10 with fail
        go_cut [8, 9] (fun vx ve wx => ∃ g F3, vx = .pointer (some ⟨g, 0, none⟩) ∧ ve = .int .i64 (errV rv : Nat) ∧ Hid (LpX mb gN wm wx (2 * i + 1) n g rv s2 F3) ∧ Hid (Mod F wr wx) ∧ Hid (∀ x, x < wr.heap.size → ¬ F x → ¬ F3 x))
        case first =>
          have hold0 : Below w.heap.size w wr.drew := HOLD.out.trans (((HLI.out.at_.below (Below.refl _ _).drew).2.1).toBelow (B := w.heap.size) (fun k hk => by have := HMB.out; omega) HOLD.out.size)
          refine wp_region_held_drew (S := fun w' => Blk w' gN 37 (encN n) ∧ w'.rangeAt b (off0 + i * 4) (encAc (zs.getD i aT))) (by kernel_rfl) ⟨HLI.out.bn.drew, (HZ2.out _ hold0 i (by omega)).2⟩ (fun hS0 => ?_)
          refine wpAnyH_take (i := 0) (oi := ?oic0) (v := ?vc0) ?hic0 ?hsc0 ?hfc0 ?hrc0 ?hQc0 ?hyc0 ?hSc0 ?hc0
          case hic0 => (simp only [List.getElem?_toArray, List.getElem?_cons_succ, List.getElem?_cons_zero]; rfl)
          case hsc0 => kernel_rfl
          case hfc0 => kernel_rfl
          case hrc0 => kernel_rfl
          case hSc0 => first | assumption | trivial
          case hyc0 => refine Or.inl ⟨by kernel_rfl, ?_⟩; (intro w hSw; (try dsimp only at hSw); go_simp; try with_reducible rfl)
          case hQc0 => exact fun _ _ _ h => h
          try simp only [Act.put, List.setIfInBounds_toArray, List.set_cons_zero, List.set_cons_succ]
          refine wpAnyH_take (i := 1) (oi := ?oic1) (v := ?vc1) ?hic1 ?hsc1 ?hfc1 ?hrc1 ?hQc1 ?hyc1 ?hSc1 ?hc1
          case hic1 => (simp only [List.getElem?_toArray, List.getElem?_cons_succ, List.getElem?_cons_zero]; rfl)
          case hsc1 => kernel_rfl
          case hfc1 => kernel_rfl
          case hrc1 => kernel_rfl
          case hSc1 => first | assumption | trivial
          case hyc1 => refine yieldsIf_load_mid (by kernel_rfl) 37 (.tmp 6) ?_ gN (0) ?_ (encN n) _ (fun w' hw => range_and1 hw) Tryd.underlying37 rfl iszNd <;> rfl
          case hQc1 => exact fun _ _ _ h => h
          try simp only [Act.put, List.setIfInBounds_toArray, List.set_cons_zero, List.set_cons_succ]
          refine wpAnyH_take (i := 2) (oi := ?oic2) (v := ?vc2) ?hic2 ?hsc2 ?hfc2 ?hrc2 ?hQc2 ?hyc2 ?hSc2 ?hc2
          case hic2 => (simp only [List.getElem?_toArray, List.getElem?_cons_succ, List.getElem?_cons_zero]; rfl)
          case hsc2 => kernel_rfl
          case hfc2 => kernel_rfl
          case hrc2 => kernel_rfl
          case hSc2 => first | assumption | trivial
          case hyc2 => refine Or.inl ⟨by kernel_rfl, ?_⟩; (intro w hSw; (try dsimp only at hSw); go_simp; try with_reducible rfl)
          case hQc2 => exact fun _ _ _ h => h
          try simp only [Act.put, List.setIfInBounds_toArray, List.set_cons_zero, List.set_cons_succ]
          refine wpAnyH_take (i := 3) (oi := ?oic3) (v := ?vc3) ?hic3 ?hsc3 ?hfc3 ?hrc3 ?hQc3 ?hyc3 ?hSc3 ?hc3
          case hic3 => (simp only [List.getElem?_toArray, List.getElem?_cons_succ, List.getElem?_cons_zero]; rfl)
          case hsc3 => kernel_rfl
          case hfc3 => kernel_rfl
          case hrc3 => kernel_rfl
          case hSc3 => first | assumption | trivial
          case hyc3 => refine Or.inl ⟨by kernel_rfl, ?_⟩; (intro w hSw; (try dsimp only at hSw); go_simp; try with_reducible rfl)
          case hQc3 => exact fun _ _ _ h => h
          try simp only [Act.put, List.setIfInBounds_toArray, List.set_cons_zero, List.set_cons_succ]
          refine wpAnyH_take (i := 4) (oi := ?oic4) (v := ?vc4) ?hic4 ?hsc4 ?hfc4 ?hrc4 ?hQc4 ?hyc4 ?hSc4 ?hc4
          case hic4 => (simp only [List.getElem?_toArray, List.getElem?_cons_succ, List.getElem?_cons_zero]; rfl)
          case hsc4 => kernel_rfl
          case hfc4 => kernel_rfl
          case hrc4 => kernel_rfl
          case hSc4 => first | assumption | trivial
          case hyc4 => refine Or.inl ⟨by kernel_rfl, ?_⟩; (intro w hSw; (try dsimp only at hSw); go_simp; first | with_reducible rfl | rw [if_pos (by omega)])
          case hQc4 => exact fun _ _ _ h => h
          try simp only [Act.put, List.setIfInBounds_toArray, List.set_cons_zero, List.set_cons_succ]
          refine wpAnyH_take (i := 5) (oi := ?oic5) (v := ?vc5) ?hic5 ?hsc5 ?hfc5 ?hrc5 ?hQc5 ?hyc5 ?hSc5 ?hc5
          case hic5 => (simp only [List.getElem?_toArray, List.getElem?_cons_succ, List.getElem?_cons_zero]; rfl)
          case hsc5 => kernel_rfl
          case hfc5 => kernel_rfl
          case hrc5 => kernel_rfl
          case hSc5 => first | assumption | trivial
          case hyc5 => refine yieldsIf_load_mid (by kernel_rfl) 42 (.tmp 37) ?_ b ((off0 + i * 4)) ?_ (encAc (zs.getD i aT)) _ (fun w' hw => range_and2 hw) Tryd.underlying42 rfl iszAc <;> rfl
          case hQc5 => exact fun _ _ _ h => h
          try simp only [Act.put, List.setIfInBounds_toArray, List.set_cons_zero, List.set_cons_succ]
          refine wpAnyH_ready (rs := [6, 10]) (by kernel_rfl) (by simp) ?_
          refine AllReadyH.cons (by simp only [List.getElem?_toArray, List.getElem?_cons_succ, List.getElem?_cons_zero]; rfl) (fun K hK => ?_) (AllReadyH.cons (by simp only [List.getElem?_toArray, List.getElem?_cons_succ, List.getElem?_cons_zero]; rfl) (fun K hK => ?_) AllReadyH.nil)
          · go_simp
            have HLW := Lib.hid (HLI.out.below (wr' := wr.drew) (Below.refl _ _).drew)
            refine (done_any HLW.out.at_.1 n (HLW.out.nwf (by omega)) (zs.getD i aT) HXO.out (by rw [HD.out]; exact HRK.out)).mono ?_
            rintro e w6 ⟨hpr, hstep6⟩
            rw [HD.out] at hpr hstep6
            have hpe := NdR.val hpr
            subst hpe
            obtain ⟨F3, hat6, hfr6, hm6⟩ := HLW.out.at_.step hstep6
            have hbn6 := hm6.blk HLW.out.bn HLW.out.fN
            have hfN6 := hfr6 _ HLW.out.bn.lt HLW.out.fN
            have hold6 := HOLD.out.trans (hat6.2.1.toBelow (B := w.heap.size) (fun k hk => by have := HMB.out; omega) HOLD.out.size)
            have hra6 := (HZ2.out w6 hold6 i (by omega)).2
            have HM6 : Hid (Mod F wr w6) := Lib.hid (((Mod.refl F wr).drew).self hm6)
            have HF6 : Hid (∀ x, x < wr.heap.size → ¬ F x → ¬ F3 x) := Lib.hid (fun x hx hn => hfr6 x hx hn)
            clear hfr6 hstep6 hm6
            try dsimp only
            refine hK.out _ _ (⟨hbn6, hra6⟩) (fun hScp6 => ?_)
            try simp only [Act.put, List.setIfInBounds_toArray, List.set_cons_zero, List.set_cons_succ]
            refine wpAnyH_take (i := 7) (oi := ?oicp7) (v := ?vcp7) ?hicp7 ?hscp7 ?hfcp7 ?hrcp7 ?hQcp7 ?hycp7 ?hScp7 ?hcp7
            case hicp7 => (simp only [List.getElem?_toArray, List.getElem?_cons_succ, List.getElem?_cons_zero]; rfl)
            case hscp7 => kernel_rfl
            case hfcp7 => kernel_rfl
            case hrcp7 => kernel_rfl
            case hScp7 => first | assumption | trivial
            case hycp7 => refine Or.inl ⟨by kernel_rfl, ?_⟩; (intro w hSw; (try dsimp only at hSw); go_simp; try with_reducible rfl)
            case hQcp7 => exact fun _ _ _ h => h
            try simp only [Act.put, List.setIfInBounds_toArray, List.set_cons_zero, List.set_cons_succ]
            refine wpAnyH_take (i := 8) (oi := ?oicp8) (v := ?vcp8) ?hicp8 ?hscp8 ?hfcp8 ?hrcp8 ?hQcp8 ?hycp8 ?hScp8 ?hcp8
            case hicp8 => (simp only [List.getElem?_toArray, List.getElem?_cons_succ, List.getElem?_cons_zero]; rfl)
            case hscp8 => kernel_rfl
            case hfcp8 => kernel_rfl
            case hrcp8 => kernel_rfl
            case hScp8 => first | assumption | trivial
            case hycp8 => refine Or.inl ⟨by kernel_rfl, ?_⟩; (intro w hSw; (try dsimp only at hSw); go_simp; try with_reducible rfl)
            case hQcp8 => exact fun _ _ _ h => h
            try simp only [Act.put, List.setIfInBounds_toArray, List.set_cons_zero, List.set_cons_succ]
            refine wpAnyH_take (i := 9) (oi := ?oicp9) (v := ?vcp9) ?hicp9 ?hscp9 ?hfcp9 ?hrcp9 ?hQcp9 ?hycp9 ?hScp9 ?hcp9
            case hicp9 => (simp only [List.getElem?_toArray, List.getElem?_cons_succ, List.getElem?_cons_zero]; rfl)
            case hscp9 => kernel_rfl
            case hfcp9 => kernel_rfl
            case hrcp9 => kernel_rfl
            case hScp9 => first | assumption | trivial
            case hycp9 => refine Or.inl ⟨by kernel_rfl, ?_⟩; (intro w hSw; (try dsimp only at hSw); go_simp; try with_reducible rfl)
            case hQcp9 => exact fun _ _ _ h => h
            try simp only [Act.put, List.setIfInBounds_toArray, List.set_cons_zero, List.set_cons_succ]
            refine wpAnyH_ready (rs := [10]) (by kernel_rfl) (by simp) ?_
            refine AllReadyH.cons (by simp only [List.getElem?_toArray, List.getElem?_cons_succ, List.getElem?_cons_zero]; rfl) (fun K hK => ?_) AllReadyH.nil
            go_simp
            skip
            refine hK.out _ _ (⟨hbn6.alloc _, (HZ2.out _ (hold6.alloc hold6.size _) i (by omega)).2⟩) (fun hScp10 => ?_)
            try simp only [Act.put, List.setIfInBounds_toArray, List.set_cons_zero, List.set_cons_succ]
            refine wpAnyH_ready (rs := [11]) (by kernel_rfl) (by simp) ?_
            refine AllReadyH.cons (by simp only [List.getElem?_toArray, List.getElem?_cons_succ, List.getElem?_cons_zero]; rfl) (fun K hK => ?_) AllReadyH.nil
            rw [if_pos (by kernel_rfl)]
            refine wp_store_mid 37 (.tmp 8) (.tmp 40) rfl w6.heap.size (0) (encN (ndV rv)).toArray rfl rfl (blk_there (Blk.new w6 37 (encN nD)) (Nat.le_refl 13)) iszNd (all_oneCell_toArray (encN_ones _)) ?_
            refine hK.out _ _ (⟨(hbn6.alloc _).away 0 _ (by have := hbn6.lt; omega), (HZ2.out _ (HOLD.out.trans (((hat6.below ((Below.refl _ _).alloc (Nat.le_refl _) (.cells (encN nD).toArray 37))).put (o := 0) (vs := encN (ndV rv)) hat6.size (hat6.fresh (Nat.le_refl _))).2.1.toBelow (B := w.heap.size) (fun k hk => by have := HMB.out; omega) HOLD.out.size)) i (by omega)).2⟩) (fun hScp11 => ?_)
            try simp only [Act.put, List.setIfInBounds_toArray, List.set_cons_zero, List.set_cons_succ]
            refine wpAnyH_take (i := 12) (oi := ?oicp12) (v := ?vcp12) ?hicp12 ?hscp12 ?hfcp12 ?hrcp12 ?hQcp12 ?hycp12 ?hScp12 ?hcp12
            case hicp12 => (simp only [List.getElem?_toArray, List.getElem?_cons_succ, List.getElem?_cons_zero]; rfl)
            case hscp12 => kernel_rfl
            case hfcp12 => kernel_rfl
            case hrcp12 => kernel_rfl
            case hScp12 => first | assumption | trivial
            case hycp12 => refine Or.inl ⟨by kernel_rfl, ?_⟩; (intro w hSw; (try dsimp only at hSw); go_simp; try with_reducible rfl)
            case hQcp12 => exact fun _ _ _ h => h
            try simp only [Act.put, List.setIfInBounds_toArray, List.set_cons_zero, List.set_cons_succ]
            have HT : Hid (LpX mb gN wm ((w6.alloc (.cells (encN nD).toArray 37)).setCells w6.heap.size 0 (encN (ndV rv))) (2 * i + 1) n w6.heap.size rv s2 F3) := Lib.hid ⟨(hat6.below ((Below.refl _ _).alloc (Nat.le_refl _) _)).put hat6.size (hat6.fresh (Nat.le_refl _)), (hbn6.alloc _).away 0 _ (by have := hbn6.lt; omega), (Blk.new w6 37 (encN nD)).put rfl, hfN6, hat6.fresh (Nat.le_refl _), by have := hbn6.lt; omega, HRN.out, HNW.out, HUQ.out, HTW.out⟩
            have HMX : Hid (Mod F wr ((w6.alloc (.cells (encN nD).toArray 37)).setCells w6.heap.size 0 (encN (ndV rv)))) := Lib.hid ((HM6.out.alloc _).put (.inr HM6.out.size))
            refine wpAnyH_done (by kernel_rfl) ?_ _
            go_wp2_with fail
            go_meet
            exact ⟨_, F3, rfl, rfl, HT, HMX, HF6⟩
          · go_simp
            skip
            refine hK.out _ _ (⟨HLI.out.bn.drew.alloc _, (HZ2.out _ (HOLD.out.trans ((HLI.out.at_.below ((Below.refl _ _).drew.alloc (Nat.le_refl _) (.cells (encN nD).toArray 37))).2.1.toBelow (B := w.heap.size) (fun k hk => by have := HMB.out; omega) HOLD.out.size)) i (by omega)).2⟩) (fun hScq10 => ?_)
            try simp only [Act.put, List.setIfInBounds_toArray, List.set_cons_zero, List.set_cons_succ]
            refine wpAnyH_ready (rs := [6]) (by kernel_rfl) (by simp) ?_
            refine AllReadyH.cons (by simp only [List.getElem?_toArray, List.getElem?_cons_succ, List.getElem?_cons_zero]; rfl) (fun K hK => ?_) AllReadyH.nil
            go_simp
            have HLW := Lib.hid (HLI.out.below (wr' := (wr.drew.alloc (.cells (encN nD).toArray 37))) ((Below.refl _ _).drew.alloc (Nat.le_refl _) _))
            refine (done_any HLW.out.at_.1 n (HLW.out.nwf (by omega)) (zs.getD i aT) HXO.out (by rw [HD.out]; exact HRK.out)).mono ?_
            rintro e w6 ⟨hpr, hstep6⟩
            rw [HD.out] at hpr hstep6
            have hpe := NdR.val hpr
            subst hpe
            obtain ⟨F3, hat6, hfr6, hm6⟩ := HLW.out.at_.step hstep6
            have hbn6 := hm6.blk HLW.out.bn HLW.out.fN
            have hfN6 := hfr6 _ HLW.out.bn.lt HLW.out.fN
            have hold6 := HOLD.out.trans (hat6.2.1.toBelow (B := w.heap.size) (fun k hk => by have := HMB.out; omega) HOLD.out.size)
            have hra6 := (HZ2.out w6 hold6 i (by omega)).2
            have hbx6 : Blk w6 wr.heap.size 37 (encN nD) := hm6.blk (Blk.new wr.drew _ _) (HLI.out.at_.fresh (Nat.le_refl _))
            have hfX6 : ¬ F3 wr.heap.size := hfr6 _ (Blk.new wr.drew 37 (encN nD)).lt (HLI.out.at_.fresh (Nat.le_refl _))
            have HM6 : Hid (Mod F wr w6) := Lib.hid ((((Mod.refl F wr).drew).alloc _).self hm6)
            have HF6 : Hid (∀ x, x < wr.heap.size → ¬ F x → ¬ F3 x) := Lib.hid (fun x hx hn => hfr6 x (by simp; omega) hn)
            clear hfr6 hstep6 hm6
            try dsimp only
            refine hK.out _ _ (⟨hbn6, hra6⟩) (fun hScq6 => ?_)
            try simp only [Act.put, List.setIfInBounds_toArray, List.set_cons_zero, List.set_cons_succ]
            refine wpAnyH_take (i := 7) (oi := ?oicq7) (v := ?vcq7) ?hicq7 ?hscq7 ?hfcq7 ?hrcq7 ?hQcq7 ?hycq7 ?hScq7 ?hcq7
            case hicq7 => (simp only [List.getElem?_toArray, List.getElem?_cons_succ, List.getElem?_cons_zero]; rfl)
            case hscq7 => kernel_rfl
            case hfcq7 => kernel_rfl
            case hrcq7 => kernel_rfl
            case hScq7 => first | assumption | trivial
            case hycq7 => refine Or.inl ⟨by kernel_rfl, ?_⟩; (intro w hSw; (try dsimp only at hSw); go_simp; try with_reducible rfl)
            case hQcq7 => exact fun _ _ _ h => h
            try simp only [Act.put, List.setIfInBounds_toArray, List.set_cons_zero, List.set_cons_succ]
            refine wpAnyH_take (i := 8) (oi := ?oicq8) (v := ?vcq8) ?hicq8 ?hscq8 ?hfcq8 ?hrcq8 ?hQcq8 ?hycq8 ?hScq8 ?hcq8
            case hicq8 => (simp only [List.getElem?_toArray, List.getElem?_cons_succ, List.getElem?_cons_zero]; rfl)
            case hscq8 => kernel_rfl
            case hfcq8 => kernel_rfl
            case hrcq8 => kernel_rfl
            case hScq8 => first | assumption | trivial
            case hycq8 => refine Or.inl ⟨by kernel_rfl, ?_⟩; (intro w hSw; (try dsimp only at hSw); go_simp; try with_reducible rfl)
            case hQcq8 => exact fun _ _ _ h => h
            try simp only [Act.put, List.setIfInBounds_toArray, List.set_cons_zero, List.set_cons_succ]
            refine wpAnyH_take (i := 9) (oi := ?oicq9) (v := ?vcq9) ?hicq9 ?hscq9 ?hfcq9 ?hrcq9 ?hQcq9 ?hycq9 ?hScq9 ?hcq9
            case hicq9 => (simp only [List.getElem?_toArray, List.getElem?_cons_succ, List.getElem?_cons_zero]; rfl)
            case hscq9 => kernel_rfl
            case hfcq9 => kernel_rfl
            case hrcq9 => kernel_rfl
            case hScq9 => first | assumption | trivial
            case hycq9 => refine Or.inl ⟨by kernel_rfl, ?_⟩; (intro w hSw; (try dsimp only at hSw); go_simp; try with_reducible rfl)
            case hQcq9 => exact fun _ _ _ h => h
            try simp only [Act.put, List.setIfInBounds_toArray, List.set_cons_zero, List.set_cons_succ]
            refine wpAnyH_ready (rs := [11]) (by kernel_rfl) (by simp) ?_
            refine AllReadyH.cons (by simp only [List.getElem?_toArray, List.getElem?_cons_succ, List.getElem?_cons_zero]; rfl) (fun K hK => ?_) AllReadyH.nil
            rw [if_pos (by kernel_rfl)]
            refine wp_store_mid 37 (.tmp 8) (.tmp 40) rfl wr.heap.size (0) (encN (ndV rv)).toArray rfl rfl (blk_there hbx6 (Nat.le_refl 13)) iszNd (all_oneCell_toArray (encN_ones _)) ?_
            refine hK.out _ _ (⟨hbn6.away 0 _ (by have := HLI.out.bn.lt; omega), (HZ2.out _ (HOLD.out.trans ((hat6.put (o := 0) (vs := encN (ndV rv)) (HLI.out.at_.size) hfX6).2.1.toBelow (B := w.heap.size) (fun k hk => by have := HMB.out; omega) HOLD.out.size)) i (by omega)).2⟩) (fun hScq11 => ?_)
            try simp only [Act.put, List.setIfInBounds_toArray, List.set_cons_zero, List.set_cons_succ]
            refine wpAnyH_take (i := 12) (oi := ?oicq12) (v := ?vcq12) ?hicq12 ?hscq12 ?hfcq12 ?hrcq12 ?hQcq12 ?hycq12 ?hScq12 ?hcq12
            case hicq12 => (simp only [List.getElem?_toArray, List.getElem?_cons_succ, List.getElem?_cons_zero]; rfl)
            case hscq12 => kernel_rfl
            case hfcq12 => kernel_rfl
            case hrcq12 => kernel_rfl
            case hScq12 => first | assumption | trivial
            case hycq12 => refine Or.inl ⟨by kernel_rfl, ?_⟩; (intro w hSw; (try dsimp only at hSw); go_simp; try with_reducible rfl)
            case hQcq12 => exact fun _ _ _ h => h
            try simp only [Act.put, List.setIfInBounds_toArray, List.set_cons_zero, List.set_cons_succ]
            have HT : Hid (LpX mb gN wm (w6.setCells wr.heap.size 0 (encN (ndV rv))) (2 * i + 1) n wr.heap.size rv s2 F3) := Lib.hid ⟨hat6.put HLI.out.at_.size hfX6, hbn6.away 0 _ (by have := HLI.out.bn.lt; omega), hbx6.put rfl, hfN6, hfX6, by have := HLI.out.bn.lt; omega, HRN.out, HNW.out, HUQ.out, HTW.out⟩
            have HMX : Hid (Mod F wr (w6.setCells wr.heap.size 0 (encN (ndV rv)))) := Lib.hid (HM6.out.put (.inr (Nat.le_refl _)))
            refine wpAnyH_done (by kernel_rfl) ?_ _
            go_wp2_with fail
            go_meet
            exact ⟨_, F3, rfl, rfl, HT, HMX, HF6⟩
        obtain ⟨g, F3, rfl, rfl, HT, HMX, HF6⟩ := hcut
        rcases HT.out.two with rfl | ⟨q, rfl⟩
        · unfold errV
          have HKD : Hid (KpI mb gN wm wc (2 * i + 1) n s2 F3 u4 u5 ns ts) := Lib.hid (HKP.out.go ⟨HT.out.at_, HT.out.bn, HT.out.fN, HT.out.rn, HT.out.nw, HT.out.uq⟩ (HMX.out.mono (fun x _ hx => .inl hx)) HF6.out HEXT.out)
          go_upto_region 13 with fail
          obtain ⟨wd, hwd⟩ : ∃ wd, wd = wc := ⟨_, rfl⟩
          rw [← hwd] at HKD
          try rw [← hwd]
          clear hwd
          obtain ⟨ao4, cp4, rfl⟩ := row_form HKD.out.r4
          have hld := fun op a next Q => loadW_blk (P := Tryd.prog) HKD.out.lp.bn Tryd.underlying37 rfl iszNd op a next Q
          have hbn := fun o a next Q => build_nd wd n o a next Q
          have HK1 := Lib.hid (HKD.out.below (wc := wd.alloc (.cells (encN n).toArray 37)) ((Below.refl _ _).alloc (Nat.le_refl _) _))
          have HNB := Lib.hid (Blk.news (Blk.new wd 37 (encN n)))
          have hnl := HNL.out
          have m1 : ns.length + 1 ≤ maxLen := by unfold maxLen; omega
          have m2 : (ns.length + 1) * 104 ≤ 140737488355328 := by omega
          have m3 : wm.heap.size ≤ (wd.alloc (.cells (encN n).toArray 37)).heap.size := HK1.out.lp.at_.size
          clear hnl
          go_upto_region 14 with (at_builtin; go_must (refine wpList_append_own_at _ rfl (.tmp 45) (.tmp 47) 28 rfl wm.heap.size 37 i0 (.agg #[.int .i64 0, .int .i64 0, .int .i64 0, .int .i64 0, .int .i64 0, .bool false, .int .i64 0, .int .i64 0, .int .i64 0, .int .u64 0, .int .u64 0, .int .u64 0, .int .u64 0]) 13 104 Tryd.underlying28 hi hi0 hi1 hi2 rfl (Nat.succ_pos 12) (.slice ao4 ns.length cp4) ns.length (encNs ns) rfl HK1.out.r4 ⟨wd.heap.size, 0, none⟩ 1 1 (encN n) rfl rfl HNB.out (encN_ones _) m1 m2 m3 ?_; intro v4' w4 hown hgrow _ hat))
          have HK2 := Lib.hid (HK1.out.grow4 HK1.out.lp.nw hown hgrow hat)
          clear hld hbn hown hgrow hat m1 m2 m3
          obtain ⟨s3, e3, hL3, hR3⟩ := rn_whole HK2.out.lp.rn HK2.out.lp.nw
          have hld := fun op a next Q => loadW_blk (P := Tryd.prog) HK2.out.lp.bn Tryd.underlying37 rfl iszNd op a next Q
          have HWH := Lib.hid (whole_any (mb := mb) HK2.out.lp.at_.1 n (HK2.out.lp.nwf (by omega)) (by rw [e3]; exact hR3.ok (by omega)))
          rw [e3] at HWH
          have HL3 := Lib.hid hL3
          have HR3 := Lib.hid hR3
          clear e3 hL3 hR3
          go_wp2_with fail
          refine HWH.out.mono ?_
          rintro e w5 ⟨rfl, hstep⟩
          unfold wholeT
          obtain ⟨F5, hat5, hfr5, hm5⟩ := HK2.out.lp.at_.step hstep
          have HK5 : Hid (KpI mb gN wm w5 (2 * i + 1 + 1) n s3 F5 v4' u5 (ns ++ [n]) ts) := Lib.hid (HK2.out.go ⟨hat5, hm5.blk HK2.out.lp.bn HK2.out.lp.fN, hfr5 _ HK2.out.lp.bn.lt HK2.out.lp.fN, HR3.out, by rw [HL3.out]; exact HK2.out.lp.nw, by rw [HL3.out]; exact HK2.out.lp.uq⟩ (hm5.mono (fun x _ hx => .inl hx)) hfr5 ⟨[], by rw [HL3.out]; simp⟩)
          obtain ⟨ao5, cp5, rfl⟩ := row_form HK5.out.r5
          obtain ⟨T, hT⟩ : ∃ T, T = txt s2.L n := ⟨_, rfl⟩
          rw [← hT]
          have HT6 := Lib.hid hT
          have HK6 := Lib.hid (HK5.out.below (wc := w5.alloc (.cells #[.string ⟨T.toArray⟩] 9)) ((Below.refl _ _).alloc (Nat.le_refl _) _))
          have HNS := Lib.hid (Blk.news (Blk.new w5 9 [.string ⟨T.toArray⟩]))
          have htl : ts.length = i := by rw [HTS.out, List.length_map, HNL.out]
          have m1 : ts.length + 1 ≤ maxLen := by unfold maxLen; omega
          have m2 : (ts.length + 1) * 16 ≤ 140737488355328 := by omega
          have m3 : wm.heap.size ≤ (w5.alloc (.cells #[.string ⟨T.toArray⟩] 9)).heap.size := HK6.out.lp.at_.size
          clear hT htl hat5 hfr5 hm5 hstep hld
          go_wp2_with (at_builtin; go_must (refine wpList_append_own_at _ rfl (.tmp 49) (.tmp 53) 25 rfl wm.heap.size 9 j0 (.string ⟨#[]⟩) 1 16 Tryd.underlying25 hj hj0 hj1 hj2 rfl (Nat.succ_pos 0) (.slice ao5 ts.length cp5) ts.length (encS (bts ts)) rfl HK6.out.r5 ⟨w5.heap.size, 0, none⟩ 1 1 [.string ⟨T.toArray⟩] rfl rfl HNS.out (by simp [Value.oneCell']) m1 m2 m3 ?_; intro v5' w6 hown hgrow _ hat))
          have HK7 := Lib.hid (HK6.out.grow5 hown hgrow hat)
          clear hown hgrow hat m1 m2 m3
          go_roundw
          case rel =>
            refine ⟨i + 1, n, s3, F5, ns ++ [n], ts ++ [T], by go_num, by omega, HK7, Lib.hid (by rw [List.length_append, HNL.out]; rfl), Lib.hid ?_⟩
            obtain ⟨X, hX⟩ := HEXT.out
            have h1 : ns.map (txt s2.L) = ns.map (txt st.L) := List.map_congr_left (fun m hm => by rw [hX]; exact txt_mono (HKP.out.nsw m hm) X)
            rw [List.map_append, HL3.out, h1, ← HTS.out, HT6.out]
            rfl
          case measure => simp [intOf]; omega
        · unfold errV
          have hl := fun op a next Q => loadW_blk (P := Tryd.prog) HT.out.bx Tryd.underlying37 rfl iszNd op a next Q
          have hst := fun op a next Q => storeW_part (P := Tryd.prog) (t := 37) (o := 0) (cs := encN q) HT.out.bn (Nat.le_refl 13) iszNd (encN_ones _) op a next Q
          have HKD : Hid (KpI mb gN wm (wc.setCells gN 0 (encN q)) (2 * i + 1) q s2 F3 u4 u5 ns ts) := Lib.hid (HKP.out.go ⟨HT.out.at_.put HGN.out HT.out.fN, HT.out.bn.put rfl, HT.out.fN, HT.out.rn, HT.out.nw, HT.out.uq⟩ ((HMX.out.mono (fun x _ hx => .inl hx)).put (.inl (.inr rfl))) HF6.out HEXT.out)
          unfold ndV at hl
          go_upto_region 13 with fail
          obtain ⟨wd, hwd⟩ : ∃ wd, wd = (wc.setCells gN 0 (encN q)) := ⟨_, rfl⟩
          rw [← hwd] at HKD
          try rw [← hwd]
          clear hwd
          obtain ⟨ao4, cp4, rfl⟩ := row_form HKD.out.r4
          have hld := fun op a next Q => loadW_blk (P := Tryd.prog) HKD.out.lp.bn Tryd.underlying37 rfl iszNd op a next Q
          have hbn := fun o a next Q => build_nd wd q o a next Q
          have HK1 := Lib.hid (HKD.out.below (wc := wd.alloc (.cells (encN q).toArray 37)) ((Below.refl _ _).alloc (Nat.le_refl _) _))
          have HNB := Lib.hid (Blk.news (Blk.new wd 37 (encN q)))
          have hnl := HNL.out
          have m1 : ns.length + 1 ≤ maxLen := by unfold maxLen; omega
          have m2 : (ns.length + 1) * 104 ≤ 140737488355328 := by omega
          have m3 : wm.heap.size ≤ (wd.alloc (.cells (encN q).toArray 37)).heap.size := HK1.out.lp.at_.size
          clear hnl
          go_upto_region 14 with (at_builtin; go_must (refine wpList_append_own_at _ rfl (.tmp 45) (.tmp 47) 28 rfl wm.heap.size 37 i0 (.agg #[.int .i64 0, .int .i64 0, .int .i64 0, .int .i64 0, .int .i64 0, .bool false, .int .i64 0, .int .i64 0, .int .i64 0, .int .u64 0, .int .u64 0, .int .u64 0, .int .u64 0]) 13 104 Tryd.underlying28 hi hi0 hi1 hi2 rfl (Nat.succ_pos 12) (.slice ao4 ns.length cp4) ns.length (encNs ns) rfl HK1.out.r4 ⟨wd.heap.size, 0, none⟩ 1 1 (encN q) rfl rfl HNB.out (encN_ones _) m1 m2 m3 ?_; intro v4' w4 hown hgrow _ hat))
          have HK2 := Lib.hid (HK1.out.grow4 HK1.out.lp.nw hown hgrow hat)
          clear hld hbn hown hgrow hat m1 m2 m3
          obtain ⟨s3, e3, hL3, hR3⟩ := rn_whole HK2.out.lp.rn HK2.out.lp.nw
          have hld := fun op a next Q => loadW_blk (P := Tryd.prog) HK2.out.lp.bn Tryd.underlying37 rfl iszNd op a next Q
          have HWH := Lib.hid (whole_any (mb := mb) HK2.out.lp.at_.1 q (HK2.out.lp.nwf (by omega)) (by rw [e3]; exact hR3.ok (by omega)))
          rw [e3] at HWH
          have HL3 := Lib.hid hL3
          have HR3 := Lib.hid hR3
          clear e3 hL3 hR3
          go_wp2_with fail
          refine HWH.out.mono ?_
          rintro e w5 ⟨rfl, hstep⟩
          unfold wholeT
          obtain ⟨F5, hat5, hfr5, hm5⟩ := HK2.out.lp.at_.step hstep
          have HK5 : Hid (KpI mb gN wm w5 (2 * i + 1 + 1) q s3 F5 v4' u5 (ns ++ [q]) ts) := Lib.hid (HK2.out.go ⟨hat5, hm5.blk HK2.out.lp.bn HK2.out.lp.fN, hfr5 _ HK2.out.lp.bn.lt HK2.out.lp.fN, HR3.out, by rw [HL3.out]; exact HK2.out.lp.nw, by rw [HL3.out]; exact HK2.out.lp.uq⟩ (hm5.mono (fun x _ hx => .inl hx)) hfr5 ⟨[], by rw [HL3.out]; simp⟩)
          obtain ⟨ao5, cp5, rfl⟩ := row_form HK5.out.r5
          obtain ⟨T, hT⟩ : ∃ T, T = txt s2.L q := ⟨_, rfl⟩
          rw [← hT]
          have HT6 := Lib.hid hT
          have HK6 := Lib.hid (HK5.out.below (wc := w5.alloc (.cells #[.string ⟨T.toArray⟩] 9)) ((Below.refl _ _).alloc (Nat.le_refl _) _))
          have HNS := Lib.hid (Blk.news (Blk.new w5 9 [.string ⟨T.toArray⟩]))
          have htl : ts.length = i := by rw [HTS.out, List.length_map, HNL.out]
          have m1 : ts.length + 1 ≤ maxLen := by unfold maxLen; omega
          have m2 : (ts.length + 1) * 16 ≤ 140737488355328 := by omega
          have m3 : wm.heap.size ≤ (w5.alloc (.cells #[.string ⟨T.toArray⟩] 9)).heap.size := HK6.out.lp.at_.size
          clear hT htl hat5 hfr5 hm5 hstep hld
          go_wp2_with (at_builtin; go_must (refine wpList_append_own_at _ rfl (.tmp 49) (.tmp 53) 25 rfl wm.heap.size 9 j0 (.string ⟨#[]⟩) 1 16 Tryd.underlying25 hj hj0 hj1 hj2 rfl (Nat.succ_pos 0) (.slice ao5 ts.length cp5) ts.length (encS (bts ts)) rfl HK6.out.r5 ⟨w5.heap.size, 0, none⟩ 1 1 [.string ⟨T.toArray⟩] rfl rfl HNS.out (by simp [Value.oneCell']) m1 m2 m3 ?_; intro v5' w6 hown hgrow _ hat))
          have HK7 := Lib.hid (HK6.out.grow5 hown hgrow hat)
          clear hown hgrow hat m1 m2 m3
          go_roundw
          case rel =>
            refine ⟨i + 1, q, s3, F5, ns ++ [q], ts ++ [T], by go_num, by omega, HK7, Lib.hid (by rw [List.length_append, HNL.out]; rfl), Lib.hid ?_⟩
            obtain ⟨X, hX⟩ := HEXT.out
            have h1 : ns.map (txt s2.L) = ns.map (txt st.L) := List.map_congr_left (fun m hm => by rw [hX]; exact txt_mono (HKP.out.nsw m hm) X)
            rw [List.map_append, HL3.out, h1, ← HTS.out, HT6.out]
            rfl
          case measure => simp [intOf]; omega
      · by_cases hl2 : i < len
        · have q2 : (i : Int) < (len : Int) := by omega
          have q2b : ¬ (i : Int) < 12 := by omega
          obtain ⟨ao4, cp4, rfl⟩ := row_form HKP.out.r4
          obtain ⟨ao5, cp5, rfl⟩ := row_form HKP.out.r5
          have HTL : Hid (ts.length = i) := Lib.hid (by rw [HTS.out, List.length_map, HNL.out])
          have hi12 : i ≤ 12 := by omega
          go_wp2_with fail
          go_loopw [10] (fun vj wr => ∃ (j : Nat) (st : MemT) (F : Nat → Prop), vj = .int .i64 j ∧ j ≤ i ∧ Hid (KpI mb gN wm wr (2 * i + j) n st F (.slice ao4 ns.length cp4) (.slice ao5 ts.length cp5) ns ts) ∧ Hid (ts = ns.map (txt st.L))) (fun vj _ => i - (intOf vj).toNat)
          case atStart => exact ⟨0, st, F, rfl, Nat.zero_le _, HKP, HTS⟩
          case round =>
            obtain ⟨j, st, F, rfl, hji, HK0, HTS2⟩ := hrel
            have hnl := HNL.out
            have htl := HTL.out
            by_cases hjl : j < i
            · have r1 : (j : Int) < (ns.length : Int) := by omega
              have r2 : (j : Int) < (ts.length : Int) := by omega
              have r3 : 0 ≤ (j : Int) := by omega
              obtain ⟨g4, cp4, hv4⟩ := row_form1 HK0.out.r4 (by omega)
              obtain ⟨g5, cp5, hv5⟩ := row_form1 HK0.out.r5 (by omega)
              simp only [Value.slice.injEq] at hv4 hv5
              obtain ⟨rfl, _, rfl⟩ := hv4
              obtain ⟨rfl, _, rfl⟩ := hv5
              have HRA : Hid (∀ (W : World) {k : Nat} {n : NodeT} {st : MemT} {F : Nat → Prop}, KpI mb gN wm W k n st F (.slice (some ⟨g4, 0, none⟩) ns.length cp4) (.slice (some ⟨g5, 0, none⟩) ts.length cp5) ns ts → W.rangeAt g4 (j * 13) (encN (ns.getD j nD)) ∧ W.cell? ⟨g5, j, none⟩ = some (.string ⟨(ts.getD j []).toArray⟩)) := Lib.hid (fun W k n st F hk => ⟨fun c v hv => by
                have hc13 : c < 13 := by
                  by_cases hc : c < 13
                  · exact hc
                  · rw [List.getElem?_eq_none (by simp [encN, encPtr]; omega)] at hv; cases hv
                rw [hk.r4.cellAt _ (by omega), encNs_get ns j c (by omega) hc13, hv], by
                rw [hk.r5.cellAt _ (by omega)]
                simp [encS, bts, List.getElem?_eq_getElem (show j < ts.length by omega)]⟩)
              have hnj : NW st.L (ns.getD j nD) := by
                rw [List.getD_eq_getElem?_getD, List.getElem?_eq_getElem (show j < ns.length by omega)]
                exact HK0.out.nsw _ (List.getElem_mem _)
              have hll := HK0.out.lp.rn.l
              have HNF : Hid ((ns.getD j nD).wf) := Lib.hid (hnj.wf' (by omega))
              have htj : ts.getD j [] = txt st.L (ns.getD j nD) := by
                rw [HTS2.out, List.getD_eq_getElem?_getD, List.getD_eq_getElem?_getD, List.getElem?_map, List.getElem?_eq_getElem (show j < ns.length by omega)]; rfl
              obtain ⟨s3, e3, hL3, hR3⟩ := rn_whole HK0.out.lp.rn hnj
              rw [← htj] at e3
              have HE3 := Lib.hid e3
              have HL3 := Lib.hid hL3
              have HR3 := Lib.hid hR3
              have HOK3 : Hid (memOk s3) := Lib.hid (hR3.ok (by omega))
              have HKR := Lib.hid (HK0.out.below (wc := wr.drew) (Below.refl _ _).drew)
              clear e3 hL3 hR3 hnj hll htj hnl htl
              go_upto_region 18 with fail
              refine wp_region_held_drew (S := fun w' => w'.rangeAt g4 (j * 13) (encN (ns.getD j nD)) ∧ w'.cell? ⟨g5, j, none⟩ = some (.string ⟨(ts.getD j []).toArray⟩)) (by kernel_rfl) (HRA.out _ HKR.out) (fun hS0 => ?_)
              refine wpAnyH_take (i := 0) (oi := ?oiw0) (v := ?vw0) ?hiw0 ?hsw0 ?hfw0 ?hrw0 ?hQw0 ?hyw0 ?hSw0 ?hw0
              case hiw0 => (simp only [List.getElem?_toArray, List.getElem?_cons_succ, List.getElem?_cons_zero]; rfl)
              case hsw0 => kernel_rfl
              case hfw0 => kernel_rfl
              case hrw0 => kernel_rfl
              case hSw0 => first | assumption | trivial
              case hyw0 => refine Or.inl ⟨by kernel_rfl, ?_⟩; (intro w hSw; (try dsimp only at hSw); go_simp; try with_reducible rfl)
              case hQw0 => exact fun _ _ _ h => h
              try simp only [Act.put, List.setIfInBounds_toArray, List.set_cons_zero, List.set_cons_succ]
              refine wpAnyH_take (i := 1) (oi := ?oiw1) (v := ?vw1) ?hiw1 ?hsw1 ?hfw1 ?hrw1 ?hQw1 ?hyw1 ?hSw1 ?hw1
              case hiw1 => (simp only [List.getElem?_toArray, List.getElem?_cons_succ, List.getElem?_cons_zero]; rfl)
              case hsw1 => kernel_rfl
              case hfw1 => kernel_rfl
              case hrw1 => kernel_rfl
              case hSw1 => first | assumption | trivial
              case hyw1 => refine Or.inl ⟨by kernel_rfl, ?_⟩; (intro w hSw; (try dsimp only at hSw); go_simp; try with_reducible rfl)
              case hQw1 => exact fun _ _ _ h => h
              try simp only [Act.put, List.setIfInBounds_toArray, List.set_cons_zero, List.set_cons_succ]
              refine wpAnyH_take (i := 2) (oi := ?oiw2) (v := ?vw2) ?hiw2 ?hsw2 ?hfw2 ?hrw2 ?hQw2 ?hyw2 ?hSw2 ?hw2
              case hiw2 => (simp only [List.getElem?_toArray, List.getElem?_cons_succ, List.getElem?_cons_zero]; rfl)
              case hsw2 => kernel_rfl
              case hfw2 => kernel_rfl
              case hrw2 => kernel_rfl
              case hSw2 => first | assumption | trivial
              case hyw2 => refine Or.inl ⟨by kernel_rfl, ?_⟩; (intro w hSw; (try dsimp only at hSw); go_simp; try with_reducible rfl)
              case hQw2 => exact fun _ _ _ h => h
              try simp only [Act.put, List.setIfInBounds_toArray, List.set_cons_zero, List.set_cons_succ]
              refine wpAnyH_take (i := 3) (oi := ?oiw3) (v := ?vw3) ?hiw3 ?hsw3 ?hfw3 ?hrw3 ?hQw3 ?hyw3 ?hSw3 ?hw3
              case hiw3 => (simp only [List.getElem?_toArray, List.getElem?_cons_succ, List.getElem?_cons_zero]; rfl)
              case hsw3 => kernel_rfl
              case hfw3 => kernel_rfl
              case hrw3 => kernel_rfl
              case hSw3 => first | assumption | trivial
              case hyw3 => refine Or.inl ⟨by kernel_rfl, ?_⟩; (intro w hSw; (try dsimp only at hSw); go_simp; first | with_reducible rfl | rw [if_pos (by omega)])
              case hQw3 => exact fun _ _ _ h => h
              try simp only [Act.put, List.setIfInBounds_toArray, List.set_cons_zero, List.set_cons_succ]
              refine wpAnyH_take (i := 4) (oi := ?oiw4) (v := ?vw4) ?hiw4 ?hsw4 ?hfw4 ?hrw4 ?hQw4 ?hyw4 ?hSw4 ?hw4
              case hiw4 => (simp only [List.getElem?_toArray, List.getElem?_cons_succ, List.getElem?_cons_zero]; rfl)
              case hsw4 => kernel_rfl
              case hfw4 => kernel_rfl
              case hrw4 => kernel_rfl
              case hSw4 => first | assumption | trivial
              case hyw4 => refine yieldsIf_load_mid (by kernel_rfl) 37 (.tmp 64) ?_ g4 ((j * 13)) ?_ (encN (ns.getD j nD)) _ (fun w' hw => range_and3 hw) Tryd.underlying37 rfl iszNd <;> rfl
              case hQw4 => exact fun _ _ _ h => h
              try simp only [Act.put, List.setIfInBounds_toArray, List.set_cons_zero, List.set_cons_succ]
              refine wpAnyH_take (i := 6) (oi := ?oiw6) (v := ?vw6) ?hiw6 ?hsw6 ?hfw6 ?hrw6 ?hQw6 ?hyw6 ?hSw6 ?hw6
              case hiw6 => (simp only [List.getElem?_toArray, List.getElem?_cons_succ, List.getElem?_cons_zero]; rfl)
              case hsw6 => kernel_rfl
              case hfw6 => kernel_rfl
              case hrw6 => kernel_rfl
              case hSw6 => first | assumption | trivial
              case hyw6 => refine Or.inl ⟨by kernel_rfl, ?_⟩; (intro w hSw; (try dsimp only at hSw); go_simp; try with_reducible rfl)
              case hQw6 => exact fun _ _ _ h => h
              try simp only [Act.put, List.setIfInBounds_toArray, List.set_cons_zero, List.set_cons_succ]
              refine wpAnyH_take (i := 7) (oi := ?oiw7) (v := ?vw7) ?hiw7 ?hsw7 ?hfw7 ?hrw7 ?hQw7 ?hyw7 ?hSw7 ?hw7
              case hiw7 => (simp only [List.getElem?_toArray, List.getElem?_cons_succ, List.getElem?_cons_zero]; rfl)
              case hsw7 => kernel_rfl
              case hfw7 => kernel_rfl
              case hrw7 => kernel_rfl
              case hSw7 => first | assumption | trivial
              case hyw7 => refine Or.inl ⟨by kernel_rfl, ?_⟩; (intro w hSw; (try dsimp only at hSw); go_simp; try with_reducible rfl)
              case hQw7 => exact fun _ _ _ h => h
              try simp only [Act.put, List.setIfInBounds_toArray, List.set_cons_zero, List.set_cons_succ]
              refine wpAnyH_take (i := 8) (oi := ?oiw8) (v := ?vw8) ?hiw8 ?hsw8 ?hfw8 ?hrw8 ?hQw8 ?hyw8 ?hSw8 ?hw8
              case hiw8 => (simp only [List.getElem?_toArray, List.getElem?_cons_succ, List.getElem?_cons_zero]; rfl)
              case hsw8 => kernel_rfl
              case hfw8 => kernel_rfl
              case hrw8 => kernel_rfl
              case hSw8 => first | assumption | trivial
              case hyw8 => refine Or.inl ⟨by kernel_rfl, ?_⟩; (intro w hSw; (try dsimp only at hSw); go_simp; first | with_reducible rfl | rw [if_pos (by omega)])
              case hQw8 => exact fun _ _ _ h => h
              try simp only [Act.put, List.setIfInBounds_toArray, List.set_cons_zero, List.set_cons_succ]
              refine wpAnyH_take (i := 9) (oi := ?oiw9) (v := ?vw9) ?hiw9 ?hsw9 ?hfw9 ?hrw9 ?hQw9 ?hyw9 ?hSw9 ?hw9
              case hiw9 => (simp only [List.getElem?_toArray, List.getElem?_cons_succ, List.getElem?_cons_zero]; rfl)
              case hsw9 => kernel_rfl
              case hfw9 => kernel_rfl
              case hrw9 => kernel_rfl
              case hSw9 => first | assumption | trivial
              case hyw9 => refine Or.inl ⟨by kernel_rfl, ?_⟩; (intro w hSw; (try dsimp only at hSw); go_simp; first | with_reducible rfl | (rw [hSw.2]; rfl) | rfl)
              case hQw9 => exact fun _ _ _ h => h
              try simp only [Act.put, List.setIfInBounds_toArray, List.set_cons_zero, List.set_cons_succ]
              refine wpAnyH_ready (rs := [5]) (by kernel_rfl) (by simp) ?_
              refine AllReadyH.cons (by simp only [List.getElem?_toArray, List.getElem?_cons_succ, List.getElem?_cons_zero]; rfl) (fun K hK => ?_) AllReadyH.nil
              go_simp
              refine (whole_any (mb := mb) HKR.out.lp.at_.1 _ HNF.out (by rw [HE3.out]; exact HOK3.out)).mono ?_
              rw [HE3.out]
              rintro e w6 ⟨rfl, hstep⟩
              obtain ⟨F6, hat6, hfr6, hm6⟩ := HKR.out.lp.at_.step hstep
              have HK6 : Hid (KpI mb gN wm w6 (2 * i + j + 1) n s3 F6 (.slice (some ⟨g4, 0, none⟩) ns.length cp4) (.slice (some ⟨g5, 0, none⟩) ts.length cp5) ns ts) := Lib.hid (HKR.out.go ⟨hat6, hm6.blk HKR.out.lp.bn HKR.out.lp.fN, hfr6 _ HKR.out.lp.bn.lt HKR.out.lp.fN, HR3.out, by rw [HL3.out]; exact HKR.out.lp.nw, by rw [HL3.out]; exact HKR.out.lp.uq⟩ (hm6.mono (fun x _ hx => .inl hx)) hfr6 ⟨[], by rw [HL3.out]; simp⟩)
              clear hstep hat6 hfr6 hm6
              try dsimp only
              refine hK.out _ _ (HRA.out _ HK6.out) (fun hSw5 => ?_)
              try simp only [Act.put, List.setIfInBounds_toArray, List.set_cons_zero, List.set_cons_succ]
              refine wpAnyH_take (i := 10) (oi := ?oiw10) (v := ?vw10) ?hiw10 ?hsw10 ?hfw10 ?hrw10 ?hQw10 ?hyw10 ?hSw10 ?hw10
              case hiw10 => (simp only [List.getElem?_toArray, List.getElem?_cons_succ, List.getElem?_cons_zero]; rfl)
              case hsw10 => kernel_rfl
              case hfw10 => kernel_rfl
              case hrw10 => kernel_rfl
              case hSw10 => first | assumption | trivial
              case hyw10 => refine Or.inl ⟨by kernel_rfl, ?_⟩; (intro w hSw; (try dsimp only at hSw); go_simp; rw [show (wholeT (Except.ok (ts[j]?.getD [])) == ts[j]?.getD []) = true from by simp [wholeT], Bool.not_true])
              case hQw10 => exact fun _ _ _ h => h
              try simp only [Act.put, List.setIfInBounds_toArray, List.set_cons_zero, List.set_cons_succ]
              refine wpAnyH_done (by kernel_rfl) ?_ _
              go_wp2_with fail
              have hnl := HNL.out
              refine ⟨⟨j + 1, s3, F6, by go_num, by omega, HK6, Lib.hid (by rw [HTS2.out, HL3.out])⟩, ?_⟩
              simp [intOf]
              omega
            · have r1 : ¬ (j : Int) < (ns.length : Int) := by omega
              have hbel := hold_of HK0.out.lp HOLD.out HMB.out
              have HBEL := Lib.hid hbel
              clear hbel hnl htl
              go_wp2_with fail
              go_ret
              exact ⟨rfl, HBEL.out⟩
        · have q2 : ¬ (i : Int) < (len : Int) := by omega
          obtain ⟨ao4, cp4, rfl⟩ := row_form HKP.out.r4
          obtain ⟨ao5, cp5, rfl⟩ := row_form HKP.out.r5
          have HTL : Hid (ts.length = i) := Lib.hid (by rw [HTS.out, List.length_map, HNL.out])
          have hi12 : i ≤ 12 := by omega
          go_wp2_with fail
          go_loopw [10] (fun vj wr => ∃ (j : Nat) (st : MemT) (F : Nat → Prop), vj = .int .i64 j ∧ j ≤ i ∧ Hid (KpI mb gN wm wr (2 * i + j) n st F (.slice ao4 ns.length cp4) (.slice ao5 ts.length cp5) ns ts) ∧ Hid (ts = ns.map (txt st.L))) (fun vj _ => i - (intOf vj).toNat)
          case atStart => exact ⟨0, st, F, rfl, Nat.zero_le _, HKP, HTS⟩
          case round =>
            obtain ⟨j, st, F, rfl, hji, HK0, HTS2⟩ := hrel
            have hnl := HNL.out
            have htl := HTL.out
            by_cases hjl : j < i
            · have r1 : (j : Int) < (ns.length : Int) := by omega
              have r2 : (j : Int) < (ts.length : Int) := by omega
              have r3 : 0 ≤ (j : Int) := by omega
              obtain ⟨g4, cp4, hv4⟩ := row_form1 HK0.out.r4 (by omega)
              obtain ⟨g5, cp5, hv5⟩ := row_form1 HK0.out.r5 (by omega)
              simp only [Value.slice.injEq] at hv4 hv5
              obtain ⟨rfl, _, rfl⟩ := hv4
              obtain ⟨rfl, _, rfl⟩ := hv5
              have HRA : Hid (∀ (W : World) {k : Nat} {n : NodeT} {st : MemT} {F : Nat → Prop}, KpI mb gN wm W k n st F (.slice (some ⟨g4, 0, none⟩) ns.length cp4) (.slice (some ⟨g5, 0, none⟩) ts.length cp5) ns ts → W.rangeAt g4 (j * 13) (encN (ns.getD j nD)) ∧ W.cell? ⟨g5, j, none⟩ = some (.string ⟨(ts.getD j []).toArray⟩)) := Lib.hid (fun W k n st F hk => ⟨fun c v hv => by
                have hc13 : c < 13 := by
                  by_cases hc : c < 13
                  · exact hc
                  · rw [List.getElem?_eq_none (by simp [encN, encPtr]; omega)] at hv; cases hv
                rw [hk.r4.cellAt _ (by omega), encNs_get ns j c (by omega) hc13, hv], by
                rw [hk.r5.cellAt _ (by omega)]
                simp [encS, bts, List.getElem?_eq_getElem (show j < ts.length by omega)]⟩)
              have hnj : NW st.L (ns.getD j nD) := by
                rw [List.getD_eq_getElem?_getD, List.getElem?_eq_getElem (show j < ns.length by omega)]
                exact HK0.out.nsw _ (List.getElem_mem _)
              have hll := HK0.out.lp.rn.l
              have HNF : Hid ((ns.getD j nD).wf) := Lib.hid (hnj.wf' (by omega))
              have htj : ts.getD j [] = txt st.L (ns.getD j nD) := by
                rw [HTS2.out, List.getD_eq_getElem?_getD, List.getD_eq_getElem?_getD, List.getElem?_map, List.getElem?_eq_getElem (show j < ns.length by omega)]; rfl
              obtain ⟨s3, e3, hL3, hR3⟩ := rn_whole HK0.out.lp.rn hnj
              rw [← htj] at e3
              have HE3 := Lib.hid e3
              have HL3 := Lib.hid hL3
              have HR3 := Lib.hid hR3
              have HOK3 : Hid (memOk s3) := Lib.hid (hR3.ok (by omega))
              have HKR := Lib.hid (HK0.out.below (wc := wr.drew) (Below.refl _ _).drew)
              clear e3 hL3 hR3 hnj hll htj hnl htl
              go_upto_region 18 with fail
              refine wp_region_held_drew (S := fun w' => w'.rangeAt g4 (j * 13) (encN (ns.getD j nD)) ∧ w'.cell? ⟨g5, j, none⟩ = some (.string ⟨(ts.getD j []).toArray⟩)) (by kernel_rfl) (HRA.out _ HKR.out) (fun hS0 => ?_)
              refine wpAnyH_take (i := 0) (oi := ?oix0) (v := ?vx0) ?hix0 ?hsx0 ?hfx0 ?hrx0 ?hQx0 ?hyx0 ?hSx0 ?hx0
              case hix0 => (simp only [List.getElem?_toArray, List.getElem?_cons_succ, List.getElem?_cons_zero]; rfl)
              case hsx0 => kernel_rfl
              case hfx0 => kernel_rfl
              case hrx0 => kernel_rfl
              case hSx0 => first | assumption | trivial
              case hyx0 => refine Or.inl ⟨by kernel_rfl, ?_⟩; (intro w hSw; (try dsimp only at hSw); go_simp; try with_reducible rfl)
              case hQx0 => exact fun _ _ _ h => h
              try simp only [Act.put, List.setIfInBounds_toArray, List.set_cons_zero, List.set_cons_succ]
              refine wpAnyH_take (i := 1) (oi := ?oix1) (v := ?vx1) ?hix1 ?hsx1 ?hfx1 ?hrx1 ?hQx1 ?hyx1 ?hSx1 ?hx1
              case hix1 => (simp only [List.getElem?_toArray, List.getElem?_cons_succ, List.getElem?_cons_zero]; rfl)
              case hsx1 => kernel_rfl
              case hfx1 => kernel_rfl
              case hrx1 => kernel_rfl
              case hSx1 => first | assumption | trivial
              case hyx1 => refine Or.inl ⟨by kernel_rfl, ?_⟩; (intro w hSw; (try dsimp only at hSw); go_simp; try with_reducible rfl)
              case hQx1 => exact fun _ _ _ h => h
              try simp only [Act.put, List.setIfInBounds_toArray, List.set_cons_zero, List.set_cons_succ]
              refine wpAnyH_take (i := 2) (oi := ?oix2) (v := ?vx2) ?hix2 ?hsx2 ?hfx2 ?hrx2 ?hQx2 ?hyx2 ?hSx2 ?hx2
              case hix2 => (simp only [List.getElem?_toArray, List.getElem?_cons_succ, List.getElem?_cons_zero]; rfl)
              case hsx2 => kernel_rfl
              case hfx2 => kernel_rfl
              case hrx2 => kernel_rfl
              case hSx2 => first | assumption | trivial
              case hyx2 => refine Or.inl ⟨by kernel_rfl, ?_⟩; (intro w hSw; (try dsimp only at hSw); go_simp; try with_reducible rfl)
              case hQx2 => exact fun _ _ _ h => h
              try simp only [Act.put, List.setIfInBounds_toArray, List.set_cons_zero, List.set_cons_succ]
              refine wpAnyH_take (i := 3) (oi := ?oix3) (v := ?vx3) ?hix3 ?hsx3 ?hfx3 ?hrx3 ?hQx3 ?hyx3 ?hSx3 ?hx3
              case hix3 => (simp only [List.getElem?_toArray, List.getElem?_cons_succ, List.getElem?_cons_zero]; rfl)
              case hsx3 => kernel_rfl
              case hfx3 => kernel_rfl
              case hrx3 => kernel_rfl
              case hSx3 => first | assumption | trivial
              case hyx3 => refine Or.inl ⟨by kernel_rfl, ?_⟩; (intro w hSw; (try dsimp only at hSw); go_simp; first | with_reducible rfl | rw [if_pos (by omega)])
              case hQx3 => exact fun _ _ _ h => h
              try simp only [Act.put, List.setIfInBounds_toArray, List.set_cons_zero, List.set_cons_succ]
              refine wpAnyH_take (i := 4) (oi := ?oix4) (v := ?vx4) ?hix4 ?hsx4 ?hfx4 ?hrx4 ?hQx4 ?hyx4 ?hSx4 ?hx4
              case hix4 => (simp only [List.getElem?_toArray, List.getElem?_cons_succ, List.getElem?_cons_zero]; rfl)
              case hsx4 => kernel_rfl
              case hfx4 => kernel_rfl
              case hrx4 => kernel_rfl
              case hSx4 => first | assumption | trivial
              case hyx4 => refine yieldsIf_load_mid (by kernel_rfl) 37 (.tmp 64) ?_ g4 ((j * 13)) ?_ (encN (ns.getD j nD)) _ (fun w' hw => range_and3 hw) Tryd.underlying37 rfl iszNd <;> rfl
              case hQx4 => exact fun _ _ _ h => h
              try simp only [Act.put, List.setIfInBounds_toArray, List.set_cons_zero, List.set_cons_succ]
              refine wpAnyH_take (i := 6) (oi := ?oix6) (v := ?vx6) ?hix6 ?hsx6 ?hfx6 ?hrx6 ?hQx6 ?hyx6 ?hSx6 ?hx6
              case hix6 => (simp only [List.getElem?_toArray, List.getElem?_cons_succ, List.getElem?_cons_zero]; rfl)
              case hsx6 => kernel_rfl
              case hfx6 => kernel_rfl
              case hrx6 => kernel_rfl
              case hSx6 => first | assumption | trivial
              case hyx6 => refine Or.inl ⟨by kernel_rfl, ?_⟩; (intro w hSw; (try dsimp only at hSw); go_simp; try with_reducible rfl)
              case hQx6 => exact fun _ _ _ h => h
              try simp only [Act.put, List.setIfInBounds_toArray, List.set_cons_zero, List.set_cons_succ]
              refine wpAnyH_take (i := 7) (oi := ?oix7) (v := ?vx7) ?hix7 ?hsx7 ?hfx7 ?hrx7 ?hQx7 ?hyx7 ?hSx7 ?hx7
              case hix7 => (simp only [List.getElem?_toArray, List.getElem?_cons_succ, List.getElem?_cons_zero]; rfl)
              case hsx7 => kernel_rfl
              case hfx7 => kernel_rfl
              case hrx7 => kernel_rfl
              case hSx7 => first | assumption | trivial
              case hyx7 => refine Or.inl ⟨by kernel_rfl, ?_⟩; (intro w hSw; (try dsimp only at hSw); go_simp; try with_reducible rfl)
              case hQx7 => exact fun _ _ _ h => h
              try simp only [Act.put, List.setIfInBounds_toArray, List.set_cons_zero, List.set_cons_succ]
              refine wpAnyH_take (i := 8) (oi := ?oix8) (v := ?vx8) ?hix8 ?hsx8 ?hfx8 ?hrx8 ?hQx8 ?hyx8 ?hSx8 ?hx8
              case hix8 => (simp only [List.getElem?_toArray, List.getElem?_cons_succ, List.getElem?_cons_zero]; rfl)
              case hsx8 => kernel_rfl
              case hfx8 => kernel_rfl
              case hrx8 => kernel_rfl
              case hSx8 => first | assumption | trivial
              case hyx8 => refine Or.inl ⟨by kernel_rfl, ?_⟩; (intro w hSw; (try dsimp only at hSw); go_simp; first | with_reducible rfl | rw [if_pos (by omega)])
              case hQx8 => exact fun _ _ _ h => h
              try simp only [Act.put, List.setIfInBounds_toArray, List.set_cons_zero, List.set_cons_succ]
              refine wpAnyH_take (i := 9) (oi := ?oix9) (v := ?vx9) ?hix9 ?hsx9 ?hfx9 ?hrx9 ?hQx9 ?hyx9 ?hSx9 ?hx9
              case hix9 => (simp only [List.getElem?_toArray, List.getElem?_cons_succ, List.getElem?_cons_zero]; rfl)
              case hsx9 => kernel_rfl
              case hfx9 => kernel_rfl
              case hrx9 => kernel_rfl
              case hSx9 => first | assumption | trivial
              case hyx9 => refine Or.inl ⟨by kernel_rfl, ?_⟩; (intro w hSw; (try dsimp only at hSw); go_simp; first | with_reducible rfl | (rw [hSw.2]; rfl) | rfl)
              case hQx9 => exact fun _ _ _ h => h
              try simp only [Act.put, List.setIfInBounds_toArray, List.set_cons_zero, List.set_cons_succ]
              refine wpAnyH_ready (rs := [5]) (by kernel_rfl) (by simp) ?_
              refine AllReadyH.cons (by simp only [List.getElem?_toArray, List.getElem?_cons_succ, List.getElem?_cons_zero]; rfl) (fun K hK => ?_) AllReadyH.nil
              go_simp
              refine (whole_any (mb := mb) HKR.out.lp.at_.1 _ HNF.out (by rw [HE3.out]; exact HOK3.out)).mono ?_
              rw [HE3.out]
              rintro e w6 ⟨rfl, hstep⟩
              obtain ⟨F6, hat6, hfr6, hm6⟩ := HKR.out.lp.at_.step hstep
              have HK6 : Hid (KpI mb gN wm w6 (2 * i + j + 1) n s3 F6 (.slice (some ⟨g4, 0, none⟩) ns.length cp4) (.slice (some ⟨g5, 0, none⟩) ts.length cp5) ns ts) := Lib.hid (HKR.out.go ⟨hat6, hm6.blk HKR.out.lp.bn HKR.out.lp.fN, hfr6 _ HKR.out.lp.bn.lt HKR.out.lp.fN, HR3.out, by rw [HL3.out]; exact HKR.out.lp.nw, by rw [HL3.out]; exact HKR.out.lp.uq⟩ (hm6.mono (fun x _ hx => .inl hx)) hfr6 ⟨[], by rw [HL3.out]; simp⟩)
              clear hstep hat6 hfr6 hm6
              try dsimp only
              refine hK.out _ _ (HRA.out _ HK6.out) (fun hSx5 => ?_)
              try simp only [Act.put, List.setIfInBounds_toArray, List.set_cons_zero, List.set_cons_succ]
              refine wpAnyH_take (i := 10) (oi := ?oix10) (v := ?vx10) ?hix10 ?hsx10 ?hfx10 ?hrx10 ?hQx10 ?hyx10 ?hSx10 ?hx10
              case hix10 => (simp only [List.getElem?_toArray, List.getElem?_cons_succ, List.getElem?_cons_zero]; rfl)
              case hsx10 => kernel_rfl
              case hfx10 => kernel_rfl
              case hrx10 => kernel_rfl
              case hSx10 => first | assumption | trivial
              case hyx10 => refine Or.inl ⟨by kernel_rfl, ?_⟩; (intro w hSw; (try dsimp only at hSw); go_simp; rw [show (wholeT (Except.ok (ts[j]?.getD [])) == ts[j]?.getD []) = true from by simp [wholeT], Bool.not_true])
              case hQx10 => exact fun _ _ _ h => h
              try simp only [Act.put, List.setIfInBounds_toArray, List.set_cons_zero, List.set_cons_succ]
              refine wpAnyH_done (by kernel_rfl) ?_ _
              go_wp2_with fail
              have hnl := HNL.out
              refine ⟨⟨j + 1, s3, F6, by go_num, by omega, HK6, Lib.hid (by rw [HTS2.out, HL3.out])⟩, ?_⟩
              simp [intOf]
              omega
            · have r1 : ¬ (j : Int) < (ns.length : Int) := by omega
              have hbel := hold_of HK0.out.lp HOLD.out HMB.out
              have HBEL := Lib.hid hbel
              clear hbel hnl htl
              go_wp2_with fail
              go_ret
              exact ⟨rfl, HBEL.out⟩
end Go.Proofs.YtbhofablndjeoaaDoor
