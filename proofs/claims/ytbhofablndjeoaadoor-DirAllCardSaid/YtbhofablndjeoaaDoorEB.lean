/- The law DirAll. -/
import Derived.Test.YtbhofablndjeoaaDoorEA
import Derived.Deep.DeepCutAuto
namespace Go.Proofs.YtbhofablndjeoaaDoor
open Go.RowKit
set_option linter.unusedSimpArgs false
set_option linter.unusedVariables false
attribute [local go_sem ↓] wp_loadPt wp_storePt wp_loadNd wp_storeNd wp_binNd
theorem yieldsIf_neqPtB {ops : Array Oper} {S : World → Prop} {op : Oper} {a : Act} (hw : Region.wanted op (yielded ops a.tmps) = true) (x y : Operand) (t' : TypeId) (ho : op.op = .binOp .neq 35 x y t') (p q : PtrT)
    (hx : a.eval x = .agg (encPtr p).toArray) (hy : a.eval y = .agg (encPtr q).toArray) (hp : p.wf) (hq : q.wf) {b : Bool} (hb : (!decide (p = q)) = b) : YieldsIf Tryd.prog ops S op (.bool b) a :=
  .inl ⟨hw, fun w hw' => by
    unfold execOp
    simp only [ho, hx, hy]
    rw [Sem.run_bind, Sem.run_bind, run_eqGuard_agg w _ _ _ _ _ _ grdPt, Result.andThen_ok, run_neq_struct, run_eqPt hp hq, ← hb]
    rfl⟩
theorem mem_snoc {α : Type} {x : α} {l : List α} : ∀ r ∈ l ++ [x], r ∈ x :: l := fun r hr => by
  rcases List.mem_append.1 hr with hr | hr
  · exact List.mem_cons_of_mem _ hr
  · rw [List.mem_singleton] at hr; rw [hr]; exact List.mem_cons_self ..
theorem range_l {w : World} {b o : Nat} {cs : List Value} {Q : Prop} (h : w.rangeAt b o cs ∧ Q) : w.rangeAt b o cs := h.1
theorem range_r {w : World} {b o : Nat} {cs : List Value} {P : Prop} (h : P ∧ w.rangeAt b o cs) : w.rangeAt b o cs := h.2
theorem range_m {w : World} {b o : Nat} {cs : List Value} {P Q : Prop} (h : P ∧ w.rangeAt b o cs ∧ Q) : w.rangeAt b o cs := h.2.1
set_option maxHeartbeats 8000000 in
set_option maxRecDepth 100000 in
theorem alld_any (a : Option Addr) (len cap : Nat) (zs : List Nat) (fl : Nat) (w : World) (h : USl w a len cap zs) (hfl : fl ≤ 255) :
    Calls Tryd.prog 10 #[.slice a len cap, .int .u8 fl] w fun e w' => e = .returned (.bool true) ∧ Below w.heap.size w w' := by
  have HAW := Lib.hid awake16_any
  have hmx := h.mx
  by_cases hlen : 12 < len
  · have q1 : (12 : Int) < (len : Int) := by omega
    go_enter Tryd.func10, Tryd.ntmps10
    go_wp2_with fail
    refine (HAW.out _).mono ?_
    rintro e w1 ⟨rfl, hb1⟩
    have HB1 := Lib.hid hb1
    clear hb1
    go_wp2_with fail
    refine (HAW.out _).mono ?_
    rintro e w2 ⟨rfl, hb2⟩
    have HFIN := Lib.hid (HB1.out.trans (hb2.mono HB1.out.size))
    clear hb2
    go_wp2_with fail
    go_ret
    exact ⟨rfl, HFIN.out⟩
  · have q1 : ¬ (12 : Int) < (len : Int) := by omega
    have q1' : (len : Int) ≤ 12 := by omega
    go_enter Tryd.func10, Tryd.ntmps10
    go_wp2_with fail
    refine (HAW.out _).mono ?_
    rintro e w1 ⟨rfl, hb1⟩
    have HB1 := Lib.hid hb1
    clear hb1
    go_upto_region 5 with fail
    have hst := fun op a next Q => store_newZNd (w1.alloc (.cells mem0.toArray 27)) op a next Q
    obtain ⟨mb, hmb⟩ : ∃ mb, mb = w1.heap.size := ⟨_, rfl⟩
    obtain ⟨gD, hgD⟩ : ∃ g, g = w1.heap.size + 1 := ⟨_, rfl⟩
    obtain ⟨wm, hwm⟩ : ∃ wm, wm = w1.alloc (.cells mem0.toArray 27) := ⟨_, rfl⟩
    obtain ⟨wB, hwB⟩ : ∃ wB, wB = wm.alloc (.cells (encN nD).toArray 37) := ⟨_, rfl⟩
    have hsm : wm.heap.size = w1.heap.size + 1 := by rw [hwm]; simp
    have hL0 : LdO mb wm wB s0 (fun x => x = mb) [(gD, 37, encN nD)] (.slice none 0 0) [] [] := by
      have hm0 : memIs mb wm s0 (fun k => k = mb) := by rw [hwm]; exact mem_new hmb.symm
      have h0 : LdG mb wm wm s0 (fun x => x = mb) [] := ⟨StoreC.At.start (C := memC mb) hm0, fun b hb => (by cases hb), fun b hb => (by cases hb)⟩
      have h1 := (h0.new 37 (encN nD)).o
      rw [← hwB, hsm, ← hgD] at h1
      exact h1
    have HL0 := Lib.hid hL0
    have HOLD : Hid (Below w.heap.size w wm) := Lib.hid (by rw [hwm]; exact HB1.out.alloc HB1.out.size _)
    have HMB : Hid (w.heap.size ≤ mb) := Lib.hid (by rw [hmb]; exact HB1.out.size)
    have HGD : Hid (wm.heap.size ≤ gD) := Lib.hid (by omega)
    have HZ := Lib.hid (fun (hn : 0 < len) => h.cells hn)
    rw [show w1.alloc (.cells #[.slice none 0 0, .int .i64 0, .int .i64 0] 27) = wm from hwm.symm]
    rw [← hwm] at hst
    rw [← hwB, hsm] at hst
    rw [hst, ← hgD, ← hmb]
    clear hmb hgD hwm hwB hsm hst hL0
    obtain ⟨iT, hiT, hiT0, hiT1, hiT2⟩ := info_parts infoTP
    go_wp2_with fail
    go_loopw [7, 8] (fun v7 vi wr => ∃ (i : Nat) (d : NodeT) (D : Nat → Option NodeT) (st : MemT) (F : Nat → Prop) (os : List (Value × List PtrT)), vi = .int .i64 i ∧ i ≤ len ∧ Hid (LdO mb wm wr st F [(gD, 37, encN d)] v7 os os) ∧ Hid (DaS st d D i (3 * i)) ∧ Hid (os.map Prod.snd = (List.range i).map (oPtrs st.L D))) (fun _ vi _ => len - (intOf vi).toNat)
    case atStart => exact ⟨0, nD, _, s0, _, [], rfl, Nat.zero_le _, HL0, Lib.hid DaS.start, Lib.hid rfl⟩
    case round =>
      obtain ⟨i, d, D, st, F, os, rfl, hil, HL, HDS, HOS⟩ := hrel
      clear HL0
      obtain ⟨ao7, cp7, rfl, hao7⟩ := HL.out.oform
      have HOL : Hid (os.length = i) := Lib.hid (by have := congrArg List.length HOS.out; simpa using this)
      have hi12 : i ≤ 12 := by omega
      by_cases hlt : i < len
      · have q3 : (i : Int) < (len : Int) := by omega
        have q4 : 0 ≤ (i : Int) := by omega
        have hi13 : i < 12 := by omega
        obtain ⟨b, off0, rfl, HZ2⟩ : ∃ b off, a = some ⟨b, off, none⟩ ∧ Hid (∀ W, Below w.heap.size w W → ∀ k, k < len → zs.getD k 0 ≤ 65535 ∧ W.cell? ⟨b, off + k, none⟩ = some (.int .u16 ((zs.getD k 0 : Nat) : Int))) := by
          obtain ⟨b, off, e, _, h2⟩ := HZ.out (by omega)
          exact ⟨b, off, e, Lib.hid h2⟩
        obtain ⟨z, hz⟩ : ∃ z, z = zs.getD i 0 := ⟨_, rfl⟩
        have hz16 : z ≤ 65535 := by rw [hz]; exact (HZ2.out wm HOLD.out i hlt).1
        have HZC : Hid (∀ W, Below w.heap.size w W → W.cell? ⟨b, off0 + i, none⟩ = some (.int .u16 (z : Int))) := Lib.hid (fun W hW => by rw [hz]; exact (HZ2.out W hW i hlt).2)
        obtain ⟨o, ho⟩ : ∃ o, o = z % 3000 := ⟨_, rfl⟩
        obtain ⟨m1, hm1⟩ : ∃ m1, m1 = 1 + z % 500 := ⟨_, rfl⟩
        obtain ⟨s, hs⟩ : ∃ s : Bs, s = List.replicate m1 (UInt8.ofNat i) := ⟨_, rfl⟩
        have hsl : s.length = m1 := by rw [hs]; simp
        obtain ⟨n, s1, s2, q, s3, D', e1, hn, e2, e3, hds, r1, r2, hnl, hO, hOj⟩ := HDS.out.round (by omega) hi13 o s (by omega) (by omega)
        have HDW : Hid d.wf := Lib.hid (HDS.out.di.nw.wf' (by have := HDS.out.rd.l; omega))
        have HNW : Hid n.wf := Lib.hid (hn.wf' (by have := r1.l; omega))
        have HNL : Hid (lvOk n) := Lib.hid hn.lvOk
        have HE1 := Lib.hid e1
        have HE2 := Lib.hid e2
        have HE3 := Lib.hid e3
        have HDS2 := Lib.hid hds
        have HM : Hid (memOk s1 ∧ memOk s2 ∧ memOk s3) := Lib.hid ⟨r1.ok (by omega), r2.ok (by omega), hds.rd.ok (by omega)⟩
        have HOS2 : Hid (os.map Prod.snd ++ [nPtrs s1.L n] = (List.range (i + 1)).map (oPtrs s3.L D')) := Lib.hid (by
          rw [HOS.out, List.range_succ, List.map_append, List.map_singleton, hO]
          congr 1
          exact List.map_congr_left (fun j hj => (hOj j (List.mem_range.1 hj)).symm))
        obtain ⟨pn, hpn⟩ : ∃ pn, pn = nPtrs s1.L n := ⟨_, rfl⟩
        rw [← hpn] at HE2 HOS2 hnl
        have HFI : Hid (∀ W, Calls Tryd.prog 14 #[.int .u8 (i : Int), .int .i64 m1] W fun e w' => e = .returned (.string ⟨s.toArray⟩) ∧ Below W.heap.size W w') := Lib.hid (fun W => by
          have := Fill_any (UInt8.ofNat i) m1 W (by omega)
          rw [← hs, show ((UInt8.ofNat i).toNat : Int) = (i : Int) by simp; omega] at this
          exact this)
        have HSL : Hid (s.length ≤ 1000000) := Lib.hid (by omega)
        have k1 : (z : Int) % 3000 = (o : Int) := by omega
        have k2 : (1 : Int) + (z : Int) % 500 = (m1 : Int) := by omega
        have hm500 : m1 ≤ 500 := by omega
        have ho3 : o < 3000 := by omega
        have HWZ : IntKind.i64.wrap (z : Int) = (z : Int) := IntWalk.i64_in _ (by omega)
        have HWM : Hid (IntKind.i64.wrap (1 + (IntKind.i64.wrap (z : Int)).tmod 500) = (m1 : Int)) := Lib.hid (by rw [HWZ, Int.tmod_eq_emod_of_nonneg (by omega), IntWalk.i64_in _ (by omega)]; exact k2)
        have HWO : Hid ((IntKind.i64.wrap (z : Int)).tmod 3000 = (o : Int)) := Lib.hid (by rw [HWZ, Int.tmod_eq_emod_of_nonneg (by omega)]; exact k1)
        clear HWZ
        have HI8 : Hid (IntKind.u8.wrap (i : Int) = (i : Int)) := Lib.hid (by rw [IntWalk.u8_in _ (by omega)])
        have HOI : Hid (I64' (o : Int)) := Lib.hid (by unfold I64'; omega)
        clear e1 hn e2 e3 hds r1 r2 hO hOj hpn hz HZ2 HZ ho hm1 hs hsl k1 k2
        go_upto_region 9 with fail
        go_cut [9, 10] (fun vx ve wx => ∃ g F3, vx = .pointer (some ⟨g, 0, none⟩) ∧ ve = .int .i64 0 ∧ Hid (LdO mb wm wx s1 F3 [(g, 37, encN n), (gD, 37, encN d)] (.slice ao7 os.length cp7) os os))
        case first =>
          have HSS : Hid (∀ (w' : World) (st : MemT) (F : Nat → Prop) (bs : List (Nat × Nat × List Value)) (vO : Value) (os rs : List (Value × List PtrT)), LdO mb wm w' st F bs vO os rs → w'.cell? ⟨b, off0 + i, none⟩ = some (.int .u16 (z : Int))) := Lib.hid (fun W st F bs vO os rs h => HZC.out W (h.old HOLD.out HMB.out))
          have HD0 := Lib.hid (HL.out.below (wc := wr.drew) (Below.refl _ _).drew)
          refine wp_region_held_drew (S := fun w' => w'.cell? ⟨b, off0 + i, none⟩ = some (.int .u16 (z : Int))) (by kernel_rfl) (HSS.out _ _ _ _ _ _ _ HD0.out) (fun hS0 => ?_)
          refine wpAnyH_take (i := 0) (oi := ?oic0) (v := ?vc0) ?hic0 ?hsc0 ?hfc0 ?hrc0 ?hQc0 ?hyc0 ?hSc0 ?hc0
          case hic0 => (simp only [List.getElem?_toArray, List.getElem?_cons_succ, List.getElem?_cons_zero]; rfl)
          case hsc0 => kernel_rfl
          case hfc0 => kernel_rfl
          case hrc0 => kernel_rfl
          case hSc0 => first | assumption | trivial
          case hyc0 => refine Or.inl ⟨by kernel_rfl, ?_⟩; (intro w hSw; (try dsimp only at hSw); go_simp; try with_reducible rfl)
          case hQc0 => exact fun _ _ _ h => h
          try simp only [Act.put, List.setIfInBounds_toArray, List.set_cons_zero, List.set_cons_succ]
          refine wpAnyH_take (i := 1) (oi := ?oic1) (v := ?vc1) ?hic1 ?hsc1 ?hfc1 ?hrc1 ?hQc1 ?hyc1 ?hSc1 ?hc1
          case hic1 => (simp only [List.getElem?_toArray, List.getElem?_cons_succ, List.getElem?_cons_zero]; rfl)
          case hsc1 => kernel_rfl
          case hfc1 => kernel_rfl
          case hrc1 => kernel_rfl
          case hSc1 => first | assumption | trivial
          case hyc1 => refine Or.inl ⟨by kernel_rfl, ?_⟩; (intro w hSw; (try dsimp only at hSw); go_simp; try with_reducible rfl)
          case hQc1 => exact fun _ _ _ h => h
          try simp only [Act.put, List.setIfInBounds_toArray, List.set_cons_zero, List.set_cons_succ]
          refine wpAnyH_take (i := 2) (oi := ?oic2) (v := ?vc2) ?hic2 ?hsc2 ?hfc2 ?hrc2 ?hQc2 ?hyc2 ?hSc2 ?hc2
          case hic2 => (simp only [List.getElem?_toArray, List.getElem?_cons_succ, List.getElem?_cons_zero]; rfl)
          case hsc2 => kernel_rfl
          case hfc2 => kernel_rfl
          case hrc2 => kernel_rfl
          case hSc2 => first | assumption | trivial
          case hyc2 => refine Or.inl ⟨by kernel_rfl, ?_⟩; (intro w hSw; (try dsimp only at hSw); go_simp; try with_reducible rfl)
          case hQc2 => exact fun _ _ _ h => h
          try simp only [Act.put, List.setIfInBounds_toArray, List.set_cons_zero, List.set_cons_succ]
          refine wpAnyH_take (i := 3) (oi := ?oic3) (v := ?vc3) ?hic3 ?hsc3 ?hfc3 ?hrc3 ?hQc3 ?hyc3 ?hSc3 ?hc3
          case hic3 => (simp only [List.getElem?_toArray, List.getElem?_cons_succ, List.getElem?_cons_zero]; rfl)
          case hsc3 => kernel_rfl
          case hfc3 => kernel_rfl
          case hrc3 => kernel_rfl
          case hSc3 => first | assumption | trivial
          case hyc3 => refine Or.inl ⟨by kernel_rfl, ?_⟩; (intro w hSw; (try dsimp only at hSw); go_simp; try with_reducible rfl)
          case hQc3 => exact fun _ _ _ h => h
          try simp only [Act.put, List.setIfInBounds_toArray, List.set_cons_zero, List.set_cons_succ]
          refine wpAnyH_take (i := 4) (oi := ?oic4) (v := ?vc4) ?hic4 ?hsc4 ?hfc4 ?hrc4 ?hQc4 ?hyc4 ?hSc4 ?hc4
          case hic4 => (simp only [List.getElem?_toArray, List.getElem?_cons_succ, List.getElem?_cons_zero]; rfl)
          case hsc4 => kernel_rfl
          case hfc4 => kernel_rfl
          case hrc4 => kernel_rfl
          case hSc4 => first | assumption | trivial
          case hyc4 => refine Or.inl ⟨by kernel_rfl, ?_⟩; (intro w hSw; (try dsimp only at hSw); go_simp; try with_reducible rfl)
          case hQc4 => exact fun _ _ _ h => h
          try simp only [Act.put, List.setIfInBounds_toArray, List.set_cons_zero, List.set_cons_succ]
          refine wpAnyH_take (i := 5) (oi := ?oic5) (v := ?vc5) ?hic5 ?hsc5 ?hfc5 ?hrc5 ?hQc5 ?hyc5 ?hSc5 ?hc5
          case hic5 => (simp only [List.getElem?_toArray, List.getElem?_cons_succ, List.getElem?_cons_zero]; rfl)
          case hsc5 => kernel_rfl
          case hfc5 => kernel_rfl
          case hrc5 => kernel_rfl
          case hSc5 => first | assumption | trivial
          case hyc5 => refine Or.inl ⟨by kernel_rfl, ?_⟩; (intro w hSw; (try dsimp only at hSw); go_simp; first | with_reducible rfl | rw [if_pos (by omega)])
          case hQc5 => exact fun _ _ _ h => h
          try simp only [Act.put, List.setIfInBounds_toArray, List.set_cons_zero, List.set_cons_succ]
          refine wpAnyH_take (i := 6) (oi := ?oic6) (v := ?vc6) ?hic6 ?hsc6 ?hfc6 ?hrc6 ?hQc6 ?hyc6 ?hSc6 ?hc6
          case hic6 => (simp only [List.getElem?_toArray, List.getElem?_cons_succ, List.getElem?_cons_zero]; rfl)
          case hsc6 => kernel_rfl
          case hfc6 => kernel_rfl
          case hrc6 => kernel_rfl
          case hSc6 => first | assumption | trivial
          case hyc6 => refine Or.inl ⟨by kernel_rfl, ?_⟩; (intro w hSw; (try dsimp only at hSw); go_simp; try with_reducible rfl)
          case hQc6 => exact fun _ _ _ h => h
          try simp only [Act.put, List.setIfInBounds_toArray, List.set_cons_zero, List.set_cons_succ]
          refine wpAnyH_take (i := 7) (oi := ?oic7) (v := ?vc7) ?hic7 ?hsc7 ?hfc7 ?hrc7 ?hQc7 ?hyc7 ?hSc7 ?hc7
          case hic7 => (simp only [List.getElem?_toArray, List.getElem?_cons_succ, List.getElem?_cons_zero]; rfl)
          case hsc7 => kernel_rfl
          case hfc7 => kernel_rfl
          case hrc7 => kernel_rfl
          case hSc7 => first | assumption | trivial
          case hyc7 => refine Or.inl ⟨by kernel_rfl, ?_⟩; (intro w hSw; (try dsimp only at hSw); go_simp; try with_reducible rfl)
          case hQc7 => exact fun _ _ _ h => h
          try simp only [Act.put, List.setIfInBounds_toArray, List.set_cons_zero, List.set_cons_succ]
          refine wpAnyH_take (i := 8) (oi := ?oic8) (v := ?vc8) ?hic8 ?hsc8 ?hfc8 ?hrc8 ?hQc8 ?hyc8 ?hSc8 ?hc8
          case hic8 => (simp only [List.getElem?_toArray, List.getElem?_cons_succ, List.getElem?_cons_zero]; rfl)
          case hsc8 => kernel_rfl
          case hfc8 => kernel_rfl
          case hrc8 => kernel_rfl
          case hSc8 => first | assumption | trivial
          case hyc8 => refine Or.inl ⟨by kernel_rfl, ?_⟩; (intro w hSw; (try dsimp only at hSw); go_simp; try with_reducible rfl)
          case hQc8 => exact fun _ _ _ h => h
          try simp only [Act.put, List.setIfInBounds_toArray, List.set_cons_zero, List.set_cons_succ]
          refine wpAnyH_take (i := 9) (oi := ?oic9) (v := ?vc9) ?hic9 ?hsc9 ?hfc9 ?hrc9 ?hQc9 ?hyc9 ?hSc9 ?hc9
          case hic9 => (simp only [List.getElem?_toArray, List.getElem?_cons_succ, List.getElem?_cons_zero]; rfl)
          case hsc9 => kernel_rfl
          case hfc9 => kernel_rfl
          case hrc9 => kernel_rfl
          case hSc9 => first | assumption | trivial
          case hyc9 => refine Or.inl ⟨by kernel_rfl, ?_⟩; (intro w hSw; (try dsimp only at hSw); go_simp; try with_reducible rfl)
          case hQc9 => exact fun _ _ _ h => h
          try simp only [Act.put, List.setIfInBounds_toArray, List.set_cons_zero, List.set_cons_succ]
          refine wpAnyH_take (i := 10) (oi := ?oic10) (v := ?vc10) ?hic10 ?hsc10 ?hfc10 ?hrc10 ?hQc10 ?hyc10 ?hSc10 ?hc10
          case hic10 => (simp only [List.getElem?_toArray, List.getElem?_cons_succ, List.getElem?_cons_zero]; rfl)
          case hsc10 => kernel_rfl
          case hfc10 => kernel_rfl
          case hrc10 => kernel_rfl
          case hSc10 => first | assumption | trivial
          case hyc10 => refine Or.inl ⟨by kernel_rfl, ?_⟩; (intro w hSw; (try dsimp only at hSw); go_simp; try with_reducible rfl)
          case hQc10 => exact fun _ _ _ h => h
          try simp only [Act.put, List.setIfInBounds_toArray, List.set_cons_zero, List.set_cons_succ]
          refine wpAnyH_take (i := 11) (oi := ?oic11) (v := ?vc11) ?hic11 ?hsc11 ?hfc11 ?hrc11 ?hQc11 ?hyc11 ?hSc11 ?hc11
          case hic11 => (simp only [List.getElem?_toArray, List.getElem?_cons_succ, List.getElem?_cons_zero]; rfl)
          case hsc11 => kernel_rfl
          case hfc11 => kernel_rfl
          case hrc11 => kernel_rfl
          case hSc11 => first | assumption | trivial
          case hyc11 => refine Or.inl ⟨by kernel_rfl, ?_⟩; (intro w hSw; (try dsimp only at hSw); go_simp; try with_reducible rfl)
          case hQc11 => exact fun _ _ _ h => h
          try simp only [Act.put, List.setIfInBounds_toArray, List.set_cons_zero, List.set_cons_succ]
          refine wpAnyH_take (i := 12) (oi := ?oic12) (v := ?vc12) ?hic12 ?hsc12 ?hfc12 ?hrc12 ?hQc12 ?hyc12 ?hSc12 ?hc12
          case hic12 => (simp only [List.getElem?_toArray, List.getElem?_cons_succ, List.getElem?_cons_zero]; rfl)
          case hsc12 => kernel_rfl
          case hfc12 => kernel_rfl
          case hrc12 => kernel_rfl
          case hSc12 => first | assumption | trivial
          case hyc12 => refine Or.inl ⟨by kernel_rfl, ?_⟩; (intro w hSw; (try dsimp only at hSw); go_simp; try with_reducible rfl)
          case hQc12 => exact fun _ _ _ h => h
          try simp only [Act.put, List.setIfInBounds_toArray, List.set_cons_zero, List.set_cons_succ]
          refine wpAnyH_take (i := 13) (oi := ?oic13) (v := ?vc13) ?hic13 ?hsc13 ?hfc13 ?hrc13 ?hQc13 ?hyc13 ?hSc13 ?hc13
          case hic13 => (simp only [List.getElem?_toArray, List.getElem?_cons_succ, List.getElem?_cons_zero]; rfl)
          case hsc13 => kernel_rfl
          case hfc13 => kernel_rfl
          case hrc13 => kernel_rfl
          case hSc13 => first | assumption | trivial
          case hyc13 => refine Or.inl ⟨by kernel_rfl, ?_⟩; (intro w hSw; (try dsimp only at hSw); go_simp; first | with_reducible rfl | rw [if_pos (by omega)])
          case hQc13 => exact fun _ _ _ h => h
          try simp only [Act.put, List.setIfInBounds_toArray, List.set_cons_zero, List.set_cons_succ]
          refine wpAnyH_take (i := 14) (oi := ?oic14) (v := ?vc14) ?hic14 ?hsc14 ?hfc14 ?hrc14 ?hQc14 ?hyc14 ?hSc14 ?hc14
          case hic14 => (simp only [List.getElem?_toArray, List.getElem?_cons_succ, List.getElem?_cons_zero]; rfl)
          case hsc14 => kernel_rfl
          case hfc14 => kernel_rfl
          case hrc14 => kernel_rfl
          case hSc14 => first | assumption | trivial
          case hyc14 => refine Or.inl ⟨by kernel_rfl, ?_⟩; (intro w hSw; (try dsimp only at hSw); go_simp; try with_reducible rfl)
          case hQc14 => exact fun _ _ _ h => h
          try simp only [Act.put, List.setIfInBounds_toArray, List.set_cons_zero, List.set_cons_succ]
          refine wpAnyH_take (i := 15) (oi := ?oic15) (v := ?vc15) ?hic15 ?hsc15 ?hfc15 ?hrc15 ?hQc15 ?hyc15 ?hSc15 ?hc15
          case hic15 => (simp only [List.getElem?_toArray, List.getElem?_cons_succ, List.getElem?_cons_zero]; rfl)
          case hsc15 => kernel_rfl
          case hfc15 => kernel_rfl
          case hrc15 => kernel_rfl
          case hSc15 => first | assumption | trivial
          case hyc15 => refine Or.inl ⟨by kernel_rfl, ?_⟩; (intro w hSw; (try dsimp only at hSw); go_simp; try with_reducible rfl)
          case hQc15 => exact fun _ _ _ h => h
          try simp only [Act.put, List.setIfInBounds_toArray, List.set_cons_zero, List.set_cons_succ]
          refine wpAnyH_take (i := 16) (oi := ?oic16) (v := ?vc16) ?hic16 ?hsc16 ?hfc16 ?hrc16 ?hQc16 ?hyc16 ?hSc16 ?hc16
          case hic16 => (simp only [List.getElem?_toArray, List.getElem?_cons_succ, List.getElem?_cons_zero]; rfl)
          case hsc16 => kernel_rfl
          case hfc16 => kernel_rfl
          case hrc16 => kernel_rfl
          case hSc16 => first | assumption | trivial
          case hyc16 => refine Or.inl ⟨by kernel_rfl, ?_⟩; (intro w hSw; (try dsimp only at hSw); go_simp; try with_reducible rfl)
          case hQc16 => exact fun _ _ _ h => h
          try simp only [Act.put, List.setIfInBounds_toArray, List.set_cons_zero, List.set_cons_succ]
          refine wpAnyH_take (i := 17) (oi := ?oic17) (v := ?vc17) ?hic17 ?hsc17 ?hfc17 ?hrc17 ?hQc17 ?hyc17 ?hSc17 ?hc17
          case hic17 => (simp only [List.getElem?_toArray, List.getElem?_cons_succ, List.getElem?_cons_zero]; rfl)
          case hsc17 => kernel_rfl
          case hfc17 => kernel_rfl
          case hrc17 => kernel_rfl
          case hSc17 => first | assumption | trivial
          case hyc17 => refine Or.inl ⟨by kernel_rfl, ?_⟩; (intro w hSw; (try dsimp only at hSw); go_simp; try with_reducible rfl)
          case hQc17 => exact fun _ _ _ h => h
          try simp only [Act.put, List.setIfInBounds_toArray, List.set_cons_zero, List.set_cons_succ]
          refine wpAnyH_ready (rs := [18, 23]) (by kernel_rfl) (by simp) ?_
          refine AllReadyH.cons (by simp only [List.getElem?_toArray, List.getElem?_cons_succ, List.getElem?_cons_zero]; rfl) (fun K hK => ?_) (AllReadyH.cons (by simp only [List.getElem?_toArray, List.getElem?_cons_succ, List.getElem?_cons_zero]; rfl) (fun K hK => ?_) AllReadyH.nil)
          · go_simp
            rw [HI8.out, HWM.out]
            refine (HFI.out _).mono ?_
            rintro e w5 ⟨rfl, hb5⟩
            have H5 := Lib.hid (HD0.out.below hb5)
            clear hb5
            try dsimp only
            refine hK.out _ _ (HSS.out _ _ _ _ _ _ _ H5.out) (fun hScp18 => ?_)
            try simp only [Act.put, List.setIfInBounds_toArray, List.set_cons_zero, List.set_cons_succ]
            refine wpAnyH_ready (rs := [19, 23]) (by kernel_rfl) (by simp) ?_
            refine AllReadyH.cons (by simp only [List.getElem?_toArray, List.getElem?_cons_succ, List.getElem?_cons_zero]; rfl) (fun K hK => ?_) (AllReadyH.cons (by simp only [List.getElem?_toArray, List.getElem?_cons_succ, List.getElem?_cons_zero]; rfl) (fun K hK => ?_) AllReadyH.nil)
            · go_simp
              rw [HWO.out]
              refine (Write_any (C := memC mb) H5.out.g.at_.1 nD nD_wf (o : Int) HOI.out s HSL.out (by rw [HE1.out]; exact HM.out.1)).mono ?_
              rintro e w6 ⟨hpr, hstep6⟩
              rw [HE1.out] at hpr hstep6
              have hpe := NdR.val hpr
              subst hpe
              obtain ⟨F6, hl6⟩ := H5.out.step hstep6
              have H6 := Lib.hid hl6
              clear hstep6 hl6 hpr
              try dsimp only
              refine hK.out _ _ (HSS.out _ _ _ _ _ _ _ H6.out) (fun hScpp19 => ?_)
              try simp only [Act.put, List.setIfInBounds_toArray, List.set_cons_zero, List.set_cons_succ]
              refine wpAnyH_take (i := 20) (oi := ?oicpp20) (v := ?vcpp20) ?hicpp20 ?hscpp20 ?hfcpp20 ?hrcpp20 ?hQcpp20 ?hycpp20 ?hScpp20 ?hcpp20
              case hicpp20 => (simp only [List.getElem?_toArray, List.getElem?_cons_succ, List.getElem?_cons_zero]; rfl)
              case hscpp20 => kernel_rfl
              case hfcpp20 => kernel_rfl
              case hrcpp20 => kernel_rfl
              case hScpp20 => first | assumption | trivial
              case hycpp20 => refine Or.inl ⟨by kernel_rfl, ?_⟩; (intro w hSw; (try dsimp only at hSw); go_simp; try with_reducible rfl)
              case hQcpp20 => exact fun _ _ _ h => h
              try simp only [Act.put, List.setIfInBounds_toArray, List.set_cons_zero, List.set_cons_succ]
              refine wpAnyH_take (i := 21) (oi := ?oicpp21) (v := ?vcpp21) ?hicpp21 ?hscpp21 ?hfcpp21 ?hrcpp21 ?hQcpp21 ?hycpp21 ?hScpp21 ?hcpp21
              case hicpp21 => (simp only [List.getElem?_toArray, List.getElem?_cons_succ, List.getElem?_cons_zero]; rfl)
              case hscpp21 => kernel_rfl
              case hfcpp21 => kernel_rfl
              case hrcpp21 => kernel_rfl
              case hScpp21 => first | assumption | trivial
              case hycpp21 => refine Or.inl ⟨by kernel_rfl, ?_⟩; (intro w hSw; (try dsimp only at hSw); go_simp; try with_reducible rfl)
              case hQcpp21 => exact fun _ _ _ h => h
              try simp only [Act.put, List.setIfInBounds_toArray, List.set_cons_zero, List.set_cons_succ]
              refine wpAnyH_take (i := 22) (oi := ?oicpp22) (v := ?vcpp22) ?hicpp22 ?hscpp22 ?hfcpp22 ?hrcpp22 ?hQcpp22 ?hycpp22 ?hScpp22 ?hcpp22
              case hicpp22 => (simp only [List.getElem?_toArray, List.getElem?_cons_succ, List.getElem?_cons_zero]; rfl)
              case hscpp22 => kernel_rfl
              case hfcpp22 => kernel_rfl
              case hrcpp22 => kernel_rfl
              case hScpp22 => first | assumption | trivial
              case hycpp22 => refine Or.inl ⟨by kernel_rfl, ?_⟩; (intro w hSw; (try dsimp only at hSw); go_simp; try with_reducible rfl)
              case hQcpp22 => exact fun _ _ _ h => h
              try simp only [Act.put, List.setIfInBounds_toArray, List.set_cons_zero, List.set_cons_succ]
              refine wpAnyH_ready (rs := [23]) (by kernel_rfl) (by simp) ?_
              refine AllReadyH.cons (by simp only [List.getElem?_toArray, List.getElem?_cons_succ, List.getElem?_cons_zero]; rfl) (fun K hK => ?_) AllReadyH.nil
              go_simp
              have HA := Lib.hid (H6.out.new 37 (encN nD))
              refine hK.out _ _ (HSS.out _ _ _ _ _ _ _ HA.out) (fun hScpp23 => ?_)
              try simp only [Act.put, List.setIfInBounds_toArray, List.set_cons_zero, List.set_cons_succ]
              have H9 := Lib.hid (HA.out.put (o := 0) (vs := encN n) (ds := encN n) (H6.out.g.at_.size) (fun b hb => Nat.ne_of_lt (H6.out.g.lt b hb)) ((HA.out.g.kb _ (List.mem_cons_self ..)).put rfl) (by decide) (by decide))
              refine wpAnyH_ready (rs := [24]) (by kernel_rfl) (by simp) ?_
              refine AllReadyH.cons (by simp only [List.getElem?_toArray, List.getElem?_cons_succ, List.getElem?_cons_zero]; rfl) (fun K hK => ?_) AllReadyH.nil
              rw [if_pos (by kernel_rfl)]
              refine wp_store_mid 37 (.tmp 9) (.tmp 63) rfl w6.heap.size (0) (encN (ndV (.ok n))).toArray rfl rfl (blk_there (HA.out.g.kb _ (List.mem_cons_self ..)) (Nat.le_refl 13)) iszNd (all_oneCell_toArray (encN_ones _)) ?_
              refine hK.out _ _ (HSS.out _ _ _ _ _ _ _ H9.out) (fun hScpp24 => ?_)
              try simp only [Act.put, List.setIfInBounds_toArray, List.set_cons_zero, List.set_cons_succ]
              refine wpAnyH_take (i := 25) (oi := ?oicpp25) (v := ?vcpp25) ?hicpp25 ?hscpp25 ?hfcpp25 ?hrcpp25 ?hQcpp25 ?hycpp25 ?hScpp25 ?hcpp25
              case hicpp25 => (simp only [List.getElem?_toArray, List.getElem?_cons_succ, List.getElem?_cons_zero]; rfl)
              case hscpp25 => kernel_rfl
              case hfcpp25 => kernel_rfl
              case hrcpp25 => kernel_rfl
              case hScpp25 => first | assumption | trivial
              case hycpp25 => refine Or.inl ⟨by kernel_rfl, ?_⟩; (intro w hSw; (try dsimp only at hSw); go_simp; try with_reducible rfl)
              case hQcpp25 => exact fun _ _ _ h => h
              try simp only [Act.put, List.setIfInBounds_toArray, List.set_cons_zero, List.set_cons_succ]
              refine wpAnyH_done (by kernel_rfl) ?_ _
              go_wp2_with fail
              go_meet
              exact ⟨_, _, rfl, rfl, H9⟩
            · go_simp
              have HA := Lib.hid (H5.out.new 37 (encN nD))
              refine hK.out _ _ (HSS.out _ _ _ _ _ _ _ HA.out) (fun hScpq23 => ?_)
              try simp only [Act.put, List.setIfInBounds_toArray, List.set_cons_zero, List.set_cons_succ]
              refine wpAnyH_ready (rs := [19]) (by kernel_rfl) (by simp) ?_
              refine AllReadyH.cons (by simp only [List.getElem?_toArray, List.getElem?_cons_succ, List.getElem?_cons_zero]; rfl) (fun K hK => ?_) AllReadyH.nil
              go_simp
              rw [HWO.out]
              refine (Write_any (C := memC mb) HA.out.g.at_.1 nD nD_wf (o : Int) HOI.out s HSL.out (by rw [HE1.out]; exact HM.out.1)).mono ?_
              rintro e w6 ⟨hpr, hstep6⟩
              rw [HE1.out] at hpr hstep6
              have hpe := NdR.val hpr
              subst hpe
              obtain ⟨F6, hl6⟩ := HA.out.step hstep6
              have H6 := Lib.hid hl6
              clear hstep6 hl6 hpr
              try dsimp only
              refine hK.out _ _ (HSS.out _ _ _ _ _ _ _ H6.out) (fun hScpq19 => ?_)
              try simp only [Act.put, List.setIfInBounds_toArray, List.set_cons_zero, List.set_cons_succ]
              refine wpAnyH_take (i := 20) (oi := ?oicpq20) (v := ?vcpq20) ?hicpq20 ?hscpq20 ?hfcpq20 ?hrcpq20 ?hQcpq20 ?hycpq20 ?hScpq20 ?hcpq20
              case hicpq20 => (simp only [List.getElem?_toArray, List.getElem?_cons_succ, List.getElem?_cons_zero]; rfl)
              case hscpq20 => kernel_rfl
              case hfcpq20 => kernel_rfl
              case hrcpq20 => kernel_rfl
              case hScpq20 => first | assumption | trivial
              case hycpq20 => refine Or.inl ⟨by kernel_rfl, ?_⟩; (intro w hSw; (try dsimp only at hSw); go_simp; try with_reducible rfl)
              case hQcpq20 => exact fun _ _ _ h => h
              try simp only [Act.put, List.setIfInBounds_toArray, List.set_cons_zero, List.set_cons_succ]
              refine wpAnyH_take (i := 21) (oi := ?oicpq21) (v := ?vcpq21) ?hicpq21 ?hscpq21 ?hfcpq21 ?hrcpq21 ?hQcpq21 ?hycpq21 ?hScpq21 ?hcpq21
              case hicpq21 => (simp only [List.getElem?_toArray, List.getElem?_cons_succ, List.getElem?_cons_zero]; rfl)
              case hscpq21 => kernel_rfl
              case hfcpq21 => kernel_rfl
              case hrcpq21 => kernel_rfl
              case hScpq21 => first | assumption | trivial
              case hycpq21 => refine Or.inl ⟨by kernel_rfl, ?_⟩; (intro w hSw; (try dsimp only at hSw); go_simp; try with_reducible rfl)
              case hQcpq21 => exact fun _ _ _ h => h
              try simp only [Act.put, List.setIfInBounds_toArray, List.set_cons_zero, List.set_cons_succ]
              refine wpAnyH_take (i := 22) (oi := ?oicpq22) (v := ?vcpq22) ?hicpq22 ?hscpq22 ?hfcpq22 ?hrcpq22 ?hQcpq22 ?hycpq22 ?hScpq22 ?hcpq22
              case hicpq22 => (simp only [List.getElem?_toArray, List.getElem?_cons_succ, List.getElem?_cons_zero]; rfl)
              case hscpq22 => kernel_rfl
              case hfcpq22 => kernel_rfl
              case hrcpq22 => kernel_rfl
              case hScpq22 => first | assumption | trivial
              case hycpq22 => refine Or.inl ⟨by kernel_rfl, ?_⟩; (intro w hSw; (try dsimp only at hSw); go_simp; try with_reducible rfl)
              case hQcpq22 => exact fun _ _ _ h => h
              try simp only [Act.put, List.setIfInBounds_toArray, List.set_cons_zero, List.set_cons_succ]
              have H9 := Lib.hid (H6.out.put (o := 0) (vs := encN n) (ds := encN n) (H5.out.g.at_.size) (fun b hb => Nat.ne_of_lt (H5.out.g.lt b hb)) ((H6.out.g.kb _ (List.mem_cons_self ..)).put rfl) (by decide) (by decide))
              refine wpAnyH_ready (rs := [24]) (by kernel_rfl) (by simp) ?_
              refine AllReadyH.cons (by simp only [List.getElem?_toArray, List.getElem?_cons_succ, List.getElem?_cons_zero]; rfl) (fun K hK => ?_) AllReadyH.nil
              rw [if_pos (by kernel_rfl)]
              refine wp_store_mid 37 (.tmp 9) (.tmp 63) rfl w5.heap.size (0) (encN (ndV (.ok n))).toArray rfl rfl (blk_there (H6.out.g.kb _ (List.mem_cons_self ..)) (Nat.le_refl 13)) iszNd (all_oneCell_toArray (encN_ones _)) ?_
              refine hK.out _ _ (HSS.out _ _ _ _ _ _ _ H9.out) (fun hScpq24 => ?_)
              try simp only [Act.put, List.setIfInBounds_toArray, List.set_cons_zero, List.set_cons_succ]
              refine wpAnyH_take (i := 25) (oi := ?oicpq25) (v := ?vcpq25) ?hicpq25 ?hscpq25 ?hfcpq25 ?hrcpq25 ?hQcpq25 ?hycpq25 ?hScpq25 ?hcpq25
              case hicpq25 => (simp only [List.getElem?_toArray, List.getElem?_cons_succ, List.getElem?_cons_zero]; rfl)
              case hscpq25 => kernel_rfl
              case hfcpq25 => kernel_rfl
              case hrcpq25 => kernel_rfl
              case hScpq25 => first | assumption | trivial
              case hycpq25 => refine Or.inl ⟨by kernel_rfl, ?_⟩; (intro w hSw; (try dsimp only at hSw); go_simp; try with_reducible rfl)
              case hQcpq25 => exact fun _ _ _ h => h
              try simp only [Act.put, List.setIfInBounds_toArray, List.set_cons_zero, List.set_cons_succ]
              refine wpAnyH_done (by kernel_rfl) ?_ _
              go_wp2_with fail
              go_meet
              exact ⟨_, _, rfl, rfl, H9⟩
          · go_simp
            have HA := Lib.hid (HD0.out.new 37 (encN nD))
            refine hK.out _ _ (HSS.out _ _ _ _ _ _ _ HA.out) (fun hScq23 => ?_)
            try simp only [Act.put, List.setIfInBounds_toArray, List.set_cons_zero, List.set_cons_succ]
            refine wpAnyH_ready (rs := [18]) (by kernel_rfl) (by simp) ?_
            refine AllReadyH.cons (by simp only [List.getElem?_toArray, List.getElem?_cons_succ, List.getElem?_cons_zero]; rfl) (fun K hK => ?_) AllReadyH.nil
            go_simp
            rw [HI8.out, HWM.out]
            refine (HFI.out _).mono ?_
            rintro e w5 ⟨rfl, hb5⟩
            have H5 := Lib.hid (HA.out.below hb5)
            clear hb5
            try dsimp only
            refine hK.out _ _ (HSS.out _ _ _ _ _ _ _ H5.out) (fun hScq18 => ?_)
            try simp only [Act.put, List.setIfInBounds_toArray, List.set_cons_zero, List.set_cons_succ]
            refine wpAnyH_ready (rs := [19]) (by kernel_rfl) (by simp) ?_
            refine AllReadyH.cons (by simp only [List.getElem?_toArray, List.getElem?_cons_succ, List.getElem?_cons_zero]; rfl) (fun K hK => ?_) AllReadyH.nil
            go_simp
            rw [HWO.out]
            refine (Write_any (C := memC mb) H5.out.g.at_.1 nD nD_wf (o : Int) HOI.out s HSL.out (by rw [HE1.out]; exact HM.out.1)).mono ?_
            rintro e w6 ⟨hpr, hstep6⟩
            rw [HE1.out] at hpr hstep6
            have hpe := NdR.val hpr
            subst hpe
            obtain ⟨F6, hl6⟩ := H5.out.step hstep6
            have H6 := Lib.hid hl6
            clear hstep6 hl6 hpr
            try dsimp only
            refine hK.out _ _ (HSS.out _ _ _ _ _ _ _ H6.out) (fun hScq19 => ?_)
            try simp only [Act.put, List.setIfInBounds_toArray, List.set_cons_zero, List.set_cons_succ]
            refine wpAnyH_take (i := 20) (oi := ?oicq20) (v := ?vcq20) ?hicq20 ?hscq20 ?hfcq20 ?hrcq20 ?hQcq20 ?hycq20 ?hScq20 ?hcq20
            case hicq20 => (simp only [List.getElem?_toArray, List.getElem?_cons_succ, List.getElem?_cons_zero]; rfl)
            case hscq20 => kernel_rfl
            case hfcq20 => kernel_rfl
            case hrcq20 => kernel_rfl
            case hScq20 => first | assumption | trivial
            case hycq20 => refine Or.inl ⟨by kernel_rfl, ?_⟩; (intro w hSw; (try dsimp only at hSw); go_simp; try with_reducible rfl)
            case hQcq20 => exact fun _ _ _ h => h
            try simp only [Act.put, List.setIfInBounds_toArray, List.set_cons_zero, List.set_cons_succ]
            refine wpAnyH_take (i := 21) (oi := ?oicq21) (v := ?vcq21) ?hicq21 ?hscq21 ?hfcq21 ?hrcq21 ?hQcq21 ?hycq21 ?hScq21 ?hcq21
            case hicq21 => (simp only [List.getElem?_toArray, List.getElem?_cons_succ, List.getElem?_cons_zero]; rfl)
            case hscq21 => kernel_rfl
            case hfcq21 => kernel_rfl
            case hrcq21 => kernel_rfl
            case hScq21 => first | assumption | trivial
            case hycq21 => refine Or.inl ⟨by kernel_rfl, ?_⟩; (intro w hSw; (try dsimp only at hSw); go_simp; try with_reducible rfl)
            case hQcq21 => exact fun _ _ _ h => h
            try simp only [Act.put, List.setIfInBounds_toArray, List.set_cons_zero, List.set_cons_succ]
            refine wpAnyH_take (i := 22) (oi := ?oicq22) (v := ?vcq22) ?hicq22 ?hscq22 ?hfcq22 ?hrcq22 ?hQcq22 ?hycq22 ?hScq22 ?hcq22
            case hicq22 => (simp only [List.getElem?_toArray, List.getElem?_cons_succ, List.getElem?_cons_zero]; rfl)
            case hscq22 => kernel_rfl
            case hfcq22 => kernel_rfl
            case hrcq22 => kernel_rfl
            case hScq22 => first | assumption | trivial
            case hycq22 => refine Or.inl ⟨by kernel_rfl, ?_⟩; (intro w hSw; (try dsimp only at hSw); go_simp; try with_reducible rfl)
            case hQcq22 => exact fun _ _ _ h => h
            try simp only [Act.put, List.setIfInBounds_toArray, List.set_cons_zero, List.set_cons_succ]
            have H9 := Lib.hid (H6.out.put (o := 0) (vs := encN n) (ds := encN n) (HD0.out.g.at_.size) (fun b hb => Nat.ne_of_lt (HD0.out.g.lt b hb)) ((H6.out.g.kb _ (List.mem_cons_self ..)).put rfl) (by decide) (by decide))
            refine wpAnyH_ready (rs := [24]) (by kernel_rfl) (by simp) ?_
            refine AllReadyH.cons (by simp only [List.getElem?_toArray, List.getElem?_cons_succ, List.getElem?_cons_zero]; rfl) (fun K hK => ?_) AllReadyH.nil
            rw [if_pos (by kernel_rfl)]
            refine wp_store_mid 37 (.tmp 9) (.tmp 63) rfl wr.heap.size (0) (encN (ndV (.ok n))).toArray rfl rfl (blk_there (H6.out.g.kb _ (List.mem_cons_self ..)) (Nat.le_refl 13)) iszNd (all_oneCell_toArray (encN_ones _)) ?_
            refine hK.out _ _ (HSS.out _ _ _ _ _ _ _ H9.out) (fun hScq24 => ?_)
            try simp only [Act.put, List.setIfInBounds_toArray, List.set_cons_zero, List.set_cons_succ]
            refine wpAnyH_take (i := 25) (oi := ?oicq25) (v := ?vcq25) ?hicq25 ?hscq25 ?hfcq25 ?hrcq25 ?hQcq25 ?hycq25 ?hScq25 ?hcq25
            case hicq25 => (simp only [List.getElem?_toArray, List.getElem?_cons_succ, List.getElem?_cons_zero]; rfl)
            case hscq25 => kernel_rfl
            case hfcq25 => kernel_rfl
            case hrcq25 => kernel_rfl
            case hScq25 => first | assumption | trivial
            case hycq25 => refine Or.inl ⟨by kernel_rfl, ?_⟩; (intro w hSw; (try dsimp only at hSw); go_simp; try with_reducible rfl)
            case hQcq25 => exact fun _ _ _ h => h
            try simp only [Act.put, List.setIfInBounds_toArray, List.set_cons_zero, List.set_cons_succ]
            refine wpAnyH_done (by kernel_rfl) ?_ _
            go_wp2_with fail
            go_meet
            exact ⟨_, _, rfl, rfl, H9⟩
        obtain ⟨g9, F9, rfl, rfl, HL9⟩ := hcut
        obtain ⟨wP, hwP⟩ : ∃ v, v = wc := ⟨_, rfl⟩
        subst hwP
        go_upto_region 10 with fail
        have HTA := Lib.hid (All_any (C := memC mb) HL9.out.g.at_.1 n HNW.out n.root.level.toNat (by have := HNL.out.2; omega) (.inr (by have := HNL.out.1; omega)) (by show memOk (tallM memF n s1).2; rw [HE2.out]; exact HM.out.2.1))
        rw [show allM memF (n.root.level.toNat + 1) n.root [] s1 = (.ok pn, s2) from HE2.out] at HTA
        have hl1 := fun op a next Q => loadW_blk (P := Tryd.prog) (HL9.out.g.kb (g9, 37, encN n) (by simp)) Tryd.underlying37 rfl iszNd op a next Q
        go_wp2_with fail
        refine HTA.out.mono ?_
        rintro e w3 ⟨v11, F10, rfl, hs⟩
        have HL10 := Lib.hid (HL9.out.all hs)
        obtain ⟨ao11, cp11, rfl, _⟩ := HL10.out.form (List.mem_cons_self ..)
        clear hs hl1 HTA
        have HC := Lib.hid (dset_any (C := memC mb) HL10.out.g.at_.1 d HDW.out (i : Int) n HNW.out (by rw [HE3.out]; exact HM.out.2.2))
        rw [HE3.out] at HC
        have hl1 := fun op a next Q => loadW_blk (P := Tryd.prog) (HL10.out.g.kb (gD, 37, encN d) (by simp)) Tryd.underlying37 rfl iszNd op a next Q
        have hl2 := fun op a next Q => loadW_blk (P := Tryd.prog) (HL10.out.g.kb (g9, 37, encN n) (by simp)) Tryd.underlying37 rfl iszNd op a next Q
        go_wp2_with fail
        refine HC.out.mono ?_
        rintro e w4 ⟨hpr, hstep⟩
        have hpe := NdR.val hpr
        subst hpe
        obtain ⟨F11, hs⟩ := HL10.out.step hstep
        have H11 := Lib.hid (hs.new 37 (encN q))
        have hst := fun op a next Q => store_newNd q w4 op a next Q
        obtain ⟨g13, hg⟩ : ∃ g, g = w4.heap.size := ⟨_, rfl⟩
        obtain ⟨w5, hv⟩ : ∃ v, v = w4.alloc (.cells (encN q).toArray 37) := ⟨_, rfl⟩
        have HGN : Hid (gD ≠ g13) := Lib.hid (by have := HL10.out.g.lt (gD, 37, encN d) (by simp); have := hs.g.lt (gD, 37, encN d) (by simp); dsimp only at this; omega)
        rw [← hv, ← hg] at H11
        clear hstep hs HC hl1 hl2 hpr
        unfold ndV errV
        go_upto_region 12 with fail
        rw [← hv, ← hg]
        clear hst hv hg
        have hl := fun op a next Q => loadW_blk (P := Tryd.prog) (H11.out.g.kb (g13, 37, encN q) (by simp)) Tryd.underlying37 rfl iszNd op a next Q
        have hbd := H11.out.g.kb (gD, 37, encN d) (by simp)
        have HL12 := Lib.hid (((H11.out.sub [(gD, 37, encN d)] (by simp)).put (o := 0) (vs := encN q) (ds := encN q) HGD.out (by simp) (hbd.put rfl) (by decide) (by decide)))
        obtain ⟨w6, hw6⟩ : ∃ v, v = w5.setCells gD 0 (encN q) := ⟨_, rfl⟩
        have hst : ∀ op a next Q, StoreW Tryd.prog op 37 (.pointer (some ⟨gD, 0, none⟩)) (.agg (encN q).toArray) a w5 next Q = next (a.put op.dst undef) w6 := fun op a next Q => by
          rw [hw6]; exact storeW_part (P := Tryd.prog) (t := 37) (o := 0) (cs := encN q) hbd (Nat.le_refl 13) iszNd (encN_ones _) op a next Q
        rw [← hw6] at HL12
        clear hw6 hbd
        go_upto_region 15 with fail
        clear hst hl
        have HL13 := Lib.hid (HL12.out.below ((Below.refl _ _).alloc (Nat.le_refl _) (.cells #[.slice ao11 pn.length cp11] 52)))
        have HNB := Lib.hid (Blk.news (Blk.new w6 52 [.slice ao11 pn.length cp11]))
        have HOWN := Lib.hid HL13.out.own
        have hos12 : os.length ≤ 12 := by have := HOL.out; omega
        have m1 : os.length + 1 ≤ maxLen := by unfold maxLen; omega
        have m2 : (os.length + 1) * 24 ≤ 140737488355328 := by omega
        have m3 : wm.heap.size ≤ (w6.alloc (.cells #[.slice ao11 pn.length cp11] 52)).heap.size := HL13.out.g.at_.size
        go_wp2_with (at_builtin; go_must (refine wpList_append_own_at _ rfl (.tmp 92) (.tmp 94) 76 rfl wm.heap.size 52 iT (.slice none 0 0) 1 24 Tryd.underlying76 hiT hiT0 hiT1 hiT2 rfl (Nat.succ_pos 0) (.slice ao7 os.length cp7) os.length (os.map Prod.fst) rfl HOWN.out ⟨w6.heap.size, 0, none⟩ 1 1 [.slice ao11 pn.length cp11] rfl rfl HNB.out (by simp [Value.oneCell']) m1 m2 m3 ?_; intro v7 w14 hown hgrow _ hat7))
        have HL14 := Lib.hid ((HL13.out.push (x := (.slice ao11 pn.length cp11, pn)) (by simp) hown hgrow hat7).subr (os ++ [(.slice ao11 pn.length cp11, pn)]) mem_snoc)
        clear hown hgrow hat7 m1 m2 m3 HNB HOWN
        go_roundw
        case rel => exact ⟨i + 1, q, D', s3, F11, _, by go_num, by omega, HL14, Lib.hid HDS2.out, Lib.hid (by rw [List.map_append]; exact HOS2.out)⟩
        case measure => simp [intOf]; omega
      · have q2 : ¬ (i : Int) < (len : Int) := by omega
        obtain ⟨s1, s2, e1, l1, e2, l2, r1, r2, hPl, hOl, hfail⟩ := HDS.out.ends hi12 (by omega)
        obtain ⟨hpw, how⟩ := HDS.out.wfs hi12 (by omega)
        have HPRE : Hid (∀ s : MemT, s.L = st.L → ∀ out s1 l s2, tallM memF d s = (.ok out, s1) → dlistM memF d s1 = (.ok l, s2) → DPre memF d l s2) := Lib.hid (fun s hs => dpre_all HDS.out.di HDS.out.ob s hs)
        have HDW : Hid (d.wf ∧ (0 ≤ d.size ∧ d.size ≤ 1000000) ∧ lvOk d) := Lib.hid ⟨HDS.out.di.nw.wf' (by have := HDS.out.rd.l; omega), ⟨HDS.out.di.nw.s0, by have := HDS.out.di.le; omega⟩, HDS.out.di.nw.lvOk⟩
        have HMO : Hid (∀ s3 : MemT, s3.count ≤ 22100 → s3.L = st.L → memOk s3) := Lib.hid (fun s3 h1 h2 => ⟨by omega, by rw [h2]; have := HDS.out.rd.l; omega, by rw [h2]; exact HDS.out.rd.t⟩)
        obtain ⟨P, hP⟩ : ∃ P, P = nPtrs st.L d := ⟨_, rfl⟩
        obtain ⟨O, hO⟩ : ∃ O, O = oPtrs st.L D := ⟨_, rfl⟩
        obtain ⟨A, hA⟩ : ∃ A, A = preL P O i := ⟨_, rfl⟩
        have hos := HOS.out
        rw [← hP] at e1 e2 hPl hpw hfail
        rw [← hO] at e1 hOl how hfail hos
        rw [← hA] at e1 hfail
        have HE1 := Lib.hid e1
        have HE2 := Lib.hid e2
        have HL2 := Lib.hid l2
        have HOSN := Lib.hid hos
        have HA := Lib.hid hA
        have HPW := Lib.hid hpw
        have HOW := Lib.hid how
        have HFAIL := Lib.hid hfail
        have HM : Hid (memOk s1 ∧ memOk s2) := Lib.hid ⟨r1.ok (by omega), r2.ok (by omega)⟩
        have hAl : A.length ≤ 1200 := by
          have := preL_len P O hPl i hOl
          rw [hA]; omega
        have hPA : P.length ≤ A.length := by rw [hA]; unfold preL; simp
        have hos12 : os.length ≤ 12 := by have := HOL.out; omega
        have HOI : Hid (∀ x, x < i → (O x).length ≤ 85) := Lib.hid hOl
        clear e1 e2 l1 l2 r1 r2 hP hO hA hos hpw how hfail hOl HOS HDS
        have HC := Lib.hid (dall_any (C := memC mb) HL.out.g.at_.1 d HDW.out.1 HDW.out.2.1 HDW.out.2.2 (HPRE.out st rfl) (by rw [HE1.out]; exact HM.out.1))
        rw [HE1.out] at HC
        have hl1 := fun op a next Q => loadW_blk (P := Tryd.prog) (HL.out.g.kb (gD, 37, encN d) (by simp)) Tryd.underlying37 rfl iszNd op a next Q
        go_wp2_with fail
        refine HC.out.mono ?_
        rintro e w3 ⟨v15, F3, rfl, hs⟩
        have HL3 := Lib.hid (HL.out.all hs)
        obtain ⟨ao15, cp15, rfl, hao15⟩ := HL3.out.form (List.mem_cons_self ..)
        clear hs hl1 HC
        have HTA := Lib.hid (All_any (C := memC mb) HL3.out.g.at_.1 d HDW.out.1 d.root.level.toNat (by have := HDW.out.2.2.2; omega) (.inr (by have := HDW.out.2.2.1; omega)) (by show memOk (tallM memF d s1).2; rw [HE2.out]; exact HM.out.2))
        rw [show allM memF (d.root.level.toNat + 1) d.root [] s1 = (.ok P, s2) from HE2.out] at HTA
        have hl1 := fun op a next Q => loadW_blk (P := Tryd.prog) (HL3.out.g.kb (gD, 37, encN d) (by simp)) Tryd.underlying37 rfl iszNd op a next Q
        go_wp2_with fail
        refine HTA.out.mono ?_
        rintro e w4 ⟨v17, F4, rfl, hs⟩
        have HL4 := Lib.hid (HL3.out.all hs)
        obtain ⟨ao17, cp17, rfl, hao17⟩ := HL4.out.form (List.mem_cons_self ..)
        have r3 : ¬ (A.length : Int) < (P.length : Int) := by omega
        clear hs hl1 HTA HL3
        go_wp2_with fail
        go_loopw [19, 20] (fun vk vi wr => ∃ (j : Nat), vk = .int .i64 j ∧ vi = .int .i64 j ∧ j ≤ P.length ∧ Hid (LdO mb wm wr s2 F4 [(gD, 37, encN d)] (.slice ao7 os.length cp7) os ((.slice ao17 P.length cp17, P) :: (.slice ao15 A.length cp15, A) :: os))) (fun _ vi _ => P.length - (intOf vi).toNat)
        case atStart => exact ⟨0, rfl, rfl, Nat.zero_le _, HL4⟩
        case round =>
          obtain ⟨j, rfl, rfl, hjl, HLJ⟩ := hrel
          clear HL4
          by_cases hj : j < P.length
          · have r4 : (j : Int) < (P.length : Int) := by omega
            have r5 : (j : Int) < (A.length : Int) := by omega
            have r6 : 0 ≤ (j : Int) := by omega
            obtain ⟨b17, o17, rfl⟩ := hao17 (by omega)
            obtain ⟨b15, o15, rfl⟩ := hao15 (by omega)
            obtain ⟨p, hp⟩ : ∃ p, p = P.getD j pD := ⟨_, rfl⟩
            have hpA : A.getD j pD = p := by rw [hp, HA.out]; exact (preL_getP P O hj).2
            have HPF : Hid p.wf := Lib.hid (by rw [hp]; exact getD_wf HPW.out j)
            have HSS : Hid (∀ W, LdO mb wm W s2 F4 [(gD, 37, encN d)] (.slice ao7 os.length cp7) os ((.slice (some ⟨b17, o17, none⟩) P.length cp17, P) :: (.slice (some ⟨b15, o15, none⟩) A.length cp15, A) :: os) → W.rangeAt b15 (o15 + j * 12) (encPtr p) ∧ W.rangeAt b17 (o17 + j * 12) (encPtr p)) := Lib.hid (fun W h => ⟨by rw [← hpA]; exact h.ptr (n := A.length) (cap := cp15) (List.mem_cons_of_mem _ (List.mem_cons_self ..)) (by omega), by rw [hp]; exact h.ptr (n := P.length) (cap := cp17) (List.mem_cons_self ..) hj⟩)
            have HLD := Lib.hid (HLJ.out.below (wc := wr.drew) (Below.refl _ _).drew)
            clear hp hpA
            go_upto_region 24 with fail
            refine wp_region_held_drew (S := fun w' => w'.rangeAt b15 (o15 + j * 12) (encPtr p) ∧ w'.rangeAt b17 (o17 + j * 12) (encPtr p)) (by kernel_rfl) (HSS.out _ HLD.out) (fun hS0 => ?_)
            refine wpAnyH_take (i := 0) (oi := ?ois0) (v := ?vs0) ?his0 ?hss0 ?hfs0 ?hrs0 ?hQs0 ?hys0 ?hSs0 ?hs0
            case his0 => (simp only [List.getElem?_toArray, List.getElem?_cons_succ, List.getElem?_cons_zero]; rfl)
            case hss0 => kernel_rfl
            case hfs0 => kernel_rfl
            case hrs0 => kernel_rfl
            case hSs0 => first | assumption | trivial
            case hys0 => refine Or.inl ⟨by kernel_rfl, ?_⟩; (intro w hSw; (try dsimp only at hSw); go_simp; try with_reducible rfl)
            case hQs0 => exact fun _ _ _ h => h
            try simp only [Act.put, List.setIfInBounds_toArray, List.set_cons_zero, List.set_cons_succ]
            refine wpAnyH_take (i := 1) (oi := ?ois1) (v := ?vs1) ?his1 ?hss1 ?hfs1 ?hrs1 ?hQs1 ?hys1 ?hSs1 ?hs1
            case his1 => (simp only [List.getElem?_toArray, List.getElem?_cons_succ, List.getElem?_cons_zero]; rfl)
            case hss1 => kernel_rfl
            case hfs1 => kernel_rfl
            case hrs1 => kernel_rfl
            case hSs1 => first | assumption | trivial
            case hys1 => refine Or.inl ⟨by kernel_rfl, ?_⟩; (intro w hSw; (try dsimp only at hSw); go_simp; try with_reducible rfl)
            case hQs1 => exact fun _ _ _ h => h
            try simp only [Act.put, List.setIfInBounds_toArray, List.set_cons_zero, List.set_cons_succ]
            refine wpAnyH_take (i := 2) (oi := ?ois2) (v := ?vs2) ?his2 ?hss2 ?hfs2 ?hrs2 ?hQs2 ?hys2 ?hSs2 ?hs2
            case his2 => (simp only [List.getElem?_toArray, List.getElem?_cons_succ, List.getElem?_cons_zero]; rfl)
            case hss2 => kernel_rfl
            case hfs2 => kernel_rfl
            case hrs2 => kernel_rfl
            case hSs2 => first | assumption | trivial
            case hys2 => refine Or.inl ⟨by kernel_rfl, ?_⟩; (intro w hSw; (try dsimp only at hSw); go_simp; first | with_reducible rfl | rw [if_pos (by omega)])
            case hQs2 => exact fun _ _ _ h => h
            try simp only [Act.put, List.setIfInBounds_toArray, List.set_cons_zero, List.set_cons_succ]
            refine wpAnyH_take (i := 3) (oi := ?ois3) (v := ?vs3) ?his3 ?hss3 ?hfs3 ?hrs3 ?hQs3 ?hys3 ?hSs3 ?hs3
            case his3 => (simp only [List.getElem?_toArray, List.getElem?_cons_succ, List.getElem?_cons_zero]; rfl)
            case hss3 => kernel_rfl
            case hfs3 => kernel_rfl
            case hrs3 => kernel_rfl
            case hSs3 => first | assumption | trivial
            case hys3 => refine yieldsIf_load_mid (by kernel_rfl) 35 (.tmp 131) ?_ b15 ((o15 + j * 12)) ?_ (encPtr p) _ (fun w' hw => range_l hw) Tryd.underlying35 rfl iszPt <;> rfl
            case hQs3 => exact fun _ _ _ h => h
            try simp only [Act.put, List.setIfInBounds_toArray, List.set_cons_zero, List.set_cons_succ]
            refine wpAnyH_take (i := 4) (oi := ?ois4) (v := ?vs4) ?his4 ?hss4 ?hfs4 ?hrs4 ?hQs4 ?hys4 ?hSs4 ?hs4
            case his4 => (simp only [List.getElem?_toArray, List.getElem?_cons_succ, List.getElem?_cons_zero]; rfl)
            case hss4 => kernel_rfl
            case hfs4 => kernel_rfl
            case hrs4 => kernel_rfl
            case hSs4 => first | assumption | trivial
            case hys4 => refine Or.inl ⟨by kernel_rfl, ?_⟩; (intro w hSw; (try dsimp only at hSw); go_simp; try with_reducible rfl)
            case hQs4 => exact fun _ _ _ h => h
            try simp only [Act.put, List.setIfInBounds_toArray, List.set_cons_zero, List.set_cons_succ]
            refine wpAnyH_take (i := 5) (oi := ?ois5) (v := ?vs5) ?his5 ?hss5 ?hfs5 ?hrs5 ?hQs5 ?hys5 ?hSs5 ?hs5
            case his5 => (simp only [List.getElem?_toArray, List.getElem?_cons_succ, List.getElem?_cons_zero]; rfl)
            case hss5 => kernel_rfl
            case hfs5 => kernel_rfl
            case hrs5 => kernel_rfl
            case hSs5 => first | assumption | trivial
            case hys5 => refine Or.inl ⟨by kernel_rfl, ?_⟩; (intro w hSw; (try dsimp only at hSw); go_simp; try with_reducible rfl)
            case hQs5 => exact fun _ _ _ h => h
            try simp only [Act.put, List.setIfInBounds_toArray, List.set_cons_zero, List.set_cons_succ]
            refine wpAnyH_take (i := 6) (oi := ?ois6) (v := ?vs6) ?his6 ?hss6 ?hfs6 ?hrs6 ?hQs6 ?hys6 ?hSs6 ?hs6
            case his6 => (simp only [List.getElem?_toArray, List.getElem?_cons_succ, List.getElem?_cons_zero]; rfl)
            case hss6 => kernel_rfl
            case hfs6 => kernel_rfl
            case hrs6 => kernel_rfl
            case hSs6 => first | assumption | trivial
            case hys6 => refine Or.inl ⟨by kernel_rfl, ?_⟩; (intro w hSw; (try dsimp only at hSw); go_simp; first | with_reducible rfl | rw [if_pos (by omega)])
            case hQs6 => exact fun _ _ _ h => h
            try simp only [Act.put, List.setIfInBounds_toArray, List.set_cons_zero, List.set_cons_succ]
            refine wpAnyH_take (i := 7) (oi := ?ois7) (v := ?vs7) ?his7 ?hss7 ?hfs7 ?hrs7 ?hQs7 ?hys7 ?hSs7 ?hs7
            case his7 => (simp only [List.getElem?_toArray, List.getElem?_cons_succ, List.getElem?_cons_zero]; rfl)
            case hss7 => kernel_rfl
            case hfs7 => kernel_rfl
            case hrs7 => kernel_rfl
            case hSs7 => first | assumption | trivial
            case hys7 => refine yieldsIf_load_mid (by kernel_rfl) 35 (.tmp 135) ?_ b17 ((o17 + j * 12)) ?_ (encPtr p) _ (fun w' hw => range_r hw) Tryd.underlying35 rfl iszPt <;> rfl
            case hQs7 => exact fun _ _ _ h => h
            try simp only [Act.put, List.setIfInBounds_toArray, List.set_cons_zero, List.set_cons_succ]
            refine wpAnyH_take (i := 8) (oi := ?ois8) (v := ?vs8) ?his8 ?hss8 ?hfs8 ?hrs8 ?hQs8 ?hys8 ?hSs8 ?hs8
            case his8 => (simp only [List.getElem?_toArray, List.getElem?_cons_succ, List.getElem?_cons_zero]; rfl)
            case hss8 => kernel_rfl
            case hfs8 => kernel_rfl
            case hrs8 => kernel_rfl
            case hSs8 => first | assumption | trivial
            case hys8 => exact (by refine yieldsIf_neqPtB (by kernel_rfl) (.tmp 132) (.tmp 136) 35 ?_ p p ?_ ?_ HPF.out HPF.out (b := false) (by simp) <;> rfl)
            case hQs8 => exact fun _ _ _ h => h
            try simp only [Act.put, List.setIfInBounds_toArray, List.set_cons_zero, List.set_cons_succ]
            refine wpAnyH_done (by kernel_rfl) ?_ _
            go_wp2_with fail
            refine ⟨⟨j + 1, by go_num, by go_num, by omega, HLD⟩, ?_⟩
            simp [intOf]
            omega
          · have r4 : ¬ (j : Int) < (P.length : Int) := by omega
            have hjP : j = P.length := by omega
            have HKJ := Lib.hid hjP
            clear hjP hj hjl
            go_wp2_with fail
            go_loopw [19, 21] (fun vk vi wr => ∃ (x K : Nat), vk = .int .i64 K ∧ vi = .int .i64 x ∧ x ≤ os.length ∧ Hid (K = (preL P O x).length) ∧ Hid (LdO mb wm wr s2 F4 [(gD, 37, encN d)] (.slice ao7 os.length cp7) os ((.slice ao17 P.length cp17, P) :: (.slice ao15 A.length cp15, A) :: os))) (fun _ vi _ => os.length - (intOf vi).toNat)
            case atStart => exact ⟨0, j, rfl, rfl, Nat.zero_le _, Lib.hid (by rw [preL_zero]; exact HKJ.out), HLJ⟩
            case round =>
              clear HLJ
              obtain ⟨x, K, rfl, rfl, hxl, HK, HLX⟩ := hrel
              by_cases hx : x < os.length
              · have r7 : (x : Int) < (os.length : Int) := by omega
                have r8 : 0 ≤ (x : Int) := by omega
                obtain ⟨b7, o7, rfl⟩ := hao7 (by omega)
                obtain ⟨T, hT⟩ : ∃ T, T = O x := ⟨_, rfl⟩
                obtain ⟨aoi, cpi, HCI, HMI, haoi⟩ : ∃ aoi cpi, Hid (∀ W, LdO mb wm W s2 F4 [(gD, 37, encN d)] (.slice (some ⟨b7, o7, none⟩) os.length cp7) os ((.slice ao17 P.length cp17, P) :: (.slice ao15 A.length cp15, A) :: os) → W.cell? ⟨b7, o7 + x, none⟩ = some (.slice aoi T.length cpi)) ∧ Hid ((Value.slice aoi T.length cpi, T) ∈ os) ∧ (0 < T.length → ∃ b o, aoi = some ⟨b, o, none⟩) := by
                  have hmem : os.getD x (.bool false, []) ∈ os := by rw [List.getD_eq_getElem?_getD, List.getElem?_eq_getElem hx]; exact List.getElem_mem _
                  have hsnd : (os.getD x (.bool false, [])).2 = T := by
                    have h1 : (os.map Prod.snd)[x]? = ((List.range i).map O)[x]? := by rw [HOSN.out]
                    have hxi : x < i := by have := HOL.out; omega
                    rw [List.getElem?_map, List.getElem?_map, List.getElem?_eq_getElem hx, List.getElem?_range hxi] at h1
                    simp only [Option.map_some, Option.some.injEq] at h1
                    rw [hT, List.getD_eq_getElem?_getD, List.getElem?_eq_getElem hx]
                    exact h1
                  obtain ⟨v, T', hvt⟩ : ∃ v T', os.getD x (.bool false, []) = (v, T') := ⟨_, _, rfl⟩
                  rw [hvt] at hmem hsnd
                  dsimp only at hsnd
                  subst hsnd
                  obtain ⟨aoi, cpi, e, hf⟩ := HLX.out.form (v := v) (out := T') (List.mem_cons_of_mem _ (List.mem_cons_of_mem _ hmem))
                  subst e
                  exact ⟨aoi, cpi, Lib.hid (fun W h => by have := h.ocell hx; rw [hvt] at this; exact this), Lib.hid hmem, hf⟩
                have HTX := Lib.hid hT
                have hTl : T.length ≤ 85 := by rw [hT]; exact HOI.out x (by have := HOL.out; omega)
                have HKA : Hid (∀ y, y < T.length → K + y < A.length ∧ A.getD (K + y) pD = T.getD y pD) := Lib.hid (fun y hy => by
                  have hxi : x < i := by have := HOL.out; omega
                  rw [HK.out, HA.out, hT]
                  exact preL_get P O hxi (by rw [← hT]; exact hy))
                have HTW : Hid (∀ q ∈ T, q.wf) := Lib.hid (by rw [hT]; exact HOW.out x (by have := HOL.out; omega))
                clear hT
                go_wp2_with fail
                go_loopw [19, 22] (fun vk vj wr => ∃ (y : Nat), vk = .int .i64 ((K + y : Nat) : Int) ∧ vj = .int .i64 y ∧ y ≤ T.length ∧ Hid (LdO mb wm wr s2 F4 [(gD, 37, encN d)] (.slice (some ⟨b7, o7, none⟩) os.length cp7) os ((.slice ao17 P.length cp17, P) :: (.slice ao15 A.length cp15, A) :: os))) (fun _ vj _ => T.length - (intOf vj).toNat)
                case atStart => exact ⟨0, rfl, rfl, Nat.zero_le _, HLX⟩
                case round =>
                  clear HLX
                  obtain ⟨y, rfl, rfl, hyl, HLY⟩ := hrel
                  have c7 := HCI.out _ HLY.out
                  by_cases hy : y < T.length
                  · have r9 : (y : Int) < (T.length : Int) := by omega
                    have r10 : 0 ≤ (y : Int) := by omega
                    obtain ⟨bi, oi, rfl⟩ := haoi (by omega)
                    obtain ⟨hKl, hKp⟩ := HKA.out y hy
                    obtain ⟨K2, hK2⟩ : ∃ K2, K2 = K + y := ⟨_, rfl⟩
                    rw [← hK2] at hKl hKp
                    obtain ⟨b15, o15, rfl⟩ := hao15 (by omega)
                    obtain ⟨p, hp⟩ : ∃ p, p = T.getD y pD := ⟨_, rfl⟩
                    rw [← hp] at hKp
                    have HPF : Hid p.wf := Lib.hid (by rw [hp]; exact getD_wf HTW.out y)
                    have HSS : Hid (∀ W, LdO mb wm W s2 F4 [(gD, 37, encN d)] (.slice (some ⟨b7, o7, none⟩) os.length cp7) os ((.slice ao17 P.length cp17, P) :: (.slice (some ⟨b15, o15, none⟩) A.length cp15, A) :: os) → W.rangeAt b15 (o15 + K2 * 12) (encPtr p) ∧ W.rangeAt bi (oi + y * 12) (encPtr p) ∧ W.cell? ⟨b7, o7 + x, none⟩ = some (.slice (some ⟨bi, oi, none⟩) T.length cpi)) := Lib.hid (fun W h => ⟨by rw [← hKp]; exact h.ptr (n := A.length) (cap := cp15) (List.mem_cons_of_mem _ (List.mem_cons_self ..)) hKl, by rw [hp]; exact h.ptr (List.mem_cons_of_mem _ (List.mem_cons_of_mem _ HMI.out)) hy, HCI.out W h⟩)
                    have HLD := Lib.hid (HLY.out.below (wc := wr.drew) (Below.refl _ _).drew)
                    have HK2 := Lib.hid hK2
                    have r11 : (K2 : Int) < (A.length : Int) := by omega
                    have r12 : 0 ≤ (K2 : Int) := by omega
                    rw [← hK2]
                    clear hp hKp hKl hK2
                    go_upto_region 33 with fail
                    clear c7
                    refine wp_region_held_drew (S := fun w' => w'.rangeAt b15 (o15 + K2 * 12) (encPtr p) ∧ w'.rangeAt bi (oi + y * 12) (encPtr p) ∧ w'.cell? ⟨b7, o7 + x, none⟩ = some (.slice (some ⟨bi, oi, none⟩) T.length cpi)) (by kernel_rfl) (HSS.out _ HLD.out) (fun hS0 => ?_)
                    refine wpAnyH_take (i := 0) (oi := ?oiu0) (v := ?vu0) ?hiu0 ?hsu0 ?hfu0 ?hru0 ?hQu0 ?hyu0 ?hSu0 ?hu0
                    case hiu0 => (simp only [List.getElem?_toArray, List.getElem?_cons_succ, List.getElem?_cons_zero]; rfl)
                    case hsu0 => kernel_rfl
                    case hfu0 => kernel_rfl
                    case hru0 => kernel_rfl
                    case hSu0 => first | assumption | trivial
                    case hyu0 => refine Or.inl ⟨by kernel_rfl, ?_⟩; (intro w hSw; (try dsimp only at hSw); go_simp; try with_reducible rfl)
                    case hQu0 => exact fun _ _ _ h => h
                    try simp only [Act.put, List.setIfInBounds_toArray, List.set_cons_zero, List.set_cons_succ]
                    refine wpAnyH_take (i := 1) (oi := ?oiu1) (v := ?vu1) ?hiu1 ?hsu1 ?hfu1 ?hru1 ?hQu1 ?hyu1 ?hSu1 ?hu1
                    case hiu1 => (simp only [List.getElem?_toArray, List.getElem?_cons_succ, List.getElem?_cons_zero]; rfl)
                    case hsu1 => kernel_rfl
                    case hfu1 => kernel_rfl
                    case hru1 => kernel_rfl
                    case hSu1 => first | assumption | trivial
                    case hyu1 => refine Or.inl ⟨by kernel_rfl, ?_⟩; (intro w hSw; (try dsimp only at hSw); go_simp; try with_reducible rfl)
                    case hQu1 => exact fun _ _ _ h => h
                    try simp only [Act.put, List.setIfInBounds_toArray, List.set_cons_zero, List.set_cons_succ]
                    refine wpAnyH_take (i := 2) (oi := ?oiu2) (v := ?vu2) ?hiu2 ?hsu2 ?hfu2 ?hru2 ?hQu2 ?hyu2 ?hSu2 ?hu2
                    case hiu2 => (simp only [List.getElem?_toArray, List.getElem?_cons_succ, List.getElem?_cons_zero]; rfl)
                    case hsu2 => kernel_rfl
                    case hfu2 => kernel_rfl
                    case hru2 => kernel_rfl
                    case hSu2 => first | assumption | trivial
                    case hyu2 => refine Or.inl ⟨by kernel_rfl, ?_⟩; (intro w hSw; (try dsimp only at hSw); go_simp; try with_reducible rfl)
                    case hQu2 => exact fun _ _ _ h => h
                    try simp only [Act.put, List.setIfInBounds_toArray, List.set_cons_zero, List.set_cons_succ]
                    refine wpAnyH_take (i := 3) (oi := ?oiu3) (v := ?vu3) ?hiu3 ?hsu3 ?hfu3 ?hru3 ?hQu3 ?hyu3 ?hSu3 ?hu3
                    case hiu3 => (simp only [List.getElem?_toArray, List.getElem?_cons_succ, List.getElem?_cons_zero]; rfl)
                    case hsu3 => kernel_rfl
                    case hfu3 => kernel_rfl
                    case hru3 => kernel_rfl
                    case hSu3 => first | assumption | trivial
                    case hyu3 => refine Or.inl ⟨by kernel_rfl, ?_⟩; (intro w hSw; (try dsimp only at hSw); go_simp; rw [decide_eq_false (show ¬ (A.length ≤ K2) by omega)])
                    case hQu3 => exact fun _ _ _ h => h
                    try simp only [Act.put, List.setIfInBounds_toArray, List.set_cons_zero, List.set_cons_succ]
                    refine wpAnyH_take (i := 4) (oi := ?oiu4) (v := ?vu4) ?hiu4 ?hsu4 ?hfu4 ?hru4 ?hQu4 ?hyu4 ?hSu4 ?hu4
                    case hiu4 => (simp only [List.getElem?_toArray, List.getElem?_cons_succ, List.getElem?_cons_zero]; rfl)
                    case hsu4 => kernel_rfl
                    case hfu4 => kernel_rfl
                    case hru4 => kernel_rfl
                    case hSu4 => first | assumption | trivial
                    case hyu4 => refine Or.inl ⟨by kernel_rfl, ?_⟩; (intro w hSw; (try dsimp only at hSw); go_simp; try with_reducible rfl)
                    case hQu4 => exact fun _ _ _ h => h
                    try simp only [Act.put, List.setIfInBounds_toArray, List.set_cons_zero, List.set_cons_succ]
                    refine wpAnyH_take (i := 5) (oi := ?oiu5) (v := ?vu5) ?hiu5 ?hsu5 ?hfu5 ?hru5 ?hQu5 ?hyu5 ?hSu5 ?hu5
                    case hiu5 => (simp only [List.getElem?_toArray, List.getElem?_cons_succ, List.getElem?_cons_zero]; rfl)
                    case hsu5 => kernel_rfl
                    case hfu5 => kernel_rfl
                    case hru5 => kernel_rfl
                    case hSu5 => first | assumption | trivial
                    case hyu5 => refine Or.inl ⟨by kernel_rfl, ?_⟩; (intro w hSw; (try dsimp only at hSw); go_simp; try with_reducible rfl)
                    case hQu5 => exact fun _ _ _ h => h
                    try simp only [Act.put, List.setIfInBounds_toArray, List.set_cons_zero, List.set_cons_succ]
                    refine wpAnyH_take (i := 6) (oi := ?oiu6) (v := ?vu6) ?hiu6 ?hsu6 ?hfu6 ?hru6 ?hQu6 ?hyu6 ?hSu6 ?hu6
                    case hiu6 => (simp only [List.getElem?_toArray, List.getElem?_cons_succ, List.getElem?_cons_zero]; rfl)
                    case hsu6 => kernel_rfl
                    case hfu6 => kernel_rfl
                    case hru6 => kernel_rfl
                    case hSu6 => first | assumption | trivial
                    case hyu6 => refine Or.inl ⟨by kernel_rfl, ?_⟩; (intro w hSw; (try dsimp only at hSw); go_simp; try with_reducible rfl)
                    case hQu6 => exact fun _ _ _ h => h
                    try simp only [Act.put, List.setIfInBounds_toArray, List.set_cons_zero, List.set_cons_succ]
                    refine wpAnyH_take (i := 7) (oi := ?oiu7) (v := ?vu7) ?hiu7 ?hsu7 ?hfu7 ?hru7 ?hQu7 ?hyu7 ?hSu7 ?hu7
                    case hiu7 => (simp only [List.getElem?_toArray, List.getElem?_cons_succ, List.getElem?_cons_zero]; rfl)
                    case hsu7 => kernel_rfl
                    case hfu7 => kernel_rfl
                    case hru7 => kernel_rfl
                    case hSu7 => first | assumption | trivial
                    case hyu7 => refine Or.inl ⟨by kernel_rfl, ?_⟩; (intro w hSw; (try dsimp only at hSw); go_simp; first | with_reducible rfl | rw [if_pos (by omega)])
                    case hQu7 => exact fun _ _ _ h => h
                    try simp only [Act.put, List.setIfInBounds_toArray, List.set_cons_zero, List.set_cons_succ]
                    refine wpAnyH_take (i := 8) (oi := ?oiu8) (v := ?vu8) ?hiu8 ?hsu8 ?hfu8 ?hru8 ?hQu8 ?hyu8 ?hSu8 ?hu8
                    case hiu8 => (simp only [List.getElem?_toArray, List.getElem?_cons_succ, List.getElem?_cons_zero]; rfl)
                    case hsu8 => kernel_rfl
                    case hfu8 => kernel_rfl
                    case hru8 => kernel_rfl
                    case hSu8 => first | assumption | trivial
                    case hyu8 => refine yieldsIf_load_mid (by kernel_rfl) 35 (.tmp 162) ?_ b15 ((o15 + K2 * 12)) ?_ (encPtr p) _ (fun w' hw => range_l hw) Tryd.underlying35 rfl iszPt <;> rfl
                    case hQu8 => exact fun _ _ _ h => h
                    try simp only [Act.put, List.setIfInBounds_toArray, List.set_cons_zero, List.set_cons_succ]
                    refine wpAnyH_take (i := 9) (oi := ?oiu9) (v := ?vu9) ?hiu9 ?hsu9 ?hfu9 ?hru9 ?hQu9 ?hyu9 ?hSu9 ?hu9
                    case hiu9 => (simp only [List.getElem?_toArray, List.getElem?_cons_succ, List.getElem?_cons_zero]; rfl)
                    case hsu9 => kernel_rfl
                    case hfu9 => kernel_rfl
                    case hru9 => kernel_rfl
                    case hSu9 => first | assumption | trivial
                    case hyu9 => refine Or.inl ⟨by kernel_rfl, ?_⟩; (intro w hSw; (try dsimp only at hSw); go_simp; try with_reducible rfl)
                    case hQu9 => exact fun _ _ _ h => h
                    try simp only [Act.put, List.setIfInBounds_toArray, List.set_cons_zero, List.set_cons_succ]
                    refine wpAnyH_take (i := 10) (oi := ?oiu10) (v := ?vu10) ?hiu10 ?hsu10 ?hfu10 ?hru10 ?hQu10 ?hyu10 ?hSu10 ?hu10
                    case hiu10 => (simp only [List.getElem?_toArray, List.getElem?_cons_succ, List.getElem?_cons_zero]; rfl)
                    case hsu10 => kernel_rfl
                    case hfu10 => kernel_rfl
                    case hru10 => kernel_rfl
                    case hSu10 => first | assumption | trivial
                    case hyu10 => refine Or.inl ⟨by kernel_rfl, ?_⟩; (intro w hSw; (try dsimp only at hSw); go_simp; try with_reducible rfl)
                    case hQu10 => exact fun _ _ _ h => h
                    try simp only [Act.put, List.setIfInBounds_toArray, List.set_cons_zero, List.set_cons_succ]
                    refine wpAnyH_take (i := 11) (oi := ?oiu11) (v := ?vu11) ?hiu11 ?hsu11 ?hfu11 ?hru11 ?hQu11 ?hyu11 ?hSu11 ?hu11
                    case hiu11 => (simp only [List.getElem?_toArray, List.getElem?_cons_succ, List.getElem?_cons_zero]; rfl)
                    case hsu11 => kernel_rfl
                    case hfu11 => kernel_rfl
                    case hru11 => kernel_rfl
                    case hSu11 => first | assumption | trivial
                    case hyu11 => refine Or.inl ⟨by kernel_rfl, ?_⟩; (intro w hSw; (try dsimp only at hSw); go_simp; first | with_reducible rfl | rw [if_pos (by omega)])
                    case hQu11 => exact fun _ _ _ h => h
                    try simp only [Act.put, List.setIfInBounds_toArray, List.set_cons_zero, List.set_cons_succ]
                    refine wpAnyH_take (i := 12) (oi := ?oiu12) (v := ?vu12) ?hiu12 ?hsu12 ?hfu12 ?hru12 ?hQu12 ?hyu12 ?hSu12 ?hu12
                    case hiu12 => (simp only [List.getElem?_toArray, List.getElem?_cons_succ, List.getElem?_cons_zero]; rfl)
                    case hsu12 => kernel_rfl
                    case hfu12 => kernel_rfl
                    case hru12 => kernel_rfl
                    case hSu12 => first | assumption | trivial
                    case hyu12 => refine Or.inl ⟨by kernel_rfl, ?_⟩; (intro w hSw; (try dsimp only at hSw); go_simp; first | (rw [hSw.2.2]; rfl) | rfl)
                    case hQu12 => exact fun _ _ _ h => h
                    try simp only [Act.put, List.setIfInBounds_toArray, List.set_cons_zero, List.set_cons_succ]
                    refine wpAnyH_take (i := 13) (oi := ?oiu13) (v := ?vu13) ?hiu13 ?hsu13 ?hfu13 ?hru13 ?hQu13 ?hyu13 ?hSu13 ?hu13
                    case hiu13 => (simp only [List.getElem?_toArray, List.getElem?_cons_succ, List.getElem?_cons_zero]; rfl)
                    case hsu13 => kernel_rfl
                    case hfu13 => kernel_rfl
                    case hru13 => kernel_rfl
                    case hSu13 => first | assumption | trivial
                    case hyu13 => refine Or.inl ⟨by kernel_rfl, ?_⟩; (intro w hSw; (try dsimp only at hSw); go_simp; try with_reducible rfl)
                    case hQu13 => exact fun _ _ _ h => h
                    try simp only [Act.put, List.setIfInBounds_toArray, List.set_cons_zero, List.set_cons_succ]
                    refine wpAnyH_take (i := 14) (oi := ?oiu14) (v := ?vu14) ?hiu14 ?hsu14 ?hfu14 ?hru14 ?hQu14 ?hyu14 ?hSu14 ?hu14
                    case hiu14 => (simp only [List.getElem?_toArray, List.getElem?_cons_succ, List.getElem?_cons_zero]; rfl)
                    case hsu14 => kernel_rfl
                    case hfu14 => kernel_rfl
                    case hru14 => kernel_rfl
                    case hSu14 => first | assumption | trivial
                    case hyu14 => refine Or.inl ⟨by kernel_rfl, ?_⟩; (intro w hSw; (try dsimp only at hSw); go_simp; first | with_reducible rfl | rw [if_pos (by omega)])
                    case hQu14 => exact fun _ _ _ h => h
                    try simp only [Act.put, List.setIfInBounds_toArray, List.set_cons_zero, List.set_cons_succ]
                    refine wpAnyH_take (i := 15) (oi := ?oiu15) (v := ?vu15) ?hiu15 ?hsu15 ?hfu15 ?hru15 ?hQu15 ?hyu15 ?hSu15 ?hu15
                    case hiu15 => (simp only [List.getElem?_toArray, List.getElem?_cons_succ, List.getElem?_cons_zero]; rfl)
                    case hsu15 => kernel_rfl
                    case hfu15 => kernel_rfl
                    case hru15 => kernel_rfl
                    case hSu15 => first | assumption | trivial
                    case hyu15 => refine yieldsIf_load_mid (by kernel_rfl) 35 (.tmp 169) ?_ bi ((oi + y * 12)) ?_ (encPtr p) _ (fun w' hw => range_m hw) Tryd.underlying35 rfl iszPt <;> rfl
                    case hQu15 => exact fun _ _ _ h => h
                    try simp only [Act.put, List.setIfInBounds_toArray, List.set_cons_zero, List.set_cons_succ]
                    refine wpAnyH_take (i := 16) (oi := ?oiu16) (v := ?vu16) ?hiu16 ?hsu16 ?hfu16 ?hru16 ?hQu16 ?hyu16 ?hSu16 ?hu16
                    case hiu16 => (simp only [List.getElem?_toArray, List.getElem?_cons_succ, List.getElem?_cons_zero]; rfl)
                    case hsu16 => kernel_rfl
                    case hfu16 => kernel_rfl
                    case hru16 => kernel_rfl
                    case hSu16 => first | assumption | trivial
                    case hyu16 => exact (by refine yieldsIf_neqPtB (by kernel_rfl) (.tmp 163) (.tmp 170) 35 ?_ p p ?_ ?_ HPF.out HPF.out (b := false) (by simp) <;> rfl)
                    case hQu16 => exact fun _ _ _ h => h
                    try simp only [Act.put, List.setIfInBounds_toArray, List.set_cons_zero, List.set_cons_succ]
                    refine wpAnyH_take (i := 17) (oi := ?oiu17) (v := ?vu17) ?hiu17 ?hsu17 ?hfu17 ?hru17 ?hQu17 ?hyu17 ?hSu17 ?hu17
                    case hiu17 => (simp only [List.getElem?_toArray, List.getElem?_cons_succ, List.getElem?_cons_zero]; rfl)
                    case hsu17 => kernel_rfl
                    case hfu17 => kernel_rfl
                    case hru17 => kernel_rfl
                    case hSu17 => first | assumption | trivial
                    case hyu17 => refine Or.inl ⟨by kernel_rfl, ?_⟩; (intro w hSw; (try dsimp only at hSw); go_simp; try with_reducible rfl)
                    case hQu17 => exact fun _ _ _ h => h
                    try simp only [Act.put, List.setIfInBounds_toArray, List.set_cons_zero, List.set_cons_succ]
                    refine wpAnyH_done (by kernel_rfl) ?_ _
                    go_wp2_with fail
                    refine ⟨⟨y + 1, by rw [show K + (y + 1) = K2 + 1 by rw [HK2.out]; omega]; go_num, by go_num, by omega, HLD⟩, ?_⟩
                    simp [intOf]
                    omega
                  · have r9 : ¬ (y : Int) < (T.length : Int) := by omega
                    have HY : Hid (y = T.length) := Lib.hid (by omega)
                    go_wp2_with fail
                    go_roundw
                    case rel => exact ⟨x + 1, K + y, rfl, by go_num, by omega, Lib.hid (by rw [preL_succ, List.length_append, ← HK.out, HY.out, HTX.out]), HLY⟩
                    case measure => simp [intOf]; omega
              · have r7 : ¬ (x : Int) < (os.length : Int) := by omega
                have hKA : K = A.length := by
                  have : x = i := by have := HOL.out; omega
                  rw [HK.out, HA.out, this]
                subst hKA
                obtain ⟨c1, c2, z1, z2⟩ := HLX.out.mc
                go_upto_region 39 with fail
                obtain ⟨w5, hw5⟩ : ∃ v, v = wr.setCell ⟨mb, 1, none⟩ (.int .i64 0) := ⟨_, rfl⟩
                have HL5 : Hid (LdO mb wm w5 ⟨s2.L, 0, s2.fails⟩ F4 [(gD, 37, encN d)] (.slice ao7 os.length cp7) os ((.slice ao17 P.length cp17, P) :: (.slice ao15 A.length cp15, A) :: os)) := Lib.hid (by rw [hw5]; exact HLX.out.mset 1 (.inl rfl) 0 (by omega))
                rw [← hw5]
                clear hw5 c1 c2 z1 z2
                obtain ⟨c1, c2, z1, z2⟩ := HL5.out.mc
                go_upto_region 40 with fail
                obtain ⟨w6, hw6⟩ : ∃ v, v = w5.setCell ⟨mb, 2, none⟩ (.int .i64 ((1 + fl : Nat) : Int)) := ⟨_, rfl⟩
                have HL6 : Hid (LdO mb wm w6 ⟨s2.L, 0, 1 + fl⟩ F4 [(gD, 37, encN d)] (.slice ao7 os.length cp7) os ((.slice ao17 P.length cp17, P) :: (.slice ao15 A.length cp15, A) :: os)) := Lib.hid (by rw [hw6]; exact HL5.out.mset 2 (.inr rfl) (1 + fl) (by omega))
                rw [show (1 : Int) + (fl : Int) = ((1 + fl : Nat) : Int) by omega, ← hw6]
                clear hw6 c1 c2 z1 z2
                obtain ⟨s3, hc3, hl3, he⟩ := HFAIL.out ⟨s2.L, 0, 1 + fl⟩ HL2.out rfl
                have HM3 := Lib.hid (HMO.out s3 hc3 hl3)
                have HP6 := Lib.hid (HPRE.out ⟨s2.L, 0, 1 + fl⟩ HL2.out)
                have hl1 := fun op a next Q => loadW_blk (P := Tryd.prog) (HL6.out.g.kb (gD, 37, encN d) (by simp)) Tryd.underlying37 rfl iszNd op a next Q
                clear hc3 hl3
                rcases he with e | e
                · have HE := Lib.hid e
                  have HC := Lib.hid (dall_any (C := memC mb) HL6.out.g.at_.1 d HDW.out.1 HDW.out.2.1 HDW.out.2.2 HP6.out (by rw [HE.out]; exact HM3.out))
                  rw [HE.out] at HC
                  clear e
                  go_wp2_with fail
                  refine HC.out.mono ?_
                  rintro e w7 ⟨v23, F7, rfl, hs⟩
                  have HL7 := Lib.hid (HL6.out.all hs)
                  have HFIN := Lib.hid (HL7.out.old HOLD.out HMB.out)
                  obtain ⟨ao23, cp23, rfl, _⟩ := HL7.out.form (List.mem_cons_self ..)
                  clear hs hl1 HC
                  go_wp2_with fail
                  go_ret
                  exact ⟨by simp, HFIN.out⟩
                · have HE := Lib.hid e
                  have HC := Lib.hid (dall_any (C := memC mb) HL6.out.g.at_.1 d HDW.out.1 HDW.out.2.1 HDW.out.2.2 HP6.out (by rw [HE.out]; exact HM3.out))
                  rw [HE.out] at HC
                  clear e
                  go_wp2_with fail
                  refine HC.out.mono ?_
                  rintro e w7 ⟨rfl, _, hstep⟩
                  obtain ⟨F7, hs⟩ := HL6.out.step hstep
                  have HFIN := Lib.hid (hs.old HOLD.out HMB.out)
                  clear hs hstep hl1 HC
                  go_wp2_with fail
                  go_ret
                  exact ⟨by simp, HFIN.out⟩
theorem alld_int (a : Option Addr) (len cap : Nat) (zs : List Nat) (x : Int) (w : World) (h : USl w a len cap zs) (hx : 0 ≤ x ∧ x ≤ 255) :
    Calls Tryd.prog 10 #[.slice a len cap, .int .u8 x] w fun e w' => e = .returned (.bool true) ∧ Below w.heap.size w w' := by
  obtain ⟨x, rfl⟩ : ∃ m : Nat, x = m := ⟨x.toNat, by omega⟩
  exact alld_any a len cap zs x w h (by omega)
end Go.Proofs.YtbhofablndjeoaaDoor
