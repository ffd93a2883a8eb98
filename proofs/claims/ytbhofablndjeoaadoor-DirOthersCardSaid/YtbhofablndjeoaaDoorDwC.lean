/- The law DirOthers. -/
import Derived.Test.YtbhofablndjeoaaDoorDwB
import Derived.Deep.DeepCutAuto
namespace Go.Proofs.YtbhofablndjeoaaDoor
open Go.RowKit
set_option linter.unusedSimpArgs false
set_option linter.unusedVariables false
attribute [local go_sem ↓] wp_loadPt wp_storePt wp_loadNd wp_storeNd wp_binNd
theorem bnW_zNd6 {p : NodeT} (hp : p.wf) (o : Oper) (x y : Operand) (a : Act) (W : World) (next : Act → World → Prop) (Q : Exit → Act → World → Prop) : BnW Tryd.prog o .eql 37 x y (.agg (encN p).toArray) (.agg #[.int .i64 0, .int .i64 0, .int .i64 0, .int .i64 0, .int .i64 0, .bool false, .int .i64 0, .int .i64 0, .int .i64 0, .int .u64 0, .int .u64 0, .int .u64 0, .int .u64 0]) a W next Q = next (a.put o.dst (.bool (decide (p = nD)))) W :=
  bnW_eqlNd hp nD_wf o x y a W next Q
set_option maxHeartbeats 4000000 in
set_option maxRecDepth 100000 in
theorem others_any (a : Option Addr) (len cap : Nat) (zs : List ActD) (x8 y8 : Nat) (n : NodeT) (w : World) (h : DSl w a len cap zs) (hx8 : x8 ≤ 255) (hy8 : y8 ≤ 255) (hn : n.wf) :
    Calls Tryd.prog 9 #[.slice a len cap, .int .u8 x8, .int .u8 y8, .agg (encN n).toArray] w fun e w' => e = .returned (.bool true) ∧ Below w.heap.size w w' := by
  obtain ⟨w0, hw0⟩ : ∃ w0, w0 = w.alloc (.cells (encN n).toArray 37) := ⟨_, rfl⟩
  have hbn0 : Blk w0 w.heap.size 37 (encN n) := by rw [hw0]; exact Blk.new w _ _
  have HBN0 := Lib.hid hbn0
  have HBEL0 : Hid (Below w.heap.size w w0) := by rw [hw0]; exact Lib.hid ((Below.refl _ _).alloc (Nat.le_refl _) _)
  have HAW := Lib.hid awake16_any
  have hmx := h.mx
  clear hbn0
  by_cases hlen : 40 < len
  · have q1 : (40 : Int) < (len : Int) := by omega
    go_enter Tryd.func9, Tryd.ntmps9
    go_upto_region 1 with fail
    rw [show w.alloc (.cells (encN n).toArray 37) = w0 from hw0.symm]
    clear hw0
    go_wp2_with fail
    refine (HAW.out _).mono ?_
    rintro e w1 ⟨rfl, hb1⟩
    have HB1 := Lib.hid (HBEL0.out.trans (hb1.mono HBEL0.out.size))
    clear hb1
    go_wp2_with fail
    refine (HAW.out _).mono ?_
    rintro e w2 ⟨rfl, hb2⟩
    have HFIN := Lib.hid (HB1.out.trans (hb2.mono HB1.out.size))
    clear hb2
    go_wp2_with fail
    go_ret
    exact ⟨rfl, HFIN.out⟩
  · have q1 : ¬ (40 : Int) < (len : Int) := by omega
    have q1' : (len : Int) ≤ 40 := by omega
    by_cases hxy : x8 % 32 = y8 % 32
    · have q2 : ((x8 : Int) % 32 == (y8 : Int) % 32) = true := by simp; omega
      go_enter Tryd.func9, Tryd.ntmps9
      go_upto_region 1 with fail
      rw [show w.alloc (.cells (encN n).toArray 37) = w0 from hw0.symm]
      clear hw0
      go_wp2_with fail
      refine (HAW.out _).mono ?_
      rintro e w1 ⟨rfl, hb1⟩
      have HB1 := Lib.hid (HBEL0.out.trans (hb1.mono HBEL0.out.size))
      clear hb1
      go_wp2_with fail
      refine (HAW.out _).mono ?_
      rintro e w2 ⟨rfl, hb2⟩
      have HFIN := Lib.hid (HB1.out.trans (hb2.mono HB1.out.size))
      clear hb2
      go_wp2_with fail
      go_ret
      exact ⟨rfl, HFIN.out⟩
    · have q2 : ((x8 : Int) % 32 == (y8 : Int) % 32) = false := by simp; omega
      go_enter Tryd.func9, Tryd.ntmps9
      go_upto_region 1 with fail
      rw [show w.alloc (.cells (encN n).toArray 37) = w0 from hw0.symm]
      clear hw0
      go_wp2_with fail
      refine (HAW.out _).mono ?_
      rintro e w1 ⟨rfl, hb1⟩
      have HB1 := Lib.hid (HBEL0.out.trans (hb1.mono HBEL0.out.size))
      have HBN1 := Lib.hid (HBN0.out.below hb1)
      clear hb1
      go_upto_region 5 with fail
      have hst := fun op a next Q => store_newZNd (w1.alloc (.cells mem0.toArray 27)) op a next Q
      obtain ⟨mb, hmb⟩ : ∃ mb, mb = w1.heap.size := ⟨_, rfl⟩
      obtain ⟨gN, hgN⟩ : ∃ gN, gN = w1.heap.size + 1 := ⟨_, rfl⟩
      obtain ⟨wm, hwm⟩ : ∃ wm, wm = w1.alloc (.cells mem0.toArray 27) := ⟨_, rfl⟩
      obtain ⟨wB, hwB⟩ : ∃ wB, wB = wm.alloc (.cells (encN nD).toArray 37) := ⟨_, rfl⟩
      have hsm : wm.heap.size = w1.heap.size + 1 := by rw [hwm]; simp
      have hLP : LdI mb gN wm wB 0 nD (fun _ => none) s0 (fun x => x = mb) := by
        have hm0 : memIs mb wm s0 (fun k => k = mb) := by rw [hwm]; exact mem_new hmb.symm
        refine ⟨(StoreC.At.start (C := memC mb) hm0).below (by rw [hwB]; exact (Below.refl _ _).alloc (Nat.le_refl _) _), ?_, by omega, Rd.start, DI.start _⟩
        rw [hwB]; exact Blk.newAt _ _ (by omega)
      have hbnB : Blk wm w.heap.size 37 (encN n) := by rw [hwm]; exact HBN1.out.alloc _
      have HLP := Lib.hid hLP
      have HBNM := Lib.hid hbnB
      have HOLD : Hid (Below w.heap.size w wm) := Lib.hid (by rw [hwm]; exact HB1.out.alloc HB1.out.size _)
      have HMB : Hid (w.heap.size < mb) := Lib.hid (by rw [hmb]; exact HBN1.out.lt)
      have HGN : Hid (wm.heap.size ≤ gN) := Lib.hid (by omega)
      have HZ := Lib.hid (fun (hn : 0 < len) => h.cells hn)
      rw [show w1.alloc (.cells #[.slice none 0 0, .int .i64 0, .int .i64 0] 27) = wm from hwm.symm] at *
      rw [← hwm] at hst
      rw [← hwB, hsm] at hst
      rw [hst, ← hgN, ← hmb]
      clear hmb hgN hwm hLP hwB hsm hst hbnB
      go_wp2_with fail
      go_loopw [11] (fun vi wr => ∃ (i : Nat) (d : NodeT) (D : Nat → Option NodeT) (st : MemT) (F : Nat → Prop), vi = .int .i64 i ∧ i ≤ len ∧ Hid (LdI mb gN wm wr i d D st F)) (fun vi _ => len - (intOf vi).toNat)
      case atStart => exact ⟨0, nD, _, s0, _, rfl, Nat.zero_le _, HLP⟩
      case round =>
        obtain ⟨i, d, D, st, F, rfl, hil, HLI⟩ := hrel
        by_cases hlt : i < len
        · have q3 : (i : Int) < (len : Int) := by omega
          have q4 : 0 ≤ (i : Int) := by omega
          have hi40 : i ≤ 40 := by omega
          obtain ⟨b, off0, rfl, HZ2⟩ : ∃ b off, a = some ⟨b, off, none⟩ ∧ Hid (∀ W, Below w.heap.size w W → ∀ k, k < len → (zs.getD k aD6).ok ∧ W.rangeAt b (off + k * 15) (encD (zs.getD k aD6))) := by
            obtain ⟨b, off, e, _, h2⟩ := HZ.out (by omega)
            exact ⟨b, off, e, Lib.hid h2⟩
          have HXO := Lib.hid (HZ2.out wm HOLD.out i (by omega)).1
          obtain ⟨rv, s2, D2, hd, hrd, hdi, htw⟩ : ∃ rv s2 D2, dsetM memF d (zs.getD i aD6).id (zs.getD i aD6).n st = (rv, s2) ∧ Rd (i + 1) s2 ∧ DI s2.L (aft rv d) D2 ∧ (rv = .error 1 ∨ ∃ q, rv = .ok q) := by
            rcases rd_dset HLI.out.rd (by omega) HLI.out.di (zs.getD i aD6).id (zs.getD i aD6).n HXO.out.n.root with ⟨_, e⟩ | ⟨_, _, q, s2, e, hr, _, hd, _⟩
            · exact ⟨.error 1, st, D, by rw [e]; rfl, HLI.out.rd.mono (by omega), HLI.out.di, .inl rfl⟩
            · exact ⟨.ok q, s2, _, e, hr, hd, .inr ⟨q, rfl⟩⟩
          have HD := Lib.hid hd
          have HRN := Lib.hid hrd
          have HDI := Lib.hid hdi
          have HTW := Lib.hid htw
          have HRK : Hid (memOk s2) := Lib.hid (hrd.ok (by omega))
          clear hd hrd hdi htw
          go_upto_region 8 with fail
          go_cut [12, 13] (fun vx ve wx => ∃ g F3, vx = .pointer (some ⟨g, 0, none⟩) ∧ ve = .int .i64 (errV rv : Nat) ∧ Hid (LdX mb gN wm wx d g rv s2 F3) ∧ Hid (Mod F wr wx) ∧ Hid (∀ x, x < wr.heap.size → ¬ F x → ¬ F3 x))
          case first =>
            have hold0 : Below w.heap.size w wr.drew := HOLD.out.trans (((HLI.out.at_.below (Below.refl _ _).drew).2.1).toBelow (B := w.heap.size) (fun k hk => by have := HMB.out; omega) HOLD.out.size)
            refine wp_region_held_drew (S := fun w' => Blk w' gN 37 (encN d) ∧ w'.rangeAt b (off0 + i * 15) (encD (zs.getD i aD6))) (by kernel_rfl) ⟨HLI.out.bn.drew, (HZ2.out _ hold0 i (by omega)).2⟩ (fun hS0 => ?_)
            refine wpAnyH_take (i := 0) (oi := ?oic0) (v := ?vc0) ?hic0 ?hsc0 ?hfc0 ?hrc0 ?hQc0 ?hyc0 ?hSc0 ?hc0
            case hic0 => (simp only [List.getElem?_toArray, List.getElem?_cons_succ, List.getElem?_cons_zero]; rfl)
            case hsc0 => kernel_rfl
            case hfc0 => kernel_rfl
            case hrc0 => kernel_rfl
            case hSc0 => first | assumption | trivial
            case hyc0 => refine Or.inl ⟨by kernel_rfl, ?_⟩; (intro w hSw; (try dsimp only at hSw); go_simp; try with_reducible rfl)
            case hQc0 => exact fun _ _ _ h => h
            try simp only [Act.put, List.setIfInBounds_toArray, List.set_cons_zero, List.set_cons_succ]
            refine wpAnyH_take (i := 1) (oi := ?oic1) (v := ?vc1) ?hic1 ?hsc1 ?hfc1 ?hrc1 ?hQc1 ?hyc1 ?hSc1 ?hc1
            case hic1 => (simp only [List.getElem?_toArray, List.getElem?_cons_succ, List.getElem?_cons_zero]; rfl)
            case hsc1 => kernel_rfl
            case hfc1 => kernel_rfl
            case hrc1 => kernel_rfl
            case hSc1 => first | assumption | trivial
            case hyc1 => refine Or.inl ⟨by kernel_rfl, ?_⟩; (intro w hSw; (try dsimp only at hSw); go_simp; try with_reducible rfl)
            case hQc1 => exact fun _ _ _ h => h
            try simp only [Act.put, List.setIfInBounds_toArray, List.set_cons_zero, List.set_cons_succ]
            refine wpAnyH_take (i := 2) (oi := ?oic2) (v := ?vc2) ?hic2 ?hsc2 ?hfc2 ?hrc2 ?hQc2 ?hyc2 ?hSc2 ?hc2
            case hic2 => (simp only [List.getElem?_toArray, List.getElem?_cons_succ, List.getElem?_cons_zero]; rfl)
            case hsc2 => kernel_rfl
            case hfc2 => kernel_rfl
            case hrc2 => kernel_rfl
            case hSc2 => first | assumption | trivial
            case hyc2 => refine yieldsIf_load_mid (by kernel_rfl) 37 (.tmp 10) ?_ gN (0) ?_ (encN d) _ (fun w' hw => range_and1 hw) Tryd.underlying37 rfl iszNd <;> rfl
            case hQc2 => exact fun _ _ _ h => h
            try simp only [Act.put, List.setIfInBounds_toArray, List.set_cons_zero, List.set_cons_succ]
            refine wpAnyH_take (i := 3) (oi := ?oic3) (v := ?vc3) ?hic3 ?hsc3 ?hfc3 ?hrc3 ?hQc3 ?hyc3 ?hSc3 ?hc3
            case hic3 => (simp only [List.getElem?_toArray, List.getElem?_cons_succ, List.getElem?_cons_zero]; rfl)
            case hsc3 => kernel_rfl
            case hfc3 => kernel_rfl
            case hrc3 => kernel_rfl
            case hSc3 => first | assumption | trivial
            case hyc3 => refine Or.inl ⟨by kernel_rfl, ?_⟩; (intro w hSw; (try dsimp only at hSw); go_simp; try with_reducible rfl)
            case hQc3 => exact fun _ _ _ h => h
            try simp only [Act.put, List.setIfInBounds_toArray, List.set_cons_zero, List.set_cons_succ]
            refine wpAnyH_take (i := 4) (oi := ?oic4) (v := ?vc4) ?hic4 ?hsc4 ?hfc4 ?hrc4 ?hQc4 ?hyc4 ?hSc4 ?hc4
            case hic4 => (simp only [List.getElem?_toArray, List.getElem?_cons_succ, List.getElem?_cons_zero]; rfl)
            case hsc4 => kernel_rfl
            case hfc4 => kernel_rfl
            case hrc4 => kernel_rfl
            case hSc4 => first | assumption | trivial
            case hyc4 => refine Or.inl ⟨by kernel_rfl, ?_⟩; (intro w hSw; (try dsimp only at hSw); go_simp; try with_reducible rfl)
            case hQc4 => exact fun _ _ _ h => h
            try simp only [Act.put, List.setIfInBounds_toArray, List.set_cons_zero, List.set_cons_succ]
            refine wpAnyH_take (i := 5) (oi := ?oic5) (v := ?vc5) ?hic5 ?hsc5 ?hfc5 ?hrc5 ?hQc5 ?hyc5 ?hSc5 ?hc5
            case hic5 => (simp only [List.getElem?_toArray, List.getElem?_cons_succ, List.getElem?_cons_zero]; rfl)
            case hsc5 => kernel_rfl
            case hfc5 => kernel_rfl
            case hrc5 => kernel_rfl
            case hSc5 => first | assumption | trivial
            case hyc5 => refine Or.inl ⟨by kernel_rfl, ?_⟩; (intro w hSw; (try dsimp only at hSw); go_simp; first | with_reducible rfl | rw [if_pos (by omega)])
            case hQc5 => exact fun _ _ _ h => h
            try simp only [Act.put, List.setIfInBounds_toArray, List.set_cons_zero, List.set_cons_succ]
            refine wpAnyH_take (i := 6) (oi := ?oic6) (v := ?vc6) ?hic6 ?hsc6 ?hfc6 ?hrc6 ?hQc6 ?hyc6 ?hSc6 ?hc6
            case hic6 => (simp only [List.getElem?_toArray, List.getElem?_cons_succ, List.getElem?_cons_zero]; rfl)
            case hsc6 => kernel_rfl
            case hfc6 => kernel_rfl
            case hrc6 => kernel_rfl
            case hSc6 => first | assumption | trivial
            case hyc6 => refine Or.inl ⟨by kernel_rfl, ?_⟩; (intro w hSw; (try dsimp only at hSw); go_simp; try with_reducible rfl)
            case hQc6 => exact fun _ _ _ h => h
            try simp only [Act.put, List.setIfInBounds_toArray, List.set_cons_zero, List.set_cons_succ]
            refine wpAnyH_take (i := 7) (oi := ?oic7) (v := ?vc7) ?hic7 ?hsc7 ?hfc7 ?hrc7 ?hQc7 ?hyc7 ?hSc7 ?hc7
            case hic7 => (simp only [List.getElem?_toArray, List.getElem?_cons_succ, List.getElem?_cons_zero]; rfl)
            case hsc7 => kernel_rfl
            case hfc7 => kernel_rfl
            case hrc7 => kernel_rfl
            case hSc7 => first | assumption | trivial
            case hyc7 => refine Or.inl ⟨by kernel_rfl, ?_⟩; (intro w hSw; (try dsimp only at hSw); go_simp; first | (rw [sd_id hSw]; rfl) | (rw [sd_id hSw]; with_reducible rfl))
            case hQc7 => exact fun _ _ _ h => h
            try simp only [Act.put, List.setIfInBounds_toArray, List.set_cons_zero, List.set_cons_succ]
            refine wpAnyH_take (i := 8) (oi := ?oic8) (v := ?vc8) ?hic8 ?hsc8 ?hfc8 ?hrc8 ?hQc8 ?hyc8 ?hSc8 ?hc8
            case hic8 => (simp only [List.getElem?_toArray, List.getElem?_cons_succ, List.getElem?_cons_zero]; rfl)
            case hsc8 => kernel_rfl
            case hfc8 => kernel_rfl
            case hrc8 => kernel_rfl
            case hSc8 => first | assumption | trivial
            case hyc8 => refine Or.inl ⟨by kernel_rfl, ?_⟩; (intro w hSw; (try dsimp only at hSw); go_simp; try with_reducible rfl)
            case hQc8 => exact fun _ _ _ h => h
            try simp only [Act.put, List.setIfInBounds_toArray, List.set_cons_zero, List.set_cons_succ]
            refine wpAnyH_take (i := 9) (oi := ?oic9) (v := ?vc9) ?hic9 ?hsc9 ?hfc9 ?hrc9 ?hQc9 ?hyc9 ?hSc9 ?hc9
            case hic9 => (simp only [List.getElem?_toArray, List.getElem?_cons_succ, List.getElem?_cons_zero]; rfl)
            case hsc9 => kernel_rfl
            case hfc9 => kernel_rfl
            case hrc9 => kernel_rfl
            case hSc9 => first | assumption | trivial
            case hyc9 => refine Or.inl ⟨by kernel_rfl, ?_⟩; (intro w hSw; (try dsimp only at hSw); go_simp; try with_reducible rfl)
            case hQc9 => exact fun _ _ _ h => h
            try simp only [Act.put, List.setIfInBounds_toArray, List.set_cons_zero, List.set_cons_succ]
            refine wpAnyH_take (i := 10) (oi := ?oic10) (v := ?vc10) ?hic10 ?hsc10 ?hfc10 ?hrc10 ?hQc10 ?hyc10 ?hSc10 ?hc10
            case hic10 => (simp only [List.getElem?_toArray, List.getElem?_cons_succ, List.getElem?_cons_zero]; rfl)
            case hsc10 => kernel_rfl
            case hfc10 => kernel_rfl
            case hrc10 => kernel_rfl
            case hSc10 => first | assumption | trivial
            case hyc10 => refine Or.inl ⟨by kernel_rfl, ?_⟩; (intro w hSw; (try dsimp only at hSw); go_simp; first | with_reducible rfl | rw [if_pos (by omega)])
            case hQc10 => exact fun _ _ _ h => h
            try simp only [Act.put, List.setIfInBounds_toArray, List.set_cons_zero, List.set_cons_succ]
            refine wpAnyH_take (i := 11) (oi := ?oic11) (v := ?vc11) ?hic11 ?hsc11 ?hfc11 ?hrc11 ?hQc11 ?hyc11 ?hSc11 ?hc11
            case hic11 => (simp only [List.getElem?_toArray, List.getElem?_cons_succ, List.getElem?_cons_zero]; rfl)
            case hsc11 => kernel_rfl
            case hfc11 => kernel_rfl
            case hrc11 => kernel_rfl
            case hSc11 => first | assumption | trivial
            case hyc11 => refine Or.inl ⟨by kernel_rfl, ?_⟩; (intro w hSw; (try dsimp only at hSw); go_simp; try with_reducible rfl)
            case hQc11 => exact fun _ _ _ h => h
            try simp only [Act.put, List.setIfInBounds_toArray, List.set_cons_zero, List.set_cons_succ]
            refine wpAnyH_take (i := 12) (oi := ?oic12) (v := ?vc12) ?hic12 ?hsc12 ?hfc12 ?hrc12 ?hQc12 ?hyc12 ?hSc12 ?hc12
            case hic12 => (simp only [List.getElem?_toArray, List.getElem?_cons_succ, List.getElem?_cons_zero]; rfl)
            case hsc12 => kernel_rfl
            case hfc12 => kernel_rfl
            case hrc12 => kernel_rfl
            case hSc12 => first | assumption | trivial
            case hyc12 => refine yieldsIf_load_mid (by kernel_rfl) 37 (.tmp 66) ?_ b ((off0 + i * 15 + 2)) ?_ (encN (zs.getD i aD6).n) _ (fun w' hw => sd_n hw) Tryd.underlying37 rfl iszNd <;> rfl
            case hQc12 => exact fun _ _ _ h => h
            try simp only [Act.put, List.setIfInBounds_toArray, List.set_cons_zero, List.set_cons_succ]
            refine wpAnyH_ready (rs := [13, 17]) (by kernel_rfl) (by simp) ?_
            refine AllReadyH.cons (by simp only [List.getElem?_toArray, List.getElem?_cons_succ, List.getElem?_cons_zero]; rfl) (fun K hK => ?_) (AllReadyH.cons (by simp only [List.getElem?_toArray, List.getElem?_cons_succ, List.getElem?_cons_zero]; rfl) (fun K hK => ?_) AllReadyH.nil)
            · go_simp
              have HLW := Lib.hid (HLI.out.below (wr' := wr.drew) (Below.refl _ _).drew)
              refine (dset_any (C := memC mb) HLW.out.at_.1 d (HLW.out.nwf (by omega)) (zs.getD i aD6).id (zs.getD i aD6).n HXO.out.n (by rw [HD.out]; exact HRK.out)).mono ?_
              rintro e w6 ⟨hpr, hstep6⟩
              rw [HD.out] at hpr hstep6
              have hpe := NdR.val hpr
              subst hpe
              obtain ⟨F3, hat6, hfr6, hm6⟩ := HLW.out.at_.step hstep6
              have hbn6 := hm6.blk HLW.out.bn HLW.out.fN
              have hfN6 := hfr6 _ HLW.out.bn.lt HLW.out.fN
              have hold6 := HOLD.out.trans (hat6.2.1.toBelow (B := w.heap.size) (fun k hk => by have := HMB.out; omega) HOLD.out.size)
              have hra6 := (HZ2.out w6 hold6 i (by omega)).2
              have HM6 : Hid (Mod F wr w6) := Lib.hid (((Mod.refl F wr).drew).self hm6)
              have HF6 : Hid (∀ x, x < wr.heap.size → ¬ F x → ¬ F3 x) := Lib.hid (fun x hx hn => hfr6 x hx hn)
              clear hfr6 hstep6 hm6
              try dsimp only
              refine hK.out _ _ (⟨hbn6, hra6⟩) (fun hScp13 => ?_)
              try simp only [Act.put, List.setIfInBounds_toArray, List.set_cons_zero, List.set_cons_succ]
              refine wpAnyH_take (i := 14) (oi := ?oicp14) (v := ?vcp14) ?hicp14 ?hscp14 ?hfcp14 ?hrcp14 ?hQcp14 ?hycp14 ?hScp14 ?hcp14
              case hicp14 => (simp only [List.getElem?_toArray, List.getElem?_cons_succ, List.getElem?_cons_zero]; rfl)
              case hscp14 => kernel_rfl
              case hfcp14 => kernel_rfl
              case hrcp14 => kernel_rfl
              case hScp14 => first | assumption | trivial
              case hycp14 => refine Or.inl ⟨by kernel_rfl, ?_⟩; (intro w hSw; (try dsimp only at hSw); go_simp; try with_reducible rfl)
              case hQcp14 => exact fun _ _ _ h => h
              try simp only [Act.put, List.setIfInBounds_toArray, List.set_cons_zero, List.set_cons_succ]
              refine wpAnyH_take (i := 15) (oi := ?oicp15) (v := ?vcp15) ?hicp15 ?hscp15 ?hfcp15 ?hrcp15 ?hQcp15 ?hycp15 ?hScp15 ?hcp15
              case hicp15 => (simp only [List.getElem?_toArray, List.getElem?_cons_succ, List.getElem?_cons_zero]; rfl)
              case hscp15 => kernel_rfl
              case hfcp15 => kernel_rfl
              case hrcp15 => kernel_rfl
              case hScp15 => first | assumption | trivial
              case hycp15 => refine Or.inl ⟨by kernel_rfl, ?_⟩; (intro w hSw; (try dsimp only at hSw); go_simp; try with_reducible rfl)
              case hQcp15 => exact fun _ _ _ h => h
              try simp only [Act.put, List.setIfInBounds_toArray, List.set_cons_zero, List.set_cons_succ]
              refine wpAnyH_take (i := 16) (oi := ?oicp16) (v := ?vcp16) ?hicp16 ?hscp16 ?hfcp16 ?hrcp16 ?hQcp16 ?hycp16 ?hScp16 ?hcp16
              case hicp16 => (simp only [List.getElem?_toArray, List.getElem?_cons_succ, List.getElem?_cons_zero]; rfl)
              case hscp16 => kernel_rfl
              case hfcp16 => kernel_rfl
              case hrcp16 => kernel_rfl
              case hScp16 => first | assumption | trivial
              case hycp16 => refine Or.inl ⟨by kernel_rfl, ?_⟩; (intro w hSw; (try dsimp only at hSw); go_simp; try with_reducible rfl)
              case hQcp16 => exact fun _ _ _ h => h
              try simp only [Act.put, List.setIfInBounds_toArray, List.set_cons_zero, List.set_cons_succ]
              refine wpAnyH_ready (rs := [17]) (by kernel_rfl) (by simp) ?_
              refine AllReadyH.cons (by simp only [List.getElem?_toArray, List.getElem?_cons_succ, List.getElem?_cons_zero]; rfl) (fun K hK => ?_) AllReadyH.nil
              go_simp
              skip
              refine hK.out _ _ (⟨hbn6.alloc _, (HZ2.out _ (hold6.alloc hold6.size _) i (by omega)).2⟩) (fun hScp17 => ?_)
              try simp only [Act.put, List.setIfInBounds_toArray, List.set_cons_zero, List.set_cons_succ]
              refine wpAnyH_ready (rs := [18]) (by kernel_rfl) (by simp) ?_
              refine AllReadyH.cons (by simp only [List.getElem?_toArray, List.getElem?_cons_succ, List.getElem?_cons_zero]; rfl) (fun K hK => ?_) AllReadyH.nil
              rw [if_pos (by kernel_rfl)]
              refine wp_store_mid 37 (.tmp 12) (.tmp 69) rfl w6.heap.size (0) (encN (ndV rv)).toArray rfl rfl (blk_there (Blk.new w6 37 (encN nD)) (Nat.le_refl 13)) iszNd (all_oneCell_toArray (encN_ones _)) ?_
              refine hK.out _ _ (⟨(hbn6.alloc _).away 0 _ (by have := hbn6.lt; omega), (HZ2.out _ (HOLD.out.trans (((hat6.below ((Below.refl _ _).alloc (Nat.le_refl _) (.cells (encN nD).toArray 37))).put (o := 0) (vs := encN (ndV rv)) hat6.size (hat6.fresh (Nat.le_refl _))).2.1.toBelow (B := w.heap.size) (fun k hk => by have := HMB.out; omega) HOLD.out.size)) i (by omega)).2⟩) (fun hScp18 => ?_)
              try simp only [Act.put, List.setIfInBounds_toArray, List.set_cons_zero, List.set_cons_succ]
              refine wpAnyH_take (i := 19) (oi := ?oicp19) (v := ?vcp19) ?hicp19 ?hscp19 ?hfcp19 ?hrcp19 ?hQcp19 ?hycp19 ?hScp19 ?hcp19
              case hicp19 => (simp only [List.getElem?_toArray, List.getElem?_cons_succ, List.getElem?_cons_zero]; rfl)
              case hscp19 => kernel_rfl
              case hfcp19 => kernel_rfl
              case hrcp19 => kernel_rfl
              case hScp19 => first | assumption | trivial
              case hycp19 => refine Or.inl ⟨by kernel_rfl, ?_⟩; (intro w hSw; (try dsimp only at hSw); go_simp; try with_reducible rfl)
              case hQcp19 => exact fun _ _ _ h => h
              try simp only [Act.put, List.setIfInBounds_toArray, List.set_cons_zero, List.set_cons_succ]
              have HT : Hid (LdX mb gN wm ((w6.alloc (.cells (encN nD).toArray 37)).setCells w6.heap.size 0 (encN (ndV rv))) d w6.heap.size rv s2 F3) := Lib.hid ⟨(hat6.below ((Below.refl _ _).alloc (Nat.le_refl _) _)).put hat6.size (hat6.fresh (Nat.le_refl _)), (hbn6.alloc _).away 0 _ (by have := hbn6.lt; omega), (Blk.new w6 37 (encN nD)).put rfl, hfN6, hat6.fresh (Nat.le_refl _), by have := hbn6.lt; omega⟩
              have HMX : Hid (Mod F wr ((w6.alloc (.cells (encN nD).toArray 37)).setCells w6.heap.size 0 (encN (ndV rv)))) := Lib.hid ((HM6.out.alloc _).put (.inr HM6.out.size))
              refine wpAnyH_done (by kernel_rfl) ?_ _
              go_wp2_with fail
              go_meet
              exact ⟨_, F3, rfl, rfl, HT, HMX, HF6⟩
            · go_simp
              skip
              refine hK.out _ _ (⟨HLI.out.bn.drew.alloc _, (HZ2.out _ (HOLD.out.trans ((HLI.out.at_.below ((Below.refl _ _).drew.alloc (Nat.le_refl _) (.cells (encN nD).toArray 37))).2.1.toBelow (B := w.heap.size) (fun k hk => by have := HMB.out; omega) HOLD.out.size)) i (by omega)).2⟩) (fun hScq17 => ?_)
              try simp only [Act.put, List.setIfInBounds_toArray, List.set_cons_zero, List.set_cons_succ]
              refine wpAnyH_ready (rs := [13]) (by kernel_rfl) (by simp) ?_
              refine AllReadyH.cons (by simp only [List.getElem?_toArray, List.getElem?_cons_succ, List.getElem?_cons_zero]; rfl) (fun K hK => ?_) AllReadyH.nil
              go_simp
              have HLW := Lib.hid (HLI.out.below (wr' := (wr.drew.alloc (.cells (encN nD).toArray 37))) ((Below.refl _ _).drew.alloc (Nat.le_refl _) _))
              refine (dset_any (C := memC mb) HLW.out.at_.1 d (HLW.out.nwf (by omega)) (zs.getD i aD6).id (zs.getD i aD6).n HXO.out.n (by rw [HD.out]; exact HRK.out)).mono ?_
              rintro e w6 ⟨hpr, hstep6⟩
              rw [HD.out] at hpr hstep6
              have hpe := NdR.val hpr
              subst hpe
              obtain ⟨F3, hat6, hfr6, hm6⟩ := HLW.out.at_.step hstep6
              have hbn6 := hm6.blk HLW.out.bn HLW.out.fN
              have hfN6 := hfr6 _ HLW.out.bn.lt HLW.out.fN
              have hold6 := HOLD.out.trans (hat6.2.1.toBelow (B := w.heap.size) (fun k hk => by have := HMB.out; omega) HOLD.out.size)
              have hra6 := (HZ2.out w6 hold6 i (by omega)).2
              have hbx6 : Blk w6 wr.heap.size 37 (encN nD) := hm6.blk (Blk.new wr.drew _ _) (HLI.out.at_.fresh (Nat.le_refl _))
              have hfX6 : ¬ F3 wr.heap.size := hfr6 _ (Blk.new wr.drew 37 (encN nD)).lt (HLI.out.at_.fresh (Nat.le_refl _))
              have HM6 : Hid (Mod F wr w6) := Lib.hid ((((Mod.refl F wr).drew).alloc _).self hm6)
              have HF6 : Hid (∀ x, x < wr.heap.size → ¬ F x → ¬ F3 x) := Lib.hid (fun x hx hn => hfr6 x (by simp; omega) hn)
              clear hfr6 hstep6 hm6
              try dsimp only
              refine hK.out _ _ (⟨hbn6, hra6⟩) (fun hScq13 => ?_)
              try simp only [Act.put, List.setIfInBounds_toArray, List.set_cons_zero, List.set_cons_succ]
              refine wpAnyH_take (i := 14) (oi := ?oicq14) (v := ?vcq14) ?hicq14 ?hscq14 ?hfcq14 ?hrcq14 ?hQcq14 ?hycq14 ?hScq14 ?hcq14
              case hicq14 => (simp only [List.getElem?_toArray, List.getElem?_cons_succ, List.getElem?_cons_zero]; rfl)
              case hscq14 => kernel_rfl
              case hfcq14 => kernel_rfl
              case hrcq14 => kernel_rfl
              case hScq14 => first | assumption | trivial
              case hycq14 => refine Or.inl ⟨by kernel_rfl, ?_⟩; (intro w hSw; (try dsimp only at hSw); go_simp; try with_reducible rfl)
              case hQcq14 => exact fun _ _ _ h => h
              try simp only [Act.put, List.setIfInBounds_toArray, List.set_cons_zero, List.set_cons_succ]
              refine wpAnyH_take (i := 15) (oi := ?oicq15) (v := ?vcq15) ?hicq15 ?hscq15 ?hfcq15 ?hrcq15 ?hQcq15 ?hycq15 ?hScq15 ?hcq15
              case hicq15 => (simp only [List.getElem?_toArray, List.getElem?_cons_succ, List.getElem?_cons_zero]; rfl)
              case hscq15 => kernel_rfl
              case hfcq15 => kernel_rfl
              case hrcq15 => kernel_rfl
              case hScq15 => first | assumption | trivial
              case hycq15 => refine Or.inl ⟨by kernel_rfl, ?_⟩; (intro w hSw; (try dsimp only at hSw); go_simp; try with_reducible rfl)
              case hQcq15 => exact fun _ _ _ h => h
              try simp only [Act.put, List.setIfInBounds_toArray, List.set_cons_zero, List.set_cons_succ]
              refine wpAnyH_take (i := 16) (oi := ?oicq16) (v := ?vcq16) ?hicq16 ?hscq16 ?hfcq16 ?hrcq16 ?hQcq16 ?hycq16 ?hScq16 ?hcq16
              case hicq16 => (simp only [List.getElem?_toArray, List.getElem?_cons_succ, List.getElem?_cons_zero]; rfl)
              case hscq16 => kernel_rfl
              case hfcq16 => kernel_rfl
              case hrcq16 => kernel_rfl
              case hScq16 => first | assumption | trivial
              case hycq16 => refine Or.inl ⟨by kernel_rfl, ?_⟩; (intro w hSw; (try dsimp only at hSw); go_simp; try with_reducible rfl)
              case hQcq16 => exact fun _ _ _ h => h
              try simp only [Act.put, List.setIfInBounds_toArray, List.set_cons_zero, List.set_cons_succ]
              refine wpAnyH_ready (rs := [18]) (by kernel_rfl) (by simp) ?_
              refine AllReadyH.cons (by simp only [List.getElem?_toArray, List.getElem?_cons_succ, List.getElem?_cons_zero]; rfl) (fun K hK => ?_) AllReadyH.nil
              rw [if_pos (by kernel_rfl)]
              refine wp_store_mid 37 (.tmp 12) (.tmp 69) rfl wr.heap.size (0) (encN (ndV rv)).toArray rfl rfl (blk_there hbx6 (Nat.le_refl 13)) iszNd (all_oneCell_toArray (encN_ones _)) ?_
              refine hK.out _ _ (⟨hbn6.away 0 _ (by have := HLI.out.bn.lt; omega), (HZ2.out _ (HOLD.out.trans ((hat6.put (o := 0) (vs := encN (ndV rv)) (HLI.out.at_.size) hfX6).2.1.toBelow (B := w.heap.size) (fun k hk => by have := HMB.out; omega) HOLD.out.size)) i (by omega)).2⟩) (fun hScq18 => ?_)
              try simp only [Act.put, List.setIfInBounds_toArray, List.set_cons_zero, List.set_cons_succ]
              refine wpAnyH_take (i := 19) (oi := ?oicq19) (v := ?vcq19) ?hicq19 ?hscq19 ?hfcq19 ?hrcq19 ?hQcq19 ?hycq19 ?hScq19 ?hcq19
              case hicq19 => (simp only [List.getElem?_toArray, List.getElem?_cons_succ, List.getElem?_cons_zero]; rfl)
              case hscq19 => kernel_rfl
              case hfcq19 => kernel_rfl
              case hrcq19 => kernel_rfl
              case hScq19 => first | assumption | trivial
              case hycq19 => refine Or.inl ⟨by kernel_rfl, ?_⟩; (intro w hSw; (try dsimp only at hSw); go_simp; try with_reducible rfl)
              case hQcq19 => exact fun _ _ _ h => h
              try simp only [Act.put, List.setIfInBounds_toArray, List.set_cons_zero, List.set_cons_succ]
              have HT : Hid (LdX mb gN wm (w6.setCells wr.heap.size 0 (encN (ndV rv))) d wr.heap.size rv s2 F3) := Lib.hid ⟨hat6.put HLI.out.at_.size hfX6, hbn6.away 0 _ (by have := HLI.out.bn.lt; omega), hbx6.put rfl, hfN6, hfX6, by have := HLI.out.bn.lt; omega⟩
              have HMX : Hid (Mod F wr (w6.setCells wr.heap.size 0 (encN (ndV rv)))) := Lib.hid (HM6.out.put (.inr (Nat.le_refl _)))
              refine wpAnyH_done (by kernel_rfl) ?_ _
              go_wp2_with fail
              go_meet
              exact ⟨_, F3, rfl, rfl, HT, HMX, HF6⟩
          obtain ⟨g, F3, rfl, rfl, HT, HMX, HF6⟩ := hcut
          rcases HTW.out with rfl | ⟨q, rfl⟩
          · unfold errV
            go_wp2_with fail
            go_roundw
            case rel => exact ⟨i + 1, d, D2, s2, F3, by go_num, by omega, Lib.hid ⟨HT.out.at_, HT.out.bn, HT.out.fN, HRN.out, HDI.out⟩⟩
            case measure => simp [intOf]; omega
          · unfold errV
            have hl := fun op a next Q => loadW_blk (P := Tryd.prog) HT.out.bx Tryd.underlying37 rfl iszNd op a next Q
            have hst := fun op a next Q => storeW_part (P := Tryd.prog) (t := 37) (o := 0) (cs := encN q) HT.out.bn (Nat.le_refl 13) iszNd (encN_ones _) op a next Q
            have HL2 : Hid (LdI mb gN wm (wc.setCells gN 0 (encN q)) (i + 1) q D2 s2 F3) := Lib.hid ⟨HT.out.at_.put HGN.out HT.out.fN, HT.out.bn.put rfl, HT.out.fN, HRN.out, HDI.out⟩
            unfold ndV at hl
            go_wp2_with fail
            go_roundw
            case rel => exact ⟨i + 1, q, D2, s2, F3, by go_num, by omega, HL2⟩
            case measure => simp [intOf]; omega
        · have q3 : ¬ (i : Int) < (len : Int) := by omega
          have hi40 : i ≤ 40 := by omega
          obtain ⟨A, hA⟩ : ∃ A : Nat, A = x8 % 32 := ⟨_, rfl⟩
          obtain ⟨B, hB⟩ : ∃ B : Nat, B = y8 % 32 := ⟨_, rfl⟩
          have hA32 : A < 32 := by omega
          have hB32 : B < 32 := by omega
          have HAB : Hid (A ≠ B) := Lib.hid (by omega)
          have eA : (x8 : Int) % 32 = (A : Int) := by omega
          have eB : (y8 : Int) % 32 = (B : Int) := by omega
          obtain ⟨gn, hgn⟩ : ∃ gn, gn = w.heap.size := ⟨_, rfl⟩
          have hgm : gn ≠ mb := by have := HMB.out; omega
          have hgw : gn < wm.heap.size := by rw [hgn]; exact HBNM.out.lt
          have H0 : Hid (LdS mb wm wr st F [(gN, d), (gn, n)]) := Lib.hid ⟨HLI.out.at_, fun b hb => by
            simp only [List.mem_cons, List.not_mem_nil, or_false] at hb
            rcases hb with rfl | rfl
            · exact HLI.out.bn
            · have := HLI.out.at_.2.1.blk HBNM.out (fun e => hgm (by rw [hgn]; exact e))
              rw [hgn]; exact this, fun b hb => by
            simp only [List.mem_cons, List.not_mem_nil, or_false] at hb
            rcases hb with rfl | rfl
            · exact HLI.out.fN
            · intro hf
              rcases HLI.out.at_.2.2 _ hf with h | h
              · exact hgm h
              · dsimp only at h; omega⟩
          have hdw : d.wf := HLI.out.nwf (by omega)
          have HDW := Lib.hid hdw
          have HR0 := Lib.hid HLI.out.rd
          have HD0 := Lib.hid HLI.out.di
          have HNN := Lib.hid hn
          obtain ⟨s1, e1, hl1, hr1⟩ := rd_getN HR0.out HD0.out hA32
          obtain ⟨R, hR⟩ : ∃ R, R = dRes (D A) := ⟨_, rfl⟩
          rw [← hR] at e1
          have HR := Lib.hid hR
          have HE1 := Lib.hid e1
          have HR1 := Lib.hid hr1
          have HRW : Hid R.1.wf := Lib.hid (by rw [hR]; exact HD0.out.wf hA32)
          have HD1 : Hid (DI s1.L d D) := Lib.hid (by rw [hl1]; exact HD0.out)
          clear e1 hl1 hr1 hR hdw
          rw [← hgn] at *
          clear hgn hA hB hgm hgw
          have HC := Lib.hid (dget_any (C := memC mb) H0.out.at_.1 d HDW.out (A : Int) (by rw [HE1.out]; exact HR1.out.ok (by omega)))
          rw [HE1.out] at HC
          have hl0 := fun op a next Q => loadW_blk (P := Tryd.prog) (H0.out.kb (gN, d) (by simp)) Tryd.underlying37 rfl iszNd op a next Q
          go_wp2_with fail
          refine HC.out.mono ?_
          rintro e w0c ⟨hrd, _, hstep⟩
          unfold RdR at hrd
          subst hrd
          obtain ⟨F0c, hs⟩ := H0.out.step hstep
          have H1 := Lib.hid (hs.new R.1)
          have hst := fun op a next Q => store_newNd R.1 w0c op a next Q
          obtain ⟨g14, hg⟩ : ∃ g, g = w0c.heap.size := ⟨_, rfl⟩
          obtain ⟨w0d, hv⟩ : ∃ v, v = w0c.alloc (.cells (encN R.1).toArray 37) := ⟨_, rfl⟩
          rw [← hv, ← hg] at H1
          clear hstep hs HC hl0
          unfold ndB errV
          go_upto_region 12 with fail
          rw [← hv, ← hg]
          clear hst hv hg
          rcases rd_dset HR1.out (by omega) HD1.out (B : Int) n HNN.out.root with ⟨_, eS⟩ | ⟨_, _, q, s2, e2, hr2, hx2, hd2, _⟩
          · have e2 : dsetM memF d (B : Int) n s1 = (.error 1, s1) := by rw [eS]; rfl
            have HE2 := Lib.hid e2
            clear eS e2
            have HC := Lib.hid (dset_any (C := memC mb) H1.out.at_.1 d HDW.out (B : Int) n HNN.out (by rw [HE2.out]; exact HR1.out.ok (by omega)))
            rw [HE2.out] at HC
            have hl0 := fun op a next Q => loadW_blk (P := Tryd.prog) (H1.out.kb (gN, d) (by simp)) Tryd.underlying37 rfl iszNd op a next Q
            have hl1 := fun op a next Q => loadW_blk (P := Tryd.prog) (H1.out.kb (gn, n) (by simp)) Tryd.underlying37 rfl iszNd op a next Q
            go_wp2_with fail
            refine HC.out.mono ?_
            rintro e w1c ⟨hpr, hstep⟩
            have hpe := NdR.val hpr
            subst hpe
            obtain ⟨F1c, hs⟩ := H1.out.step hstep
            have H2 := Lib.hid (hs.new nD)
            have hst := fun op a next Q => store_newNd nD w1c op a next Q
            obtain ⟨g17, hg⟩ : ∃ g, g = w1c.heap.size := ⟨_, rfl⟩
            obtain ⟨w1d, hv⟩ : ∃ v, v = w1c.alloc (.cells (encN nD).toArray 37) := ⟨_, rfl⟩
            rw [← hv, ← hg] at H2
            clear hstep hs HC hl0 hl1
            unfold ndV errV
            go_upto_region 13 with fail
            rw [← hv, ← hg]
            clear hst hv hg
            have hl := fun op a next Q => loadW_blk (P := Tryd.prog) (H2.out.kb (g17, nD) (by simp)) Tryd.underlying37 rfl iszNd op a next Q
            have hq := fun o x y a W next Q => bnW_zNd6 nD_wf o x y a W next Q
            have HFIN := Lib.hid (H2.out.old HOLD.out (by have := HMB.out; omega))
            go_wp2_with fail
            go_ret
            exact ⟨by simp, HFIN.out⟩
          · have em : ((B : Int)).toNat = B := by omega
            rw [em] at hd2
            have HE2 := Lib.hid e2
            have HR2 := Lib.hid hr2
            have HD2 := Lib.hid hd2
            have HQW : Hid q.wf := Lib.hid (hd2.nw.wf' (by have := hr2.l; omega))
            clear e2 hr2 hx2 hd2
            have HC := Lib.hid (dset_any (C := memC mb) H1.out.at_.1 d HDW.out (B : Int) n HNN.out (by rw [HE2.out]; exact HR2.out.ok (by omega)))
            rw [HE2.out] at HC
            have hl0 := fun op a next Q => loadW_blk (P := Tryd.prog) (H1.out.kb (gN, d) (by simp)) Tryd.underlying37 rfl iszNd op a next Q
            have hl1 := fun op a next Q => loadW_blk (P := Tryd.prog) (H1.out.kb (gn, n) (by simp)) Tryd.underlying37 rfl iszNd op a next Q
            go_wp2_with fail
            refine HC.out.mono ?_
            rintro e w1c ⟨hpr, hstep⟩
            have hpe := NdR.val hpr
            subst hpe
            obtain ⟨F1c, hs⟩ := H1.out.step hstep
            have H2 := Lib.hid (hs.new q)
            have hst := fun op a next Q => store_newNd q w1c op a next Q
            obtain ⟨g17, hg⟩ : ∃ g, g = w1c.heap.size := ⟨_, rfl⟩
            obtain ⟨w1d, hv⟩ : ∃ v, v = w1c.alloc (.cells (encN q).toArray 37) := ⟨_, rfl⟩
            rw [← hv, ← hg] at H2
            clear hstep hs HC hl0 hl1
            unfold ndV errV
            go_upto_region 13 with fail
            rw [← hv, ← hg]
            clear hst hv hg
            obtain ⟨y, s3, e3, hr3, hx3, hd3⟩ : ∃ y s3, ddropM memF q (B : Int) s2 = (.ok y, s3) ∧ Rd (i + 1 + 1 + 2) s3 ∧ (∃ X, s3.L = s2.L ++ X) ∧ DI s3.L y (dUpd (dUpd D B (some n)) B none) := by
              obtain ⟨r, s3, e, hr, hx, hc⟩ := rd_ddrop HR2.out (by omega) HD2.out (B : Int)
              rw [em] at hc
              rcases hc with ⟨h, _⟩ | ⟨_, h, _⟩ | ⟨_, _, y, rfl, h, _⟩
              · exact absurd ⟨by omega, by omega⟩ h
              · simp [dUpd] at h
              · exact ⟨y, s3, e, hr, hx, h⟩
            have HE3 := Lib.hid e3
            have HR3 := Lib.hid hr3
            have HD3 := Lib.hid hd3
            have HYW : Hid y.wf := Lib.hid (hd3.nw.wf' (by have := hr3.l; omega))
            have HD23 : Hid (DI s3.L q (dUpd D B (some n))) := Lib.hid (by obtain ⟨X, hX⟩ := hx3; rw [hX]; exact HD2.out.mono X)
            clear e3 hr3 hx3 hd3
            go_upto_region 15 with fail
            have HC := Lib.hid (ddrop_any (C := memC mb) H2.out.at_.1 q HQW.out (B : Int) (by rw [HE3.out]; exact HR3.out.ok (by omega)))
            rw [HE3.out] at HC
            have hl0 := fun op a next Q => loadW_blk (P := Tryd.prog) (H2.out.kb (g17, q) (by simp)) Tryd.underlying37 rfl iszNd op a next Q
            go_wp2_with fail
            refine HC.out.mono ?_
            rintro e w2c ⟨hpr, hstep⟩
            have hpe := NdR.val hpr
            subst hpe
            obtain ⟨F2c, hs⟩ := H2.out.step hstep
            have H3 := Lib.hid (hs.new y)
            have hst := fun op a next Q => store_newNd y w2c op a next Q
            obtain ⟨g19, hg⟩ : ∃ g, g = w2c.heap.size := ⟨_, rfl⟩
            obtain ⟨w2d, hv⟩ : ∃ v, v = w2c.alloc (.cells (encN y).toArray 37) := ⟨_, rfl⟩
            rw [← hv, ← hg] at H3
            clear hstep hs HC hl0
            unfold ndV errV
            go_upto_region 16 with fail
            rw [← hv, ← hg]
            clear hst hv hg
            obtain ⟨s4, e4, hl4, hr4⟩ := rd_getN HR3.out HD23.out hA32
            have ed1 : dUpd D B (some n) A = D A := by unfold dUpd; rw [if_neg HAB.out]
            rw [ed1, ← HR.out] at e4
            have HE4 := Lib.hid e4
            have HR4 := Lib.hid hr4
            have HD4 : Hid (DI s4.L y (dUpd (dUpd D B (some n)) B none)) := Lib.hid (by rw [hl4]; exact HD3.out)
            clear e4 hl4 hr4
            have HC := Lib.hid (dget_any (C := memC mb) H3.out.at_.1 q HQW.out (A : Int) (by rw [HE4.out]; exact HR4.out.ok (by omega)))
            rw [HE4.out] at HC
            have hl0 := fun op a next Q => loadW_blk (P := Tryd.prog) (H3.out.kb (g17, q) (by simp)) Tryd.underlying37 rfl iszNd op a next Q
            go_wp2_with fail
            refine HC.out.mono ?_
            rintro e w3c ⟨hrd, _, hstep⟩
            unfold RdR at hrd
            subst hrd
            obtain ⟨F3c, hs⟩ := H3.out.step hstep
            have H4 := Lib.hid (hs.new R.1)
            have hst := fun op a next Q => store_newNd R.1 w3c op a next Q
            obtain ⟨g21, hg⟩ : ∃ g, g = w3c.heap.size := ⟨_, rfl⟩
            obtain ⟨w3d, hv⟩ : ∃ v, v = w3c.alloc (.cells (encN R.1).toArray 37) := ⟨_, rfl⟩
            rw [← hv, ← hg] at H4
            clear hstep hs HC hl0
            unfold ndB errV
            go_upto_region 17 with fail
            rw [← hv, ← hg]
            clear hst hv hg
            obtain ⟨s5, e5, hl5, hr5⟩ := rd_getN HR4.out HD4.out hA32
            have ed2 : dUpd (dUpd D B (some n)) B none A = D A := by unfold dUpd; rw [if_neg HAB.out, if_neg HAB.out]
            rw [ed2, ← HR.out] at e5
            have HE5 := Lib.hid e5
            have HR5 := Lib.hid hr5
            have HD5 : Hid (DI s5.L y (dUpd (dUpd D B (some n)) B none)) := Lib.hid (by rw [hl5]; exact HD4.out)
            clear e5 hl5 hr5
            have HC := Lib.hid (dget_any (C := memC mb) H4.out.at_.1 y HYW.out (A : Int) (by rw [HE5.out]; exact HR5.out.ok (by omega)))
            rw [HE5.out] at HC
            have hl0 := fun op a next Q => loadW_blk (P := Tryd.prog) (H4.out.kb (g19, y) (by simp)) Tryd.underlying37 rfl iszNd op a next Q
            go_wp2_with fail
            refine HC.out.mono ?_
            rintro e w4c ⟨hrd, _, hstep⟩
            unfold RdR at hrd
            subst hrd
            obtain ⟨F4c, hs⟩ := H4.out.step hstep
            have H5 := Lib.hid (hs.new R.1)
            have hst := fun op a next Q => store_newNd R.1 w4c op a next Q
            obtain ⟨g24, hg⟩ : ∃ g, g = w4c.heap.size := ⟨_, rfl⟩
            obtain ⟨w4d, hv⟩ : ∃ v, v = w4c.alloc (.cells (encN R.1).toArray 37) := ⟨_, rfl⟩
            rw [← hv, ← hg] at H5
            clear hstep hs HC hl0
            unfold ndB errV
            go_upto_region 18 with fail
            rw [← hv, ← hg]
            clear hst hv hg
            obtain ⟨s6, e6, hl6, hr6⟩ := rd_getN HR5.out HD5.out hB32
            have ed3 : dRes (dUpd (dUpd D B (some n)) B none B) = (nD, false) := by unfold dUpd; rw [if_pos rfl]; rfl
            rw [ed3] at e6
            have HE6 := Lib.hid e6
            have HR6 := Lib.hid hr6
            clear e6 hl6 hr6 ed1 ed2 ed3
            have HC := Lib.hid (dget_any (C := memC mb) H5.out.at_.1 y HYW.out (B : Int) (by rw [HE6.out]; exact HR6.out.ok (by omega)))
            rw [HE6.out] at HC
            have hl0 := fun op a next Q => loadW_blk (P := Tryd.prog) (H5.out.kb (g19, y) (by simp)) Tryd.underlying37 rfl iszNd op a next Q
            go_wp2_with fail
            refine HC.out.mono ?_
            rintro e w5c ⟨hrd, _, hstep⟩
            unfold RdR at hrd
            subst hrd
            obtain ⟨F5c, hs⟩ := H5.out.step hstep
            have H6 := Lib.hid (hs.new nD)
            have hst := fun op a next Q => store_newNd nD w5c op a next Q
            obtain ⟨g27, hg⟩ : ∃ g, g = w5c.heap.size := ⟨_, rfl⟩
            obtain ⟨w5d, hv⟩ : ∃ v, v = w5c.alloc (.cells (encN nD).toArray 37) := ⟨_, rfl⟩
            rw [← hv, ← hg] at H6
            clear hstep hs HC hl0
            unfold ndB errV
            go_upto_region 19 with fail
            rw [← hv, ← hg]
            clear hst hv hg
            have hl1 := fun op a next Q => loadW_blk (P := Tryd.prog) (H6.out.kb (g21, R.1) (by simp)) Tryd.underlying37 rfl iszNd op a next Q
            have hl2 := fun op a next Q => loadW_blk (P := Tryd.prog) (H6.out.kb (g14, R.1) (by simp)) Tryd.underlying37 rfl iszNd op a next Q
            have hl3 := fun op a next Q => loadW_blk (P := Tryd.prog) (H6.out.kb (g24, R.1) (by simp)) Tryd.underlying37 rfl iszNd op a next Q
            have hq := fun o x y a W next Q => bnW_eqlNd HRW.out HRW.out o x y a W next Q
            have HFIN := Lib.hid (H6.out.old HOLD.out (by have := HMB.out; omega))
            go_wp2_with fail
            go_ret
            exact ⟨by simp, HFIN.out⟩
theorem others_int (a : Option Addr) (len cap : Nat) (zs : List ActD) (x y : Int) (n : NodeT) (w : World) (h : DSl w a len cap zs) (hx : 0 ≤ x ∧ x ≤ 255) (hy : 0 ≤ y ∧ y ≤ 255) (hn : n.wf) :
    Calls Tryd.prog 9 #[.slice a len cap, .int .u8 x, .int .u8 y, .agg (encN n).toArray] w fun e w' => e = .returned (.bool true) ∧ Below w.heap.size w w' := by
  obtain ⟨x, rfl⟩ : ∃ m : Nat, x = m := ⟨x.toNat, by omega⟩
  obtain ⟨y, rfl⟩ : ∃ m : Nat, y = m := ⟨y.toNat, by omega⟩
  exact others_any a len cap zs x y n w h (by omega) (by omega) hn
end Go.Proofs.YtbhofablndjeoaaDoor
