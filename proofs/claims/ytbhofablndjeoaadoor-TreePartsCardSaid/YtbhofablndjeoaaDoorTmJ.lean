/- The law TreeParts. -/
import Derived.Test.YtbhofablndjeoaaDoorTmI
import Derived.Deep.DeepCutAuto
namespace Go.Proofs.YtbhofablndjeoaaDoor
open Go.RowKit
set_option linter.unusedSimpArgs false
set_option linter.unusedVariables false
attribute [local go_sem ↓] wp_loadPt wp_storePt wp_loadNd wp_storeNd wp_loadAc
set_option maxHeartbeats 4000000 in
set_option maxRecDepth 100000 in
theorem parts_any (a : Option Addr) (len cap : Nat) (zs : List ActA) (off nn cut : Nat) (fill : UInt8) (w : World) (h : ZSl w a len cap zs) (ho : off ≤ 65535) (hn : nn ≤ 65535) (hc : cut ≤ 65535) :
    Calls Tryd.prog 5 #[.slice a len cap, .int .u16 off, .int .u16 nn, .int .u16 cut, .int .u8 fill.toNat] w fun e w' => e = .returned (.bool true) ∧ Below w.heap.size w w' := by
  have HAW := Lib.hid awake14_any
  have hmx := h.mx
  by_cases hlen : 40 < len
  · have q1 : (40 : Int) < (len : Int) := by omega
    go_enter Tryd.func5, Tryd.ntmps5
    go_wp2_with fail
    refine (HAW.out _).mono ?_
    rintro e w1 ⟨rfl, hb1⟩
    have HB1 := Lib.hid hb1
    clear hb1
    go_wp2_with fail
    refine (HAW.out _).mono ?_
    rintro e w2 ⟨rfl, hb2⟩
    have hfin := HB1.out.trans (hb2.mono HB1.out.size)
    go_wp2_with fail
    go_ret
    exact ⟨rfl, hfin⟩
  · have q1 : ¬ (40 : Int) < (len : Int) := by omega
    have q1' : (len : Int) ≤ 40 := by omega
    go_enter Tryd.func5, Tryd.ntmps5
    go_wp2_with fail
    refine (HAW.out _).mono ?_
    rintro e w1 ⟨rfl, hb1⟩
    have HB1 := Lib.hid hb1
    clear hb1
    go_upto_region 5 with fail
    have hst := fun op a next Q => store_newZNd (w1.alloc (.cells mem0.toArray 27)) op a next Q
    obtain ⟨mb, hmb⟩ : ∃ mb, mb = w1.heap.size := ⟨_, rfl⟩
    obtain ⟨gN, hgN⟩ : ∃ gN, gN = w1.heap.size + 1 := ⟨_, rfl⟩
    obtain ⟨wm, hwm⟩ : ∃ wm, wm = w1.alloc (.cells mem0.toArray 27) := ⟨_, rfl⟩
    obtain ⟨wB, hwB⟩ : ∃ wB, wB = wm.alloc (.cells (encN nD).toArray 37) := ⟨_, rfl⟩
    have hsm : wm.heap.size = w1.heap.size + 1 := by rw [hwm]; simp
    have hLP : LpI mb gN wm wB 0 nD s0 (fun x => x = mb) := by
      have hm0 : memIs mb wm s0 (fun k => k = mb) := by rw [hwm]; exact mem_new hmb.symm
      refine ⟨(StoreC.At.start (C := memC mb) hm0).below (by rw [hwB]; exact (Below.refl _ _).alloc (Nat.le_refl _) _), ?_, by omega, Rn.start, NW.start _, Uq.start _⟩
      rw [hwB]; exact Blk.newAt _ _ (by omega)
    have hold : Below w.heap.size w wm := by
      rw [hwm]; exact HB1.out.alloc HB1.out.size _
    have HLP := Lib.hid hLP
    have HOLD := Lib.hid hold
    have HMB : Hid (w.heap.size ≤ mb) := Lib.hid (by rw [hmb]; exact HB1.out.size)
    have HGN : Hid (wm.heap.size ≤ gN) := Lib.hid (by omega)
    have HZ := Lib.hid (fun (hn : 0 < len) => h.cells hn)
    rw [show w1.alloc (.cells #[.slice none 0 0, .int .i64 0, .int .i64 0] 27) = wm from hwm.symm] at *
    rw [← hwm] at hst
    rw [← hwB, hsm] at hst
    rw [hst, ← hgN, ← hmb]
    clear hmb hgN hwm hLP hold hwB hsm hst
    go_wp2_with fail
    go_loopw [13] (fun vi wr => ∃ (i : Nat) (n : NodeT) (st : MemT) (F : Nat → Prop), vi = .int .i64 i ∧ i ≤ len ∧ Hid (LpI mb gN wm wr i n st F)) (fun vi _ => len - (intOf vi).toNat)
    case atStart => exact ⟨0, nD, s0, _, rfl, Nat.zero_le _, HLP⟩
    case round =>
      obtain ⟨i, n, st, F, rfl, hil, HLI⟩ := hrel
      by_cases hlt : i < len
      · have q2 : (i : Int) < (len : Int) := by omega
        have q3 : 0 ≤ (i : Int) := by omega
        have hi40 : i ≤ 40 := by omega
        obtain ⟨b, off0, rfl, HZ2⟩ : ∃ b off, a = some ⟨b, off, none⟩ ∧ Hid (∀ W, Below w.heap.size w W → ∀ k, k < len → (zs.getD k aT).ok ∧ W.rangeAt b (off + k * 4) (encAc (zs.getD k aT))) := by
          obtain ⟨b, off, e, _, h2⟩ := HZ.out (by omega)
          exact ⟨b, off, e, Lib.hid h2⟩
        have HXO := Lib.hid (HZ2.out wm HOLD.out i (by omega)).1
        obtain ⟨rv, s2, hd, hrn, hext, hnw, huq, htw⟩ := rn_done HLI.out.rn (by omega) HLI.out.nw HLI.out.uq (zs.getD i aT)
        have HD := Lib.hid hd
        have HRN := Lib.hid hrn
        have HNW := Lib.hid hnw
        have HUQ := Lib.hid huq
        have HTW := Lib.hid (htw.imp And.left id)
        have HRK : Hid (memOk s2) := Lib.hid (hrn.ok (by omega))
        clear hd hrn hext hnw huq htw
        go_upto_region 8 with fail
        go_cut [14, 15] (fun vx ve wx => ∃ g F3, vx = .pointer (some ⟨g, 0, none⟩) ∧ ve = .int .i64 (errV rv : Nat) ∧ Hid (LpX mb gN wm wx (i + 1) n g rv s2 F3))
        case first =>
          have hold0 : Below w.heap.size w wr.drew := HOLD.out.trans (((HLI.out.at_.below (Below.refl _ _).drew).2.1).toBelow (B := w.heap.size) (fun k hk => by have := HMB.out; omega) HOLD.out.size)
          refine wp_region_held_drew (S := fun w' => Blk w' gN 37 (encN n) ∧ w'.rangeAt b (off0 + i * 4) (encAc (zs.getD i aT))) (by kernel_rfl) ⟨HLI.out.bn.drew, (HZ2.out _ hold0 i (by omega)).2⟩ (fun hS0 => ?_)
          refine wpAnyH_take (i := 0) (oi := ?oic0) (v := ?vc0) ?hic0 ?hsc0 ?hfc0 ?hrc0 ?hQc0 ?hyc0 ?hSc0 ?hc0
          case hic0 => (simp only [List.getElem?_toArray, List.getElem?_cons_succ, List.getElem?_cons_zero]; rfl)
          case hsc0 => kernel_rfl
          case hfc0 => kernel_rfl
          case hrc0 => kernel_rfl
          case hSc0 => first | assumption | trivial
          case hyc0 => refine Or.inl ⟨by kernel_rfl, ?_⟩; (intro w hSw; (try dsimp only at hSw); go_simp; try with_reducible rfl)
          case hQc0 => exact fun _ _ _ h => h
          try simp only [Act.put, List.setIfInBounds_toArray, List.set_cons_zero, List.set_cons_succ]
          refine wpAnyH_take (i := 1) (oi := ?oic1) (v := ?vc1) ?hic1 ?hsc1 ?hfc1 ?hrc1 ?hQc1 ?hyc1 ?hSc1 ?hc1
          case hic1 => (simp only [List.getElem?_toArray, List.getElem?_cons_succ, List.getElem?_cons_zero]; rfl)
          case hsc1 => kernel_rfl
          case hfc1 => kernel_rfl
          case hrc1 => kernel_rfl
          case hSc1 => first | assumption | trivial
          case hyc1 => refine yieldsIf_load_mid (by kernel_rfl) 37 (.tmp 12) ?_ gN (0) ?_ (encN n) _ (fun w' hw => range_and1 hw) Tryd.underlying37 rfl iszNd <;> rfl
          case hQc1 => exact fun _ _ _ h => h
          try simp only [Act.put, List.setIfInBounds_toArray, List.set_cons_zero, List.set_cons_succ]
          refine wpAnyH_take (i := 2) (oi := ?oic2) (v := ?vc2) ?hic2 ?hsc2 ?hfc2 ?hrc2 ?hQc2 ?hyc2 ?hSc2 ?hc2
          case hic2 => (simp only [List.getElem?_toArray, List.getElem?_cons_succ, List.getElem?_cons_zero]; rfl)
          case hsc2 => kernel_rfl
          case hfc2 => kernel_rfl
          case hrc2 => kernel_rfl
          case hSc2 => first | assumption | trivial
          case hyc2 => refine Or.inl ⟨by kernel_rfl, ?_⟩; (intro w hSw; (try dsimp only at hSw); go_simp; try with_reducible rfl)
          case hQc2 => exact fun _ _ _ h => h
          try simp only [Act.put, List.setIfInBounds_toArray, List.set_cons_zero, List.set_cons_succ]
          refine wpAnyH_take (i := 3) (oi := ?oic3) (v := ?vc3) ?hic3 ?hsc3 ?hfc3 ?hrc3 ?hQc3 ?hyc3 ?hSc3 ?hc3
          case hic3 => (simp only [List.getElem?_toArray, List.getElem?_cons_succ, List.getElem?_cons_zero]; rfl)
          case hsc3 => kernel_rfl
          case hfc3 => kernel_rfl
          case hrc3 => kernel_rfl
          case hSc3 => first | assumption | trivial
          case hyc3 => refine Or.inl ⟨by kernel_rfl, ?_⟩; (intro w hSw; (try dsimp only at hSw); go_simp; try with_reducible rfl)
          case hQc3 => exact fun _ _ _ h => h
          try simp only [Act.put, List.setIfInBounds_toArray, List.set_cons_zero, List.set_cons_succ]
          refine wpAnyH_take (i := 4) (oi := ?oic4) (v := ?vc4) ?hic4 ?hsc4 ?hfc4 ?hrc4 ?hQc4 ?hyc4 ?hSc4 ?hc4
          case hic4 => (simp only [List.getElem?_toArray, List.getElem?_cons_succ, List.getElem?_cons_zero]; rfl)
          case hsc4 => kernel_rfl
          case hfc4 => kernel_rfl
          case hrc4 => kernel_rfl
          case hSc4 => first | assumption | trivial
          case hyc4 => refine Or.inl ⟨by kernel_rfl, ?_⟩; (intro w hSw; (try dsimp only at hSw); go_simp; try with_reducible rfl)
          case hQc4 => exact fun _ _ _ h => h
          try simp only [Act.put, List.setIfInBounds_toArray, List.set_cons_zero, List.set_cons_succ]
          refine wpAnyH_take (i := 5) (oi := ?oic5) (v := ?vc5) ?hic5 ?hsc5 ?hfc5 ?hrc5 ?hQc5 ?hyc5 ?hSc5 ?hc5
          case hic5 => (simp only [List.getElem?_toArray, List.getElem?_cons_succ, List.getElem?_cons_zero]; rfl)
          case hsc5 => kernel_rfl
          case hfc5 => kernel_rfl
          case hrc5 => kernel_rfl
          case hSc5 => first | assumption | trivial
          case hyc5 => refine yieldsIf_load_mid (by kernel_rfl) 42 (.tmp 49) ?_ b ((off0 + i * 4)) ?_ (encAc (zs.getD i aT)) _ (fun w' hw => range_and2 hw) Tryd.underlying42 rfl iszAc <;> rfl
          case hQc5 => exact fun _ _ _ h => h
          try simp only [Act.put, List.setIfInBounds_toArray, List.set_cons_zero, List.set_cons_succ]
          refine wpAnyH_ready (rs := [6, 10]) (by kernel_rfl) (by simp) ?_
          refine AllReadyH.cons (by simp only [List.getElem?_toArray, List.getElem?_cons_succ, List.getElem?_cons_zero]; rfl) (fun K hK => ?_) (AllReadyH.cons (by simp only [List.getElem?_toArray, List.getElem?_cons_succ, List.getElem?_cons_zero]; rfl) (fun K hK => ?_) AllReadyH.nil)
          · go_simp
            have HLW := Lib.hid (HLI.out.below (wr' := wr.drew) (Below.refl _ _).drew)
            refine (done_any HLW.out.at_.1 n (HLW.out.nwf (by omega)) (zs.getD i aT) HXO.out (by rw [HD.out]; exact HRK.out)).mono ?_
            rintro e w6 ⟨hpr, hstep6⟩
            rw [HD.out] at hpr hstep6
            have hpe := NdR.val hpr
            subst hpe
            obtain ⟨F3, hat6, hfr6, hm6⟩ := HLW.out.at_.step hstep6
            have hbn6 := hm6.blk HLW.out.bn HLW.out.fN
            have hfN6 := hfr6 _ HLW.out.bn.lt HLW.out.fN
            have hold6 := HOLD.out.trans (hat6.2.1.toBelow (B := w.heap.size) (fun k hk => by have := HMB.out; omega) HOLD.out.size)
            have hra6 := (HZ2.out w6 hold6 i (by omega)).2
            clear hfr6 hstep6 hm6
            try dsimp only
            refine hK.out _ _ (⟨hbn6, hra6⟩) (fun hScp6 => ?_)
            try simp only [Act.put, List.setIfInBounds_toArray, List.set_cons_zero, List.set_cons_succ]
            refine wpAnyH_take (i := 7) (oi := ?oicp7) (v := ?vcp7) ?hicp7 ?hscp7 ?hfcp7 ?hrcp7 ?hQcp7 ?hycp7 ?hScp7 ?hcp7
            case hicp7 => (simp only [List.getElem?_toArray, List.getElem?_cons_succ, List.getElem?_cons_zero]; rfl)
            case hscp7 => kernel_rfl
            case hfcp7 => kernel_rfl
            case hrcp7 => kernel_rfl
            case hScp7 => first | assumption | trivial
            case hycp7 => refine Or.inl ⟨by kernel_rfl, ?_⟩; (intro w hSw; (try dsimp only at hSw); go_simp; try with_reducible rfl)
            case hQcp7 => exact fun _ _ _ h => h
            try simp only [Act.put, List.setIfInBounds_toArray, List.set_cons_zero, List.set_cons_succ]
            refine wpAnyH_take (i := 8) (oi := ?oicp8) (v := ?vcp8) ?hicp8 ?hscp8 ?hfcp8 ?hrcp8 ?hQcp8 ?hycp8 ?hScp8 ?hcp8
            case hicp8 => (simp only [List.getElem?_toArray, List.getElem?_cons_succ, List.getElem?_cons_zero]; rfl)
            case hscp8 => kernel_rfl
            case hfcp8 => kernel_rfl
            case hrcp8 => kernel_rfl
            case hScp8 => first | assumption | trivial
            case hycp8 => refine Or.inl ⟨by kernel_rfl, ?_⟩; (intro w hSw; (try dsimp only at hSw); go_simp; try with_reducible rfl)
            case hQcp8 => exact fun _ _ _ h => h
            try simp only [Act.put, List.setIfInBounds_toArray, List.set_cons_zero, List.set_cons_succ]
            refine wpAnyH_take (i := 9) (oi := ?oicp9) (v := ?vcp9) ?hicp9 ?hscp9 ?hfcp9 ?hrcp9 ?hQcp9 ?hycp9 ?hScp9 ?hcp9
            case hicp9 => (simp only [List.getElem?_toArray, List.getElem?_cons_succ, List.getElem?_cons_zero]; rfl)
            case hscp9 => kernel_rfl
            case hfcp9 => kernel_rfl
            case hrcp9 => kernel_rfl
            case hScp9 => first | assumption | trivial
            case hycp9 => refine Or.inl ⟨by kernel_rfl, ?_⟩; (intro w hSw; (try dsimp only at hSw); go_simp; try with_reducible rfl)
            case hQcp9 => exact fun _ _ _ h => h
            try simp only [Act.put, List.setIfInBounds_toArray, List.set_cons_zero, List.set_cons_succ]
            refine wpAnyH_ready (rs := [10]) (by kernel_rfl) (by simp) ?_
            refine AllReadyH.cons (by simp only [List.getElem?_toArray, List.getElem?_cons_succ, List.getElem?_cons_zero]; rfl) (fun K hK => ?_) AllReadyH.nil
            go_simp
            skip
            refine hK.out _ _ (⟨hbn6.alloc _, (HZ2.out _ (hold6.alloc hold6.size _) i (by omega)).2⟩) (fun hScp10 => ?_)
            try simp only [Act.put, List.setIfInBounds_toArray, List.set_cons_zero, List.set_cons_succ]
            refine wpAnyH_ready (rs := [11]) (by kernel_rfl) (by simp) ?_
            refine AllReadyH.cons (by simp only [List.getElem?_toArray, List.getElem?_cons_succ, List.getElem?_cons_zero]; rfl) (fun K hK => ?_) AllReadyH.nil
            rw [if_pos (by kernel_rfl)]
            refine wp_store_mid 37 (.tmp 14) (.tmp 52) rfl w6.heap.size (0) (encN (ndV rv)).toArray rfl rfl (blk_there (Blk.new w6 37 (encN nD)) (Nat.le_refl 13)) iszNd (all_oneCell_toArray (encN_ones _)) ?_
            refine hK.out _ _ (⟨(hbn6.alloc _).away 0 _ (by have := hbn6.lt; omega), (HZ2.out _ (HOLD.out.trans (((hat6.below ((Below.refl _ _).alloc (Nat.le_refl _) (.cells (encN nD).toArray 37))).put (o := 0) (vs := encN (ndV rv)) hat6.size (hat6.fresh (Nat.le_refl _))).2.1.toBelow (B := w.heap.size) (fun k hk => by have := HMB.out; omega) HOLD.out.size)) i (by omega)).2⟩) (fun hScp11 => ?_)
            try simp only [Act.put, List.setIfInBounds_toArray, List.set_cons_zero, List.set_cons_succ]
            refine wpAnyH_take (i := 12) (oi := ?oicp12) (v := ?vcp12) ?hicp12 ?hscp12 ?hfcp12 ?hrcp12 ?hQcp12 ?hycp12 ?hScp12 ?hcp12
            case hicp12 => (simp only [List.getElem?_toArray, List.getElem?_cons_succ, List.getElem?_cons_zero]; rfl)
            case hscp12 => kernel_rfl
            case hfcp12 => kernel_rfl
            case hrcp12 => kernel_rfl
            case hScp12 => first | assumption | trivial
            case hycp12 => refine Or.inl ⟨by kernel_rfl, ?_⟩; (intro w hSw; (try dsimp only at hSw); go_simp; try with_reducible rfl)
            case hQcp12 => exact fun _ _ _ h => h
            try simp only [Act.put, List.setIfInBounds_toArray, List.set_cons_zero, List.set_cons_succ]
            have HT : Hid (LpX mb gN wm ((w6.alloc (.cells (encN nD).toArray 37)).setCells w6.heap.size 0 (encN (ndV rv))) (i + 1) n w6.heap.size rv s2 F3) := Lib.hid ⟨(hat6.below ((Below.refl _ _).alloc (Nat.le_refl _) _)).put hat6.size (hat6.fresh (Nat.le_refl _)), (hbn6.alloc _).away 0 _ (by have := hbn6.lt; omega), (Blk.new w6 37 (encN nD)).put rfl, hfN6, hat6.fresh (Nat.le_refl _), by have := hbn6.lt; omega, HRN.out, HNW.out, HUQ.out, HTW.out⟩
            refine wpAnyH_done (by kernel_rfl) ?_ _
            go_wp2_with fail
            go_meet
            exact ⟨_, F3, rfl, rfl, HT⟩
          · go_simp
            skip
            refine hK.out _ _ (⟨HLI.out.bn.drew.alloc _, (HZ2.out _ (HOLD.out.trans ((HLI.out.at_.below ((Below.refl _ _).drew.alloc (Nat.le_refl _) (.cells (encN nD).toArray 37))).2.1.toBelow (B := w.heap.size) (fun k hk => by have := HMB.out; omega) HOLD.out.size)) i (by omega)).2⟩) (fun hScq10 => ?_)
            try simp only [Act.put, List.setIfInBounds_toArray, List.set_cons_zero, List.set_cons_succ]
            refine wpAnyH_ready (rs := [6]) (by kernel_rfl) (by simp) ?_
            refine AllReadyH.cons (by simp only [List.getElem?_toArray, List.getElem?_cons_succ, List.getElem?_cons_zero]; rfl) (fun K hK => ?_) AllReadyH.nil
            go_simp
            have HLW := Lib.hid (HLI.out.below (wr' := (wr.drew.alloc (.cells (encN nD).toArray 37))) ((Below.refl _ _).drew.alloc (Nat.le_refl _) _))
            refine (done_any HLW.out.at_.1 n (HLW.out.nwf (by omega)) (zs.getD i aT) HXO.out (by rw [HD.out]; exact HRK.out)).mono ?_
            rintro e w6 ⟨hpr, hstep6⟩
            rw [HD.out] at hpr hstep6
            have hpe := NdR.val hpr
            subst hpe
            obtain ⟨F3, hat6, hfr6, hm6⟩ := HLW.out.at_.step hstep6
            have hbn6 := hm6.blk HLW.out.bn HLW.out.fN
            have hfN6 := hfr6 _ HLW.out.bn.lt HLW.out.fN
            have hold6 := HOLD.out.trans (hat6.2.1.toBelow (B := w.heap.size) (fun k hk => by have := HMB.out; omega) HOLD.out.size)
            have hra6 := (HZ2.out w6 hold6 i (by omega)).2
            have hbx6 : Blk w6 wr.heap.size 37 (encN nD) := hm6.blk (Blk.new wr.drew _ _) (HLI.out.at_.fresh (Nat.le_refl _))
            have hfX6 : ¬ F3 wr.heap.size := hfr6 _ (Blk.new wr.drew 37 (encN nD)).lt (HLI.out.at_.fresh (Nat.le_refl _))
            clear hfr6 hstep6 hm6
            try dsimp only
            refine hK.out _ _ (⟨hbn6, hra6⟩) (fun hScq6 => ?_)
            try simp only [Act.put, List.setIfInBounds_toArray, List.set_cons_zero, List.set_cons_succ]
            refine wpAnyH_take (i := 7) (oi := ?oicq7) (v := ?vcq7) ?hicq7 ?hscq7 ?hfcq7 ?hrcq7 ?hQcq7 ?hycq7 ?hScq7 ?hcq7
            case hicq7 => (simp only [List.getElem?_toArray, List.getElem?_cons_succ, List.getElem?_cons_zero]; rfl)
            case hscq7 => kernel_rfl
            case hfcq7 => kernel_rfl
            case hrcq7 => kernel_rfl
            case hScq7 => first | assumption | trivial
            case hycq7 => refine Or.inl ⟨by kernel_rfl, ?_⟩; (intro w hSw; (try dsimp only at hSw); go_simp; try with_reducible rfl)
            case hQcq7 => exact fun _ _ _ h => h
            try simp only [Act.put, List.setIfInBounds_toArray, List.set_cons_zero, List.set_cons_succ]
            refine wpAnyH_take (i := 8) (oi := ?oicq8) (v := ?vcq8) ?hicq8 ?hscq8 ?hfcq8 ?hrcq8 ?hQcq8 ?hycq8 ?hScq8 ?hcq8
            case hicq8 => (simp only [List.getElem?_toArray, List.getElem?_cons_succ, List.getElem?_cons_zero]; rfl)
            case hscq8 => kernel_rfl
            case hfcq8 => kernel_rfl
            case hrcq8 => kernel_rfl
            case hScq8 => first | assumption | trivial
            case hycq8 => refine Or.inl ⟨by kernel_rfl, ?_⟩; (intro w hSw; (try dsimp only at hSw); go_simp; try with_reducible rfl)
            case hQcq8 => exact fun _ _ _ h => h
            try simp only [Act.put, List.setIfInBounds_toArray, List.set_cons_zero, List.set_cons_succ]
            refine wpAnyH_take (i := 9) (oi := ?oicq9) (v := ?vcq9) ?hicq9 ?hscq9 ?hfcq9 ?hrcq9 ?hQcq9 ?hycq9 ?hScq9 ?hcq9
            case hicq9 => (simp only [List.getElem?_toArray, List.getElem?_cons_succ, List.getElem?_cons_zero]; rfl)
            case hscq9 => kernel_rfl
            case hfcq9 => kernel_rfl
            case hrcq9 => kernel_rfl
            case hScq9 => first | assumption | trivial
            case hycq9 => refine Or.inl ⟨by kernel_rfl, ?_⟩; (intro w hSw; (try dsimp only at hSw); go_simp; try with_reducible rfl)
            case hQcq9 => exact fun _ _ _ h => h
            try simp only [Act.put, List.setIfInBounds_toArray, List.set_cons_zero, List.set_cons_succ]
            refine wpAnyH_ready (rs := [11]) (by kernel_rfl) (by simp) ?_
            refine AllReadyH.cons (by simp only [List.getElem?_toArray, List.getElem?_cons_succ, List.getElem?_cons_zero]; rfl) (fun K hK => ?_) AllReadyH.nil
            rw [if_pos (by kernel_rfl)]
            refine wp_store_mid 37 (.tmp 14) (.tmp 52) rfl wr.heap.size (0) (encN (ndV rv)).toArray rfl rfl (blk_there hbx6 (Nat.le_refl 13)) iszNd (all_oneCell_toArray (encN_ones _)) ?_
            refine hK.out _ _ (⟨hbn6.away 0 _ (by have := HLI.out.bn.lt; omega), (HZ2.out _ (HOLD.out.trans ((hat6.put (o := 0) (vs := encN (ndV rv)) (HLI.out.at_.size) hfX6).2.1.toBelow (B := w.heap.size) (fun k hk => by have := HMB.out; omega) HOLD.out.size)) i (by omega)).2⟩) (fun hScq11 => ?_)
            try simp only [Act.put, List.setIfInBounds_toArray, List.set_cons_zero, List.set_cons_succ]
            refine wpAnyH_take (i := 12) (oi := ?oicq12) (v := ?vcq12) ?hicq12 ?hscq12 ?hfcq12 ?hrcq12 ?hQcq12 ?hycq12 ?hScq12 ?hcq12
            case hicq12 => (simp only [List.getElem?_toArray, List.getElem?_cons_succ, List.getElem?_cons_zero]; rfl)
            case hscq12 => kernel_rfl
            case hfcq12 => kernel_rfl
            case hrcq12 => kernel_rfl
            case hScq12 => first | assumption | trivial
            case hycq12 => refine Or.inl ⟨by kernel_rfl, ?_⟩; (intro w hSw; (try dsimp only at hSw); go_simp; try with_reducible rfl)
            case hQcq12 => exact fun _ _ _ h => h
            try simp only [Act.put, List.setIfInBounds_toArray, List.set_cons_zero, List.set_cons_succ]
            have HT : Hid (LpX mb gN wm (w6.setCells wr.heap.size 0 (encN (ndV rv))) (i + 1) n wr.heap.size rv s2 F3) := Lib.hid ⟨hat6.put HLI.out.at_.size hfX6, hbn6.away 0 _ (by have := HLI.out.bn.lt; omega), hbx6.put rfl, hfN6, hfX6, by have := HLI.out.bn.lt; omega, HRN.out, HNW.out, HUQ.out, HTW.out⟩
            refine wpAnyH_done (by kernel_rfl) ?_ _
            go_wp2_with fail
            go_meet
            exact ⟨_, F3, rfl, rfl, HT⟩
        obtain ⟨g, F3, rfl, rfl, HT⟩ := hcut
        rcases HT.out.two with rfl | ⟨q, rfl⟩
        · unfold errV
          go_wp2_with fail
          go_roundw
          case rel => exact ⟨i + 1, n, s2, F3, by go_num, by omega, Lib.hid ⟨HT.out.at_, HT.out.bn, HT.out.fN, HT.out.rn, HT.out.nw, HT.out.uq⟩⟩
          case measure => simp [intOf]; omega
        · unfold errV
          have hl := fun op a next Q => loadW_blk (P := Tryd.prog) HT.out.bx Tryd.underlying37 rfl iszNd op a next Q
          have hst := fun op a next Q => storeW_part (P := Tryd.prog) (t := 37) (o := 0) (cs := encN q) HT.out.bn (Nat.le_refl 13) iszNd (encN_ones _) op a next Q
          have HL2 : Hid (LpI mb gN wm (wc.setCells gN 0 (encN q)) (i + 1) q s2 F3) := Lib.hid ⟨HT.out.at_.put HGN.out HT.out.fN, HT.out.bn.put rfl, HT.out.fN, HT.out.rn, HT.out.nw, HT.out.uq⟩
          unfold ndV at hl
          go_wp2_with fail
          go_roundw
          case rel => exact ⟨i + 1, q, s2, F3, by go_num, by omega, HL2⟩
          case measure => simp [intOf]; omega
      · have q2 : ¬ (i : Int) < (len : Int) := by omega
        have hik : i ≤ 40 := by omega
        have HS := Lib.hid (HLI.out.toS HGN.out)
        have HRN := Lib.hid HLI.out.rn
        have HNW := Lib.hid HLI.out.nw
        obtain ⟨m1, hm1⟩ : ∃ m1 : Nat, m1 = nn % 1500 := ⟨_, rfl⟩
        obtain ⟨o, ho'⟩ : ∃ o : Nat, o = off % 6000 := ⟨_, rfl⟩
        obtain ⟨s, hs⟩ : ∃ s : Bs, s = List.replicate m1 fill := ⟨_, rfl⟩
        obtain ⟨c, hc'⟩ : ∃ c : Nat, c = cut % (m1 + 1) := ⟨_, rfl⟩
        have hsl : s.length = m1 := by rw [hs]; simp
        have em : (nn : Int) % 1500 = (m1 : Int) := by omega
        have eo : (off : Int) % 6000 = (o : Int) := by omega
        have ec : (cut : Int) % ((s.length : Int) + 1) = (c : Int) := by rw [hsl, hc']; simp
        have HF : Hid (∀ W, Calls Tryd.prog 14 #[.int .u8 fill.toNat, .int .i64 m1] W fun e w' => e = .returned (.string ⟨s.toArray⟩) ∧ Below W.heap.size W w') := Lib.hid (fun W => by rw [hs]; exact Fill_any fill m1 W (by omega))
        have hcl : c ≤ s.length := by rw [hsl, hc']; exact Nat.le_of_lt_succ (Nat.mod_lt _ (by omega))
        have ho6 : o ≤ 6000 := by omega
        have hs15 : s.length ≤ 1500 := by omega
        have HEO := Lib.hid eo
        have HEC := Lib.hid ec
        have HSL := Lib.hid hsl
        clear eo ec hsl hs hm1 ho' hc'
        go_wp2_with fail
        refine (HF.out wr).mono ?_
        rintro e w3 ⟨rfl, hb3⟩
        have HS3 := Lib.hid (HS.out.below hb3)
        clear hb3 em
        go_upto_region 14 with fail
        rw [HEO.out, HEC.out]
        obtain ⟨qa, s1, ea, ra, wa, ua⟩ := rn_write HRN.out (by omega) HNW.out o s (by omega) hs15
        have hok1 : memOk s1 := ra.ok (by omega)
        have hnwf := HNW.out.wf' (by have := HRN.out.l; omega)
        have HWA := Lib.hid (Write_any (C := memC mb) HS3.out.at_.1 n hnwf o (by unfold I64'; omega) s (by omega) (by rw [ea]; exact hok1))
        rw [ea] at HWA
        have hld := fun op a next Q => loadW_blk (P := Tryd.prog) HS3.out.blk0 Tryd.underlying37 rfl iszNd op a next Q
        have HNF := Lib.hid hnwf
        have HWA1 := Lib.hid wa
        have HRA := Lib.hid ra
        clear ea ra wa ua hok1 hnwf
        go_wp2_with fail
        refine HWA.out.mono ?_
        rintro e w4 ⟨⟨rfl, hqw⟩, hstep⟩
        obtain ⟨F4, hs4⟩ := HS3.out.step hstep
        have HS4 := Lib.hid (hs4.new qa)
        have HAW4 := Lib.hid hqw
        have hst := fun op a next Q => store_newNd qa w4 op a next Q
        obtain ⟨gA, hgA⟩ : ∃ gA, gA = w4.heap.size := ⟨_, rfl⟩
        obtain ⟨w5, hw5⟩ : ∃ w5, w5 = w4.alloc (.cells (encN qa).toArray 37) := ⟨_, rfl⟩
        rw [← hw5, ← hgA] at HS4
        rw [← hw5] at hst
        clear hld hstep hs4 hqw
        go_upto_region 15 with fail
        rw [← hw5, ← hgA]
        clear hst hw5 hgA
        obtain ⟨qb, s2, eb, rb, wb, ub⟩ := rn_write HRA.out (by omega) (by obtain ⟨X, hX⟩ := HWA1.out.ext; rw [hX]; exact (HNW.out.mono X).1) o (s.take c) (by omega) (by simp; omega)
        have hok2 : memOk s2 := rb.ok (by omega)
        have HEB := Lib.hid eb
        have HRB := Lib.hid rb
        have HWB1 := Lib.hid wb
        have HOK2 := Lib.hid hok2
        have HTK : Hid ((s.take c).length ≤ 1000000) := Lib.hid (by simp; omega)
        clear eb rb wb ub hok2
        go_cut [21, 22] (fun vx ve wx => ∃ gB F5, vx = .pointer (some ⟨gB, 0, none⟩) ∧ ve = .int .i64 0 ∧ Hid (LpS mb wm wx s2 F5 [(gB, qb), (gA, qa), (gN, n)]) ∧ Hid qb.wf)
        case first =>
          refine wp_region_held_drew (S := KB [(gA, qa), (gN, n)]) (by kernel_rfl) HS4.out.drew.kb (fun hS0 => ?_)
          refine wpAnyH_take (i := 0) (oi := ?oip0) (v := ?vp0) ?hip0 ?hsp0 ?hfp0 ?hrp0 ?hQp0 ?hyp0 ?hSp0 ?hp0
          case hip0 => (simp only [List.getElem?_toArray, List.getElem?_cons_succ, List.getElem?_cons_zero]; rfl)
          case hsp0 => kernel_rfl
          case hfp0 => kernel_rfl
          case hrp0 => kernel_rfl
          case hSp0 => first | assumption | trivial
          case hyp0 => refine Or.inl ⟨by kernel_rfl, ?_⟩; (intro w hSw; (try dsimp only at hSw); go_simp; try with_reducible rfl)
          case hQp0 => exact fun _ _ _ h => h
          try simp only [Act.put, List.setIfInBounds_toArray, List.set_cons_zero, List.set_cons_succ]
          refine wpAnyH_take (i := 1) (oi := ?oip1) (v := ?vp1) ?hip1 ?hsp1 ?hfp1 ?hrp1 ?hQp1 ?hyp1 ?hSp1 ?hp1
          case hip1 => (simp only [List.getElem?_toArray, List.getElem?_cons_succ, List.getElem?_cons_zero]; rfl)
          case hsp1 => kernel_rfl
          case hfp1 => kernel_rfl
          case hrp1 => kernel_rfl
          case hSp1 => first | assumption | trivial
          case hyp1 => refine Or.inl ⟨by kernel_rfl, ?_⟩; (intro w hSw; (try dsimp only at hSw); go_simp; try with_reducible rfl)
          case hQp1 => exact fun _ _ _ h => h
          try simp only [Act.put, List.setIfInBounds_toArray, List.set_cons_zero, List.set_cons_succ]
          refine wpAnyH_take (i := 2) (oi := ?oip2) (v := ?vp2) ?hip2 ?hsp2 ?hfp2 ?hrp2 ?hQp2 ?hyp2 ?hSp2 ?hp2
          case hip2 => (simp only [List.getElem?_toArray, List.getElem?_cons_succ, List.getElem?_cons_zero]; rfl)
          case hsp2 => kernel_rfl
          case hfp2 => kernel_rfl
          case hrp2 => kernel_rfl
          case hSp2 => first | assumption | trivial
          case hyp2 => refine yieldsIf_load_mid (by kernel_rfl) 37 (.tmp 12) ?_ gN (0) ?_ (encN n) _ (fun w' hw => KB.range1 hw) Tryd.underlying37 rfl iszNd <;> rfl
          case hQp2 => exact fun _ _ _ h => h
          try simp only [Act.put, List.setIfInBounds_toArray, List.set_cons_zero, List.set_cons_succ]
          refine wpAnyH_take (i := 3) (oi := ?oip3) (v := ?vp3) ?hip3 ?hsp3 ?hfp3 ?hrp3 ?hQp3 ?hyp3 ?hSp3 ?hp3
          case hip3 => (simp only [List.getElem?_toArray, List.getElem?_cons_succ, List.getElem?_cons_zero]; rfl)
          case hsp3 => kernel_rfl
          case hfp3 => kernel_rfl
          case hrp3 => kernel_rfl
          case hSp3 => first | assumption | trivial
          case hyp3 => refine Or.inl ⟨by kernel_rfl, ?_⟩; (intro w hSw; (try dsimp only at hSw); go_simp; try with_reducible rfl)
          case hQp3 => exact fun _ _ _ h => h
          try simp only [Act.put, List.setIfInBounds_toArray, List.set_cons_zero, List.set_cons_succ]
          refine wpAnyH_take (i := 4) (oi := ?oip4) (v := ?vp4) ?hip4 ?hsp4 ?hfp4 ?hrp4 ?hQp4 ?hyp4 ?hSp4 ?hp4
          case hip4 => (simp only [List.getElem?_toArray, List.getElem?_cons_succ, List.getElem?_cons_zero]; rfl)
          case hsp4 => kernel_rfl
          case hfp4 => kernel_rfl
          case hrp4 => kernel_rfl
          case hSp4 => first | assumption | trivial
          case hyp4 => refine Or.inl ⟨by kernel_rfl, ?_⟩; (intro w hSw; (try dsimp only at hSw); go_simp; try with_reducible rfl)
          case hQp4 => exact fun _ _ _ h => h
          try simp only [Act.put, List.setIfInBounds_toArray, List.set_cons_zero, List.set_cons_succ]
          refine wpAnyH_take (i := 5) (oi := ?oip5) (v := ?vp5) ?hip5 ?hsp5 ?hfp5 ?hrp5 ?hQp5 ?hyp5 ?hSp5 ?hp5
          case hip5 => (simp only [List.getElem?_toArray, List.getElem?_cons_succ, List.getElem?_cons_zero]; rfl)
          case hsp5 => kernel_rfl
          case hfp5 => kernel_rfl
          case hrp5 => kernel_rfl
          case hSp5 => first | assumption | trivial
          case hyp5 => refine Or.inl ⟨by kernel_rfl, ?_⟩; (intro w hSw; (try dsimp only at hSw); go_simp; try with_reducible rfl)
          case hQp5 => exact fun _ _ _ h => h
          try simp only [Act.put, List.setIfInBounds_toArray, List.set_cons_zero, List.set_cons_succ]
          refine wpAnyH_take (i := 6) (oi := ?oip6) (v := ?vp6) ?hip6 ?hsp6 ?hfp6 ?hrp6 ?hQp6 ?hyp6 ?hSp6 ?hp6
          case hip6 => (simp only [List.getElem?_toArray, List.getElem?_cons_succ, List.getElem?_cons_zero]; rfl)
          case hsp6 => kernel_rfl
          case hfp6 => kernel_rfl
          case hrp6 => kernel_rfl
          case hSp6 => first | assumption | trivial
          case hyp6 => refine Or.inl ⟨by kernel_rfl, ?_⟩; (intro w hSw; (try dsimp only at hSw); go_simp; rw [str_extract, List.drop_zero])
          case hQp6 => exact fun _ _ _ h => h
          try simp only [Act.put, List.setIfInBounds_toArray, List.set_cons_zero, List.set_cons_succ]
          refine wpAnyH_ready (rs := [7, 11]) (by kernel_rfl) (by simp) ?_
          refine AllReadyH.cons (by simp only [List.getElem?_toArray, List.getElem?_cons_succ, List.getElem?_cons_zero]; rfl) (fun K hK => ?_) (AllReadyH.cons (by simp only [List.getElem?_toArray, List.getElem?_cons_succ, List.getElem?_cons_zero]; rfl) (fun K hK => ?_) AllReadyH.nil)
          · go_simp
            have HSW := Lib.hid (HS4.out.drew : LpS mb wm w5.drew s1 F4 [(gA, qa), (gN, n)])
            refine (Write_any (C := memC mb) HSW.out.at_.1 n HNF.out o (by unfold I64'; omega) (s.take c) HTK.out (by rw [HEB.out]; exact HOK2.out)).mono ?_
            rw [HEB.out]
            rintro e w6 ⟨⟨rfl, hqw⟩, hstep⟩
            obtain ⟨F6, hs6⟩ := HSW.out.step hstep
            have HS6 := Lib.hid hs6
            have HQ6 := Lib.hid hqw
            clear hs6 hstep hqw
            try dsimp only
            refine hK.out _ _ (HS6.out.kb) (fun hSpp7 => ?_)
            try simp only [Act.put, List.setIfInBounds_toArray, List.set_cons_zero, List.set_cons_succ]
            refine wpAnyH_take (i := 8) (oi := ?oipp8) (v := ?vpp8) ?hipp8 ?hspp8 ?hfpp8 ?hrpp8 ?hQpp8 ?hypp8 ?hSpp8 ?hpp8
            case hipp8 => (simp only [List.getElem?_toArray, List.getElem?_cons_succ, List.getElem?_cons_zero]; rfl)
            case hspp8 => kernel_rfl
            case hfpp8 => kernel_rfl
            case hrpp8 => kernel_rfl
            case hSpp8 => first | assumption | trivial
            case hypp8 => refine Or.inl ⟨by kernel_rfl, ?_⟩; (intro w hSw; (try dsimp only at hSw); go_simp; try with_reducible rfl)
            case hQpp8 => exact fun _ _ _ h => h
            try simp only [Act.put, List.setIfInBounds_toArray, List.set_cons_zero, List.set_cons_succ]
            refine wpAnyH_take (i := 9) (oi := ?oipp9) (v := ?vpp9) ?hipp9 ?hspp9 ?hfpp9 ?hrpp9 ?hQpp9 ?hypp9 ?hSpp9 ?hpp9
            case hipp9 => (simp only [List.getElem?_toArray, List.getElem?_cons_succ, List.getElem?_cons_zero]; rfl)
            case hspp9 => kernel_rfl
            case hfpp9 => kernel_rfl
            case hrpp9 => kernel_rfl
            case hSpp9 => first | assumption | trivial
            case hypp9 => refine Or.inl ⟨by kernel_rfl, ?_⟩; (intro w hSw; (try dsimp only at hSw); go_simp; try with_reducible rfl)
            case hQpp9 => exact fun _ _ _ h => h
            try simp only [Act.put, List.setIfInBounds_toArray, List.set_cons_zero, List.set_cons_succ]
            refine wpAnyH_take (i := 10) (oi := ?oipp10) (v := ?vpp10) ?hipp10 ?hspp10 ?hfpp10 ?hrpp10 ?hQpp10 ?hypp10 ?hSpp10 ?hpp10
            case hipp10 => (simp only [List.getElem?_toArray, List.getElem?_cons_succ, List.getElem?_cons_zero]; rfl)
            case hspp10 => kernel_rfl
            case hfpp10 => kernel_rfl
            case hrpp10 => kernel_rfl
            case hSpp10 => first | assumption | trivial
            case hypp10 => refine Or.inl ⟨by kernel_rfl, ?_⟩; (intro w hSw; (try dsimp only at hSw); go_simp; try with_reducible rfl)
            case hQpp10 => exact fun _ _ _ h => h
            try simp only [Act.put, List.setIfInBounds_toArray, List.set_cons_zero, List.set_cons_succ]
            refine wpAnyH_ready (rs := [11]) (by kernel_rfl) (by simp) ?_
            refine AllReadyH.cons (by simp only [List.getElem?_toArray, List.getElem?_cons_succ, List.getElem?_cons_zero]; rfl) (fun K hK => ?_) AllReadyH.nil
            go_simp
            skip
            refine hK.out _ _ (fun b hb => (HS6.out.new nD).kb b (List.mem_cons_of_mem _ hb)) (fun hSpp11 => ?_)
            try simp only [Act.put, List.setIfInBounds_toArray, List.set_cons_zero, List.set_cons_succ]
            refine wpAnyH_ready (rs := [12]) (by kernel_rfl) (by simp) ?_
            refine AllReadyH.cons (by simp only [List.getElem?_toArray, List.getElem?_cons_succ, List.getElem?_cons_zero]; rfl) (fun K hK => ?_) AllReadyH.nil
            rw [if_pos (by kernel_rfl)]
            refine wp_store_mid 37 (.tmp 21) (.tmp 89) rfl w6.heap.size (0) (encN qb).toArray rfl rfl (blk_there (HS6.out.new nD).blk0 (Nat.le_refl 13)) iszNd (all_oneCell_toArray (encN_ones _)) ?_
            refine hK.out _ _ (fun b hb => ((HS6.out.new nD).put qb).kb b (List.mem_cons_of_mem _ hb)) (fun hSpp12 => ?_)
            try simp only [Act.put, List.setIfInBounds_toArray, List.set_cons_zero, List.set_cons_succ]
            refine wpAnyH_take (i := 13) (oi := ?oipp13) (v := ?vpp13) ?hipp13 ?hspp13 ?hfpp13 ?hrpp13 ?hQpp13 ?hypp13 ?hSpp13 ?hpp13
            case hipp13 => (simp only [List.getElem?_toArray, List.getElem?_cons_succ, List.getElem?_cons_zero]; rfl)
            case hspp13 => kernel_rfl
            case hfpp13 => kernel_rfl
            case hrpp13 => kernel_rfl
            case hSpp13 => first | assumption | trivial
            case hypp13 => refine Or.inl ⟨by kernel_rfl, ?_⟩; (intro w hSw; (try dsimp only at hSw); go_simp; try with_reducible rfl)
            case hQpp13 => exact fun _ _ _ h => h
            try simp only [Act.put, List.setIfInBounds_toArray, List.set_cons_zero, List.set_cons_succ]
            have HT := Lib.hid ((HS6.out.new nD).put qb)
            refine wpAnyH_done (by kernel_rfl) ?_ _
            go_wp2_with fail
            go_meet
            exact ⟨_, F6, rfl, rfl, HT, HQ6⟩
          · go_simp
            skip
            refine hK.out _ _ (fun b hb => (HS4.out.drew.new nD).kb b (List.mem_cons_of_mem _ hb)) (fun hSpq11 => ?_)
            try simp only [Act.put, List.setIfInBounds_toArray, List.set_cons_zero, List.set_cons_succ]
            refine wpAnyH_ready (rs := [7]) (by kernel_rfl) (by simp) ?_
            refine AllReadyH.cons (by simp only [List.getElem?_toArray, List.getElem?_cons_succ, List.getElem?_cons_zero]; rfl) (fun K hK => ?_) AllReadyH.nil
            go_simp
            have HSW := Lib.hid (HS4.out.drew.new nD : LpS mb wm (w5.drew.alloc (.cells (encN nD).toArray 37)) s1 F4 [(w5.heap.size, nD), (gA, qa), (gN, n)])
            refine (Write_any (C := memC mb) HSW.out.at_.1 n HNF.out o (by unfold I64'; omega) (s.take c) HTK.out (by rw [HEB.out]; exact HOK2.out)).mono ?_
            rw [HEB.out]
            rintro e w6 ⟨⟨rfl, hqw⟩, hstep⟩
            obtain ⟨F6, hs6⟩ := HSW.out.step hstep
            have HS6 := Lib.hid hs6
            have HQ6 := Lib.hid hqw
            clear hs6 hstep hqw
            try dsimp only
            refine hK.out _ _ (fun b hb => HS6.out.kb b (List.mem_cons_of_mem _ hb)) (fun hSpq7 => ?_)
            try simp only [Act.put, List.setIfInBounds_toArray, List.set_cons_zero, List.set_cons_succ]
            refine wpAnyH_take (i := 8) (oi := ?oipq8) (v := ?vpq8) ?hipq8 ?hspq8 ?hfpq8 ?hrpq8 ?hQpq8 ?hypq8 ?hSpq8 ?hpq8
            case hipq8 => (simp only [List.getElem?_toArray, List.getElem?_cons_succ, List.getElem?_cons_zero]; rfl)
            case hspq8 => kernel_rfl
            case hfpq8 => kernel_rfl
            case hrpq8 => kernel_rfl
            case hSpq8 => first | assumption | trivial
            case hypq8 => refine Or.inl ⟨by kernel_rfl, ?_⟩; (intro w hSw; (try dsimp only at hSw); go_simp; try with_reducible rfl)
            case hQpq8 => exact fun _ _ _ h => h
            try simp only [Act.put, List.setIfInBounds_toArray, List.set_cons_zero, List.set_cons_succ]
            refine wpAnyH_take (i := 9) (oi := ?oipq9) (v := ?vpq9) ?hipq9 ?hspq9 ?hfpq9 ?hrpq9 ?hQpq9 ?hypq9 ?hSpq9 ?hpq9
            case hipq9 => (simp only [List.getElem?_toArray, List.getElem?_cons_succ, List.getElem?_cons_zero]; rfl)
            case hspq9 => kernel_rfl
            case hfpq9 => kernel_rfl
            case hrpq9 => kernel_rfl
            case hSpq9 => first | assumption | trivial
            case hypq9 => refine Or.inl ⟨by kernel_rfl, ?_⟩; (intro w hSw; (try dsimp only at hSw); go_simp; try with_reducible rfl)
            case hQpq9 => exact fun _ _ _ h => h
            try simp only [Act.put, List.setIfInBounds_toArray, List.set_cons_zero, List.set_cons_succ]
            refine wpAnyH_take (i := 10) (oi := ?oipq10) (v := ?vpq10) ?hipq10 ?hspq10 ?hfpq10 ?hrpq10 ?hQpq10 ?hypq10 ?hSpq10 ?hpq10
            case hipq10 => (simp only [List.getElem?_toArray, List.getElem?_cons_succ, List.getElem?_cons_zero]; rfl)
            case hspq10 => kernel_rfl
            case hfpq10 => kernel_rfl
            case hrpq10 => kernel_rfl
            case hSpq10 => first | assumption | trivial
            case hypq10 => refine Or.inl ⟨by kernel_rfl, ?_⟩; (intro w hSw; (try dsimp only at hSw); go_simp; try with_reducible rfl)
            case hQpq10 => exact fun _ _ _ h => h
            try simp only [Act.put, List.setIfInBounds_toArray, List.set_cons_zero, List.set_cons_succ]
            refine wpAnyH_ready (rs := [12]) (by kernel_rfl) (by simp) ?_
            refine AllReadyH.cons (by simp only [List.getElem?_toArray, List.getElem?_cons_succ, List.getElem?_cons_zero]; rfl) (fun K hK => ?_) AllReadyH.nil
            rw [if_pos (by kernel_rfl)]
            refine wp_store_mid 37 (.tmp 21) (.tmp 89) rfl w5.heap.size (0) (encN qb).toArray rfl rfl (blk_there HS6.out.blk0 (Nat.le_refl 13)) iszNd (all_oneCell_toArray (encN_ones _)) ?_
            refine hK.out _ _ (fun b hb => (HS6.out.put qb).kb b (List.mem_cons_of_mem _ hb)) (fun hSpq12 => ?_)
            try simp only [Act.put, List.setIfInBounds_toArray, List.set_cons_zero, List.set_cons_succ]
            refine wpAnyH_take (i := 13) (oi := ?oipq13) (v := ?vpq13) ?hipq13 ?hspq13 ?hfpq13 ?hrpq13 ?hQpq13 ?hypq13 ?hSpq13 ?hpq13
            case hipq13 => (simp only [List.getElem?_toArray, List.getElem?_cons_succ, List.getElem?_cons_zero]; rfl)
            case hspq13 => kernel_rfl
            case hfpq13 => kernel_rfl
            case hrpq13 => kernel_rfl
            case hSpq13 => first | assumption | trivial
            case hypq13 => refine Or.inl ⟨by kernel_rfl, ?_⟩; (intro w hSw; (try dsimp only at hSw); go_simp; try with_reducible rfl)
            case hQpq13 => exact fun _ _ _ h => h
            try simp only [Act.put, List.setIfInBounds_toArray, List.set_cons_zero, List.set_cons_succ]
            have HT := Lib.hid (HS6.out.put qb)
            refine wpAnyH_done (by kernel_rfl) ?_ _
            go_wp2_with fail
            go_meet
            exact ⟨_, F6, rfl, rfl, HT, HQ6⟩
        obtain ⟨gB, F5, rfl, rfl, HS5, HBW⟩ := hcut
        go_upto_region 18 with fail
        obtain ⟨qd, s3, ed, rd, wd, ud⟩ := rn_write HRB.out (by omega) HWB1.out.nw (o + c) (s.drop c) (by omega) (by simp; omega)
        have hok3 : memOk s3 := rd.ok (by omega)
        have HED : Hid (writeM memF qb ((o : Int) + (c : Int)) (s.drop c) s2 = (.ok qd, s3)) := Lib.hid (by rw [← ed]; rfl)
        have HRD := Lib.hid rd
        have HWD1 := Lib.hid wd
        have HOK3 := Lib.hid hok3
        have HDK : Hid ((s.drop c).length ≤ 1000000) := Lib.hid (by simp; omega)
        have HPE := Lib.hid (parts_end HNW.out hcl HWA1.out HWB1.out wd)
        clear ed rd wd ud hok3
        have HWO : Hid (IntKind.i64.wrap ((o : Int) + (c : Int)) = (o : Int) + (c : Int)) := Lib.hid (IntWalk.i64_in _ (by omega))
        have p1 : 0 ≤ (c : Int) := by omega
        have p2 : (c : Int) ≤ (s.length : Int) := by omega
        refine wp_region_held_drew (S := fun _ => True) (by kernel_rfl) trivial (fun hS0 => ?_)
        refine wpAnyH_take (i := 0) (oi := ?oiq0) (v := ?vq0) ?hiq0 ?hsq0 ?hfq0 ?hrq0 ?hQq0 ?hyq0 ?hSq0 ?hq0
        case hiq0 => (simp only [List.getElem?_toArray, List.getElem?_cons_succ, List.getElem?_cons_zero]; rfl)
        case hsq0 => kernel_rfl
        case hfq0 => kernel_rfl
        case hrq0 => kernel_rfl
        case hSq0 => first | assumption | trivial
        case hyq0 => refine Or.inl ⟨by kernel_rfl, ?_⟩; (intro w hSw; (try dsimp only at hSw); go_simp; try with_reducible rfl)
        case hQq0 => exact fun _ _ _ h => h
        try simp only [Act.put, List.setIfInBounds_toArray, List.set_cons_zero, List.set_cons_succ]
        refine wpAnyH_take (i := 1) (oi := ?oiq1) (v := ?vq1) ?hiq1 ?hsq1 ?hfq1 ?hrq1 ?hQq1 ?hyq1 ?hSq1 ?hq1
        case hiq1 => (simp only [List.getElem?_toArray, List.getElem?_cons_succ, List.getElem?_cons_zero]; rfl)
        case hsq1 => kernel_rfl
        case hfq1 => kernel_rfl
        case hrq1 => kernel_rfl
        case hSq1 => first | assumption | trivial
        case hyq1 => refine Or.inl ⟨by kernel_rfl, ?_⟩; (intro w hSw; (try dsimp only at hSw); go_simp; try with_reducible rfl)
        case hQq1 => exact fun _ _ _ h => h
        try simp only [Act.put, List.setIfInBounds_toArray, List.set_cons_zero, List.set_cons_succ]
        refine wpAnyH_take (i := 3) (oi := ?oiq3) (v := ?vq3) ?hiq3 ?hsq3 ?hfq3 ?hrq3 ?hQq3 ?hyq3 ?hSq3 ?hq3
        case hiq3 => (simp only [List.getElem?_toArray, List.getElem?_cons_succ, List.getElem?_cons_zero]; rfl)
        case hsq3 => kernel_rfl
        case hfq3 => kernel_rfl
        case hrq3 => kernel_rfl
        case hSq3 => first | assumption | trivial
        case hyq3 => refine Or.inl ⟨by kernel_rfl, ?_⟩; (intro w hSw; (try dsimp only at hSw); go_simp; try with_reducible rfl)
        case hQq3 => exact fun _ _ _ h => h
        try simp only [Act.put, List.setIfInBounds_toArray, List.set_cons_zero, List.set_cons_succ]
        refine wpAnyH_take (i := 4) (oi := ?oiq4) (v := ?vq4) ?hiq4 ?hsq4 ?hfq4 ?hrq4 ?hQq4 ?hyq4 ?hSq4 ?hq4
        case hiq4 => (simp only [List.getElem?_toArray, List.getElem?_cons_succ, List.getElem?_cons_zero]; rfl)
        case hsq4 => kernel_rfl
        case hfq4 => kernel_rfl
        case hrq4 => kernel_rfl
        case hSq4 => first | assumption | trivial
        case hyq4 => refine Or.inl ⟨by kernel_rfl, ?_⟩; (intro w hSw; (try dsimp only at hSw); go_simp; try with_reducible rfl)
        case hQq4 => exact fun _ _ _ h => h
        try simp only [Act.put, List.setIfInBounds_toArray, List.set_cons_zero, List.set_cons_succ]
        refine wpAnyH_take (i := 5) (oi := ?oiq5) (v := ?vq5) ?hiq5 ?hsq5 ?hfq5 ?hrq5 ?hQq5 ?hyq5 ?hSq5 ?hq5
        case hiq5 => (simp only [List.getElem?_toArray, List.getElem?_cons_succ, List.getElem?_cons_zero]; rfl)
        case hsq5 => kernel_rfl
        case hfq5 => kernel_rfl
        case hrq5 => kernel_rfl
        case hSq5 => first | assumption | trivial
        case hyq5 => refine Or.inl ⟨by kernel_rfl, ?_⟩; (intro w hSw; (try dsimp only at hSw); go_simp; rw [HWO.out])
        case hQq5 => exact fun _ _ _ h => h
        try simp only [Act.put, List.setIfInBounds_toArray, List.set_cons_zero, List.set_cons_succ]
        refine wpAnyH_take (i := 6) (oi := ?oiq6) (v := ?vq6) ?hiq6 ?hsq6 ?hfq6 ?hrq6 ?hQq6 ?hyq6 ?hSq6 ?hq6
        case hiq6 => (simp only [List.getElem?_toArray, List.getElem?_cons_succ, List.getElem?_cons_zero]; rfl)
        case hsq6 => kernel_rfl
        case hfq6 => kernel_rfl
        case hrq6 => kernel_rfl
        case hSq6 => first | assumption | trivial
        case hyq6 => refine Or.inl ⟨by kernel_rfl, ?_⟩; (intro w hSw; (try dsimp only at hSw); go_simp; try with_reducible rfl)
        case hQq6 => exact fun _ _ _ h => h
        try simp only [Act.put, List.setIfInBounds_toArray, List.set_cons_zero, List.set_cons_succ]
        refine wpAnyH_take (i := 7) (oi := ?oiq7) (v := ?vq7) ?hiq7 ?hsq7 ?hfq7 ?hrq7 ?hQq7 ?hyq7 ?hSq7 ?hq7
        case hiq7 => (simp only [List.getElem?_toArray, List.getElem?_cons_succ, List.getElem?_cons_zero]; rfl)
        case hsq7 => kernel_rfl
        case hfq7 => kernel_rfl
        case hrq7 => kernel_rfl
        case hSq7 => first | assumption | trivial
        case hyq7 => refine Or.inl ⟨by kernel_rfl, ?_⟩; (intro w hSw; (try dsimp only at hSw); go_simp; try with_reducible rfl)
        case hQq7 => exact fun _ _ _ h => h
        try simp only [Act.put, List.setIfInBounds_toArray, List.set_cons_zero, List.set_cons_succ]
        refine wpAnyH_take (i := 8) (oi := ?oiq8) (v := ?vq8) ?hiq8 ?hsq8 ?hfq8 ?hrq8 ?hQq8 ?hyq8 ?hSq8 ?hq8
        case hiq8 => (simp only [List.getElem?_toArray, List.getElem?_cons_succ, List.getElem?_cons_zero]; rfl)
        case hsq8 => kernel_rfl
        case hfq8 => kernel_rfl
        case hrq8 => kernel_rfl
        case hSq8 => first | assumption | trivial
        case hyq8 => refine Or.inl ⟨by kernel_rfl, ?_⟩; (intro w hSw; (try dsimp only at hSw); go_simp; rw [str_extract, List.take_length])
        case hQq8 => exact fun _ _ _ h => h
        try simp only [Act.put, List.setIfInBounds_toArray, List.set_cons_zero, List.set_cons_succ]
        refine wpAnyH_ready (rs := [2]) (by kernel_rfl) (by simp) ?_
        refine AllReadyH.cons (by simp only [List.getElem?_toArray, List.getElem?_cons_succ, List.getElem?_cons_zero]; rfl) (fun K hK => ?_) AllReadyH.nil
        rw [if_pos (by kernel_rfl)]
        refine wp_load_mid 37 (.tmp 21) rfl gB (0) rfl (encN qb) _ (range_blk HS5.out.drew.blk0) Tryd.underlying37 rfl iszNd ?_
        refine hK.out _ _ (trivial) (fun hSq2 => ?_)
        try simp only [Act.put, List.setIfInBounds_toArray, List.set_cons_zero, List.set_cons_succ]
        refine wpAnyH_ready (rs := [9]) (by kernel_rfl) (by simp) ?_
        refine AllReadyH.cons (by simp only [List.getElem?_toArray, List.getElem?_cons_succ, List.getElem?_cons_zero]; rfl) (fun K hK => ?_) AllReadyH.nil
        go_simp
        refine (Write_any (C := memC mb) HS5.out.drew.at_.1 qb HBW.out _ (by unfold I64'; omega) (s.drop c) HDK.out (by rw [HED.out]; exact HOK3.out)).mono ?_
        rw [HED.out]
        rintro e w6 ⟨⟨rfl, hqw⟩, hstep⟩
        obtain ⟨F6, hs6⟩ := HS5.out.drew.step hstep
        have HS6 := Lib.hid hs6
        have HQ6 := Lib.hid hqw
        clear hs6 hstep hqw
        try dsimp only
        refine hK.out _ _ (trivial) (fun hSq9 => ?_)
        try simp only [Act.put, List.setIfInBounds_toArray, List.set_cons_zero, List.set_cons_succ]
        refine wpAnyH_take (i := 10) (oi := ?oiq10) (v := ?vq10) ?hiq10 ?hsq10 ?hfq10 ?hrq10 ?hQq10 ?hyq10 ?hSq10 ?hq10
        case hiq10 => (simp only [List.getElem?_toArray, List.getElem?_cons_succ, List.getElem?_cons_zero]; rfl)
        case hsq10 => kernel_rfl
        case hfq10 => kernel_rfl
        case hrq10 => kernel_rfl
        case hSq10 => first | assumption | trivial
        case hyq10 => refine Or.inl ⟨by kernel_rfl, ?_⟩; (intro w hSw; (try dsimp only at hSw); go_simp; try with_reducible rfl)
        case hQq10 => exact fun _ _ _ h => h
        try simp only [Act.put, List.setIfInBounds_toArray, List.set_cons_zero, List.set_cons_succ]
        refine wpAnyH_take (i := 11) (oi := ?oiq11) (v := ?vq11) ?hiq11 ?hsq11 ?hfq11 ?hrq11 ?hQq11 ?hyq11 ?hSq11 ?hq11
        case hiq11 => (simp only [List.getElem?_toArray, List.getElem?_cons_succ, List.getElem?_cons_zero]; rfl)
        case hsq11 => kernel_rfl
        case hfq11 => kernel_rfl
        case hrq11 => kernel_rfl
        case hSq11 => first | assumption | trivial
        case hyq11 => refine Or.inl ⟨by kernel_rfl, ?_⟩; (intro w hSw; (try dsimp only at hSw); go_simp; try with_reducible rfl)
        case hQq11 => exact fun _ _ _ h => h
        try simp only [Act.put, List.setIfInBounds_toArray, List.set_cons_zero, List.set_cons_succ]
        refine wpAnyH_take (i := 12) (oi := ?oiq12) (v := ?vq12) ?hiq12 ?hsq12 ?hfq12 ?hrq12 ?hQq12 ?hyq12 ?hSq12 ?hq12
        case hiq12 => (simp only [List.getElem?_toArray, List.getElem?_cons_succ, List.getElem?_cons_zero]; rfl)
        case hsq12 => kernel_rfl
        case hfq12 => kernel_rfl
        case hrq12 => kernel_rfl
        case hSq12 => first | assumption | trivial
        case hyq12 => refine Or.inl ⟨by kernel_rfl, ?_⟩; (intro w hSw; (try dsimp only at hSw); go_simp; try with_reducible rfl)
        case hQq12 => exact fun _ _ _ h => h
        try simp only [Act.put, List.setIfInBounds_toArray, List.set_cons_zero, List.set_cons_succ]
        refine wpAnyH_ready (rs := [13]) (by kernel_rfl) (by simp) ?_
        refine AllReadyH.cons (by simp only [List.getElem?_toArray, List.getElem?_cons_succ, List.getElem?_cons_zero]; rfl) (fun K hK => ?_) AllReadyH.nil
        rw [if_pos (by kernel_rfl)]
        refine wp_store_mid 37 (.tmp 21) (.tmp 108) rfl gB (0) (encN qd).toArray rfl rfl (blk_there HS6.out.blk0 (Nat.le_refl 13)) iszNd (all_oneCell_toArray (encN_ones _)) ?_
        refine hK.out _ _ (trivial) (fun hSq13 => ?_)
        try simp only [Act.put, List.setIfInBounds_toArray, List.set_cons_zero, List.set_cons_succ]
        refine wpAnyH_take (i := 14) (oi := ?oiq14) (v := ?vq14) ?hiq14 ?hsq14 ?hfq14 ?hrq14 ?hQq14 ?hyq14 ?hSq14 ?hq14
        case hiq14 => (simp only [List.getElem?_toArray, List.getElem?_cons_succ, List.getElem?_cons_zero]; rfl)
        case hsq14 => kernel_rfl
        case hfq14 => kernel_rfl
        case hrq14 => kernel_rfl
        case hSq14 => first | assumption | trivial
        case hyq14 => refine Or.inl ⟨by kernel_rfl, ?_⟩; (intro w hSw; (try dsimp only at hSw); go_simp; try with_reducible rfl)
        case hQq14 => exact fun _ _ _ h => h
        try simp only [Act.put, List.setIfInBounds_toArray, List.set_cons_zero, List.set_cons_succ]
        refine wpAnyH_done (by kernel_rfl) ?_ _
        have HS7 := Lib.hid (HS6.out.put qd)
        obtain ⟨w7, hw7⟩ : ∃ w7, w7 = w6.setCells gB 0 (encN qd) := ⟨_, rfl⟩
        rw [← hw7] at HS7
        go_upto_region 19 with fail
        rw [← hw7]
        clear hw7
        obtain ⟨T, hT⟩ : ∃ T, T = txt s3.L qa := ⟨_, rfl⟩
        have hna3 : NW s3.L qa := by
          obtain ⟨X1, h1⟩ := HWB1.out.ext
          obtain ⟨X2, h2⟩ := HWD1.out.ext
          rw [h2, h1]
          exact (((HWA1.out.nw).mono X1).1.mono X2).1
        have HNA3 := Lib.hid hna3
        have HTA : Hid (∀ st k, Rn k st → k ≤ 48 → st.L = s3.L → ∃ s2, readM memF qa 0 qa.size st = (.ok T, s2) ∧ s2.L = s3.L ∧ Rn (k + 1) s2) := Lib.hid (fun st k h1 h2 h3 => by
          obtain ⟨s2, e1, e2, e3⟩ := rn_whole h1 (by rw [h3]; exact hna3)
          exact ⟨s2, by rw [e1, hT, h3], e2.trans h3, e3⟩)
        have HTD : Hid (∀ st k, Rn k st → k ≤ 48 → st.L = s3.L → ∃ s2, readM memF qd 0 qd.size st = (.ok T, s2) ∧ s2.L = s3.L ∧ Rn (k + 1) s2) := Lib.hid (fun st k h1 h2 h3 => by
          obtain ⟨s2, e1, e2, e3⟩ := rn_whole h1 (by rw [h3]; exact HWD1.out.nw)
          exact ⟨s2, by rw [e1, hT, h3, HPE.out.1], e2.trans h3, e3⟩)
        clear hna3 hT
        go_cut [120] (fun vx wx => ∃ F5 sx, vx = .bool false ∧ Hid (LpS mb wm wx sx F5 [(gB, qd), (gA, qa), (gN, n)]) ∧ Hid (sx.L = s3.L) ∧ Hid (Rn (i + 5) sx))
        case first =>
          refine wp_region_held_drew (S := KB [(gB, qd), (gA, qa), (gN, n)]) (by kernel_rfl) HS7.out.drew.kb (fun hS0 => ?_)
          refine wpAnyH_take (i := 0) (oi := ?oir0) (v := ?vr0) ?hir0 ?hsr0 ?hfr0 ?hrr0 ?hQr0 ?hyr0 ?hSr0 ?hr0
          case hir0 => (simp only [List.getElem?_toArray, List.getElem?_cons_succ, List.getElem?_cons_zero]; rfl)
          case hsr0 => kernel_rfl
          case hfr0 => kernel_rfl
          case hrr0 => kernel_rfl
          case hSr0 => first | assumption | trivial
          case hyr0 => refine Or.inl ⟨by kernel_rfl, ?_⟩; (intro w hSw; (try dsimp only at hSw); go_simp; try with_reducible rfl)
          case hQr0 => exact fun _ _ _ h => h
          try simp only [Act.put, List.setIfInBounds_toArray, List.set_cons_zero, List.set_cons_succ]
          refine wpAnyH_take (i := 1) (oi := ?oir1) (v := ?vr1) ?hir1 ?hsr1 ?hfr1 ?hrr1 ?hQr1 ?hyr1 ?hSr1 ?hr1
          case hir1 => (simp only [List.getElem?_toArray, List.getElem?_cons_succ, List.getElem?_cons_zero]; rfl)
          case hsr1 => kernel_rfl
          case hfr1 => kernel_rfl
          case hrr1 => kernel_rfl
          case hSr1 => first | assumption | trivial
          case hyr1 => refine Or.inl ⟨by kernel_rfl, ?_⟩; (intro w hSw; (try dsimp only at hSw); go_simp; try with_reducible rfl)
          case hQr1 => exact fun _ _ _ h => h
          try simp only [Act.put, List.setIfInBounds_toArray, List.set_cons_zero, List.set_cons_succ]
          refine wpAnyH_take (i := 2) (oi := ?oir2) (v := ?vr2) ?hir2 ?hsr2 ?hfr2 ?hrr2 ?hQr2 ?hyr2 ?hSr2 ?hr2
          case hir2 => (simp only [List.getElem?_toArray, List.getElem?_cons_succ, List.getElem?_cons_zero]; rfl)
          case hsr2 => kernel_rfl
          case hfr2 => kernel_rfl
          case hrr2 => kernel_rfl
          case hSr2 => first | assumption | trivial
          case hyr2 => refine Or.inl ⟨by kernel_rfl, ?_⟩; (intro w hSw; (try dsimp only at hSw); go_simp; try with_reducible rfl)
          case hQr2 => exact fun _ _ _ h => h
          try simp only [Act.put, List.setIfInBounds_toArray, List.set_cons_zero, List.set_cons_succ]
          refine wpAnyH_take (i := 3) (oi := ?oir3) (v := ?vr3) ?hir3 ?hsr3 ?hfr3 ?hrr3 ?hQr3 ?hyr3 ?hSr3 ?hr3
          case hir3 => (simp only [List.getElem?_toArray, List.getElem?_cons_succ, List.getElem?_cons_zero]; rfl)
          case hsr3 => kernel_rfl
          case hfr3 => kernel_rfl
          case hrr3 => kernel_rfl
          case hSr3 => first | assumption | trivial
          case hyr3 => refine Or.inl ⟨by kernel_rfl, ?_⟩; (intro w hSw; (try dsimp only at hSw); go_simp; try with_reducible rfl)
          case hQr3 => exact fun _ _ _ h => h
          try simp only [Act.put, List.setIfInBounds_toArray, List.set_cons_zero, List.set_cons_succ]
          refine wpAnyH_take (i := 4) (oi := ?oir4) (v := ?vr4) ?hir4 ?hsr4 ?hfr4 ?hrr4 ?hQr4 ?hyr4 ?hSr4 ?hr4
          case hir4 => (simp only [List.getElem?_toArray, List.getElem?_cons_succ, List.getElem?_cons_zero]; rfl)
          case hsr4 => kernel_rfl
          case hfr4 => kernel_rfl
          case hrr4 => kernel_rfl
          case hSr4 => first | assumption | trivial
          case hyr4 => refine yieldsIf_load_mid (by kernel_rfl) 37 (.tmp 19) ?_ gA (0) ?_ (encN qa) _ (fun w' hw => KB.range1 hw) Tryd.underlying37 rfl iszNd <;> rfl
          case hQr4 => exact fun _ _ _ h => h
          try simp only [Act.put, List.setIfInBounds_toArray, List.set_cons_zero, List.set_cons_succ]
          refine wpAnyH_take (i := 6) (oi := ?oir6) (v := ?vr6) ?hir6 ?hsr6 ?hfr6 ?hrr6 ?hQr6 ?hyr6 ?hSr6 ?hr6
          case hir6 => (simp only [List.getElem?_toArray, List.getElem?_cons_succ, List.getElem?_cons_zero]; rfl)
          case hsr6 => kernel_rfl
          case hfr6 => kernel_rfl
          case hrr6 => kernel_rfl
          case hSr6 => first | assumption | trivial
          case hyr6 => refine Or.inl ⟨by kernel_rfl, ?_⟩; (intro w hSw; (try dsimp only at hSw); go_simp; try with_reducible rfl)
          case hQr6 => exact fun _ _ _ h => h
          try simp only [Act.put, List.setIfInBounds_toArray, List.set_cons_zero, List.set_cons_succ]
          refine wpAnyH_take (i := 7) (oi := ?oir7) (v := ?vr7) ?hir7 ?hsr7 ?hfr7 ?hrr7 ?hQr7 ?hyr7 ?hSr7 ?hr7
          case hir7 => (simp only [List.getElem?_toArray, List.getElem?_cons_succ, List.getElem?_cons_zero]; rfl)
          case hsr7 => kernel_rfl
          case hfr7 => kernel_rfl
          case hrr7 => kernel_rfl
          case hSr7 => first | assumption | trivial
          case hyr7 => refine yieldsIf_load_mid (by kernel_rfl) 37 (.tmp 21) ?_ gB (0) ?_ (encN qd) _ (fun w' hw => KB.range0 hw) Tryd.underlying37 rfl iszNd <;> rfl
          case hQr7 => exact fun _ _ _ h => h
          try simp only [Act.put, List.setIfInBounds_toArray, List.set_cons_zero, List.set_cons_succ]
          refine wpAnyH_ready (rs := [5]) (by kernel_rfl) (by simp) ?_
          refine AllReadyH.cons (by simp only [List.getElem?_toArray, List.getElem?_cons_succ, List.getElem?_cons_zero]; rfl) (fun K hK => ?_) AllReadyH.nil
          go_simp
          obtain ⟨sy8, ey8, hL8, hR8⟩ := HTA.out _ _ HRD.out (by omega) rfl
          refine (whole_any (mb := mb) HS7.out.drew.at_.1 qa HAW4.out (by rw [ey8]; exact hR8.ok (by omega))).mono ?_
          rw [ey8]
          rintro e w8 ⟨rfl, hstep⟩
          obtain ⟨F8, hs8⟩ := HS7.out.drew.step hstep
          have HS8 := Lib.hid hs8
          clear hstep hs8 ey8
          try dsimp only
          refine hK.out _ _ (HS8.out.kb) (fun hSr5 => ?_)
          try simp only [Act.put, List.setIfInBounds_toArray, List.set_cons_zero, List.set_cons_succ]
          refine wpAnyH_ready (rs := [8]) (by kernel_rfl) (by simp) ?_
          refine AllReadyH.cons (by simp only [List.getElem?_toArray, List.getElem?_cons_succ, List.getElem?_cons_zero]; rfl) (fun K hK => ?_) AllReadyH.nil
          go_simp
          obtain ⟨sy9, ey9, hL9, hR9⟩ := HTD.out _ _ hR8 (by omega) hL8
          refine (whole_any (mb := mb) HS8.out.at_.1 qd HQ6.out (by rw [ey9]; exact hR9.ok (by omega))).mono ?_
          rw [ey9]
          rintro e w9 ⟨rfl, hstep⟩
          obtain ⟨F9, hs9⟩ := HS8.out.step hstep
          have HS9 := Lib.hid hs9
          clear hstep hs9 ey9
          try dsimp only
          refine hK.out _ _ (HS9.out.kb) (fun hSr8 => ?_)
          try simp only [Act.put, List.setIfInBounds_toArray, List.set_cons_zero, List.set_cons_succ]
          refine wpAnyH_take (i := 9) (oi := ?oir9) (v := ?vr9) ?hir9 ?hsr9 ?hfr9 ?hrr9 ?hQr9 ?hyr9 ?hSr9 ?hr9
          case hir9 => (simp only [List.getElem?_toArray, List.getElem?_cons_succ, List.getElem?_cons_zero]; rfl)
          case hsr9 => kernel_rfl
          case hfr9 => kernel_rfl
          case hrr9 => kernel_rfl
          case hSr9 => first | assumption | trivial
          case hyr9 => refine Or.inl ⟨by kernel_rfl, ?_⟩; (intro w hSw; (try dsimp only at hSw); go_simp; try with_reducible rfl)
          case hQr9 => exact fun _ _ _ h => h
          try simp only [Act.put, List.setIfInBounds_toArray, List.set_cons_zero, List.set_cons_succ]
          refine wpAnyH_take (i := 10) (oi := ?oir10) (v := ?vr10) ?hir10 ?hsr10 ?hfr10 ?hrr10 ?hQr10 ?hyr10 ?hSr10 ?hr10
          case hir10 => (simp only [List.getElem?_toArray, List.getElem?_cons_succ, List.getElem?_cons_zero]; rfl)
          case hsr10 => kernel_rfl
          case hfr10 => kernel_rfl
          case hrr10 => kernel_rfl
          case hSr10 => first | assumption | trivial
          case hyr10 => refine Or.inl ⟨by kernel_rfl, ?_⟩; (intro w hSw; (try dsimp only at hSw); go_simp; try with_reducible rfl)
          case hQr10 => exact fun _ _ _ h => h
          try simp only [Act.put, List.setIfInBounds_toArray, List.set_cons_zero, List.set_cons_succ]
          refine wpAnyH_done (by kernel_rfl) ?_ _
          go_wp2_with fail
          go_meet
          exact ⟨F9, sy9, by simp, HS9, Lib.hid hL9, Lib.hid hR9⟩
        obtain ⟨F5, sx, rfl, HS8, HSX, HRX⟩ := hcut
        obtain ⟨sy, ey, hLy, hRy⟩ := rn_read HRX.out (by rw [HSX.out]; exact HNA3.out) o c
        rw [HSX.out, HPE.out.2.1] at ey
        obtain ⟨sz, ez, hLz, hRz⟩ := rn_read hRy (by rw [hLy, HSX.out]; exact HNA3.out) (o + c) (s.length - c)
        rw [hLy, HSX.out, HPE.out.2.2] at ez
        have ez' : readM memF qa ((o : Int) + (c : Int)) ((s.length : Int) - (c : Int)) sy = (.ok (s.drop c), sz) := by
          rw [← ez]; congr 1; omega
        have HR1 := Lib.hid (Read_any (C := memC mb) HS8.out.at_.1 qa HAW4.out o c (by unfold I64'; omega) (by unfold I64'; omega) (by rw [ey]; exact hRy.ok (by omega)))
        rw [ey] at HR1
        have hld := fun op a next Q => loadW_blk (P := Tryd.prog) HS8.out.blk1 Tryd.underlying37 rfl iszNd op a next Q
        have HEZ := Lib.hid ez'
        have HRY := Lib.hid hRy
        have HRZ := Lib.hid hRz
        clear ey ez ez' hLy hRy hLz hRz
        go_wp2_with fail
        refine HR1.out.mono ?_
        rintro e w9 ⟨rfl, hstep⟩
        obtain ⟨F9, hs9⟩ := HS8.out.step hstep
        have HS9 := Lib.hid hs9
        clear hstep hs9 hld
        have hld := fun op a next Q => loadW_blk (P := Tryd.prog) HS9.out.blk1 Tryd.underlying37 rfl iszNd op a next Q
        have HR2 := Lib.hid (Read_any (C := memC mb) HS9.out.at_.1 qa HAW4.out ((o : Int) + (c : Int)) ((s.length : Int) - (c : Int)) (by unfold I64'; omega) (by unfold I64'; omega) (by rw [HEZ.out]; exact HRZ.out.ok (by omega)))
        rw [HEZ.out] at HR2
        go_wp2_with fail
        try rw [HWO.out]
        refine HR2.out.mono ?_
        rintro e w10 ⟨rfl, hstep⟩
        obtain ⟨F10, hs10⟩ := HS9.out.step hstep
        have hbel : Below w.heap.size w w10 := hs10.old HOLD.out HMB.out
        have HBEL := Lib.hid hbel
        have HTD2 : Hid ((⟨(s.take c).toArray⟩ : ByteArray) ++ ⟨(s.drop c).toArray⟩ = ⟨s.toArray⟩) := Lib.hid (by rw [str_append, List.take_append_drop])
        clear hstep hs10 hld hbel
        go_wp2_with fail
        go_ret
        exact ⟨by rw [HTD2.out]; simp, HBEL.out⟩
theorem parts_int (a : Option Addr) (len cap : Nat) (zs : List ActA) (o n c f : Int) (w : World) (h : ZSl w a len cap zs) (ho : 0 ≤ o ∧ o ≤ 65535) (hn : 0 ≤ n ∧ n ≤ 65535) (hc : 0 ≤ c ∧ c ≤ 65535) (hf : 0 ≤ f ∧ f ≤ 255) :
    Calls Tryd.prog 5 #[.slice a len cap, .int .u16 o, .int .u16 n, .int .u16 c, .int .u8 f] w fun e w' => e = .returned (.bool true) ∧ Below w.heap.size w w' := by
  obtain ⟨o, rfl⟩ : ∃ m : Nat, o = m := ⟨o.toNat, by omega⟩
  obtain ⟨n, rfl⟩ : ∃ m : Nat, n = m := ⟨n.toNat, by omega⟩
  obtain ⟨c, rfl⟩ : ∃ m : Nat, c = m := ⟨c.toNat, by omega⟩
  obtain ⟨f, rfl⟩ : ∃ b : UInt8, f = b.toNat := ⟨UInt8.ofNat f.toNat, by simp; omega⟩
  exact parts_any a len cap zs o n c f w h (by omega) (by omega) (by omega)
end Go.Proofs.YtbhofablndjeoaaDoor
