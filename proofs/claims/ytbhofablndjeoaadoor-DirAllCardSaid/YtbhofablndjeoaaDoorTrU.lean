/- The walk of tree.laid. -/
import Derived.Test.YtbhofablndjeoaaDoorTrS
import Derived.Test.YtbhofablndjeoaaDoorTrT
import Derived.Deep.DeepCutAuto
namespace Go.Proofs.YtbhofablndjeoaaDoor
open Go.RowKit
set_option linter.unusedSimpArgs false
set_option linter.unusedVariables false
attribute [local go_sem ↓] wp_loadPt wp_storePt wp_loadNd wp_storeNd wp_bldNd

theorem range_root {w : World} {g e : Nat} {n : NodeT} (h : Blk w g e (encN n)) : w.rangeAt g 1 (encPtr n.root) := fun j v hv => by
  rw [h.cell, encN, Nat.add_comm, List.getElem?_cons_succ, hv]
theorem node_set {w : World} {g e : Nat} {n : NodeT} (h : Blk w g e (encN n)) (q : PtrT) : Blk (w.setCells g 1 (encPtr q)) g e (encN ⟨n.size, q⟩) := h.setCells (encPtr q) 1 (Nat.le_refl 13)
section
variable {σ : Type} {S : StF σ} {ty : TypeId} {a : Addr} {C : StoreC S ty a}
set_option maxHeartbeats 2000000 in
set_option maxRecDepth 100000 in
theorem tlaid_any {w : World} {st : σ} {F : Nat → Prop} (h : C.Is w st F) (n : NodeT) (hn : n.wf) (i frm : Nat) (s : Bs) (hi : i < 4 ^ lvl n.size) (hfr : frm ≤ 256) (hsl : s.length ≤ 256) (hok : C.Ok (laidM S n i frm s st).2) :
    Calls Tryd.prog 31 #[.iface ty (.pointer (some a)), .agg (encN n).toArray, .int .i64 (i : Nat), .int .i64 (frm : Nat), .string ⟨s.toArray⟩] w fun e w' => NdR (laidM S n i frm s st).1 e ∧ C.Step F (laidM S n i frm s st).2 w w' := by
  obtain ⟨w0, hw0⟩ : ∃ w0, w0 = (w.alloc (.cells (encN n).toArray 37)).alloc (.cells (encN nD).toArray 37) := ⟨_, rfl⟩
  have hb : Blk w0 w.heap.size 37 (encN n) := by rw [hw0]; exact (Blk.new w _ _).alloc _
  have hr : Blk w0 (w.heap.size + 1) 37 (encN nD) := by rw [hw0]; exact Blk.newAt (w := w.alloc _) _ _ (by simp)
  have hbel : Below w.heap.size w w0 := by rw [hw0]; exact ((Below.refl _ _).alloc (Nat.le_refl _) _).alloc (by simp) _
  have h0 : ¬ F w.heap.size := fun hf => by have := C.lt h _ hf; omega
  have h1 : ¬ F (w.heap.size + 1) := fun hf => by have := C.lt h _ hf; omega
  have HAT : Hid (C.At F st w w0 F) := Lib.hid ((StoreC.At.start h).below hbel)
  have hld := fun op a next Q => loadW_blk (P := Tryd.prog) hb Tryd.underlying37 rfl iszNd op a next Q
  have HB0 := Lib.hid hb
  have HR0 := Lib.hid hr
  have hl3 := lvl_le n.size
  have hp4 : 4 ^ lvl n.size ≤ 4 ^ 3 := Nat.pow_le_pow_right (by omega) hl3
  have hi64 : i < 64 := by omega
  have hRe : laidM S n i frm s st = M.bind (blockM S n i) (fun x => M.bind (setM S (lvl n.size) n.root i (over (itemText x) frm s)) fun r => M.ret ⟨n.size, r⟩) st := rfl
  obtain ⟨R, hRR⟩ : ∃ R, laidM S n i frm s st = R := ⟨_, rfl⟩
  rw [hRR] at hRe hok ⊢
  have hokb : C.Ok (blockM S n i st).2 := back_first (fun x => back_bind (back_set C.bg C.bp _ _ _ _) (fun r => back_ret _)) (by rw [← hRe]; exact hok)
  have HBL := Lib.hid (Block_any HAT.out.1 n hn i (by omega) hokb)
  have HOK := Lib.hid hok
  clear hb hr hbel hok hokb hRR hp4
  rcases hbk : blockM S n i st with ⟨r | x, s1⟩
  · rw [M.bind_err hbk] at hRe
    rw [hbk] at HBL
    have HRE := Lib.hid hRe
    clear hRe hbk
    go_enter Tryd.func31, Tryd.ntmps31
    go_upto_region 1 with fail
    rw [show (w.alloc (.cells (encN n).toArray 37)).alloc (.cells #[.int .i64 0, .int .i64 0, .int .i64 0, .int .i64 0, .int .i64 0, .bool false, .int .i64 0, .int .i64 0, .int .i64 0, .int .u64 0, .int .u64 0, .int .u64 0, .int .u64 0] 37) = w0 from hw0.symm]
    clear hw0
    go_wp2_with fail
    refine HBL.out.mono ?_
    rintro e w2 ⟨⟨rfl, hr0⟩, hstep⟩
    have hr1 : ((r : Int) != 0) = true := by simpa using hr0
    obtain ⟨F2, hat, hfr2, hm⟩ := HAT.out.step hstep
    have hbr := hm.blk HR0.out h1
    have hst := fun op a next Q => storeZNd hbr rfl op a next Q
    have HB2 := Lib.hid hbr
    have HA2 := Lib.hid (hat.put (o := 0) (vs := encN nD) (Nat.le_succ _) (hfr2 _ HR0.out.lt h1))
    clear hat hfr2 hm hbr hstep hld
    go_wp2_with fail
    refine bodyPost_ret (res_cell_tmp rfl _ _ (w.heap.size + 1) 37 _ _ rfl (HB2.out.put (vs := encN nD) rfl) Tryd.underlying37 rfl iszNd) rfl ?_
    rw [HRE.out]
    exact ⟨⟨rfl, hr0⟩, HA2.out.fin⟩
  · rw [M.bind_ok hbk] at hRe
    rw [hbk] at HBL
    have HRE0 := Lib.hid hRe
    clear hRe hbk
    go_enter Tryd.func31, Tryd.ntmps31
    go_upto_region 1 with fail
    rw [show (w.alloc (.cells (encN n).toArray 37)).alloc (.cells #[.int .i64 0, .int .i64 0, .int .i64 0, .int .i64 0, .int .i64 0, .bool false, .int .i64 0, .int .i64 0, .int .i64 0, .int .u64 0, .int .u64 0, .int .u64 0, .int .u64 0] 37) = w0 from hw0.symm]
    clear hw0
    go_wp2_with fail
    refine HBL.out.mono ?_
    rintro e w2 ⟨⟨rfl, hgd, hni⟩, hstep⟩
    obtain ⟨F2, hat, hfr2, hm⟩ := HAT.out.step hstep
    have HBN2 := Lib.hid (hm.blk HB0.out h0)
    have HBR2 := Lib.hid (hm.blk HR0.out h1)
    have HF0 := Lib.hid (hfr2 _ HB0.out.lt h0)
    have HF1 := Lib.hid (hfr2 _ HR0.out.lt h1)
    have HAT2 := Lib.hid hat
    have hx256 : (itemText x).length ≤ 256 := by
      cases x with
      | data t => exact dataText_le t
      | index l => exact absurd rfl (hni l)
      | hole => simp [itemText]
    clear hat hfr2 hm hstep hld
    go_upto_region 4 with fail
    go_cut [14] (fun v wx => v = .string ⟨(itemText x).toArray⟩ ∧ Hid (Below w2.heap.size w2 wx))
    case first =>
      cases x with
      | index l => exact absurd rfl (hni l)
      | data t =>
        have hme := m_data ⟨t.toArray⟩
        unfold encItem
        go_wp2_with fail
        refine (Data_Text_any t w2 (by have := hgd.1; omega)).mono ?_
        rintro e w3 ⟨rfl, hb3⟩
        go_wp2_with fail
        go_meet
        exact ⟨rfl, Lib.hid hb3⟩
      | hole =>
        have hme := m_hole
        unfold encItem
        go_wp2_with fail
        refine (Hole_Text_any w2).mono ?_
        rintro e w3 ⟨rfl, hb3⟩
        go_wp2_with fail
        go_meet
        exact ⟨rfl, Lib.hid hb3⟩
    case rest =>
      obtain ⟨rfl, HBC⟩ := hcut
      obtain ⟨old, hold⟩ : ∃ old, old = itemText x := ⟨_, rfl⟩
      rw [← hold] at hx256 ⊢
      have HOLD := Lib.hid hold
      clear hold hgd hni
      obtain ⟨w3, hw3⟩ : ∃ w3, w3 = wc := ⟨_, rfl⟩
      rw [← hw3] at HBC ⊢
      clear hw3
      go_upto_if 32 with fail
      go_cut [14] (fun v wx => v = .string ⟨(old ++ zeros (frm - old.length)).toArray⟩ ∧ Hid (Below w3.heap.size w3 wx))
      case first =>
        by_cases hlt : old.length < frm
        · have hx1 : (old.length : Int) < (frm : Int) := by omega
          have HREP : Hid ((frm : Int) - (old.length : Int) = ((frm - old.length : Nat) : Int)) := Lib.hid (by omega)
          have hbd : ¬ 9223372036854775807 < old.length + (zeros (frm - old.length)).length := by simp [zeros]; omega
          go_wp2_with fail
          rw [HREP.out]
          refine (repeat0_any (frm - old.length) w3 (by omega)).mono ?_
          rintro e w4 ⟨rfl, hb4⟩
          go_wp2_with fail
          go_meet
          exact ⟨by rw [str_append], Lib.hid hb4⟩
        · have hx1 : ¬ (old.length : Int) < (frm : Int) := by omega
          have e : zeros (frm - old.length) = [] := by rw [show frm - old.length = 0 by omega]; rfl
          have HE := Lib.hid e
          clear e
          go_wp2_with fail
          go_meet
          exact ⟨by rw [HE.out, List.append_nil], Lib.hid (Below.refl _ _)⟩
      case rest =>
        obtain ⟨rfl, HBC2⟩ := hcut
        obtain ⟨o2, ho2⟩ : ∃ o2, o2 = old ++ zeros (frm - old.length) := ⟨_, rfl⟩
        have hlo : frm ≤ o2.length := by rw [ho2]; simp [zeros]; omega
        have hlo2 : o2.length ≤ 512 := by rw [ho2]; simp [zeros]; omega
        rw [← ho2]
        have HO2 := Lib.hid ho2
        clear ho2
        obtain ⟨w4, hw4⟩ : ∃ w4, w4 = wc := ⟨_, rfl⟩
        rw [← hw4] at HBC2 ⊢
        clear hw4
        have q1 : (0 : Int) ≤ (frm : Int) := by omega
        have q2 : (frm : Int) ≤ (o2.length : Int) := by omega
        have hsz1 : ¬ 9223372036854775807 < min frm o2.length + s.length := by omega
        have hov : over old frm s = o2.take frm ++ s ++ o2.drop (frm + s.length) := by unfold over; rw [← HO2.out]
        have HOV := Lib.hid hov
        clear hov
        go_upto_if 49 with fail
        go_cut [15] (fun v wx => v = .string ⟨(over old frm s).toArray⟩ ∧ Hid (wx = w4))
        case first =>
          by_cases hgt : frm + s.length < o2.length
          · have hx1 : (frm : Int) + (s.length : Int) < (o2.length : Int) := by omega
            have hx2 : (frm : Int) + (s.length : Int) ≤ (o2.length : Int) := by omega
            have hx3 : 0 ≤ (frm : Int) + (s.length : Int) := by omega
            have hbd : ¬ 9223372036854775807 < frm + s.length + (o2.length - (frm + s.length)) := by omega
            go_wp2_with fail
            go_meet
            refine ⟨?_, Lib.hid rfl⟩
            rw [HOV.out, str_extract, str_extract, str_append, str_append, List.take_length, List.drop_zero]
          · have hx1 : ¬ (frm : Int) + (s.length : Int) < (o2.length : Int) := by omega
            go_wp2_with fail
            go_meet
            refine ⟨?_, Lib.hid rfl⟩
            rw [HOV.out, str_extract, str_append, List.drop_zero, List.drop_eq_nil_of_le (by omega), List.append_nil]
        case rest =>
          obtain ⟨rfl, hwc⟩ := hcut
          have hb24 : Below w2.heap.size w2 w4 := HBC.out.trans (HBC2.out.mono HBC.out.size)
          rw [hwc.out]
          have HATD := Lib.hid ((HAT2.out.below hb24).below (Below.refl _ _).drew)
          have HBN := Lib.hid (HBN2.out.below hb24)
          have HBR := Lib.hid (HBR2.out.below hb24)
          have htl : (over old frm s).length ≤ 1000000 := by rw [HOV.out]; simp; omega
          obtain ⟨T, hT⟩ : ∃ T, T = over old frm s := ⟨_, rfl⟩
          rw [← hT] at htl ⊢
          have hRe := HRE0.out
          rw [← HOLD.out, ← hT] at hRe
          obtain ⟨rv, s3, hRS⟩ : ∃ rv s3, setM S (lvl n.size) n.root i T s1 = (rv, s3) := ⟨_, _, rfl⟩
          have hokS : C.Ok (setM S (lvl n.size) n.root i T s1).2 := back_first (fun q => back_ret _) (by rw [← hRe]; exact HOK.out)
          have HSET := Lib.hid (set_any (lvl n.size) HATD.out.1 n.root hn.root i T hl3 hi htl hokS)
          rw [hRS] at HSET
          have HRS := Lib.hid hRS
          have HRE := Lib.hid hRe
          have HLV := Lib.hid fun W => Level_any n.size W hn.size
          obtain ⟨lv, hlv⟩ : ∃ lv, lv = lvl n.size := ⟨_, rfl⟩
          rw [← hlv] at HSET HLV
          clear hb24 hT hRe hRS hokS hlv hwc
          go_upto_region 10 with fail
          refine wp_region_held_drew (S := fun w' => w'.cell? ⟨w.heap.size, 0, none⟩ = some (.int .i64 n.size)) (by kernel_rfl) (HBN.out.drew.cell 0) (fun hS0 => ?_)
          refine wpAnyH_take (i := 0) (oi := ?oic0) (v := ?vc0) ?hic0 ?hsc0 ?hfc0 ?hrc0 ?hQc0 ?hyc0 ?hSc0 ?hc0
          case hic0 => (simp only [List.getElem?_toArray, List.getElem?_cons_succ, List.getElem?_cons_zero]; rfl)
          case hsc0 => kernel_rfl
          case hfc0 => kernel_rfl
          case hrc0 => kernel_rfl
          case hSc0 => first | assumption | trivial
          case hyc0 => refine Or.inl ⟨by kernel_rfl, ?_⟩; (intro w hSw; (try dsimp only at hSw); go_simp; try with_reducible rfl)
          case hQc0 => exact fun _ _ _ h => h
          try simp only [Act.put, List.setIfInBounds_toArray, List.set_cons_zero, List.set_cons_succ]
          refine wpAnyH_take (i := 1) (oi := ?oic1) (v := ?vc1) ?hic1 ?hsc1 ?hfc1 ?hrc1 ?hQc1 ?hyc1 ?hSc1 ?hc1
          case hic1 => (simp only [List.getElem?_toArray, List.getElem?_cons_succ, List.getElem?_cons_zero]; rfl)
          case hsc1 => kernel_rfl
          case hfc1 => kernel_rfl
          case hrc1 => kernel_rfl
          case hSc1 => first | assumption | trivial
          case hyc1 => refine Or.inl ⟨by kernel_rfl, ?_⟩; (intro w hSw; (try dsimp only at hSw); go_simp; try with_reducible rfl)
          case hQc1 => exact fun _ _ _ h => h
          try simp only [Act.put, List.setIfInBounds_toArray, List.set_cons_zero, List.set_cons_succ]
          refine wpAnyH_take (i := 3) (oi := ?oic3) (v := ?vc3) ?hic3 ?hsc3 ?hfc3 ?hrc3 ?hQc3 ?hyc3 ?hSc3 ?hc3
          case hic3 => (simp only [List.getElem?_toArray, List.getElem?_cons_succ, List.getElem?_cons_zero]; rfl)
          case hsc3 => kernel_rfl
          case hfc3 => kernel_rfl
          case hrc3 => kernel_rfl
          case hSc3 => first | assumption | trivial
          case hyc3 => refine Or.inl ⟨by kernel_rfl, ?_⟩; (intro w hSw; (try dsimp only at hSw); go_simp; try with_reducible rfl)
          case hQc3 => exact fun _ _ _ h => h
          try simp only [Act.put, List.setIfInBounds_toArray, List.set_cons_zero, List.set_cons_succ]
          refine wpAnyH_take (i := 4) (oi := ?oic4) (v := ?vc4) ?hic4 ?hsc4 ?hfc4 ?hrc4 ?hQc4 ?hyc4 ?hSc4 ?hc4
          case hic4 => (simp only [List.getElem?_toArray, List.getElem?_cons_succ, List.getElem?_cons_zero]; rfl)
          case hsc4 => kernel_rfl
          case hfc4 => kernel_rfl
          case hrc4 => kernel_rfl
          case hSc4 => first | assumption | trivial
          case hyc4 => refine Or.inl ⟨by kernel_rfl, ?_⟩; (intro w hSw; (try dsimp only at hSw); go_simp; try with_reducible rfl)
          case hQc4 => exact fun _ _ _ h => h
          try simp only [Act.put, List.setIfInBounds_toArray, List.set_cons_zero, List.set_cons_succ]
          refine wpAnyH_take (i := 6) (oi := ?oic6) (v := ?vc6) ?hic6 ?hsc6 ?hfc6 ?hrc6 ?hQc6 ?hyc6 ?hSc6 ?hc6
          case hic6 => (simp only [List.getElem?_toArray, List.getElem?_cons_succ, List.getElem?_cons_zero]; rfl)
          case hsc6 => kernel_rfl
          case hfc6 => kernel_rfl
          case hrc6 => kernel_rfl
          case hSc6 => first | assumption | trivial
          case hyc6 => refine Or.inl ⟨by kernel_rfl, ?_⟩; (intro w hSw; (try dsimp only at hSw); go_simp; try with_reducible rfl)
          case hQc6 => exact fun _ _ _ h => h
          try simp only [Act.put, List.setIfInBounds_toArray, List.set_cons_zero, List.set_cons_succ]
          refine wpAnyH_take (i := 7) (oi := ?oic7) (v := ?vc7) ?hic7 ?hsc7 ?hfc7 ?hrc7 ?hQc7 ?hyc7 ?hSc7 ?hc7
          case hic7 => (simp only [List.getElem?_toArray, List.getElem?_cons_succ, List.getElem?_cons_zero]; rfl)
          case hsc7 => kernel_rfl
          case hfc7 => kernel_rfl
          case hrc7 => kernel_rfl
          case hSc7 => first | assumption | trivial
          case hyc7 => refine Or.inl ⟨by kernel_rfl, ?_⟩; (intro w hSw; (try dsimp only at hSw); go_simp; try with_reducible rfl)
          case hQc7 => exact fun _ _ _ h => h
          try simp only [Act.put, List.setIfInBounds_toArray, List.set_cons_zero, List.set_cons_succ]
          refine wpAnyH_ready (rs := [2, 5]) (by kernel_rfl) (by simp) ?_
          refine AllReadyH.cons (by simp only [List.getElem?_toArray, List.getElem?_cons_succ, List.getElem?_cons_zero]; rfl) (fun K hK => ?_) (AllReadyH.cons (by simp only [List.getElem?_toArray, List.getElem?_cons_succ, List.getElem?_cons_zero]; rfl) (fun K hK => ?_) AllReadyH.nil)
          · rw [if_pos (by kernel_rfl)]
            refine wp_load_mid 35 (.tmp 58) rfl w.heap.size (1) rfl (encPtr n.root) _ (range_root HBN.out.drew) Tryd.underlying35 rfl iszPt ?_
            refine hK.out _ _ (by assumption) (fun hScp2 => ?_)
            try simp only [Act.put, List.setIfInBounds_toArray, List.set_cons_zero, List.set_cons_succ]
            refine wpAnyH_ready (rs := [5]) (by kernel_rfl) (by simp) ?_
            refine AllReadyH.cons (by simp only [List.getElem?_toArray, List.getElem?_cons_succ, List.getElem?_cons_zero]; rfl) (fun K hK => ?_) AllReadyH.nil
            go_simp
            refine (HLV.out _).mono ?_
            rintro e w5 ⟨rfl, rfl⟩
            try dsimp only
            refine hK.out _ _ (by assumption) (fun hScp5 => ?_)
            try simp only [Act.put, List.setIfInBounds_toArray, List.set_cons_zero, List.set_cons_succ]
            refine wpAnyH_ready (rs := [8]) (by kernel_rfl) (by simp) ?_
            refine AllReadyH.cons (by simp only [List.getElem?_toArray, List.getElem?_cons_succ, List.getElem?_cons_zero]; rfl) (fun K hK => ?_) AllReadyH.nil
            go_simp
            refine HSET.out.mono ?_
            rintro e w6 ⟨hpr, hstep6⟩
            have hpe := PutR.val hpr
            obtain ⟨q, hq⟩ : ∃ q, ptrV rv = q := ⟨_, rfl⟩
            obtain ⟨E, hE⟩ : ∃ E, errV rv = E := ⟨_, rfl⟩
            rw [hq, hE] at hpe
            subst hpe
            have HQV := Lib.hid hq
            have HEE := Lib.hid hE
            have HPR := Lib.hid (PutR.two hpr)
            clear hq hE hpr
            obtain ⟨F3, hat6, hfr6, hm6⟩ := HATD.out.step hstep6
            have hbn6 := hm6.blk HBN.out.drew HF0.out
            have hbr6 := hm6.blk HBR.out.drew HF1.out
            have hf06 := hfr6 _ HBN.out.lt HF0.out
            have hf16 := hfr6 _ HBR.out.lt HF1.out
            clear hfr6 hstep6 hm6
            try dsimp only
            refine hK.out _ _ (hbn6.cell 0) (fun hScp8 => ?_)
            try simp only [Act.put, List.setIfInBounds_toArray, List.set_cons_zero, List.set_cons_succ]
            refine wpAnyH_take (i := 9) (oi := ?oicp9) (v := ?vcp9) ?hicp9 ?hscp9 ?hfcp9 ?hrcp9 ?hQcp9 ?hycp9 ?hScp9 ?hcp9
            case hicp9 => (simp only [List.getElem?_toArray, List.getElem?_cons_succ, List.getElem?_cons_zero]; rfl)
            case hscp9 => kernel_rfl
            case hfcp9 => kernel_rfl
            case hrcp9 => kernel_rfl
            case hScp9 => first | assumption | trivial
            case hycp9 => refine Or.inl ⟨by kernel_rfl, ?_⟩; (intro w hSw; (try dsimp only at hSw); go_simp; try with_reducible rfl)
            case hQcp9 => exact fun _ _ _ h => h
            try simp only [Act.put, List.setIfInBounds_toArray, List.set_cons_zero, List.set_cons_succ]
            refine wpAnyH_take (i := 10) (oi := ?oicp10) (v := ?vcp10) ?hicp10 ?hscp10 ?hfcp10 ?hrcp10 ?hQcp10 ?hycp10 ?hScp10 ?hcp10
            case hicp10 => (simp only [List.getElem?_toArray, List.getElem?_cons_succ, List.getElem?_cons_zero]; rfl)
            case hscp10 => kernel_rfl
            case hfcp10 => kernel_rfl
            case hrcp10 => kernel_rfl
            case hScp10 => first | assumption | trivial
            case hycp10 => refine Or.inl ⟨by kernel_rfl, ?_⟩; (intro w hSw; (try dsimp only at hSw); go_simp; try with_reducible rfl)
            case hQcp10 => exact fun _ _ _ h => h
            try simp only [Act.put, List.setIfInBounds_toArray, List.set_cons_zero, List.set_cons_succ]
            refine wpAnyH_take (i := 11) (oi := ?oicp11) (v := ?vcp11) ?hicp11 ?hscp11 ?hfcp11 ?hrcp11 ?hQcp11 ?hycp11 ?hScp11 ?hcp11
            case hicp11 => (simp only [List.getElem?_toArray, List.getElem?_cons_succ, List.getElem?_cons_zero]; rfl)
            case hscp11 => kernel_rfl
            case hfcp11 => kernel_rfl
            case hrcp11 => kernel_rfl
            case hScp11 => first | assumption | trivial
            case hycp11 => refine Or.inl ⟨by kernel_rfl, ?_⟩; (intro w hSw; (try dsimp only at hSw); go_simp; try with_reducible rfl)
            case hQcp11 => exact fun _ _ _ h => h
            try simp only [Act.put, List.setIfInBounds_toArray, List.set_cons_zero, List.set_cons_succ]
            refine wpAnyH_take (i := 12) (oi := ?oicp12) (v := ?vcp12) ?hicp12 ?hscp12 ?hfcp12 ?hrcp12 ?hQcp12 ?hycp12 ?hScp12 ?hcp12
            case hicp12 => (simp only [List.getElem?_toArray, List.getElem?_cons_succ, List.getElem?_cons_zero]; rfl)
            case hscp12 => kernel_rfl
            case hfcp12 => kernel_rfl
            case hrcp12 => kernel_rfl
            case hScp12 => first | assumption | trivial
            case hycp12 => refine Or.inl ⟨by kernel_rfl, ?_⟩; (intro w hSw; (try dsimp only at hSw); go_simp; try with_reducible rfl)
            case hQcp12 => exact fun _ _ _ h => h
            try simp only [Act.put, List.setIfInBounds_toArray, List.set_cons_zero, List.set_cons_succ]
            refine wpAnyH_ready (rs := [13]) (by kernel_rfl) (by simp) ?_
            refine AllReadyH.cons (by simp only [List.getElem?_toArray, List.getElem?_cons_succ, List.getElem?_cons_zero]; rfl) (fun K hK => ?_) AllReadyH.nil
            rw [if_pos (by kernel_rfl)]
            refine wp_store_mid 35 (.tmp 68) (.tmp 66) rfl w.heap.size (1) (encPtr q).toArray rfl rfl (blk_there hbn6 (Nat.le_refl 13)) iszPt (all_oneCell_toArray (encPtr_ones _)) ?_
            refine hK.out _ _ ((node_set hbn6 q).cell 0) (fun hScp13 => ?_)
            try simp only [Act.put, List.setIfInBounds_toArray, List.set_cons_zero, List.set_cons_succ]
            refine wpAnyH_take (i := 14) (oi := ?oicp14) (v := ?vcp14) ?hicp14 ?hscp14 ?hfcp14 ?hrcp14 ?hQcp14 ?hycp14 ?hScp14 ?hcp14
            case hicp14 => (simp only [List.getElem?_toArray, List.getElem?_cons_succ, List.getElem?_cons_zero]; rfl)
            case hscp14 => kernel_rfl
            case hfcp14 => kernel_rfl
            case hrcp14 => kernel_rfl
            case hScp14 => first | assumption | trivial
            case hycp14 => refine Or.inl ⟨by kernel_rfl, ?_⟩; (intro w hSw; (try dsimp only at hSw); go_simp; try with_reducible rfl)
            case hQcp14 => exact fun _ _ _ h => h
            try simp only [Act.put, List.setIfInBounds_toArray, List.set_cons_zero, List.set_cons_succ]
            refine wpAnyH_done (by kernel_rfl) ?_ _
            have hset := node_set hbn6 q
            have hbr7 := hbr6.away 1 (encPtr q) (by omega : w.heap.size + 1 ≠ w.heap.size)
            have hat7 := hat6.put (o := 1) (vs := encPtr q) (Nat.le_refl _) hf06
            rcases HPR.out with ⟨r, rfl, hr0⟩ | ⟨q', rfl, hqw⟩
            · have hRe := HRE.out
              rw [M.bind_err HRS.out] at hRe
              obtain rfl := HQV.out
              obtain rfl := HEE.out
              have hr1 : ((r : Int) != 0) = true := by simpa using hr0
              have HRE3 := Lib.hid hRe
              unfold ptrV errV at *
              have hst := fun op a next Q => storeZNd hbr7 rfl op a next Q
              have HB7 := Lib.hid hbr7
              have HA2 := Lib.hid (hat7.put (o := 0) (vs := encN nD) (Nat.le_succ _) hf16)
              clear hset hbr7 hat7 hat6 hbr6 hRe HQV HEE
              go_wp2_with fail
              refine bodyPost_ret (res_cell_tmp rfl _ _ (w.heap.size + 1) 37 _ _ rfl (HB7.out.put (vs := encN nD) rfl) Tryd.underlying37 rfl iszNd) rfl ?_
              rw [HRE3.out]
              exact ⟨⟨rfl, hr0⟩, HA2.out.fin⟩
            · have hRe := HRE.out
              rw [M.bind_ok HRS.out] at hRe
              obtain rfl : q' = q := HQV.out
              obtain rfl : E = 0 := HEE.out.symm
              have hln := fun op a next Q => loadW_blk (P := Tryd.prog) (t := 37) hset Tryd.underlying37 rfl iszNd op a next Q
              have hst := fun op a next Q => storeW_part (P := Tryd.prog) (t := 37) (o := 0) (cs := encN ⟨n.size, q'⟩) hbr7 (Nat.le_refl 13) iszNd (encN_ones _) op a next Q
              have HB7 := Lib.hid hbr7
              have HA2 := Lib.hid (hat7.put (o := 0) (vs := encN ⟨n.size, q'⟩) (Nat.le_succ _) hf16)
              have HRE3 := Lib.hid hRe
              clear hset hbr7 hat7 hat6 hbr6 hRe
              go_wp2_with fail
              refine bodyPost_ret (res_cell_tmp rfl _ _ (w.heap.size + 1) 37 _ _ rfl (HB7.out.put (vs := encN ⟨n.size, q'⟩) rfl) Tryd.underlying37 rfl iszNd) rfl ?_
              rw [HRE3.out]
              exact ⟨⟨rfl, ⟨hn.size, hqw⟩⟩, HA2.out.fin⟩
          · go_simp
            refine (HLV.out _).mono ?_
            rintro e w5 ⟨rfl, rfl⟩
            try dsimp only
            refine hK.out _ _ (by assumption) (fun hScq5 => ?_)
            try simp only [Act.put, List.setIfInBounds_toArray, List.set_cons_zero, List.set_cons_succ]
            refine wpAnyH_ready (rs := [2]) (by kernel_rfl) (by simp) ?_
            refine AllReadyH.cons (by simp only [List.getElem?_toArray, List.getElem?_cons_succ, List.getElem?_cons_zero]; rfl) (fun K hK => ?_) AllReadyH.nil
            rw [if_pos (by kernel_rfl)]
            refine wp_load_mid 35 (.tmp 58) rfl w.heap.size (1) rfl (encPtr n.root) _ (range_root HBN.out.drew) Tryd.underlying35 rfl iszPt ?_
            refine hK.out _ _ (by assumption) (fun hScq2 => ?_)
            try simp only [Act.put, List.setIfInBounds_toArray, List.set_cons_zero, List.set_cons_succ]
            refine wpAnyH_ready (rs := [8]) (by kernel_rfl) (by simp) ?_
            refine AllReadyH.cons (by simp only [List.getElem?_toArray, List.getElem?_cons_succ, List.getElem?_cons_zero]; rfl) (fun K hK => ?_) AllReadyH.nil
            go_simp
            refine HSET.out.mono ?_
            rintro e w6 ⟨hpr, hstep6⟩
            have hpe := PutR.val hpr
            obtain ⟨q, hq⟩ : ∃ q, ptrV rv = q := ⟨_, rfl⟩
            obtain ⟨E, hE⟩ : ∃ E, errV rv = E := ⟨_, rfl⟩
            rw [hq, hE] at hpe
            subst hpe
            have HQV := Lib.hid hq
            have HEE := Lib.hid hE
            have HPR := Lib.hid (PutR.two hpr)
            clear hq hE hpr
            obtain ⟨F3, hat6, hfr6, hm6⟩ := HATD.out.step hstep6
            have hbn6 := hm6.blk HBN.out.drew HF0.out
            have hbr6 := hm6.blk HBR.out.drew HF1.out
            have hf06 := hfr6 _ HBN.out.lt HF0.out
            have hf16 := hfr6 _ HBR.out.lt HF1.out
            clear hfr6 hstep6 hm6
            try dsimp only
            refine hK.out _ _ (hbn6.cell 0) (fun hScq8 => ?_)
            try simp only [Act.put, List.setIfInBounds_toArray, List.set_cons_zero, List.set_cons_succ]
            refine wpAnyH_take (i := 9) (oi := ?oicq9) (v := ?vcq9) ?hicq9 ?hscq9 ?hfcq9 ?hrcq9 ?hQcq9 ?hycq9 ?hScq9 ?hcq9
            case hicq9 => (simp only [List.getElem?_toArray, List.getElem?_cons_succ, List.getElem?_cons_zero]; rfl)
            case hscq9 => kernel_rfl
            case hfcq9 => kernel_rfl
            case hrcq9 => kernel_rfl
            case hScq9 => first | assumption | trivial
            case hycq9 => refine Or.inl ⟨by kernel_rfl, ?_⟩; (intro w hSw; (try dsimp only at hSw); go_simp; try with_reducible rfl)
            case hQcq9 => exact fun _ _ _ h => h
            try simp only [Act.put, List.setIfInBounds_toArray, List.set_cons_zero, List.set_cons_succ]
            refine wpAnyH_take (i := 10) (oi := ?oicq10) (v := ?vcq10) ?hicq10 ?hscq10 ?hfcq10 ?hrcq10 ?hQcq10 ?hycq10 ?hScq10 ?hcq10
            case hicq10 => (simp only [List.getElem?_toArray, List.getElem?_cons_succ, List.getElem?_cons_zero]; rfl)
            case hscq10 => kernel_rfl
            case hfcq10 => kernel_rfl
            case hrcq10 => kernel_rfl
            case hScq10 => first | assumption | trivial
            case hycq10 => refine Or.inl ⟨by kernel_rfl, ?_⟩; (intro w hSw; (try dsimp only at hSw); go_simp; try with_reducible rfl)
            case hQcq10 => exact fun _ _ _ h => h
            try simp only [Act.put, List.setIfInBounds_toArray, List.set_cons_zero, List.set_cons_succ]
            refine wpAnyH_take (i := 11) (oi := ?oicq11) (v := ?vcq11) ?hicq11 ?hscq11 ?hfcq11 ?hrcq11 ?hQcq11 ?hycq11 ?hScq11 ?hcq11
            case hicq11 => (simp only [List.getElem?_toArray, List.getElem?_cons_succ, List.getElem?_cons_zero]; rfl)
            case hscq11 => kernel_rfl
            case hfcq11 => kernel_rfl
            case hrcq11 => kernel_rfl
            case hScq11 => first | assumption | trivial
            case hycq11 => refine Or.inl ⟨by kernel_rfl, ?_⟩; (intro w hSw; (try dsimp only at hSw); go_simp; try with_reducible rfl)
            case hQcq11 => exact fun _ _ _ h => h
            try simp only [Act.put, List.setIfInBounds_toArray, List.set_cons_zero, List.set_cons_succ]
            refine wpAnyH_take (i := 12) (oi := ?oicq12) (v := ?vcq12) ?hicq12 ?hscq12 ?hfcq12 ?hrcq12 ?hQcq12 ?hycq12 ?hScq12 ?hcq12
            case hicq12 => (simp only [List.getElem?_toArray, List.getElem?_cons_succ, List.getElem?_cons_zero]; rfl)
            case hscq12 => kernel_rfl
            case hfcq12 => kernel_rfl
            case hrcq12 => kernel_rfl
            case hScq12 => first | assumption | trivial
            case hycq12 => refine Or.inl ⟨by kernel_rfl, ?_⟩; (intro w hSw; (try dsimp only at hSw); go_simp; try with_reducible rfl)
            case hQcq12 => exact fun _ _ _ h => h
            try simp only [Act.put, List.setIfInBounds_toArray, List.set_cons_zero, List.set_cons_succ]
            refine wpAnyH_ready (rs := [13]) (by kernel_rfl) (by simp) ?_
            refine AllReadyH.cons (by simp only [List.getElem?_toArray, List.getElem?_cons_succ, List.getElem?_cons_zero]; rfl) (fun K hK => ?_) AllReadyH.nil
            rw [if_pos (by kernel_rfl)]
            refine wp_store_mid 35 (.tmp 68) (.tmp 66) rfl w.heap.size (1) (encPtr q).toArray rfl rfl (blk_there hbn6 (Nat.le_refl 13)) iszPt (all_oneCell_toArray (encPtr_ones _)) ?_
            refine hK.out _ _ ((node_set hbn6 q).cell 0) (fun hScq13 => ?_)
            try simp only [Act.put, List.setIfInBounds_toArray, List.set_cons_zero, List.set_cons_succ]
            refine wpAnyH_take (i := 14) (oi := ?oicq14) (v := ?vcq14) ?hicq14 ?hscq14 ?hfcq14 ?hrcq14 ?hQcq14 ?hycq14 ?hScq14 ?hcq14
            case hicq14 => (simp only [List.getElem?_toArray, List.getElem?_cons_succ, List.getElem?_cons_zero]; rfl)
            case hscq14 => kernel_rfl
            case hfcq14 => kernel_rfl
            case hrcq14 => kernel_rfl
            case hScq14 => first | assumption | trivial
            case hycq14 => refine Or.inl ⟨by kernel_rfl, ?_⟩; (intro w hSw; (try dsimp only at hSw); go_simp; try with_reducible rfl)
            case hQcq14 => exact fun _ _ _ h => h
            try simp only [Act.put, List.setIfInBounds_toArray, List.set_cons_zero, List.set_cons_succ]
            refine wpAnyH_done (by kernel_rfl) ?_ _
            have hset := node_set hbn6 q
            have hbr7 := hbr6.away 1 (encPtr q) (by omega : w.heap.size + 1 ≠ w.heap.size)
            have hat7 := hat6.put (o := 1) (vs := encPtr q) (Nat.le_refl _) hf06
            rcases HPR.out with ⟨r, rfl, hr0⟩ | ⟨q', rfl, hqw⟩
            · have hRe := HRE.out
              rw [M.bind_err HRS.out] at hRe
              obtain rfl := HQV.out
              obtain rfl := HEE.out
              have hr1 : ((r : Int) != 0) = true := by simpa using hr0
              have HRE3 := Lib.hid hRe
              unfold ptrV errV at *
              have hst := fun op a next Q => storeZNd hbr7 rfl op a next Q
              have HB7 := Lib.hid hbr7
              have HA2 := Lib.hid (hat7.put (o := 0) (vs := encN nD) (Nat.le_succ _) hf16)
              clear hset hbr7 hat7 hat6 hbr6 hRe HQV HEE
              go_wp2_with fail
              refine bodyPost_ret (res_cell_tmp rfl _ _ (w.heap.size + 1) 37 _ _ rfl (HB7.out.put (vs := encN nD) rfl) Tryd.underlying37 rfl iszNd) rfl ?_
              rw [HRE3.out]
              exact ⟨⟨rfl, hr0⟩, HA2.out.fin⟩
            · have hRe := HRE.out
              rw [M.bind_ok HRS.out] at hRe
              obtain rfl : q' = q := HQV.out
              obtain rfl : E = 0 := HEE.out.symm
              have hln := fun op a next Q => loadW_blk (P := Tryd.prog) (t := 37) hset Tryd.underlying37 rfl iszNd op a next Q
              have hst := fun op a next Q => storeW_part (P := Tryd.prog) (t := 37) (o := 0) (cs := encN ⟨n.size, q'⟩) hbr7 (Nat.le_refl 13) iszNd (encN_ones _) op a next Q
              have HB7 := Lib.hid hbr7
              have HA2 := Lib.hid (hat7.put (o := 0) (vs := encN ⟨n.size, q'⟩) (Nat.le_succ _) hf16)
              have HRE3 := Lib.hid hRe
              clear hset hbr7 hat7 hat6 hbr6 hRe
              go_wp2_with fail
              refine bodyPost_ret (res_cell_tmp rfl _ _ (w.heap.size + 1) 37 _ _ rfl (HB7.out.put (vs := encN ⟨n.size, q'⟩) rfl) Tryd.underlying37 rfl iszNd) rfl ?_
              rw [HRE3.out]
              exact ⟨⟨rfl, ⟨hn.size, hqw⟩⟩, HA2.out.fin⟩
end
end Go.Proofs.YtbhofablndjeoaaDoor
