/- The walk of tree.trimmed. -/
import Derived.Test.YtbhofablndjeoaaDoorTrV
namespace Go.Proofs.YtbhofablndjeoaaDoor
open Go.RowKit
set_option linter.unusedSimpArgs false
set_option linter.unusedVariables false
attribute [local go_sem ↓] wp_loadPt wp_storePt wp_loadNd wp_storeNd wp_bldNd

section
variable {σ : Type} {S : StF σ} {ty : TypeId} {a : Addr} {C : StoreC S ty a}
theorem back_trimTail {Ok : σ → Prop} (hg : ∀ p, Back Ok (S.get p)) (hp : ∀ t l, Back Ok (S.put t l)) (n : NodeT) (i r : Nat) (x : Item) : Back Ok (if (itemText x).length ≤ r ∨ allZero ((itemText x).drop r) = true then M.ret n else M.bind (setM S (lvl n.size) n.root i ((itemText x).take r)) fun q => M.ret ⟨n.size, q⟩ : M σ NodeT) := by
  split
  · exact back_ret _
  · exact back_bind (back_set hg hp _ _ _ _) (fun q => back_ret _)
set_option maxHeartbeats 2000000 in
set_option maxRecDepth 100000 in
theorem trimmed_any {w : World} {st : σ} {F : Nat → Prop} (h : C.Is w st F) (n : NodeT) (hn : n.wf) (m : Nat) (hm : n.size = (m : Int)) (hm2 : m ≤ 16384) (hok : C.Ok (trimmedM S n st).2) :
    Calls Tryd.prog 39 #[.iface ty (.pointer (some a)), .agg (encN n).toArray] w fun e w' => NdR (trimmedM S n st).1 e ∧ C.Step F (trimmedM S n st).2 w w' := by
  obtain ⟨w0, hw0⟩ : ∃ w0, w0 = (w.alloc (.cells (encN n).toArray 37)).alloc (.cells (encN nD).toArray 37) := ⟨_, rfl⟩
  have hb : Blk w0 w.heap.size 37 (encN n) := by rw [hw0]; exact (Blk.new w _ _).alloc _
  have hr : Blk w0 (w.heap.size + 1) 37 (encN nD) := by rw [hw0]; exact Blk.newAt (w := w.alloc _) _ _ (by simp)
  have hbel : Below w.heap.size w w0 := by rw [hw0]; exact ((Below.refl _ _).alloc (Nat.le_refl _) _).alloc (by simp) _
  have h0 : ¬ F w.heap.size := fun hf => by have := C.lt h _ hf; omega
  have h1 : ¬ F (w.heap.size + 1) := fun hf => by have := C.lt h _ hf; omega
  have HAT : Hid (C.At F st w w0 F) := Lib.hid ((StoreC.At.start h).below hbel)
  have HB0 := Lib.hid hb
  have HR0 := Lib.hid hr
  clear hbel hr
  obtain ⟨i, hi⟩ : ∃ i, i = m / 256 := ⟨_, rfl⟩
  obtain ⟨r, hr⟩ : ∃ r, r = m % 256 := ⟨_, rfl⟩
  have HI1 : Hid ((m : Int) / 256 = (i : Int)) := Lib.hid (by omega)
  have HR1 : Hid ((m : Int) % 256 = (r : Int)) := Lib.hid (by omega)
  obtain ⟨R, hRR⟩ : ∃ R, trimmedM S n st = R := ⟨_, rfl⟩
  have hRe := hRR
  unfold trimmedM at hRe
  rw [show n.size.toNat % 256 = r by rw [hm, Int.toNat_natCast]; exact hr.symm, show n.size.toNat / 256 = i by rw [hm, Int.toNat_natCast]; exact hi.symm] at hRe
  rw [hRR] at hok ⊢
  have HOK := Lib.hid hok
  have HM := Lib.hid hm
  have hr256 : r < 256 := by omega
  have hi64 : i ≤ 64 := by omega
  by_cases hz : r = 0
  · rw [if_pos hz] at hRe
    have HRE : Hid ((Except.ok n, st) = R) := Lib.hid hRe
    clear hb hRR hRe hi hr hok hm
    go_enter Tryd.func39, Tryd.ntmps39
    go_upto_region 1 with fail
    rw [show (w.alloc (.cells (encN n).toArray 37)).alloc (.cells #[.int .i64 0, .int .i64 0, .int .i64 0, .int .i64 0, .int .i64 0, .bool false, .int .i64 0, .int .i64 0, .int .i64 0, .int .u64 0, .int .u64 0, .int .u64 0, .int .u64 0] 37) = w0 from hw0.symm]
    clear hw0
    go_wp2_with fail
    have hcd : ∀ k, (w0.drewN k).cell? ⟨w.heap.size, 0, none⟩ = some (.int .i64 (m : Nat)) := fun k => by rw [← HM.out]; exact HB0.out.drewN.cell 0
    go_quiet (fail)
    rw [HI1.out, HR1.out]
    obtain ⟨wq, hwq⟩ : ∃ x, x = w0.drewN nq := ⟨_, rfl⟩
    have HBQ : Hid (Blk wq w.heap.size 37 (encN n)) := by rw [hwq]; exact Lib.hid HB0.out.drewN
    have HRQ : Hid (Blk wq (w.heap.size + 1) 37 (encN nD)) := by rw [hwq]; exact Lib.hid HR0.out.drewN
    have HATQ : Hid (C.At F st w wq F) := by rw [hwq]; exact Lib.hid (HAT.out.below (below_drewN' (Below.refl _ _) nq))
    rw [← hwq]
    clear hwq hcd
    have hld := fun op a next Q => loadW_blk (P := Tryd.prog) HBQ.out Tryd.underlying37 rfl iszNd op a next Q
    have hst := fun op a next Q => storeW_part (P := Tryd.prog) (t := 37) (o := 0) (cs := encN n) HRQ.out (Nat.le_refl 13) iszNd (encN_ones _) op a next Q
    have HA2 := Lib.hid (HATQ.out.put (o := 0) (vs := encN n) (Nat.le_succ _) h1)
    go_wp2_with fail
    refine bodyPost_ret (res_cell_tmp rfl _ _ (w.heap.size + 1) 37 _ _ rfl (HRQ.out.put (vs := encN n) rfl) Tryd.underlying37 rfl iszNd) rfl ?_
    rw [← HRE.out]
    exact ⟨⟨rfl, hn⟩, HA2.out.fin⟩
  · rw [if_neg hz] at hRe
    have hz' : ((r : Int) == 0) = false := by simpa using hz
    have hilt : i < 4 ^ lvl n.size := by
      have := lvl_idx (size := n.size) (off := 256 * i) (by omega) (by omega)
      rwa [Nat.mul_div_cancel_left _ (by omega)] at this
    have hokb : C.Ok (blockM S n i st).2 := back_first (fun x => back_trimTail C.bg C.bp n i r x) (by rw [hRe]; exact hok)
    have HOKB := Lib.hid hokb
    have HRE0 := Lib.hid hRe
    clear hb hRR hRe hi hr hok hz hokb hm
    go_enter Tryd.func39, Tryd.ntmps39
    go_upto_region 1 with fail
    rw [show (w.alloc (.cells (encN n).toArray 37)).alloc (.cells #[.int .i64 0, .int .i64 0, .int .i64 0, .int .i64 0, .int .i64 0, .bool false, .int .i64 0, .int .i64 0, .int .i64 0, .int .u64 0, .int .u64 0, .int .u64 0, .int .u64 0] 37) = w0 from hw0.symm]
    clear hw0
    go_wp2_with fail
    have hcd : ∀ k, (w0.drewN k).cell? ⟨w.heap.size, 0, none⟩ = some (.int .i64 (m : Nat)) := fun k => by rw [← HM.out]; exact HB0.out.drewN.cell 0
    go_quiet (fail)
    rw [HI1.out, HR1.out]
    obtain ⟨wq, hwq⟩ : ∃ x, x = w0.drewN nq := ⟨_, rfl⟩
    have HBQ : Hid (Blk wq w.heap.size 37 (encN n)) := by rw [hwq]; exact Lib.hid HB0.out.drewN
    have HRQ : Hid (Blk wq (w.heap.size + 1) 37 (encN nD)) := by rw [hwq]; exact Lib.hid HR0.out.drewN
    have HATQ : Hid (C.At F st w wq F) := by rw [hwq]; exact Lib.hid (HAT.out.below (below_drewN' (Below.refl _ _) nq))
    rw [← hwq]
    clear hwq hcd
    have hld := fun op a next Q => loadW_blk (P := Tryd.prog) HBQ.out Tryd.underlying37 rfl iszNd op a next Q
    have HBL := Lib.hid (Block_any HATQ.out.1 n hn i (by omega) HOKB.out)
    rcases hbk : blockM S n i st with ⟨rr | x, s1⟩
    · have hRe := HRE0.out
      rw [M.bind_err hbk] at hRe
      rw [hbk] at HBL
      have HRE := Lib.hid hRe
      clear hRe hbk
      go_wp2_with fail
      refine HBL.out.mono ?_
      rintro e w2 ⟨⟨rfl, hr0⟩, hstep⟩
      have hr1 : ((rr : Int) != 0) = true := by simpa using hr0
      obtain ⟨F2, hat, hfr2, hm3⟩ := HATQ.out.step hstep
      have hbr := hm3.blk HRQ.out h1
      have hst := fun op a next Q => storeZNd hbr rfl op a next Q
      have HB2 := Lib.hid hbr
      have HA2 := Lib.hid (hat.put (o := 0) (vs := encN nD) (Nat.le_succ _) (hfr2 _ HRQ.out.lt h1))
      clear hat hfr2 hm3 hbr hstep hld
      go_wp2_with fail
      refine bodyPost_ret (res_cell_tmp rfl _ _ (w.heap.size + 1) 37 _ _ rfl (HB2.out.put (vs := encN nD) rfl) Tryd.underlying37 rfl iszNd) rfl ?_
      rw [← HRE.out]
      exact ⟨⟨rfl, hr0⟩, HA2.out.fin⟩
    · have hRe := HRE0.out
      rw [M.bind_ok hbk] at hRe
      rw [hbk] at HBL
      have HRE1 := Lib.hid hRe
      clear hRe hbk
      go_wp2_with fail
      refine HBL.out.mono ?_
      rintro e w2 ⟨⟨rfl, hgd, hni⟩, hstep⟩
      obtain ⟨F2, hat, hfr2, hm3⟩ := HATQ.out.step hstep
      have HBN2 := Lib.hid (hm3.blk HBQ.out h0)
      have HBR2 := Lib.hid (hm3.blk HRQ.out h1)
      have HF0 := Lib.hid (hfr2 _ HBQ.out.lt h0)
      have HF1 := Lib.hid (hfr2 _ HRQ.out.lt h1)
      have HAT2 := Lib.hid hat
      have hx256 : (itemText x).length ≤ 256 := by
        cases x with
        | data t => exact dataText_le t
        | index l => exact absurd rfl (hni l)
        | hole => simp [itemText]
      clear hat hfr2 hm3 hstep hld
      go_upto_region 7 with fail
      go_cut [10] (fun v wx => v = .string ⟨(itemText x).toArray⟩ ∧ Hid (Below w2.heap.size w2 wx))
      case first =>
        cases x with
        | index l => exact absurd rfl (hni l)
        | data t =>
          have hme := m_data ⟨t.toArray⟩
          unfold encItem
          go_wp2_with fail
          refine (Data_Text_any t w2 (by have := hgd.1; omega)).mono ?_
          rintro e w3 ⟨rfl, hb3⟩
          go_wp2_with fail
          go_meet
          exact ⟨rfl, Lib.hid hb3⟩
        | hole =>
          have hme := m_hole
          unfold encItem
          go_wp2_with fail
          refine (Hole_Text_any w2).mono ?_
          rintro e w3 ⟨rfl, hb3⟩
          go_wp2_with fail
          go_meet
          exact ⟨rfl, Lib.hid hb3⟩
      case rest =>
        obtain ⟨rfl, HBC⟩ := hcut
        obtain ⟨old, hold⟩ : ∃ old, old = itemText x := ⟨_, rfl⟩
        have hRe := HRE1.out
        rw [← hold] at hx256 hRe ⊢
        have HRE2 := Lib.hid hRe
        clear hold hgd hni hRe
        obtain ⟨w3, hw3⟩ : ∃ w3, w3 = wc := ⟨_, rfl⟩
        rw [← hw3] at HBC ⊢
        clear hw3
        have HBN3 := Lib.hid (HBN2.out.below HBC.out)
        have HBR3 := Lib.hid (HBR2.out.below HBC.out)
        have HAT3 := Lib.hid (HAT2.out.below HBC.out)
        have q2 : (0 : Int) ≤ (r : Int) := by omega
        by_cases hle : old.length ≤ r
        · have hRe := HRE2.out
          rw [if_pos (.inl hle)] at hRe
          have HRE : Hid ((Except.ok n, s1) = R) := Lib.hid hRe
          have q1 : (old.length : Int) ≤ (r : Int) := by omega
          have hld3 := fun op a next Q => loadW_blk (P := Tryd.prog) HBN3.out Tryd.underlying37 rfl iszNd op a next Q
          have hst := fun op a next Q => storeW_part (P := Tryd.prog) (t := 37) (o := 0) (cs := encN n) HBR3.out (Nat.le_refl 13) iszNd (encN_ones _) op a next Q
          have HA2 := Lib.hid (HAT3.out.put (o := 0) (vs := encN n) (Nat.le_succ _) HF1.out)
          clear hRe hle
          go_wp2_with fail
          refine bodyPost_ret (res_cell_tmp rfl _ _ (w.heap.size + 1) 37 _ _ rfl (HBR3.out.put (vs := encN n) rfl) Tryd.underlying37 rfl iszNd) rfl ?_
          rw [← HRE.out]
          exact ⟨⟨rfl, hn⟩, HA2.out.fin⟩
        · have q1 : ¬ (old.length : Int) ≤ (r : Int) := by omega
          have q3 : (r : Int) ≤ (old.length : Int) := by omega
          have HTR : Hid (∀ W, Calls Tryd.prog 52 #[.string ((⟨old.toArray⟩ : ByteArray).extract r old.length), .string ⟨#[0]⟩] W fun e w' => e = .returned (.string ⟨(Lib.trimB (old.drop r) 0).toArray⟩) ∧ ∃ m, w' = W.drewN m) := Lib.hid (fun W => by
            rw [str_extract, List.take_length]; exact trim0_any (old.drop r) _ (by simp; omega))
          have hz0 := trimB_zero (old.drop r)
          obtain ⟨tr, htr⟩ : ∃ tr, tr = Lib.trimB (old.drop r) 0 := ⟨_, rfl⟩
          rw [← htr] at hz0 HTR
          have HZ0 := Lib.hid hz0
          have HLE := Lib.hid hle
          clear hz0 htr hle
          go_wp2_with fail
          refine (HTR.out _).mono ?_
          rintro e w4 ⟨rfl, md, rfl⟩
          obtain ⟨w4, hw4⟩ : ∃ x, x = w3.drewN md := ⟨_, rfl⟩
          have HBN4 : Hid (Blk w4 w.heap.size 37 (encN n)) := by rw [hw4]; exact Lib.hid HBN3.out.drewN
          have HBR4 : Hid (Blk w4 (w.heap.size + 1) 37 (encN nD)) := by rw [hw4]; exact Lib.hid HBR3.out.drewN
          have HAT4 : Hid (C.At F s1 w w4 F2) := by rw [hw4]; exact Lib.hid (HAT3.out.below (below_drewN' (Below.refl _ _) md))
          rw [← hw4]
          clear hw4
          by_cases hq : tr.isEmpty = true
          · have hRe := HRE2.out
            rw [if_pos (.inr (by rw [← HZ0.out]; exact hq))] at hRe
            have HRE : Hid ((Except.ok n, s1) = R) := Lib.hid hRe
            have hld4 := fun op a next Q => loadW_blk (P := Tryd.prog) HBN4.out Tryd.underlying37 rfl iszNd op a next Q
            have hst := fun op a next Q => storeW_part (P := Tryd.prog) (t := 37) (o := 0) (cs := encN n) HBR4.out (Nat.le_refl 13) iszNd (encN_ones _) op a next Q
            have HA2 := Lib.hid (HAT4.out.put (o := 0) (vs := encN n) (Nat.le_succ _) HF1.out)
            clear hRe
            go_wp2_with fail
            refine bodyPost_ret (res_cell_tmp rfl _ _ (w.heap.size + 1) 37 _ _ rfl (HBR4.out.put (vs := encN n) rfl) Tryd.underlying37 rfl iszNd) rfl ?_
            rw [← HRE.out]
            exact ⟨⟨rfl, hn⟩, HA2.out.fin⟩
          · have hq' : tr.isEmpty = false := by simpa using hq
            have hRe := HRE2.out
            rw [if_neg (by rintro (h1 | h1); exact HLE.out h1; rw [← HZ0.out] at h1; exact hq h1)] at hRe
            have HATD := Lib.hid (HAT4.out.below (Below.refl _ _).drew)
            have HBN := HBN4
            have HBR := HBR4
            obtain ⟨T, hT⟩ : ∃ T, T = old.take r := ⟨_, rfl⟩
            have htl : T.length ≤ 1000000 := by rw [hT]; simp; omega
            have HT : Hid ((⟨old.toArray⟩ : ByteArray).extract 0 r = ⟨T.toArray⟩) := Lib.hid (by rw [str_extract, List.drop_zero, hT])
            rw [← hT] at hRe
            obtain ⟨rv, s3, hRS⟩ : ∃ rv s3, setM S (lvl n.size) n.root i T s1 = (rv, s3) := ⟨_, _, rfl⟩
            have hokS : C.Ok (setM S (lvl n.size) n.root i T s1).2 := back_first (fun q => back_ret _) (by rw [hRe]; exact HOK.out)
            have HSET := Lib.hid (set_any (lvl n.size) HATD.out.1 n.root hn.root i T (lvl_le _) hilt htl hokS)
            rw [hRS] at HSET
            have HRS := Lib.hid hRS
            have HRE := Lib.hid hRe
            have HLV := Lib.hid fun W => Level_any n.size W hn.size
            obtain ⟨lv, hlv⟩ : ∃ lv, lv = lvl n.size := ⟨_, rfl⟩
            rw [← hlv] at HSET HLV
            have HLVV := Lib.hid hlv
            clear hT hRe hRS hokS hlv hq
            go_wp2_with fail
            refine wp_region_held_drew (S := fun w' => w'.cell? ⟨w.heap.size, 0, none⟩ = some (.int .i64 n.size)) (by kernel_rfl) (HBN.out.drew.cell 0) (fun hS0 => ?_)
            refine wpAnyH_take (i := 0) (oi := ?oic0) (v := ?vc0) ?hic0 ?hsc0 ?hfc0 ?hrc0 ?hQc0 ?hyc0 ?hSc0 ?hc0
            case hic0 => (simp only [List.getElem?_toArray, List.getElem?_cons_succ, List.getElem?_cons_zero]; rfl)
            case hsc0 => kernel_rfl
            case hfc0 => kernel_rfl
            case hrc0 => kernel_rfl
            case hSc0 => first | assumption | trivial
            case hyc0 => refine Or.inl ⟨by kernel_rfl, ?_⟩; (intro w hSw; (try dsimp only at hSw); go_simp; try with_reducible rfl)
            case hQc0 => exact fun _ _ _ h => h
            try simp only [Act.put, List.setIfInBounds_toArray, List.set_cons_zero, List.set_cons_succ]
            refine wpAnyH_take (i := 1) (oi := ?oic1) (v := ?vc1) ?hic1 ?hsc1 ?hfc1 ?hrc1 ?hQc1 ?hyc1 ?hSc1 ?hc1
            case hic1 => (simp only [List.getElem?_toArray, List.getElem?_cons_succ, List.getElem?_cons_zero]; rfl)
            case hsc1 => kernel_rfl
            case hfc1 => kernel_rfl
            case hrc1 => kernel_rfl
            case hSc1 => first | assumption | trivial
            case hyc1 => refine Or.inl ⟨by kernel_rfl, ?_⟩; (intro w hSw; (try dsimp only at hSw); go_simp; try with_reducible rfl)
            case hQc1 => exact fun _ _ _ h => h
            try simp only [Act.put, List.setIfInBounds_toArray, List.set_cons_zero, List.set_cons_succ]
            refine wpAnyH_take (i := 3) (oi := ?oic3) (v := ?vc3) ?hic3 ?hsc3 ?hfc3 ?hrc3 ?hQc3 ?hyc3 ?hSc3 ?hc3
            case hic3 => (simp only [List.getElem?_toArray, List.getElem?_cons_succ, List.getElem?_cons_zero]; rfl)
            case hsc3 => kernel_rfl
            case hfc3 => kernel_rfl
            case hrc3 => kernel_rfl
            case hSc3 => first | assumption | trivial
            case hyc3 => refine Or.inl ⟨by kernel_rfl, ?_⟩; (intro w hSw; (try dsimp only at hSw); go_simp; try with_reducible rfl)
            case hQc3 => exact fun _ _ _ h => h
            try simp only [Act.put, List.setIfInBounds_toArray, List.set_cons_zero, List.set_cons_succ]
            refine wpAnyH_take (i := 4) (oi := ?oic4) (v := ?vc4) ?hic4 ?hsc4 ?hfc4 ?hrc4 ?hQc4 ?hyc4 ?hSc4 ?hc4
            case hic4 => (simp only [List.getElem?_toArray, List.getElem?_cons_succ, List.getElem?_cons_zero]; rfl)
            case hsc4 => kernel_rfl
            case hfc4 => kernel_rfl
            case hrc4 => kernel_rfl
            case hSc4 => first | assumption | trivial
            case hyc4 => refine Or.inl ⟨by kernel_rfl, ?_⟩; (intro w hSw; (try dsimp only at hSw); go_simp; try with_reducible rfl)
            case hQc4 => exact fun _ _ _ h => h
            try simp only [Act.put, List.setIfInBounds_toArray, List.set_cons_zero, List.set_cons_succ]
            refine wpAnyH_take (i := 6) (oi := ?oic6) (v := ?vc6) ?hic6 ?hsc6 ?hfc6 ?hrc6 ?hQc6 ?hyc6 ?hSc6 ?hc6
            case hic6 => (simp only [List.getElem?_toArray, List.getElem?_cons_succ, List.getElem?_cons_zero]; rfl)
            case hsc6 => kernel_rfl
            case hfc6 => kernel_rfl
            case hrc6 => kernel_rfl
            case hSc6 => first | assumption | trivial
            case hyc6 => refine Or.inl ⟨by kernel_rfl, ?_⟩; (intro w hSw; (try dsimp only at hSw); go_simp; try with_reducible rfl)
            case hQc6 => exact fun _ _ _ h => h
            try simp only [Act.put, List.setIfInBounds_toArray, List.set_cons_zero, List.set_cons_succ]
            refine wpAnyH_take (i := 7) (oi := ?oic7) (v := ?vc7) ?hic7 ?hsc7 ?hfc7 ?hrc7 ?hQc7 ?hyc7 ?hSc7 ?hc7
            case hic7 => (simp only [List.getElem?_toArray, List.getElem?_cons_succ, List.getElem?_cons_zero]; rfl)
            case hsc7 => kernel_rfl
            case hfc7 => kernel_rfl
            case hrc7 => kernel_rfl
            case hSc7 => first | assumption | trivial
            case hyc7 => refine Or.inl ⟨by kernel_rfl, ?_⟩; (intro w hSw; (try dsimp only at hSw); go_simp; try with_reducible rfl)
            case hQc7 => exact fun _ _ _ h => h
            try simp only [Act.put, List.setIfInBounds_toArray, List.set_cons_zero, List.set_cons_succ]
            refine wpAnyH_take (i := 8) (oi := ?oic8) (v := ?vc8) ?hic8 ?hsc8 ?hfc8 ?hrc8 ?hQc8 ?hyc8 ?hSc8 ?hc8
            case hic8 => (simp only [List.getElem?_toArray, List.getElem?_cons_succ, List.getElem?_cons_zero]; rfl)
            case hsc8 => kernel_rfl
            case hfc8 => kernel_rfl
            case hrc8 => kernel_rfl
            case hSc8 => first | assumption | trivial
            case hyc8 => refine Or.inl ⟨by kernel_rfl, ?_⟩; (intro w hSw; (try dsimp only at hSw); go_simp; try with_reducible rfl)
            case hQc8 => exact fun _ _ _ h => h
            try simp only [Act.put, List.setIfInBounds_toArray, List.set_cons_zero, List.set_cons_succ]
            refine wpAnyH_take (i := 9) (oi := ?oic9) (v := ?vc9) ?hic9 ?hsc9 ?hfc9 ?hrc9 ?hQc9 ?hyc9 ?hSc9 ?hc9
            case hic9 => (simp only [List.getElem?_toArray, List.getElem?_cons_succ, List.getElem?_cons_zero]; rfl)
            case hsc9 => kernel_rfl
            case hfc9 => kernel_rfl
            case hrc9 => kernel_rfl
            case hSc9 => first | assumption | trivial
            case hyc9 => refine Or.inl ⟨by kernel_rfl, ?_⟩; (intro w hSw; (try dsimp only at hSw); go_simp; rw [HT.out])
            case hQc9 => exact fun _ _ _ h => h
            try simp only [Act.put, List.setIfInBounds_toArray, List.set_cons_zero, List.set_cons_succ]
            refine wpAnyH_ready (rs := [2, 5]) (by kernel_rfl) (by simp) ?_
            refine AllReadyH.cons (by simp only [List.getElem?_toArray, List.getElem?_cons_succ, List.getElem?_cons_zero]; rfl) (fun K hK => ?_) (AllReadyH.cons (by simp only [List.getElem?_toArray, List.getElem?_cons_succ, List.getElem?_cons_zero]; rfl) (fun K hK => ?_) AllReadyH.nil)
            · rw [if_pos (by kernel_rfl)]
              refine wp_load_mid 35 (.tmp 47) rfl w.heap.size (1) rfl (encPtr n.root) _ (range_root HBN.out.drew) Tryd.underlying35 rfl iszPt ?_
              refine hK.out _ _ (by assumption) (fun hScp2 => ?_)
              try simp only [Act.put, List.setIfInBounds_toArray, List.set_cons_zero, List.set_cons_succ]
              refine wpAnyH_ready (rs := [5]) (by kernel_rfl) (by simp) ?_
              refine AllReadyH.cons (by simp only [List.getElem?_toArray, List.getElem?_cons_succ, List.getElem?_cons_zero]; rfl) (fun K hK => ?_) AllReadyH.nil
              go_simp
              refine (HLV.out _).mono ?_
              rintro e w5 ⟨rfl, rfl⟩
              try dsimp only
              refine hK.out _ _ (by assumption) (fun hScp5 => ?_)
              try simp only [Act.put, List.setIfInBounds_toArray, List.set_cons_zero, List.set_cons_succ]
              refine wpAnyH_ready (rs := [10]) (by kernel_rfl) (by simp) ?_
              refine AllReadyH.cons (by simp only [List.getElem?_toArray, List.getElem?_cons_succ, List.getElem?_cons_zero]; rfl) (fun K hK => ?_) AllReadyH.nil
              go_simp
              refine HSET.out.mono ?_
              rintro e w6 ⟨hpr, hstep6⟩
              have hpe := PutR.val hpr
              obtain ⟨q, hq⟩ : ∃ q, ptrV rv = q := ⟨_, rfl⟩
              obtain ⟨E, hE⟩ : ∃ E, errV rv = E := ⟨_, rfl⟩
              rw [hq, hE] at hpe
              subst hpe
              have HQV := Lib.hid hq
              have HEE := Lib.hid hE
              have HPR := Lib.hid (PutR.two hpr)
              clear hq hE hpr
              obtain ⟨F3, hat6, hfr6, hm6⟩ := HATD.out.step hstep6
              have hbn6 := hm6.blk HBN.out.drew HF0.out
              have hbr6 := hm6.blk HBR.out.drew HF1.out
              have hf06 := hfr6 _ HBN.out.lt HF0.out
              have hf16 := hfr6 _ HBR.out.lt HF1.out
              clear hfr6 hstep6 hm6
              try dsimp only
              refine hK.out _ _ (hbn6.cell 0) (fun hScp10 => ?_)
              try simp only [Act.put, List.setIfInBounds_toArray, List.set_cons_zero, List.set_cons_succ]
              refine wpAnyH_take (i := 11) (oi := ?oicp11) (v := ?vcp11) ?hicp11 ?hscp11 ?hfcp11 ?hrcp11 ?hQcp11 ?hycp11 ?hScp11 ?hcp11
              case hicp11 => (simp only [List.getElem?_toArray, List.getElem?_cons_succ, List.getElem?_cons_zero]; rfl)
              case hscp11 => kernel_rfl
              case hfcp11 => kernel_rfl
              case hrcp11 => kernel_rfl
              case hScp11 => first | assumption | trivial
              case hycp11 => refine Or.inl ⟨by kernel_rfl, ?_⟩; (intro w hSw; (try dsimp only at hSw); go_simp; try with_reducible rfl)
              case hQcp11 => exact fun _ _ _ h => h
              try simp only [Act.put, List.setIfInBounds_toArray, List.set_cons_zero, List.set_cons_succ]
              refine wpAnyH_take (i := 12) (oi := ?oicp12) (v := ?vcp12) ?hicp12 ?hscp12 ?hfcp12 ?hrcp12 ?hQcp12 ?hycp12 ?hScp12 ?hcp12
              case hicp12 => (simp only [List.getElem?_toArray, List.getElem?_cons_succ, List.getElem?_cons_zero]; rfl)
              case hscp12 => kernel_rfl
              case hfcp12 => kernel_rfl
              case hrcp12 => kernel_rfl
              case hScp12 => first | assumption | trivial
              case hycp12 => refine Or.inl ⟨by kernel_rfl, ?_⟩; (intro w hSw; (try dsimp only at hSw); go_simp; try with_reducible rfl)
              case hQcp12 => exact fun _ _ _ h => h
              try simp only [Act.put, List.setIfInBounds_toArray, List.set_cons_zero, List.set_cons_succ]
              refine wpAnyH_take (i := 13) (oi := ?oicp13) (v := ?vcp13) ?hicp13 ?hscp13 ?hfcp13 ?hrcp13 ?hQcp13 ?hycp13 ?hScp13 ?hcp13
              case hicp13 => (simp only [List.getElem?_toArray, List.getElem?_cons_succ, List.getElem?_cons_zero]; rfl)
              case hscp13 => kernel_rfl
              case hfcp13 => kernel_rfl
              case hrcp13 => kernel_rfl
              case hScp13 => first | assumption | trivial
              case hycp13 => refine Or.inl ⟨by kernel_rfl, ?_⟩; (intro w hSw; (try dsimp only at hSw); go_simp; try with_reducible rfl)
              case hQcp13 => exact fun _ _ _ h => h
              try simp only [Act.put, List.setIfInBounds_toArray, List.set_cons_zero, List.set_cons_succ]
              refine wpAnyH_take (i := 14) (oi := ?oicp14) (v := ?vcp14) ?hicp14 ?hscp14 ?hfcp14 ?hrcp14 ?hQcp14 ?hycp14 ?hScp14 ?hcp14
              case hicp14 => (simp only [List.getElem?_toArray, List.getElem?_cons_succ, List.getElem?_cons_zero]; rfl)
              case hscp14 => kernel_rfl
              case hfcp14 => kernel_rfl
              case hrcp14 => kernel_rfl
              case hScp14 => first | assumption | trivial
              case hycp14 => refine Or.inl ⟨by kernel_rfl, ?_⟩; (intro w hSw; (try dsimp only at hSw); go_simp; try with_reducible rfl)
              case hQcp14 => exact fun _ _ _ h => h
              try simp only [Act.put, List.setIfInBounds_toArray, List.set_cons_zero, List.set_cons_succ]
              refine wpAnyH_ready (rs := [15]) (by kernel_rfl) (by simp) ?_
              refine AllReadyH.cons (by simp only [List.getElem?_toArray, List.getElem?_cons_succ, List.getElem?_cons_zero]; rfl) (fun K hK => ?_) AllReadyH.nil
              rw [if_pos (by kernel_rfl)]
              refine wp_store_mid 35 (.tmp 59) (.tmp 57) rfl w.heap.size (1) (encPtr q).toArray rfl rfl (blk_there hbn6 (Nat.le_refl 13)) iszPt (all_oneCell_toArray (encPtr_ones _)) ?_
              refine hK.out _ _ ((node_set hbn6 q).cell 0) (fun hScp15 => ?_)
              try simp only [Act.put, List.setIfInBounds_toArray, List.set_cons_zero, List.set_cons_succ]
              refine wpAnyH_take (i := 16) (oi := ?oicp16) (v := ?vcp16) ?hicp16 ?hscp16 ?hfcp16 ?hrcp16 ?hQcp16 ?hycp16 ?hScp16 ?hcp16
              case hicp16 => (simp only [List.getElem?_toArray, List.getElem?_cons_succ, List.getElem?_cons_zero]; rfl)
              case hscp16 => kernel_rfl
              case hfcp16 => kernel_rfl
              case hrcp16 => kernel_rfl
              case hScp16 => first | assumption | trivial
              case hycp16 => refine Or.inl ⟨by kernel_rfl, ?_⟩; (intro w hSw; (try dsimp only at hSw); go_simp; try with_reducible rfl)
              case hQcp16 => exact fun _ _ _ h => h
              try simp only [Act.put, List.setIfInBounds_toArray, List.set_cons_zero, List.set_cons_succ]
              refine wpAnyH_done (by kernel_rfl) ?_ _
              have hset := node_set hbn6 q
              have hbr7 := hbr6.away 1 (encPtr q) (by omega : w.heap.size + 1 ≠ w.heap.size)
              have hat7 := hat6.put (o := 1) (vs := encPtr q) (Nat.le_refl _) hf06
              rcases HPR.out with ⟨r, rfl, hr0⟩ | ⟨q', rfl, hqw⟩
              · have hRe := HRE.out
                rw [M.bind_err HRS.out] at hRe
                obtain rfl := HQV.out
                obtain rfl := HEE.out
                have hr1 : ((r : Int) != 0) = true := by simpa using hr0
                have HRE3 := Lib.hid hRe
                unfold ptrV errV at *
                have hst := fun op a next Q => storeZNd hbr7 rfl op a next Q
                have HB7 := Lib.hid hbr7
                have HA2 := Lib.hid (hat7.put (o := 0) (vs := encN nD) (Nat.le_succ _) hf16)
                clear hset hbr7 hat7 hat6 hbr6 hRe HQV HEE
                go_wp2_with fail
                refine bodyPost_ret (res_cell_tmp rfl _ _ (w.heap.size + 1) 37 _ _ rfl (HB7.out.put (vs := encN nD) rfl) Tryd.underlying37 rfl iszNd) rfl ?_
                rw [← HRE3.out]
                exact ⟨⟨rfl, hr0⟩, HA2.out.fin⟩
              · have hRe := HRE.out
                rw [M.bind_ok HRS.out] at hRe
                obtain rfl : q' = q := HQV.out
                obtain rfl : E = 0 := HEE.out.symm
                have hln := fun op a next Q => loadW_blk (P := Tryd.prog) (t := 37) hset Tryd.underlying37 rfl iszNd op a next Q
                have hst := fun op a next Q => storeW_part (P := Tryd.prog) (t := 37) (o := 0) (cs := encN ⟨n.size, q'⟩) hbr7 (Nat.le_refl 13) iszNd (encN_ones _) op a next Q
                have HB7 := Lib.hid hbr7
                have HA2 := Lib.hid (hat7.put (o := 0) (vs := encN ⟨n.size, q'⟩) (Nat.le_succ _) hf16)
                have HRE3 := Lib.hid hRe
                clear hset hbr7 hat7 hat6 hbr6 hRe
                go_wp2_with fail
                refine bodyPost_ret (res_cell_tmp rfl _ _ (w.heap.size + 1) 37 _ _ rfl (HB7.out.put (vs := encN ⟨n.size, q'⟩) rfl) Tryd.underlying37 rfl iszNd) rfl ?_
                rw [← HRE3.out]
                exact ⟨⟨rfl, ⟨hn.size, hqw⟩⟩, HA2.out.fin⟩
            · go_simp
              refine (HLV.out _).mono ?_
              rintro e w5 ⟨rfl, rfl⟩
              try dsimp only
              refine hK.out _ _ (by assumption) (fun hScq5 => ?_)
              try simp only [Act.put, List.setIfInBounds_toArray, List.set_cons_zero, List.set_cons_succ]
              refine wpAnyH_ready (rs := [2]) (by kernel_rfl) (by simp) ?_
              refine AllReadyH.cons (by simp only [List.getElem?_toArray, List.getElem?_cons_succ, List.getElem?_cons_zero]; rfl) (fun K hK => ?_) AllReadyH.nil
              rw [if_pos (by kernel_rfl)]
              refine wp_load_mid 35 (.tmp 47) rfl w.heap.size (1) rfl (encPtr n.root) _ (range_root HBN.out.drew) Tryd.underlying35 rfl iszPt ?_
              refine hK.out _ _ (by assumption) (fun hScq2 => ?_)
              try simp only [Act.put, List.setIfInBounds_toArray, List.set_cons_zero, List.set_cons_succ]
              refine wpAnyH_ready (rs := [10]) (by kernel_rfl) (by simp) ?_
              refine AllReadyH.cons (by simp only [List.getElem?_toArray, List.getElem?_cons_succ, List.getElem?_cons_zero]; rfl) (fun K hK => ?_) AllReadyH.nil
              go_simp
              refine HSET.out.mono ?_
              rintro e w6 ⟨hpr, hstep6⟩
              have hpe := PutR.val hpr
              obtain ⟨q, hq⟩ : ∃ q, ptrV rv = q := ⟨_, rfl⟩
              obtain ⟨E, hE⟩ : ∃ E, errV rv = E := ⟨_, rfl⟩
              rw [hq, hE] at hpe
              subst hpe
              have HQV := Lib.hid hq
              have HEE := Lib.hid hE
              have HPR := Lib.hid (PutR.two hpr)
              clear hq hE hpr
              obtain ⟨F3, hat6, hfr6, hm6⟩ := HATD.out.step hstep6
              have hbn6 := hm6.blk HBN.out.drew HF0.out
              have hbr6 := hm6.blk HBR.out.drew HF1.out
              have hf06 := hfr6 _ HBN.out.lt HF0.out
              have hf16 := hfr6 _ HBR.out.lt HF1.out
              clear hfr6 hstep6 hm6
              try dsimp only
              refine hK.out _ _ (hbn6.cell 0) (fun hScq10 => ?_)
              try simp only [Act.put, List.setIfInBounds_toArray, List.set_cons_zero, List.set_cons_succ]
              refine wpAnyH_take (i := 11) (oi := ?oicq11) (v := ?vcq11) ?hicq11 ?hscq11 ?hfcq11 ?hrcq11 ?hQcq11 ?hycq11 ?hScq11 ?hcq11
              case hicq11 => (simp only [List.getElem?_toArray, List.getElem?_cons_succ, List.getElem?_cons_zero]; rfl)
              case hscq11 => kernel_rfl
              case hfcq11 => kernel_rfl
              case hrcq11 => kernel_rfl
              case hScq11 => first | assumption | trivial
              case hycq11 => refine Or.inl ⟨by kernel_rfl, ?_⟩; (intro w hSw; (try dsimp only at hSw); go_simp; try with_reducible rfl)
              case hQcq11 => exact fun _ _ _ h => h
              try simp only [Act.put, List.setIfInBounds_toArray, List.set_cons_zero, List.set_cons_succ]
              refine wpAnyH_take (i := 12) (oi := ?oicq12) (v := ?vcq12) ?hicq12 ?hscq12 ?hfcq12 ?hrcq12 ?hQcq12 ?hycq12 ?hScq12 ?hcq12
              case hicq12 => (simp only [List.getElem?_toArray, List.getElem?_cons_succ, List.getElem?_cons_zero]; rfl)
              case hscq12 => kernel_rfl
              case hfcq12 => kernel_rfl
              case hrcq12 => kernel_rfl
              case hScq12 => first | assumption | trivial
              case hycq12 => refine Or.inl ⟨by kernel_rfl, ?_⟩; (intro w hSw; (try dsimp only at hSw); go_simp; try with_reducible rfl)
              case hQcq12 => exact fun _ _ _ h => h
              try simp only [Act.put, List.setIfInBounds_toArray, List.set_cons_zero, List.set_cons_succ]
              refine wpAnyH_take (i := 13) (oi := ?oicq13) (v := ?vcq13) ?hicq13 ?hscq13 ?hfcq13 ?hrcq13 ?hQcq13 ?hycq13 ?hScq13 ?hcq13
              case hicq13 => (simp only [List.getElem?_toArray, List.getElem?_cons_succ, List.getElem?_cons_zero]; rfl)
              case hscq13 => kernel_rfl
              case hfcq13 => kernel_rfl
              case hrcq13 => kernel_rfl
              case hScq13 => first | assumption | trivial
              case hycq13 => refine Or.inl ⟨by kernel_rfl, ?_⟩; (intro w hSw; (try dsimp only at hSw); go_simp; try with_reducible rfl)
              case hQcq13 => exact fun _ _ _ h => h
              try simp only [Act.put, List.setIfInBounds_toArray, List.set_cons_zero, List.set_cons_succ]
              refine wpAnyH_take (i := 14) (oi := ?oicq14) (v := ?vcq14) ?hicq14 ?hscq14 ?hfcq14 ?hrcq14 ?hQcq14 ?hycq14 ?hScq14 ?hcq14
              case hicq14 => (simp only [List.getElem?_toArray, List.getElem?_cons_succ, List.getElem?_cons_zero]; rfl)
              case hscq14 => kernel_rfl
              case hfcq14 => kernel_rfl
              case hrcq14 => kernel_rfl
              case hScq14 => first | assumption | trivial
              case hycq14 => refine Or.inl ⟨by kernel_rfl, ?_⟩; (intro w hSw; (try dsimp only at hSw); go_simp; try with_reducible rfl)
              case hQcq14 => exact fun _ _ _ h => h
              try simp only [Act.put, List.setIfInBounds_toArray, List.set_cons_zero, List.set_cons_succ]
              refine wpAnyH_ready (rs := [15]) (by kernel_rfl) (by simp) ?_
              refine AllReadyH.cons (by simp only [List.getElem?_toArray, List.getElem?_cons_succ, List.getElem?_cons_zero]; rfl) (fun K hK => ?_) AllReadyH.nil
              rw [if_pos (by kernel_rfl)]
              refine wp_store_mid 35 (.tmp 59) (.tmp 57) rfl w.heap.size (1) (encPtr q).toArray rfl rfl (blk_there hbn6 (Nat.le_refl 13)) iszPt (all_oneCell_toArray (encPtr_ones _)) ?_
              refine hK.out _ _ ((node_set hbn6 q).cell 0) (fun hScq15 => ?_)
              try simp only [Act.put, List.setIfInBounds_toArray, List.set_cons_zero, List.set_cons_succ]
              refine wpAnyH_take (i := 16) (oi := ?oicq16) (v := ?vcq16) ?hicq16 ?hscq16 ?hfcq16 ?hrcq16 ?hQcq16 ?hycq16 ?hScq16 ?hcq16
              case hicq16 => (simp only [List.getElem?_toArray, List.getElem?_cons_succ, List.getElem?_cons_zero]; rfl)
              case hscq16 => kernel_rfl
              case hfcq16 => kernel_rfl
              case hrcq16 => kernel_rfl
              case hScq16 => first | assumption | trivial
              case hycq16 => refine Or.inl ⟨by kernel_rfl, ?_⟩; (intro w hSw; (try dsimp only at hSw); go_simp; try with_reducible rfl)
              case hQcq16 => exact fun _ _ _ h => h
              try simp only [Act.put, List.setIfInBounds_toArray, List.set_cons_zero, List.set_cons_succ]
              refine wpAnyH_done (by kernel_rfl) ?_ _
              have hset := node_set hbn6 q
              have hbr7 := hbr6.away 1 (encPtr q) (by omega : w.heap.size + 1 ≠ w.heap.size)
              have hat7 := hat6.put (o := 1) (vs := encPtr q) (Nat.le_refl _) hf06
              rcases HPR.out with ⟨r, rfl, hr0⟩ | ⟨q', rfl, hqw⟩
              · have hRe := HRE.out
                rw [M.bind_err HRS.out] at hRe
                obtain rfl := HQV.out
                obtain rfl := HEE.out
                have hr1 : ((r : Int) != 0) = true := by simpa using hr0
                have HRE3 := Lib.hid hRe
                unfold ptrV errV at *
                have hst := fun op a next Q => storeZNd hbr7 rfl op a next Q
                have HB7 := Lib.hid hbr7
                have HA2 := Lib.hid (hat7.put (o := 0) (vs := encN nD) (Nat.le_succ _) hf16)
                clear hset hbr7 hat7 hat6 hbr6 hRe HQV HEE
                go_wp2_with fail
                refine bodyPost_ret (res_cell_tmp rfl _ _ (w.heap.size + 1) 37 _ _ rfl (HB7.out.put (vs := encN nD) rfl) Tryd.underlying37 rfl iszNd) rfl ?_
                rw [← HRE3.out]
                exact ⟨⟨rfl, hr0⟩, HA2.out.fin⟩
              · have hRe := HRE.out
                rw [M.bind_ok HRS.out] at hRe
                obtain rfl : q' = q := HQV.out
                obtain rfl : E = 0 := HEE.out.symm
                have hln := fun op a next Q => loadW_blk (P := Tryd.prog) (t := 37) hset Tryd.underlying37 rfl iszNd op a next Q
                have hst := fun op a next Q => storeW_part (P := Tryd.prog) (t := 37) (o := 0) (cs := encN ⟨n.size, q'⟩) hbr7 (Nat.le_refl 13) iszNd (encN_ones _) op a next Q
                have HB7 := Lib.hid hbr7
                have HA2 := Lib.hid (hat7.put (o := 0) (vs := encN ⟨n.size, q'⟩) (Nat.le_succ _) hf16)
                have HRE3 := Lib.hid hRe
                clear hset hbr7 hat7 hat6 hbr6 hRe
                go_wp2_with fail
                refine bodyPost_ret (res_cell_tmp rfl _ _ (w.heap.size + 1) 37 _ _ rfl (HB7.out.put (vs := encN ⟨n.size, q'⟩) rfl) Tryd.underlying37 rfl iszNd) rfl ?_
                rw [← HRE3.out]
                exact ⟨⟨rfl, ⟨hn.size, hqw⟩⟩, HA2.out.fin⟩
end
end Go.Proofs.YtbhofablndjeoaaDoor
