/- polderlaw12: AllocOver. -/
import Derived.Test.YtmnhdpojonlfhaaAlFm
import Derived.Test.YtmnhdpojonlfhaaAlS
import Derived.Deep.CutBlock
import Derived.Deep.DeepCutAuto
namespace Go.Proofs.Ytmnhdpojonlfhaa
open Go.RowKit
set_option linter.unusedSimpArgs false
attribute [local go_sem ↓] Go.wp_at_zero Go.wp_at_succ

set_option maxRecDepth 100000 in
set_option maxHeartbeats 6400000 in
theorem alover_any (ga : Option Addr) (gn gc : Nat) (gs : Gs) (secs : Int) (aoL : Option Addr) (nL cL : Nat) (zs : List ActB) (aoM : Option Addr) (nM cM : Nat) (ys : List ActB) (w : World) (hg : GSl w ga gn gc gs) (hL : BSl w aoL nL cL zs) (hM : BSl w aoM nM cM ys) :
    Calls Try.prog 20 #[.agg #[.slice ga gn gc, .int .i64 secs], .slice aoL nL cL, .slice aoM nM cM] w fun e w' => e = .returned (.bool true) ∧ Below w.heap.size w w' := by
  have hb0 : Below w.heap.size w (w.alloc (.cells #[.slice ga gn gc, .int .i64 secs] 96)) := (Below.refl _ _).alloc (Nat.le_refl _) _
  have HB0 := Lib.hid hb0
  have HL := Lib.hid hg.len
  have HG0 := Lib.hid hg
  have HSL := Lib.hid hL
  have HSM := Lib.hid hM
  have hmx := hg.mx
  have hmxL := hL.mx
  have hmxM := hM.mx
  have HW0 := Lib.hid (awake12_any (w.alloc (.cells #[.slice ga gn gc, .int .i64 secs] 96)))
  have HR0 := Lib.hid (Blk.new w 96 [.slice ga gn gc, .int .i64 secs])
  clear hb0 hg hL hM
  go_enter Try.func20, Try.ntmps20
  go_wp2_with fail
  refine HW0.out.mono ?_
  rintro e w1 ⟨rfl, hb1⟩
  have B1 := Lib.hid (HB0.out.trans (hb1.mono HB0.out.size))
  have R1 := Lib.hid (HR0.out.below hb1)
  have r0 := R1.out.cell 0
  have r1 := R1.out.cell 1
  have HF := Lib.hid (few12_any ga aoL gn gc nL cL secs w1 hmx hmxL)
  clear hb1
  go_wp2_with fail
  refine HF.out.mono ?_
  rintro e w2 ⟨rfl, hb2⟩
  have B2 := Lib.hid (B1.out.trans (hb2.mono B1.out.size))
  have R2 := Lib.hid (R1.out.below hb2)
  clear hb2 r0 r1
  have r0 := R2.out.cell 0
  have r1 := R2.out.cell 1
  cases fewB nL gn secs
  · have HW2 := Lib.hid (awake12_any w2)
    go_wp2_with fail
    refine HW2.out.mono ?_
    rintro e w3 ⟨rfl, hb3⟩
    go_wp2_with fail
    go_ret
    exact ⟨rfl, B2.out.trans (hb3.mono B2.out.size)⟩
  · have HF2 := Lib.hid (few12_any ga aoM gn gc nM cM secs w2 hmx hmxM)
    go_wp2_with fail
    refine HF2.out.mono ?_
    rintro e w3 ⟨rfl, hb3⟩
    have B3 := Lib.hid (B2.out.trans (hb3.mono B2.out.size))
    have R3 := Lib.hid (R2.out.below hb3)
    clear hb3 r0 r1
    have r0 := R3.out.cell 0
    have r1 := R3.out.cell 1
    cases hfw : fewB nM gn secs
    · have HW2 := Lib.hid (awake12_any w3)
      go_wp2_with fail
      refine HW2.out.mono ?_
      rintro e w4 ⟨rfl, hb4⟩
      go_wp2_with fail
      go_ret
      exact ⟨rfl, B3.out.trans (hb4.mono B3.out.size)⟩
    · have hg3 := HG0.out.below B3.out
      clear hfw
      cases hr : rightB gs secs
      · have HN := Lib.hid (anew_no ga gn gc gs secs w3 hg3 hr)
        have HRF := Lib.hid hr
        clear hg3 hr
        go_wp2_with fail
        refine HN.out.mono ?_
        rintro e w4 ⟨rfl, hb4⟩
        have B4 := Lib.hid (B3.out.trans (hb4.mono B3.out.size))
        have R4 := Lib.hid (R3.out.below hb4)
        have HN2 := Lib.hid (anew_no ga gn gc gs secs w4 (HG0.out.below B4.out) HRF.out)
        clear r0 r1 hb4
        have r0 := R4.out.cell 0
        have r1 := R4.out.cell 1
        go_wp2_with fail
        refine HN2.out.mono ?_
        rintro e w5 ⟨rfl, hb5⟩
        have B5 := Lib.hid (B4.out.trans (hb5.mono B4.out.size))
        have HO := Lib.hid (over_nil w5)
        clear r0 r1 hb5
        go_wp2_with fail
        refine HO.out.mono ?_
        rintro e w6 ⟨rfl, hb6⟩
        have B6 := Lib.hid (B5.out.trans (hb6.mono B5.out.size))
        have HL6 := Lib.hid (aleft_nil w6)
        have HC6 := Lib.hid (acopy_nil w6)
        clear hb6
        go_wp2_with fail
        refine HL6.out.mono ?_
        rintro e w7 ⟨rfl, rfl⟩
        go_wp2_with fail
        refine HC6.out.mono ?_
        rintro e w8 ⟨rfl, rfl⟩
        go_wp2_with fail
        go_ret
        exact ⟨rfl, B6.out⟩
      · have HN := Lib.hid (anew_yes ga gn gc gs secs w3 hg3 hr)
        have HRT := Lib.hid hr
        clear hg3 hr
        go_wp2_with fail
        refine HN.out.mono ?_
        rintro e w4 ⟨ba, ea, ma, rfl, hbk, hfr, hfo0, hb4⟩
        have B4 := Lib.hid (B3.out.trans (hb4.mono B3.out.size))
        have R4 := Lib.hid (R3.out.below hb4)
        have hsl : (st2 ma).length = gs.length := by rw [st2_length, hbk.mlen]
        have hfr2 : ∀ j, j < gs.length → (st2 ma).getD j sD = ((sect (gs.getD j (0, 0)) secs).toNat, []) := fun j hj => by rw [st2_get]; exact hfr j hj
        have HIA := Lib.hid (Inv.fresh HRT.out hsl hfr2)
        have HF4 : Hid (Fam w w4 gs secs [.slice ga gn gc, .int .i64 secs] [⟨ba, ea, ma, List.replicate gs.length 0⟩]) := Lib.hid ⟨fun x hx => by rw [List.mem_singleton.1 hx]; exact hbk, fun x hx k hk => by
          rw [List.mem_singleton.1 hx] at hk
          have := hfo0 k hk
          have h2 := R3.out.lt
          omega, List.pairwise_singleton _ _, R4.out, B4.out⟩
        have HN2 := Lib.hid (anew_yes ga gn gc gs secs w4 (HG0.out.below B4.out) HRT.out)
        clear r0 r1 hbk hfr hfo0 hb4 hsl hfr2
        have r0 := R4.out.cell 0
        have r1 := R4.out.cell 1
        go_wp2_with fail
        refine HN2.out.mono ?_
        rintro e w5 ⟨bb, eb, mb, rfl, hbk, hfr, hfo0, hb5⟩
        have hsl : (st2 mb).length = gs.length := by rw [st2_length, hbk.mlen]
        have hfr2 : ∀ j, j < gs.length → (st2 mb).getD j sD = ((sect (gs.getD j (0, 0)) secs).toNat, []) := fun j hj => by rw [st2_get]; exact hfr j hj
        have HGB := Lib.hid (Inv.fresh HRT.out hsl hfr2).gd
        have HF5 : Hid (Fam w w5 gs secs [.slice ga gn gc, .int .i64 secs] [⟨ba, ea, ma, List.replicate gs.length 0⟩, ⟨bb, eb, mb, List.replicate gs.length 0⟩]) := Lib.hid (HF4.out.push (x := ⟨bb, eb, mb, List.replicate gs.length 0⟩) hb5 hbk hfo0)
        obtain ⟨esb, hesb⟩ : ∃ x, x = List.replicate gs.length 0 := ⟨_, rfl⟩
        rw [← hesb] at HF5 HIA
        clear r0 r1 hbk hfr hfo0 hb5 hsl hfr2 HF4 HN HN2 R4 B4 R3 B3 R2 B2 R1 B1 HR0 HB0 hesb
        go_wp2_with fail
        go_loopw [13] (fun i wr => ∃ (k ea : Nat) (ma : List MT) (es : List Nat), k ≤ nL ∧ i = .int .i64 (k : Nat) ∧ Hid (Fam w wr gs secs [.slice ga gn gc, .int .i64 secs] [⟨ba, ea, ma, es⟩, ⟨bb, eb, mb, esb⟩]) ∧ Hid (Inv gs secs (st2 ma) es)) (fun i _ => nL - (intOf i).toNat)
        case atStart => exact ⟨0, _, _, _, by omega, rfl, HF5, HIA⟩
        case round =>
          obtain ⟨k, ea, ma, es, hk, rfl, HFM, HI⟩ := hrel
          clear HF5 HIA
          by_cases hkn : k < nL
          · obtain ⟨bl, off, rfl, hbl, hc⟩ := HSL.out.cells (by omega)
            obtain ⟨hok, hc⟩ := hc k hkn
            obtain ⟨q, hq⟩ : ∃ q, q = zs.getD k aD := ⟨_, rfl⟩
            rw [← hq] at hc
            obtain ⟨q0, q1, q2, q3, q4⟩ := q
            have c1 : w.cell? ⟨bl, off + k * 16 + 1, none⟩ = some (.int .i64 q1) := hc 1 (by omega)
            have c2 : w.cell? ⟨bl, off + k * 16 + 2, none⟩ = some (.bool q2) := hc 2 (by omega)
            have d1 : wr.cell? ⟨bl, off + k * 16 + 1, none⟩ = some (.int .i64 q1) := (HFM.out.bel.cell (p := ⟨bl, _, none⟩) hbl).trans c1
            have d2 : wr.cell? ⟨bl, off + k * 16 + 2, none⟩ = some (.bool q2) := (HFM.out.bel.cell (p := ⟨bl, _, none⟩) hbl).trans c2
            obtain ⟨r, hr⟩ : ∃ r, r = getA gs secs (st2 ma) es q1 q2 := ⟨_, rfl⟩
            have hnv := HI.out.get q1 q2
            rw [← hr] at hnv
            have HG := Lib.hid (Fam.get (A := []) (B := [⟨bb, eb, mb, esb⟩]) (x := ⟨ba, ea, ma, es⟩) HFM.out hr.symm (Below.refl wr.heap.size wr).drew)
            have HNV := Lib.hid hnv
            have C1 := Lib.hid c1
            have C2 := Lib.hid c2
            clear c1 c2 hc hq hok hr hnv
            go_wp2_with fail
            go_region_held3 (fun w' => w'.cell? ⟨bl, off + k * 16 + 1, none⟩ = some (.int .i64 q1) ∧ w'.cell? ⟨bl, off + k * 16 + 2, none⟩ = some (.bool q2)) (go_keep)
              (first
                | (go_at_call 59; refine HG.out.mono ?_; rintro e w5 ⟨rfl, ea5, ma5, hF5, hst5⟩; have HF5 := Lib.hid hF5; have HST5 := Lib.hid hst5; have hd1 := (hF5.bel.cell (p := ⟨bl, off + k * 16 + 1, none⟩) hbl).trans C1.out; have hd2 := (hF5.bel.cell (p := ⟨bl, off + k * 16 + 2, none⟩) hbl).trans C2.out; clear hF5 hst5))
            go_wp2_with fail
            go_roundw
            case rel => exact ⟨k + 1, ea5, ma5, r.es, by omega, by go_num, HF5, Lib.hid (by rw [HST5.out]; exact HNV.out)⟩
            case measure => simp [intOf]; omega
          · obtain rfl : nL = k := by omega
            have HGA := Lib.hid HI.out.gd
            obtain ⟨sa, hsa⟩ : ∃ s, s = st2 ma := ⟨_, rfl⟩
            have HSA := Lib.hid hsa
            clear hsa HI
            obtain ⟨wo, rfl⟩ : ∃ wo : World, wo = wr := ⟨_, rfl⟩
            go_wp2_with fail
            go_loopw [14] (fun i wr => ∃ (k eb : Nat) (mb : List MT), k ≤ nM ∧ i = .int .i64 (k : Nat) ∧ Hid (Fam w wr gs secs [.slice ga gn gc, .int .i64 secs] [⟨ba, ea, ma, es⟩, ⟨bb, eb, mb, esb⟩]) ∧ Hid (Gd gs secs (st2 mb))) (fun i _ => nM - (intOf i).toNat)
            case atStart => exact ⟨0, _, _, by omega, rfl, HFM, HGB⟩
            case round =>
              clear HFM HGB
              obtain ⟨k, eb, mb, hk, rfl, HFM, HGB⟩ := hrel
              by_cases hkm : k < nM
              · obtain ⟨bl, off, rfl, hbl, hc⟩ := HSM.out.cells (by omega)
                obtain ⟨hok, hc⟩ := hc k hkm
                obtain ⟨q, hq⟩ : ∃ q, q = ys.getD k aD := ⟨_, rfl⟩
                rw [← hq] at hc hok
                obtain ⟨q0, q1, q2, ⟨p0, p1, p2, p3, p4, p5, p6, p7, p8, p9, p10, p11⟩, q4⟩ := q
                have hpo := hok.p
                have hd : ∀ i v, i < 16 → (encB1 ⟨q0, q1, q2, ⟨p0, p1, p2, p3, p4, p5, p6, p7, p8, p9, p10, p11⟩, q4⟩)[i]? = some v → wr.cell? ⟨bl, off + k * 16 + i, none⟩ = some v := fun i v hi hv => (HFM.out.bel.cell (p := ⟨bl, _, none⟩) hbl).trans ((by have := hc i hi; rw [← Nat.add_assoc] at this; exact this : w.cell? ⟨bl, off + k * 16 + i, none⟩ = _).trans hv)
                have d3 := hd 3 _ (by omega) rfl
                have d4 := hd 4 _ (by omega) rfl
                have d5 := hd 5 _ (by omega) rfl
                have d6 := hd 6 _ (by omega) rfl
                have d7 := hd 7 _ (by omega) rfl
                have d8 := hd 8 _ (by omega) rfl
                have d9 := hd 9 _ (by omega) rfl
                have d10 := hd 10 _ (by omega) rfl
                have d11 := hd 11 _ (by omega) rfl
                have d12 := hd 12 _ (by omega) rfl
                have d13 := hd 13 _ (by omega) rfl
                have d14 := hd 14 _ (by omega) rfl
                have HMK := Lib.hid (Fam.mark (A := [⟨ba, ea, ma, es⟩]) (B := []) (x := ⟨bb, eb, mb, esb⟩) HFM.out hpo)
                have HG2 := Lib.hid (fun p => eachA_gd (op := takeS) (fun sz rs a n h => takeS_good h a n) HGB.out p)
                clear hc hq hok hpo hd
                go_wp2_with fail
                refine HMK.out.mono ?_
                rintro e w5 ⟨v, he, eb5, mb5, hF5, hst5⟩
                have he2 := he.out
                clear he
                subst he2
                have HF5 := Lib.hid hF5
                have HST5 := Lib.hid hst5
                clear hF5 hst5
                go_wp2_with fail
                go_roundw
                case rel => exact ⟨k + 1, eb5, mb5, by omega, by go_num, HF5, Lib.hid (by rw [HST5.out]; exact HG2.out _)⟩
                case measure => simp [intOf]; omega
              · obtain rfl : nM = k := by omega
                have hgA := HGA.out
                rw [← HSA.out] at hgA
                obtain ⟨sb, hsb⟩ : ∃ s, s = st2 mb := ⟨_, rfl⟩
                have hgB := HGB.out
                rw [← hsb] at hgB
                obtain ⟨o1, o2, o3⟩ := ovA_spec hgA hgB
                obtain ⟨_, _, o4⟩ := ovA_spec hgB hgA
                have hcm := ovA_comm hgA hgB
                rw [← hcm] at o4
                have hdm : ∀ p : PtrT, (eachA freeS gs secs sb p).1 = 0 → (eachA freeS gs secs (ovA sa sb gs.length) p).1 = 0 := fun p h0 => drop_mono o1 hgB (fun g x hg hu => (o2 g x hg).2 (.inr hu)) h0
                obtain ⟨x, hx⟩ : ∃ x, x = leftA sa := ⟨_, rfl⟩
                obtain ⟨y, hy⟩ : ∃ y, y = leftA sb := ⟨_, rfl⟩
                obtain ⟨z, hz⟩ : ∃ z, z = leftA (ovA sa sb gs.length) := ⟨_, rfl⟩
                rw [← hz, ← hx] at o3
                rw [← hz, ← hy] at o4
                have HX := Lib.hid hx
                have HY := Lib.hid hy
                have HZ := Lib.hid hz
                have HSB := Lib.hid hsb
                have HCM := Lib.hid hcm
                have HDM := Lib.hid hdm
                have hL1 := Fam.left (x := ⟨ba, ea, ma, es⟩) HFM.out (by simp)
                dsimp only at hL1
                rw [← HSA.out, ← HX.out] at hL1
                have HL1 := Lib.hid hL1
                clear hgA hgB o1 o2 hcm hdm hx hy hz hsb hL1
                go_wp2_with fail
                refine HL1.out.mono ?_
                rintro e w1 ⟨rfl, hF1, _⟩
                have HF1 := Lib.hid hF1
                have hL2 := Fam.left (x := ⟨bb, eb, mb, esb⟩) hF1 (by simp)
                dsimp only at hL2
                rw [← HSB.out, ← HY.out] at hL2
                have HL2 := Lib.hid hL2
                clear hF1 hL2
                go_wp2_with fail
                refine HL2.out.mono ?_
                rintro e w2 ⟨rfl, hF2, _⟩
                have HF2 := Lib.hid hF2
                have HO1 := Lib.hid (over_any ba ea bb eb gs secs ma mb es esb w2 (hF2.bk ⟨ba, ea, ma, es⟩ (by simp)) (hF2.bk ⟨bb, eb, mb, esb⟩ (by simp)))
                clear hF2
                go_wp2_with fail
                refine HO1.out.mono ?_
                rintro e w3 ⟨cb, ce, mc, rfl, hbc, hstc, hfc, hb3⟩
                have HF3 := Lib.hid (HF2.out.push (x := ⟨cb, ce, mc, es⟩) hb3 hbc hfc)
                have HST3 : Hid (st2 mc = ovA sa sb gs.length) := Lib.hid (by rw [hstc, HSA.out, HSB.out])
                clear hbc hstc hfc hb3 HO1
                have HO2 := Lib.hid (over_any bb eb ba ea gs secs mb ma esb es w3 (HF3.out.bk ⟨bb, eb, mb, esb⟩ (by simp)) (HF3.out.bk ⟨ba, ea, ma, es⟩ (by simp)))
                go_wp2_with fail
                refine HO2.out.mono ?_
                rintro e w4 ⟨db, de, md, rfl, hbd, hstd, hfd, hb4⟩
                have HF4 := Lib.hid (HF3.out.push (x := ⟨db, de, md, esb⟩) hb4 hbd hfd)
                have HST4 : Hid (st2 md = ovA sa sb gs.length) := Lib.hid (by rw [hstd, HCM.out, HSA.out, HSB.out])
                clear hbd hstd hfd hb4 HO2
                go_upto_region 19 with fail
                go_cut [151] (fun v wx => v = .bool false ∧ Hid (Fam w wx gs secs [.slice ga gn gc, .int .i64 secs] [⟨ba, ea, ma, es⟩, ⟨bb, eb, mb, esb⟩, ⟨cb, ce, mc, es⟩, ⟨db, de, md, esb⟩]))
                case first =>
                  have hL3 := Fam.left (x := ⟨ba, ea, ma, es⟩) HF4.out (by simp)
                  dsimp only at hL3
                  rw [← HSA.out, ← HX.out] at hL3
                  have HL3 := Lib.hid hL3
                  clear hL3
                  go_wp2_with fail
                  refine HL3.out.mono ?_
                  rintro e w5 ⟨rfl, hF5, _⟩
                  have HF5 := Lib.hid hF5
                  have hL4 := Fam.left (x := ⟨bb, eb, mb, esb⟩) hF5 (by simp)
                  dsimp only at hL4
                  rw [← HSB.out, ← HY.out] at hL4
                  have HL4 := Lib.hid hL4
                  clear hF5 hL4
                  go_wp2_with fail
                  refine HL4.out.mono ?_
                  rintro e w6 ⟨rfl, hF6, _⟩
                  have HF6 := Lib.hid hF6
                  have hL5 := Fam.left (x := ⟨cb, ce, mc, es⟩) hF6 (by simp)
                  dsimp only at hL5
                  rw [HST3.out, ← HZ.out] at hL5
                  have HL5 := Lib.hid hL5
                  clear hF6 hL5
                  go_wp2_with fail
                  refine HL5.out.mono ?_
                  rintro e w7 ⟨rfl, hF7, _⟩
                  have HF7 := Lib.hid hF7
                  have hL6 := Fam.left (x := ⟨db, de, md, esb⟩) hF7 (by simp)
                  dsimp only at hL6
                  rw [HST4.out, ← HZ.out] at hL6
                  have HL6 := Lib.hid hL6
                  clear hF7 hL6
                  go_wp2_with fail
                  refine HL6.out.mono ?_
                  rintro e w8 ⟨rfl, hF8, _⟩
                  have HF8 := Lib.hid hF8
                  have hL7 := Fam.left (x := ⟨cb, ce, mc, es⟩) hF8 (by simp)
                  dsimp only at hL7
                  rw [HST3.out, ← HZ.out] at hL7
                  have HL7 := Lib.hid hL7
                  clear hF8 hL7
                  go_wp2_with fail
                  refine HL7.out.mono ?_
                  rintro e w9 ⟨rfl, hF9, _⟩
                  have HF9 := Lib.hid hF9
                  clear hF9
                  go_wp2_with fail
                  all_goals go_meet
                  all_goals exact ⟨by rw [decide_eq_false (by omega)], HF9⟩
                case rest =>
                  obtain ⟨rfl, HF9⟩ := hcut
                  clear HF4 HF3 HF2 HF1 HFM HL1 HL2
                  go_wp2_with fail
                  go_loopw [21] (fun i wr => ∃ (k : Nat), k ≤ nM ∧ i = .int .i64 (k : Nat) ∧ Hid (Fam w wr gs secs [.slice ga gn gc, .int .i64 secs] [⟨ba, ea, ma, es⟩, ⟨bb, eb, mb, esb⟩, ⟨cb, ce, mc, es⟩, ⟨db, de, md, esb⟩])) (fun i _ => nM - (intOf i).toNat)
                  case atStart => exact ⟨0, by omega, rfl, HF9⟩
                  case round =>
                    obtain ⟨k, hk, rfl, HFR⟩ := hrel
                    clear HF9
                    by_cases hkm : k < nM
                    · obtain ⟨bl, off, rfl, hbl, hc⟩ := HSM.out.cells (by omega)
                      obtain ⟨hok, hc⟩ := hc k hkm
                      obtain ⟨q, hq⟩ : ∃ q, q = ys.getD k aD := ⟨_, rfl⟩
                      rw [← hq] at hc hok
                      obtain ⟨q0, q1, q2, ⟨p0, p1, p2, p3, p4, p5, p6, p7, p8, p9, p10, p11⟩, q4⟩ := q
                      have hpo := hok.p
                      have hd : ∀ i v, i < 16 → (encB1 ⟨q0, q1, q2, ⟨p0, p1, p2, p3, p4, p5, p6, p7, p8, p9, p10, p11⟩, q4⟩)[i]? = some v → wr.cell? ⟨bl, off + k * 16 + i, none⟩ = some v := fun i v hi hv => (HFR.out.bel.cell (p := ⟨bl, _, none⟩) hbl).trans ((by have := hc i hi; rw [← Nat.add_assoc] at this; exact this : w.cell? ⟨bl, off + k * 16 + i, none⟩ = _).trans hv)
                      have d3 := hd 3 _ (by omega) rfl
                      have d4 := hd 4 _ (by omega) rfl
                      have d5 := hd 5 _ (by omega) rfl
                      have d6 := hd 6 _ (by omega) rfl
                      have d7 := hd 7 _ (by omega) rfl
                      have d8 := hd 8 _ (by omega) rfl
                      have d9 := hd 9 _ (by omega) rfl
                      have d10 := hd 10 _ (by omega) rfl
                      have d11 := hd 11 _ (by omega) rfl
                      have d12 := hd 12 _ (by omega) rfl
                      have d13 := hd 13 _ (by omega) rfl
                      have d14 := hd 14 _ (by omega) rfl
                      dsimp only at d3 d4 d5 d6 d7 d8 d9 d10 d11 d12 d13 d14
                      obtain ⟨W1, hW1⟩ : ∃ W1, W1 = wr.alloc (.cells #[.int .i64 p0, .int .i64 p1, .int .i64 p2, .int .i64 p3, .bool p4, .int .i64 p5, .int .i64 p6, .int .i64 p7, .int .u64 p8, .int .u64 p9, .int .u64 p10, .int .u64 p11] 68) := ⟨_, rfl⟩
                      have hB1 : Below wr.heap.size wr W1 := by rw [hW1]; exact (Below.refl _ _).alloc (Nat.le_refl _) _
                      have hX1 : Blk W1 wr.heap.size 68 (encPtr ⟨p0, p1, p2, p3, p4, p5, p6, p7, p8, p9, p10, p11⟩) := by rw [hW1]; exact Blk.new wr _ _
                      have HFW := Lib.hid (HFR.out.below hB1)
                      have HXW := Lib.hid hX1
                      have HPO := Lib.hid hpo
                      obtain ⟨r1, hr1⟩ : ∃ r, r = (eachA freeS gs secs sb ⟨p0, p1, p2, p3, p4, p5, p6, p7, p8, p9, p10, p11⟩).1 := ⟨_, rfl⟩
                      have HR1 := Lib.hid hr1
                      have HCB := Lib.hid (Fam.copy (x := ⟨bb, eb, mb, esb⟩) ((HFW.out.below (Below.refl W1.heap.size W1).drew)) (by simp))
                      have hcl : ∀ W, Below W1.heap.size W1 W → _ := fun W hW => ptr_cells (hX1.below hW)
                      have HCL := Lib.hid hcl
                      obtain ⟨x0, x1, x2, x3, x4, x5, x6, x7, x8, x9, x10, x11⟩ := hcl W1 (Below.refl _ _)
                      clear hc hq hok hpo hd hB1 hX1 hcl hr1
                      go_wp2_with fail
                      rw [← hW1]
                      clear hW1 d3 d4 d5 d6 d7 d8 d9 d10 d11 d12 d13 d14
                      by_cases hr0 : r1 = 0
                      · subst hr0
                        refine wp_region_held_drew (S := (fun w' => w'.cell? ⟨wr.heap.size, 0, none⟩ = some (.int .i64 p0) ∧ w'.cell? ⟨wr.heap.size, 1, none⟩ = some (.int .i64 p1) ∧ w'.cell? ⟨wr.heap.size, 2, none⟩ = some (.int .i64 p2) ∧ w'.cell? ⟨wr.heap.size, 3, none⟩ = some (.int .i64 p3) ∧ w'.cell? ⟨wr.heap.size, 4, none⟩ = some (.bool p4) ∧ w'.cell? ⟨wr.heap.size, 5, none⟩ = some (.int .i64 p5) ∧ w'.cell? ⟨wr.heap.size, 6, none⟩ = some (.int .i64 p6) ∧ w'.cell? ⟨wr.heap.size, 7, none⟩ = some (.int .i64 p7) ∧ w'.cell? ⟨wr.heap.size, 8, none⟩ = some (.int .u64 p8) ∧ w'.cell? ⟨wr.heap.size, 9, none⟩ = some (.int .u64 p9) ∧ w'.cell? ⟨wr.heap.size, 10, none⟩ = some (.int .u64 p10) ∧ w'.cell? ⟨wr.heap.size, 11, none⟩ = some (.int .u64 p11))) (by kernel_rfl) (by go_keep) (fun hS0 => ?_)
                        refine wpAnyH_take (i := 0) (oi := ?oia0) (v := ?va0) ?hia0 ?hsa0 ?hfa0 ?hra0 ?hQa0 ?hya0 ?hSa0 ?ha0
                        case hia0 => (simp only [List.getElem?_toArray, List.getElem?_cons_succ, List.getElem?_cons_zero]; rfl)
                        case hsa0 => kernel_rfl
                        case hfa0 => kernel_rfl
                        case hra0 => kernel_rfl
                        case hSa0 => assumption
                        case hya0 => refine Or.inl ⟨by kernel_rfl, ?_⟩; (intro w hSw; (try dsimp only at hSw); go_simp; try with_reducible rfl)
                        case hQa0 => exact fun _ _ _ h => h
                        try simp only [Act.put, List.setIfInBounds_toArray, List.set_cons_zero, List.set_cons_succ]
                        refine wpAnyH_take (i := 2) (oi := ?oia2) (v := ?va2) ?hia2 ?hsa2 ?hfa2 ?hra2 ?hQa2 ?hya2 ?hSa2 ?ha2
                        case hia2 => (simp only [List.getElem?_toArray, List.getElem?_cons_succ, List.getElem?_cons_zero]; rfl)
                        case hsa2 => kernel_rfl
                        case hfa2 => kernel_rfl
                        case hra2 => kernel_rfl
                        case hSa2 => assumption
                        case hya2 => refine Or.inl ⟨by kernel_rfl, ?_⟩; (intro w hSw; (try dsimp only at hSw); go_simp; try with_reducible rfl)
                        case hQa2 => exact fun _ _ _ h => h
                        try simp only [Act.put, List.setIfInBounds_toArray, List.set_cons_zero, List.set_cons_succ]
                        refine wpAnyH_ready (rs := [1]) (by kernel_rfl) (by simp) ?_
                        refine AllReadyH.cons rfl (fun K hK => ?_) AllReadyH.nil
                        go_simp
                        (go_at_call 60; refine HCB.out.mono ?_; rintro e w5 ⟨xb, xe, xm, rfl, hbx, hstx, hfx, hb5⟩; have HB5 := Lib.hid ((Below.refl W1.heap.size W1).drew.trans hb5); have HBX := Lib.hid hbx; have HFX : Hid (∀ k, foot xb xe xm k → W1.heap.size ≤ k) := Lib.hid hfx; have HSX : Hid ((eachA freeS gs secs (st2 xm) ⟨p0, p1, p2, p3, p4, p5, p6, p7, p8, p9, p10, p11⟩).1 = 0) := Lib.hid (by rw [hstx, ← HSB.out]; exact HR1.out.symm); clear hbx hstx hfx hb5 x0 x1 x2 x3 x4 x5 x6 x7 x8 x9 x10 x11; obtain ⟨x0, x1, x2, x3, x4, x5, x6, x7, x8, x9, x10, x11⟩ := HCL.out w5 HB5.out)
                        refine hK.out _ _ (by go_keep) (fun _ => ?_)
                        try simp only [Act.put, List.setIfInBounds_toArray, List.set_cons_zero, List.set_cons_succ]
                        refine wpAnyH_ready (rs := [3]) (by kernel_rfl) (by simp) ?_
                        refine AllReadyH.cons rfl (fun K hK => ?_) AllReadyH.nil
                        go_simp
                        (go_at_call 62; refine (drop_new HB5.out HBX.out HFX.out HPO.out HSX.out).mono ?_; rintro e w6 ⟨rfl, hb6⟩; have HB6 := Lib.hid hb6; clear hb6 x0 x1 x2 x3 x4 x5 x6 x7 x8 x9 x10 x11; obtain ⟨x0, x1, x2, x3, x4, x5, x6, x7, x8, x9, x10, x11⟩ := HCL.out w6 HB6.out)
                        refine hK.out _ _ (by go_keep) (fun _ => ?_)
                        try simp only [Act.put, List.setIfInBounds_toArray, List.set_cons_zero, List.set_cons_succ]
                        refine wpAnyH_take (i := 4) (oi := ?oia4) (v := ?va4) ?hia4 ?hsa4 ?hfa4 ?hra4 ?hQa4 ?hya4 ?hSa4 ?ha4
                        case hia4 => (simp only [List.getElem?_toArray, List.getElem?_cons_succ, List.getElem?_cons_zero]; rfl)
                        case hsa4 => kernel_rfl
                        case hfa4 => kernel_rfl
                        case hra4 => kernel_rfl
                        case hSa4 => assumption
                        case hya4 => refine Or.inl ⟨by kernel_rfl, ?_⟩; (intro w hSw; (try dsimp only at hSw); go_simp; try with_reducible rfl)
                        case hQa4 => exact fun _ _ _ h => h
                        try simp only [Act.put, List.setIfInBounds_toArray, List.set_cons_zero, List.set_cons_succ]
                        refine wpAnyH_take (i := 5) (oi := ?oia5) (v := ?va5) ?hia5 ?hsa5 ?hfa5 ?hra5 ?hQa5 ?hya5 ?hSa5 ?ha5
                        case hia5 => (simp only [List.getElem?_toArray, List.getElem?_cons_succ, List.getElem?_cons_zero]; rfl)
                        case hsa5 => kernel_rfl
                        case hfa5 => kernel_rfl
                        case hra5 => kernel_rfl
                        case hSa5 => assumption
                        case hya5 => refine Or.inl ⟨by kernel_rfl, ?_⟩; (intro w hSw; (try dsimp only at hSw); go_simp; try with_reducible rfl)
                        case hQa5 => exact fun _ _ _ h => h
                        try simp only [Act.put, List.setIfInBounds_toArray, List.set_cons_zero, List.set_cons_succ]
                        refine wpAnyH_take (i := 6) (oi := ?oia6) (v := ?va6) ?hia6 ?hsa6 ?hfa6 ?hra6 ?hQa6 ?hya6 ?hSa6 ?ha6
                        case hia6 => (simp only [List.getElem?_toArray, List.getElem?_cons_succ, List.getElem?_cons_zero]; rfl)
                        case hsa6 => kernel_rfl
                        case hfa6 => kernel_rfl
                        case hra6 => kernel_rfl
                        case hSa6 => assumption
                        case hya6 => refine Or.inl ⟨by kernel_rfl, ?_⟩; (intro w hSw; (try dsimp only at hSw); go_simp; try with_reducible rfl)
                        case hQa6 => exact fun _ _ _ h => h
                        try simp only [Act.put, List.setIfInBounds_toArray, List.set_cons_zero, List.set_cons_succ]
                        refine wpAnyH_take (i := 8) (oi := ?oia8) (v := ?va8) ?hia8 ?hsa8 ?hfa8 ?hra8 ?hQa8 ?hya8 ?hSa8 ?ha8
                        case hia8 => (simp only [List.getElem?_toArray, List.getElem?_cons_succ, List.getElem?_cons_zero]; rfl)
                        case hsa8 => kernel_rfl
                        case hfa8 => kernel_rfl
                        case hra8 => kernel_rfl
                        case hSa8 => assumption
                        case hya8 => refine Or.inl ⟨by kernel_rfl, ?_⟩; (intro w hSw; (try dsimp only at hSw); go_simp; try with_reducible rfl)
                        case hQa8 => exact fun _ _ _ h => h
                        try simp only [Act.put, List.setIfInBounds_toArray, List.set_cons_zero, List.set_cons_succ]
                        refine wpAnyH_ready (rs := [7]) (by kernel_rfl) (by simp) ?_
                        refine AllReadyH.cons rfl (fun K hK => ?_) AllReadyH.nil
                        go_simp
                        (go_at_call 60; refine (Fam.copy (x := ⟨cb, ce, mc, es⟩) (HFW.out.below HB6.out) (by simp)).mono ?_; rintro e w7 ⟨vb, ve, vm, rfl, hbx, hstx, hfx, hb7⟩; have HB7 := Lib.hid (HB6.out.trans (hb7.mono HB6.out.size)); have HBY := Lib.hid hbx; have HFY : Hid (∀ k, foot vb ve vm k → W1.heap.size ≤ k) := Lib.hid (fun k hk => Nat.le_trans HB6.out.size (hfx k hk)); have HSY : Hid ((eachA freeS gs secs (st2 vm) ⟨p0, p1, p2, p3, p4, p5, p6, p7, p8, p9, p10, p11⟩).1 = 0) := Lib.hid (by rw [hstx]; dsimp only; rw [HST3.out]; exact HDM.out _ HR1.out.symm); clear hbx hstx hfx hb7 x0 x1 x2 x3 x4 x5 x6 x7 x8 x9 x10 x11; obtain ⟨x0, x1, x2, x3, x4, x5, x6, x7, x8, x9, x10, x11⟩ := HCL.out w7 HB7.out)
                        refine hK.out _ _ (by go_keep) (fun _ => ?_)
                        try simp only [Act.put, List.setIfInBounds_toArray, List.set_cons_zero, List.set_cons_succ]
                        refine wpAnyH_ready (rs := [9]) (by kernel_rfl) (by simp) ?_
                        refine AllReadyH.cons rfl (fun K hK => ?_) AllReadyH.nil
                        go_simp
                        (go_at_call 62; refine (drop_new HB7.out HBY.out HFY.out HPO.out HSY.out).mono ?_; rintro e w8 ⟨rfl, hb8⟩; have HB8 := Lib.hid hb8; clear hb8 x0 x1 x2 x3 x4 x5 x6 x7 x8 x9 x10 x11; obtain ⟨x0, x1, x2, x3, x4, x5, x6, x7, x8, x9, x10, x11⟩ := HCL.out w8 HB8.out)
                        refine hK.out _ _ (by go_keep) (fun _ => ?_)
                        try simp only [Act.put, List.setIfInBounds_toArray, List.set_cons_zero, List.set_cons_succ]
                        refine wpAnyH_take (i := 10) (oi := ?oia10) (v := ?va10) ?hia10 ?hsa10 ?hfa10 ?hra10 ?hQa10 ?hya10 ?hSa10 ?ha10
                        case hia10 => (simp only [List.getElem?_toArray, List.getElem?_cons_succ, List.getElem?_cons_zero]; rfl)
                        case hsa10 => kernel_rfl
                        case hfa10 => kernel_rfl
                        case hra10 => kernel_rfl
                        case hSa10 => assumption
                        case hya10 => refine Or.inl ⟨by kernel_rfl, ?_⟩; (intro w hSw; (try dsimp only at hSw); go_simp; try with_reducible rfl)
                        case hQa10 => exact fun _ _ _ h => h
                        try simp only [Act.put, List.setIfInBounds_toArray, List.set_cons_zero, List.set_cons_succ]
                        refine wpAnyH_take (i := 11) (oi := ?oia11) (v := ?va11) ?hia11 ?hsa11 ?hfa11 ?hra11 ?hQa11 ?hya11 ?hSa11 ?ha11
                        case hia11 => (simp only [List.getElem?_toArray, List.getElem?_cons_succ, List.getElem?_cons_zero]; rfl)
                        case hsa11 => kernel_rfl
                        case hfa11 => kernel_rfl
                        case hra11 => kernel_rfl
                        case hSa11 => assumption
                        case hya11 => refine Or.inl ⟨by kernel_rfl, ?_⟩; (intro w hSw; (try dsimp only at hSw); go_simp; try with_reducible rfl)
                        case hQa11 => exact fun _ _ _ h => h
                        try simp only [Act.put, List.setIfInBounds_toArray, List.set_cons_zero, List.set_cons_succ]
                        refine wpAnyH_done (by kernel_rfl) ?_ _
                        go_wp2_with fail
                        go_roundw
                        case rel => exact ⟨k + 1, by omega, by go_num, Lib.hid (HFW.out.below HB8.out)⟩
                        case measure => simp [intOf]; omega
                      · have hr1 : (r1 == 0) = false := by simpa using hr0
                        refine wp_region_held_drew (S := (fun w' => w'.cell? ⟨wr.heap.size, 0, none⟩ = some (.int .i64 p0) ∧ w'.cell? ⟨wr.heap.size, 1, none⟩ = some (.int .i64 p1) ∧ w'.cell? ⟨wr.heap.size, 2, none⟩ = some (.int .i64 p2) ∧ w'.cell? ⟨wr.heap.size, 3, none⟩ = some (.int .i64 p3) ∧ w'.cell? ⟨wr.heap.size, 4, none⟩ = some (.bool p4) ∧ w'.cell? ⟨wr.heap.size, 5, none⟩ = some (.int .i64 p5) ∧ w'.cell? ⟨wr.heap.size, 6, none⟩ = some (.int .i64 p6) ∧ w'.cell? ⟨wr.heap.size, 7, none⟩ = some (.int .i64 p7) ∧ w'.cell? ⟨wr.heap.size, 8, none⟩ = some (.int .u64 p8) ∧ w'.cell? ⟨wr.heap.size, 9, none⟩ = some (.int .u64 p9) ∧ w'.cell? ⟨wr.heap.size, 10, none⟩ = some (.int .u64 p10) ∧ w'.cell? ⟨wr.heap.size, 11, none⟩ = some (.int .u64 p11))) (by kernel_rfl) (by go_keep) (fun hS0 => ?_)
                        refine wpAnyH_take (i := 0) (oi := ?oib0) (v := ?vb0) ?hib0 ?hsb0 ?hfb0 ?hrb0 ?hQb0 ?hyb0 ?hSb0 ?hb0
                        case hib0 => (simp only [List.getElem?_toArray, List.getElem?_cons_succ, List.getElem?_cons_zero]; rfl)
                        case hsb0 => kernel_rfl
                        case hfb0 => kernel_rfl
                        case hrb0 => kernel_rfl
                        case hSb0 => assumption
                        case hyb0 => refine Or.inl ⟨by kernel_rfl, ?_⟩; (intro w hSw; (try dsimp only at hSw); go_simp; try with_reducible rfl)
                        case hQb0 => exact fun _ _ _ h => h
                        try simp only [Act.put, List.setIfInBounds_toArray, List.set_cons_zero, List.set_cons_succ]
                        refine wpAnyH_take (i := 2) (oi := ?oib2) (v := ?vb2) ?hib2 ?hsb2 ?hfb2 ?hrb2 ?hQb2 ?hyb2 ?hSb2 ?hb2
                        case hib2 => (simp only [List.getElem?_toArray, List.getElem?_cons_succ, List.getElem?_cons_zero]; rfl)
                        case hsb2 => kernel_rfl
                        case hfb2 => kernel_rfl
                        case hrb2 => kernel_rfl
                        case hSb2 => assumption
                        case hyb2 => refine Or.inl ⟨by kernel_rfl, ?_⟩; (intro w hSw; (try dsimp only at hSw); go_simp; try with_reducible rfl)
                        case hQb2 => exact fun _ _ _ h => h
                        try simp only [Act.put, List.setIfInBounds_toArray, List.set_cons_zero, List.set_cons_succ]
                        refine wpAnyH_ready (rs := [1]) (by kernel_rfl) (by simp) ?_
                        refine AllReadyH.cons rfl (fun K hK => ?_) AllReadyH.nil
                        go_simp
                        (go_at_call 60; refine HCB.out.mono ?_; rintro e w5 ⟨xb, xe, xm, rfl, hbx, hstx, hfx, hb5⟩; have HB5 := Lib.hid ((Below.refl W1.heap.size W1).drew.trans hb5); have HBX := Lib.hid hbx; have HFX : Hid (∀ k, foot xb xe xm k → W1.heap.size ≤ k) := Lib.hid hfx; have HSX : Hid ((eachA freeS gs secs (st2 xm) ⟨p0, p1, p2, p3, p4, p5, p6, p7, p8, p9, p10, p11⟩).1 = r1) := Lib.hid (by rw [hstx, ← HSB.out]; exact HR1.out.symm); clear hbx hstx hfx hb5 x0 x1 x2 x3 x4 x5 x6 x7 x8 x9 x10 x11; obtain ⟨x0, x1, x2, x3, x4, x5, x6, x7, x8, x9, x10, x11⟩ := HCL.out w5 HB5.out)
                        refine hK.out _ _ (by go_keep) (fun _ => ?_)
                        try simp only [Act.put, List.setIfInBounds_toArray, List.set_cons_zero, List.set_cons_succ]
                        refine wpAnyH_ready (rs := [3]) (by kernel_rfl) (by simp) ?_
                        refine AllReadyH.cons rfl (fun K hK => ?_) AllReadyH.nil
                        go_simp
                        (go_at_call 62; refine (drop_new HB5.out HBX.out HFX.out HPO.out HSX.out).mono ?_; rintro e w6 ⟨rfl, hb6⟩; have HB6 := Lib.hid hb6; clear hb6 x0 x1 x2 x3 x4 x5 x6 x7 x8 x9 x10 x11; obtain ⟨x0, x1, x2, x3, x4, x5, x6, x7, x8, x9, x10, x11⟩ := HCL.out w6 HB6.out)
                        refine hK.out _ _ (by go_keep) (fun _ => ?_)
                        try simp only [Act.put, List.setIfInBounds_toArray, List.set_cons_zero, List.set_cons_succ]
                        refine wpAnyH_take (i := 4) (oi := ?oib4) (v := ?vb4) ?hib4 ?hsb4 ?hfb4 ?hrb4 ?hQb4 ?hyb4 ?hSb4 ?hb4
                        case hib4 => (simp only [List.getElem?_toArray, List.getElem?_cons_succ, List.getElem?_cons_zero]; rfl)
                        case hsb4 => kernel_rfl
                        case hfb4 => kernel_rfl
                        case hrb4 => kernel_rfl
                        case hSb4 => assumption
                        case hyb4 => refine Or.inl ⟨by kernel_rfl, ?_⟩; (intro w hSw; (try dsimp only at hSw); go_simp; try with_reducible rfl)
                        case hQb4 => exact fun _ _ _ h => h
                        try simp only [Act.put, List.setIfInBounds_toArray, List.set_cons_zero, List.set_cons_succ]
                        refine wpAnyH_take (i := 5) (oi := ?oib5) (v := ?vb5) ?hib5 ?hsb5 ?hfb5 ?hrb5 ?hQb5 ?hyb5 ?hSb5 ?hb5
                        case hib5 => (simp only [List.getElem?_toArray, List.getElem?_cons_succ, List.getElem?_cons_zero]; rfl)
                        case hsb5 => kernel_rfl
                        case hfb5 => kernel_rfl
                        case hrb5 => kernel_rfl
                        case hSb5 => assumption
                        case hyb5 => refine Or.inl ⟨by kernel_rfl, ?_⟩; (intro w hSw; (try dsimp only at hSw); go_simp; try with_reducible rfl)
                        case hQb5 => exact fun _ _ _ h => h
                        try simp only [Act.put, List.setIfInBounds_toArray, List.set_cons_zero, List.set_cons_succ]
                        refine wpAnyH_take (i := 6) (oi := ?oib6) (v := undef) ?hib6 ?hsb6 ?hfb6 ?hrb6 ?hQb6 ?hyb6 ?hSb6 ?hb6
                        case hib6 => (simp only [List.getElem?_toArray, List.getElem?_cons_succ, List.getElem?_cons_zero]; rfl)
                        case hsb6 => kernel_rfl
                        case hfb6 => kernel_rfl
                        case hrb6 => kernel_rfl
                        case hSb6 => assumption
                        case hyb6 => exact Or.inr ⟨by kernel_rfl, rfl⟩
                        case hQb6 => exact fun _ _ _ h => h
                        try simp only [Act.put, List.setIfInBounds_toArray, List.set_cons_zero, List.set_cons_succ]
                        refine wpAnyH_take (i := 7) (oi := ?oib7) (v := undef) ?hib7 ?hsb7 ?hfb7 ?hrb7 ?hQb7 ?hyb7 ?hSb7 ?hb7
                        case hib7 => (simp only [List.getElem?_toArray, List.getElem?_cons_succ, List.getElem?_cons_zero]; rfl)
                        case hsb7 => kernel_rfl
                        case hfb7 => kernel_rfl
                        case hrb7 => kernel_rfl
                        case hSb7 => assumption
                        case hyb7 => exact Or.inr ⟨by kernel_rfl, rfl⟩
                        case hQb7 => exact fun _ _ _ h => h
                        try simp only [Act.put, List.setIfInBounds_toArray, List.set_cons_zero, List.set_cons_succ]
                        refine wpAnyH_take (i := 8) (oi := ?oib8) (v := undef) ?hib8 ?hsb8 ?hfb8 ?hrb8 ?hQb8 ?hyb8 ?hSb8 ?hb8
                        case hib8 => (simp only [List.getElem?_toArray, List.getElem?_cons_succ, List.getElem?_cons_zero]; rfl)
                        case hsb8 => kernel_rfl
                        case hfb8 => kernel_rfl
                        case hrb8 => kernel_rfl
                        case hSb8 => assumption
                        case hyb8 => exact Or.inr ⟨by kernel_rfl, rfl⟩
                        case hQb8 => exact fun _ _ _ h => h
                        try simp only [Act.put, List.setIfInBounds_toArray, List.set_cons_zero, List.set_cons_succ]
                        refine wpAnyH_take (i := 9) (oi := ?oib9) (v := undef) ?hib9 ?hsb9 ?hfb9 ?hrb9 ?hQb9 ?hyb9 ?hSb9 ?hb9
                        case hib9 => (simp only [List.getElem?_toArray, List.getElem?_cons_succ, List.getElem?_cons_zero]; rfl)
                        case hsb9 => kernel_rfl
                        case hfb9 => kernel_rfl
                        case hrb9 => kernel_rfl
                        case hSb9 => assumption
                        case hyb9 => exact Or.inr ⟨by kernel_rfl, rfl⟩
                        case hQb9 => exact fun _ _ _ h => h
                        try simp only [Act.put, List.setIfInBounds_toArray, List.set_cons_zero, List.set_cons_succ]
                        refine wpAnyH_take (i := 10) (oi := ?oib10) (v := undef) ?hib10 ?hsb10 ?hfb10 ?hrb10 ?hQb10 ?hyb10 ?hSb10 ?hb10
                        case hib10 => (simp only [List.getElem?_toArray, List.getElem?_cons_succ, List.getElem?_cons_zero]; rfl)
                        case hsb10 => kernel_rfl
                        case hfb10 => kernel_rfl
                        case hrb10 => kernel_rfl
                        case hSb10 => assumption
                        case hyb10 => exact Or.inr ⟨by kernel_rfl, rfl⟩
                        case hQb10 => exact fun _ _ _ h => h
                        try simp only [Act.put, List.setIfInBounds_toArray, List.set_cons_zero, List.set_cons_succ]
                        refine wpAnyH_take (i := 11) (oi := ?oib11) (v := ?vb11) ?hib11 ?hsb11 ?hfb11 ?hrb11 ?hQb11 ?hyb11 ?hSb11 ?hb11
                        case hib11 => (simp only [List.getElem?_toArray, List.getElem?_cons_succ, List.getElem?_cons_zero]; rfl)
                        case hsb11 => kernel_rfl
                        case hfb11 => kernel_rfl
                        case hrb11 => kernel_rfl
                        case hSb11 => assumption
                        case hyb11 => refine Or.inl ⟨by kernel_rfl, ?_⟩; (intro w hSw; (try dsimp only at hSw); go_simp; try with_reducible rfl)
                        case hQb11 => exact fun _ _ _ h => h
                        try simp only [Act.put, List.setIfInBounds_toArray, List.set_cons_zero, List.set_cons_succ]
                        refine wpAnyH_done (by kernel_rfl) ?_ _
                        go_wp2_with fail
                        go_roundw
                        case rel => exact ⟨k + 1, by omega, by go_num, Lib.hid (HFW.out.below HB6.out)⟩
                        case measure => simp [intOf]; omega
                    · obtain rfl : nM = k := by omega
                      have HGC := Lib.hid (Fam.get (size := 1) (two := false) (A := [⟨ba, ea, ma, es⟩, ⟨bb, eb, mb, esb⟩]) (B := [⟨db, de, md, esb⟩]) (x := ⟨cb, ce, mc, es⟩) (W := wr) HFR.out rfl (Below.refl _ _))
                      go_wp2_with fail
                      refine HGC.out.mono ?_
                      rintro e w5 ⟨rfl, ce5, mc5, hF5, _⟩
                      have HF5 := Lib.hid hF5
                      have hL8 := Fam.left (x := ⟨ba, ea, ma, es⟩) hF5 (by simp)
                      dsimp only at hL8
                      rw [← HSA.out, ← HX.out] at hL8
                      have HL8 := Lib.hid hL8
                      clear hF5 hL8
                      go_wp2_with fail
                      refine HL8.out.mono ?_
                      rintro e w6 ⟨rfl, hF6, _⟩
                      have HF6 := Lib.hid hF6
                      have hL9 := Fam.left (x := ⟨bb, eb, mb, esb⟩) hF6 (by simp)
                      dsimp only at hL9
                      rw [← HSB.out, ← HY.out] at hL9
                      have HL9 := Lib.hid hL9
                      clear hF6 hL9
                      go_wp2_with fail
                      refine HL9.out.mono ?_
                      rintro e w7 ⟨rfl, hF7, _⟩
                      have HB7 := Lib.hid hF7.bel
                      clear hF7
                      go_wp2_with fail
                      go_ret
                      exact ⟨rfl, HB7.out⟩
end Go.Proofs.Ytmnhdpojonlfhaa
