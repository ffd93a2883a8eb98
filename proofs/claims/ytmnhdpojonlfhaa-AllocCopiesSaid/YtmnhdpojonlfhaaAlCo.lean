/- polderlaw12: AllocCopies. -/
import Derived.Test.YtmnhdpojonlfhaaAlS
namespace Go.Proofs.Ytmnhdpojonlfhaa
open Go.RowKit
attribute [local go_sem ↓] Go.wp_at_zero Go.wp_at_succ

theorem infoPl : (Try.prog.info? 63).map (fun i => (i.zero, i.size, i.bytes)) = some (some (.agg #[.int .i64 0, .int .i64 0]), 2, 16) := by kernel_rfl
set_option maxRecDepth 100000 in
set_option maxHeartbeats 6400000 in
theorem alcopies_any (ga : Option Addr) (gn gc : Nat) (gs : Gs) (secs : Int) (aoL : Option Addr) (nL cL : Nat) (zs : List ActB) (aoM : Option Addr) (nM cM : Nat) (ys : List ActB) (w : World) (hg : GSl w ga gn gc gs) (hL : BSl w aoL nL cL zs) (hM : BSl w aoM nM cM ys) :
    Calls Try.prog 17 #[.agg #[.slice ga gn gc, .int .i64 secs], .slice aoL nL cL, .slice aoM nM cM] w fun e w' => e = .returned (.bool true) ∧ Below w.heap.size w w' := by
  have hb0 : Below w.heap.size w (w.alloc (.cells #[.slice ga gn gc, .int .i64 secs] 96)) := (Below.refl _ _).alloc (Nat.le_refl _) _
  have HB0 := Lib.hid hb0
  have HL := Lib.hid hg.len
  have HG0 := Lib.hid hg
  have HSL := Lib.hid hL
  have HSM := Lib.hid hM
  have hmx := hg.mx
  have hmxL := hL.mx
  have hmxM := hM.mx
  have HW0 := Lib.hid (awake12_any (w.alloc (.cells #[.slice ga gn gc, .int .i64 secs] 96)))
  have HR0 := Lib.hid (Blk.new w 96 [.slice ga gn gc, .int .i64 secs])
  clear hb0 hg hL hM
  go_enter Try.func17, Try.ntmps17
  go_wp2_with fail
  refine HW0.out.mono ?_
  rintro e w1 ⟨rfl, hb1⟩
  have B1 := Lib.hid (HB0.out.trans (hb1.mono HB0.out.size))
  have R1 := Lib.hid (HR0.out.below hb1)
  have r0 := R1.out.cell 0
  have r1 := R1.out.cell 1
  have HF := Lib.hid (few12_any ga aoL gn gc nL cL secs w1 hmx hmxL)
  clear hb1
  go_wp2_with fail
  refine HF.out.mono ?_
  rintro e w2 ⟨rfl, hb2⟩
  have B2 := Lib.hid (B1.out.trans (hb2.mono B1.out.size))
  have R2 := Lib.hid (R1.out.below hb2)
  clear hb2 r0 r1
  have r0 := R2.out.cell 0
  have r1 := R2.out.cell 1
  cases fewB nL gn secs
  · have HW2 := Lib.hid (awake12_any w2)
    go_wp2_with fail
    refine HW2.out.mono ?_
    rintro e w3 ⟨rfl, hb3⟩
    go_wp2_with fail
    go_ret
    exact ⟨rfl, B2.out.trans (hb3.mono B2.out.size)⟩
  · have HF2 := Lib.hid (few12_any ga aoM gn gc nM cM secs w2 hmx hmxM)
    go_wp2_with fail
    refine HF2.out.mono ?_
    rintro e w3 ⟨rfl, hb3⟩
    have B3 := Lib.hid (B2.out.trans (hb3.mono B2.out.size))
    have R3 := Lib.hid (R2.out.below hb3)
    clear hb3 r0 r1
    have r0 := R3.out.cell 0
    have r1 := R3.out.cell 1
    cases hfw : fewB nM gn secs
    · have HW2 := Lib.hid (awake12_any w3)
      go_wp2_with fail
      refine HW2.out.mono ?_
      rintro e w4 ⟨rfl, hb4⟩
      go_wp2_with fail
      go_ret
      exact ⟨rfl, B3.out.trans (hb4.mono B3.out.size)⟩
    · have hm60 : nM ≤ 60 := by unfold fewB at hfw; simp at hfw; exact hfw.1
      have hg3 := HG0.out.below B3.out
      clear hfw
      cases hr : rightB gs secs
      · have HN := Lib.hid (anew_no ga gn gc gs secs w3 hg3 hr)
        clear hg3 hr
        go_wp2_with fail
        refine HN.out.mono ?_
        rintro e w4 ⟨rfl, hb4⟩
        go_wp2_with fail
        go_ret
        exact ⟨rfl, B3.out.trans (hb4.mono B3.out.size)⟩
      · have HN := Lib.hid (anew_yes ga gn gc gs secs w3 hg3 hr)
        clear hg3 hr
        go_wp2_with fail
        refine HN.out.mono ?_
        rintro e w4 ⟨bb, eb, ms, rfl, hbk, _, hfo0, hb4⟩
        have B4 := Lib.hid (B3.out.trans (hb4.mono B3.out.size))
        have hfo : ∀ k, foot bb eb ms k → w.heap.size ≤ k := fun k hk => by have := hfo0 k hk; have h2 := B3.out.size; omega
        have HFO := Lib.hid hfo
        have HBK := Lib.hid hbk
        clear hbk hfo0 hb4 hfo r0 r1
        go_wp2_with fail
        go_loopw [9] (fun i wr => ∃ (k eb : Nat) (ms : List MT) (es : List Nat), k ≤ nL ∧ i = .int .i64 k ∧ Hid (IsBook wr bb eb gs secs ms es) ∧ Hid (∀ k, foot bb eb ms k → w.heap.size ≤ k) ∧ Hid (Below w.heap.size w wr)) (fun i _ => nL - (intOf i).toNat)
        case atStart => exact ⟨0, _, _, _, by omega, rfl, HBK, HFO, B4⟩
        case round =>
          obtain ⟨k, eb, ms, es, hk, rfl, hbk, hfo, hb⟩ := hrel
          by_cases hkn : k < nL
          · obtain ⟨bl, off, rfl, hbl, hc⟩ := HSL.out.cells (by omega)
            obtain ⟨hok, hc⟩ := hc k hkn
            obtain ⟨q, hq⟩ : ∃ q, q = zs.getD k aD := ⟨_, rfl⟩
            rw [← hq] at hc
            obtain ⟨q0, q1, q2, q3, q4⟩ := q
            have c1 : w.cell? ⟨bl, off + k * 16 + 1, none⟩ = some (.int .i64 q1) := hc 1 (by omega)
            have c2 : w.cell? ⟨bl, off + k * 16 + 2, none⟩ = some (.bool q2) := hc 2 (by omega)
            have d1 : wr.cell? ⟨bl, off + k * 16 + 1, none⟩ = some (.int .i64 q1) := (hb.out.cell (p := ⟨bl, _, none⟩) hbl).trans c1
            have d2 : wr.cell? ⟨bl, off + k * 16 + 2, none⟩ = some (.bool q2) := (hb.out.cell (p := ⟨bl, _, none⟩) hbl).trans c2
            have hG := get_any bb eb gs secs ms es q1 q2 wr.drew (hbk.out.below (Below.refl _ _).drew)
            obtain ⟨r, hr⟩ : ∃ r, r = getA gs secs (st2 ms) es q1 q2 := ⟨_, rfl⟩
            rw [← hr] at hG
            have HG := Lib.hid hG
            have C1 := Lib.hid c1
            have C2 := Lib.hid c2
            clear c1 c2 hc hq hok hr hG
            go_wp2_with fail
            go_region_held3 (fun w' => w'.cell? ⟨bl, off + k * 16 + 1, none⟩ = some (.int .i64 q1) ∧ w'.cell? ⟨bl, off + k * 16 + 2, none⟩ = some (.bool q2)) (go_keep)
              (first
                | (go_at_call 59; refine HG.out.mono ?_; rintro e w5 ⟨rfl, eb', ms', hbk5, _, hfo5, hm5⟩; have HBK5 := Lib.hid hbk5; have HB5 := Lib.hid (hb.out.drew.trans (hm5.toBelow hfo.out hb.out.drew.size)); have HFO5 : Hid (∀ k, foot bb eb' ms' k → w.heap.size ≤ k) := Lib.hid (fun k hk => (hfo5 k hk).elim (hfo.out k) (fun h => Nat.le_trans hb.out.size h)); have hd1 := (HB5.out.cell (p := ⟨bl, off + k * 16 + 1, none⟩) hbl).trans C1.out; have hd2 := (HB5.out.cell (p := ⟨bl, off + k * 16 + 2, none⟩) hbl).trans C2.out; clear hbk5 hfo5 hm5))
            go_wp2_with fail
            go_roundw
            case rel => exact ⟨k + 1, _, _, _, by omega, by go_num, HBK5, HFO5, HB5⟩
            case measure => simp [intOf]; omega
          · have hkn' : k = nL := by omega
            subst hkn'
            have HCP := Lib.hid (acopy_any bb eb gs secs ms es wr hbk.out)
            go_wp2_with fail
            refine HCP.out.mono ?_
            rintro e w5 ⟨cb, ce, bs, rfl, hbl, hbc, hfc, hb5⟩
            have HB5 := Lib.hid (hb.out.trans (hb5.mono hb.out.size))
            have HBB := Lib.hid (hbk.out.below hb5)
            have HLF := Lib.hid (aleft_any bb eb gs secs ms es w5 HBB.out)
            have hbklt : ∀ k, foot bb eb ms k → k < wr.heap.size := hbk.out.lt
            have HLT := Lib.hid hbklt
            have HFC := Lib.hid hfc
            have HBC := Lib.hid hbc
            have HWO := Lib.hid (hb.out.size)
            have hz5' : wr.heap.size ≤ w5.heap.size := hb5.size
            clear hbl hbc hfc hb5 hbklt
            go_wp2_with fail
            refine HLF.out.mono ?_
            rintro e w6 ⟨rfl, hb6⟩
            have HB6 := Lib.hid (HB5.out.trans (hb6.mono HB5.out.size))
            have HBB6 := Lib.hid (HBB.out.below hb6)
            have HBC6 := Lib.hid (HBC.out.below hb6)
            have hz6 : wr.heap.size ≤ w6.heap.size := Nat.le_trans hz5' hb6.size
            clear hz5'
            clear hb6
            obtain ⟨S, hS⟩ : ∃ S, S = (st2 ms, es) := ⟨_, rfl⟩
            have hS2 : (st2 (cpM ms bs), es) = stA gs secs S ys 0 := by rw [cpM_st2, hS]; rfl
            have HS2 := Lib.hid hS2
            obtain ⟨lf, hlf⟩ : ∃ lf, lf = leftB ms := ⟨_, rfl⟩
            rw [← hlf]
            have HLFT := Lib.hid hlf
            clear hlf hS2
            obtain ⟨wo, rfl⟩ : ∃ wo : World, wo = wr := ⟨_, rfl⟩
            go_wp2_with fail
            go_loopw [12, 13] (fun v i wr => ∃ (j ce : Nat) (mc : List MT) (ec : List Nat), j ≤ nM ∧ i = .int .i64 j ∧ Hid (IsBook wr bb eb gs secs ms es) ∧ Hid (IsBook wr cb ce gs secs mc ec) ∧ Hid ((st2 mc, ec) = stA gs secs S ys j) ∧ Hid (∀ k, foot cb ce mc k → wo.heap.size ≤ k) ∧ Hid (wr.ownsRow w.heap.size 63 2 v (2 * j) (encR (gotL gs secs S ys j))) ∧ Hid (Below w.heap.size w wr) ∧ wo.heap.size ≤ wr.heap.size) (fun _ i _ => nM - (intOf i).toNat)
            case atStart => exact ⟨0, ce, _, es, by omega, rfl, HBB6, HBC6, HS2, HFC, Lib.hid (World.ownsRow_nil _ _ _ _), HB6, hz6⟩
            case round =>
              obtain ⟨j, ce, mc, ec, hj, rfl, hbb, hbc, hst, hfc, hown, hb, hz⟩ := hrel
              by_cases hjm : j < nM
              · obtain ⟨aoG, capG, rfl, _⟩ := RSl.of_owns hown.out
                obtain ⟨bl, off, rfl, hbl, hc⟩ := HSM.out.cells (by omega)
                obtain ⟨hok, hc⟩ := hc j hjm
                obtain ⟨q, hq⟩ : ∃ q, q = ys.getD j aD := ⟨_, rfl⟩
                rw [← hq] at hc
                obtain ⟨r, hr⟩ : ∃ r, r = getA gs secs (st2 mc) ec q.size q.two := ⟨_, rfl⟩
                have hdis : ∀ k, foot cb ce mc k → ¬ foot bb eb ms k := fun k hk hb => by have h1 := hfc.out k hk; have h2 := HLT.out k hb; omega
                have hG := fun W hW => get_step (W := W) q.size q.two hr hb.out hbb.out hbc.out hdis hfc.out HWO.out hown.out hW
                have hst1 : (r.sn, r.es) = stA gs secs S ys (j + 1) := by
                  show _ = ((getA gs secs (stA gs secs S ys j).1 (stA gs secs S ys j).2 (ys.getD j aD).size (ys.getD j aD).two).sn, (getA gs secs (stA gs secs S ys j).1 (stA gs secs S ys j).2 (ys.getD j aD).size (ys.getD j aD).two).es)
                  rw [← hst.out, ← hq, hr]
                have hres : resA gs secs S ys j = r := by unfold resA; rw [← hst.out, ← hq, hr]
                have hgl : gotL gs secs S ys (j + 1) = gotL gs secs S ys j ++ [r.p] ++ [r.q] := by rw [← hres]; rfl
                obtain ⟨q0, q1, q2, q3, q4⟩ := q
                have c1 : w.cell? ⟨bl, off + j * 16 + 1, none⟩ = some (.int .i64 q1) := hc 1 (by omega)
                have c2 : w.cell? ⟨bl, off + j * 16 + 2, none⟩ = some (.bool q2) := hc 2 (by omega)
                have d1 : wr.cell? ⟨bl, off + j * 16 + 1, none⟩ = some (.int .i64 q1) := (hb.out.cell (p := ⟨bl, _, none⟩) hbl).trans c1
                have d2 : wr.cell? ⟨bl, off + j * 16 + 2, none⟩ = some (.bool q2) := (hb.out.cell (p := ⟨bl, _, none⟩) hbl).trans c2
                dsimp only at hG
                have HG := Lib.hid hG
                have C1 := Lib.hid c1
                have C2 := Lib.hid c2
                have HST1 := Lib.hid hst1
                have HGL := Lib.hid hgl
                obtain ⟨⟨p1, p2⟩, ⟨z1, z2⟩, err, rsn, res⟩ := r
                dsimp only at HG HGL HST1
                clear c1 c2 hc hq hok hr hG hst1 hgl hres
                have hbn1 : bl < wr.heap.size := Nat.lt_of_lt_of_le hbl hb.out.size
                have hbn2 : wr.heap.size ≠ bl := Nat.ne_of_gt hbn1
                have hbn3 : wr.heap.size + 1 ≠ bl := Nat.ne_of_gt (Nat.lt_succ_of_lt hbn1)
                go_wp2_with fail
                go_upto_region 16 with fail
                go_cut [14, 15, 16] (fun va vb vx wx => ∃ (a14 a15 ce : Nat) (mc : List MT), va = .pointer (some ⟨a14, 0, none⟩) ∧ vb = .pointer (some ⟨a15, 0, none⟩) ∧ vx = .int .i64 (err : Nat) ∧ Hid (Blk wx a14 63 [.int .i64 p1, .int .i64 p2]) ∧ Hid (Blk wx a15 63 [.int .i64 z1, .int .i64 z2]) ∧ Hid (IsBook wx cb ce gs secs mc res) ∧ Hid (st2 mc = rsn) ∧ Hid (∀ k, foot cb ce mc k → wo.heap.size ≤ k) ∧ Hid (Below w.heap.size w wx) ∧ Hid (IsBook wx bb eb gs secs ms es) ∧ Hid (wx.ownsRow w.heap.size 63 2 (.slice aoG (2 * j) capG) (2 * j) (encR (gotL gs secs S ys j))) ∧ wo.heap.size ≤ wx.heap.size ∧ wr.heap.size ≤ a15)
                case first =>
                  go_region_held3 (fun w' => w'.cell? ⟨bl, off + j * 16 + 1, none⟩ = some (.int .i64 q1) ∧ w'.cell? ⟨bl, off + j * 16 + 2, none⟩ = some (.bool q2)) (go_keep)
                    (first
                      | (go_at_call 59; refine (HG.out _ (Below.refl _ _).drew).mono ?_; rintro e w5 ⟨rfl, ce', mc', hbk5, hst5, hfo5, hdi5, hB5, hbb5, hown5, hh5, hz5⟩; have hbl5 : bl < w5.heap.size := Nat.lt_of_lt_of_le hbl hB5.size; have hbl6 : w5.heap.size ≠ bl := Nat.ne_of_gt hbl5; have hbl7 : w5.heap.size + 1 ≠ bl := Nat.ne_of_gt (Nat.lt_succ_of_lt hbl5); have hd1 := (hB5.cell (p := ⟨bl, off + j * 16 + 1, none⟩) hbl).trans C1.out; have hd2 := (hB5.cell (p := ⟨bl, off + j * 16 + 2, none⟩) hbl).trans C2.out; have tag : w5 = w5 := rfl)
                      | (go_at_call 59; refine (HG.out _ ((Below.refl _ _).alloc (Nat.le_refl _) _).drew).mono ?_; rintro e w5 ⟨rfl, ce', mc', hbk5, hst5, hfo5, hdi5, hB5, hbb5, hown5, hh5, hz5⟩; have hbl5 : bl < w5.heap.size := Nat.lt_of_lt_of_le hbl hB5.size; have hbl6 : w5.heap.size ≠ bl := Nat.ne_of_gt hbl5; have hbl7 : w5.heap.size + 1 ≠ bl := Nat.ne_of_gt (Nat.lt_succ_of_lt hbl5); have hd1 := (hB5.cell (p := ⟨bl, off + j * 16 + 1, none⟩) hbl).trans C1.out; have hd2 := (hB5.cell (p := ⟨bl, off + j * 16 + 2, none⟩) hbl).trans C2.out; have hA5 : Blk w5 wr.heap.size 63 [.int .i64 0, .int .i64 0] := (hh5 _ (Nat.le_refl _) (by simp)).trans (Blk.new wr _ _); have ha0 := hA5.cell 0; have ha1 := hA5.cell 1; have ha2 := hA5.frozen 0; have ha3 := hA5.frozen 1; have hl5 := hA5.lt; have hne5 : wr.heap.size ≠ w5.heap.size := Nat.ne_of_lt hl5; have hne6 : w5.heap.size ≠ wr.heap.size := fun e => hne5 e.symm)
                      | (go_at_call 59; refine (HG.out _ (((Below.refl _ _).alloc (Nat.le_refl _) _).alloc (by simp) _).drew).mono ?_; rintro e w5 ⟨rfl, ce', mc', hbk5, hst5, hfo5, hdi5, hB5, hbb5, hown5, hh5, hz5⟩; have hbl5 : bl < w5.heap.size := Nat.lt_of_lt_of_le hbl hB5.size; have hbl6 : w5.heap.size ≠ bl := Nat.ne_of_gt hbl5; have hbl7 : w5.heap.size + 1 ≠ bl := Nat.ne_of_gt (Nat.lt_succ_of_lt hbl5); have hd1 := (hB5.cell (p := ⟨bl, off + j * 16 + 1, none⟩) hbl).trans C1.out; have hd2 := (hB5.cell (p := ⟨bl, off + j * 16 + 2, none⟩) hbl).trans C2.out; have hA5 : Blk w5 wr.heap.size 63 [.int .i64 0, .int .i64 0] := (hh5 _ (Nat.le_refl _) (by simp; omega)).trans ((Blk.new wr _ _).alloc _); have ha0 := hA5.cell 0; have ha1 := hA5.cell 1; have ha2 := hA5.frozen 0; have ha3 := hA5.frozen 1; have hl5 := hA5.lt; have hne5 : wr.heap.size ≠ w5.heap.size := Nat.ne_of_lt hl5; have hne6 : w5.heap.size ≠ wr.heap.size := fun e => hne5 e.symm; have hC5 : Blk w5 (wr.heap.size + 1) 63 [.int .i64 0, .int .i64 0] := (hh5 _ (Nat.le_succ _) (by simp)).trans (Blk.newAt _ _ (by simp)); have hc0 := hC5.cell 0; have hc1 := hC5.cell 1; have hc2 := hC5.frozen 0; have hc3 := hC5.frozen 1; have hl6 := hC5.lt))
                  · go_wp2_with fail
                    go_meet
                    have hT := two_new wr.heap.size w5 (.int .i64 (p1 : Nat)) (.int .i64 (p2 : Nat)) (.int .i64 (z1 : Nat)) (.int .i64 (z2 : Nat))
                    exact ⟨_, _, _, _, rfl, rfl, rfl, Lib.hid hT.fst, Lib.hid hT.snd, Lib.hid (hT.lay.book hbk5), Lib.hid hst5, Lib.hid hfo5, Lib.hid (hT.lay.under hB5 hb.out.size hB5.size), Lib.hid (hT.lay.book hbb5), Lib.hid (hT.lay.owns hown5 (fun g hg => (hown.out.lt g hg).2)), Nat.le_trans hz (Nat.le_trans (hz5) hT.lay.size), Nat.le_succ_of_le hz5⟩
                  · go_wp2_with fail
                    go_meet
                    have hT := (two_new wr.heap.size w5 (.int .i64 (z1 : Nat)) (.int .i64 (z2 : Nat)) (.int .i64 (p1 : Nat)) (.int .i64 (p2 : Nat))).swap
                    exact ⟨_, _, _, _, rfl, rfl, rfl, Lib.hid hT.fst, Lib.hid hT.snd, Lib.hid (hT.lay.book hbk5), Lib.hid hst5, Lib.hid hfo5, Lib.hid (hT.lay.under hB5 hb.out.size hB5.size), Lib.hid (hT.lay.book hbb5), Lib.hid (hT.lay.owns hown5 (fun g hg => (hown.out.lt g hg).2)), Nat.le_trans hz (Nat.le_trans (hz5) hT.lay.size), hz5⟩
                  · go_wp2_with fail
                    go_meet
                    have hT := two_one wr.heap.size w5 wr.heap.size (.int .i64 (p1 : Nat)) (.int .i64 (p2 : Nat)) (.int .i64 (z1 : Nat)) (.int .i64 (z2 : Nat)) (.int .i64 0) (.int .i64 0) hA5 (Nat.le_refl _)
                    exact ⟨_, _, _, _, rfl, rfl, rfl, Lib.hid hT.fst, Lib.hid hT.snd, Lib.hid (hT.lay.book hbk5), Lib.hid hst5, Lib.hid hfo5, Lib.hid (hT.lay.under hB5 hb.out.size hB5.size), Lib.hid (hT.lay.book hbb5), Lib.hid (hT.lay.owns hown5 (fun g hg => (hown.out.lt g hg).2)), Nat.le_trans hz (Nat.le_trans (Nat.le_of_lt hA5.lt) hT.lay.size), Nat.le_of_lt hA5.lt⟩
                  · go_wp2_with fail
                    go_meet
                    have hT := two_old wr.heap.size w5 wr.heap.size (wr.heap.size + 1) (.int .i64 (p1 : Nat)) (.int .i64 (p2 : Nat)) (.int .i64 (z1 : Nat)) (.int .i64 (z2 : Nat)) (.int .i64 0) (.int .i64 0) (.int .i64 0) (.int .i64 0) hA5 hC5 (Nat.le_refl _) (Nat.le_succ _) (Nat.ne_of_lt (Nat.lt_succ_self _))
                    exact ⟨_, _, _, _, rfl, rfl, rfl, Lib.hid hT.fst, Lib.hid hT.snd, Lib.hid (hT.lay.book hbk5), Lib.hid hst5, Lib.hid hfo5, Lib.hid (hT.lay.under hB5 hb.out.size hB5.size), Lib.hid (hT.lay.book hbb5), Lib.hid (hT.lay.owns hown5 (fun g hg => (hown.out.lt g hg).2)), Nat.le_trans hz (Nat.le_trans (Nat.le_of_lt hA5.lt) hT.lay.size), Nat.le_succ _⟩
                  · go_wp2_with fail
                    go_meet
                    have hT := (two_one wr.heap.size w5 wr.heap.size (.int .i64 (z1 : Nat)) (.int .i64 (z2 : Nat)) (.int .i64 (p1 : Nat)) (.int .i64 (p2 : Nat)) (.int .i64 0) (.int .i64 0) hA5 (Nat.le_refl _)).swap
                    exact ⟨_, _, _, _, rfl, rfl, rfl, Lib.hid hT.fst, Lib.hid hT.snd, Lib.hid (hT.lay.book hbk5), Lib.hid hst5, Lib.hid hfo5, Lib.hid (hT.lay.under hB5 hb.out.size hB5.size), Lib.hid (hT.lay.book hbb5), Lib.hid (hT.lay.owns hown5 (fun g hg => (hown.out.lt g hg).2)), Nat.le_trans hz (Nat.le_trans (Nat.le_of_lt hA5.lt) hT.lay.size), Nat.le_refl _⟩
                  · go_wp2_with fail
                    go_meet
                    have hT := two_old wr.heap.size w5 (wr.heap.size + 1) wr.heap.size (.int .i64 (p1 : Nat)) (.int .i64 (p2 : Nat)) (.int .i64 (z1 : Nat)) (.int .i64 (z2 : Nat)) (.int .i64 0) (.int .i64 0) (.int .i64 0) (.int .i64 0) hC5 hA5 (Nat.le_succ _) (Nat.le_refl _) (Nat.ne_of_gt (Nat.lt_succ_self _))
                    exact ⟨_, _, _, _, rfl, rfl, rfl, Lib.hid hT.fst, Lib.hid hT.snd, Lib.hid (hT.lay.book hbk5), Lib.hid hst5, Lib.hid hfo5, Lib.hid (hT.lay.under hB5 hb.out.size hB5.size), Lib.hid (hT.lay.book hbb5), Lib.hid (hT.lay.owns hown5 (fun g hg => (hown.out.lt g hg).2)), Nat.le_trans hz (Nat.le_trans (Nat.le_of_lt hA5.lt) hT.lay.size), Nat.le_refl _⟩
                case rest =>
                  obtain ⟨a14, a15, ce5, mc5, rfl, rfl, rfl, hx5, hy5, hbk5, hst5, hfo5, hB5, hbb5, hown5, hz5, ha15⟩ := hcut
                  obtain ⟨i0, hi, hi0, hi1, hi2⟩ := info_parts infoPl
                  have x0 := hx5.out.cell 0
                  have x1 := hx5.out.cell 1
                  have hm60' : 2 * j ≤ 120 := by omega
                  have hwl : w.heap.size ≤ wc.heap.size := hB5.out.size
                  have hown0 := hown.out
                  have m63 : 2 * j + 1 ≤ maxLen := by unfold maxLen; omega
                  have m63b : 2 * j + 1 + 1 ≤ maxLen := by unfold maxLen; omega
                  have mby : (2 * j + 1) * 16 ≤ 140737488355328 := by omega
                  have mbyb : (2 * j + 1 + 1) * 16 ≤ 140737488355328 := by omega
                  have hal : ∀ (W : World) (o : Obj), w.heap.size ≤ W.heap.size → w.heap.size ≤ (W.alloc o).heap.size := fun W o h => by simp; omega
                  have hnw : ∀ (W : World) (x y : Nat), ∀ (k : Nat) (u : Value), (encR [(x, y)])[k]? = some u → (W.alloc (.cells (encR [(x, y)]).toArray 63)).cell? ((⟨W.heap.size, 0, none⟩ : Addr).add k) = some u := fun W x y => Blk.news (Blk.newAt (w := W) 63 (encR [(x, y)]) rfl)
                  have hkp : ∀ W6 : World, (wc.alloc (.cells #[.int .i64 p1, .int .i64 p2] 63)).grownBy W6 (Value.slice aoG (2 * j) capG).ownBlock → Blk W6 a15 63 [.int .i64 z1, .int .i64 z2] ∧ w.heap.size ≤ W6.heap.size := fun W6 hg => by
                    refine ⟨(hg.block a15 (by have := hy5.out.lt; simp; omega) (fun e => by have := (hown0.lt a15 e.symm).2; omega)).trans (hy5.out.alloc _), ?_⟩
                    have := hg.size
                    simp at this
                    omega
                  have HKP := Lib.hid hkp
                  have HAL := Lib.hid hal
                  have HNW := Lib.hid hnw
                  clear hkp hal hnw
                  go_wp2_with (first
                    | (at_builtin; refine wpList_append_own _ rfl (.tmp 87) (.tmp 89) 108 rfl w.heap.size 63 i0 (.agg #[.int .i64 0, .int .i64 0]) 2 16 Try.underlying108 hi hi0 hi1 hi2 rfl (Nat.succ_pos 1) (.slice aoG (2 * j) capG) (2 * j) (encR (gotL gs secs S ys j)) rfl (hown5.out.alloc _) ⟨wc.heap.size, 0, none⟩ 1 1 (encR [(p1, p2)]) rfl rfl (HNW.out wc p1 p2) (encR_one _) m63 mby (HAL.out _ _ hwl) ?_; intro v6 w6 hown6 hgrow6 _; obtain ⟨hY6, hwl6⟩ := HKP.out w6 hgrow6; have y0 := hY6.cell 0; have y1 := hY6.cell 1; obtain ⟨ao6, cap6, rfl, _⟩ := RSl.of_owns hown6)
                    | (at_builtin; refine wpList_append_own _ rfl (.tmp 91) (.tmp 93) 108 rfl w.heap.size 63 i0 (.agg #[.int .i64 0, .int .i64 0]) 2 16 Try.underlying108 hi hi0 hi1 hi2 rfl (Nat.succ_pos 1) (.slice ao6 (2 * j + 1) cap6) (2 * j + 1) (encR (gotL gs secs S ys j) ++ encR [(p1, p2)]) rfl (hown6.alloc _) ⟨w6.heap.size, 0, none⟩ 1 1 (encR [(z1, z2)]) rfl rfl (HNW.out w6 z1 z2) (encR_one _) m63b mbyb (HAL.out _ _ hwl6) ?_; intro v7 w7 hown7 hgrow7 _))
                  have HB6 := Lib.hid (below_own (base := w.heap.size) (hB5.out.alloc hB5.out.size (.cells (encR [(p1, p2)]).toArray 63)) (hown5.out.alloc _) hgrow6 (by simp; omega) (Nat.le_refl _))
                  have HBK6 := Lib.hid ((hbk5.out.below ((Below.refl _ _).alloc (Nat.le_refl _) (.cells (encR [(p1, p2)]).toArray 63))).ownKept (hown5.out.alloc _) (by decide) (by decide) (by decide) (by decide) (by decide) (by decide) hgrow6)
                  have HBB6' := Lib.hid ((hbb5.out.below ((Below.refl _ _).alloc (Nat.le_refl _) (.cells (encR [(p1, p2)]).toArray 63))).ownKept (hown5.out.alloc _) (by decide) (by decide) (by decide) (by decide) (by decide) (by decide) hgrow6)
                  have HB7 := Lib.hid (below_own (base := w.heap.size) (HB6.out.alloc HB6.out.size (.cells (encR [(z1, z2)]).toArray 63)) (hown6.alloc _) hgrow7 (by simp; omega) (Nat.le_refl _))
                  have HBK7 := Lib.hid ((HBK6.out.below ((Below.refl _ _).alloc (Nat.le_refl _) (.cells (encR [(z1, z2)]).toArray 63))).ownKept (hown6.alloc _) (by decide) (by decide) (by decide) (by decide) (by decide) (by decide) hgrow7)
                  have HBB7 := Lib.hid ((HBB6'.out.below ((Below.refl _ _).alloc (Nat.le_refl _) (.cells (encR [(z1, z2)]).toArray 63))).ownKept (hown6.alloc _) (by decide) (by decide) (by decide) (by decide) (by decide) (by decide) hgrow7)
                  have hz7 : wo.heap.size ≤ w7.heap.size := by have h1 := hgrow6.size; have h2 := hgrow7.size; simp at h1 h2; omega
                  have hown8 := hown7
                  rw [← encR_append, ← encR_append, ← HGL.out, show 2 * j + 1 + 1 = 2 * (j + 1) by omega] at hown8
                  go_roundw
                  case rel => exact ⟨j + 1, ce5, mc5, res, by omega, by go_num, HBB7, HBK7, Lib.hid (by rw [hst5.out]; exact HST1.out), hfo5, Lib.hid hown8, HB7, hz7⟩
                  case measure => simp [intOf]; omega
              · obtain rfl : nM = j := by omega
                obtain ⟨aoG, capG, rfl, _⟩ := RSl.of_owns hown.out
                have HLF := Lib.hid (aleft_any bb eb gs secs ms es wr hbb.out)
                have hlf2 : leftB ms = lf := HLFT.out.symm
                rw [hlf2] at HLF
                have HST := Lib.hid hst.out
                clear hst hlf2
                go_wp2_with fail
                refine HLF.out.mono ?_
                rintro e w7 ⟨rfl, hb7⟩
                have HB7 := Lib.hid (hb.out.trans (hb7.mono hb.out.size))
                have HBB7 := Lib.hid (hbb.out.below hb7)
                have HBC7 := Lib.hid (hbc.out.below hb7)
                have HOWN7 := Lib.hid (owns_below hown.out hb7)
                have hfb : ∀ k, foot bb eb ms k → w.heap.size ≤ k := hfo.out
                have hdis7 : ∀ k, foot bb eb ms k → ¬ foot cb ce mc k := fun k hk hc => by have h1 := hfc.out k hc; have h2 := HLT.out k hk; omega
                have HFB := Lib.hid hfb
                have HDIS := Lib.hid hdis7
                have hS0 : (st2 ms, es) = stA gs secs S ys 0 := by rw [show stA gs secs S ys 0 = S from rfl, ← hS]
                have HS0 := Lib.hid hS0
                obtain ⟨mk, hmk⟩ : ∃ x, x = mc := ⟨_, rfl⟩
                obtain ⟨ek, hek⟩ : ∃ x, x = ec := ⟨_, rfl⟩
                clear hb7 hfb hdis7 hS0
                go_wp2_with fail
                go_loopw [17] (fun i wr => ∃ (j eb cf : Nat) (mb : List MT) (eB : List Nat), j ≤ nM ∧ i = .int .i64 j ∧ Hid (IsBook wr bb eb gs secs mb eB) ∧ Hid (IsBook wr cb cf gs secs mc ec) ∧ Hid ((st2 mb, eB) = stA gs secs S ys j) ∧ Hid (∀ k, foot bb eb mb k → w.heap.size ≤ k) ∧ Hid (∀ k, foot bb eb mb k → ¬ foot cb cf mc k) ∧ Hid (wr.ownsRow w.heap.size 63 2 (.slice aoG (2 * nM) capG) (2 * nM) (encR (gotL gs secs S ys nM))) ∧ Hid (Below w.heap.size w wr)) (fun i _ => nM - (intOf i).toNat)
                case atStart => exact ⟨0, _, _, _, _, by omega, rfl, HBB7, HBC7, HS0, HFB, HDIS, HOWN7, HB7⟩
                case round =>
                  obtain ⟨j, eb, cf, mb, eB, hj, rfl, hbb, hbc, hst, hfc, hdi, hown, hb⟩ := hrel
                  by_cases hjm : j < nM
                  · obtain ⟨bl, off, rfl, hbl, hc⟩ := HSM.out.cells (by omega)
                    obtain ⟨hok, hc⟩ := hc j hjm
                    obtain ⟨q, hq⟩ : ∃ q, q = ys.getD j aD := ⟨_, rfl⟩
                    rw [← hq] at hc
                    obtain ⟨r, hr⟩ : ∃ r, r = getA gs secs (st2 mb) eB q.size q.two := ⟨_, rfl⟩
                    have hG := fun W hW => get_step (W := W) q.size q.two hr hb.out hbc.out hbb.out hdi.out hfc.out (Nat.le_refl _) hown.out hW
                    have hst1 : (r.sn, r.es) = stA gs secs S ys (j + 1) := by
                      show _ = ((getA gs secs (stA gs secs S ys j).1 (stA gs secs S ys j).2 (ys.getD j aD).size (ys.getD j aD).two).sn, (getA gs secs (stA gs secs S ys j).1 (stA gs secs S ys j).2 (ys.getD j aD).size (ys.getD j aD).two).es)
                      rw [← hst.out, ← hq, hr]
                    have hres : resA gs secs S ys j = r := by unfold resA; rw [← hst.out, ← hq, hr]
                    have hgl := gotL_get gs secs S ys nM j hjm
                    rw [hres] at hgl
                    obtain ⟨q0, q1, q2, q3, q4⟩ := q
                    have c1 : w.cell? ⟨bl, off + j * 16 + 1, none⟩ = some (.int .i64 q1) := hc 1 (by omega)
                    have c2 : w.cell? ⟨bl, off + j * 16 + 2, none⟩ = some (.bool q2) := hc 2 (by omega)
                    have d1 : wr.cell? ⟨bl, off + j * 16 + 1, none⟩ = some (.int .i64 q1) := (hb.out.cell (p := ⟨bl, _, none⟩) hbl).trans c1
                    have d2 : wr.cell? ⟨bl, off + j * 16 + 2, none⟩ = some (.bool q2) := (hb.out.cell (p := ⟨bl, _, none⟩) hbl).trans c2
                    dsimp only at hG
                    have HG := Lib.hid hG
                    have C1 := Lib.hid c1
                    have C2 := Lib.hid c2
                    have HST1 := Lib.hid hst1
                    have hz : w.heap.size ≤ wr.heap.size := hb.out.size
                    obtain ⟨⟨p1, p2⟩, ⟨z1, z2⟩, err, rsn, res⟩ := r
                    dsimp only at HG HST1 hgl
                    have HGL := Lib.hid hgl
                    clear c1 c2 hc hq hok hr hG hst1 hgl hres
                    have hbn1 : bl < wr.heap.size := Nat.lt_of_lt_of_le hbl hb.out.size
                    have hbn2 : wr.heap.size ≠ bl := Nat.ne_of_gt hbn1
                    have hbn3 : wr.heap.size + 1 ≠ bl := Nat.ne_of_gt (Nat.lt_succ_of_lt hbn1)
                    go_wp2_with fail
                    go_upto_region 24 with fail
                    go_cut [18, 19, 20] (fun va vb vx wx => ∃ (a14 a15 eb : Nat) (mb : List MT), va = .pointer (some ⟨a14, 0, none⟩) ∧ vb = .pointer (some ⟨a15, 0, none⟩) ∧ vx = .int .i64 (err : Nat) ∧ Hid (Blk wx a14 63 [.int .i64 p1, .int .i64 p2]) ∧ Hid (Blk wx a15 63 [.int .i64 z1, .int .i64 z2]) ∧ Hid (IsBook wx bb eb gs secs mb res) ∧ Hid (st2 mb = rsn) ∧ Hid (∀ k, foot bb eb mb k → w.heap.size ≤ k) ∧ Hid (∀ k, foot bb eb mb k → ¬ foot cb cf mc k) ∧ Hid (Below w.heap.size w wx) ∧ Hid (IsBook wx cb cf gs secs mc ec) ∧ Hid (wx.ownsRow w.heap.size 63 2 (.slice aoG (2 * nM) capG) (2 * nM) (encR (gotL gs secs S ys nM))) ∧ w.heap.size ≤ wx.heap.size ∧ wr.heap.size ≤ a15)
                    case first =>
                      go_region_held3 (fun w' => w'.cell? ⟨bl, off + j * 16 + 1, none⟩ = some (.int .i64 q1) ∧ w'.cell? ⟨bl, off + j * 16 + 2, none⟩ = some (.bool q2)) (go_keep)
                        (first
                          | (go_at_call 59; refine (HG.out _ (Below.refl _ _).drew).mono ?_; rintro e w5 ⟨rfl, ce', mc', hbk5, hst5, hfo5, hdi5, hB5, hbb5, hown5, hh5, hz5⟩; have hbl5 : bl < w5.heap.size := Nat.lt_of_lt_of_le hbl hB5.size; have hbl6 : w5.heap.size ≠ bl := Nat.ne_of_gt hbl5; have hbl7 : w5.heap.size + 1 ≠ bl := Nat.ne_of_gt (Nat.lt_succ_of_lt hbl5); have hd1 := (hB5.cell (p := ⟨bl, off + j * 16 + 1, none⟩) hbl).trans C1.out; have hd2 := (hB5.cell (p := ⟨bl, off + j * 16 + 2, none⟩) hbl).trans C2.out; have tag : w5 = w5 := rfl)
                          | (go_at_call 59; refine (HG.out _ ((Below.refl _ _).alloc (Nat.le_refl _) _).drew).mono ?_; rintro e w5 ⟨rfl, ce', mc', hbk5, hst5, hfo5, hdi5, hB5, hbb5, hown5, hh5, hz5⟩; have hbl5 : bl < w5.heap.size := Nat.lt_of_lt_of_le hbl hB5.size; have hbl6 : w5.heap.size ≠ bl := Nat.ne_of_gt hbl5; have hbl7 : w5.heap.size + 1 ≠ bl := Nat.ne_of_gt (Nat.lt_succ_of_lt hbl5); have hd1 := (hB5.cell (p := ⟨bl, off + j * 16 + 1, none⟩) hbl).trans C1.out; have hd2 := (hB5.cell (p := ⟨bl, off + j * 16 + 2, none⟩) hbl).trans C2.out; have hA5 : Blk w5 wr.heap.size 63 [.int .i64 0, .int .i64 0] := (hh5 _ (Nat.le_refl _) (by simp)).trans (Blk.new wr _ _); have ha0 := hA5.cell 0; have ha1 := hA5.cell 1; have ha2 := hA5.frozen 0; have ha3 := hA5.frozen 1; have hl5 := hA5.lt; have hne5 : wr.heap.size ≠ w5.heap.size := Nat.ne_of_lt hl5; have hne6 : w5.heap.size ≠ wr.heap.size := fun e => hne5 e.symm)
                          | (go_at_call 59; refine (HG.out _ (((Below.refl _ _).alloc (Nat.le_refl _) _).alloc (by simp) _).drew).mono ?_; rintro e w5 ⟨rfl, ce', mc', hbk5, hst5, hfo5, hdi5, hB5, hbb5, hown5, hh5, hz5⟩; have hbl5 : bl < w5.heap.size := Nat.lt_of_lt_of_le hbl hB5.size; have hbl6 : w5.heap.size ≠ bl := Nat.ne_of_gt hbl5; have hbl7 : w5.heap.size + 1 ≠ bl := Nat.ne_of_gt (Nat.lt_succ_of_lt hbl5); have hd1 := (hB5.cell (p := ⟨bl, off + j * 16 + 1, none⟩) hbl).trans C1.out; have hd2 := (hB5.cell (p := ⟨bl, off + j * 16 + 2, none⟩) hbl).trans C2.out; have hA5 : Blk w5 wr.heap.size 63 [.int .i64 0, .int .i64 0] := (hh5 _ (Nat.le_refl _) (by simp; omega)).trans ((Blk.new wr _ _).alloc _); have ha0 := hA5.cell 0; have ha1 := hA5.cell 1; have ha2 := hA5.frozen 0; have ha3 := hA5.frozen 1; have hl5 := hA5.lt; have hne5 : wr.heap.size ≠ w5.heap.size := Nat.ne_of_lt hl5; have hne6 : w5.heap.size ≠ wr.heap.size := fun e => hne5 e.symm; have hC5 : Blk w5 (wr.heap.size + 1) 63 [.int .i64 0, .int .i64 0] := (hh5 _ (Nat.le_succ _) (by simp)).trans (Blk.newAt _ _ (by simp)); have hc0 := hC5.cell 0; have hc1 := hC5.cell 1; have hc2 := hC5.frozen 0; have hc3 := hC5.frozen 1; have hl6 := hC5.lt))
                      · go_wp2_with fail
                        go_meet
                        have hT := two_new wr.heap.size w5 (.int .i64 (p1 : Nat)) (.int .i64 (p2 : Nat)) (.int .i64 (z1 : Nat)) (.int .i64 (z2 : Nat))
                        exact ⟨_, _, _, _, rfl, rfl, rfl, Lib.hid hT.fst, Lib.hid hT.snd, Lib.hid (hT.lay.book hbk5), Lib.hid hst5, Lib.hid hfo5, Lib.hid hdi5, Lib.hid (hT.lay.under hB5 hb.out.size hB5.size), Lib.hid (hT.lay.book hbb5), Lib.hid (hT.lay.owns hown5 (fun g hg => (hown.out.lt g hg).2)), Nat.le_trans hz (Nat.le_trans (hz5) hT.lay.size), Nat.le_succ_of_le hz5⟩
                      · go_wp2_with fail
                        go_meet
                        have hT := (two_new wr.heap.size w5 (.int .i64 (z1 : Nat)) (.int .i64 (z2 : Nat)) (.int .i64 (p1 : Nat)) (.int .i64 (p2 : Nat))).swap
                        exact ⟨_, _, _, _, rfl, rfl, rfl, Lib.hid hT.fst, Lib.hid hT.snd, Lib.hid (hT.lay.book hbk5), Lib.hid hst5, Lib.hid hfo5, Lib.hid hdi5, Lib.hid (hT.lay.under hB5 hb.out.size hB5.size), Lib.hid (hT.lay.book hbb5), Lib.hid (hT.lay.owns hown5 (fun g hg => (hown.out.lt g hg).2)), Nat.le_trans hz (Nat.le_trans (hz5) hT.lay.size), hz5⟩
                      · go_wp2_with fail
                        go_meet
                        have hT := two_one wr.heap.size w5 wr.heap.size (.int .i64 (p1 : Nat)) (.int .i64 (p2 : Nat)) (.int .i64 (z1 : Nat)) (.int .i64 (z2 : Nat)) (.int .i64 0) (.int .i64 0) hA5 (Nat.le_refl _)
                        exact ⟨_, _, _, _, rfl, rfl, rfl, Lib.hid hT.fst, Lib.hid hT.snd, Lib.hid (hT.lay.book hbk5), Lib.hid hst5, Lib.hid hfo5, Lib.hid hdi5, Lib.hid (hT.lay.under hB5 hb.out.size hB5.size), Lib.hid (hT.lay.book hbb5), Lib.hid (hT.lay.owns hown5 (fun g hg => (hown.out.lt g hg).2)), Nat.le_trans hz (Nat.le_trans (Nat.le_of_lt hA5.lt) hT.lay.size), Nat.le_of_lt hA5.lt⟩
                      · go_wp2_with fail
                        go_meet
                        have hT := two_old wr.heap.size w5 wr.heap.size (wr.heap.size + 1) (.int .i64 (p1 : Nat)) (.int .i64 (p2 : Nat)) (.int .i64 (z1 : Nat)) (.int .i64 (z2 : Nat)) (.int .i64 0) (.int .i64 0) (.int .i64 0) (.int .i64 0) hA5 hC5 (Nat.le_refl _) (Nat.le_succ _) (Nat.ne_of_lt (Nat.lt_succ_self _))
                        exact ⟨_, _, _, _, rfl, rfl, rfl, Lib.hid hT.fst, Lib.hid hT.snd, Lib.hid (hT.lay.book hbk5), Lib.hid hst5, Lib.hid hfo5, Lib.hid hdi5, Lib.hid (hT.lay.under hB5 hb.out.size hB5.size), Lib.hid (hT.lay.book hbb5), Lib.hid (hT.lay.owns hown5 (fun g hg => (hown.out.lt g hg).2)), Nat.le_trans hz (Nat.le_trans (Nat.le_of_lt hA5.lt) hT.lay.size), Nat.le_succ _⟩
                      · go_wp2_with fail
                        go_meet
                        have hT := (two_one wr.heap.size w5 wr.heap.size (.int .i64 (z1 : Nat)) (.int .i64 (z2 : Nat)) (.int .i64 (p1 : Nat)) (.int .i64 (p2 : Nat)) (.int .i64 0) (.int .i64 0) hA5 (Nat.le_refl _)).swap
                        exact ⟨_, _, _, _, rfl, rfl, rfl, Lib.hid hT.fst, Lib.hid hT.snd, Lib.hid (hT.lay.book hbk5), Lib.hid hst5, Lib.hid hfo5, Lib.hid hdi5, Lib.hid (hT.lay.under hB5 hb.out.size hB5.size), Lib.hid (hT.lay.book hbb5), Lib.hid (hT.lay.owns hown5 (fun g hg => (hown.out.lt g hg).2)), Nat.le_trans hz (Nat.le_trans (Nat.le_of_lt hA5.lt) hT.lay.size), Nat.le_refl _⟩
                      · go_wp2_with fail
                        go_meet
                        have hT := two_old wr.heap.size w5 (wr.heap.size + 1) wr.heap.size (.int .i64 (p1 : Nat)) (.int .i64 (p2 : Nat)) (.int .i64 (z1 : Nat)) (.int .i64 (z2 : Nat)) (.int .i64 0) (.int .i64 0) (.int .i64 0) (.int .i64 0) hC5 hA5 (Nat.le_succ _) (Nat.le_refl _) (Nat.ne_of_gt (Nat.lt_succ_self _))
                        exact ⟨_, _, _, _, rfl, rfl, rfl, Lib.hid hT.fst, Lib.hid hT.snd, Lib.hid (hT.lay.book hbk5), Lib.hid hst5, Lib.hid hfo5, Lib.hid hdi5, Lib.hid (hT.lay.under hB5 hb.out.size hB5.size), Lib.hid (hT.lay.book hbb5), Lib.hid (hT.lay.owns hown5 (fun g hg => (hown.out.lt g hg).2)), Nat.le_trans hz (Nat.le_trans (Nat.le_of_lt hA5.lt) hT.lay.size), Nat.le_refl _⟩
                    case rest =>
                      obtain ⟨a14, a15, eb5, mb5, rfl, rfl, rfl, hx5, hy5, hbk5, hst5, hfo5, hdi5, hB5, hbb5, hown5, hz5, ha15⟩ := hcut
                      have hl2 := gotL_length gs secs S ys nM
                      obtain ⟨g, rfl, hgB⟩ := owns_head hown5.out (show 0 < 2 * nM by omega)
                      have gA := encR_get (gotL gs secs S ys nM) (2 * j) (by omega)
                      have gB := encR_get (gotL gs secs S ys nM) (2 * j + 1) (by omega)
                      rw [HGL.out.1] at gA
                      rw [HGL.out.2] at gB
                      have g0 : wc.cell? ⟨g, 2 * j * 2, none⟩ = some (.int .i64 (p1 : Nat)) := (hown5.out.cellAt _ (by omega)).trans gA.1
                      have g1 : wc.cell? ⟨g, 2 * j * 2 + 1, none⟩ = some (.int .i64 (p2 : Nat)) := (hown5.out.cellAt _ (by omega)).trans gA.2
                      have g2 : wc.cell? ⟨g, (2 * j + 1) * 2, none⟩ = some (.int .i64 (z1 : Nat)) := (hown5.out.cellAt _ (by omega)).trans gB.1
                      have g3 : wc.cell? ⟨g, (2 * j + 1) * 2 + 1, none⟩ = some (.int .i64 (z2 : Nat)) := (hown5.out.cellAt _ (by omega)).trans gB.2
                      have x0 : wc.cell? ⟨a14, 0, none⟩ = some (.int .i64 (p1 : Nat)) := hx5.out.cell 0
                      have x1 : wc.cell? ⟨a14, 1, none⟩ = some (.int .i64 (p2 : Nat)) := hx5.out.cell 1
                      have y0 : wc.cell? ⟨a15, 0, none⟩ = some (.int .i64 (z1 : Nat)) := hy5.out.cell 0
                      have y1 : wc.cell? ⟨a15, 1, none⟩ = some (.int .i64 (z2 : Nat)) := hy5.out.cell 1
                      have w1 : IntKind.i64.wrap (2 * (j : Int)) = 2 * (j : Int) := IntWalk.i64_in _ (by omega)
                      have w2 : IntKind.i64.wrap (2 * (j : Int) + 1) = 2 * (j : Int) + 1 := IntWalk.i64_in _ (by omega)
                      have n0 : (0 : Int) ≤ 2 * (j : Int) := by omega
                      have n1 : (2 * (j : Int)).toNat = 2 * j := by omega
                      have n2 : (2 * (j : Int) + 1).toNat = 2 * j + 1 := by omega
                      have n3 : (0 : Int) ≤ 2 * (j : Int) + 1 := by omega
                      have n4 : 2 * (j : Int) < ((2 * nM : Nat) : Int) := by omega
                      have n5 : 2 * (j : Int) + 1 < ((2 * nM : Nat) : Int) := by omega
                      clear gA gB
                      go_wp2_with fail
                      go_quiet (fail)
                      go_wp2_with fail
                      go_roundw
                      case rel => exact ⟨j + 1, eb5, cf, mb5, res, by omega, by go_num, Lib.hid (hbk5.out.below (below_drewN' (Below.refl _ _) _)), Lib.hid (hbb5.out.below (below_drewN' (Below.refl _ _) _)), Lib.hid (by rw [hst5.out]; exact HST1.out), hfo5, hdi5, Lib.hid (owns_drewN hown5.out), Lib.hid (below_drewN' hB5.out _)⟩
                      case measure => simp [intOf]; omega
                  · obtain rfl : nM = j := by omega
                    have HLA := Lib.hid (aleft_any bb eb gs secs mb eB wr hbb.out)
                    go_wp2_with fail
                    refine HLA.out.mono ?_
                    rintro e w8 ⟨rfl, hb8⟩
                    have HB8 := Lib.hid (hb.out.trans (hb8.mono hb.out.size))
                    have HLC := Lib.hid (aleft_any cb cf gs secs mc ec w8 (hbc.out.below hb8))
                    have hst2 := hst.out
                    have hlf : leftB mc = leftB mb := by rw [leftB_st, leftB_st]; rw [← HST.out] at hst2; simp only [Prod.mk.injEq] at hst2; rw [hst2.1]
                    rw [hlf] at HLC
                    clear hb8 hst2 hlf
                    go_wp2_with fail
                    refine HLC.out.mono ?_
                    rintro e w9 ⟨rfl, hb9⟩
                    have HB9 := Lib.hid (HB8.out.trans (hb9.mono HB8.out.size))
                    clear hb9
                    go_wp2_with fail
                    go_ret
                    exact ⟨rfl, HB9.out⟩
end Go.Proofs.Ytmnhdpojonlfhaa
