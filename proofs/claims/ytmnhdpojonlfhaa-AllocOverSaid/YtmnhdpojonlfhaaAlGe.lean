/- The walk of a book's Get. -/
import Derived.Test.YtmnhdpojonlfhaaAlG
namespace Go.Proofs.Ytmnhdpojonlfhaa
open Go.RowKit
attribute [local go_sem ↓] Go.wp_at_zero Go.wp_at_succ

set_option maxHeartbeats 3200000 in
set_option maxRecDepth 100000 in
theorem get_any (bb eb : Nat) (gs : Gs) (secs : Int) (ms : List MT) (es : List Nat) (size : Int) (two : Bool) (w : World) (h : IsBook w bb eb gs secs ms es) :
    Calls Try.prog 59 #[.pointer (some ⟨bb, 0, none⟩), .int .i64 size, .bool two] w (GetFn w bb eb gs secs ms (getA gs secs (st2 ms) es size two)) := by
  obtain ⟨w2, hw2⟩ : ∃ w2, w2 = (w.alloc (.cells #[.int .i64 0, .int .i64 0] 63)).alloc (.cells #[.int .i64 0, .int .i64 0] 63) := ⟨_, rfl⟩
  have hA : Below w.heap.size w w2 := by rw [hw2]; exact ((Below.refl _ _).alloc (Nat.le_refl _) _).alloc (by simp) _
  have hR : Blk w2 w.heap.size 63 [.int .i64 0, .int .i64 0] := by rw [hw2]; exact (Blk.new w _ _).alloc _
  have hS : Blk w2 (w.heap.size + 1) 63 [.int .i64 0, .int .i64 0] := by rw [hw2]; exact Blk.newAt _ _ (by simp)
  have hz : w2.heap.size = w.heap.size + 2 := by rw [hw2]; simp
  have hb2 := h.below hA
  have HA := Lib.hid hA
  have HR := Lib.hid hR
  have HS := Lib.hid hS
  have HB := Lib.hid h
  have HB2 := Lib.hid hb2
  have HL := Lib.hid h.lt
  have HTY := Lib.hid h.tyOk
  clear hA hR hS h hb2
  go_enter Try.func59, Try.ntmps59
  by_cases hs : 1 ≤ size ∧ size ≤ 4
  · obtain ⟨hs1, hs2⟩ := hs
    have g1 : ¬ size < 1 := by omega
    have g2 : ¬ 4 < size := by omega
    have HC := Lib.hid (acopy_any bb eb gs secs ms es w2 HB2.out)
    go_wp2_with fail
    rw [← hw2]
    refine HC.out.mono ?_
    rintro e w3 ⟨cb, ce, bs, rfl, hbl, hbc, hfc, hb3⟩
    have HBC := Lib.hid hbc
    have HFC := Lib.hid hfc
    have HB3 := Lib.hid (HB2.out.below hb3)
    have A3 := Lib.hid (HA.out.trans (hb3.mono (by omega)))
    have R3 := Lib.hid (HR.out.below hb3)
    have S3 := Lib.hid (HS.out.below hb3)
    have hz3 := hb3.size
    have HST := Lib.hid (cpM_st2 ms bs)
    have HO := Lib.hid (one_book' bb eb gs secs ms es size (-1) w3 HB3.out hs1 hs2)
    have HNF : Hid (∀ k, w.heap.size ≤ k → ¬ foot bb eb ms k) := Lib.hid (fun k hk hf => by have := HL.out k hf; omega)
    clear hbc hfc hb3 hbl
    go_wp2_with fail
    refine HO.out.mono ?_
    rintro e w4 hof
    rcases hof with ⟨hno, rfl, hb4⟩ | ⟨x, hx, hxl, rfl, ms1, hst1, hfst1, hbk1, hm1⟩
    · have HR8 : Hid (getA gs secs (st2 ms) es size two = ⟨(0, 0), (0, 0), 8, st2 ms, es⟩) := Lib.hid (by unfold getA; rw [if_pos ⟨hs1, hs2⟩, hno])
      have hz4 := hb4.size
      have hbl5 : Below w3.heap.size w3 ((w4.alloc (.cells #[.int .i64 0, .int .i64 0] 63)).alloc (.cells #[.int .i64 0, .int .i64 0] 63)) := (hb4.alloc (by omega) _).alloc (by simp; omega) _
      clear hno hb4
      have hBW : IsBook ((w4.alloc (.cells #[.int .i64 0, .int .i64 0] 63)).alloc (.cells #[.int .i64 0, .int .i64 0] 63)) bb eb gs secs ms es := HB3.out.below hbl5
      have hCW : IsBook ((w4.alloc (.cells #[.int .i64 0, .int .i64 0] 63)).alloc (.cells #[.int .i64 0, .int .i64 0] 63)) cb ce gs secs (cpM ms bs) es := HBC.out.below hbl5
      have hRW : Blk ((w4.alloc (.cells #[.int .i64 0, .int .i64 0] 63)).alloc (.cells #[.int .i64 0, .int .i64 0] 63)) w.heap.size 63 [.int .i64 0, .int .i64 0] := R3.out.below hbl5
      have hSW : Blk ((w4.alloc (.cells #[.int .i64 0, .int .i64 0] 63)).alloc (.cells #[.int .i64 0, .int .i64 0] 63)) (w.heap.size + 1) 63 [.int .i64 0, .int .i64 0] := S3.out.below hbl5
      have hMW : Mod (foot bb eb ms) w ((w4.alloc (.cells #[.int .i64 0, .int .i64 0] 63)).alloc (.cells #[.int .i64 0, .int .i64 0] 63)) := Mod.below (A3.out.trans (hbl5.mono (by omega)))
      obtain ⟨gv, mv, ec, k1, _, _, _⟩ := hBW.mem
      have k2 := k1.cell 0
      have k3 := k1.cell 1
      have k4 := k1.cell 2
      have k5 := k1.cell 3
      have k6 := k1.frozen 0
      have k7 := k1.frozen 1
      have k8 := k1.frozen 2
      have k9 := k1.frozen 3
      obtain ⟨gb, gc, mvb, mc, ecc, c0, c1, c2, c3, _, _, _, _, _, _⟩ := hCW.parts
      have C0 := Lib.hid c0
      have C2 := Lib.hid c2
      have C3 := Lib.hid c3
      have K1 := Lib.hid k1
      have HBW := Lib.hid hBW
      have HCW := Lib.hid hCW
      have HMW := Lib.hid hMW
      have hbn : bb < w.heap.size := HL.out bb (.inl rfl)
      have n1 : w.heap.size ≠ bb := by omega
      have n2 : w.heap.size + 1 ≠ bb := by omega
      have Q1 := Lib.hid ((((hRW.other (a := ⟨bb, 0, none⟩) n1 (.slice (some ⟨gb, 0, none⟩) gs.length gc)).other (a := ⟨bb, 1, none⟩) n1 (.int .i64 secs)).other (a := ⟨bb, 2, none⟩) n1 (.slice (some ⟨mvb, 0, none⟩) gs.length mc)).other (a := ⟨bb, 3, none⟩) n1 (.slice (some ⟨ce, 0, none⟩) gs.length ecc))
      have Q2 := Lib.hid ((((hSW.other (a := ⟨bb, 0, none⟩) n2 (.slice (some ⟨gb, 0, none⟩) gs.length gc)).other (a := ⟨bb, 1, none⟩) n2 (.int .i64 secs)).other (a := ⟨bb, 2, none⟩) n2 (.slice (some ⟨mvb, 0, none⟩) gs.length mc)).other (a := ⟨bb, 3, none⟩) n2 (.slice (some ⟨ce, 0, none⟩) gs.length ecc))
      have r0 := Q1.out.cell 0
      have r1 := Q1.out.cell 1
      have r2 := Q2.out.cell 0
      have r3 := Q2.out.cell 1
      have r4 := Q1.out.frozen 0
      have r5 := Q1.out.frozen 1
      have r6 := Q2.out.frozen 0
      have r7 := Q2.out.frozen 1
      clear k1 hBW hCW hRW hSW hMW
      go_wp2_with fail
      have Q3 := Q1.out.setCell 0 (.int .i64 0)
      have Q4 := Q3.setCell 1 (.int .i64 0)
      have Q5 := ((Q2.out.other (a := ⟨w.heap.size, 0, none⟩) (by simp) (.int .i64 0)).other (a := ⟨w.heap.size, 1, none⟩) (by simp) (.int .i64 0))
      have Q6 := Q5.setCell 0 (.int .i64 0)
      have Q7 := Q6.setCell 1 (.int .i64 0)
      have Q8 := (Q4.other (a := ⟨w.heap.size + 1, 0, none⟩) (by simp) (.int .i64 0)).other (a := ⟨w.heap.size + 1, 1, none⟩) (by simp) (.int .i64 0)
      refine bodyPost_ret (results_cell2_tmp rfl _ _ w.heap.size (w.heap.size + 1) 63 #[.int .i64 0, .int .i64 0] #[.int .i64 0, .int .i64 0] (0, 0) (0, 0) _ rfl rfl Q8 Q7 rfl rfl rfl rfl) rfl ?_
      have hres := IsBook.restore HCW.out K1.out rfl C0.out C2.out C3.out
      have hre2 := (((hres.setOther (j := 0) (u := .int .i64 0) Q1.out (by decide) (by decide) (by decide) (by decide) (by decide) (by decide)).setOther (j := 1) (u := .int .i64 0) Q3 (by decide) (by decide) (by decide) (by decide) (by decide) (by decide)).setOther (j := 0) (u := .int .i64 0) Q5 (by decide) (by decide) (by decide) (by decide) (by decide) (by decide)).setOther (j := 1) (u := .int .i64 0) Q6 (by decide) (by decide) (by decide) (by decide) (by decide) (by decide)
      rw [HR8.out]
      refine ⟨rfl, ce, cpM ms bs, hre2, HST.out, ?_, ?_⟩
      · rintro k (rfl | hk)
        · exact .inl (.inl rfl)
        · exact .inr (Nat.le_trans (by omega) (HFC.out k (.inr hk)))
      · exact (((((((HMW.out.setCell (.inl (.inl rfl))).setCell (.inl (.inl rfl))).setCell (.inl (.inl rfl))).setCell (.inl (.inl rfl))).setCell (.inr (Nat.le_refl _))).setCell (.inr (Nat.le_refl _))).setCell (.inr (Nat.le_succ _))).setCell (.inr (Nat.le_succ _))
    · have hz4 := hm1.size
      have nR : w.heap.size ≠ w4.heap.size + 1 := by omega
      have nS : w.heap.size + 1 ≠ w4.heap.size + 1 := by omega
      have nX : w4.heap.size ≠ w4.heap.size + 1 := by omega
      have hM1 : Mod (foot bb eb ms) w w4 := (Mod.below A3.out).trans hm1 (fun _ _ h => h)
      have hM5 : Mod (foot bb eb ms) w ((w4.alloc (.cells #[.int .i64 (x.1 : Nat), .int .i64 (x.2 : Nat)] 63)).alloc (.cells #[.int .i64 0, .int .i64 0] 63)) := hM1.trans' ((((Below.refl _ _).alloc (Nat.le_refl _) _).alloc (by simp) _))
      have hm5 : Mod (foot bb eb ms) w3 ((w4.alloc (.cells #[.int .i64 (x.1 : Nat), .int .i64 (x.2 : Nat)] 63)).alloc (.cells #[.int .i64 0, .int .i64 0] 63)) := hm1.trans' ((((Below.refl _ _).alloc (Nat.le_refl _) _).alloc (by simp) _))
      have hbk5 := hbk1.below (w' := (w4.alloc (.cells #[.int .i64 (x.1 : Nat), .int .i64 (x.2 : Nat)] 63)).alloc (.cells #[.int .i64 0, .int .i64 0] 63)) (((Below.refl _ _).alloc (Nat.le_refl _) _).alloc (by simp) _)
      have hR5 := hm5.blk R3.out (fun h => HNF.out _ (Nat.le_refl _) h)
      have hS5 := hm5.blk S3.out (fun h => HNF.out _ (Nat.le_succ _) h)
      have hz5 : ((w4.alloc (.cells #[.int .i64 (x.1 : Nat), .int .i64 (x.2 : Nat)] 63)).alloc (.cells #[.int .i64 0, .int .i64 0] 63)).heap.size = w4.heap.size + 2 := by simp
      have X5 : Blk ((w4.alloc (.cells #[.int .i64 (x.1 : Nat), .int .i64 (x.2 : Nat)] 63)).alloc (.cells #[.int .i64 0, .int .i64 0] 63)) w4.heap.size 63 [.int .i64 (x.1 : Nat), .int .i64 (x.2 : Nat)] := (Blk.new w4 _ _).alloc _
      have Y5 : Blk ((w4.alloc (.cells #[.int .i64 (x.1 : Nat), .int .i64 (x.2 : Nat)] 63)).alloc (.cells #[.int .i64 0, .int .i64 0] 63)) (w4.heap.size + 1) 63 [.int .i64 0, .int .i64 0] := Blk.newAt _ _ (by simp)
      have HM5 := Lib.hid hM5
      have Hm5 := Lib.hid hm5
      have HBK5 := Lib.hid hbk5
      have HR5 := Lib.hid hR5
      have HS5 := Lib.hid hS5
      have HX5 := Lib.hid X5
      have HY5 := Lib.hid Y5
      have HF1 := Lib.hid (foot_fst (bb := bb) (eb := eb) hfst1)
      clear hm1 hM1 hM5 hm5 hbk1 hbk5 hR5 hS5 X5 Y5
      cases two
      · have HRR : Hid (getA gs secs (st2 ms) es size false = ⟨x, (0, 0), 0, putS gs secs (st2 ms) size x, putE gs secs es size x⟩) := Lib.hid (by unfold getA; rw [if_pos ⟨hs1, hs2⟩, hx]; rfl)
        clear hx
        have hRW : Blk ((w4.alloc (.cells #[.int .i64 (x.1 : Nat), .int .i64 (x.2 : Nat)] 63)).alloc (.cells #[.int .i64 0, .int .i64 0] 63)) w.heap.size 63 [.int .i64 0, .int .i64 0] := HR5.out
        have hSW : Blk ((w4.alloc (.cells #[.int .i64 (x.1 : Nat), .int .i64 (x.2 : Nat)] 63)).alloc (.cells #[.int .i64 0, .int .i64 0] 63)) (w.heap.size + 1) 63 [.int .i64 0, .int .i64 0] := HS5.out
        have hXW : Blk ((w4.alloc (.cells #[.int .i64 (x.1 : Nat), .int .i64 (x.2 : Nat)] 63)).alloc (.cells #[.int .i64 0, .int .i64 0] 63)) w4.heap.size 63 [.int .i64 (x.1 : Nat), .int .i64 (x.2 : Nat)] := HX5.out
        have hYW : Blk ((w4.alloc (.cells #[.int .i64 (x.1 : Nat), .int .i64 (x.2 : Nat)] 63)).alloc (.cells #[.int .i64 0, .int .i64 0] 63)) (w4.heap.size + 1) 63 [.int .i64 0, .int .i64 0] := HY5.out
        have hBW : IsBook ((w4.alloc (.cells #[.int .i64 (x.1 : Nat), .int .i64 (x.2 : Nat)] 63)).alloc (.cells #[.int .i64 0, .int .i64 0] 63)) bb eb gs secs ms1 (putE gs secs es size x) := HBK5.out
        have hMW : Mod (foot bb eb ms) w ((w4.alloc (.cells #[.int .i64 (x.1 : Nat), .int .i64 (x.2 : Nat)] 63)).alloc (.cells #[.int .i64 0, .int .i64 0] 63)) := HM5.out
        have r0 := hRW.cell 0
        have r1 := hRW.cell 1
        have r2 := hSW.cell 0
        have r3 := hSW.cell 1
        have r4 := hRW.frozen 0
        have r5 := hRW.frozen 1
        have r6 := hSW.frozen 0
        have r7 := hSW.frozen 1
        have z0 := hXW.cell 0
        have z1 := hXW.cell 1
        have z2 := hYW.cell 0
        have z3 := hYW.cell 1
        have HRW := Lib.hid hRW
        have HSW := Lib.hid hSW
        have HBW := Lib.hid hBW
        have HMW := Lib.hid hMW
        clear hRW hSW hXW hYW hBW hMW
        go_wp2_with fail
        go_region
        go_wp2_with fail
        have Q3 := HRW.out.setCell 0 (.int .i64 (x.1 : Nat))
        have Q4 := Q3.setCell 1 (.int .i64 (x.2 : Nat))
        have Q5 := ((HSW.out.other (a := ⟨w.heap.size, 0, none⟩) (by simp) (.int .i64 (x.1 : Nat))).other (a := ⟨w.heap.size, 1, none⟩) (by simp) (.int .i64 (x.2 : Nat)))
        have Q6 := Q5.setCell 0 (.int .i64 0)
        have Q7 := Q6.setCell 1 (.int .i64 0)
        have Q8 := (Q4.other (a := ⟨w.heap.size + 1, 0, none⟩) (by simp) (.int .i64 0)).other (a := ⟨w.heap.size + 1, 1, none⟩) (by simp) (.int .i64 0)
        have Q9 : Blk _ w.heap.size 63 [.int .i64 (x.1 : Nat), .int .i64 (x.2 : Nat)] := Q8.drew
        have Q10 : Blk _ (w.heap.size + 1) 63 [.int .i64 0, .int .i64 0] := Q7.drew
        refine bodyPost_ret (results_cell2_tmp rfl _ _ w.heap.size (w.heap.size + 1) 63 #[.int .i64 (x.1 : Nat), .int .i64 (x.2 : Nat)] #[.int .i64 0, .int .i64 0] (0, 0) (0, 0) _ rfl rfl Q9 Q10 rfl rfl rfl rfl) rfl ?_
        have hre2 := (((HBW.out.setOther (j := 0) (u := .int .i64 (x.1 : Nat)) HRW.out (by decide) (by decide) (by decide) (by decide) (by decide) (by decide)).setOther (j := 1) (u := .int .i64 (x.2 : Nat)) Q3 (by decide) (by decide) (by decide) (by decide) (by decide) (by decide)).setOther (j := 0) (u := .int .i64 0) Q5 (by decide) (by decide) (by decide) (by decide) (by decide) (by decide)).setOther (j := 1) (u := .int .i64 0) Q6 (by decide) (by decide) (by decide) (by decide) (by decide) (by decide)
        rw [HRR.out]
        refine ⟨rfl, eb, ms1, hre2.below (Below.refl _ _).drew, hst1, fun k hk => .inl ?_, ((((HMW.out.setCell (.inr (Nat.le_refl _))).setCell (.inr (Nat.le_refl _))).setCell (.inr (Nat.le_succ _))).setCell (.inr (Nat.le_succ _))).trans' (Below.refl _ _).drew⟩
        rwa [HF1.out] at hk
      · have HO2 := Lib.hid (one_book' bb eb gs secs ms1 (putE gs secs es size x) size (x.1 : Nat) ((w4.alloc (.cells #[.int .i64 (x.1 : Nat), .int .i64 (x.2 : Nat)] 63)).alloc (.cells #[.int .i64 0, .int .i64 0] 63)) HBK5.out hs1 hs2)
        have x0 := HX5.out.cell 0
        go_wp2_with fail
        refine HO2.out.mono ?_
        rintro e w6 hof
        rcases hof with ⟨hno, rfl, hb6⟩ | ⟨y, hy, hyl, rfl, ms2, hst2, hfst2, hbk2, hm2⟩
        · have HR8 : Hid (getA gs secs (st2 ms) es size true = ⟨(0, 0), (0, 0), 8, st2 ms, es⟩) := Lib.hid (by
            unfold getA
            rw [if_pos ⟨hs1, hs2⟩, hx]
            dsimp only
            rw [hst1] at hno
            rw [if_pos rfl, hno])
          have hz6 := hb6.size
          have hY6 := HY5.out.below hb6
          have hY61 := hY6.setCell 0 (.int .i64 0)
          have y0 := hY6.cell 0
          have y1 := hY6.cell 1
          have y2 := hY6.frozen 0
          have y3 := hY6.frozen 1
          clear hx hno
          have hBW : IsBook ((w6.setCell ⟨w4.heap.size + 1, 0, none⟩ (.int .i64 0)).setCell ⟨w4.heap.size + 1, 1, none⟩ (.int .i64 0)) bb eb gs secs ms1 (putE gs secs es size x) := ((HBK5.out.below hb6).setOther (j := 0) (u := (.int .i64 0)) hY6 (by decide) (by decide) (by decide) (by decide) (by decide) (by decide)).setOther (j := 1) (u := (.int .i64 0)) hY61 (by decide) (by decide) (by decide) (by decide) (by decide) (by decide)
          have hCW : IsBook ((w6.setCell ⟨w4.heap.size + 1, 0, none⟩ (.int .i64 0)).setCell ⟨w4.heap.size + 1, 1, none⟩ (.int .i64 0)) cb ce gs secs (cpM ms bs) es := (((HBC.out.keep Hm5.out HB3.out.tyOk (fun k hk hf => HNF.out k (Nat.le_trans (by omega) (HFC.out k hk)) hf)).below hb6).setOther (j := 0) (u := (.int .i64 0)) hY6 (by decide) (by decide) (by decide) (by decide) (by decide) (by decide)).setOther (j := 1) (u := (.int .i64 0)) hY61 (by decide) (by decide) (by decide) (by decide) (by decide) (by decide)
          have hRW : Blk ((w6.setCell ⟨w4.heap.size + 1, 0, none⟩ (.int .i64 0)).setCell ⟨w4.heap.size + 1, 1, none⟩ (.int .i64 0)) w.heap.size 63 [.int .i64 0, .int .i64 0] := ((HR5.out.below hb6).other (a := ⟨w4.heap.size + 1, 0, none⟩) (by first | exact nR | exact nS | exact nX) _).other (a := ⟨w4.heap.size + 1, 1, none⟩) (by first | exact nR | exact nS | exact nX) _
          have hSW : Blk ((w6.setCell ⟨w4.heap.size + 1, 0, none⟩ (.int .i64 0)).setCell ⟨w4.heap.size + 1, 1, none⟩ (.int .i64 0)) (w.heap.size + 1) 63 [.int .i64 0, .int .i64 0] := ((HS5.out.below hb6).other (a := ⟨w4.heap.size + 1, 0, none⟩) (by first | exact nR | exact nS | exact nX) _).other (a := ⟨w4.heap.size + 1, 1, none⟩) (by first | exact nR | exact nS | exact nX) _
          have hMW : Mod (foot bb eb ms) w ((w6.setCell ⟨w4.heap.size + 1, 0, none⟩ (.int .i64 0)).setCell ⟨w4.heap.size + 1, 1, none⟩ (.int .i64 0)) := ((HM5.out.trans' hb6).setCell (.inr (by omega))).setCell (.inr (by omega))
          obtain ⟨gv, mv, ec, k1, _, _, _⟩ := hBW.mem
          have k2 := k1.cell 0
          have k3 := k1.cell 1
          have k4 := k1.cell 2
          have k5 := k1.cell 3
          have k6 := k1.frozen 0
          have k7 := k1.frozen 1
          have k8 := k1.frozen 2
          have k9 := k1.frozen 3
          obtain ⟨gb, gc, mvb, mc, ecc, c0, c1, c2, c3, _, _, _, _, _, _⟩ := hCW.parts
          have C0 := Lib.hid c0
          have C2 := Lib.hid c2
          have C3 := Lib.hid c3
          have K1 := Lib.hid k1
          have HBW := Lib.hid hBW
          have HCW := Lib.hid hCW
          have HMW := Lib.hid hMW
          have hbn : bb < w.heap.size := HL.out bb (.inl rfl)
          have n1 : w.heap.size ≠ bb := by omega
          have n2 : w.heap.size + 1 ≠ bb := by omega
          have Q1 := Lib.hid ((((hRW.other (a := ⟨bb, 0, none⟩) n1 (.slice (some ⟨gb, 0, none⟩) gs.length gc)).other (a := ⟨bb, 1, none⟩) n1 (.int .i64 secs)).other (a := ⟨bb, 2, none⟩) n1 (.slice (some ⟨mvb, 0, none⟩) gs.length mc)).other (a := ⟨bb, 3, none⟩) n1 (.slice (some ⟨ce, 0, none⟩) gs.length ecc))
          have Q2 := Lib.hid ((((hSW.other (a := ⟨bb, 0, none⟩) n2 (.slice (some ⟨gb, 0, none⟩) gs.length gc)).other (a := ⟨bb, 1, none⟩) n2 (.int .i64 secs)).other (a := ⟨bb, 2, none⟩) n2 (.slice (some ⟨mvb, 0, none⟩) gs.length mc)).other (a := ⟨bb, 3, none⟩) n2 (.slice (some ⟨ce, 0, none⟩) gs.length ecc))
          have r0 := Q1.out.cell 0
          have r1 := Q1.out.cell 1
          have r2 := Q2.out.cell 0
          have r3 := Q2.out.cell 1
          have r4 := Q1.out.frozen 0
          have r5 := Q1.out.frozen 1
          have r6 := Q2.out.frozen 0
          have r7 := Q2.out.frozen 1
          clear k1 hBW hCW hRW hSW hMW
          go_wp2_with fail
          have Q3 := Q1.out.setCell 0 (.int .i64 0)
          have Q4 := Q3.setCell 1 (.int .i64 0)
          have Q5 := ((Q2.out.other (a := ⟨w.heap.size, 0, none⟩) (by simp) (.int .i64 0)).other (a := ⟨w.heap.size, 1, none⟩) (by simp) (.int .i64 0))
          have Q6 := Q5.setCell 0 (.int .i64 0)
          have Q7 := Q6.setCell 1 (.int .i64 0)
          have Q8 := (Q4.other (a := ⟨w.heap.size + 1, 0, none⟩) (by simp) (.int .i64 0)).other (a := ⟨w.heap.size + 1, 1, none⟩) (by simp) (.int .i64 0)
          refine bodyPost_ret (results_cell2_tmp rfl _ _ w.heap.size (w.heap.size + 1) 63 #[.int .i64 0, .int .i64 0] #[.int .i64 0, .int .i64 0] (0, 0) (0, 0) _ rfl rfl Q8 Q7 rfl rfl rfl rfl) rfl ?_
          have hres := IsBook.restore HCW.out K1.out rfl C0.out C2.out C3.out
          have hre2 := (((hres.setOther (j := 0) (u := .int .i64 0) Q1.out (by decide) (by decide) (by decide) (by decide) (by decide) (by decide)).setOther (j := 1) (u := .int .i64 0) Q3 (by decide) (by decide) (by decide) (by decide) (by decide) (by decide)).setOther (j := 0) (u := .int .i64 0) Q5 (by decide) (by decide) (by decide) (by decide) (by decide) (by decide)).setOther (j := 1) (u := .int .i64 0) Q6 (by decide) (by decide) (by decide) (by decide) (by decide) (by decide)
          rw [HR8.out]
          refine ⟨rfl, ce, cpM ms bs, hre2, HST.out, ?_, ?_⟩
          · rintro k (rfl | hk)
            · exact .inl (.inl rfl)
            · exact .inr (Nat.le_trans (by omega) (HFC.out k (.inr hk)))
          · exact (((((((HMW.out.setCell (.inl (.inl rfl))).setCell (.inl (.inl rfl))).setCell (.inl (.inl rfl))).setCell (.inl (.inl rfl))).setCell (.inr (Nat.le_refl _))).setCell (.inr (Nat.le_refl _))).setCell (.inr (Nat.le_succ _))).setCell (.inr (Nat.le_succ _))
        · have HRR : Hid (getA gs secs (st2 ms) es size true = ⟨x, y, 0, putS gs secs (putS gs secs (st2 ms) size x) size y, putE gs secs (putE gs secs es size x) size y⟩) := Lib.hid (by
            unfold getA
            rw [if_pos ⟨hs1, hs2⟩, hx]
            dsimp only
            rw [hst1] at hy
            rw [if_pos rfl, hy])
          have hz6 := hm2.size
          rw [HF1.out] at hm2
          have hM6 : Mod (foot bb eb ms) w w6 := HM5.out.trans hm2 (fun _ _ h => h)
          have hY6 := hm2.blk HY5.out (fun h => HNF.out _ (by omega) h)
          have hX6 := hm2.blk HX5.out (fun h => HNF.out _ (by omega) h)
          have hR6 := hm2.blk HR5.out (fun h => HNF.out _ (Nat.le_refl _) h)
          have hS6 := hm2.blk HS5.out (fun h => HNF.out _ (Nat.le_succ _) h)
          have y0 := hY6.cell 0
          have y1 := hY6.cell 1
          have y2 := hY6.frozen 0
          have y3 := hY6.frozen 1
          clear hx hy
          have hRW : Blk ((w6.setCell ⟨w4.heap.size + 1, 0, none⟩ (.int .i64 (y.1 : Nat))).setCell ⟨w4.heap.size + 1, 1, none⟩ (.int .i64 (y.2 : Nat))) w.heap.size 63 [.int .i64 0, .int .i64 0] := ((hR6).other (a := ⟨w4.heap.size + 1, 0, none⟩) (by first | exact nR | exact nS | exact nX) _).other (a := ⟨w4.heap.size + 1, 1, none⟩) (by first | exact nR | exact nS | exact nX) _
          have hSW : Blk ((w6.setCell ⟨w4.heap.size + 1, 0, none⟩ (.int .i64 (y.1 : Nat))).setCell ⟨w4.heap.size + 1, 1, none⟩ (.int .i64 (y.2 : Nat))) (w.heap.size + 1) 63 [.int .i64 0, .int .i64 0] := ((hS6).other (a := ⟨w4.heap.size + 1, 0, none⟩) (by first | exact nR | exact nS | exact nX) _).other (a := ⟨w4.heap.size + 1, 1, none⟩) (by first | exact nR | exact nS | exact nX) _
          have hXW : Blk ((w6.setCell ⟨w4.heap.size + 1, 0, none⟩ (.int .i64 (y.1 : Nat))).setCell ⟨w4.heap.size + 1, 1, none⟩ (.int .i64 (y.2 : Nat))) w4.heap.size 63 [.int .i64 (x.1 : Nat), .int .i64 (x.2 : Nat)] := ((hX6).other (a := ⟨w4.heap.size + 1, 0, none⟩) (by first | exact nR | exact nS | exact nX) _).other (a := ⟨w4.heap.size + 1, 1, none⟩) (by first | exact nR | exact nS | exact nX) _
          have hYW : Blk ((w6.setCell ⟨w4.heap.size + 1, 0, none⟩ (.int .i64 (y.1 : Nat))).setCell ⟨w4.heap.size + 1, 1, none⟩ (.int .i64 (y.2 : Nat))) (w4.heap.size + 1) 63 [.int .i64 (y.1 : Nat), .int .i64 (y.2 : Nat)] := (hY6.setCell 0 (.int .i64 (y.1 : Nat))).setCell 1 (.int .i64 (y.2 : Nat))
          have hBW : IsBook ((w6.setCell ⟨w4.heap.size + 1, 0, none⟩ (.int .i64 (y.1 : Nat))).setCell ⟨w4.heap.size + 1, 1, none⟩ (.int .i64 (y.2 : Nat))) bb eb gs secs ms2 (putE gs secs (putE gs secs es size x) size y) := ((hbk2).setOther (j := 0) (u := (.int .i64 (y.1 : Nat))) hY6 (by decide) (by decide) (by decide) (by decide) (by decide) (by decide)).setOther (j := 1) (u := (.int .i64 (y.2 : Nat))) (hY6.setCell 0 (.int .i64 (y.1 : Nat))) (by decide) (by decide) (by decide) (by decide) (by decide) (by decide)
          have hMW : Mod (foot bb eb ms) w ((w6.setCell ⟨w4.heap.size + 1, 0, none⟩ (.int .i64 (y.1 : Nat))).setCell ⟨w4.heap.size + 1, 1, none⟩ (.int .i64 (y.2 : Nat))) := ((hM6).setCell (.inr (by omega))).setCell (.inr (by omega))
          have r0 := hRW.cell 0
          have r1 := hRW.cell 1
          have r2 := hSW.cell 0
          have r3 := hSW.cell 1
          have r4 := hRW.frozen 0
          have r5 := hRW.frozen 1
          have r6 := hSW.frozen 0
          have r7 := hSW.frozen 1
          have z0 := hXW.cell 0
          have z1 := hXW.cell 1
          have z2 := hYW.cell 0
          have z3 := hYW.cell 1
          have HRW := Lib.hid hRW
          have HSW := Lib.hid hSW
          have HBW := Lib.hid hBW
          have HMW := Lib.hid hMW
          clear hRW hSW hXW hYW hBW hMW
          go_wp2_with fail
          go_region
          go_wp2_with fail
          have Q3 := HRW.out.setCell 0 (.int .i64 (x.1 : Nat))
          have Q4 := Q3.setCell 1 (.int .i64 (x.2 : Nat))
          have Q5 := ((HSW.out.other (a := ⟨w.heap.size, 0, none⟩) (by simp) (.int .i64 (x.1 : Nat))).other (a := ⟨w.heap.size, 1, none⟩) (by simp) (.int .i64 (x.2 : Nat)))
          have Q6 := Q5.setCell 0 (.int .i64 (y.1 : Nat))
          have Q7 := Q6.setCell 1 (.int .i64 (y.2 : Nat))
          have Q8 := (Q4.other (a := ⟨w.heap.size + 1, 0, none⟩) (by simp) (.int .i64 (y.1 : Nat))).other (a := ⟨w.heap.size + 1, 1, none⟩) (by simp) (.int .i64 (y.2 : Nat))
          have Q9 : Blk _ w.heap.size 63 [.int .i64 (x.1 : Nat), .int .i64 (x.2 : Nat)] := Q8.drew
          have Q10 : Blk _ (w.heap.size + 1) 63 [.int .i64 (y.1 : Nat), .int .i64 (y.2 : Nat)] := Q7.drew
          refine bodyPost_ret (results_cell2_tmp rfl _ _ w.heap.size (w.heap.size + 1) 63 #[.int .i64 (x.1 : Nat), .int .i64 (x.2 : Nat)] #[.int .i64 (y.1 : Nat), .int .i64 (y.2 : Nat)] (0, 0) (0, 0) _ rfl rfl Q9 Q10 rfl rfl rfl rfl) rfl ?_
          have hre2 := (((HBW.out.setOther (j := 0) (u := .int .i64 (x.1 : Nat)) HRW.out (by decide) (by decide) (by decide) (by decide) (by decide) (by decide)).setOther (j := 1) (u := .int .i64 (x.2 : Nat)) Q3 (by decide) (by decide) (by decide) (by decide) (by decide) (by decide)).setOther (j := 0) (u := .int .i64 (y.1 : Nat)) Q5 (by decide) (by decide) (by decide) (by decide) (by decide) (by decide)).setOther (j := 1) (u := .int .i64 (y.2 : Nat)) Q6 (by decide) (by decide) (by decide) (by decide) (by decide) (by decide)
          rw [HRR.out]
          refine ⟨rfl, eb, ms2, hre2.below (Below.refl _ _).drew, (by rw [hst2, hst1]), fun k hk => .inl ?_, ((((HMW.out.setCell (.inr (Nat.le_refl _))).setCell (.inr (Nat.le_refl _))).setCell (.inr (Nat.le_succ _))).setCell (.inr (Nat.le_succ _))).trans' (Below.refl _ _).drew⟩
          rwa [foot_fst hfst2, HF1.out] at hk
  · have hr : getA gs secs (st2 ms) es size two = ⟨(0, 0), (0, 0), 1, st2 ms, es⟩ := by unfold getA; rw [if_neg hs]
    rw [hr]
    have r0 := HR.out.cell 0
    have r1 := HR.out.cell 1
    have r2 := HS.out.cell 0
    have r3 := HS.out.cell 1
    have r4 := HR.out.frozen 0
    have r5 := HR.out.frozen 1
    have r6 := HS.out.frozen 0
    have r7 := HS.out.frozen 1
    by_cases h1 : size < 1
    · go_wp2_with fail
      rw [← hw2]
      refine bodyPost_ret (results_cell2_tmp rfl _ _ w.heap.size (w.heap.size + 1) 63 #[.int .i64 0, .int .i64 0] #[.int .i64 0, .int .i64 0] (0, 0) (0, 0) _ rfl rfl HR.out HS.out rfl rfl rfl rfl) rfl ?_
      exact ⟨rfl, eb, ms, HB2.out, rfl, fun k hk => .inl hk, Mod.below HA.out⟩
    · have h2 : 4 < size := by omega
      go_wp2_with fail
      rw [← hw2]
      refine bodyPost_ret (results_cell2_tmp rfl _ _ w.heap.size (w.heap.size + 1) 63 #[.int .i64 0, .int .i64 0] #[.int .i64 0, .int .i64 0] (0, 0) (0, 0) _ rfl rfl HR.out HS.out rfl rfl rfl rfl) rfl ?_
      exact ⟨rfl, eb, ms, HB2.out, rfl, fun k hk => .inl hk, Mod.below HA.out⟩
end Go.Proofs.Ytmnhdpojonlfhaa
