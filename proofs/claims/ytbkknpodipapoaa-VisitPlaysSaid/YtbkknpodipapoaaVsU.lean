/- The walk of symMerge at pointers. -/
import Derived.Test.YtbkknpodipapoaaVsZ
namespace Go.Proofs.Ytbkknpodipapoaa
open Go.RowKit
set_option linter.unusedSimpArgs false
attribute [local go_sem ↓] Go.wp_at_zero Go.wp_at_succ
attribute [local go_sem ↓] wp_loadP wp_storeP quiet_loadP

/-- what the recursion gives for a smaller stretch -/
def SymIH (F : Nat) (el : Nat → PtrT) (c : Nat → Nat → Int) (base g n cap N : Nat) : Prop := ∀ (a m b : Nat) (f : Nat → Nat) (w : World), VRow w base g n cap el f → a < m → m < b → b ≤ n → b - a < N → MergeOk c f a m b →
    Calls Try.prog 43 #[.slice (some ⟨g, 0, none⟩) n cap, .int .i64 (a : Nat), .int .i64 (m : Nat), .int .i64 (b : Nat), .func (.func F) #[] #[]] w (SymPost c el base g n cap a b f w)
set_option maxRecDepth 100000 in
set_option maxHeartbeats 6400000 in
theorem symG_any (F : Nat) (el : Nat → PtrT) (c : Nat → Nat → Int) (base g n cap a m b : Nat) (f : Nat → Nat) (w : World) (h : VRow w base g n cap el f) (ham : a + 1 < m) (hmb : m + 1 < b) (hb : b ≤ n) (hm : n ≤ 1000) (hc : SwoL c) (hF : CmpOk F el c)
    (hok : MergeOk c f a m b) (hih : SymIH F el c base g n cap (b - a)) :
    Calls Try.prog 43 #[.slice (some ⟨g, 0, none⟩) n cap, .int .i64 (a : Nat), .int .i64 (m : Nat), .int .i64 (b : Nat), .func (.func F) #[] #[]] w (SymPost c el base g n cap a b f w) := by
  have H0 := Lib.hid h
  have HF := Lib.hid hF
  have hcf := hF.1
  have HCAL := Lib.hid hF.2
  have HC := Lib.hid hc
  have HK := Lib.hid hok
  have HIH := Lib.hid hih
  have hw1 : IntKind.i64.wrap ((b : Int) - (m : Int)) = ((b - m : Nat) : Int) := by rw [IntWalk.i64_in _ (by omega)]; omega
  have hw2 : IntKind.i64.wrap ((m : Int) - (a : Int)) = ((m - a : Nat) : Int) := by rw [IntWalk.i64_in _ (by omega)]; omega
  have hw3 : ((m - a : Nat) : Int) ≠ 1 := by omega
  have hw4 : (m : Int) - (a : Int) ≠ 1 := by omega
  have hw5 : ((b - m : Nat) : Int) ≠ 1 := by omega
  have hw6 : (b : Int) - (m : Int) ≠ 1 := by omega
  obtain ⟨mid, hmid⟩ : ∃ mid, mid = (a + b) / 2 := ⟨_, rfl⟩
  have hmi : ((a : Int) + (b : Int)) / 2 = (mid : Int) := by omega
  have hmid1 : a < mid := by omega
  have hmid2 : mid < b := by omega
  have HM2 : Hid (2 * mid ≤ a + b ∧ a + b ≤ 2 * mid + 1) := Lib.hid (by omega)
  clear h hF hc hok hih hmid
  rcases Nat.lt_or_ge mid m with hmm | hmm
  · have hw7 : (mid : Int) < (m : Int) := by omega
    have hmq := HM2.out
    have e5 : IntKind.i64.wrap ((mid : Int) + (m : Int) - (b : Int)) = ((mid + m - b : Nat) : Int) := by rw [IntWalk.i64_in _ (by omega)]; omega
    clear hmq
    go_enter Try.func43, Try.ntmps43
    go_wp2_with fail
    have hmq := HM2.out
    go_loopw [20, 21] (fun vi vj wr => ∃ (i j : Nat), (mid + m - b) ≤ i ∧ i ≤ j ∧ j ≤ mid ∧ Hid (vi = .int .i64 (i : Nat)) ∧ Hid (vj = .int .i64 (j : Nat)) ∧ Hid ((mid + m - b) < i → 0 ≤ c (f (mid + m - i)) (f (i - 1))) ∧ Hid (j < mid → c (f (mid + m - 1 - j)) (f j) < 0) ∧ Hid (VRow wr base g n cap el f) ∧ Hid (w.grownBy wr (some g))) (fun i j _ => (intOf j).toNat - (intOf i).toNat)
    case atStart => exact ⟨(mid + m - b), mid, by omega, by omega, by omega, Lib.hid (by go_num), Lib.hid (by go_num), Lib.hid (fun h => absurd h (by omega)), Lib.hid (fun h => absurd h (by omega)), H0, Lib.hid (World.grownBy.refl _ _)⟩
    clear hmq
    case round =>
      obtain ⟨i, j, hi1, hij, hj, hvi, hvj, HQ1, HQ2, HO, HG⟩ := hrel
      obtain rfl := hvi.out
      obtain rfl := hvj.out
      clear hvi hvj H0
      by_cases hlt : i < j
      · obtain ⟨h, hh⟩ : ∃ h, h = (i + j) / 2 := ⟨_, rfl⟩
        have h1 : i ≤ h := by omega
        have h2 : h < j := by omega
        have hmq := HM2.out
        have e1 : IntKind.i64.wrap ((mid : Int) + (m : Int) - 1 - (h : Int)) = ((mid + m - 1 - h : Nat) : Int) := by rw [IntWalk.i64_in _ (by omega)]; omega
        have e2 : ((mid : Int) + (m : Int) - 1 - (h : Int)).toNat = mid + m - 1 - h := by omega
        have e3 : (0 : Int) ≤ (mid : Int) + (m : Int) - 1 - (h : Int) := by omega
        have e4 : (mid : Int) + (m : Int) - 1 - (h : Int) < (n : Int) := by omega
        obtain ⟨cx, HX, lx⟩ := read_facts (W := wr) HO.out (show mid + m - 1 - h < n by omega)
        obtain ⟨cy, HY, ly⟩ := read_facts (W := wr) HO.out (show h < n by omega)
        have HCL : Hid (∀ q : BW wr, Calls Try.prog F #[.agg cx.toArray, .agg cy.toArray] q.w fun e W' => e = .returned (.int .i64 (c (f (mid + m - 1 - h)) (f h))) ∧ Below q.w.heap.size q.w W') := Lib.hid (fun q => by rw [HX.out, HY.out]; exact HCAL.out _ _ q.w)
        obtain ⟨r, hr⟩ : ∃ r, r = c (f (mid + m - 1 - h)) (f h) := ⟨_, rfl⟩
        rw [← hr] at HCL
        have HRR := Lib.hid hr
        have HH := Lib.hid hh
        clear hr hh hmq
        go_wp2_with fail
        rw [show ((i : Int) + (j : Int)) / 2 = (h : Int) by have := HH.out; omega]
        by_cases hlt2 : r < 0
        · have hv : decide (r < 0) = true := by simpa using hlt2
          refine wp_region_below (by kernel_rfl) (by kernel_rfl) ?_
          repeat (go_big_quiet_step (refine Calls.bw_of (HCL.out _)))
          refine wpQuiet_nil ?_
          rintro _ ⟨q, rfl⟩
          have O1 := Lib.hid (owns_below HO.out q.bel)
          have G1 := Lib.hid (grown_trans HG.out (grown_of_below (r := some g) q.bel))
          have HN1 : Hid (h < mid → c (f (mid + m - 1 - h)) (f h) < 0) := Lib.hid (fun _ => by rw [← HRR.out]; exact hlt2)
          go_wp2_with fail
          go_roundw
          case rel => exact ⟨i, h, by omega, by omega, by omega, Lib.hid rfl, Lib.hid (by go_num), HQ1, HN1, O1, G1⟩
          case measure => simp [intOf]; omega
        · have hv : decide (r < 0) = false := by simpa using hlt2
          refine wp_region_below (by kernel_rfl) (by kernel_rfl) ?_
          repeat (go_big_quiet_step (refine Calls.bw_of (HCL.out _)))
          refine wpQuiet_nil ?_
          rintro _ ⟨q, rfl⟩
          have O1 := Lib.hid (owns_below HO.out q.bel)
          have G1 := Lib.hid (grown_trans HG.out (grown_of_below (r := some g) q.bel))
          have HN1 : Hid ((mid + m - b) < h + 1 → 0 ≤ c (f (mid + m - (h + 1))) (f (h + 1 - 1))) := Lib.hid (fun _ => by rw [Nat.add_sub_cancel, show mid + m - (h + 1) = mid + m - 1 - h by omega, ← HRR.out]; omega)
          go_wp2_with fail
          go_roundw
          case rel => exact ⟨h + 1, j, by omega, by omega, by omega, Lib.hid (by go_num), Lib.hid rfl, HN1, HQ2, O1, G1⟩
          case measure => simp [intOf]; omega
      · obtain rfl : i = j := by omega
        clear hlt
        have HQ3 : Hid (a < i → mid + m - i < b → ¬ c (f (mid + m - i)) (f (i - 1)) < 0) := Lib.hid (fun h1 h2 => by have := HQ1.out (by omega); omega)
        have HQ4 : Hid (m < mid + m - i → i < m → c (f (mid + m - i - 1)) (f i) < 0) := Lib.hid (fun h1 h2 => by have := HQ2.out (by omega); rw [show mid + m - i - 1 = mid + m - 1 - i by omega]; exact this)
        have hmq := HM2.out
        have hia : a ≤ i := by omega
        have him : i ≤ m := by omega
        have hid : i ≤ mid := by omega
        obtain ⟨e, he⟩ : ∃ e, e = mid + m - i := ⟨_, rfl⟩
        have heb : e ≤ b := by omega
        have hme : m ≤ e := by omega
        have hmide : mid ≤ e := by omega
        have hmd : mid = i + (e - m) := by omega
        rw [← he] at HQ3 HQ4
        have hew : (mid : Int) + (m : Int) - (i : Int) = (e : Int) := by omega
        have HD := Lib.hid (fun gf h1 h2 (hr : RotIs f gf i m e) => merge_step (f := f) (g := gf) (h1 := h1) (h2 := h2) HC.out HK.out hia him hme heb hmd HQ3.out HQ4.out hr)
        have HMD := Lib.hid hmd
        clear HQ1 HQ2 HQ3 HQ4 hi1 hj hij he hmq hmd
        by_cases t1 : i < m ∧ m < e
        · obtain ⟨t1a, t1b⟩ := t1
          have HC1 := Lib.hid (rotate_any (.func (.func F) #[] #[]) el base g n cap i m e f wr HO.out t1a t1b (by omega) hm)
          go_wp2_with fail
          refine HC1.out.mono ?_
          rintro e1 w1 ⟨rfl, gf, hr, k1, k2⟩
          have HRT := Lib.hid hr
          have HO1 := Lib.hid k1
          have HG1 := Lib.hid (grown_trans HG.out k2)
          clear hr k1 k2 HC1 HO HG
          have HD1 := Lib.hid (fun h1 h2 => HD.out gf h1 h2 HRT.out)
          by_cases t3 : a < i ∧ i < mid
          · obtain ⟨t3a, t3b⟩ := t3
            have HC2 := Lib.hid (HIH.out a i mid _ w1 HO1.out t3a t3b (by omega) (by omega) (HD1.out f f).1)
            go_wp2_with fail
            refine HC2.out.mono ?_
            rintro e2 w2 ⟨rfl, h1, k0, k1, k2⟩
            have HM1 := Lib.hid k0
            have HO2 := Lib.hid k1
            have HG2 := Lib.hid (grown_trans HG1.out k2)
            clear k0 k1 k2 HC2 HO1 HG1
            have HD2 := Lib.hid (fun h2 => (HD1.out h1 h2).2 HM1.out)
            by_cases t5 : mid < e ∧ e < b
            · obtain ⟨t5a, t5b⟩ := t5
              have HC3 := Lib.hid (HIH.out mid e b _ w2 HO2.out t5a t5b hb (by omega) (HD2.out f).1)
              go_wp2_with fail
              refine HC3.out.mono ?_
              rintro e3 w3 ⟨rfl, h2, k0, k1, k2⟩
              have HZ := Lib.hid ((HD2.out h2).2 k0)
              have HO3 := Lib.hid k1
              have HG3 := Lib.hid (grown_trans HG2.out k2)
              clear k0 k1 k2 HC3
              go_wp2_with fail
              go_end0
              exact ⟨rfl, h2, HZ.out, HO3.out, HG3.out⟩
            · have HZ : Hid (MergeIs c f h1 a b) := Lib.hid (by
                have h0 := HD2.out h1
                refine h0.2 ?_
                rcases Nat.lt_or_ge mid e with t6 | t6
                · obtain rfl : e = b := by omega
                  exact h0.1.rightE
                · obtain rfl : e = mid := by omega
                  exact h0.1.left)
              rcases Nat.lt_or_ge mid e with t6 | t6
              · have t6b : ¬ e < b := fun h => t5 ⟨t6, h⟩
                clear t5
                go_wp2_with fail
                go_end0
                exact ⟨rfl, h1, HZ.out, HO2.out, HG2.out⟩
              · have t6b : ¬ mid < e := by omega
                clear t5
                go_wp2_with fail
                go_end0
                exact ⟨rfl, h1, HZ.out, HO2.out, HG2.out⟩
          · have HM1 : Hid (MergeIs c gf gf a mid) := Lib.hid (by
              have h0 := (HD1.out f f).1
              rcases Nat.lt_or_ge a i with t4 | t4
              · obtain rfl : i = mid := by omega
                exact h0.rightE
              · obtain rfl : i = a := by omega
                exact h0.left)
            have HO2 := HO1
            have HG2 := HG1
            clear HO1 HG1
            rcases Nat.lt_or_ge a i with t4 | t4
            · have t4b : ¬ i < mid := fun h => t3 ⟨t4, h⟩
              clear t3
              have HD2 := Lib.hid (fun h2 => (HD1.out gf h2).2 HM1.out)
              by_cases t5 : mid < e ∧ e < b
              · obtain ⟨t5a, t5b⟩ := t5
                have HC3 := Lib.hid (HIH.out mid e b _ w1 HO2.out t5a t5b hb (by omega) (HD2.out f).1)
                go_wp2_with fail
                refine HC3.out.mono ?_
                rintro e3 w3 ⟨rfl, h2, k0, k1, k2⟩
                have HZ := Lib.hid ((HD2.out h2).2 k0)
                have HO3 := Lib.hid k1
                have HG3 := Lib.hid (grown_trans HG2.out k2)
                clear k0 k1 k2 HC3
                go_wp2_with fail
                go_end0
                exact ⟨rfl, h2, HZ.out, HO3.out, HG3.out⟩
              · have HZ : Hid (MergeIs c f gf a b) := Lib.hid (by
                  have h0 := HD2.out gf
                  refine h0.2 ?_
                  rcases Nat.lt_or_ge mid e with t6 | t6
                  · obtain rfl : e = b := by omega
                    exact h0.1.rightE
                  · obtain rfl : e = mid := by omega
                    exact h0.1.left)
                rcases Nat.lt_or_ge mid e with t6 | t6
                · have t6b : ¬ e < b := fun h => t5 ⟨t6, h⟩
                  clear t5
                  go_wp2_with fail
                  go_end0
                  exact ⟨rfl, gf, HZ.out, HO2.out, HG2.out⟩
                · have t6b : ¬ mid < e := by omega
                  clear t5
                  go_wp2_with fail
                  go_end0
                  exact ⟨rfl, gf, HZ.out, HO2.out, HG2.out⟩
            · have t4b : ¬ a < i := by omega
              clear t3
              have HD2 := Lib.hid (fun h2 => (HD1.out gf h2).2 HM1.out)
              by_cases t5 : mid < e ∧ e < b
              · obtain ⟨t5a, t5b⟩ := t5
                have HC3 := Lib.hid (HIH.out mid e b _ w1 HO2.out t5a t5b hb (by omega) (HD2.out f).1)
                go_wp2_with fail
                refine HC3.out.mono ?_
                rintro e3 w3 ⟨rfl, h2, k0, k1, k2⟩
                have HZ := Lib.hid ((HD2.out h2).2 k0)
                have HO3 := Lib.hid k1
                have HG3 := Lib.hid (grown_trans HG2.out k2)
                clear k0 k1 k2 HC3
                go_wp2_with fail
                go_end0
                exact ⟨rfl, h2, HZ.out, HO3.out, HG3.out⟩
              · have HZ : Hid (MergeIs c f gf a b) := Lib.hid (by
                  have h0 := HD2.out gf
                  refine h0.2 ?_
                  rcases Nat.lt_or_ge mid e with t6 | t6
                  · obtain rfl : e = b := by omega
                    exact h0.1.rightE
                  · obtain rfl : e = mid := by omega
                    exact h0.1.left)
                rcases Nat.lt_or_ge mid e with t6 | t6
                · have t6b : ¬ e < b := fun h => t5 ⟨t6, h⟩
                  clear t5
                  go_wp2_with fail
                  go_end0
                  exact ⟨rfl, gf, HZ.out, HO2.out, HG2.out⟩
                · have t6b : ¬ mid < e := by omega
                  clear t5
                  go_wp2_with fail
                  go_end0
                  exact ⟨rfl, gf, HZ.out, HO2.out, HG2.out⟩
        · have HRT : Hid (RotIs f f i m e) := Lib.hid (by
            rcases Nat.lt_or_ge i m with t2 | t2
            · obtain rfl : e = m := by omega
              exact RotIs.noneR _ _ _
            · obtain rfl : i = m := by omega
              exact RotIs.none _ _ _)
          have HO1 := HO
          have HG1 := HG
          clear HO HG
          rcases Nat.lt_or_ge i m with t2 | t2
          · have t2b : ¬ m < e := fun h => t1 ⟨t2, h⟩
            clear t1
            have HD1 := Lib.hid (fun h1 h2 => HD.out f h1 h2 HRT.out)
            by_cases t3 : a < i ∧ i < mid
            · obtain ⟨t3a, t3b⟩ := t3
              have HC2 := Lib.hid (HIH.out a i mid _ wr HO1.out t3a t3b (by omega) (by omega) (HD1.out f f).1)
              go_wp2_with fail
              refine HC2.out.mono ?_
              rintro e2 w2 ⟨rfl, h1, k0, k1, k2⟩
              have HM1 := Lib.hid k0
              have HO2 := Lib.hid k1
              have HG2 := Lib.hid (grown_trans HG1.out k2)
              clear k0 k1 k2 HC2 HO1 HG1
              have HD2 := Lib.hid (fun h2 => (HD1.out h1 h2).2 HM1.out)
              by_cases t5 : mid < e ∧ e < b
              · obtain ⟨t5a, t5b⟩ := t5
                have HC3 := Lib.hid (HIH.out mid e b _ w2 HO2.out t5a t5b hb (by omega) (HD2.out f).1)
                go_wp2_with fail
                refine HC3.out.mono ?_
                rintro e3 w3 ⟨rfl, h2, k0, k1, k2⟩
                have HZ := Lib.hid ((HD2.out h2).2 k0)
                have HO3 := Lib.hid k1
                have HG3 := Lib.hid (grown_trans HG2.out k2)
                clear k0 k1 k2 HC3
                go_wp2_with fail
                go_end0
                exact ⟨rfl, h2, HZ.out, HO3.out, HG3.out⟩
              · have HZ : Hid (MergeIs c f h1 a b) := Lib.hid (by
                  have h0 := HD2.out h1
                  refine h0.2 ?_
                  rcases Nat.lt_or_ge mid e with t6 | t6
                  · obtain rfl : e = b := by omega
                    exact h0.1.rightE
                  · obtain rfl : e = mid := by omega
                    exact h0.1.left)
                rcases Nat.lt_or_ge mid e with t6 | t6
                · have t6b : ¬ e < b := fun h => t5 ⟨t6, h⟩
                  clear t5
                  go_wp2_with fail
                  go_end0
                  exact ⟨rfl, h1, HZ.out, HO2.out, HG2.out⟩
                · have t6b : ¬ mid < e := by omega
                  clear t5
                  go_wp2_with fail
                  go_end0
                  exact ⟨rfl, h1, HZ.out, HO2.out, HG2.out⟩
            · have HM1 : Hid (MergeIs c f f a mid) := Lib.hid (by
                have h0 := (HD1.out f f).1
                rcases Nat.lt_or_ge a i with t4 | t4
                · obtain rfl : i = mid := by omega
                  exact h0.rightE
                · obtain rfl : i = a := by omega
                  exact h0.left)
              have HO2 := HO1
              have HG2 := HG1
              clear HO1 HG1
              rcases Nat.lt_or_ge a i with t4 | t4
              · have t4b : ¬ i < mid := fun h => t3 ⟨t4, h⟩
                clear t3
                have HD2 := Lib.hid (fun h2 => (HD1.out f h2).2 HM1.out)
                by_cases t5 : mid < e ∧ e < b
                · obtain ⟨t5a, t5b⟩ := t5
                  have HC3 := Lib.hid (HIH.out mid e b _ wr HO2.out t5a t5b hb (by omega) (HD2.out f).1)
                  go_wp2_with fail
                  refine HC3.out.mono ?_
                  rintro e3 w3 ⟨rfl, h2, k0, k1, k2⟩
                  have HZ := Lib.hid ((HD2.out h2).2 k0)
                  have HO3 := Lib.hid k1
                  have HG3 := Lib.hid (grown_trans HG2.out k2)
                  clear k0 k1 k2 HC3
                  go_wp2_with fail
                  go_end0
                  exact ⟨rfl, h2, HZ.out, HO3.out, HG3.out⟩
                · have HZ : Hid (MergeIs c f f a b) := Lib.hid (by
                    have h0 := HD2.out f
                    refine h0.2 ?_
                    rcases Nat.lt_or_ge mid e with t6 | t6
                    · obtain rfl : e = b := by omega
                      exact h0.1.rightE
                    · obtain rfl : e = mid := by omega
                      exact h0.1.left)
                  rcases Nat.lt_or_ge mid e with t6 | t6
                  · have t6b : ¬ e < b := fun h => t5 ⟨t6, h⟩
                    clear t5
                    go_wp2_with fail
                    go_end0
                    exact ⟨rfl, f, HZ.out, HO2.out, HG2.out⟩
                  · have t6b : ¬ mid < e := by omega
                    clear t5
                    go_wp2_with fail
                    go_end0
                    exact ⟨rfl, f, HZ.out, HO2.out, HG2.out⟩
              · have t4b : ¬ a < i := by omega
                clear t3
                have HD2 := Lib.hid (fun h2 => (HD1.out f h2).2 HM1.out)
                by_cases t5 : mid < e ∧ e < b
                · obtain ⟨t5a, t5b⟩ := t5
                  have HC3 := Lib.hid (HIH.out mid e b _ wr HO2.out t5a t5b hb (by omega) (HD2.out f).1)
                  go_wp2_with fail
                  refine HC3.out.mono ?_
                  rintro e3 w3 ⟨rfl, h2, k0, k1, k2⟩
                  have HZ := Lib.hid ((HD2.out h2).2 k0)
                  have HO3 := Lib.hid k1
                  have HG3 := Lib.hid (grown_trans HG2.out k2)
                  clear k0 k1 k2 HC3
                  go_wp2_with fail
                  go_end0
                  exact ⟨rfl, h2, HZ.out, HO3.out, HG3.out⟩
                · have HZ : Hid (MergeIs c f f a b) := Lib.hid (by
                    have h0 := HD2.out f
                    refine h0.2 ?_
                    rcases Nat.lt_or_ge mid e with t6 | t6
                    · obtain rfl : e = b := by omega
                      exact h0.1.rightE
                    · obtain rfl : e = mid := by omega
                      exact h0.1.left)
                  rcases Nat.lt_or_ge mid e with t6 | t6
                  · have t6b : ¬ e < b := fun h => t5 ⟨t6, h⟩
                    clear t5
                    go_wp2_with fail
                    go_end0
                    exact ⟨rfl, f, HZ.out, HO2.out, HG2.out⟩
                  · have t6b : ¬ mid < e := by omega
                    clear t5
                    go_wp2_with fail
                    go_end0
                    exact ⟨rfl, f, HZ.out, HO2.out, HG2.out⟩
          · have t2b : ¬ i < m := by omega
            clear t1
            have HD1 := Lib.hid (fun h1 h2 => HD.out f h1 h2 HRT.out)
            by_cases t3 : a < i ∧ i < mid
            · obtain ⟨t3a, t3b⟩ := t3
              have HC2 := Lib.hid (HIH.out a i mid _ wr HO1.out t3a t3b (by omega) (by omega) (HD1.out f f).1)
              go_wp2_with fail
              refine HC2.out.mono ?_
              rintro e2 w2 ⟨rfl, h1, k0, k1, k2⟩
              have HM1 := Lib.hid k0
              have HO2 := Lib.hid k1
              have HG2 := Lib.hid (grown_trans HG1.out k2)
              clear k0 k1 k2 HC2 HO1 HG1
              have HD2 := Lib.hid (fun h2 => (HD1.out h1 h2).2 HM1.out)
              by_cases t5 : mid < e ∧ e < b
              · obtain ⟨t5a, t5b⟩ := t5
                have HC3 := Lib.hid (HIH.out mid e b _ w2 HO2.out t5a t5b hb (by omega) (HD2.out f).1)
                go_wp2_with fail
                refine HC3.out.mono ?_
                rintro e3 w3 ⟨rfl, h2, k0, k1, k2⟩
                have HZ := Lib.hid ((HD2.out h2).2 k0)
                have HO3 := Lib.hid k1
                have HG3 := Lib.hid (grown_trans HG2.out k2)
                clear k0 k1 k2 HC3
                go_wp2_with fail
                go_end0
                exact ⟨rfl, h2, HZ.out, HO3.out, HG3.out⟩
              · have HZ : Hid (MergeIs c f h1 a b) := Lib.hid (by
                  have h0 := HD2.out h1
                  refine h0.2 ?_
                  rcases Nat.lt_or_ge mid e with t6 | t6
                  · obtain rfl : e = b := by omega
                    exact h0.1.rightE
                  · obtain rfl : e = mid := by omega
                    exact h0.1.left)
                rcases Nat.lt_or_ge mid e with t6 | t6
                · have t6b : ¬ e < b := fun h => t5 ⟨t6, h⟩
                  clear t5
                  go_wp2_with fail
                  go_end0
                  exact ⟨rfl, h1, HZ.out, HO2.out, HG2.out⟩
                · have t6b : ¬ mid < e := by omega
                  clear t5
                  go_wp2_with fail
                  go_end0
                  exact ⟨rfl, h1, HZ.out, HO2.out, HG2.out⟩
            · have HM1 : Hid (MergeIs c f f a mid) := Lib.hid (by
                have h0 := (HD1.out f f).1
                rcases Nat.lt_or_ge a i with t4 | t4
                · obtain rfl : i = mid := by omega
                  exact h0.rightE
                · obtain rfl : i = a := by omega
                  exact h0.left)
              have HO2 := HO1
              have HG2 := HG1
              clear HO1 HG1
              rcases Nat.lt_or_ge a i with t4 | t4
              · have t4b : ¬ i < mid := fun h => t3 ⟨t4, h⟩
                clear t3
                have HD2 := Lib.hid (fun h2 => (HD1.out f h2).2 HM1.out)
                by_cases t5 : mid < e ∧ e < b
                · obtain ⟨t5a, t5b⟩ := t5
                  have HC3 := Lib.hid (HIH.out mid e b _ wr HO2.out t5a t5b hb (by omega) (HD2.out f).1)
                  go_wp2_with fail
                  refine HC3.out.mono ?_
                  rintro e3 w3 ⟨rfl, h2, k0, k1, k2⟩
                  have HZ := Lib.hid ((HD2.out h2).2 k0)
                  have HO3 := Lib.hid k1
                  have HG3 := Lib.hid (grown_trans HG2.out k2)
                  clear k0 k1 k2 HC3
                  go_wp2_with fail
                  go_end0
                  exact ⟨rfl, h2, HZ.out, HO3.out, HG3.out⟩
                · have HZ : Hid (MergeIs c f f a b) := Lib.hid (by
                    have h0 := HD2.out f
                    refine h0.2 ?_
                    rcases Nat.lt_or_ge mid e with t6 | t6
                    · obtain rfl : e = b := by omega
                      exact h0.1.rightE
                    · obtain rfl : e = mid := by omega
                      exact h0.1.left)
                  rcases Nat.lt_or_ge mid e with t6 | t6
                  · have t6b : ¬ e < b := fun h => t5 ⟨t6, h⟩
                    clear t5
                    go_wp2_with fail
                    go_end0
                    exact ⟨rfl, f, HZ.out, HO2.out, HG2.out⟩
                  · have t6b : ¬ mid < e := by omega
                    clear t5
                    go_wp2_with fail
                    go_end0
                    exact ⟨rfl, f, HZ.out, HO2.out, HG2.out⟩
              · have t4b : ¬ a < i := by omega
                clear t3
                have HD2 := Lib.hid (fun h2 => (HD1.out f h2).2 HM1.out)
                by_cases t5 : mid < e ∧ e < b
                · obtain ⟨t5a, t5b⟩ := t5
                  have HC3 := Lib.hid (HIH.out mid e b _ wr HO2.out t5a t5b hb (by omega) (HD2.out f).1)
                  go_wp2_with fail
                  refine HC3.out.mono ?_
                  rintro e3 w3 ⟨rfl, h2, k0, k1, k2⟩
                  have HZ := Lib.hid ((HD2.out h2).2 k0)
                  have HO3 := Lib.hid k1
                  have HG3 := Lib.hid (grown_trans HG2.out k2)
                  clear k0 k1 k2 HC3
                  go_wp2_with fail
                  go_end0
                  exact ⟨rfl, h2, HZ.out, HO3.out, HG3.out⟩
                · have HZ : Hid (MergeIs c f f a b) := Lib.hid (by
                    have h0 := HD2.out f
                    refine h0.2 ?_
                    rcases Nat.lt_or_ge mid e with t6 | t6
                    · obtain rfl : e = b := by omega
                      exact h0.1.rightE
                    · obtain rfl : e = mid := by omega
                      exact h0.1.left)
                  rcases Nat.lt_or_ge mid e with t6 | t6
                  · have t6b : ¬ e < b := fun h => t5 ⟨t6, h⟩
                    clear t5
                    go_wp2_with fail
                    go_end0
                    exact ⟨rfl, f, HZ.out, HO2.out, HG2.out⟩
                  · have t6b : ¬ mid < e := by omega
                    clear t5
                    go_wp2_with fail
                    go_end0
                    exact ⟨rfl, f, HZ.out, HO2.out, HG2.out⟩
  · have hw7 : ¬ (mid : Int) < (m : Int) := by omega
    go_enter Try.func43, Try.ntmps43
    go_wp2_with fail
    go_loopw [20, 21] (fun vi vj wr => ∃ (i j : Nat), a ≤ i ∧ i ≤ j ∧ j ≤ m ∧ Hid (vi = .int .i64 (i : Nat)) ∧ Hid (vj = .int .i64 (j : Nat)) ∧ Hid (a < i → 0 ≤ c (f (mid + m - i)) (f (i - 1))) ∧ Hid (j < m → c (f (mid + m - 1 - j)) (f j) < 0) ∧ Hid (VRow wr base g n cap el f) ∧ Hid (w.grownBy wr (some g))) (fun i j _ => (intOf j).toNat - (intOf i).toNat)
    case atStart => exact ⟨a, m, by omega, by omega, by omega, Lib.hid (by go_num), Lib.hid (by go_num), Lib.hid (fun h => absurd h (by omega)), Lib.hid (fun h => absurd h (by omega)), H0, Lib.hid (World.grownBy.refl _ _)⟩
    case round =>
      obtain ⟨i, j, hi1, hij, hj, hvi, hvj, HQ1, HQ2, HO, HG⟩ := hrel
      obtain rfl := hvi.out
      obtain rfl := hvj.out
      clear hvi hvj H0
      by_cases hlt : i < j
      · obtain ⟨h, hh⟩ : ∃ h, h = (i + j) / 2 := ⟨_, rfl⟩
        have h1 : i ≤ h := by omega
        have h2 : h < j := by omega
        have hmq := HM2.out
        have e1 : IntKind.i64.wrap ((mid : Int) + (m : Int) - 1 - (h : Int)) = ((mid + m - 1 - h : Nat) : Int) := by rw [IntWalk.i64_in _ (by omega)]; omega
        have e2 : ((mid : Int) + (m : Int) - 1 - (h : Int)).toNat = mid + m - 1 - h := by omega
        have e3 : (0 : Int) ≤ (mid : Int) + (m : Int) - 1 - (h : Int) := by omega
        have e4 : (mid : Int) + (m : Int) - 1 - (h : Int) < (n : Int) := by omega
        obtain ⟨cx, HX, lx⟩ := read_facts (W := wr) HO.out (show mid + m - 1 - h < n by omega)
        obtain ⟨cy, HY, ly⟩ := read_facts (W := wr) HO.out (show h < n by omega)
        have HCL : Hid (∀ q : BW wr, Calls Try.prog F #[.agg cx.toArray, .agg cy.toArray] q.w fun e W' => e = .returned (.int .i64 (c (f (mid + m - 1 - h)) (f h))) ∧ Below q.w.heap.size q.w W') := Lib.hid (fun q => by rw [HX.out, HY.out]; exact HCAL.out _ _ q.w)
        obtain ⟨r, hr⟩ : ∃ r, r = c (f (mid + m - 1 - h)) (f h) := ⟨_, rfl⟩
        rw [← hr] at HCL
        have HRR := Lib.hid hr
        have HH := Lib.hid hh
        clear hr hh hmq
        go_wp2_with fail
        rw [show ((i : Int) + (j : Int)) / 2 = (h : Int) by have := HH.out; omega]
        by_cases hlt2 : r < 0
        · have hv : decide (r < 0) = true := by simpa using hlt2
          refine wp_region_below (by kernel_rfl) (by kernel_rfl) ?_
          repeat (go_big_quiet_step (refine Calls.bw_of (HCL.out _)))
          refine wpQuiet_nil ?_
          rintro _ ⟨q, rfl⟩
          have O1 := Lib.hid (owns_below HO.out q.bel)
          have G1 := Lib.hid (grown_trans HG.out (grown_of_below (r := some g) q.bel))
          have HN1 : Hid (h < m → c (f (mid + m - 1 - h)) (f h) < 0) := Lib.hid (fun _ => by rw [← HRR.out]; exact hlt2)
          go_wp2_with fail
          go_roundw
          case rel => exact ⟨i, h, by omega, by omega, by omega, Lib.hid rfl, Lib.hid (by go_num), HQ1, HN1, O1, G1⟩
          case measure => simp [intOf]; omega
        · have hv : decide (r < 0) = false := by simpa using hlt2
          refine wp_region_below (by kernel_rfl) (by kernel_rfl) ?_
          repeat (go_big_quiet_step (refine Calls.bw_of (HCL.out _)))
          refine wpQuiet_nil ?_
          rintro _ ⟨q, rfl⟩
          have O1 := Lib.hid (owns_below HO.out q.bel)
          have G1 := Lib.hid (grown_trans HG.out (grown_of_below (r := some g) q.bel))
          have HN1 : Hid (a < h + 1 → 0 ≤ c (f (mid + m - (h + 1))) (f (h + 1 - 1))) := Lib.hid (fun _ => by rw [Nat.add_sub_cancel, show mid + m - (h + 1) = mid + m - 1 - h by omega, ← HRR.out]; omega)
          go_wp2_with fail
          go_roundw
          case rel => exact ⟨h + 1, j, by omega, by omega, by omega, Lib.hid (by go_num), Lib.hid rfl, HN1, HQ2, O1, G1⟩
          case measure => simp [intOf]; omega
      · obtain rfl : i = j := by omega
        clear hlt
        have HQ3 : Hid (a < i → mid + m - i < b → ¬ c (f (mid + m - i)) (f (i - 1)) < 0) := Lib.hid (fun h1 h2 => by have := HQ1.out (by omega); omega)
        have HQ4 : Hid (m < mid + m - i → i < m → c (f (mid + m - i - 1)) (f i) < 0) := Lib.hid (fun h1 h2 => by have := HQ2.out (by omega); rw [show mid + m - i - 1 = mid + m - 1 - i by omega]; exact this)
        have hmq := HM2.out
        have hia : a ≤ i := by omega
        have him : i ≤ m := by omega
        have hid : i ≤ mid := by omega
        obtain ⟨e, he⟩ : ∃ e, e = mid + m - i := ⟨_, rfl⟩
        have heb : e ≤ b := by omega
        have hme : m ≤ e := by omega
        have hmide : mid ≤ e := by omega
        have hmd : mid = i + (e - m) := by omega
        rw [← he] at HQ3 HQ4
        have hew : (mid : Int) + (m : Int) - (i : Int) = (e : Int) := by omega
        have HD := Lib.hid (fun gf h1 h2 (hr : RotIs f gf i m e) => merge_step (f := f) (g := gf) (h1 := h1) (h2 := h2) HC.out HK.out hia him hme heb hmd HQ3.out HQ4.out hr)
        have HMD := Lib.hid hmd
        clear HQ1 HQ2 HQ3 HQ4 hi1 hj hij he hmq hmd
        by_cases t1 : i < m ∧ m < e
        · obtain ⟨t1a, t1b⟩ := t1
          have HC1 := Lib.hid (rotate_any (.func (.func F) #[] #[]) el base g n cap i m e f wr HO.out t1a t1b (by omega) hm)
          go_wp2_with fail
          refine HC1.out.mono ?_
          rintro e1 w1 ⟨rfl, gf, hr, k1, k2⟩
          have HRT := Lib.hid hr
          have HO1 := Lib.hid k1
          have HG1 := Lib.hid (grown_trans HG.out k2)
          clear hr k1 k2 HC1 HO HG
          have HD1 := Lib.hid (fun h1 h2 => HD.out gf h1 h2 HRT.out)
          by_cases t3 : a < i ∧ i < mid
          · obtain ⟨t3a, t3b⟩ := t3
            have HC2 := Lib.hid (HIH.out a i mid _ w1 HO1.out t3a t3b (by omega) (by omega) (HD1.out f f).1)
            go_wp2_with fail
            refine HC2.out.mono ?_
            rintro e2 w2 ⟨rfl, h1, k0, k1, k2⟩
            have HM1 := Lib.hid k0
            have HO2 := Lib.hid k1
            have HG2 := Lib.hid (grown_trans HG1.out k2)
            clear k0 k1 k2 HC2 HO1 HG1
            have HD2 := Lib.hid (fun h2 => (HD1.out h1 h2).2 HM1.out)
            by_cases t5 : mid < e ∧ e < b
            · obtain ⟨t5a, t5b⟩ := t5
              have HC3 := Lib.hid (HIH.out mid e b _ w2 HO2.out t5a t5b hb (by omega) (HD2.out f).1)
              go_wp2_with fail
              refine HC3.out.mono ?_
              rintro e3 w3 ⟨rfl, h2, k0, k1, k2⟩
              have HZ := Lib.hid ((HD2.out h2).2 k0)
              have HO3 := Lib.hid k1
              have HG3 := Lib.hid (grown_trans HG2.out k2)
              clear k0 k1 k2 HC3
              go_wp2_with fail
              go_end0
              exact ⟨rfl, h2, HZ.out, HO3.out, HG3.out⟩
            · have HZ : Hid (MergeIs c f h1 a b) := Lib.hid (by
                have h0 := HD2.out h1
                refine h0.2 ?_
                rcases Nat.lt_or_ge mid e with t6 | t6
                · obtain rfl : e = b := by omega
                  exact h0.1.rightE
                · obtain rfl : e = mid := by omega
                  exact h0.1.left)
              rcases Nat.lt_or_ge mid e with t6 | t6
              · have t6b : ¬ e < b := fun h => t5 ⟨t6, h⟩
                clear t5
                go_wp2_with fail
                go_end0
                exact ⟨rfl, h1, HZ.out, HO2.out, HG2.out⟩
              · have t6b : ¬ mid < e := by omega
                clear t5
                go_wp2_with fail
                go_end0
                exact ⟨rfl, h1, HZ.out, HO2.out, HG2.out⟩
          · have HM1 : Hid (MergeIs c gf gf a mid) := Lib.hid (by
              have h0 := (HD1.out f f).1
              rcases Nat.lt_or_ge a i with t4 | t4
              · obtain rfl : i = mid := by omega
                exact h0.rightE
              · obtain rfl : i = a := by omega
                exact h0.left)
            have HO2 := HO1
            have HG2 := HG1
            clear HO1 HG1
            rcases Nat.lt_or_ge a i with t4 | t4
            · have t4b : ¬ i < mid := fun h => t3 ⟨t4, h⟩
              clear t3
              have HD2 := Lib.hid (fun h2 => (HD1.out gf h2).2 HM1.out)
              by_cases t5 : mid < e ∧ e < b
              · obtain ⟨t5a, t5b⟩ := t5
                have HC3 := Lib.hid (HIH.out mid e b _ w1 HO2.out t5a t5b hb (by omega) (HD2.out f).1)
                go_wp2_with fail
                refine HC3.out.mono ?_
                rintro e3 w3 ⟨rfl, h2, k0, k1, k2⟩
                have HZ := Lib.hid ((HD2.out h2).2 k0)
                have HO3 := Lib.hid k1
                have HG3 := Lib.hid (grown_trans HG2.out k2)
                clear k0 k1 k2 HC3
                go_wp2_with fail
                go_end0
                exact ⟨rfl, h2, HZ.out, HO3.out, HG3.out⟩
              · have HZ : Hid (MergeIs c f gf a b) := Lib.hid (by
                  have h0 := HD2.out gf
                  refine h0.2 ?_
                  rcases Nat.lt_or_ge mid e with t6 | t6
                  · obtain rfl : e = b := by omega
                    exact h0.1.rightE
                  · obtain rfl : e = mid := by omega
                    exact h0.1.left)
                rcases Nat.lt_or_ge mid e with t6 | t6
                · have t6b : ¬ e < b := fun h => t5 ⟨t6, h⟩
                  clear t5
                  go_wp2_with fail
                  go_end0
                  exact ⟨rfl, gf, HZ.out, HO2.out, HG2.out⟩
                · have t6b : ¬ mid < e := by omega
                  clear t5
                  go_wp2_with fail
                  go_end0
                  exact ⟨rfl, gf, HZ.out, HO2.out, HG2.out⟩
            · have t4b : ¬ a < i := by omega
              clear t3
              have HD2 := Lib.hid (fun h2 => (HD1.out gf h2).2 HM1.out)
              by_cases t5 : mid < e ∧ e < b
              · obtain ⟨t5a, t5b⟩ := t5
                have HC3 := Lib.hid (HIH.out mid e b _ w1 HO2.out t5a t5b hb (by omega) (HD2.out f).1)
                go_wp2_with fail
                refine HC3.out.mono ?_
                rintro e3 w3 ⟨rfl, h2, k0, k1, k2⟩
                have HZ := Lib.hid ((HD2.out h2).2 k0)
                have HO3 := Lib.hid k1
                have HG3 := Lib.hid (grown_trans HG2.out k2)
                clear k0 k1 k2 HC3
                go_wp2_with fail
                go_end0
                exact ⟨rfl, h2, HZ.out, HO3.out, HG3.out⟩
              · have HZ : Hid (MergeIs c f gf a b) := Lib.hid (by
                  have h0 := HD2.out gf
                  refine h0.2 ?_
                  rcases Nat.lt_or_ge mid e with t6 | t6
                  · obtain rfl : e = b := by omega
                    exact h0.1.rightE
                  · obtain rfl : e = mid := by omega
                    exact h0.1.left)
                rcases Nat.lt_or_ge mid e with t6 | t6
                · have t6b : ¬ e < b := fun h => t5 ⟨t6, h⟩
                  clear t5
                  go_wp2_with fail
                  go_end0
                  exact ⟨rfl, gf, HZ.out, HO2.out, HG2.out⟩
                · have t6b : ¬ mid < e := by omega
                  clear t5
                  go_wp2_with fail
                  go_end0
                  exact ⟨rfl, gf, HZ.out, HO2.out, HG2.out⟩
        · have HRT : Hid (RotIs f f i m e) := Lib.hid (by
            rcases Nat.lt_or_ge i m with t2 | t2
            · obtain rfl : e = m := by omega
              exact RotIs.noneR _ _ _
            · obtain rfl : i = m := by omega
              exact RotIs.none _ _ _)
          have HO1 := HO
          have HG1 := HG
          clear HO HG
          rcases Nat.lt_or_ge i m with t2 | t2
          · have t2b : ¬ m < e := fun h => t1 ⟨t2, h⟩
            clear t1
            have HD1 := Lib.hid (fun h1 h2 => HD.out f h1 h2 HRT.out)
            by_cases t3 : a < i ∧ i < mid
            · obtain ⟨t3a, t3b⟩ := t3
              have HC2 := Lib.hid (HIH.out a i mid _ wr HO1.out t3a t3b (by omega) (by omega) (HD1.out f f).1)
              go_wp2_with fail
              refine HC2.out.mono ?_
              rintro e2 w2 ⟨rfl, h1, k0, k1, k2⟩
              have HM1 := Lib.hid k0
              have HO2 := Lib.hid k1
              have HG2 := Lib.hid (grown_trans HG1.out k2)
              clear k0 k1 k2 HC2 HO1 HG1
              have HD2 := Lib.hid (fun h2 => (HD1.out h1 h2).2 HM1.out)
              by_cases t5 : mid < e ∧ e < b
              · obtain ⟨t5a, t5b⟩ := t5
                have HC3 := Lib.hid (HIH.out mid e b _ w2 HO2.out t5a t5b hb (by omega) (HD2.out f).1)
                go_wp2_with fail
                refine HC3.out.mono ?_
                rintro e3 w3 ⟨rfl, h2, k0, k1, k2⟩
                have HZ := Lib.hid ((HD2.out h2).2 k0)
                have HO3 := Lib.hid k1
                have HG3 := Lib.hid (grown_trans HG2.out k2)
                clear k0 k1 k2 HC3
                go_wp2_with fail
                go_end0
                exact ⟨rfl, h2, HZ.out, HO3.out, HG3.out⟩
              · have HZ : Hid (MergeIs c f h1 a b) := Lib.hid (by
                  have h0 := HD2.out h1
                  refine h0.2 ?_
                  rcases Nat.lt_or_ge mid e with t6 | t6
                  · obtain rfl : e = b := by omega
                    exact h0.1.rightE
                  · obtain rfl : e = mid := by omega
                    exact h0.1.left)
                rcases Nat.lt_or_ge mid e with t6 | t6
                · have t6b : ¬ e < b := fun h => t5 ⟨t6, h⟩
                  clear t5
                  go_wp2_with fail
                  go_end0
                  exact ⟨rfl, h1, HZ.out, HO2.out, HG2.out⟩
                · have t6b : ¬ mid < e := by omega
                  clear t5
                  go_wp2_with fail
                  go_end0
                  exact ⟨rfl, h1, HZ.out, HO2.out, HG2.out⟩
            · have HM1 : Hid (MergeIs c f f a mid) := Lib.hid (by
                have h0 := (HD1.out f f).1
                rcases Nat.lt_or_ge a i with t4 | t4
                · obtain rfl : i = mid := by omega
                  exact h0.rightE
                · obtain rfl : i = a := by omega
                  exact h0.left)
              have HO2 := HO1
              have HG2 := HG1
              clear HO1 HG1
              rcases Nat.lt_or_ge a i with t4 | t4
              · have t4b : ¬ i < mid := fun h => t3 ⟨t4, h⟩
                clear t3
                have HD2 := Lib.hid (fun h2 => (HD1.out f h2).2 HM1.out)
                by_cases t5 : mid < e ∧ e < b
                · obtain ⟨t5a, t5b⟩ := t5
                  have HC3 := Lib.hid (HIH.out mid e b _ wr HO2.out t5a t5b hb (by omega) (HD2.out f).1)
                  go_wp2_with fail
                  refine HC3.out.mono ?_
                  rintro e3 w3 ⟨rfl, h2, k0, k1, k2⟩
                  have HZ := Lib.hid ((HD2.out h2).2 k0)
                  have HO3 := Lib.hid k1
                  have HG3 := Lib.hid (grown_trans HG2.out k2)
                  clear k0 k1 k2 HC3
                  go_wp2_with fail
                  go_end0
                  exact ⟨rfl, h2, HZ.out, HO3.out, HG3.out⟩
                · have HZ : Hid (MergeIs c f f a b) := Lib.hid (by
                    have h0 := HD2.out f
                    refine h0.2 ?_
                    rcases Nat.lt_or_ge mid e with t6 | t6
                    · obtain rfl : e = b := by omega
                      exact h0.1.rightE
                    · obtain rfl : e = mid := by omega
                      exact h0.1.left)
                  rcases Nat.lt_or_ge mid e with t6 | t6
                  · have t6b : ¬ e < b := fun h => t5 ⟨t6, h⟩
                    clear t5
                    go_wp2_with fail
                    go_end0
                    exact ⟨rfl, f, HZ.out, HO2.out, HG2.out⟩
                  · have t6b : ¬ mid < e := by omega
                    clear t5
                    go_wp2_with fail
                    go_end0
                    exact ⟨rfl, f, HZ.out, HO2.out, HG2.out⟩
              · have t4b : ¬ a < i := by omega
                clear t3
                have HD2 := Lib.hid (fun h2 => (HD1.out f h2).2 HM1.out)
                by_cases t5 : mid < e ∧ e < b
                · obtain ⟨t5a, t5b⟩ := t5
                  have HC3 := Lib.hid (HIH.out mid e b _ wr HO2.out t5a t5b hb (by omega) (HD2.out f).1)
                  go_wp2_with fail
                  refine HC3.out.mono ?_
                  rintro e3 w3 ⟨rfl, h2, k0, k1, k2⟩
                  have HZ := Lib.hid ((HD2.out h2).2 k0)
                  have HO3 := Lib.hid k1
                  have HG3 := Lib.hid (grown_trans HG2.out k2)
                  clear k0 k1 k2 HC3
                  go_wp2_with fail
                  go_end0
                  exact ⟨rfl, h2, HZ.out, HO3.out, HG3.out⟩
                · have HZ : Hid (MergeIs c f f a b) := Lib.hid (by
                    have h0 := HD2.out f
                    refine h0.2 ?_
                    rcases Nat.lt_or_ge mid e with t6 | t6
                    · obtain rfl : e = b := by omega
                      exact h0.1.rightE
                    · obtain rfl : e = mid := by omega
                      exact h0.1.left)
                  rcases Nat.lt_or_ge mid e with t6 | t6
                  · have t6b : ¬ e < b := fun h => t5 ⟨t6, h⟩
                    clear t5
                    go_wp2_with fail
                    go_end0
                    exact ⟨rfl, f, HZ.out, HO2.out, HG2.out⟩
                  · have t6b : ¬ mid < e := by omega
                    clear t5
                    go_wp2_with fail
                    go_end0
                    exact ⟨rfl, f, HZ.out, HO2.out, HG2.out⟩
          · have t2b : ¬ i < m := by omega
            clear t1
            have HD1 := Lib.hid (fun h1 h2 => HD.out f h1 h2 HRT.out)
            by_cases t3 : a < i ∧ i < mid
            · obtain ⟨t3a, t3b⟩ := t3
              have HC2 := Lib.hid (HIH.out a i mid _ wr HO1.out t3a t3b (by omega) (by omega) (HD1.out f f).1)
              go_wp2_with fail
              refine HC2.out.mono ?_
              rintro e2 w2 ⟨rfl, h1, k0, k1, k2⟩
              have HM1 := Lib.hid k0
              have HO2 := Lib.hid k1
              have HG2 := Lib.hid (grown_trans HG1.out k2)
              clear k0 k1 k2 HC2 HO1 HG1
              have HD2 := Lib.hid (fun h2 => (HD1.out h1 h2).2 HM1.out)
              by_cases t5 : mid < e ∧ e < b
              · obtain ⟨t5a, t5b⟩ := t5
                have HC3 := Lib.hid (HIH.out mid e b _ w2 HO2.out t5a t5b hb (by omega) (HD2.out f).1)
                go_wp2_with fail
                refine HC3.out.mono ?_
                rintro e3 w3 ⟨rfl, h2, k0, k1, k2⟩
                have HZ := Lib.hid ((HD2.out h2).2 k0)
                have HO3 := Lib.hid k1
                have HG3 := Lib.hid (grown_trans HG2.out k2)
                clear k0 k1 k2 HC3
                go_wp2_with fail
                go_end0
                exact ⟨rfl, h2, HZ.out, HO3.out, HG3.out⟩
              · have HZ : Hid (MergeIs c f h1 a b) := Lib.hid (by
                  have h0 := HD2.out h1
                  refine h0.2 ?_
                  rcases Nat.lt_or_ge mid e with t6 | t6
                  · obtain rfl : e = b := by omega
                    exact h0.1.rightE
                  · obtain rfl : e = mid := by omega
                    exact h0.1.left)
                rcases Nat.lt_or_ge mid e with t6 | t6
                · have t6b : ¬ e < b := fun h => t5 ⟨t6, h⟩
                  clear t5
                  go_wp2_with fail
                  go_end0
                  exact ⟨rfl, h1, HZ.out, HO2.out, HG2.out⟩
                · have t6b : ¬ mid < e := by omega
                  clear t5
                  go_wp2_with fail
                  go_end0
                  exact ⟨rfl, h1, HZ.out, HO2.out, HG2.out⟩
            · have HM1 : Hid (MergeIs c f f a mid) := Lib.hid (by
                have h0 := (HD1.out f f).1
                rcases Nat.lt_or_ge a i with t4 | t4
                · obtain rfl : i = mid := by omega
                  exact h0.rightE
                · obtain rfl : i = a := by omega
                  exact h0.left)
              have HO2 := HO1
              have HG2 := HG1
              clear HO1 HG1
              rcases Nat.lt_or_ge a i with t4 | t4
              · have t4b : ¬ i < mid := fun h => t3 ⟨t4, h⟩
                clear t3
                have HD2 := Lib.hid (fun h2 => (HD1.out f h2).2 HM1.out)
                by_cases t5 : mid < e ∧ e < b
                · obtain ⟨t5a, t5b⟩ := t5
                  have HC3 := Lib.hid (HIH.out mid e b _ wr HO2.out t5a t5b hb (by omega) (HD2.out f).1)
                  go_wp2_with fail
                  refine HC3.out.mono ?_
                  rintro e3 w3 ⟨rfl, h2, k0, k1, k2⟩
                  have HZ := Lib.hid ((HD2.out h2).2 k0)
                  have HO3 := Lib.hid k1
                  have HG3 := Lib.hid (grown_trans HG2.out k2)
                  clear k0 k1 k2 HC3
                  go_wp2_with fail
                  go_end0
                  exact ⟨rfl, h2, HZ.out, HO3.out, HG3.out⟩
                · have HZ : Hid (MergeIs c f f a b) := Lib.hid (by
                    have h0 := HD2.out f
                    refine h0.2 ?_
                    rcases Nat.lt_or_ge mid e with t6 | t6
                    · obtain rfl : e = b := by omega
                      exact h0.1.rightE
                    · obtain rfl : e = mid := by omega
                      exact h0.1.left)
                  rcases Nat.lt_or_ge mid e with t6 | t6
                  · have t6b : ¬ e < b := fun h => t5 ⟨t6, h⟩
                    clear t5
                    go_wp2_with fail
                    go_end0
                    exact ⟨rfl, f, HZ.out, HO2.out, HG2.out⟩
                  · have t6b : ¬ mid < e := by omega
                    clear t5
                    go_wp2_with fail
                    go_end0
                    exact ⟨rfl, f, HZ.out, HO2.out, HG2.out⟩
              · have t4b : ¬ a < i := by omega
                clear t3
                have HD2 := Lib.hid (fun h2 => (HD1.out f h2).2 HM1.out)
                by_cases t5 : mid < e ∧ e < b
                · obtain ⟨t5a, t5b⟩ := t5
                  have HC3 := Lib.hid (HIH.out mid e b _ wr HO2.out t5a t5b hb (by omega) (HD2.out f).1)
                  go_wp2_with fail
                  refine HC3.out.mono ?_
                  rintro e3 w3 ⟨rfl, h2, k0, k1, k2⟩
                  have HZ := Lib.hid ((HD2.out h2).2 k0)
                  have HO3 := Lib.hid k1
                  have HG3 := Lib.hid (grown_trans HG2.out k2)
                  clear k0 k1 k2 HC3
                  go_wp2_with fail
                  go_end0
                  exact ⟨rfl, h2, HZ.out, HO3.out, HG3.out⟩
                · have HZ : Hid (MergeIs c f f a b) := Lib.hid (by
                    have h0 := HD2.out f
                    refine h0.2 ?_
                    rcases Nat.lt_or_ge mid e with t6 | t6
                    · obtain rfl : e = b := by omega
                      exact h0.1.rightE
                    · obtain rfl : e = mid := by omega
                      exact h0.1.left)
                  rcases Nat.lt_or_ge mid e with t6 | t6
                  · have t6b : ¬ e < b := fun h => t5 ⟨t6, h⟩
                    clear t5
                    go_wp2_with fail
                    go_end0
                    exact ⟨rfl, f, HZ.out, HO2.out, HG2.out⟩
                  · have t6b : ¬ mid < e := by omega
                    clear t5
                    go_wp2_with fail
                    go_end0
                    exact ⟨rfl, f, HZ.out, HO2.out, HG2.out⟩
end Go.Proofs.Ytbkknpodipapoaa
