/- The walk of symMerge at pointers: the other base case. -/
import Derived.Test.YtbkknpodipapoaaVsY
namespace Go.Proofs.Ytbkknpodipapoaa
open Go.RowKit
set_option linter.unusedSimpArgs false
attribute [local go_sem ↓] Go.wp_at_zero Go.wp_at_succ
attribute [local go_sem ↓] wp_loadP wp_storeP quiet_loadP

set_option maxRecDepth 100000 in
set_option maxHeartbeats 3200000 in
theorem symR_any (F : Nat) (el : Nat → PtrT) (c : Nat → Nat → Int) (base g n cap a m : Nat) (f : Nat → Nat) (w : World) (h : VRow w base g n cap el f) (ham : a + 1 < m) (hb : m + 1 ≤ n) (hm : n ≤ 1000) (hc : SwoL c) (hF : CmpOk F el c)
    (hok : MergeOk c f a m (m + 1)) :
    Calls Try.prog 43 #[.slice (some ⟨g, 0, none⟩) n cap, .int .i64 (a : Nat), .int .i64 (m : Nat), .int .i64 ((m + 1 : Nat) : Int), .func (.func F) #[] #[]] w (SymPost c el base g n cap a (m + 1) f w) := by
  have H0 := Lib.hid h
  have hcf := hF.1
  have HCAL := Lib.hid hF.2
  have HC := Lib.hid hc
  have HK := Lib.hid hok
  have hw1 : IntKind.i64.wrap (((m + 1 : Nat) : Int) - (m : Int)) = 1 := by rw [IntWalk.i64_in _ (by omega)]; omega
  have hw2 : IntKind.i64.wrap ((m : Int) - (a : Int)) = ((m - a : Nat) : Int) := by rw [IntWalk.i64_in _ (by omega)]; omega
  have hw3 : ((m - a : Nat) : Int) ≠ 1 := by omega
  have hw4 : (m : Int) - (a : Int) ≠ 1 := by omega
  clear h hF hc hok
  go_enter Try.func43, Try.ntmps43
  go_wp2_with fail
  go_loopw [14, 15] (fun vi vj wr => ∃ (i j : Nat), a ≤ i ∧ i ≤ j ∧ j ≤ m ∧ Hid (vi = .int .i64 (i : Nat)) ∧ Hid (vj = .int .i64 (j : Nat)) ∧ Hid (a < i → 0 ≤ c (f m) (f (i - 1))) ∧ Hid (j < m → c (f m) (f j) < 0) ∧ Hid (VRow wr base g n cap el f) ∧ Hid (w.grownBy wr (some g))) (fun i j _ => (intOf j).toNat - (intOf i).toNat)
  case atStart => exact ⟨a, m, by omega, by omega, by omega, Lib.hid rfl, Lib.hid rfl, Lib.hid (fun h => absurd h (by omega)), Lib.hid (fun h => absurd h (by omega)), H0, Lib.hid (World.grownBy.refl _ _)⟩
  case round =>
    obtain ⟨i, j, hi1, hij, hj, hvi, hvj, HQ1, HQ2, HO, HG⟩ := hrel
    obtain rfl := hvi.out
    obtain rfl := hvj.out
    clear hvi hvj
    clear H0
    by_cases hlt : i < j
    · obtain ⟨h, hh⟩ : ∃ h, h = (i + j) / 2 := ⟨_, rfl⟩
      have h1 : i ≤ h := by omega
      have h2 : h < j := by omega
      obtain ⟨cx, HX, lx⟩ := read_facts (W := wr) HO.out (show m < n by omega)
      obtain ⟨cy, HY, ly⟩ := read_facts (W := wr) HO.out (show h < n by omega)
      have HCL : Hid (∀ q : BW wr, Calls Try.prog F #[.agg cx.toArray, .agg cy.toArray] q.w fun e W' => e = .returned (.int .i64 (c (f m) (f h))) ∧ Below q.w.heap.size q.w W') := Lib.hid (fun q => by rw [HX.out, HY.out]; exact HCAL.out _ _ q.w)
      obtain ⟨r, hr⟩ : ∃ r, r = c (f m) (f h) := ⟨_, rfl⟩
      rw [← hr] at HCL
      have HRR := Lib.hid hr
      have HH := Lib.hid hh
      clear hr hh
      go_wp2_with fail
      rw [show ((i : Int) + (j : Int)) / 2 = (h : Int) by have := HH.out; omega]
      by_cases hlt2 : r < 0
      · have hv : decide (r < 0) = true := by simpa using hlt2
        refine wp_region_below (by kernel_rfl) (by kernel_rfl) ?_
        repeat (go_big_quiet_step (refine Calls.bw_of (HCL.out _)))
        refine wpQuiet_nil ?_
        rintro _ ⟨q, rfl⟩
        have O1 := Lib.hid (owns_below HO.out q.bel)
        have G1 := Lib.hid (grown_trans HG.out (grown_of_below (r := some g) q.bel))
        have HN1 : Hid (h < m → c (f m) (f h) < 0) := Lib.hid (fun _ => by rw [← HRR.out]; exact hlt2)
        go_wp2_with fail
        go_roundw
        case rel => exact ⟨i, h, by omega, by omega, by omega, Lib.hid rfl, Lib.hid (by go_num), HQ1, HN1, O1, G1⟩
        case measure => simp [intOf]; omega
      · have hv : decide (r < 0) = false := by simpa using hlt2
        refine wp_region_below (by kernel_rfl) (by kernel_rfl) ?_
        repeat (go_big_quiet_step (refine Calls.bw_of (HCL.out _)))
        refine wpQuiet_nil ?_
        rintro _ ⟨q, rfl⟩
        have O1 := Lib.hid (owns_below HO.out q.bel)
        have G1 := Lib.hid (grown_trans HG.out (grown_of_below (r := some g) q.bel))
        have HN1 : Hid (a < h + 1 → 0 ≤ c (f m) (f (h + 1 - 1))) := Lib.hid (fun _ => by rw [Nat.add_sub_cancel, ← HRR.out]; omega)
        go_wp2_with fail
        go_roundw
        case rel => exact ⟨h + 1, j, by omega, by omega, by omega, Lib.hid (by go_num), Lib.hid rfl, HN1, HQ2, O1, G1⟩
        case measure => simp [intOf]; omega
    · obtain rfl : i = j := by omega
      clear hlt
      obtain ⟨wo, rfl⟩ : ∃ wo : World, wo = wr := ⟨_, rfl⟩
      go_wp2_with fail
      go_loopw [17] (fun v wr => ∃ (k : Nat) (f' : Nat → Nat), i ≤ k ∧ k ≤ m ∧ v = .int .i64 (k : Nat) ∧ Hid (RotIs f f' k m (m + 1)) ∧ Hid (VRow wr base g n cap el f') ∧ Hid (w.grownBy wr (some g))) (fun v _ => (intOf v).toNat)
      case atStart => exact ⟨m, f, by omega, by omega, rfl, Lib.hid (RotIs.none f m (m + 1)), HO, HG⟩
      case round =>
        obtain ⟨k, f', hk1, hk2, rfl, HR, HO', HG'⟩ := hrel
        by_cases hki : i < k
        · obtain ⟨p, rfl⟩ : ∃ p, k = p + 1 := ⟨k - 1, by omega⟩
          have hwp : IntKind.i64.wrap (p : Int) = (p : Int) := IntWalk.i64_in _ (by omega)
          have k1 : (i : Int) < (p : Int) + 1 := by omega
          have k2 : ((p : Int) + 1).toNat = p + 1 := by omega
          have k3 : (0 : Int) ≤ (p : Int) + 1 := by omega
          have k4 : (p : Int) + 1 < (n : Int) := by omega
          have k5 : (p : Int) < (n : Int) := by omega
          obtain ⟨dx, dy, l1, l2, s1, s2, HO2, HG2⟩ := swap_facts (W := wr.drew) HO'.out (show p + 1 < n by omega) (show p < n by omega) (by omega)
          have HRD := Lib.hid (HR.out.down (by omega) hk2)
          rw [Nat.add_sub_cancel] at HRD
          go_wp2_with fail
          go_big_region
          all_goals go_wp2_with fail
          go_roundw
          case rel => exact ⟨p, _, by omega, by omega, by go_num, HRD, HO2, Lib.hid (grown_trans HG'.out (grown_trans (grown_drew _ _) HG2.out))⟩
          case measure => simp [intOf] <;> omega
        · obtain rfl : k = i := by omega
          have HMI := Lib.hid (merge_one_right HC.out HK.out hi1 hj (fun h => by have := HQ1.out h; omega) HQ2.out HR.out)
          go_wp2_with fail
          go_end0
          exact ⟨rfl, f', HMI.out, HO'.out, HG'.out⟩
end Go.Proofs.Ytbkknpodipapoaa
