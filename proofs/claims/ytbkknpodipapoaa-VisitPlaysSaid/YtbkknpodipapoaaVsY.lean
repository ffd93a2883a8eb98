/- The walk of symMerge at pointers: its two base cases. -/
import Derived.Test.YtbkknpodipapoaaVsI
namespace Go.Proofs.Ytbkknpodipapoaa
open Go.RowKit
set_option linter.unusedSimpArgs false
attribute [local go_sem ↓] Go.wp_at_zero Go.wp_at_succ
attribute [local go_sem ↓] wp_loadP wp_storeP quiet_loadP

def SymPost (c : Nat → Nat → Int) (el : Nat → PtrT) (base g n cap a b : Nat) (f : Nat → Nat) (w : World) (e : Ending) (w' : World) : Prop :=
  e = .returned (.tuple #[]) ∧ ∃ h, MergeIs c f h a b ∧ VRow w' base g n cap el h ∧ w.grownBy w' (some g)
set_option maxRecDepth 100000 in
set_option maxHeartbeats 3200000 in
theorem symL_any (F : Nat) (el : Nat → PtrT) (c : Nat → Nat → Int) (base g n cap a b : Nat) (f : Nat → Nat) (w : World) (h : VRow w base g n cap el f) (hab : a + 1 < b) (hb : b ≤ n) (hm : n ≤ 1000) (hc : SwoL c) (hF : CmpOk F el c)
    (hok : MergeOk c f a (a + 1) b) :
    Calls Try.prog 43 #[.slice (some ⟨g, 0, none⟩) n cap, .int .i64 (a : Nat), .int .i64 ((a + 1 : Nat) : Int), .int .i64 (b : Nat), .func (.func F) #[] #[]] w (SymPost c el base g n cap a b f w) := by
  have H0 := Lib.hid h
  have hcf := hF.1
  have HCAL := Lib.hid hF.2
  have HC := Lib.hid hc
  have HK := Lib.hid hok
  have hw1 : IntKind.i64.wrap (((a + 1 : Nat) : Int) - (a : Int)) = 1 := by rw [IntWalk.i64_in _ (by omega)]; omega
  clear h hF hc hok
  go_enter Try.func43, Try.ntmps43
  go_wp2_with fail
  go_loopw [10, 11] (fun vi vj wr => ∃ (i j : Nat), a + 1 ≤ i ∧ i ≤ j ∧ j ≤ b ∧ Hid (vi = .int .i64 (i : Nat)) ∧ Hid (vj = .int .i64 (j : Nat)) ∧ Hid (a + 1 < i → c (f (i - 1)) (f a) < 0) ∧ Hid (j < b → 0 ≤ c (f j) (f a)) ∧ Hid (VRow wr base g n cap el f) ∧ Hid (w.grownBy wr (some g))) (fun i j _ => (intOf j).toNat - (intOf i).toNat)
  case atStart => exact ⟨a + 1, b, by omega, by omega, by omega, Lib.hid (by go_num), Lib.hid rfl, Lib.hid (fun h => absurd h (by omega)), Lib.hid (fun h => absurd h (by omega)), H0, Lib.hid (World.grownBy.refl _ _)⟩
  case round =>
    obtain ⟨i, j, hi1, hij, hj, hvi, hvj, HQ1, HQ2, HO, HG⟩ := hrel
    obtain rfl := hvi.out
    obtain rfl := hvj.out
    clear hvi hvj
    clear H0
    by_cases hlt : i < j
    · obtain ⟨h, hh⟩ : ∃ h, h = (i + j) / 2 := ⟨_, rfl⟩
      have h1 : i ≤ h := by omega
      have h2 : h < j := by omega
      obtain ⟨cx, HX, lx⟩ := read_facts (W := wr) HO.out (show h < n by omega)
      obtain ⟨cy, HY, ly⟩ := read_facts (W := wr) HO.out (show a < n by omega)
      have HCL : Hid (∀ q : BW wr, Calls Try.prog F #[.agg cx.toArray, .agg cy.toArray] q.w fun e W' => e = .returned (.int .i64 (c (f h) (f a))) ∧ Below q.w.heap.size q.w W') := Lib.hid (fun q => by rw [HX.out, HY.out]; exact HCAL.out _ _ q.w)
      obtain ⟨r, hr⟩ : ∃ r, r = c (f h) (f a) := ⟨_, rfl⟩
      rw [← hr] at HCL
      have HRR := Lib.hid hr
      have HH := Lib.hid hh
      clear hr hh
      go_wp2_with fail
      rw [show ((i : Int) + (j : Int)) / 2 = (h : Int) by have := HH.out; omega]
      by_cases hlt2 : r < 0
      · have hv : decide (r < 0) = true := by simpa using hlt2
        refine wp_region_below (by kernel_rfl) (by kernel_rfl) ?_
        repeat (go_big_quiet_step (refine Calls.bw_of (HCL.out _)))
        refine wpQuiet_nil ?_
        rintro _ ⟨q, rfl⟩
        have O1 := Lib.hid (owns_below HO.out q.bel)
        have G1 := Lib.hid (grown_trans HG.out (grown_of_below (r := some g) q.bel))
        have HN1 : Hid (a + 1 < h + 1 → c (f (h + 1 - 1)) (f a) < 0) := Lib.hid (fun _ => by rw [Nat.add_sub_cancel, ← HRR.out]; exact hlt2)
        go_wp2_with fail
        go_roundw
        case rel => exact ⟨h + 1, j, by omega, by omega, by omega, Lib.hid (by go_num), Lib.hid rfl, HN1, HQ2, O1, G1⟩
        case measure => simp [intOf]; omega
      · have hv : decide (r < 0) = false := by simpa using hlt2
        refine wp_region_below (by kernel_rfl) (by kernel_rfl) ?_
        repeat (go_big_quiet_step (refine Calls.bw_of (HCL.out _)))
        refine wpQuiet_nil ?_
        rintro _ ⟨q, rfl⟩
        have O1 := Lib.hid (owns_below HO.out q.bel)
        have G1 := Lib.hid (grown_trans HG.out (grown_of_below (r := some g) q.bel))
        have HN1 : Hid (h < b → 0 ≤ c (f h) (f a)) := Lib.hid (fun _ => by rw [← HRR.out]; omega)
        go_wp2_with fail
        go_roundw
        case rel => exact ⟨i, h, by omega, by omega, by omega, Lib.hid rfl, Lib.hid (by go_num), HQ1, HN1, O1, G1⟩
        case measure => simp [intOf]; omega
    · obtain rfl : i = j := by omega
      clear hlt
      obtain ⟨wo, rfl⟩ : ∃ wo : World, wo = wr := ⟨_, rfl⟩
      have hwi : IntKind.i64.wrap ((i : Int) - 1) = ((i - 1 : Nat) : Int) := by rw [IntWalk.i64_in _ (by omega)]; omega
      go_wp2_with fail
      go_loopw [13] (fun v wr => ∃ (k : Nat) (f' : Nat → Nat), a ≤ k ∧ k + 1 ≤ i ∧ v = .int .i64 (k : Nat) ∧ Hid (RotIs f f' a (a + 1) (k + 1)) ∧ Hid (VRow wr base g n cap el f') ∧ Hid (w.grownBy wr (some g))) (fun v _ => n - (intOf v).toNat)
      case atStart => exact ⟨a, f, by omega, by omega, rfl, Lib.hid (RotIs.noneR f a (a + 1)), HO, HG⟩
      case round =>
        obtain ⟨k, f', hk1, hk2, rfl, HR, HO', HG'⟩ := hrel
        by_cases hki : k + 1 < i
        · have k1 : (k : Int) < ((i - 1 : Nat) : Int) := by omega
          have k2 : ((k : Int) + 1).toNat = k + 1 := by omega
          have k3 : (0 : Int) ≤ (k : Int) + 1 := by omega
          have k4 : (k : Int) + 1 < (n : Int) := by omega
          have k5 : (k : Int) < (i : Int) - 1 := by omega
          obtain ⟨dx, dy, l1, l2, s1, s2, HO2, HG2⟩ := swap_facts (W := wr.drew) HO'.out (show k < n by omega) (show k + 1 < n by omega) (by omega)
          have HRD := Lib.hid (HR.out.up hk1)
          go_wp2_with fail
          go_big_region
          all_goals go_wp2_with fail
          go_roundw
          case rel => exact ⟨k + 1, _, by omega, by omega, by go_num, HRD, HO2, Lib.hid (grown_trans HG'.out (grown_trans (grown_drew _ _) HG2.out))⟩
          case measure => simp [intOf]; omega
        · obtain rfl : i = k + 1 := by omega
          have k5 : ¬ (k : Int) < ((k + 1 : Nat) : Int) - 1 := by omega
          have HMI := Lib.hid (merge_one_left HC.out HK.out hi1 hj HQ1.out (fun h => by have := HQ2.out h; omega) HR.out)
          go_wp2_with fail
          go_end0
          exact ⟨rfl, f', HMI.out, HO'.out, HG'.out⟩
end Go.Proofs.Ytbkknpodipapoaa
