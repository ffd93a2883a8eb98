/- The walk of the library's insertion sort at pointers. -/
import Derived.Test.YtbkknpodipapoaaVsX
namespace Go.Proofs.Ytbkknpodipapoaa
open Go.RowKit
set_option linter.unusedSimpArgs false
attribute [local go_sem ↓] Go.wp_at_zero Go.wp_at_succ
attribute [local go_sem ↓] wp_loadP wp_storeP quiet_loadP

/-- what is asked of a comparator: it reads, and may lay blocks of its own -/
def CmpOk (F : Nat) (el : Nat → PtrT) (c : Nat → Nat → Int) : Prop := (∀ args W, (callFunc F args).run Try.prog W = .ok (.enter F args) W) ∧
  ∀ x y W, Calls Try.prog F #[.agg (encPtr (el x)).toArray, .agg (encPtr (el y)).toArray] W fun e W' => e = .returned (.int .i64 (c x y)) ∧ Below W.heap.size W W'
set_option maxRecDepth 100000 in
set_option maxHeartbeats 3200000 in
theorem isortP_any (F : Nat) (el : Nat → PtrT) (c : Nat → Nat → Int) (base g n cap a b : Nat) (f : Nat → Nat) (w : World) (h : VRow w base g n cap el f) (hab : a ≤ b) (hb : b ≤ n) (hm : n ≤ 1000) (hc : SwoL c) (hF : CmpOk F el c)
    (hnum : ∀ p q, a ≤ p → p < q → q < b → f p < f q) :
    Calls Try.prog 42 #[.slice (some ⟨g, 0, none⟩) n cap, .int .i64 (a : Nat), .int .i64 (b : Nat), .func (.func F) #[] #[]] w fun e w' => e = .returned (.tuple #[]) ∧ ∃ h, MergeIs c f h a b ∧ VRow w' base g n cap el h ∧ w.grownBy w' (some g) := by
  have H0 := Lib.hid h
  have hcf := hF.1
  have HCAL := Lib.hid hF.2
  have HC := Lib.hid hc
  have HN := Lib.hid hnum
  have hw1 : IntKind.i64.wrap ((a : Int) + 1) = ((a + 1 : Nat) : Int) := by rw [IntWalk.i64_in _ (by omega)]; omega
  clear h hF hc hnum
  go_enter Try.func42, Try.ntmps42
  go_wp2_with fail
  go_loopw [8] (fun i wr => ∃ (k : Nat) (f' : Nat → Nat), a ≤ k ∧ (k ≤ b ∨ a = b) ∧ k ≤ b + 1 ∧ i = .int .i64 (k : Nat) ∧ Hid (MergeIs c f f' a (min k b)) ∧ Hid (VRow wr base g n cap el f') ∧ Hid (w.grownBy wr (some g))) (fun i _ => b - (intOf i).toNat)
  case atStart =>
    refine ⟨a + 1, f, by omega, by omega, by omega, by go_num, Lib.hid ⟨fun _ _ => rfl, ?_, List.Perm.refl _⟩, H0, Lib.hid (World.grownBy.refl _ _)⟩
    rcases Nat.eq_or_lt_of_le hab with e | e
    · rw [show min (a + 1) b - a = 0 by omega]; exact List.Pairwise.nil
    · rw [show min (a + 1) b - a = 1 by omega]; exact List.pairwise_singleton _ _
  case round =>
    obtain ⟨k, f0, hk1, hk2, hk3, rfl, HM, HO, HG⟩ := hrel
    clear H0 hw1
    by_cases hkb : k < b
    · rw [show min k b = k by omega] at HM
      obtain ⟨wo, rfl⟩ : ∃ wo : World, wo = wr := ⟨_, rfl⟩
      have HOK := Lib.hid (insert_step hk1 HM.out (fun p q h1 h2 h3 => HN.out p q h1 h2 (by omega)))
      go_wp2_with fail
      go_loopw [9] (fun i wr => ∃ (j : Nat) (f' : Nat → Nat), a ≤ j ∧ j ≤ k ∧ i = .int .i64 (j : Nat) ∧ Hid (RotIs f0 f' j k (k + 1)) ∧ Hid (j < k → c (f0 k) (f0 j) < 0) ∧ Hid (VRow wr base g n cap el f') ∧ Hid (w.grownBy wr (some g))) (fun i _ => (intOf i).toNat)
      case atStart => exact ⟨k, f0, hk1, Nat.le_refl _, rfl, Lib.hid (RotIs.none f0 k (k + 1)), Lib.hid (fun h => absurd h (by omega)), HO, HG⟩
      case round =>
        obtain ⟨j, f', hj1, hj2, rfl, HR, HQ, HO', HG'⟩ := hrel
        have efj : f' j = f0 k := by
          have := HR.out.fst 0 (by omega)
          simpa using this
        have HEJ := Lib.hid efj
        clear efj
        by_cases hja : a < j
        · obtain ⟨p, rfl⟩ : ∃ p, j = p + 1 := ⟨j - 1, by omega⟩
          have efp : f' p = f0 p := HR.out.out _ (by omega)
          have HEP := Lib.hid efp
          clear efp
          obtain ⟨cx, HX, lx⟩ := read_facts (W := wr) HO'.out (show p + 1 < n by omega)
          obtain ⟨cy, HY, ly⟩ := read_facts (W := wr) HO'.out (show p < n by omega)
          have HCL : Hid (∀ q : BW wr, Calls Try.prog F #[.agg cx.toArray, .agg cy.toArray] q.w fun e W' => e = .returned (.int .i64 (c (f' (p + 1)) (f' p))) ∧ Below q.w.heap.size q.w W') := Lib.hid (fun q => by rw [HX.out, HY.out]; exact HCAL.out _ _ q.w)
          obtain ⟨r, hr⟩ : ∃ r, r = c (f' (p + 1)) (f' p) := ⟨_, rfl⟩
          rw [← hr] at HCL
          have HRR := Lib.hid hr
          clear hr
          have hwp : IntKind.i64.wrap (p : Int) = (p : Int) := IntWalk.i64_in _ (by omega)
          have jz : (p : Int) + 1 < (n : Int) := by omega
          have jz1 : (p : Int) < (n : Int) := by omega
          have hjaz : (a : Int) < (p : Int) + 1 := by omega
          have p0 : (0 : Int) ≤ (p : Int) + 1 := by omega
          have e0 : ((p : Int) + 1).toNat = p + 1 := by omega
          by_cases hlt : r < 0
          · go_wp2_with fail
            refine wp_region_below (by kernel_rfl) (by kernel_rfl) ?_
            repeat (go_big_quiet_step (refine Calls.bw_of (HCL.out _)))
            refine wpQuiet_nil ?_
            rintro _ ⟨q, rfl⟩
            have O1 := Lib.hid (owns_below HO'.out q.bel)
            have G1 := Lib.hid (grown_trans HG'.out (grown_of_below (r := some g) q.bel))
            obtain ⟨w1, hw1⟩ : ∃ w1, w1 = q.w := ⟨_, rfl⟩
            rw [← hw1] at O1 G1 ⊢
            clear hw1 lx ly HCL HX HY
            obtain ⟨dx, dy, l1, l2, s1, s2, HO2, HG2⟩ := swap_facts (W := w1.drew) O1.out (show p + 1 < n by omega) (show p < n by omega) (by omega)
            have HRD := Lib.hid (HR.out.down (by omega) hj2)
            rw [Nat.add_sub_cancel] at HRD
            have HQ2 : Hid (p < k → c (f0 k) (f0 p) < 0) := Lib.hid (fun _ => by rw [← HEJ.out, ← HEP.out, ← HRR.out]; exact hlt)
            go_wp2_with fail
            go_big_region
            all_goals go_wp2_with fail
            go_roundw
            case rel => exact ⟨p, _, by omega, by omega, by go_num, HRD, HQ2, HO2, Lib.hid (grown_trans G1.out (grown_trans (grown_drew _ _) HG2.out))⟩
            case measure => simp [intOf] <;> omega
          · go_wp2_with fail
            refine wp_region_below (by kernel_rfl) (by kernel_rfl) ?_
            repeat (go_big_quiet_step (refine Calls.bw_of (HCL.out _)))
            refine wpQuiet_nil ?_
            rintro _ ⟨q, rfl⟩
            have O1 := Lib.hid (owns_below HO'.out q.bel)
            have G1 := Lib.hid (grown_trans HG'.out (grown_of_below (r := some g) q.bel))
            have HMI := Lib.hid (HM.out.next hk1 (merge_one_right HC.out HOK.out hj1 hj2 (fun _ => by rw [Nat.add_sub_cancel, ← HEJ.out, ← HEP.out, ← HRR.out]; omega) HQ.out HR.out))
            go_wp2_with fail
            go_roundw
            case rel => exact ⟨k + 1, f', by omega, by omega, by omega, by go_num, by rw [show min (k + 1) b = k + 1 by omega]; exact HMI, O1, G1⟩
            case measure => simp [intOf]; omega
        · obtain rfl : j = a := by omega
          have hd : decide (j < j) = false := by simp
          have HMI := Lib.hid (HM.out.next hk1 (merge_one_right HC.out HOK.out hj1 hj2 (fun h => absurd h (by omega)) HQ.out HR.out))
          go_wp2_with fail
          refine wp_region_below (by kernel_rfl) (by kernel_rfl) ?_
          repeat (go_big_quiet_step (fail))
          refine wpQuiet_nil ?_
          rintro _ ⟨q, rfl⟩
          have O1 := Lib.hid (owns_below HO'.out q.bel)
          have G1 := Lib.hid (grown_trans HG'.out (grown_of_below (r := some g) q.bel))
          go_wp2_with fail
          go_roundw
          case rel => exact ⟨k + 1, f', by omega, by omega, by omega, by go_num, by rw [show min (k + 1) b = k + 1 by omega]; exact HMI, O1, G1⟩
          case measure => simp [intOf]; omega
    · rw [show min k b = b by omega] at HM
      go_wp2_with fail
      go_end0
      exact ⟨rfl, f0, HM.out, HO.out, HG.out⟩
end Go.Proofs.Ytbkknpodipapoaa
