/- The walk of CompactFunc at pointers. -/
import Derived.Test.YtbkknpodipapoaaVsC
namespace Go.Proofs.Ytbkknpodipapoaa
open Go.RowKit
set_option linter.unusedSimpArgs false
attribute [local go_sem ↓] Go.wp_at_zero Go.wp_at_succ
attribute [local go_sem ↓] wp_loadP wp_storeP quiet_loadP

/-- the same mark as the one ahead -/
def dupP (E : Nat → PtrT) (j : Nat) : Bool := decide (0 < j) && eqM (E j) (E (j - 1))
/-- behind a compaction, or a deletion -/
def KeptIs (E : Nat → PtrT) (p : Nat → Bool) (base g n cap : Nat) (w : World) (e : Ending) (w' : World) : Prop :=
  e = .returned (.slice (some ⟨g, 0, none⟩) (cntK p n) cap) ∧ w'.ownsRow base 30 12 (.slice (some ⟨g, 0, none⟩) (cntK p n) cap) (cntK p n) (encPs (keepL E p n)) ∧ w.grownBy w' (some g)
theorem keptIs_of {E : Nat → PtrT} {p : Nat → Bool} {base g n cap m : Nat} {w w' : World} {f : Nat → Nat} (hm : m = cntK p n) (hk : KeptTo p f n) (h : VRow w' base g m cap E f) (hg : w.grownBy w' (some g)) : KeptIs E p base g n cap w (.returned (.slice (some ⟨g, 0, none⟩) m cap)) w' := by
  subst hm
  unfold VRow at h
  rw [hk.enc E] at h
  exact ⟨rfl, h, hg⟩
set_option maxRecDepth 100000 in
set_option maxHeartbeats 3200000 in
theorem compact_any (E : Nat → PtrT) (base g n cap : Nat) (w : World) (h : VRow w base g n cap E id) (hm : n ≤ 1000) :
    Calls Try.prog 27 #[.slice (some ⟨g, 0, none⟩) n cap, .func (.func 28) #[] #[]] w (KeptIs E (dupP E) base g n cap w) := by
  have hcapn : n ≤ cap := (owns_blk h).choose_spec.2.2.1
  have hcap63 : cap ≤ 9223372036854775807 := (owns_blk h).choose_spec.2.2.2.1
  have H0 := Lib.hid h
  have HQ := Lib.hid (fun x y W => ord2_any (E x) (E y) W)
  obtain ⟨p, hp⟩ : ∃ p, p = dupP E := ⟨_, rfl⟩
  rw [← hp]
  have hpp : ∀ j, p (j + 1) = eqM (E (j + 1)) (E j) := fun j => by rw [hp]; simp [dupP]
  have hp0 : p 0 = false := by rw [hp]; simp [dupP]
  have HPP := Lib.hid hpp
  have HP0 := Lib.hid hp0
  clear h hp hpp hp0
  by_cases hn2 : n < 2
  · have hno : ∀ j, j < n → p j = false := fun j hj => by rw [show j = 0 by omega]; exact HP0.out
    have HX := Lib.hid (keptIs_of (base := base) (g := g) (cap := cap) (cnt_all hno).symm (KeptTo.all (fun t _ => rfl) hno) H0.out (World.grownBy.refl w _))
    clear hno
    go_enter Try.func27, Try.ntmps27
    go_wp2_with fail
    go_ret
    exact HX.out
  · go_enter Try.func27, Try.ntmps27
    go_wp2_with fail
    go_loopw [5] (fun i wr => ∃ (k : Nat), 1 ≤ k ∧ k ≤ n ∧ i = .int .i64 (k : Nat) ∧ Hid (∀ j, j < k → p j = false) ∧ Hid (VRow wr base g n cap E id) ∧ Hid (w.grownBy wr (some g))) (fun i _ => n - (intOf i).toNat)
    case atStart => exact ⟨1, by omega, by omega, by go_num, Lib.hid (fun j hj => by rw [show j = 0 by omega]; exact HP0.out), H0, Lib.hid (World.grownBy.refl _ _)⟩
    case round =>
      obtain ⟨k, hk1, hk2, rfl, HN, HO, HG⟩ := hrel
      clear H0
      by_cases hkn : k < n
      · obtain ⟨k1, rfl⟩ : ∃ k1, k = k1 + 1 := ⟨k - 1, by omega⟩
        have hwp : IntKind.i64.wrap (k1 : Int) = (k1 : Int) := IntWalk.i64_in _ (by omega)
        have jz : (k1 : Int) + 1 < (n : Int) := by omega
        have jz1 : (k1 : Int) < (n : Int) := by omega
        have j0 : (0 : Int) ≤ (k1 : Int) + 1 := by omega
        have e0 : ((k1 : Int) + 1).toNat = k1 + 1 := by omega
        obtain ⟨cx, HX, lx⟩ := read_facts (W := wr) HO.out (show k1 + 1 < n by omega)
        obtain ⟨cy, HY, ly⟩ := read_facts (W := wr) HO.out (show k1 < n by omega)
        have HCL : Hid (∀ q : BW wr, Calls Try.prog 28 #[.agg cx.toArray, .agg cy.toArray] q.w fun e W' => e = .returned (.bool (p (k1 + 1))) ∧ Below q.w.heap.size q.w W') := Lib.hid (fun q => by rw [HX.out, HY.out, HPP.out]; exact HQ.out _ _ q.w)
        cases hpk : p (k1 + 1) with
        | false =>
          rw [hpk] at HCL
          have HPK := Lib.hid hpk
          clear hpk
          go_wp2_with fail
          refine wp_region_below (by kernel_rfl) (by kernel_rfl) ?_
          repeat (go_big_quiet_step (refine Calls.bw_of (HCL.out _)))
          refine wpQuiet_nil ?_
          rintro _ ⟨q, rfl⟩
          have O1 := Lib.hid (owns_below HO.out q.bel)
          have G1 := Lib.hid (grown_trans HG.out (grown_of_below (r := some g) q.bel))
          go_wp2_with fail
          go_roundw
          case rel => exact ⟨k1 + 1 + 1, by omega, by omega, by go_num, Lib.hid (fun j hj => by
            by_cases e : j = k1 + 1
            · rw [e]; exact HPK.out
            · exact HN.out j (by omega)), O1, G1⟩
          case measure => simp [intOf]; omega
        | true =>
          rw [hpk] at HCL
          have HPK := Lib.hid hpk
          clear hpk
          go_wp2_with fail
          refine wp_region_below (by kernel_rfl) (by kernel_rfl) ?_
          repeat (go_big_quiet_step (refine Calls.bw_of (HCL.out _)))
          refine wpQuiet_nil ?_
          rintro _ ⟨q, rfl⟩
          have O1 := Lib.hid (owns_below HO.out q.bel)
          have G1 := Lib.hid (grown_trans HG.out (grown_of_below (r := some g) q.bel))
          obtain ⟨wo, hwo⟩ : ∃ wo, wo = q.w := ⟨_, rfl⟩
          rw [← hwo] at O1 G1 ⊢
          obtain ⟨k, hk⟩ : ∃ k, k = k1 + 1 := ⟨_, rfl⟩
          rw [← hk]
          have hne2 : ¬ cap = k := by omega
          have hmc : k ≤ cap := by omega
          have hmk : k ≤ n := by omega
          have hi1 : (0 : Int) ≤ (k : Int) := by omega
          have hi2 : (k : Int) ≤ (n : Int) := by omega
          have hi3 : (k : Int) ≤ (cap : Int) := by omega
          have hk0 : 1 ≤ k := by omega
          have hk3 : k < n := by omega
          rw [← hk] at HN HPK
          have HST : Hid (cntK p (k + 1) = k ∧ KeptTo p id (k + 1)) := Lib.hid ⟨by rw [cntK_yes HPK.out, cnt_all HN.out], KeptTo.yes (KeptTo.all (fun t _ => rfl) HN.out) HPK.out⟩
          clear lx ly hwo jz jz1 j0 e0 hwp hk hk1 hk2 hkn HX HY HCL HO HG HN HPK q
          have hnk1 : ((n - k : Nat) : Int) = (n : Int) - (k : Int) := by omega
          obtain ⟨w0, rfl⟩ : ∃ w0, w0 = wr := ⟨_, rfl⟩
          go_wp2_with fail
          go_loopw [5, 7] (fun vm vj wr => ∃ (m j : Nat) (f : Nat → Nat), 1 ≤ j ∧ j ≤ n - k ∧ m < k + j ∧ Hid (vm = .int .i64 (m : Nat)) ∧ Hid (vj = .int .i64 (j : Nat)) ∧ Hid (m = cntK p (k + j)) ∧ Hid (KeptTo p f (k + j)) ∧ Hid (∀ t, k + j ≤ t + 1 → f t = t) ∧ Hid (VRow wr base g n cap E f) ∧ Hid (w.grownBy wr (some g))) (fun _ vj _ => n - (intOf vj).toNat)
          case atStart => exact ⟨k, 1, id, by omega, by omega, by omega, Lib.hid rfl, Lib.hid (by go_num), Lib.hid HST.out.1.symm, Lib.hid HST.out.2, Lib.hid (fun t _ => rfl), O1, G1⟩
          case round =>
            clear O1 G1 HST
            obtain ⟨m, j, f, hj1, hj2, hmj, hvm, hvj, HM, HK, HT, HO, HG⟩ := hrel
            obtain rfl := hvm.out
            obtain rfl := hvj.out
            clear hvm hvj
            by_cases hjn : j < n - k
            · obtain ⟨j1, rfl⟩ : ∃ j1, j = j1 + 1 := ⟨j - 1, by omega⟩
              have hwp : IntKind.i64.wrap (j1 : Int) = (j1 : Int) := IntWalk.i64_in _ (by omega)
              have jz : (j1 : Int) + 1 < ((n - k : Nat) : Int) := by omega
              have jz1 : (j1 : Int) < ((n - k : Nat) : Int) := by omega
              have jz2 : (j1 : Int) + 1 < (n : Int) - (k : Int) := by omega
              have jz3 : (j1 : Int) < (n : Int) - (k : Int) := by omega
              have j0 : (0 : Int) ≤ (j1 : Int) + 1 := by omega
              have e0 : ((j1 : Int) + 1).toNat = j1 + 1 := by omega
              obtain ⟨cx, HX, lx⟩ := read_facts (W := wr) HO.out (show k + (j1 + 1) < n by omega)
              obtain ⟨cy, HY, ly⟩ := read_facts (W := wr) HO.out (show k + j1 < n by omega)
              rw [HT.out (k + (j1 + 1)) (by omega)] at HX
              rw [HT.out (k + j1) (by omega)] at HY
              have HCL : Hid (∀ q : BW wr, Calls Try.prog 28 #[.agg cx.toArray, .agg cy.toArray] q.w fun e W' => e = .returned (.bool (p (k + (j1 + 1)))) ∧ Below q.w.heap.size q.w W') := Lib.hid (fun q => by rw [HX.out, HY.out, show k + (j1 + 1) = (k + j1) + 1 by omega, HPP.out]; exact HQ.out _ _ q.w)
              rw [show (k + (j1 + 1)) * 12 = k * 12 + (j1 + 1) * 12 by omega] at lx
              rw [show (k + j1) * 12 = k * 12 + j1 * 12 by omega] at ly
              cases hpk : p (k + (j1 + 1)) with
              | true =>
                rw [hpk] at HCL
                have HPK := Lib.hid hpk
                clear hpk
                go_wp2_with fail
                refine wp_region_below (by kernel_rfl) (by kernel_rfl) ?_
                repeat (go_big_quiet_step (refine Calls.bw_of (HCL.out _)))
                refine wpQuiet_nil ?_
                rintro _ ⟨q, rfl⟩
                have O1 := Lib.hid (owns_below HO.out q.bel)
                have G1 := Lib.hid (grown_trans HG.out (grown_of_below (r := some g) q.bel))
                go_wp2_with fail
                go_roundw
                case rel => exact ⟨m, j1 + 1 + 1, f, by omega, by omega, by omega, Lib.hid rfl, Lib.hid (by go_num), Lib.hid (by rw [show k + (j1 + 1 + 1) = k + (j1 + 1) + 1 by omega, cntK_yes HPK.out]; exact HM.out), Lib.hid (by rw [show k + (j1 + 1 + 1) = k + (j1 + 1) + 1 by omega]; exact HK.out.yes HPK.out), Lib.hid (fun t ht => HT.out t (by omega)), O1, G1⟩
                case measure => simp [intOf]; omega
              | false =>
                rw [hpk] at HCL
                have HPK := Lib.hid hpk
                clear hpk
                go_wp2_with fail
                refine wp_region_below (by kernel_rfl) (by kernel_rfl) ?_
                repeat (go_big_quiet_step (refine Calls.bw_of (HCL.out _)))
                refine wpQuiet_nil ?_
                rintro _ ⟨q, rfl⟩
                have O1 := Lib.hid (owns_below HO.out q.bel)
                have G1 := Lib.hid (grown_trans HG.out (grown_of_below (r := some g) q.bel))
                obtain ⟨w1, hw1⟩ : ∃ w1, w1 = q.w := ⟨_, rfl⟩
                rw [← hw1] at O1 G1 ⊢
                clear hw1 lx ly
                have l1 := load_ptr (row_range O1.out (show k + (j1 + 1) < n by omega))
                rw [HT.out (k + (j1 + 1)) (by omega), show (k + (j1 + 1)) * 12 = k * 12 + (j1 + 1) * 12 by omega, ← HX.out] at l1
                have s1 := store_ptr (E (k + (j1 + 1))) (row_there O1.out (show m < n by omega))
                rw [← HX.out] at s1
                have HO2 := Lib.hid (row_store O1.out (show m < n by omega) (k + (j1 + 1)))
                rw [← HX.out] at HO2
                have HG2 := Lib.hid (grown_trans G1.out (setCells_grown g cx w1 (m * 12)))
                have hmn : (m : Int) < (n : Int) := by omega
                go_wp2_with fail
                go_roundw
                case rel => exact ⟨m + 1, j1 + 1 + 1, upd f m (k + (j1 + 1)), by omega, by omega, by omega, Lib.hid (by go_num), Lib.hid (by go_num), Lib.hid (by rw [show k + (j1 + 1 + 1) = k + (j1 + 1) + 1 by omega, cntK_no HPK.out, ← HM.out]), Lib.hid (by
                  rw [show k + (j1 + 1 + 1) = k + (j1 + 1) + 1 by omega, HM.out]
                  exact HK.out.no HPK.out), Lib.hid (fun t ht => by
                  unfold upd
                  rw [if_neg (by omega)]
                  exact HT.out t (by omega)), HO2, HG2⟩
                case measure => simp [intOf]; omega
            · obtain rfl : j = n - k := by omega
              rw [show k + (n - k) = n by omega] at HM HK hmj
              have hjz : ¬ (((n - k : Nat) : Int) < ((n - k : Nat) : Int)) := by omega
              have hne3 : ¬ cap = m := by omega
              have hmc2 : m ≤ cap := by omega
              have hmk2 : m ≤ n := by omega
              have hi4 : (0 : Int) ≤ (m : Int) := by omega
              have hi5 : (m : Int) ≤ (n : Int) := by omega
              have hi6 : (m : Int) ≤ (cap : Int) := by omega
              obtain ⟨z, HZ, HOZ, HGZ⟩ := clear_facts HO.out hmj
              have HX := Lib.hid (keptIs_of HM.out HK.out HOZ.out (grown_trans HG.out HGZ.out))
              have hclr := HZ.out
              go_wp2
              go_ret
              exact HX.out
      · obtain rfl : k = n := by omega
        have HX := Lib.hid (keptIs_of (base := base) (g := g) (cap := cap) (cnt_all HN.out).symm (KeptTo.all (fun t _ => rfl) HN.out) HO.out HG.out)
        go_wp2_with fail
        go_ret
        exact HX.out
end Go.Proofs.Ytbkknpodipapoaa
