/- The walks of IndexFunc and DeleteFunc at pointers. -/
import Derived.Test.YtbkknpodipapoaaVsE
namespace Go.Proofs.Ytbkknpodipapoaa
open Go.RowKit
set_option linter.unusedSimpArgs false
attribute [local go_sem ↓] Go.wp_at_zero Go.wp_at_succ
attribute [local go_sem ↓] wp_loadP wp_storeP quiet_loadP

/-- what is asked of a test: it reads, and may lay blocks of its own -/
def DelOk (F : Nat) (capt : Array Value) (g : Nat) (E : Nat → PtrT) (n : Nat) (p : Nat → Bool) (w : World) : Prop := (∀ args W, (callFunc F args).run Try.prog W = .ok (.enter F args) W) ∧
  ∀ j, j < n → ∀ W, w.grownBy W (some g) → Calls Try.prog F (#[.agg (encPtr (E j)).toArray] ++ capt) W fun e W' => e = .returned (.bool (p j)) ∧ Below W.heap.size W W'
set_option maxRecDepth 100000 in
set_option maxHeartbeats 1600000 in
theorem indexP_any (F : Nat) (capt : Array Value) (p : Nat → Bool) (E : Nat → PtrT) (base g n cap : Nat) (w : World) (h : VRow w base g n cap E id) (hm : n ≤ 1000) (hF : DelOk F capt g E n p w) :
    Calls Try.prog 40 #[.slice (some ⟨g, 0, none⟩) n cap, .func (.func F) #[] capt] w fun e w' => e = .returned (.int .i64 (firstIdx p n)) ∧ Below w.heap.size w w' := by
  have hcf := hF.1
  have HCAL := Lib.hid hF.2
  have H0 := Lib.hid h
  clear hF h
  go_enter Try.func40, Try.ntmps40
  go_wp2_with fail
  go_loopw [8] (fun i wr => ∃ k : Nat, k ≤ n ∧ i = .int .i64 (k : Nat) ∧ Hid (∀ j, j < k → p j = false) ∧ Hid (Below w.heap.size w wr)) (fun i _ => n - (intOf i).toNat)
  case atStart => exact ⟨0, by omega, rfl, Lib.hid fun j hj => absurd hj (by omega), Lib.hid (Below.refl _ _)⟩
  case round =>
    obtain ⟨k, hk, rfl, HN, HB⟩ := hrel
    by_cases hkn : k < n
    · have hO := owns_below H0.out HB.out
      have l1 := load_ptr (row_range hO hkn)
      have HCL := Lib.hid (HCAL.out k hkn wr (grown_of_below HB.out))
      obtain ⟨cx, hcx⟩ : ∃ c, c = encPtr (E (id k)) := ⟨_, rfl⟩
      rw [← hcx] at l1
      rw [show encPtr (E k) = cx from hcx.symm] at HCL
      clear hO hcx
      cases hp : p k with
      | true =>
        rw [hp] at HCL
        have HP := Lib.hid hp
        clear hp
        go_wp2_with fail
        refine HCL.out.mono ?_
        rintro e w1 ⟨rfl, hb1⟩
        have HB1 := Lib.hid (HB.out.trans (hb1.mono HB.out.size))
        have HV := Lib.hid (firstIdx_at hkn HP.out HN.out)
        clear hb1
        go_wp2_with fail
        go_ret
        exact ⟨by rw [HV.out]; rfl, HB1.out⟩
      | false =>
        rw [hp] at HCL
        have HP := Lib.hid hp
        clear hp
        go_wp2_with fail
        refine HCL.out.mono ?_
        rintro e w1 ⟨rfl, hb1⟩
        have HB1 := Lib.hid (HB.out.trans (hb1.mono HB.out.size))
        clear hb1
        go_wp2_with fail
        go_roundw
        case rel => exact ⟨k + 1, by omega, by go_num, Lib.hid (fun j hj => by
          by_cases e : j = k
          · rw [e]; exact HP.out
          · exact HN.out j (by omega)), HB1⟩
        case measure => simp [intOf]; omega
    · obtain rfl : k = n := by omega
      have HV := Lib.hid (firstIdx_none HN.out)
      go_wp2_with fail
      go_ret
      exact ⟨by rw [HV.out]; rfl, HB.out⟩
set_option maxRecDepth 100000 in
set_option maxHeartbeats 3200000 in
theorem deleteP_any (F : Nat) (capt : Array Value) (p : Nat → Bool) (E : Nat → PtrT) (base g n cap : Nat) (w : World) (h : VRow w base g n cap E id) (hm : n ≤ 1000) (hF : DelOk F capt g E n p w) :
    Calls Try.prog 29 #[.slice (some ⟨g, 0, none⟩) n cap, .func (.func F) #[] capt] w (KeptIs E p base g n cap w) := by
  have hcapn : n ≤ cap := (owns_blk h).choose_spec.2.2.1
  have hcap63 : cap ≤ 9223372036854775807 := (owns_blk h).choose_spec.2.2.2.1
  have HI := Lib.hid (indexP_any F capt p E base g n cap w h hm hF)
  have hcf := hF.1
  have HCAL := Lib.hid hF.2
  have H0 := Lib.hid h
  clear hF h
  rcases firstIdx_cases p n with ⟨hno, hfi⟩ | ⟨i0, hi0, hpi0, hno0, hfi⟩
  · rw [hfi] at HI
    have HX := Lib.hid (fun w1 (hb : Below w.heap.size w w1) => keptIs_of (cnt_all hno).symm (KeptTo.all (fun t _ => rfl) hno) (owns_below H0.out hb) (grown_of_below hb))
    clear hno hfi
    go_enter Try.func29, Try.ntmps29
    go_wp2_with fail
    refine HI.out.mono ?_
    rintro e w1 ⟨rfl, hb1⟩
    have HX1 := Lib.hid (HX.out w1 hb1)
    clear hb1
    go_wp2_with fail
    go_ret
    exact HX1.out
  · rw [hfi] at HI
    have hne : ((i0 : Int) == -1) = false := by simp
    have HST : Hid (cntK p (i0 + 1) = i0 ∧ KeptTo p id (i0 + 1)) := Lib.hid ⟨by rw [cntK_yes hpi0, cnt_all hno0], KeptTo.yes (KeptTo.all (fun t _ => rfl) hno0) hpi0⟩
    clear hfi hno0 hpi0
    go_enter Try.func29, Try.ntmps29
    go_wp2_with fail
    refine HI.out.mono ?_
    rintro e w1 ⟨rfl, hb1⟩
    have O1 := Lib.hid (owns_below H0.out hb1)
    have G1 := Lib.hid (grown_of_below (r := some g) hb1)
    clear hb1
    go_wp2_with fail
    go_loopw [5, 6] (fun vm vj wr => ∃ (m j : Nat) (f : Nat → Nat), j ≤ n ∧ m < j ∧ Hid (vm = .int .i64 (m : Nat)) ∧ Hid (vj = .int .i64 (j : Nat)) ∧ Hid (m = cntK p j) ∧ Hid (KeptTo p f j) ∧ Hid (∀ t, j ≤ t → f t = t) ∧ Hid (VRow wr base g n cap E f) ∧ Hid (w.grownBy wr (some g))) (fun _ vj _ => n - (intOf vj).toNat)
    case atStart => exact ⟨i0, i0 + 1, id, by omega, by omega, Lib.hid rfl, Lib.hid (by go_num), Lib.hid HST.out.1.symm, Lib.hid HST.out.2, Lib.hid (fun t _ => rfl), O1, G1⟩
    case round =>
      clear O1 G1 HST HI H0
      obtain ⟨m, j, f, hjn0, hmj, hvm, hvj, HM, HK, HT, HO, HG⟩ := hrel
      obtain rfl := hvm.out
      obtain rfl := hvj.out
      clear hvm hvj
      by_cases hjn : j < n
      · have l1 := load_ptr (row_range HO.out hjn)
        rw [HT.out j (Nat.le_refl _)] at l1
        obtain ⟨cx, hcx⟩ : ∃ c, c = encPtr (E j) := ⟨_, rfl⟩
        have HX := Lib.hid hcx
        have GA := Lib.hid (grown_trans HG.out (World.grownBy_alloc wr (.cells cx.toArray 30) (some g)))
        have HCL := Lib.hid (HCAL.out j hjn _ GA.out)
        have BN : Hid (Blk (wr.alloc (.cells cx.toArray 30)) wr.heap.size 30 cx) := Lib.hid (Blk.new _ _ _)
        have OA := Lib.hid (owns_below HO.out ((Below.refl wr.heap.size wr).alloc (Nat.le_refl _) (.cells cx.toArray 30)))
        obtain ⟨z, hz⟩ : ∃ z : List Value, z = [.int .i64 0, .int .i64 0, .int .i64 0, .int .i64 0, .bool false, .int .i64 0, .int .i64 0, .int .i64 0, .int .u64 0, .int .u64 0, .int .u64 0, .int .u64 0] := ⟨_, rfl⟩
        have s1 := store_ptr (w := wr.alloc (.cells z.toArray 30)) (g := wr.heap.size) (o := 0) (E j) (fun i hi => by
          have hb := Blk.new wr 30 z
          refine ⟨?_, hb.frozen _⟩
          rw [hb.cell, Nat.zero_add, hz]
          match i, hi with
          | 0, _ => rfl
          | 1, _ => rfl
          | 2, _ => rfl
          | 3, _ => rfl
          | 4, _ => rfl
          | 5, _ => rfl
          | 6, _ => rfl
          | 7, _ => rfl
          | 8, _ => rfl
          | 9, _ => rfl
          | 10, _ => rfl
          | 11, _ => rfl)
        rw [setCells_alloc wr _ _ _ (by rw [hz, encPtr_length]; rfl), hz] at s1
        have l2 := load_ptr (w := wr.alloc (.cells cx.toArray 30)) (g := wr.heap.size) (o := 0) (p := E j) (fun i v hv => by rw [Nat.zero_add, BN.out.cell, hcx]; exact hv)
        rw [← hcx] at l1 s1 l2 HCL
        clear hcx hz
        cases hpj : p j with
        | true =>
          rw [hpj] at HCL
          have HP := Lib.hid hpj
          clear hpj
          go_wp2_with fail
          refine HCL.out.mono ?_
          rintro e w2 ⟨rfl, hb2⟩
          have O2 := Lib.hid (owns_below OA.out hb2)
          have G2 := Lib.hid (grown_trans GA.out (grown_of_below hb2))
          clear hb2
          go_wp2_with fail
          go_roundw
          case rel => exact ⟨m, j + 1, f, by omega, by omega, Lib.hid rfl, Lib.hid (by go_num), Lib.hid (by rw [cntK_yes HP.out]; exact HM.out), Lib.hid (HK.out.yes HP.out), Lib.hid (fun t ht => HT.out t (by omega)), O2, G2⟩
          case measure => simp [intOf]; omega
        | false =>
          rw [hpj] at HCL
          have HP := Lib.hid hpj
          clear hpj
          go_wp2_with fail
          refine HCL.out.mono ?_
          rintro e w2 ⟨rfl, hb2⟩
          have O2 := Lib.hid (owns_below OA.out hb2)
          have G2 := Lib.hid (grown_trans GA.out (grown_of_below hb2))
          have B2 := BN.out.below hb2
          have l3 := load_ptr (w := w2) (g := wr.heap.size) (o := 0) (p := E j) (fun i v hv => by rw [Nat.zero_add, B2.cell, HX.out]; exact hv)
          have s3 := store_ptr (E j) (row_there O2.out (show m < n by omega))
          have HO3 := Lib.hid (row_store O2.out (show m < n by omega) j)
          rw [← HX.out] at l3 s3 HO3
          have HG3 := Lib.hid (grown_trans G2.out (setCells_grown g cx w2 (m * 12)))
          have hmn : (m : Int) < (n : Int) := by omega
          clear hb2 B2
          go_wp2_with fail
          go_roundw
          case rel => exact ⟨m + 1, j + 1, upd f m j, by omega, by omega, Lib.hid (by go_num), Lib.hid (by go_num), Lib.hid (by rw [cntK_no HP.out, ← HM.out]), Lib.hid (by rw [HM.out]; exact HK.out.no HP.out), Lib.hid (fun t ht => by
            unfold upd
            rw [if_neg (by omega)]
            exact HT.out t (by omega)), HO3, HG3⟩
          case measure => simp [intOf]; omega
      · obtain rfl : j = n := by omega
        have hne3 : ¬ cap = m := by omega
        have hmc2 : m ≤ cap := by omega
        have hmk2 : m ≤ j := by omega
        have hi4 : (0 : Int) ≤ (m : Int) := by omega
        have hi5 : (m : Int) ≤ (j : Int) := by omega
        have hi6 : (m : Int) ≤ (cap : Int) := by omega
        obtain ⟨z, HZ, HOZ, HGZ⟩ := clear_facts HO.out hmj
        have HX := Lib.hid (keptIs_of HM.out HK.out HOZ.out (grown_trans HG.out HGZ.out))
        have hclr := HZ.out
        go_wp2
        go_ret
        exact HX.out
end Go.Proofs.Ytbkknpodipapoaa
