/- SpaceFinds, walked. -/
import Derived.Test.YtmnhdpojonlfhaaSpN
import Derived.Test.YtmnhdpojonlfhaaSpB
import Derived.Test.YtmnhdpojonlfhaaSpPG
import Derived.Deep.DeepCutAuto
namespace Go.Proofs.Ytmnhdpojonlfhaa
open Go.RowKit

set_option maxHeartbeats 6400000 in
set_option maxRecDepth 100000 in
theorem spfinds_any (s : Int) (ao : Option Addr) (n cap : Nat) (zs : List ActT) (cn cf : Int) (w : World) (hs : 0 ≤ s ∧ s ≤ 255) (hsl : ASl w ao n cap zs) (hcn : 0 ≤ cn ∧ cn ≤ 255) (hcf : 0 ≤ cf ∧ cf ≤ 255) :
    Calls Try.prog 9 #[.int .u8 s, .slice ao n cap, .int .u8 cn, .int .u8 cf] w fun e w' => e = .returned (.bool true) ∧ Below w.heap.size w w' := by
  have hmx := hsl.mx
  have HSL := Lib.hid hsl
  clear hsl
  obtain ⟨s, rfl⟩ := Int.eq_ofNat_of_zero_le hs.1
  obtain ⟨cn, rfl⟩ := Int.eq_ofNat_of_zero_le hcn.1
  obtain ⟨cf, rfl⟩ := Int.eq_ofNat_of_zero_le hcf.1
  have hs2 : s ≤ 255 := by omega
  have hcn2 : cn ≤ 255 := by omega
  have hcf2 : cf ≤ 255 := by omega
  clear hs hcn hcf
  by_cases hn : n ≤ 100
  · have hd : decide (100 < (n : Int)) = false := by simp; omega
    go_enter Try.func9, Try.ntmps9
    go_wp2_with fail
    refine (awake_any _).mono ?_
    rintro e w1 ⟨rfl, hb1⟩
    have HB1 := Lib.hid hb1
    clear hb1
    go_wp2_with fail
    refine (new_yes (1 + s) w1 (by omega) (by omega)).mono ?_
    rintro e w2 ⟨rfl, hm2, hb2⟩
    obtain ⟨S, hS⟩ : ∃ S, S = 1 + s := ⟨_, rfl⟩
    rw [← hS] at hm2
    obtain ⟨mb, hmb⟩ : ∃ mb, mb = w1.heap.size := ⟨_, rfl⟩
    rw [← hmb] at hm2 ⊢
    have hmb0 : w.heap.size ≤ mb := by rw [hmb]; exact HB1.out.size
    have HB2 := Lib.hid (HB1.out.trans (hb2.mono HB1.out.size))
    have HM2 := Lib.hid hm2
    have HSS := Lib.hid hS
    have hS1 : S ≤ 1 + s := by omega
    have hS2 : 1 + s ≤ S := by omega
    clear hmb hm2 hb2 hS
    go_wp2_with fail
    go_loopw [11] (fun i wr => ∃ (k : Nat) (rs : List (Nat × Nat)), k ≤ n ∧ i = .int .i64 k ∧ Hid (IsMap wr mb S rs) ∧ Hid (Below w.heap.size w wr)) (fun i _ => n - (intOf i).toNat)
    case atStart => exact ⟨0, [], by omega, rfl, HM2, HB2⟩
    case round =>
      obtain ⟨k, rs, hk, rfl, hm, hb⟩ := hrel
      by_cases hkn : k < n
      · obtain ⟨bl, off, rfl, hbl, hc⟩ := HSL.out.cells (by omega)
        obtain ⟨c0, c1, c2, hok⟩ := hc k hkn
        obtain ⟨q, hq⟩ : ∃ q, q = zs.getD k (0, 0, 0) := ⟨_, rfl⟩
        rw [← hq] at c0 c1 c2 hok
        obtain ⟨q0, q1, q2⟩ := q
        dsimp only at c0 c1 c2
        have d0 : wr.cell? ⟨bl, off + k * 3, none⟩ = some (.int .u8 q0) := (hb.out.cell (p := ⟨bl, _, none⟩) hbl).trans c0
        have d1 : wr.cell? ⟨bl, off + k * 3 + 1, none⟩ = some (.int .i64 q1) := (hb.out.cell (p := ⟨bl, _, none⟩) hbl).trans c1
        have d2 : wr.cell? ⟨bl, off + k * 3 + 2, none⟩ = some (.int .i64 q2) := (hb.out.cell (p := ⟨bl, _, none⟩) hbl).trans c2
        have HT := Lib.hid (take_any mb S rs q1 q2 wr.drew (hm.out.below (Below.refl _ _).drew))
        have HF := Lib.hid (free_any mb S rs q1 q2 wr.drew (hm.out.below (Below.refl _ _).drew))
        have C1 := Lib.hid c1
        have C2 := Lib.hid c2
        have hq0 : q0 ≤ 255 := hok.1
        clear c0 c1 c2 hc hq hok
        by_cases hpar : q0 % 2 = 0
        · have ht : ((q0 : Int) % 2 == 0) = true := by rw [beq_iff_eq]; omega
          go_wp2_with fail
          go_region_held3 (fun w' => w'.cell? ⟨bl, off + k * 3 + 1, none⟩ = some (.int .i64 q1) ∧ w'.cell? ⟨bl, off + k * 3 + 2, none⟩ = some (.int .i64 q2)) (go_keep)
            (first
              | (go_at_call 29; refine HT.out.mono ?_; rintro e w3 ⟨rfl, hm3, hg3⟩; have HM3 := Lib.hid hm3; have HB3 := Lib.hid (hb.out.drew.grown hg3 hb.out.drew.size (fun j hj => by simp only [Option.some.injEq] at hj; omega)); have hd1 := (HB3.out.cell (p := ⟨bl, off + k * 3 + 1, none⟩) hbl).trans C1.out; have hd2 := (HB3.out.cell (p := ⟨bl, off + k * 3 + 2, none⟩) hbl).trans C2.out; clear hm3 hg3))
          go_wp2_with fail
          go_roundw
          case rel => exact ⟨k + 1, _, by omega, by go_num, HM3, HB3⟩
          case measure => simp [intOf]; omega
        · have ht : ((q0 : Int) % 2 == 0) = false := by rw [beq_eq_false_iff_ne]; omega
          go_wp2_with fail
          go_region_held3 (fun w' => w'.cell? ⟨bl, off + k * 3 + 1, none⟩ = some (.int .i64 q1) ∧ w'.cell? ⟨bl, off + k * 3 + 2, none⟩ = some (.int .i64 q2)) (go_keep)
            (first
              | (go_at_call 33; refine HF.out.mono ?_; rintro e w3 ⟨rfl, hm3, hg3⟩; have HM3 := Lib.hid hm3; have HB3 := Lib.hid (hb.out.drew.grown hg3 hb.out.drew.size (fun j hj => by simp only [Option.some.injEq] at hj; omega)); have hd1 := (HB3.out.cell (p := ⟨bl, off + k * 3 + 1, none⟩) hbl).trans C1.out; have hd2 := (HB3.out.cell (p := ⟨bl, off + k * 3 + 2, none⟩) hbl).trans C2.out; clear hm3 hg3))
          go_wp2_with fail
          go_roundw
          case rel => exact ⟨k + 1, _, by omega, by go_num, HM3, HB3⟩
          case measure => simp [intOf]; omega
      · have hkn' : k = n := by omega
        subst hkn'
        obtain ⟨wo, rfl⟩ : ∃ wo : World, wo = wr := ⟨_, rfl⟩
        obtain ⟨K, hK⟩ : ∃ K, K = 1 + cn % 8 := ⟨_, rfl⟩
        obtain ⟨F, hF⟩ : ∃ F, F = cf % (2 + s) := ⟨_, rfl⟩
        have hK1 : 1 ≤ K := by omega
        have hK2 : K ≤ 8 := by omega
        have hF2 : F ≤ S := by have := Nat.mod_lt cf (show 0 < 2 + s by omega); omega
        have e1 : 1 + (cn : Int) % 8 = (K : Int) := by omega
        have e2 : (cf : Int) % (2 + (s : Int)) = (F : Int) := by rw [hF, Int.natCast_emod, Int.natCast_add]; rfl
        have E1 := Lib.hid e1
        have E2 := Lib.hid e2
        clear hK hF e1 e2
        go_wp2_with fail
        go_quiet (fail)
        rw [E1.out, E2.out]
        have HM3 := Lib.hid (hm.out.below (below_drewN' (Below.refl _ _) nq))
        have HB3 := Lib.hid (below_drewN' hb.out nq)
        obtain ⟨w3, hw3⟩ : ∃ w3, w3 = wo.drewN nq := ⟨_, rfl⟩
        rw [← hw3] at HM3 HB3 ⊢
        clear hw3 hm hb hkn hk
        have hgood := HM3.out.2.2.1
        obtain ⟨r, hr⟩ : ∃ r, r = findS S rs (K : Int) (F : Int) := ⟨_, rfl⟩
        have HFD := Lib.hid (find_any mb S rs K F w3 HM3.out)
        rw [← hr] at HFD
        rcases r with _ | q
        · have hno := finds_none hgood hK1 hF2 hr.symm
          have HNO := Lib.hid hno
          clear hno hr hgood
          go_wp2_with fail
          refine HFD.out.mono ?_
          rintro e w4 ⟨rfl, hb4⟩
          have HM4 := Lib.hid (HM3.out.below hb4)
          have HB4 := Lib.hid (HB3.out.trans (hb4.mono HB3.out.size))
          clear hb4
          go_wp2_with fail
          go_loopw [16] (fun i wr => ∃ (j : Nat), j ≤ S ∧ i = .int .i64 j ∧ Hid (IsMap wr mb S rs) ∧ Hid (Below w.heap.size w wr)) (fun i _ => S - (intOf i).toNat)
          case atStart => exact ⟨0, by omega, rfl, HM4, HB4⟩
          case round =>
            obtain ⟨j, hj, rfl, hm, hb⟩ := hrel
            by_cases hjn : j < S
            · have hjs : (j : Int) ≤ (s : Int) := by omega
              go_wp2_with fail
              refine (copy_any mb S rs wr hm.out).mono ?_
              rintro e w5 ⟨cb, rfl, hcb, hmc, hb5⟩
              have HM5 := Lib.hid (hm.out.below hb5)
              have HB5 := Lib.hid (hb.out.trans (hb5.mono hb.out.size))
              have hml := hm.out.lt
              have hne : mb ≠ cb := by omega
              have hcb0 : w.heap.size ≤ cb := Nat.le_trans hb.out.size hcb
              have HNJ := Lib.hid (HNO.out j)
              have HT := Lib.hid (take_any cb S rs j K w5 hmc)
              obtain ⟨vc, hbc⟩ : ∃ v, Blk w5 cb 120 [.int .i64 S, v] := by obtain ⟨_, _, _, _, v, h5, _⟩ := hmc; exact ⟨v, h5⟩
              have HBC := Lib.hid hbc
              obtain ⟨R, hR⟩ : ∃ R, R = takeS S rs (j : Int) (K : Int) := ⟨_, rfl⟩
              rw [← hR] at HNJ HT
              have hz : (R.1 == 0) = false := by simpa using HNJ.out
              clear hbc hmc hb5 hR hml hcb
              go_wp2_with fail
              refine HT.out.mono ?_
              rintro e w6 ⟨rfl, hm6, hg6⟩
              have HM6 := Lib.hid (HM5.out.other hg6 HBC.out hne)
              have HB6 := Lib.hid (HB5.out.grown hg6 HB5.out.size (fun j hj => by simp only [Option.some.injEq] at hj; omega))
              clear hm6 hg6
              go_wp2_with fail
              go_roundw
              case rel => exact ⟨j + 1, by omega, by go_num, HM6, HB6⟩
              case measure => simp [intOf]; omega
            · have hjs : ¬ ((j : Int) ≤ (s : Int)) := by omega
              go_wp2_with fail
              go_ret
              exact ⟨rfl, hb.out⟩
        · obtain ⟨f1, f2, f3, f4, f5⟩ := finds_some hgood hK1 hr.symm
          obtain ⟨R, hR⟩ : ∃ R, R = takeS S rs (q : Int) (K : Int) := ⟨_, rfl⟩
          have hTK := fun W (hW : IsMap W mb S rs) => take_any mb S rs q K W hW
          have hTK2 := fun W (hW : IsMap W mb S R.2) => take_any mb S R.2 q K W hW
          rw [← hR] at f2 f3 f4 f5 hTK
          rw [f4] at hTK2
          have hTK' := fun W hW => (show Calls _ _ _ _ fun e w' => e = .returned (.int .i64 R.1) ∧ _ from hTK W hW)
          rw [f2] at hTK'
          have TK := Lib.hid hTK'
          have TK2 := Lib.hid hTK2
          have F3 := Lib.hid f3
          have F5 := Lib.hid f5
          have hsr := good_sum hgood
          have hgR : Good S R.2 := by rw [hR]; exact takeS_good hgood _ _
          have hsR := good_sum hgR
          clear hr hR f2 f3 f4 f5 hTK hTK2 hTK' hgood hgR
          go_wp2_with fail
          refine HFD.out.mono ?_
          rintro e w4 ⟨rfl, hb4⟩
          have HM4 := Lib.hid (HM3.out.below hb4)
          have HB4 := Lib.hid (HB3.out.trans (hb4.mono HB3.out.size))
          clear hb4
          go_wp2_with fail
          refine (left_any mb S rs w4 HM4.out).mono ?_
          rintro e w5 ⟨rfl, hb5⟩
          have HM5 := Lib.hid (HM4.out.below hb5)
          have HB5 := Lib.hid (HB4.out.trans (hb5.mono HB4.out.size))
          clear hb5
          go_wp2_with fail
          refine (TK.out w5 HM5.out).mono ?_
          rintro e w6 ⟨rfl, hm6, hg6⟩
          have HM6 := Lib.hid hm6
          have HB6 := Lib.hid (HB5.out.grown hg6 HB5.out.size (fun j hj => by simp only [Option.some.injEq] at hj; omega))
          have hw1 : IntKind.i64.wrap ((S : Int) - (sumR rs : Int) - (K : Int)) = (S : Int) - (sumR R.2 : Int) := by rw [F3.out, IntWalk.i64_in _ (by omega)]; omega
          clear hm6 hg6
          go_wp2_with fail
          refine (left_any mb S R.2 w6 HM6.out).mono ?_
          rintro e w7 ⟨rfl, hb7⟩
          have HM7 := Lib.hid (HM6.out.below hb7)
          have HB7 := Lib.hid (HB6.out.trans (hb7.mono HB6.out.size))
          clear hb7
          have hne : (((S : Int) - (sumR R.2 : Int)) != ((S : Int) - (sumR rs : Int) - (K : Int))) = false := by rw [F3.out]; simp; omega
          go_wp2_with fail
          refine (TK2.out w7 HM7.out).mono ?_
          rintro e w8 ⟨rfl, hm8, hg8⟩
          have HM8 := Lib.hid hm8
          have HB8 := Lib.hid (HB7.out.grown hg8 HB7.out.size (fun j hj => by simp only [Option.some.injEq] at hj; omega))
          clear hm8 hg8
          have HFE := Lib.hid (find_any mb S R.2 K q w8 HM8.out)
          obtain ⟨r2, hr2⟩ : ∃ r2, r2 = findS S R.2 (K : Int) (q : Int) := ⟨_, rfl⟩
          have h52 := fun a h => F5.out a (hr2.symm.trans h)
          rw [← hr2] at HFE
          have H52 := Lib.hid h52
          clear hr2 h52
          go_wp2_with fail
          rcases r2 with _ | a
          · refine HFE.out.mono ?_
            rintro e w9 ⟨rfl, hb9⟩
            have HB9 := Lib.hid (HB8.out.trans (hb9.mono HB8.out.size))
            clear hb9
            go_wp2_with fail
            go_ret
            exact ⟨rfl, HB9.out⟩
          · obtain ⟨g1, g2⟩ := H52.out a rfl
            refine HFE.out.mono ?_
            rintro e w9 ⟨rfl, hb9⟩
            have HB9 := Lib.hid (HB8.out.trans (hb9.mono HB8.out.size))
            clear hb9
            go_wp2_with fail
            all_goals go_ret
            all_goals refine ⟨?_, HB9.out⟩
            all_goals first | rfl | (refine ret_bool ?_; simp; omega)
  · have hd : decide (100 < (n : Int)) = true := by simp; omega
    go_enter Try.func9, Try.ntmps9
    go_wp2_with fail
    refine (awake_any _).mono ?_
    rintro e w1 ⟨rfl, hb1⟩
    go_wp2_with fail
    refine (awake_any _).mono ?_
    rintro e w2 ⟨rfl, hb2⟩
    go_wp2_with fail
    go_ret
    exact ⟨rfl, hb1.trans (hb2.mono hb1.size)⟩
end Go.Proofs.Ytmnhdpojonlfhaa
