/- SpaceRuns, walked. -/
import Derived.Test.YtmnhdpojonlfhaaSpN
import Derived.Test.YtmnhdpojonlfhaaSpB
import Derived.Deep.DeepCutAuto
namespace Go.Proofs.Ytmnhdpojonlfhaa
open Go.RowKit

/-- where the runs ahead of number k end; -1 where there are none -/
def endE (rs : List (Nat × Nat)) (k : Nat) : Int := if k = 0 then -1 else (((rs.getD (k - 1) (0, 0)).1 + (rs.getD (k - 1) (0, 0)).2 : Nat) : Int)
theorem getD_lt {rs : List (Nat × Nat)} {k : Nat} (h : k < rs.length) : rs.getD k (0, 0) = rs[k] := by rw [List.getD_eq_getElem?_getD, List.getElem?_eq_getElem h]; rfl
theorem endE_lt {size k : Nat} {rs : List (Nat × Nat)} (h : Good size rs) (hk : k < rs.length) : endE rs k < ((rs.getD k (0, 0)).1 : Int) := by
  unfold endE
  split
  · omega
  · rw [getD_lt hk, getD_lt (show k - 1 < rs.length by omega)]
    have := h.le (show k - 1 < k by omega) hk
    omega
theorem endE_succ (rs : List (Nat × Nat)) (k : Nat) : endE rs (k + 1) = (((rs.getD k (0, 0)).1 + (rs.getD k (0, 0)).2 : Nat) : Int) := by
  unfold endE
  rw [if_neg (by omega), Nat.add_sub_cancel]
theorem endE_le {size k : Nat} {rs : List (Nat × Nat)} (h : Good size rs) (hk : k ≤ rs.length) : -1 ≤ endE rs k ∧ endE rs k ≤ size := by
  unfold endE
  split
  · omega
  · rw [getD_lt (show k - 1 < rs.length by omega)]
    have := (h.1 rs[k - 1] (List.getElem_mem _)).2
    omega

set_option maxHeartbeats 6400000 in
set_option maxRecDepth 100000 in
theorem spruns_any (s : Int) (ao : Option Addr) (n cap : Nat) (zs : List ActT) (w : World) (hs : -9223372036854775808 ≤ s ∧ s ≤ 9223372036854775807) (hsl : ASl w ao n cap zs) :
    Calls Try.prog 8 #[.int .i64 s, .slice ao n cap] w fun e w' => e = .returned (.bool true) ∧ Below w.heap.size w w' := by
  have hmx := hsl.mx
  have HSL := Lib.hid hsl
  clear hsl
  by_cases hn : n ≤ 100
  · have hd : decide (100 < (n : Int)) = false := by simp; omega
    by_cases hsz : s < 1 ∨ 65536 < s
    · go_enter Try.func8, Try.ntmps8
      go_wp2_with fail
      refine (awake_any _).mono ?_
      rintro e w1 ⟨rfl, hb1⟩
      go_wp2_with fail
      refine (new_no s w1 hsz).mono ?_
      rintro e w2 ⟨rfl, rfl⟩
      go_wp2_with fail
      go_ret
      exact ⟨rfl, hb1⟩
    · obtain ⟨s, rfl⟩ := Int.eq_ofNat_of_zero_le (show 0 ≤ s by omega)
      have hs1 : 1 ≤ s := by omega
      have hs2 : s ≤ 65536 := by omega
      clear hsz hs
      go_enter Try.func8, Try.ntmps8
      go_wp2_with fail
      refine (awake_any _).mono ?_
      rintro e w1 ⟨rfl, hb1⟩
      have HB1 := Lib.hid hb1
      clear hb1
      go_wp2_with fail
      refine (new_yes s w1 hs1 hs2).mono ?_
      rintro e w2 ⟨rfl, hm2, hb2⟩
      obtain ⟨mb, hmb⟩ : ∃ mb, mb = w1.heap.size := ⟨_, rfl⟩
      rw [← hmb] at hm2 ⊢
      have hmb0 : w.heap.size ≤ mb := by rw [hmb]; exact HB1.out.size
      have HB2 := Lib.hid (HB1.out.trans (hb2.mono HB1.out.size))
      have HM2 := Lib.hid hm2
      clear hmb hm2 hb2
      go_wp2_with fail
      go_loopw [7] (fun i wr => ∃ (k : Nat) (rs : List (Nat × Nat)), k ≤ n ∧ i = .int .i64 k ∧ Hid (IsMap wr mb s rs) ∧ Hid (Below w.heap.size w wr)) (fun i _ => n - (intOf i).toNat)
      case atStart => exact ⟨0, [], by omega, rfl, HM2, HB2⟩
      case round =>
        obtain ⟨k, rs, hk, rfl, hm, hb⟩ := hrel
        by_cases hkn : k < n
        · obtain ⟨bl, off, rfl, hbl, hc⟩ := HSL.out.cells (by omega)
          obtain ⟨c0, c1, c2, hok⟩ := hc k hkn
          obtain ⟨q, hq⟩ : ∃ q, q = zs.getD k (0, 0, 0) := ⟨_, rfl⟩
          rw [← hq] at c0 c1 c2 hok
          obtain ⟨q0, q1, q2⟩ := q
          dsimp only at c0 c1 c2
          have C0 := Lib.hid c0
          have C1 := Lib.hid c1
          have C2 := Lib.hid c2
          have hq0 : q0 ≤ 255 := hok.1
          have hsum := good_sum hm.out.2.2.1
          clear c0 c1 c2 hc hq hok
          go_wp2_with fail
          refine (left_any mb s rs wr hm.out).mono ?_
          rintro e w3 ⟨rfl, hb3⟩
          have HB3 := Lib.hid (hb.out.trans (hb3.mono hb.out.size))
          have HM3 := Lib.hid (hm.out.below hb3)
          clear hm hb hb3
          obtain ⟨wo, rfl⟩ : ∃ wo : World, wo = wr := ⟨_, rfl⟩
          have d0 : w3.cell? ⟨bl, off + k * 3, none⟩ = some (.int .u8 q0) := (HB3.out.cell (p := ⟨bl, _, none⟩) hbl).trans C0.out
          have d1 : w3.cell? ⟨bl, off + k * 3 + 1, none⟩ = some (.int .i64 q1) := (HB3.out.cell (p := ⟨bl, _, none⟩) hbl).trans C1.out
          have d2 : w3.cell? ⟨bl, off + k * 3 + 2, none⟩ = some (.int .i64 q2) := (HB3.out.cell (p := ⟨bl, _, none⟩) hbl).trans C2.out
          go_upto_if 46 with fail
          go_cut [9] (fun v wx => ∃ ru, v = .int .i64 ((s : Int) - (sumR ru : Int)) ∧ Hid (IsMap wx mb s ru) ∧ Hid (Below w.heap.size w wx))
          case first =>
            by_cases hpar : q0 % 2 = 1
            · have ht : ((q0 : Int) % 2 == 1) = true := by rw [beq_iff_eq]; omega
              go_wp2_with fail
              have hT := free_any mb s rs q1 q2 w3.drew (HM3.out.below (Below.refl _ _).drew)
              have hSP := freeS_spec HM3.out.2.2.1 q1 q2
              obtain ⟨R, hR⟩ : ∃ R, R = freeS s rs q1 q2 := ⟨_, rfl⟩
              rw [← hR] at hT hSP
              have HT := Lib.hid hT
              have HSP := Lib.hid hSP
              clear hT hSP hR
              go_region_held3 (fun w' => w'.cell? ⟨bl, off + k * 3 + 1, none⟩ = some (.int .i64 q1) ∧ w'.cell? ⟨bl, off + k * 3 + 2, none⟩ = some (.int .i64 q2)) (go_keep)
                (first
                  | (go_at_call 33; refine HT.out.mono ?_; rintro e w4 ⟨rfl, hm4, hg4⟩; have HM4 := Lib.hid hm4; have HB4 := Lib.hid (HB3.out.drew.grown hg4 HB3.out.drew.size (fun j hj => by simp only [Option.some.injEq] at hj; omega)); have he1 := (HB4.out.cell (p := ⟨bl, off + k * 3 + 1, none⟩) hbl).trans C1.out; have he2 := (HB4.out.cell (p := ⟨bl, off + k * 3 + 2, none⟩) hbl).trans C2.out; clear hm4 hg4))
              have f2 : w4.cell? ⟨bl, off + k * 3 + 2, none⟩ = some (.int .i64 q2) := (HB4.out.cell (p := ⟨bl, off + k * 3 + 2, none⟩) hbl).trans C2.out
              clear HT d0 d1 d2
              by_cases hz : R.1 = 0
              · have hq : 1 ≤ q2 ∧ (sumR R.2 : Int) = sumR rs - q2 := by
                  rcases HSP.out with ⟨_, e⟩ | ⟨_, _, e⟩ | ⟨hmy, _, _, _, e⟩
                  · rw [e] at hz; simp at hz
                  · rw [e] at hz; simp at hz
                  · have := hmy.1; omega
                have hsr0 := good_sum HM4.out.2.2.1
                have hw0 : IntKind.i64.wrap ((s : Int) - (sumR rs : Int) + q2) = (s : Int) - (sumR rs : Int) + q2 := IntWalk.i64_in _ (by omega)
                have HQ := Lib.hid hq.2
                have hz1 : (R.1 == 0) = true := by simpa using hz
                clear hq HSP hsr0 hz
                go_wp2_with fail
                go_meet
                exact ⟨R.2, by rw [HQ.out]; congr 1; omega, HM4, HB4⟩
              · have hrr : R.2 = rs := by
                  rcases HSP.out with ⟨_, e⟩ | ⟨_, _, e⟩ | ⟨_, _, e, _⟩
                  · rw [e]
                  · rw [e]
                  · exact absurd e hz
                rw [hrr] at HM4
                have hz1 : (R.1 == 0) = false := by simpa using hz
                clear HSP hrr hz
                go_wp2_with fail
                go_meet
                exact ⟨rs, rfl, HM4, HB4⟩
            · have ht : ((q0 : Int) % 2 == 1) = false := by rw [beq_eq_false_iff_ne]; omega
              go_wp2_with fail
              have hT := take_any mb s rs q1 q2 w3.drew (HM3.out.below (Below.refl _ _).drew)
              have hSP := takeS_spec HM3.out.2.2.1 q1 q2
              obtain ⟨R, hR⟩ : ∃ R, R = takeS s rs q1 q2 := ⟨_, rfl⟩
              rw [← hR] at hT hSP
              have HT := Lib.hid hT
              have HSP := Lib.hid hSP
              clear hT hSP hR
              go_region_held3 (fun w' => w'.cell? ⟨bl, off + k * 3 + 1, none⟩ = some (.int .i64 q1) ∧ w'.cell? ⟨bl, off + k * 3 + 2, none⟩ = some (.int .i64 q2)) (go_keep)
                (first
                  | (go_at_call 29; refine HT.out.mono ?_; rintro e w4 ⟨rfl, hm4, hg4⟩; have HM4 := Lib.hid hm4; have HB4 := Lib.hid (HB3.out.drew.grown hg4 HB3.out.drew.size (fun j hj => by simp only [Option.some.injEq] at hj; omega)); have he1 := (HB4.out.cell (p := ⟨bl, off + k * 3 + 1, none⟩) hbl).trans C1.out; have he2 := (HB4.out.cell (p := ⟨bl, off + k * 3 + 2, none⟩) hbl).trans C2.out; clear hm4 hg4))
              have f2 : w4.cell? ⟨bl, off + k * 3 + 2, none⟩ = some (.int .i64 q2) := (HB4.out.cell (p := ⟨bl, off + k * 3 + 2, none⟩) hbl).trans C2.out
              clear HT d0 d1 d2
              by_cases hz : R.1 = 0
              · have hq : 1 ≤ q2 ∧ (sumR R.2 : Int) = sumR rs + q2 := by
                  rcases HSP.out with ⟨_, e⟩ | ⟨_, _, e⟩ | ⟨hmy, _, _, _, e⟩
                  · rw [e] at hz; simp at hz
                  · rw [e] at hz; simp at hz
                  · have := hmy.1; omega
                have hsr0 := good_sum HM4.out.2.2.1
                have hw0 : IntKind.i64.wrap ((s : Int) - (sumR rs : Int) - q2) = (s : Int) - (sumR rs : Int) - q2 := IntWalk.i64_in _ (by omega)
                have HQ := Lib.hid hq.2
                have hz1 : (R.1 == 0) = true := by simpa using hz
                clear hq HSP hsr0 hz
                go_wp2_with fail
                go_meet
                exact ⟨R.2, by rw [HQ.out]; congr 1; omega, HM4, HB4⟩
              · have hrr : R.2 = rs := by
                  rcases HSP.out with ⟨_, e⟩ | ⟨_, _, e⟩ | ⟨_, _, e, _⟩
                  · rw [e]
                  · rw [e]
                  · exact absurd e hz
                rw [hrr] at HM4
                have hz1 : (R.1 == 0) = false := by simpa using hz
                clear HSP hrr hz
                go_wp2_with fail
                go_meet
                exact ⟨rs, rfl, HM4, HB4⟩
          case rest =>
            obtain ⟨ru, rfl, HM4, HB4⟩ := hcut
            clear HM3 HB3 d0 d1 d2
            go_wp2_with fail
            refine (left_any mb s ru wc HM4.out).mono ?_
            rintro e w5 ⟨rfl, hb5⟩
            have HM5 := Lib.hid (HM4.out.below hb5)
            have HB5 := Lib.hid (HB4.out.trans (hb5.mono HB4.out.size))
            have hlr := good_len HM4.out.2.2.1
            have hsr := good_sum HM4.out.2.2.1
            clear hb5
            go_wp2_with fail
            refine (runs_any mb s ru w5 HM5.out).mono ?_
            rintro e w6 ⟨v1, rfl, hown1, hb6⟩
            obtain ⟨ao1, cap1, rfl, hr1⟩ := RSl.of_owns hown1
            have HR1 := Lib.hid hr1
            have HM6 := Lib.hid (HM5.out.below hb6)
            have HB6 := Lib.hid (HB5.out.trans (hb6.mono HB5.out.size))
            clear hown1 hr1 hb6
            go_wp2_with fail
            go_loopw [11, 12, 13] (fun t u i wr => ∃ j : Nat, j ≤ ru.length ∧ i = .int .i64 j ∧ t = .int .i64 (sumR (ru.take j)) ∧ u = .int .i64 (endE ru j) ∧ Hid (Below w6.heap.size w6 wr)) (fun _ _ i _ => ru.length - (intOf i).toNat)
            case atStart => exact ⟨0, by omega, rfl, rfl, rfl, Lib.hid (Below.refl _ _)⟩
            case round =>
              obtain ⟨j, hj, rfl, rfl, rfl, hbr⟩ := hrel
              have hgd := HM6.out.2.2.1
              have hee := endE_le hgd hj
              by_cases hjn : j < ru.length
              · obtain ⟨b1, off1, rfl, hb1, hc1⟩ := HR1.out.2.2.2.2 (by omega)
                have hel := endE_lt hgd hjn
                have hm1 := hgd.1 (ru.getD j (0, 0)) (by rw [getD_lt hjn]; exact List.getElem_mem _)
                have hst := sumR_step ru j hjn
                have hsl := sumR_take_le ru (j + 1)
                have hes := endE_succ ru j
                obtain ⟨p, hp⟩ : ∃ p, p = ru.getD j (0, 0) := ⟨_, rfl⟩
                obtain ⟨x, y⟩ := p
                have c0 : wr.cell? ⟨b1, off1 + j * 2, none⟩ = some (.int .i64 x) := by rw [hbr.out.cell (p := ⟨b1, _, none⟩) hb1, hc1 _ (by omega), (encR_get ru j hjn).1, ← hp]
                have c1 : wr.cell? ⟨b1, off1 + j * 2 + 1, none⟩ = some (.int .i64 y) := by rw [Nat.add_assoc, hbr.out.cell (p := ⟨b1, _, none⟩) hb1, hc1 _ (by omega), (encR_get ru j hjn).2, ← hp]
                rw [← hp] at hel hm1 hst hes
                dsimp only at hel hm1 hst hes
                obtain ⟨E, hE⟩ : ∃ E, E = endE ru j := ⟨_, rfl⟩
                obtain ⟨S, hS⟩ : ∃ S, S = sumR (ru.take j) := ⟨_, rfl⟩
                rw [← hE] at hel hee ⊢
                rw [← hS] at hst ⊢
                have k1 : decide ((x : Int) ≤ E) = false := by simp; omega
                have k2 : decide ((y : Int) < 1) = false := by simp; omega
                have hw1 : IntKind.i64.wrap ((x : Int) + (y : Int)) = (x : Int) + (y : Int) := IntWalk.i64_in _ (by omega)
                have hw2 : IntKind.i64.wrap ((S : Int) + (y : Int)) = (S : Int) + (y : Int) := IntWalk.i64_in _ (by omega)
                have HST := Lib.hid hst
                have HES := Lib.hid hes
                clear hp hgd hc1 hst hes hsl hE hS
                go_wp2_with fail
                go_quiet (fail)
                go_wp2_with fail
                go_roundw
                case rel => exact ⟨j + 1, by omega, by go_num, by rw [HST.out]; go_num, by rw [HES.out]; go_num, Lib.hid (below_drewN' hbr.out _)⟩
                case measure => simp [intOf]; omega
              · have hj' : j = ru.length := by omega
                have htk : sumR (ru.take j) = sumR ru := by rw [hj', List.take_length]
                rw [htk]
                obtain ⟨E, hE⟩ : ∃ E, E = endE ru j := ⟨_, rfl⟩
                rw [← hE] at hee ⊢
                clear htk hgd hE
                subst hj'
                have HMr := Lib.hid (HM6.out.below hbr.out)
                have HBr := Lib.hid (HB6.out.trans (hbr.out.mono HB6.out.size))
                have k1 : decide ((s : Int) < E) = false := by simp; omega
                have hw1 : IntKind.i64.wrap ((sumR ru : Int) + ((s : Int) - (sumR ru : Int))) = (s : Int) := by rw [IntWalk.i64_in _ (by omega)]; omega
                go_wp2_with fail
                refine (left_any mb s ru wr HMr.out).mono ?_
                rintro e w7 ⟨rfl, hb7⟩
                have HM7 := Lib.hid (HMr.out.below hb7)
                have HB7 := Lib.hid (HBr.out.trans (hb7.mono HBr.out.size))
                clear hb7
                go_wp2_with fail
                refine (size_any mb s ru w7 HM7.out).mono ?_
                rintro e w8 ⟨rfl, rfl⟩
                go_wp2_with fail
                go_roundw
                case rel => exact ⟨k + 1, ru, by omega, by go_num, HM7, HB7⟩
                case measure => simp [intOf]; omega
        · have hkn' : k = n := by omega
          subst hkn'
          go_wp2_with fail
          go_ret
          exact ⟨rfl, hb.out⟩
  · have hd : decide (100 < (n : Int)) = true := by simp; omega
    go_enter Try.func8, Try.ntmps8
    go_wp2_with fail
    refine (awake_any _).mono ?_
    rintro e w1 ⟨rfl, hb1⟩
    go_wp2_with fail
    refine (awake_any _).mono ?_
    rintro e w2 ⟨rfl, hb2⟩
    go_wp2_with fail
    go_ret
    exact ⟨rfl, hb1.trans (hb2.mono hb1.size)⟩
end Go.Proofs.Ytmnhdpojonlfhaa
