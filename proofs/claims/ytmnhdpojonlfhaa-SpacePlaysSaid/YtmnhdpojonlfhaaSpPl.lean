/- SpacePlays, walked. -/
import Derived.Test.YtmnhdpojonlfhaaSpN
import Derived.Test.YtmnhdpojonlfhaaSpB
import Derived.Test.YtmnhdpojonlfhaaSpRh
import Derived.Deep.DeepCutAuto
import Derived.Deep.CutBlock
namespace Go.Proofs.Ytmnhdpojonlfhaa
open Go.RowKit

theorem encB_zero (n : Nat) : (madeCells (Value.bool false).cells (n * 1)).toList = encB (List.replicate n false) := by
  rw [Nat.mul_one, encB, List.map_replicate]
  exact toList_madeCells_one _ _

/-- Marks in a row of their own. -/
def BO (w : World) (ab : Option Addr) (n cap : Nat) (bs : List Bool) : Prop := w.ownsRow 0 4 1 (.slice ab n cap) n (encB bs)
theorem BO.bsl {w : World} {n cap : Nat} {ab : Option Addr} {bs : List Bool} (h : BO w ab n cap bs) : BSl w ab n cap bs := rsl_of_owns h
theorem BO.below {w w' : World} {n cap : Nat} {ab : Option Addr} {bs : List Bool} (h : BO w ab n cap bs) (hb : Below w.heap.size w w') : BO w' ab n cap bs := owns_below h hb
theorem bsl_grown {w w' : World} {mb size n cap : Nat} {ab : Option Addr} {rs : List (Nat × Nat)} {bs : List Bool} (h : BO w ab n cap bs) (hm : IsMap w mb size rs) (hg : w.grownBy w' (some mb)) : BO w' ab n cap bs := by
  obtain ⟨_, _, _, _, v, hb, _⟩ := hm
  refine World.ownsRow.kept h hg ?_
  rcases h.2 with ⟨hv, _⟩ | ⟨g, cap', cur, hv, _, hh, _⟩
  · exact .inl (by rw [hv]; rfl)
  · refine .inr ?_
    rw [hv]
    intro e
    simp only [Value.ownBlock, Option.some.injEq] at e
    subst e
    unfold Blk at hb
    rw [hh] at hb
    simp only [Option.some.injEq, Obj.cells.injEq] at hb
    exact absurd hb.2.1 (by decide)

set_option maxHeartbeats 6400000 in
set_option maxRecDepth 100000 in
theorem spplays_any (s : Int) (ao : Option Addr) (n cap : Nat) (zs : List ActT) (w : World) (hs : -9223372036854775808 ≤ s ∧ s ≤ 9223372036854775807) (hsl : ASl w ao n cap zs) :
    Calls Try.prog 6 #[.int .i64 s, .slice ao n cap] w fun e w' => e = .returned (.bool true) ∧ Below w.heap.size w w' := by
  obtain ⟨i0, hi, hz0, hz1, hz2⟩ := info_parts infoB
  have hmx := hsl.mx
  have HSL := Lib.hid hsl
  clear hsl
  by_cases hn : n ≤ 100
  · have hd : decide (100 < (n : Int)) = false := by simp; omega
    by_cases hsz : 300 < s ∧ s ≤ 65536
    · obtain ⟨hs1, hs2⟩ := hsz
      have hd1 : decide (300 < s) = true := by simp; omega
      have hd2 : decide (s ≤ 65536) = true := by simp; omega
      go_enter Try.func6, Try.ntmps6
      go_wp2_with fail
      refine (awake_any _).mono ?_
      rintro e w1 ⟨rfl, hb1⟩
      go_wp2_with fail
      refine (awake_any _).mono ?_
      rintro e w2 ⟨rfl, hb2⟩
      go_wp2_with fail
      go_ret
      exact ⟨rfl, hb1.trans (hb2.mono hb1.size)⟩
    · by_cases hsz2 : s < 1 ∨ 65536 < s
      · rcases hsz2 with h | h
        · have hd1 : decide (300 < s) = false := by simp; omega
          have hd3 : decide (s < 1) = true := by simp; omega
          go_enter Try.func6, Try.ntmps6
          go_wp2_with fail
          refine (awake_any _).mono ?_
          rintro e w1 ⟨rfl, hb1⟩
          go_wp2_with fail
          refine (new_no s w1 (.inl h)).mono ?_
          rintro e w2 ⟨rfl, rfl⟩
          go_wp2_with fail
          go_ret
          exact ⟨rfl, hb1⟩
        · have hd1 : decide (300 < s) = true := by simp; omega
          have hd2 : decide (s ≤ 65536) = false := by simp; omega
          have hd3 : decide (s < 1) = false := by simp; omega
          have hd4 : decide (65536 < s) = true := by simp; omega
          go_enter Try.func6, Try.ntmps6
          go_wp2_with fail
          refine (awake_any _).mono ?_
          rintro e w1 ⟨rfl, hb1⟩
          go_wp2_with fail
          refine (new_no s w1 (.inr h)).mono ?_
          rintro e w2 ⟨rfl, rfl⟩
          go_wp2_with fail
          go_ret
          exact ⟨rfl, hb1⟩
      · obtain ⟨S, rfl⟩ := Int.eq_ofNat_of_zero_le (show 0 ≤ s by omega)
        have hs1 : 1 ≤ S := by omega
        have hs2 : S ≤ 300 := by omega
        have hdS : decide ((S : Int) < 1) = false := by simp; omega
        have hdS2 : decide (65536 < (S : Int)) = false := by simp; omega
        clear hsz hs hsz2
        go_enter Try.func6, Try.ntmps6
        go_wp2_with fail
        refine (awake_any _).mono ?_
        rintro e w1 ⟨rfl, hb1⟩
        have HB1 := Lib.hid hb1
        clear hb1
        go_wp2_with fail
        refine (new_yes S w1 hs1 (by omega)).mono ?_
        rintro e w2 ⟨rfl, hm2, hb2⟩
        obtain ⟨mb, hmb⟩ : ∃ mb, mb = w1.heap.size := ⟨_, rfl⟩
        rw [← hmb] at hm2 ⊢
        have hmb0 : w.heap.size ≤ mb := by rw [hmb]; exact HB1.out.size
        have HB2 := Lib.hid (HB1.out.trans (hb2.mono HB1.out.size))
        have HM2 := Lib.hid hm2
        clear hmb hm2 hb2
        go_wp2_with (at_make; refine wpList_make_full w2 rfl (.tmp 52) (.tmp 52) 47 rfl w2.heap.size 4 i0 (.bool false) 1 Try.underlying47 hi hz0 hz1 .i64 .i64 _ _ S rfl rfl rfl rfl (by rw [hz2]; omega) (by unfold maxLen; omega) (Nat.le_refl _) ?_; intro w3 hown3 hgrow3)
        rw [encB_zero] at hown3
        have HBS := Lib.hid (show BO w3 (some ⟨w2.heap.size, 0, none⟩) S S (List.replicate S false) from owns_weaken hown3 (Nat.zero_le _))
        have hb3 : Below w2.heap.size w2 w3 := (Below.refl _ _).grown hgrow3 (Nat.le_refl _) (by simp)
        have HM3 := Lib.hid (HM2.out.below hb3)
        have HB3 := Lib.hid (HB2.out.trans (hb3.mono HB2.out.size))
        clear hown3 hgrow3 hb3
        go_loopw [7, 8] (fun v i wr => ∃ (k : Nat) (rs : List (Nat × Nat)) (bs : List Bool) (ab : Option Addr) (cb : Nat), k ≤ n ∧ i = .int .i64 k ∧ v = .slice ab S cb ∧ Hid (BO wr ab S cb bs) ∧ Hid (Marks S rs bs) ∧ Hid (IsMap wr mb S rs) ∧ Hid (Below w.heap.size w wr)) (fun _ i _ => n - (intOf i).toNat)
        case atStart => exact ⟨0, [], _, _, _, by omega, rfl, rfl, HBS, Lib.hid (marks_new S), HM3, HB3⟩
        case round =>
          obtain ⟨k, rs, bs, ab, cb, hk, rfl, rfl, hbs, hmk, hm, hb⟩ := hrel
          by_cases hkn : k < n
          · obtain ⟨bl, off, rfl, hbl, hc⟩ := HSL.out.cells (by omega)
            obtain ⟨c0, c1, c2, hok⟩ := hc k hkn
            obtain ⟨q, hq⟩ : ∃ q, q = zs.getD k (0, 0, 0) := ⟨_, rfl⟩
            rw [← hq] at c0 c1 c2 hok
            obtain ⟨q0, q1, q2⟩ := q
            dsimp only at c0 c1 c2
            have d0 : wr.cell? ⟨bl, off + k * 3, none⟩ = some (.int .u8 q0) := (hb.out.cell (p := ⟨bl, _, none⟩) hbl).trans c0
            have d1 : wr.cell? ⟨bl, off + k * 3 + 1, none⟩ = some (.int .i64 q1) := (hb.out.cell (p := ⟨bl, _, none⟩) hbl).trans c1
            have d2 : wr.cell? ⟨bl, off + k * 3 + 2, none⟩ = some (.int .i64 q2) := (hb.out.cell (p := ⟨bl, _, none⟩) hbl).trans c2
            have hq0 : q0 ≤ 255 := hok.1
            have hi1 := hok.2.1
            have hi2 := hok.2.2
            unfold I64 at hi1 hi2
            clear c0 c1 c2 hc hq hok
            go_wp2_with fail
            go_quiet (fail)
            obtain ⟨wq, hwq⟩ : ∃ wq, wq = wr.drewN nq := ⟨_, rfl⟩
            have HBS := Lib.hid (show BO wq ab S cb bs by rw [hwq]; exact hbs.out.below (below_drewN' (Below.refl _ _) nq))
            have HMK := Lib.hid hmk.out
            have HM := Lib.hid (show IsMap wq mb S rs by rw [hwq]; exact hm.out.below (below_drewN' (Below.refl _ _) nq))
            have HB := Lib.hid (show Below w.heap.size w wq by rw [hwq]; exact below_drewN' hb.out nq)
            have e0 : wq.cell? ⟨bl, off + k * 3, none⟩ = some (.int .u8 q0) := by rw [hwq]; exact d0
            rw [← hwq]
            clear d0 d1 d2 hbs hmk hm hb hwq
            go_upto_region 11 with fail
            go_cut [11] (fun v wx => v = .bool (decide (May S q1 q2)) ∧ wx = wq)
            case first =>
              by_cases hm : May S q1 q2
              · have HMM := Lib.hid hm
                obtain ⟨m1, m2, m3, m4⟩ := hm
                have m3' : q1 < S := by omega
                go_wp2_with fail
                go_meet
                exact ⟨by rw [decide_eq_true HMM.out], rfl⟩
              · have HMM := Lib.hid hm
                unfold May at hm
                by_cases m1 : 1 ≤ q2
                · by_cases m2 : 0 ≤ q1
                  · by_cases m3 : q1 < S
                    · have m4 : ¬ q2 ≤ (S : Int) - q1 := fun h => hm ⟨m1, m2, by omega, h⟩
                      clear hm
                      go_wp2_with fail
                      go_meet
                      exact ⟨by rw [decide_eq_false HMM.out], rfl⟩
                    · clear hm
                      go_wp2_with fail
                      go_meet
                      exact ⟨by rw [decide_eq_false HMM.out], rfl⟩
                  · clear hm
                    go_wp2_with fail
                    go_meet
                    exact ⟨by rw [decide_eq_false HMM.out], rfl⟩
                · clear hm
                  go_wp2_with fail
                  go_meet
                  exact ⟨by rw [decide_eq_false HMM.out], rfl⟩
            case rest =>
              obtain ⟨rfl, rfl⟩ := hcut
              have hq1 := HM.out.1
              go_upto_block 2 with fail
              go_cut [7, 11] (fun v _ wx => ∃ (rs : List (Nat × Nat)) (bs : List Bool) (ab : Option Addr) (cb : Nat), v = .slice ab S cb ∧ Hid (BO wx ab S cb bs) ∧ Hid (Marks S rs bs) ∧ Hid (IsMap wx mb S rs) ∧ Hid (Below w.heap.size w wx))
              case first =>
                by_cases p2 : q0 % 4 = 2
                · have t2 : ((q0 : Int) % 4 == 2) = true := by rw [beq_iff_eq]; omega
                  clear p2
                  rcases marks_free HM.out.2.2.1 HMK.out q1 q2 with ⟨hm, e⟩ | ⟨hm, hr, e⟩ | ⟨hm, hr, e, hmk2⟩
                  · have hT := free_any mb S rs q1 q2 wc HM.out
                    rw [e] at hT
                    have HT := Lib.hid hT
                    have hdm : decide (May S q1 q2) = false := by simpa using hm
                    clear e hT hm
                    go_wp2_with fail
                    refine HT.out.mono ?_
                    rintro e w4 ⟨rfl, hm4, hg4⟩
                    have HB4 := Lib.hid (HB.out.grown hg4 HB.out.size (fun j hj => by simp only [Option.some.injEq] at hj; omega))
                    have HS4 := Lib.hid (bsl_grown HBS.out HM.out hg4)
                    have HM4 := Lib.hid hm4
                    clear hm4 hg4
                    go_wp2_with fail
                    go_meet
                    exact ⟨rs, bs, ab, cb, rfl, HS4, HMK, HM4, HB4⟩
                  · have hT := free_any mb S rs q1 q2 wc HM.out
                    rw [e] at hT
                    have HT := Lib.hid hT
                    have hdm : decide (May S q1 q2) = true := by simpa using hm
                    obtain ⟨m1, m2, m3, m4⟩ := hm
                    obtain ⟨q1, rfl⟩ := Int.eq_ofNat_of_zero_le m2
                    obtain ⟨q2, rfl⟩ := Int.eq_ofNat_of_zero_le (show 0 ≤ q2 by omega)
                    try simp only [Int.toNat_natCast] at hr
                    have hF := full_any ab S cb bs q1 q2 wc HBS.out.bsl (by omega) (by omega)
                    rw [hr] at hF
                    have HF := Lib.hid hF
                    clear e hT hr hF
                    go_wp2_with fail
                    refine HF.out.mono ?_
                    rintro e w3 ⟨rfl, rfl⟩
                    go_wp2_with fail
                    refine HT.out.mono ?_
                    rintro e w4 ⟨rfl, hm4, hg4⟩
                    have HB4 := Lib.hid (HB.out.grown hg4 HB.out.size (fun j hj => by simp only [Option.some.injEq] at hj; omega))
                    have HS4 := Lib.hid (bsl_grown HBS.out HM.out hg4)
                    have HM4 := Lib.hid hm4
                    clear hm4 hg4
                    go_wp2_with fail
                    go_meet
                    exact ⟨rs, bs, ab, cb, rfl, HS4, HMK, HM4, HB4⟩
                  · have hT := free_any mb S rs q1 q2 wc HM.out
                    obtain ⟨R, hR⟩ : ∃ R, R = freeS S rs q1 q2 := ⟨_, rfl⟩
                    rw [← hR] at hT e hmk2
                    obtain ⟨R1, R2⟩ := R
                    dsimp only at hT e hmk2
                    subst e
                    have HT := Lib.hid hT
                    have HMK2 := Lib.hid hmk2
                    have hdm : decide (May S q1 q2) = true := by simpa using hm
                    obtain ⟨m1, m2, m3, m4⟩ := hm
                    obtain ⟨q1, rfl⟩ := Int.eq_ofNat_of_zero_le m2
                    obtain ⟨q2, rfl⟩ := Int.eq_ofNat_of_zero_le (show 0 ≤ q2 by omega)
                    try simp only [Int.toNat_natCast] at hr
                    replace HMK2 := Lib.hid (by have := HMK2.out; simp only [Int.toNat_natCast] at this; exact this)
                    have hF := full_any ab S cb bs q1 q2 wc HBS.out.bsl (by omega) (by omega)
                    rw [hr] at hF
                    have HF := Lib.hid hF
                    clear hT hr hF hmk2 hR
                    go_wp2_with fail
                    refine HF.out.mono ?_
                    rintro e w3 ⟨rfl, rfl⟩
                    go_wp2_with fail
                    refine HT.out.mono ?_
                    rintro e w4 ⟨rfl, hm4, hg4⟩
                    have HB4 := Lib.hid (HB.out.grown hg4 HB.out.size (fun j hj => by simp only [Option.some.injEq] at hj; omega))
                    have HS4 := Lib.hid (bsl_grown HBS.out HM.out hg4)
                    have HM4 := Lib.hid hm4
                    clear hm4 hg4
                    go_wp2_with fail
                    refine (set_any ab S cb bs q1 q2 false w4 HS4.out.bsl (by omega) (by omega)).mono ?_
                    rintro e w5 ⟨v5, rfl, hown5, hb5⟩
                    obtain ⟨ab5, cb5, rfl, hr5⟩ := RSl.of_owns hown5
                    have HS5 := Lib.hid (show BO w5 ab5 S cb5 _ from owns_weaken hown5 (Nat.zero_le _))
                    have HM5 := Lib.hid (HM4.out.below hb5)
                    have HB5 := Lib.hid (HB4.out.trans (hb5.mono HB4.out.size))
                    clear hown5 hb5 hr5
                    go_wp2_with fail
                    go_meet
                    exact ⟨R2, _, ab5, cb5, rfl, HS5, HMK2, HM5, HB5⟩
                · have t2 : ((q0 : Int) % 4 == 2) = false := by rw [beq_eq_false_iff_ne]; omega
                  by_cases p3 : q0 % 4 = 3
                  · have t3 : ((q0 : Int) % 4 == 3) = true := by rw [beq_iff_eq]; omega
                    have hfi : FindIs bs q2 q1 (findS S rs q2 q1) := by
                      have := marks_find HM.out.2.2.1 HMK.out q2 q1
                      unfold FindIs
                      rw [HMK.out.len]
                      rcases this with ⟨a, b⟩ | h | h | h
                      · exact .inl ⟨a, b⟩
                      · exact .inr (.inl h)
                      · exact .inr (.inr (.inl h))
                      · exact .inr (.inr (.inr h))
                    have hT := find_any mb S rs q2 q1 wc HM.out
                    obtain ⟨r, hr⟩ : ∃ r, r = findS S rs q2 q1 := ⟨_, rfl⟩
                    rw [← hr] at hT hfi
                    have HT := Lib.hid hT
                    have HFI := Lib.hid hfi
                    clear hT hfi hr p2 p3
                    rcases r with _ | r
                    · go_wp2_with fail
                      refine HT.out.mono ?_
                      rintro e w4 ⟨rfl, hb4⟩
                      have HB4 := Lib.hid (HB.out.trans (hb4.mono HB.out.size))
                      have HS4 := Lib.hid (HBS.out.below hb4)
                      have HM4 := Lib.hid (HM.out.below hb4)
                      clear hb4
                      go_wp2_with fail
                      refine (show Calls _ _ _ _ fun e w' => e = .returned (.int .i64 (-1)) ∧ _ from find_marks ab S cb bs q2 q1 none w4 HS4.out.bsl (by omega) HFI.out).mono ?_
                      rintro e w5 ⟨rfl, rfl⟩
                      go_wp2_with fail
                      go_meet
                      exact ⟨rs, bs, ab, cb, rfl, HS4, HMK, HM4, HB4⟩
                    · go_wp2_with fail
                      refine HT.out.mono ?_
                      rintro e w4 ⟨rfl, hb4⟩
                      have HB4 := Lib.hid (HB.out.trans (hb4.mono HB.out.size))
                      have HS4 := Lib.hid (HBS.out.below hb4)
                      have HM4 := Lib.hid (HM.out.below hb4)
                      clear hb4
                      go_wp2_with fail
                      refine (show Calls _ _ _ _ fun e w' => e = .returned (.int .i64 (r : Nat)) ∧ _ from find_marks ab S cb bs q2 q1 (some r) w4 HS4.out.bsl (by omega) HFI.out).mono ?_
                      rintro e w5 ⟨rfl, rfl⟩
                      go_wp2_with fail
                      go_meet
                      exact ⟨rs, bs, ab, cb, rfl, HS4, HMK, HM4, HB4⟩
                  · have t3 : ((q0 : Int) % 4 == 3) = false := by rw [beq_eq_false_iff_ne]; omega
                    clear p2 p3
                    rcases marks_take HM.out.2.2.1 HMK.out q1 q2 with ⟨hm, e⟩ | ⟨hm, hr, e⟩ | ⟨hm, hr, e, hmk2⟩
                    · have hT := take_any mb S rs q1 q2 wc HM.out
                      rw [e] at hT
                      have HT := Lib.hid hT
                      have hdm : decide (May S q1 q2) = false := by simpa using hm
                      clear e hT hm
                      go_wp2_with fail
                      refine HT.out.mono ?_
                      rintro e w4 ⟨rfl, hm4, hg4⟩
                      have HB4 := Lib.hid (HB.out.grown hg4 HB.out.size (fun j hj => by simp only [Option.some.injEq] at hj; omega))
                      have HS4 := Lib.hid (bsl_grown HBS.out HM.out hg4)
                      have HM4 := Lib.hid hm4
                      clear hm4 hg4
                      go_wp2_with fail
                      go_meet
                      exact ⟨rs, bs, ab, cb, rfl, HS4, HMK, HM4, HB4⟩
                    · have hT := take_any mb S rs q1 q2 wc HM.out
                      rw [e] at hT
                      have HT := Lib.hid hT
                      have hdm : decide (May S q1 q2) = true := by simpa using hm
                      obtain ⟨m1, m2, m3, m4⟩ := hm
                      obtain ⟨q1, rfl⟩ := Int.eq_ofNat_of_zero_le m2
                      obtain ⟨q2, rfl⟩ := Int.eq_ofNat_of_zero_le (show 0 ≤ q2 by omega)
                      try simp only [Int.toNat_natCast] at hr
                      have hF := free_marks ab S cb bs q1 q2 wc HBS.out.bsl (by omega)
                      rw [hr] at hF
                      have HF := Lib.hid hF
                      clear e hT hr hF
                      go_wp2_with fail
                      refine HF.out.mono ?_
                      rintro e w3 ⟨rfl, rfl⟩
                      go_wp2_with fail
                      refine HT.out.mono ?_
                      rintro e w4 ⟨rfl, hm4, hg4⟩
                      have HB4 := Lib.hid (HB.out.grown hg4 HB.out.size (fun j hj => by simp only [Option.some.injEq] at hj; omega))
                      have HS4 := Lib.hid (bsl_grown HBS.out HM.out hg4)
                      have HM4 := Lib.hid hm4
                      clear hm4 hg4
                      go_wp2_with fail
                      go_meet
                      exact ⟨rs, bs, ab, cb, rfl, HS4, HMK, HM4, HB4⟩
                    · have hT := take_any mb S rs q1 q2 wc HM.out
                      obtain ⟨R, hR⟩ : ∃ R, R = takeS S rs q1 q2 := ⟨_, rfl⟩
                      rw [← hR] at hT e hmk2
                      obtain ⟨R1, R2⟩ := R
                      dsimp only at hT e hmk2
                      subst e
                      have HT := Lib.hid hT
                      have HMK2 := Lib.hid hmk2
                      have hdm : decide (May S q1 q2) = true := by simpa using hm
                      obtain ⟨m1, m2, m3, m4⟩ := hm
                      obtain ⟨q1, rfl⟩ := Int.eq_ofNat_of_zero_le m2
                      obtain ⟨q2, rfl⟩ := Int.eq_ofNat_of_zero_le (show 0 ≤ q2 by omega)
                      try simp only [Int.toNat_natCast] at hr
                      replace HMK2 := Lib.hid (by have := HMK2.out; simp only [Int.toNat_natCast] at this; exact this)
                      have hF := free_marks ab S cb bs q1 q2 wc HBS.out.bsl (by omega)
                      rw [hr] at hF
                      have HF := Lib.hid hF
                      clear hT hr hF hmk2 hR
                      go_wp2_with fail
                      refine HF.out.mono ?_
                      rintro e w3 ⟨rfl, rfl⟩
                      go_wp2_with fail
                      refine HT.out.mono ?_
                      rintro e w4 ⟨rfl, hm4, hg4⟩
                      have HB4 := Lib.hid (HB.out.grown hg4 HB.out.size (fun j hj => by simp only [Option.some.injEq] at hj; omega))
                      have HS4 := Lib.hid (bsl_grown HBS.out HM.out hg4)
                      have HM4 := Lib.hid hm4
                      clear hm4 hg4
                      go_wp2_with fail
                      refine (set_any ab S cb bs q1 q2 true w4 HS4.out.bsl (by omega) (by omega)).mono ?_
                      rintro e w5 ⟨v5, rfl, hown5, hb5⟩
                      obtain ⟨ab5, cb5, rfl, hr5⟩ := RSl.of_owns hown5
                      have HS5 := Lib.hid (show BO w5 ab5 S cb5 _ from owns_weaken hown5 (Nat.zero_le _))
                      have HM5 := Lib.hid (HM4.out.below hb5)
                      have HB5 := Lib.hid (HB4.out.trans (hb5.mono HB4.out.size))
                      clear hown5 hb5 hr5
                      go_wp2_with fail
                      go_meet
                      exact ⟨R2, _, ab5, cb5, rfl, HS5, HMK2, HM5, HB5⟩
              case rest =>
                clear HBS HMK HM HB e0
                obtain ⟨rs, bs, ab, cb, rfl, HBS, HMK, HM, HB⟩ := hcut
                have hgd := HM.out.2.2.1
                have hrl := good_len hgd
                have HRR := Lib.hid (marks_runs hgd HMK.out)
                clear hgd
                obtain ⟨wv, rfl⟩ : ∃ wv, wv = wc := ⟨_, rfl⟩
                go_wp2_with fail
                refine (runs_any mb S rs wv HM.out).mono ?_
                rintro e w4 ⟨v1, rfl, hown1, hb4⟩
                obtain ⟨ao1, cap1, rfl, hr1⟩ := RSl.of_owns hown1
                have HR1 := Lib.hid hr1
                have HBS4 := Lib.hid (HBS.out.below hb4)
                have HM4 := Lib.hid (HM.out.below hb4)
                have HB4 := Lib.hid (HB.out.trans (hb4.mono HB.out.size))
                clear hown1 hr1 hb4
                have hT := runs_marks ab S cb bs w4 HBS4.out.bsl (by omega)
                rw [HRR.out] at hT
                have HT := Lib.hid hT
                clear hT
                go_wp2_with fail
                refine HT.out.mono ?_
                rintro e w5 ⟨v2, rfl, hown2, hb5⟩
                obtain ⟨ao2, cap2, rfl, hr2⟩ := RSl.of_owns hown2
                have HR2 := Lib.hid hr2
                have HR1' := Lib.hid (HR1.out.below hb5)
                have HBS5 := Lib.hid (HBS4.out.below hb5)
                have HM5 := Lib.hid (HM4.out.below hb5)
                have HB5 := Lib.hid (HB4.out.trans (hb5.mono HB4.out.size))
                clear hown2 hr2 hb5
                go_wp2_with fail
                go_loopw [18] (fun i wr => ∃ j : Nat, j ≤ rs.length ∧ i = .int .i64 j ∧ Hid (Below w5.heap.size w5 wr)) (fun i _ => rs.length - (intOf i).toNat)
                case atStart => exact ⟨0, by omega, rfl, Lib.hid (Below.refl _ _)⟩
                case round =>
                  obtain ⟨j, hj, rfl, hbr⟩ := hrel
                  by_cases hjn : j < rs.length
                  · obtain ⟨b1, off1, rfl, hb1, hc1⟩ := HR1'.out.2.2.2.2 (by omega)
                    obtain ⟨b2, off2, rfl, hb2, hc2⟩ := HR2.out.2.2.2.2 (by omega)
                    obtain ⟨x, hx⟩ : ∃ x, x = (rs.getD j (0, 0)).1 := ⟨_, rfl⟩
                    obtain ⟨y, hy⟩ : ∃ y, y = (rs.getD j (0, 0)).2 := ⟨_, rfl⟩
                    have c0 : wr.cell? ⟨b1, off1 + j * 2, none⟩ = some (.int .i64 x) := by rw [hbr.out.cell (p := ⟨b1, _, none⟩) hb1, hc1 _ (by omega), (encR_get rs j hjn).1, ← hx]
                    have c1 : wr.cell? ⟨b1, off1 + j * 2 + 1, none⟩ = some (.int .i64 y) := by rw [Nat.add_assoc, hbr.out.cell (p := ⟨b1, _, none⟩) hb1, hc1 _ (by omega), (encR_get rs j hjn).2, ← hy]
                    have c2 : wr.cell? ⟨b2, off2 + j * 2, none⟩ = some (.int .i64 x) := by rw [hbr.out.cell (p := ⟨b2, _, none⟩) hb2, hc2 _ (by omega), (encR_get rs j hjn).1, ← hx]
                    have c3 : wr.cell? ⟨b2, off2 + j * 2 + 1, none⟩ = some (.int .i64 y) := by rw [Nat.add_assoc, hbr.out.cell (p := ⟨b2, _, none⟩) hb2, hc2 _ (by omega), (encR_get rs j hjn).2, ← hy]
                    clear hx hy hc1 hc2
                    go_wp2_with fail
                    go_quiet (fail)
                    go_wp2_with fail
                    go_roundw
                    case rel => exact ⟨j + 1, by omega, by go_num, Lib.hid (below_drewN' hbr.out _)⟩
                    case measure => simp [intOf]; omega
                  · have HBr := Lib.hid (HB5.out.trans (hbr.out.mono HB5.out.size))
                    have HMr := Lib.hid (HM5.out.below hbr.out)
                    have HSr := Lib.hid (HBS5.out.below hbr.out)
                    go_wp2_with fail
                    go_roundw
                    case rel => exact ⟨k + 1, rs, bs, ab, cb, by omega, by go_num, rfl, HSr, HMK, HMr, HBr⟩
                    case measure => simp [intOf]; omega
          · have hkn' : k = n := by omega
            subst hkn'
            go_wp2_with fail
            go_ret
            exact ⟨rfl, hb.out⟩
  · have hd : decide (100 < (n : Int)) = true := by simp; omega
    go_enter Try.func6, Try.ntmps6
    go_wp2_with fail
    refine (awake_any _).mono ?_
    rintro e w1 ⟨rfl, hb1⟩
    go_wp2_with fail
    refine (awake_any _).mono ?_
    rintro e w2 ⟨rfl, hb2⟩
    go_wp2_with fail
    go_ret
    exact ⟨rfl, hb1.trans (hb2.mono hb1.size)⟩
end Go.Proofs.Ytmnhdpojonlfhaa
