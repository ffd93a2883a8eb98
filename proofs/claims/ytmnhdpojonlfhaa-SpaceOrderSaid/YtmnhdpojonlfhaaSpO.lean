/- SpaceOrder, walked. -/
import Derived.Test.YtmnhdpojonlfhaaSpN
import Derived.Test.YtmnhdpojonlfhaaSpB
import Derived.Test.YtmnhdpojonlfhaaSpPO
namespace Go.Proofs.Ytmnhdpojonlfhaa
open Go.RowKit

theorem infoA : (Try.prog.info? 40).map (fun i => (i.zero, i.size, i.bytes)) = some (some (.agg #[.int .u8 0, .int .i64 0, .int .i64 0]), 3, 24) := by kernel_rfl

set_option maxHeartbeats 6400000 in
set_option maxRecDepth 100000 in
theorem order_any (ao : Option Addr) (n cap : Nat) (zs : List ActT) (c : Int) (w : World) (hsl : ASl w ao n cap zs) (hc : 0 ≤ c ∧ c ≤ 255) :
    Calls Try.prog 5 #[.slice ao n cap, .int .u8 c] w fun e w' => e = .returned (.bool true) ∧ Below w.heap.size w w' := by
  obtain ⟨i0, hi, hz0, hz1, hz2⟩ := info_parts infoA
  obtain ⟨c, rfl⟩ := Int.eq_ofNat_of_zero_le hc.1
  have hc2 : c ≤ 255 := by omega
  have hmx := hsl.mx
  have HSL := Lib.hid hsl
  clear hsl hc
  by_cases hn : n ≤ 100
  · have hd : decide (100 < (n : Int)) = false := by simp; omega
    rcases Nat.eq_zero_or_pos n with hn0 | hn0
    · have hd2 : ((n : Int) == 0) = true := by simp; omega
      go_enter Try.func5, Try.ntmps5
      go_wp2_with fail
      refine (awake_any _).mono ?_
      rintro e w1 ⟨rfl, hb1⟩
      go_wp2_with fail
      refine (awake_any _).mono ?_
      rintro e w2 ⟨rfl, hb2⟩
      go_wp2_with fail
      go_ret
      exact ⟨rfl, hb1.trans (hb2.mono hb1.size)⟩
    · have hd2 : ((n : Int) == 0) = false := by simp; omega
      go_enter Try.func5, Try.ntmps5
      go_wp2_with fail
      refine (awake_any _).mono ?_
      rintro e w1 ⟨rfl, hb1⟩
      have HB1 := Lib.hid hb1
      clear hb1
      go_wp2_with fail
      refine (new_yes 60 w1 (by omega) (by omega)).mono ?_
      rintro e w2 ⟨rfl, hm2, hb2⟩
      obtain ⟨mb, hmb⟩ : ∃ mb, mb = w1.heap.size := ⟨_, rfl⟩
      have hw2 : mb < w2.heap.size := by have := hm2.lt; omega
      rw [← hmb] at hm2 ⊢
      have hmb0 : w.heap.size ≤ mb := by rw [hmb]; exact HB1.out.size
      have HB2 := Lib.hid (HB1.out.trans (hb2.mono HB1.out.size))
      have HM2 := Lib.hid hm2
      clear hmb hm2 hb2
      go_wp2_with fail
      go_loopw [7, 8] (fun v i wr => ∃ (k : Nat) (rs : List (Nat × Nat)) (T : List ActT), k ≤ n ∧ i = .int .i64 k ∧ Hid (IsMap wr mb 60 rs) ∧ Hid (TakenL 60 rs T) ∧ T.length ≤ k ∧ Hid (wr.ownsRow (mb + 1) 40 3 v T.length (encA T)) ∧ Hid (Below w.heap.size w wr)) (fun _ i _ => n - (intOf i).toNat)
      case atStart => exact ⟨0, [], [], by omega, rfl, HM2, Lib.hid (TakenL.nil 60), Nat.le_refl _, Lib.hid (World.ownsRow_nil _ _ _ _), HB2⟩
      case round =>
        obtain ⟨k, rs, T, hk, rfl, hm, hT, hTl, hown, hb⟩ := hrel
        by_cases hkn : k < n
        · obtain ⟨bl, off, rfl, hbl, hc⟩ := HSL.out.cells (by omega)
          obtain ⟨c0, c1, c2, hok⟩ := hc k hkn
          obtain ⟨q, hq⟩ : ∃ q, q = zs.getD k (0, 0, 0) := ⟨_, rfl⟩
          rw [← hq] at c0 c1 c2 hok
          obtain ⟨q0, q1, q2⟩ := q
          dsimp only at c0 c1 c2
          have d1 : wr.cell? ⟨bl, off + k * 3 + 1, none⟩ = some (.int .i64 q1) := (hb.out.cell (p := ⟨bl, _, none⟩) hbl).trans c1
          have d2 : wr.cell? ⟨bl, off + k * 3 + 2, none⟩ = some (.int .i64 q2) := (hb.out.cell (p := ⟨bl, _, none⟩) hbl).trans c2
          have HT := Lib.hid (take_any mb 60 rs q1 q2 wr.drew (hm.out.below (Below.refl _ _).drew))
          have C0 := Lib.hid c0
          have C1 := Lib.hid c1
          have C2 := Lib.hid c2
          have hwl := hm.out.lt
          have HST := Lib.hid (hT.out.step hm.out.2.2.1 (q0, q1, q2))
          obtain ⟨R, hR⟩ : ∃ R, R = takeS 60 rs q1 q2 := ⟨_, rfl⟩
          have HR := Lib.hid hR
          obtain ⟨aoT, capT, rfl, _⟩ := RSl.of_owns hown.out
          rw [← hR] at HT
          have hrest : R.1 ≠ 0 → R.2 = rs := by
            intro hne
            rcases takeS_spec hm.out.2.2.1 q1 q2 with ⟨_, e⟩ | ⟨_, _, e⟩ | ⟨_, _, e, _⟩
            · rw [hR, e]
            · rw [hR, e]
            · rw [hR] at hne; exact absurd e hne
          have HREST := Lib.hid hrest
          dsimp only at HST
          rw [← hR] at HST
          clear c0 c1 c2 hc hq hok hR hrest
          go_wp2_with fail
          go_region_held3 (fun w' => w'.cell? ⟨bl, off + k * 3 + 1, none⟩ = some (.int .i64 q1) ∧ w'.cell? ⟨bl, off + k * 3 + 2, none⟩ = some (.int .i64 q2)) (go_keep)
            (first
              | (go_at_call 29; refine HT.out.mono ?_; rintro e w3 ⟨rfl, hm3, hg3⟩; have HM3 := Lib.hid hm3; have HB3 := Lib.hid (hb.out.drew.grown hg3 hb.out.drew.size (fun j hj => by simp only [Option.some.injEq] at hj; omega)); have O3 := Lib.hid (owns_grown (owns_drewN (k := 1) hown.out) hg3 (Nat.lt_succ_self mb)); have hd1 := (HB3.out.cell (p := ⟨bl, off + k * 3 + 1, none⟩) hbl).trans C1.out; have hd2 := (HB3.out.cell (p := ⟨bl, off + k * 3 + 2, none⟩) hbl).trans C2.out; clear hm3 hg3))
          clear d1 d2 HT
          by_cases hz : R.1 = 0
          · have hTT := HST.out hz
            have HTT := Lib.hid hTT
            clear hTT HST HREST
            obtain ⟨R1, R2⟩ := R
            dsimp only at hz
            subst hz
            have e0 : w3.cell? ⟨bl, off + k * 3, none⟩ = some (.int .u8 q0) := (HB3.out.cell (p := ⟨bl, off + k * 3, none⟩) hbl).trans C0.out
            have hT100 : T.length ≤ 100 := by omega
            have hw3 : w.heap.size ≤ w3.heap.size := HB3.out.size
            have hmb3 := HM3.out.lt
            go_wp2_with (at_builtin; go_must (refine wpList_append_own _ rfl (.tmp 52) (.tmp 57) 34 rfl (mb + 1) 40 i0 (.agg #[.int .u8 0, .int .i64 0, .int .i64 0]) 3 24 Try.underlying34 hi hz0 hz1 hz2 rfl (by decide) (.slice aoT T.length capT) T.length (encA T) rfl (O3.out.alloc _) ⟨w3.heap.size, 0, none⟩ 1 1 (encA [(q0, q1, q2)]) rfl rfl (Blk.news (Blk.newAt (w := w3) 40 (encA [(q0, q1, q2)]) (by simp))) (encA_one _) (by unfold maxLen; omega) (by omega) (by simp; omega) ?_; intro v1 w4 hown4 hgrow4 _))
            rw [← encA_append] at hown4
            have HM4 := (HM3.out.below ((Below.refl _ _).alloc (Nat.le_refl _) (.cells (encA [(q0, q1, q2)]).toArray 40))).ownKept (O3.out.alloc _) (by decide) (by decide) hgrow4
            have HB4 := below_own (base := mb + 1) (HB3.out.alloc HB3.out.size (.cells (encA [(q0, q1, q2)]).toArray 40)) (O3.out.alloc _) hgrow4 (by simp; omega) (by omega)
            go_roundw
            case rel => exact ⟨k + 1, R2, T ++ [(q0, q1, q2)], by omega, by go_num, Lib.hid HM4, HTT, by simp; omega, Lib.hid (by rw [List.length_append]; exact hown4), Lib.hid HB4⟩
            case measure => simp [intOf]; omega
          · have hz1 : (R.1 == 0) = false := by simpa using hz
            have e2 := HREST.out hz
            rw [e2] at HM3
            go_wp2_with fail
            go_roundw
            case rel => exact ⟨k + 1, rs, T, by omega, by go_num, HM3, hT, by omega, O3, HB3⟩
            case measure => simp [intOf]; omega
        · have hkn' : k = n := by omega
          subst hkn'
          obtain ⟨aoT, capT, rfl, hrT⟩ := RSl.of_owns hown.out
          have hmT : ∀ t ∈ T, May 60 t.2.1 t.2.2 := hT.out.may
          have hwl := hb.out.size
          have HRT := Lib.hid hrT
          obtain ⟨wo, rfl⟩ : ∃ wo : World, wo = wr := ⟨_, rfl⟩
          clear hown hrT hmT
          go_wp2_with fail
          refine (new_yes 60 wo (by omega) (by omega)).mono ?_
          rintro e w5 ⟨rfl, hm5, hb5⟩
          obtain ⟨B, hB⟩ : ∃ B, B = wo.heap.size := ⟨_, rfl⟩
          rw [← hB] at hm5 hb5 hwl ⊢
          have HMO := Lib.hid hm.out
          have HMB := Lib.hid hm5
          have HB5 := Lib.hid hb5
          have HBB := Lib.hid hB
          clear hm5 hb5 hB hm
          go_wp2_with fail
          go_loopw [11] (fun i wr => ∃ (j : Nat) (ru : List (Nat × Nat)), j ≤ T.length ∧ i = .int .i64 j ∧ Hid (IsMap wr B 60 ru) ∧ Hid (RotUs T c j ru) ∧ Hid (Below B wo wr)) (fun i _ => T.length - (intOf i).toNat)
          case atStart => exact ⟨0, [], by omega, rfl, HMB, Lib.hid (fun x => by simp [Us]), HB5⟩
          case round =>
            obtain ⟨j, ru, hj, rfl, hmu, hru, hbu⟩ := hrel
            have hBw : B ≤ wr.heap.size := by have h1 := hbu.out.size; have h2 := HBB.out; omega
            by_cases hjm : j < T.length
            · have hlt : rot T.length c j < T.length := rot_lt (by omega)
              have hrs := rot_step hT.out hmu.out.2.2.1 hjm hru.out
              obtain ⟨p, hp⟩ : ∃ p, p = rot T.length c j := ⟨_, rfl⟩
              have hmod : ((j : Int) + (c : Int)).tmod (T.length : Int) = (p : Int) := by
                rw [hp]; unfold rot
                rw [show (j : Int) + (c : Int) = ((j + c : Nat) : Int) by omega]
                exact (Int.ofNat_tmod _ _).symm
              rw [← hp] at hlt hrs
              obtain ⟨bl, off, rfl, hbl, hc⟩ := HRT.out.2.2.2.2 (by omega)
              obtain ⟨e0, e1, e2⟩ := encA_get T p hlt
              obtain ⟨q, hq⟩ : ∃ q, q = T.getD p (0, 0, 0) := ⟨_, rfl⟩
              rw [← hq] at e0 e1 e2 hrs
              obtain ⟨q0, q1, q2⟩ := q
              dsimp only at e0 e1 e2 hrs
              rw [← HBB.out] at hbl
              have d0 : wr.cell? ⟨bl, off + p * 3, none⟩ = some (.int .u8 q0) := by rw [hbu.out.cell (p := ⟨bl, _, none⟩) hbl, hc _ (by omega), e0]
              have d1 : wr.cell? ⟨bl, off + p * 3 + 1, none⟩ = some (.int .i64 q1) := by rw [Nat.add_assoc, hbu.out.cell (p := ⟨bl, _, none⟩) hbl, hc _ (by omega), e1]
              have d2 : wr.cell? ⟨bl, off + p * 3 + 2, none⟩ = some (.int .i64 q2) := by rw [Nat.add_assoc, hbu.out.cell (p := ⟨bl, _, none⟩) hbl, hc _ (by omega), e2]
              have HRS := Lib.hid hrs
              have hw1 : IntKind.i64.wrap ((j : Int) + (c : Int)) = (j : Int) + (c : Int) := IntWalk.i64_in _ (by omega)
              have hT0 : ((T.length : Int) == 0) = false := beq_eq_false_iff_ne.2 (by omega)
              have hp1 : (0 : Int) ≤ (p : Int) := by omega
              clear hc e0 e1 e2 hq hrs hp
              go_wp2_with fail
              refine (take_any B 60 ru q1 q2 _ (hmu.out.below ((Below.refl _ _).alloc (Nat.le_refl _) _))).mono ?_
              rintro e w6 ⟨rfl, hm6, hg6⟩
              rw [HRS.out.1]
              have HM6 := Lib.hid hm6
              have HB6 := Lib.hid ((hbu.out.alloc hBw _).grown hg6 (by simp; omega) (fun j hj => by simp only [Option.some.injEq] at hj; omega))
              clear hm6 hg6
              go_wp2_with fail
              go_roundw
              case rel => exact ⟨j + 1, _, by omega, by go_num, HM6, Lib.hid HRS.out.2, HB6⟩
              case measure => simp [intOf]; omega
            · have hj' : j = T.length := by omega
              subst hj'
              have hruT := rot_all hT.out HMO.out.2.2.1 hmu.out.2.2.1 hru.out
              rw [hruT] at hmu
              have hma := HMO.out.below (by rw [← HBB.out]; exact hbu.out)
              have hlr := good_len hma.2.2.1
              clear hruT hru
              obtain ⟨wp, rfl⟩ : ∃ wp : World, wp = wr := ⟨_, rfl⟩
              go_wp2_with fail
              refine (runs_any mb 60 rs wp hma).mono ?_
              rintro e w6 ⟨v1, rfl, hown1, hb6⟩
              obtain ⟨ao1, cap1, rfl, hr1⟩ := RSl.of_owns hown1
              have hma6 := hma.below hb6
              have hmu6 := hmu.out.below hb6
              have HB6 := Lib.hid (hb.out.trans ((hbu.out.trans (hb6.mono hBw)).mono hwl))
              clear hown1 hb6 hma hmu
              go_wp2_with fail
              refine (runs_any B 60 rs w6 hmu6).mono ?_
              rintro e w7 ⟨v2, rfl, hown2, hb7⟩
              obtain ⟨ao2, cap2, rfl, hr2⟩ := RSl.of_owns hown2
              have HR1 := Lib.hid (hr1.below hb7)
              have HR2 := Lib.hid hr2
              have HA7 := Lib.hid (hma6.below hb7)
              have HU7 := Lib.hid (hmu6.below hb7)
              have HB7 := Lib.hid (HB6.out.trans (hb7.mono HB6.out.size))
              clear hown2 hb7 hma6 hmu6 hr1 hr2 hw2
              go_wp2_with fail
              go_loopw [15] (fun i wr => ∃ j : Nat, j ≤ rs.length ∧ i = .int .i64 j ∧ Hid (Below w7.heap.size w7 wr)) (fun i _ => rs.length - (intOf i).toNat)
              case atStart => exact ⟨0, by omega, rfl, Lib.hid (Below.refl _ _)⟩
              case round =>
                obtain ⟨j, hj, rfl, hbr⟩ := hrel
                by_cases hjn : j < rs.length
                · obtain ⟨b1, off1, rfl, hb1, hc1⟩ := HR1.out.2.2.2.2 (by omega)
                  obtain ⟨b2, off2, rfl, hb2, hc2⟩ := HR2.out.2.2.2.2 (by omega)
                  obtain ⟨x, hx⟩ : ∃ x, x = (rs.getD j (0, 0)).1 := ⟨_, rfl⟩
                  obtain ⟨y, hy⟩ : ∃ y, y = (rs.getD j (0, 0)).2 := ⟨_, rfl⟩
                  have c0 : wr.cell? ⟨b1, off1 + j * 2, none⟩ = some (.int .i64 x) := by rw [hbr.out.cell (p := ⟨b1, _, none⟩) hb1, hc1 _ (by omega), (encR_get rs j hjn).1, ← hx]
                  have c1 : wr.cell? ⟨b1, off1 + j * 2 + 1, none⟩ = some (.int .i64 y) := by rw [Nat.add_assoc, hbr.out.cell (p := ⟨b1, _, none⟩) hb1, hc1 _ (by omega), (encR_get rs j hjn).2, ← hy]
                  have c2 : wr.cell? ⟨b2, off2 + j * 2, none⟩ = some (.int .i64 x) := by rw [hbr.out.cell (p := ⟨b2, _, none⟩) hb2, hc2 _ (by omega), (encR_get rs j hjn).1, ← hx]
                  have c3 : wr.cell? ⟨b2, off2 + j * 2 + 1, none⟩ = some (.int .i64 y) := by rw [Nat.add_assoc, hbr.out.cell (p := ⟨b2, _, none⟩) hb2, hc2 _ (by omega), (encR_get rs j hjn).2, ← hy]
                  clear hx hy hc1 hc2
                  go_wp2_with fail
                  go_quiet (fail)
                  go_wp2_with fail
                  go_roundw
                  case rel => exact ⟨j + 1, by omega, by go_num, Lib.hid (below_drewN' hbr.out _)⟩
                  case measure => simp [intOf]; omega
                · have hj' : j = rs.length := by omega
                  subst hj'
                  go_wp2_with fail
                  refine (left_any mb 60 rs wr (HA7.out.below hbr.out)).mono ?_
                  rintro e w8 ⟨rfl, hb8⟩
                  have HB8 := Lib.hid (hbr.out.trans (hb8.mono hbr.out.size))
                  clear hb8
                  go_wp2_with fail
                  refine (left_any B 60 rs w8 (HU7.out.below HB8.out)).mono ?_
                  rintro e w9 ⟨rfl, hb9⟩
                  have HB9 := Lib.hid (HB8.out.trans (hb9.mono HB8.out.size))
                  clear hb9
                  go_wp2_with fail
                  go_ret
                  exact ⟨by first | rfl | simp, HB7.out.trans (HB9.out.mono HB7.out.size)⟩
  · have hd : decide (100 < (n : Int)) = true := by simp; omega
    go_enter Try.func5, Try.ntmps5
    go_wp2_with fail
    refine (awake_any _).mono ?_
    rintro e w1 ⟨rfl, hb1⟩
    go_wp2_with fail
    refine (awake_any _).mono ?_
    rintro e w2 ⟨rfl, hb2⟩
    go_wp2_with fail
    go_ret
    exact ⟨rfl, hb1.trans (hb2.mono hb1.size)⟩
end Go.Proofs.Ytmnhdpojonlfhaa
