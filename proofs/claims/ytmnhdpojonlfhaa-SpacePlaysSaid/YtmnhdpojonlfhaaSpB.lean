/- SpaceBack, walked. -/
import Derived.Test.YtmnhdpojonlfhaaSpA
import Derived.Test.YtmnhdpojonlfhaaSpP
namespace Go.Proofs.Ytmnhdpojonlfhaa
open Go.RowKit

theorem owns_grown {w w' : World} {base e size n mb : Nat} {v : Value} {xs : List Value} (h : w.ownsRow base e size v n xs) (hg : w.grownBy w' (some mb)) (hb : mb < base) : w'.ownsRow base e size v n xs := by
  refine h.kept hg ?_
  rcases h.2 with ⟨rfl, _⟩ | ⟨g, cap, cur, rfl, hbg, hh, _⟩
  · exact .inl rfl
  · refine .inr ?_
    intro e
    simp only [Value.ownBlock, Option.some.injEq] at e
    omega

set_option maxHeartbeats 3200000 in
set_option maxRecDepth 100000 in
theorem back_any (ao : Option Addr) (n cap : Nat) (zs : List ActT) (o : Nat) (a m : Int) (w : World) (hsl : ASl w ao n cap zs) (_hx : ActOk (o, a, m)) :
    Calls Try.prog 7 #[.slice ao n cap, .agg #[.int .u8 o, .int .i64 a, .int .i64 m]] w fun e w' => e = .returned (.bool true) ∧ Below w.heap.size w w' := by
  have hmx := hsl.mx
  obtain ⟨w0, hw0⟩ : ∃ w0, w0 = w.alloc (.cells #[.int .u8 o, .int .i64 a, .int .i64 m] 40) := ⟨_, rfl⟩
  have hb0 : Below w.heap.size w w0 := by rw [hw0]; exact (Below.refl _ _).alloc (Nat.le_refl _) _
  have hx1 : w0.cell? ⟨w.heap.size, 1, none⟩ = some (.int .i64 a) := by rw [hw0, World.cell?_alloc_at _ _ _ _ rfl]; rfl
  have hx2 : w0.cell? ⟨w.heap.size, 2, none⟩ = some (.int .i64 m) := by rw [hw0, World.cell?_alloc_at _ _ _ _ rfl]; rfl
  have HW0 := Lib.hid hw0
  have HSL := Lib.hid (hsl.below hb0)
  have HB0 := Lib.hid hb0
  clear hsl hw0 hb0
  by_cases hn : n ≤ 100
  · have hd : decide (100 < (n : Int)) = false := by simp; omega
    go_enter Try.func7, Try.ntmps7
    go_wp2_with fail
    rw [← HW0.out]
    refine (awake_any _).mono ?_
    rintro e w1 ⟨rfl, hb1⟩
    have HB1 := Lib.hid hb1
    clear hb1
    go_wp2_with fail
    refine (new_yes 60 w1 (by omega) (by omega)).mono ?_
    rintro e w2 ⟨rfl, hm2, hb2⟩
    obtain ⟨mb, hmb⟩ : ∃ mb, mb = w1.heap.size := ⟨_, rfl⟩
    rw [← hmb] at hm2 ⊢
    have hmb0 : w0.heap.size ≤ mb := by rw [hmb]; exact HB1.out.size
    have HB2 := Lib.hid (HB1.out.trans (hb2.mono HB1.out.size))
    have HM2 := Lib.hid hm2
    clear hmb hm2 hb2
    go_wp2_with fail
    go_loopw [7] (fun i wr => ∃ (k : Nat) (rs : List (Nat × Nat)), k ≤ n ∧ i = .int .i64 k ∧ Hid (IsMap wr mb 60 rs) ∧ Hid (Below w0.heap.size w0 wr)) (fun i _ => n - (intOf i).toNat)
    case atStart => exact ⟨0, [], by omega, rfl, HM2, HB2⟩
    case round =>
      obtain ⟨k, rs, hk, rfl, hm, hb⟩ := hrel
      by_cases hkn : k < n
      · obtain ⟨bl, off, rfl, hbl, hc⟩ := HSL.out.cells (by omega)
        obtain ⟨c0, c1, c2, hok⟩ := hc k hkn
        obtain ⟨q, hq⟩ : ∃ q, q = zs.getD k (0, 0, 0) := ⟨_, rfl⟩
        rw [← hq] at c0 c1 c2 hok
        obtain ⟨q0, q1, q2⟩ := q
        dsimp only at c0 c1 c2
        have d1 : wr.cell? ⟨bl, off + k * 3 + 1, none⟩ = some (.int .i64 q1) := (hb.out.cell (p := ⟨bl, _, none⟩) hbl).trans c1
        have d2 : wr.cell? ⟨bl, off + k * 3 + 2, none⟩ = some (.int .i64 q2) := (hb.out.cell (p := ⟨bl, _, none⟩) hbl).trans c2
        have HT := Lib.hid (take_any mb 60 rs q1 q2 wr.drew (hm.out.below (Below.refl _ _).drew))
        have C1 := Lib.hid c1
        have C2 := Lib.hid c2
        clear c0 c1 c2 hc hq hok hx1 hx2
        go_wp2_with fail
        go_region_held3 (fun w' => w'.cell? ⟨bl, off + k * 3 + 1, none⟩ = some (.int .i64 q1) ∧ w'.cell? ⟨bl, off + k * 3 + 2, none⟩ = some (.int .i64 q2)) (go_keep)
          (first
            | (go_at_call 29; refine HT.out.mono ?_; rintro e w3 ⟨rfl, hm3, hg3⟩; have HM3 := Lib.hid hm3; have HB3 := Lib.hid (hb.out.drew.grown hg3 hb.out.drew.size (fun j hj => by simp only [Option.some.injEq] at hj; omega)); have hd1 := (HB3.out.cell (p := ⟨bl, off + k * 3 + 1, none⟩) hbl).trans C1.out; have hd2 := (HB3.out.cell (p := ⟨bl, off + k * 3 + 2, none⟩) hbl).trans C2.out; clear hm3 hg3))
        go_wp2_with fail
        go_roundw
        case rel => exact ⟨k + 1, _, by omega, by go_num, HM3, HB3⟩
        case measure => simp [intOf]; omega
      · have hkn' : k = n := by omega
        subst hkn'
        go_wp2_with fail
        refine (runs_any mb 60 rs wr hm.out).mono ?_
        rintro e w3 ⟨v1, rfl, hown1, hb3⟩
        obtain ⟨ao1, cap1, rfl, hr1⟩ := RSl.of_owns hown1
        have O3 := Lib.hid hown1
        have hml := hm.out.lt
        have HM3 := Lib.hid (hm.out.below hb3)
        have HB3 := Lib.hid (hb.out.trans (hb3.mono hb.out.size))
        have hlr := good_len hm.out.2.2.1
        clear hown1 hr1 hb3 hm hb
        have hx0 := block_lt_of_cell hx1
        have y1 : w3.cell? ⟨w.heap.size, 1, none⟩ = some (.int .i64 a) := (HB3.out.cell (p := ⟨w.heap.size, 1, none⟩) hx0).trans hx1
        have y2 : w3.cell? ⟨w.heap.size, 2, none⟩ = some (.int .i64 m) := (HB3.out.cell (p := ⟨w.heap.size, 2, none⟩) hx0).trans hx2
        go_wp2_with fail
        have hgood := HM3.out.2.2.1
        have HT := Lib.hid (take_any mb 60 rs a m w3 HM3.out)
        obtain ⟨T, hT⟩ : ∃ T, T = takeS 60 rs a m := ⟨_, rfl⟩
        rw [← hT] at HT
        by_cases hz : T.1 = 0
        · have hF := take_free hgood a m (by rw [← hT]; exact hz)
          rw [← hT] at hF
          obtain ⟨T1, T2⟩ := T
          dsimp only at hz
          subst hz
          dsimp only at hF
          have HF := Lib.hid hF
          have HGood := Lib.hid hgood
          clear hT hF hgood
          refine HT.out.mono ?_
          rintro e w4 ⟨rfl, hm4, hg4⟩
          have HB4 := Lib.hid (HB3.out.grown hg4 HB3.out.size (fun j hj => by simp only [Option.some.injEq] at hj; omega))
          have HM4 := Lib.hid hm4
          have O4 := Lib.hid (owns_grown O3.out hg4 hml)
          have z1 : w4.cell? ⟨w.heap.size, 1, none⟩ = some (.int .i64 a) := (HB4.out.cell (p := ⟨w.heap.size, 1, none⟩) hx0).trans hx1
          have z2 : w4.cell? ⟨w.heap.size, 2, none⟩ = some (.int .i64 m) := (HB4.out.cell (p := ⟨w.heap.size, 2, none⟩) hx0).trans hx2
          clear hm4 hg4
          go_wp2_with fail
          refine (free_any mb 60 T2 a m w4 HM4.out).mono ?_
          rintro e wt ⟨rfl, hmt, hgt⟩
          rw [HF.out] at hmt ⊢
          have HMT := Lib.hid hmt
          have OT := Lib.hid (owns_grown O4.out hgt hml)
          have HBT := Lib.hid (HB4.out.grown hgt HB4.out.size (fun j hj => by simp only [Option.some.injEq] at hj; omega))
          clear hmt hgt
          go_wp2_with fail
          refine (runs_any mb 60 rs wt HMT.out).mono ?_
          rintro e w6 ⟨v2, rfl, hown2, hb6⟩
          obtain ⟨ao2, cap2, rfl, hr2⟩ := RSl.of_owns hown2
          have HR2 := Lib.hid hr2
          have HB6 := Lib.hid (HBT.out.trans (hb6.mono HBT.out.size))
          have HR1 := Lib.hid (rsl_of_owns (owns_below OT.out hb6))
          clear hown2 hr2 hb6
          obtain ⟨wo, rfl⟩ : ∃ wo : World, wo = wr := ⟨_, rfl⟩
          clear y1 y2 hx1 hx2 hx0 hml
          go_wp2_with fail
          go_loopw [10] (fun i wr => ∃ j : Nat, j ≤ rs.length ∧ i = .int .i64 j ∧ Hid (Below w6.heap.size w6 wr)) (fun i _ => rs.length - (intOf i).toNat)
          case atStart => exact ⟨0, by omega, rfl, Lib.hid (Below.refl _ _)⟩
          case round =>
            obtain ⟨j, hj, rfl, hbr⟩ := hrel
            by_cases hjn : j < rs.length
            · obtain ⟨b1, off1, rfl, hb1, hc1⟩ := HR1.out.2.2.2.2 (by omega)
              obtain ⟨b2, off2, rfl, hb2, hc2⟩ := HR2.out.2.2.2.2 (by omega)
              obtain ⟨x, hx⟩ : ∃ x, x = (rs.getD j (0, 0)).1 := ⟨_, rfl⟩
              obtain ⟨y, hy⟩ : ∃ y, y = (rs.getD j (0, 0)).2 := ⟨_, rfl⟩
              have c0 : wr.cell? ⟨b1, off1 + j * 2, none⟩ = some (.int .i64 x) := by rw [hbr.out.cell (p := ⟨b1, _, none⟩) hb1, hc1 _ (by omega), (encR_get rs j hjn).1, ← hx]
              have c1 : wr.cell? ⟨b1, off1 + j * 2 + 1, none⟩ = some (.int .i64 y) := by rw [Nat.add_assoc, hbr.out.cell (p := ⟨b1, _, none⟩) hb1, hc1 _ (by omega), (encR_get rs j hjn).2, ← hy]
              have c2 : wr.cell? ⟨b2, off2 + j * 2, none⟩ = some (.int .i64 x) := by rw [hbr.out.cell (p := ⟨b2, _, none⟩) hb2, hc2 _ (by omega), (encR_get rs j hjn).1, ← hx]
              have c3 : wr.cell? ⟨b2, off2 + j * 2 + 1, none⟩ = some (.int .i64 y) := by rw [Nat.add_assoc, hbr.out.cell (p := ⟨b2, _, none⟩) hb2, hc2 _ (by omega), (encR_get rs j hjn).2, ← hy]
              clear hx hy hc1 hc2
              go_wp2_with fail
              go_quiet (fail)
              go_wp2_with fail
              go_roundw
              case rel => exact ⟨j + 1, by omega, by go_num, Lib.hid (below_drewN' hbr.out _)⟩
              case measure => simp [intOf]; omega
            · have hj' : j = rs.length := by omega
              subst hj'
              go_wp2_with fail
              go_ret
              exact ⟨rfl, HB0.out.trans ((HB6.out.trans (hbr.out.mono HB6.out.size)).mono HB0.out.size)⟩
        · have hTr : T = (1, rs) ∨ T = (13, rs) := by
            rw [hT]
            rcases takeS_spec hgood a m with ⟨_, e⟩ | ⟨_, _, e⟩ | ⟨_, _, e, _⟩
            · exact .inl e
            · exact .inr e
            · rw [hT] at hz; exact absurd e hz
          obtain ⟨t1, ht1, hT2⟩ : ∃ t1 : Int, t1 ≠ 0 ∧ T = (t1, rs) := by
            rcases hTr with h | h
            · exact ⟨1, by omega, h⟩
            · exact ⟨13, by omega, h⟩
          clear hT hTr
          subst hT2
          clear hz
          refine HT.out.mono ?_
          rintro e w4 ⟨rfl, hm4, hg4⟩
          have HB4 := Lib.hid (HB3.out.grown hg4 HB3.out.size (fun j hj => by simp only [Option.some.injEq] at hj; omega))
          have HM4 := Lib.hid hm4
          have O4 := Lib.hid (owns_grown O3.out hg4 hml)
          have z1 : w4.cell? ⟨w.heap.size, 1, none⟩ = some (.int .i64 a) := (HB4.out.cell (p := ⟨w.heap.size, 1, none⟩) hx0).trans hx1
          have z2 : w4.cell? ⟨w.heap.size, 2, none⟩ = some (.int .i64 m) := (HB4.out.cell (p := ⟨w.heap.size, 2, none⟩) hx0).trans hx2
          have hc1 : (t1 == 0) = false := by simpa using ht1
          clear hm4 hg4 y1 y2
          go_wp2_with fail
          have HF := Lib.hid (free_any mb 60 rs a m w4 HM4.out)
          obtain ⟨T, hT⟩ : ∃ T, T = freeS 60 rs a m := ⟨_, rfl⟩
          rw [← hT] at HF
          by_cases hz : T.1 = 0
          · have hF := free_take hgood a m (by rw [← hT]; exact hz)
            rw [← hT] at hF
            obtain ⟨T1, T2⟩ := T
            dsimp only at hz
            subst hz
            dsimp only at hF
            have HFF := Lib.hid hF
            clear hT hF hgood
            refine HF.out.mono ?_
            rintro e w5 ⟨rfl, hm5, hg5⟩
            have HB5 := Lib.hid (HB4.out.grown hg5 HB4.out.size (fun j hj => by simp only [Option.some.injEq] at hj; omega))
            have HM5 := Lib.hid hm5
            have O5 := Lib.hid (owns_grown O4.out hg5 hml)
            have y1 : w5.cell? ⟨w.heap.size, 1, none⟩ = some (.int .i64 a) := (HB5.out.cell (p := ⟨w.heap.size, 1, none⟩) hx0).trans hx1
            have y2 : w5.cell? ⟨w.heap.size, 2, none⟩ = some (.int .i64 m) := (HB5.out.cell (p := ⟨w.heap.size, 2, none⟩) hx0).trans hx2
            clear hm5 hg5 z1 z2
            go_wp2_with fail
            refine (take_any mb 60 T2 a m w5 HM5.out).mono ?_
            rintro e wt ⟨rfl, hmt, hgt⟩
            rw [HFF.out] at hmt ⊢
            have HMT := Lib.hid hmt
            have OT := Lib.hid (owns_grown O5.out hgt hml)
            have HBT := Lib.hid (HB5.out.grown hgt HB5.out.size (fun j hj => by simp only [Option.some.injEq] at hj; omega))
            clear hmt hgt
            go_wp2_with fail
            refine (runs_any mb 60 rs wt HMT.out).mono ?_
            rintro e w6 ⟨v2, rfl, hown2, hb6⟩
            obtain ⟨ao2, cap2, rfl, hr2⟩ := RSl.of_owns hown2
            have HR2 := Lib.hid hr2
            have HB6 := Lib.hid (HBT.out.trans (hb6.mono HBT.out.size))
            have HR1 := Lib.hid (rsl_of_owns (owns_below OT.out hb6))
            clear hown2 hr2 hb6
            obtain ⟨wo, rfl⟩ : ∃ wo : World, wo = wr := ⟨_, rfl⟩
            clear y1 y2 hx1 hx2 hx0 hml
            go_wp2_with fail
            go_loopw [10] (fun i wr => ∃ j : Nat, j ≤ rs.length ∧ i = .int .i64 j ∧ Hid (Below w6.heap.size w6 wr)) (fun i _ => rs.length - (intOf i).toNat)
            case atStart => exact ⟨0, by omega, rfl, Lib.hid (Below.refl _ _)⟩
            case round =>
              obtain ⟨j, hj, rfl, hbr⟩ := hrel
              by_cases hjn : j < rs.length
              · obtain ⟨b1, off1, rfl, hb1, hc1⟩ := HR1.out.2.2.2.2 (by omega)
                obtain ⟨b2, off2, rfl, hb2, hc2⟩ := HR2.out.2.2.2.2 (by omega)
                obtain ⟨x, hx⟩ : ∃ x, x = (rs.getD j (0, 0)).1 := ⟨_, rfl⟩
                obtain ⟨y, hy⟩ : ∃ y, y = (rs.getD j (0, 0)).2 := ⟨_, rfl⟩
                have c0 : wr.cell? ⟨b1, off1 + j * 2, none⟩ = some (.int .i64 x) := by rw [hbr.out.cell (p := ⟨b1, _, none⟩) hb1, hc1 _ (by omega), (encR_get rs j hjn).1, ← hx]
                have c1 : wr.cell? ⟨b1, off1 + j * 2 + 1, none⟩ = some (.int .i64 y) := by rw [Nat.add_assoc, hbr.out.cell (p := ⟨b1, _, none⟩) hb1, hc1 _ (by omega), (encR_get rs j hjn).2, ← hy]
                have c2 : wr.cell? ⟨b2, off2 + j * 2, none⟩ = some (.int .i64 x) := by rw [hbr.out.cell (p := ⟨b2, _, none⟩) hb2, hc2 _ (by omega), (encR_get rs j hjn).1, ← hx]
                have c3 : wr.cell? ⟨b2, off2 + j * 2 + 1, none⟩ = some (.int .i64 y) := by rw [Nat.add_assoc, hbr.out.cell (p := ⟨b2, _, none⟩) hb2, hc2 _ (by omega), (encR_get rs j hjn).2, ← hy]
                clear hx hy hc1 hc2
                go_wp2_with fail
                go_quiet (fail)
                go_wp2_with fail
                go_roundw
                case rel => exact ⟨j + 1, by omega, by go_num, Lib.hid (below_drewN' hbr.out _)⟩
                case measure => simp [intOf]; omega
              · have hj' : j = rs.length := by omega
                subst hj'
                go_wp2_with fail
                go_ret
                exact ⟨rfl, HB0.out.trans ((HB6.out.trans (hbr.out.mono HB6.out.size)).mono HB0.out.size)⟩
          · obtain ⟨t2, ht2, hT2⟩ : ∃ t2 : Int, t2 ≠ 0 ∧ T = (t2, rs) := by
              rw [hT] at hz ⊢
              rcases freeS_spec hgood a m with ⟨_, e⟩ | ⟨_, _, e⟩ | ⟨_, _, e, _⟩
              · exact ⟨1, by omega, e⟩
              · exact ⟨7, by omega, e⟩
              · exact absurd e hz
            clear hT
            subst hT2
            clear hz
            refine HF.out.mono ?_
            rintro e w5 ⟨rfl, hm5, hg5⟩
            have HB5 := Lib.hid (HB4.out.grown hg5 HB4.out.size (fun j hj => by simp only [Option.some.injEq] at hj; omega))
            have HM5 := Lib.hid hm5
            have hc2 : (t2 == 0) = false := by simpa using ht2
            clear hm5 hg5 hgood z1 z2
            go_wp2_with fail
            refine (runs_any mb 60 rs w5 HM5.out).mono ?_
            rintro e w6 ⟨v2, rfl, hown2, hb6⟩
            obtain ⟨ao2, cap2, rfl, hr2⟩ := RSl.of_owns hown2
            have HB6 := Lib.hid (HB5.out.trans (hb6.mono HB5.out.size))
            clear hown2 hr2 hb6
            go_wp2_with fail
            go_ret
            exact ⟨by first | rfl | simp, HB0.out.trans (HB6.out.mono HB0.out.size)⟩
  · have hd : decide (100 < (n : Int)) = true := by simp; omega
    go_enter Try.func7, Try.ntmps7
    go_wp2_with fail
    rw [← HW0.out]
    refine (awake_any _).mono ?_
    rintro e w1 ⟨rfl, hb1⟩
    go_wp2_with fail
    refine (awake_any _).mono ?_
    rintro e w2 ⟨rfl, hb2⟩
    go_wp2_with fail
    go_ret
    exact ⟨rfl, HB0.out.trans ((hb1.trans (hb2.mono hb1.size)).mono HB0.out.size)⟩
end Go.Proofs.Ytmnhdpojonlfhaa
