/- SpaceCopies, walked. -/
import Derived.Test.YtmnhdpojonlfhaaSpN
import Derived.Test.YtmnhdpojonlfhaaSpB
namespace Go.Proofs.Ytmnhdpojonlfhaa
open Go.RowKit

set_option maxHeartbeats 6400000 in
set_option maxRecDepth 100000 in
theorem copies_any (ao : Option Addr) (n cap : Nat) (zs : List ActT) (bo : Option Addr) (m bcap : Nat) (ys : List ActT) (w : World) (hsl : ASl w ao n cap zs) (hsm : ASl w bo m bcap ys) :
    Calls Try.prog 10 #[.slice ao n cap, .slice bo m bcap] w fun e w' => e = .returned (.bool true) ∧ Below w.heap.size w w' := by
  have hmx := hsl.mx
  have hmy := hsm.mx
  have HSL := Lib.hid hsl
  have HSM := Lib.hid hsm
  clear hsl hsm
  by_cases hn : n ≤ 100
  · have hd : decide (100 < (n : Int)) = false := by simp; omega
    by_cases hm : m ≤ 100
    · have hd2 : decide (100 < (m : Int)) = false := by simp; omega
      go_enter Try.func10, Try.ntmps10
      go_wp2_with fail
      refine (awake_any _).mono ?_
      rintro e w1 ⟨rfl, hb1⟩
      have HB1 := Lib.hid hb1
      clear hb1
      go_wp2_with fail
      refine (new_yes 40 w1 (by omega) (by omega)).mono ?_
      rintro e w2 ⟨rfl, hm2, hb2⟩
      obtain ⟨mb, hmb⟩ : ∃ mb, mb = w1.heap.size := ⟨_, rfl⟩
      rw [← hmb] at hm2 ⊢
      have hmb0 : w.heap.size ≤ mb := by rw [hmb]; exact HB1.out.size
      have HB2 := Lib.hid (HB1.out.trans (hb2.mono HB1.out.size))
      have HM2 := Lib.hid hm2
      clear hmb hm2 hb2
      go_wp2_with fail
      go_loopw [7] (fun i wr => ∃ (k : Nat) (rs : List (Nat × Nat)), k ≤ n ∧ i = .int .i64 k ∧ Hid (IsMap wr mb 40 rs) ∧ Hid (Below w.heap.size w wr)) (fun i _ => n - (intOf i).toNat)
      case atStart => exact ⟨0, [], by omega, rfl, HM2, HB2⟩
      case round =>
        obtain ⟨k, rs, hk, rfl, hm, hb⟩ := hrel
        by_cases hkn : k < n
        · obtain ⟨bl, off, rfl, hbl, hc⟩ := HSL.out.cells (by omega)
          obtain ⟨c0, c1, c2, hok⟩ := hc k hkn
          obtain ⟨q, hq⟩ : ∃ q, q = zs.getD k (0, 0, 0) := ⟨_, rfl⟩
          rw [← hq] at c0 c1 c2 hok
          obtain ⟨q0, q1, q2⟩ := q
          dsimp only at c0 c1 c2
          have d1 : wr.cell? ⟨bl, off + k * 3 + 1, none⟩ = some (.int .i64 q1) := (hb.out.cell (p := ⟨bl, _, none⟩) hbl).trans c1
          have d2 : wr.cell? ⟨bl, off + k * 3 + 2, none⟩ = some (.int .i64 q2) := (hb.out.cell (p := ⟨bl, _, none⟩) hbl).trans c2
          have HT := Lib.hid (take_any mb 40 rs q1 q2 wr.drew (hm.out.below (Below.refl _ _).drew))
          have C1 := Lib.hid c1
          have C2 := Lib.hid c2
          clear c0 c1 c2 hc hq hok
          go_wp2_with fail
          go_region_held3 (fun w' => w'.cell? ⟨bl, off + k * 3 + 1, none⟩ = some (.int .i64 q1) ∧ w'.cell? ⟨bl, off + k * 3 + 2, none⟩ = some (.int .i64 q2)) (go_keep)
            (first
              | (go_at_call 29; refine HT.out.mono ?_; rintro e w3 ⟨rfl, hm3, hg3⟩; have HM3 := Lib.hid hm3; have HB3 := Lib.hid (hb.out.drew.grown hg3 hb.out.drew.size (fun j hj => by simp only [Option.some.injEq] at hj; omega)); have hd1 := (HB3.out.cell (p := ⟨bl, off + k * 3 + 1, none⟩) hbl).trans C1.out; have hd2 := (HB3.out.cell (p := ⟨bl, off + k * 3 + 2, none⟩) hbl).trans C2.out; clear hm3 hg3))
          go_wp2_with fail
          go_roundw
          case rel => exact ⟨k + 1, _, by omega, by go_num, HM3, HB3⟩
          case measure => simp [intOf]; omega
        · have hkn' : k = n := by omega
          subst hkn'
          go_wp2_with fail
          refine (copy_any mb 40 rs wr hm.out).mono ?_
          rintro e w3 ⟨cb, rfl, hcb, hmc, hb3⟩
          have hmbl := hm.out.lt
          have hmb3 := hm.out.below hb3
          have hb30 := hb.out.trans (hb3.mono hb.out.size)
          go_wp2_with fail
          refine (left_any mb 40 rs w3 hmb3).mono ?_
          rintro e w4 ⟨rfl, hb4⟩
          have HMA := Lib.hid (hmb3.below hb4)
          have HMC := Lib.hid (hmc.below hb4)
          have HB4 := Lib.hid (hb30.trans (hb4.mono hb30.size))
          have hcb0 : w.heap.size ≤ cb := Nat.le_trans hb.out.size hcb
          have hne : mb ≠ cb := by omega
          clear hmb3 hmc hb3 hb4 hb30 hcb hmbl hm hb
          obtain ⟨wo, rfl⟩ : ∃ wo : World, wo = wr := ⟨_, rfl⟩
          go_wp2_with fail
          go_loopw [10] (fun i wr => ∃ (k : Nat) (ru : List (Nat × Nat)), k ≤ m ∧ i = .int .i64 k ∧ Hid (IsMap wr mb 40 rs) ∧ Hid (IsMap wr cb 40 ru) ∧ Hid (Below w.heap.size w wr)) (fun i _ => m - (intOf i).toNat)
          case atStart => exact ⟨0, _, by omega, rfl, HMA, HMC, HB4⟩
          case round =>
            obtain ⟨j, ru, hj, rfl, hma, hmc, hb⟩ := hrel
            by_cases hjm : j < m
            · obtain ⟨bl, off, rfl, hbl, hc⟩ := HSM.out.cells (by omega)
              obtain ⟨c0, c1, c2, hok⟩ := hc j hjm
              obtain ⟨q, hq⟩ : ∃ q, q = ys.getD j (0, 0, 0) := ⟨_, rfl⟩
              rw [← hq] at c0 c1 c2 hok
              obtain ⟨q0, q1, q2⟩ := q
              dsimp only at c0 c1 c2
              have d1 : wr.cell? ⟨bl, off + j * 3 + 1, none⟩ = some (.int .i64 q1) := (hb.out.cell (p := ⟨bl, _, none⟩) hbl).trans c1
              have d2 : wr.cell? ⟨bl, off + j * 3 + 2, none⟩ = some (.int .i64 q2) := (hb.out.cell (p := ⟨bl, _, none⟩) hbl).trans c2
              have HT := Lib.hid (take_any cb 40 ru q1 q2 wr.drew (hmc.out.below (Below.refl _ _).drew))
              have C1 := Lib.hid c1
              have C2 := Lib.hid c2
              obtain ⟨vc, hbc⟩ : ∃ v, Blk wr cb 120 [.int .i64 (40 : Nat), v] := by obtain ⟨_, _, _, _, v, h5, _⟩ := hmc.out; exact ⟨v, h5⟩
              have HBC := Lib.hid hbc
              clear c0 c1 c2 hc hq hok hbc
              go_wp2_with fail
              go_region_held3 (fun w' => w'.cell? ⟨bl, off + j * 3 + 1, none⟩ = some (.int .i64 q1) ∧ w'.cell? ⟨bl, off + j * 3 + 2, none⟩ = some (.int .i64 q2)) (go_keep)
                (first
                  | (go_at_call 29; refine HT.out.mono ?_; rintro e w5 ⟨rfl, hm5, hg5⟩; have HM5 := Lib.hid hm5; have HB5 := Lib.hid (hb.out.drew.grown hg5 hb.out.drew.size (fun j hj => by simp only [Option.some.injEq] at hj; omega)); have HA5 := Lib.hid ((hma.out.below (Below.refl _ _).drew).other hg5 HBC.out.drew hne); have hd1 := (HB5.out.cell (p := ⟨bl, off + j * 3 + 1, none⟩) hbl).trans C1.out; have hd2 := (HB5.out.cell (p := ⟨bl, off + j * 3 + 2, none⟩) hbl).trans C2.out; clear hm5 hg5))
              obtain ⟨ruT, hruT⟩ : ∃ ruT, ruT = (takeS 40 ru q1 q2).2 := ⟨_, rfl⟩
              rw [← hruT] at HM5
              have HF := Lib.hid (free_any cb 40 ruT q2 q1 w5.drew (HM5.out.below (Below.refl _ _).drew))
              obtain ⟨vd, hbd⟩ : ∃ v, Blk w5 cb 120 [.int .i64 (40 : Nat), v] := by obtain ⟨_, _, _, _, v, h5, _⟩ := HM5.out; exact ⟨v, h5⟩
              have HBD := Lib.hid hbd
              have E1 : w5.cell? ⟨bl, off + j * 3 + 1, none⟩ = some (.int .i64 q1) := (HB5.out.cell (p := ⟨bl, off + j * 3 + 1, none⟩) hbl).trans C1.out
              have E2 : w5.cell? ⟨bl, off + j * 3 + 2, none⟩ = some (.int .i64 q2) := (HB5.out.cell (p := ⟨bl, off + j * 3 + 2, none⟩) hbl).trans C2.out
              clear hruT hbd d1 d2
              go_wp2_with fail
              go_region_held3 (fun w' => w'.cell? ⟨bl, off + j * 3 + 1, none⟩ = some (.int .i64 q1) ∧ w'.cell? ⟨bl, off + j * 3 + 2, none⟩ = some (.int .i64 q2)) (go_keep)
                (first
                  | (go_at_call 33; refine HF.out.mono ?_; rintro e w6 ⟨rfl, hm6, hg6⟩; have HM6 := Lib.hid hm6; have HB6 := Lib.hid (HB5.out.drew.grown hg6 HB5.out.drew.size (fun j hj => by simp only [Option.some.injEq] at hj; omega)); have HA6 := Lib.hid ((HA5.out.below (Below.refl _ _).drew).other hg6 HBD.out.drew hne); have hd3 := (HB6.out.cell (p := ⟨bl, off + j * 3 + 1, none⟩) hbl).trans C1.out; have hd4 := (HB6.out.cell (p := ⟨bl, off + j * 3 + 2, none⟩) hbl).trans C2.out; clear hm6 hg6))
              go_wp2_with fail
              go_roundw
              case rel => exact ⟨j + 1, _, by omega, by go_num, HA6, HM6, HB6⟩
              case measure => simp [intOf]; omega
            · have hjm' : j = m := by omega
              subst hjm'
              go_wp2_with fail
              refine (find_nil 1 0 _).mono ?_
              rintro e w5 ⟨rfl, rfl⟩
              go_wp2_with fail
              refine (left_any mb 40 rs wr hma.out).mono ?_
              rintro e w6 ⟨rfl, hb6⟩
              have HB6 := Lib.hid (hb.out.trans (hb6.mono hb.out.size))
              have HMC6 := Lib.hid (hmc.out.below hb6)
              clear hb6
              go_wp2_with fail
              refine (size_any cb 40 ru w6 HMC6.out).mono ?_
              rintro e w7 ⟨rfl, rfl⟩
              go_wp2_with fail
              refine (take_nil 0 1 _).mono ?_
              rintro e w8 ⟨rfl, rfl⟩
              go_wp2_with fail
              refine (free_nil 0 1 _).mono ?_
              rintro e w9 ⟨rfl, rfl⟩
              go_wp2_with fail
              refine (left_nil _).mono ?_
              rintro e w10 ⟨rfl, rfl⟩
              go_wp2_with fail
              refine (size_nil _).mono ?_
              rintro e w11 ⟨rfl, rfl⟩
              go_wp2_with fail
              refine (runs_nil _).mono ?_
              rintro e w12 ⟨rfl, rfl⟩
              go_wp2_with fail
              refine (copy_nil _).mono ?_
              rintro e w13 ⟨rfl, rfl⟩
              go_wp2_with fail
              go_ret
              exact ⟨rfl, HB6.out⟩
    · have hd2 : decide (100 < (m : Int)) = true := by simp; omega
      go_enter Try.func10, Try.ntmps10
      go_wp2_with fail
      refine (awake_any _).mono ?_
      rintro e w1 ⟨rfl, hb1⟩
      go_wp2_with fail
      refine (awake_any _).mono ?_
      rintro e w2 ⟨rfl, hb2⟩
      go_wp2_with fail
      go_ret
      exact ⟨rfl, hb1.trans (hb2.mono hb1.size)⟩
  · have hd : decide (100 < (n : Int)) = true := by simp; omega
    go_enter Try.func10, Try.ntmps10
    go_wp2_with fail
    refine (awake_any _).mono ?_
    rintro e w1 ⟨rfl, hb1⟩
    go_wp2_with fail
    refine (awake_any _).mono ?_
    rintro e w2 ⟨rfl, hb2⟩
    go_wp2_with fail
    go_ret
    exact ⟨rfl, hb1.trans (hb2.mono hb1.size)⟩
end Go.Proofs.Ytmnhdpojonlfhaa
