/- The walks of package geom: Sectors, Takes, First. -/
import Derived.Test.YtmnhdpojonlfhaaGeW
namespace Go.Proofs.Ytmnhdpojonlfhaa
open Go.RowKit

theorem gsectors_any (ao : Option Addr) (n cap : Nat) (gs : Gs) (secs i : Int) (w : World) (h : GSl w ao n cap gs) :
    Calls Try.prog 95 #[.agg #[.slice ao n cap, .int .i64 secs], .int .i64 i] w fun e w' => e = .returned (.int .i64 (sectI gs secs i)) ∧ Below w.heap.size w w' := by
  have hl := h.len
  have hmx := h.mx
  have hb0 : Below w.heap.size w (w.alloc (.cells #[.slice ao n cap, .int .i64 secs] 96)) := (Below.refl _ _).alloc (Nat.le_refl _) _
  have hT := ghas_any ao n cap gs secs i (w.alloc (.cells #[.slice ao n cap, .int .i64 secs] 96)) (h.below hb0)
  have hc0 : (w.alloc (.cells #[.slice ao n cap, .int .i64 secs] 96)).cell? ⟨w.heap.size, 0, none⟩ = some (.slice ao n cap) := by rw [World.cell?_alloc_at _ _ _ _ rfl]; rfl
  have hc1 : (w.alloc (.cells #[.slice ao n cap, .int .i64 secs] 96)).cell? ⟨w.heap.size, 1, none⟩ = some (.int .i64 secs) := by rw [World.cell?_alloc_at _ _ _ _ rfl]; rfl
  have HC0 := Lib.hid hc0
  have HC1 := Lib.hid hc1
  have HB0 := Lib.hid hb0
  cases hr : hasB gs secs i with
  | false =>
    rw [hr] at hT
    have HT := Lib.hid hT
    have HR : Hid (sectI gs secs i = 0) := Lib.hid (by unfold sectI; rw [hr]; rfl)
    clear hT hr h hl hb0 hc0 hc1
    go_enter Try.func95, Try.ntmps95
    go_wp2_with fail
    refine HT.out.mono ?_
    rintro e w1 ⟨rfl, hb1⟩
    go_wp2_with fail
    go_ret
    exact ⟨by rw [HR.out]; rfl, HB0.out.trans (hb1.mono (by simp))⟩
  | true =>
    rw [hr] at hT
    have HT := Lib.hid hT
    obtain ⟨hrt, i0, i1⟩ := hasB_spec hr
    obtain ⟨i, rfl⟩ := Int.eq_ofNat_of_zero_le i0
    have hin : i < n := by omega
    obtain ⟨_, _, s1, s2, _⟩ := rightB_spec hrt
    have hg := getD_right hrt (show i < gs.length by omega)
    have HR : Hid (sectI gs secs i = sect (gs.getD i (0, 0)) secs) := Lib.hid (by unfold sectI; rw [if_pos hr]; rfl)
    obtain ⟨b, off, rfl, hb, hc⟩ := h.at_ (by omega)
    obtain ⟨k0, k1⟩ := hc i hin
    obtain ⟨g, hgg⟩ : ∃ g, g = gs.getD i (0, 0) := ⟨_, rfl⟩
    rw [← hgg] at HR hg k0 k1
    obtain ⟨k, x⟩ := g
    dsimp only at hg k0 k1
    have K0 := Lib.hid k0
    have K1 := Lib.hid k1
    have hmb := mul_bd (a := secs - 16) (w := x) (by omega) (by omega) (by omega) (by omega)
    have hm1 := hmb.1
    have hm2 := hmb.2.1
    clear hT hr h hl hb0 hc0 hc1 hc k0 k1 hgg hrt i1 hmb
    go_enter Try.func95, Try.ntmps95
    go_wp2_with fail
    refine HT.out.mono ?_
    rintro e w1 ⟨rfl, hb1⟩
    have B1 := Lib.hid (HB0.out.trans (hb1.mono (by simp)))
    have c0 : w1.cell? ⟨w.heap.size, 0, none⟩ = some (.slice (some ⟨b, off, none⟩) n cap) := by rw [hb1.cell (p := ⟨w.heap.size, 0, none⟩) (by simp)]; exact HC0.out
    have c1 : w1.cell? ⟨w.heap.size, 1, none⟩ = some (.int .i64 secs) := by rw [hb1.cell (p := ⟨w.heap.size, 1, none⟩) (by simp)]; exact HC1.out
    have d0 : w1.cell? ⟨b, off + i * 2, none⟩ = some (.int .i64 k) := (B1.out.cell (p := ⟨b, off + i * 2, none⟩) hb).trans K0.out
    have d1 : w1.cell? ⟨b, off + i * 2 + 1, none⟩ = some (.int .i64 x) := (B1.out.cell (p := ⟨b, off + i * 2 + 1, none⟩) hb).trans K1.out
    clear hb1
    by_cases hk : k = 1
    · have hk1 : (k == 1) = true := by simpa using hk
      have HS : Hid (sect (k, x) secs = (secs - 16) * x) := Lib.hid (by unfold sect; rw [if_pos hk])
      clear hk hg
      go_wp2_with fail
      go_ret
      exact ⟨by rw [HR.out, HS.out]; rfl, B1.out.alloc B1.out.size _⟩
    · have hk1 : (k == 1) = false := by simpa using hk
      have HS : Hid (sect (k, x) secs = secs - 16) := Lib.hid (by unfold sect; rw [if_neg hk])
      clear hk hg
      go_wp2_with fail
      go_ret
      exact ⟨by rw [HR.out, HS.out]; rfl, B1.out.alloc B1.out.size _⟩

set_option maxRecDepth 100000 in
theorem gtakes_any (ao : Option Addr) (n cap : Nat) (gs : Gs) (secs i size : Int) (w : World) (h : GSl w ao n cap gs) :
    Calls Try.prog 116 #[.agg #[.slice ao n cap, .int .i64 secs], .int .i64 i, .int .i64 size] w fun e w' => e = .returned (.int .i64 (takesI gs secs i size)) ∧ Below w.heap.size w w' := by
  have hl := h.len
  have hmx := h.mx
  have hb0 : Below w.heap.size w (w.alloc (.cells #[.slice ao n cap, .int .i64 secs] 96)) := (Below.refl _ _).alloc (Nat.le_refl _) _
  have hT := ghas_any ao n cap gs secs i (w.alloc (.cells #[.slice ao n cap, .int .i64 secs] 96)) (h.below hb0)
  have hc0 : (w.alloc (.cells #[.slice ao n cap, .int .i64 secs] 96)).cell? ⟨w.heap.size, 0, none⟩ = some (.slice ao n cap) := by rw [World.cell?_alloc_at _ _ _ _ rfl]; rfl
  have HC0 := Lib.hid hc0
  have HB0 := Lib.hid hb0
  cases hr : hasB gs secs i with
  | false =>
    rw [hr] at hT
    have HT := Lib.hid hT
    have HR : Hid (takesI gs secs i size = 0) := Lib.hid (by unfold takesI; rw [hr]; simp)
    clear hT hr h hl hb0 hc0
    go_enter Try.func116, Try.ntmps116
    go_wp2_with fail
    refine HT.out.mono ?_
    rintro e w1 ⟨rfl, hb1⟩
    go_wp2_with fail
    go_ret
    exact ⟨by rw [HR.out]; rfl, HB0.out.trans (hb1.mono (by simp))⟩
  | true =>
    rw [hr] at hT
    have HT := Lib.hid hT
    by_cases hs1 : 1 ≤ size
    · by_cases hs2 : size ≤ 4
      · obtain ⟨hrt, i0, i1⟩ := hasB_spec hr
        obtain ⟨i, rfl⟩ := Int.eq_ofNat_of_zero_le i0
        have hin : i < n := by omega
        have hg := getD_right hrt (show i < gs.length by omega)
        have HR : Hid (takesI gs secs i size = takes (gs.getD i (0, 0)) size) := Lib.hid (by unfold takesI; rw [if_pos ⟨hr, hs1, hs2⟩]; rfl)
        obtain ⟨b, off, rfl, hb, hc⟩ := h.at_ (by omega)
        obtain ⟨k0, k1⟩ := hc i hin
        obtain ⟨g, hgg⟩ : ∃ g, g = gs.getD i (0, 0) := ⟨_, rfl⟩
        rw [← hgg] at HR hg k0 k1
        obtain ⟨k, x⟩ := g
        dsimp only at hg k0 k1
        have K0 := Lib.hid k0
        have K1 := Lib.hid k1
        clear hT hr h hl hb0 hc0 hc k0 k1 hgg hrt i1
        go_enter Try.func116, Try.ntmps116
        go_wp2_with fail
        refine HT.out.mono ?_
        rintro e w1 ⟨rfl, hb1⟩
        have B1 := Lib.hid (HB0.out.trans (hb1.mono (by simp)))
        have c0 : w1.cell? ⟨w.heap.size, 0, none⟩ = some (.slice (some ⟨b, off, none⟩) n cap) := by rw [hb1.cell (p := ⟨w.heap.size, 0, none⟩) (by simp)]; exact HC0.out
        have d0 : w1.cell? ⟨b, off + i * 2, none⟩ = some (.int .i64 k) := (B1.out.cell (p := ⟨b, off + i * 2, none⟩) hb).trans K0.out
        have d1 : w1.cell? ⟨b, off + i * 2 + 1, none⟩ = some (.int .i64 x) := (B1.out.cell (p := ⟨b, off + i * 2 + 1, none⟩) hb).trans K1.out
        clear hb1
        by_cases hk : k = 0
        · have hk1 : (k == 0) = true := by simpa using hk
          have HS : Hid (takes (k, x) size = size) := Lib.hid (by unfold takes; rw [if_pos hk])
          clear hk hg
          go_wp2_with fail
          go_ret
          exact ⟨by rw [HR.out, HS.out]; rfl, B1.out.alloc B1.out.size _⟩
        · have hk1 : (k == 0) = false := by simpa using hk
          have HS : Hid (takes (k, x) size = size + (size + x - 2) / (x - 1) + (size + (size + x - 2) / (x - 1)) % 2) := Lib.hid (by unfold takes par_; rw [if_neg hk])
          have hx1 : 3 ≤ x := by omega
          have hx2 : x ≤ 8 := by omega
          have hpb := par_bd hx1 hx2 hs1 hs2
          have hp1 := hpb.1
          have hp2 := hpb.2.1
          clear hk hg hpb
          go_wp2_with fail
          go_ret
          exact ⟨by rw [HR.out, HS.out]; first | rfl | (simp; done), B1.out.alloc B1.out.size _⟩
      · have HR : Hid (takesI gs secs i size = 0) := Lib.hid (by unfold takesI; rw [if_neg (fun h => hs2 h.2.2)])
        clear hT hr h hl hb0 hc0
        go_enter Try.func116, Try.ntmps116
        go_wp2_with fail
        refine HT.out.mono ?_
        rintro e w1 ⟨rfl, hb1⟩
        go_wp2_with fail
        go_ret
        exact ⟨by rw [HR.out]; rfl, HB0.out.trans (hb1.mono (by simp))⟩
    · have HR : Hid (takesI gs secs i size = 0) := Lib.hid (by unfold takesI; rw [if_neg (fun h => hs1 h.2.1)])
      clear hT hr h hl hb0 hc0
      go_enter Try.func116, Try.ntmps116
      go_wp2_with fail
      refine HT.out.mono ?_
      rintro e w1 ⟨rfl, hb1⟩
      go_wp2_with fail
      go_ret
      exact ⟨by rw [HR.out]; rfl, HB0.out.trans (hb1.mono (by simp))⟩
end Go.Proofs.Ytmnhdpojonlfhaa
