/- The walks of geom.First and cols.Of. -/
import Derived.Test.YtmnhdpojonlfhaaPtC
import Derived.Deep.CutBlock
import Derived.Deep.DeepCutAuto
namespace Go.Proofs.Ytmnhdpojonlfhaa
open Go.RowKit
set_option linter.unusedSimpArgs false
attribute [local go_sem ↓] Go.wp_at_zero Go.wp_at_succ

set_option maxRecDepth 100000 in
theorem gfirst_any (ao : Option Addr) (n cap : Nat) (gs : Gs) (secs : Int) (i : Nat) (w : World) (h : GSl w ao n cap gs) (hr : rightB gs secs = true) (hi : i < n) :
    Calls Try.prog 119 #[.agg #[.slice ao n cap, .int .i64 secs], .int .i64 (i : Nat)] w fun e w' => e = .returned (.int .i64 (wsum gs i)) ∧ Below w.heap.size w w' := by
  have hl := h.len
  have hmx := h.mx
  have hn4 := (rightB_spec hr).2.1
  have hb0 : Below w.heap.size w (w.alloc (.cells #[.slice ao n cap, .int .i64 secs] 96)) := (Below.refl _ _).alloc (Nat.le_refl _) _
  have hR0 := Blk.new w 96 [.slice ao n cap, .int .i64 secs]
  have hT := ghas_any ao n cap gs secs i (w.alloc (.cells #[.slice ao n cap, .int .i64 secs] 96)) (h.below hb0)
  rw [hasB_mk hr (by omega) (by omega)] at hT
  have HT := Lib.hid hT
  have HB0 := Lib.hid hb0
  have HR0 := Lib.hid hR0
  obtain ⟨b, off, rfl, hb, hc⟩ := h.at_ (by omega)
  have HC := Lib.hid hc
  have hbd := wsum_bd hr
  have hst := wsum_step gs
  have HBD := Lib.hid hbd
  have HST := Lib.hid hst
  have hgr : ∀ j, j < n → 1 ≤ (gs.getD j (0, 0)).2 ∧ (gs.getD j (0, 0)).2 ≤ 8 := fun j hj => by have := getD_right hr (show j < gs.length by omega); omega
  have HGR := Lib.hid hgr
  have HL := Lib.hid hl
  clear hT hb0 hR0 h hc hbd hst hgr hl hr
  go_enter Try.func119, Try.ntmps119
  go_wp2_with fail
  refine HT.out.mono ?_
  rintro e w1 ⟨rfl, hb1⟩
  have R1 := Lib.hid (HR0.out.below hb1)
  have B1 := Lib.hid (HB0.out.trans (hb1.mono HB0.out.size))
  clear hb1 HT
  have c0 : w1.cell? ⟨w.heap.size, 0, none⟩ = some (.slice (some ⟨b, off, none⟩) n cap) := R1.out.cell 0
  go_wp2_with fail
  go_loop [5, 12] (fun s j => ∃ k : Nat, k ≤ i ∧ j = .int .i64 (k : Nat) ∧ s = .int .i64 (wsum gs k)) (fun _ j => i - (intOf j).toNat)
  case atStart => exact ⟨0, by omega, rfl, rfl⟩
  case round =>
    obtain ⟨k, hk, rfl, rfl⟩ := hrel
    by_cases hki : k < i
    · have hkn : k < n := by omega
      have d1 : w1.cell? ⟨b, off + k * 2 + 1, none⟩ = some (.int .i64 (gs.getD k (0, 0)).2) := (B1.out.cell (p := ⟨b, off + k * 2 + 1, none⟩) hb).trans (HC.out k hkn).2
      have h1 := HBD.out k (by have := HL.out; omega)
      have h2 := HGR.out k hkn
      have h3 := HST.out k (by have := HL.out; omega)
      have HE := Lib.hid h3
      obtain ⟨s, hs⟩ : ∃ s, s = wsum gs k := ⟨_, rfl⟩
      obtain ⟨x, hx⟩ : ∃ x, x = (gs.getD k (0, 0)).2 := ⟨_, rfl⟩
      rw [← hs] at HE h1
      rw [← hx] at HE h2 d1
      obtain ⟨h11, h12⟩ := h1
      have h13 : s ≤ 32 := by have := HL.out; omega
      obtain ⟨h21, h22⟩ := h2
      rw [← hs]
      clear h3 hs hx
      go_wp2_with fail
      go_round
      case rel => exact ⟨k + 1, by omega, by go_num, by rw [HE.out]⟩
      case measure => simp [intOf]; omega
    · obtain rfl : i = k := by omega
      go_wp2_with fail
      go_ret
      exact ⟨rfl, B1.out⟩

/-- the columns of a block -/
def colsL (gs : Gs) (g a size : Nat) : List ColT :=
  if (gs.getD g (0, 0)).1 = 0 then mirL (wsum gs g).toNat a size (gs.getD g (0, 0)).2.toNat else parL (wsum gs g).toNat (gs.getD g (0, 0)).2.toNat a size

set_option maxRecDepth 100000 in
theorem cof_no (ao : Option Addr) (n cap : Nat) (gs : Gs) (secs g a size : Int) (w : World) (h : GSl w ao n cap gs) (ha : I64' a) (hm : mayC gs secs g a size = false) :
    Calls Try.prog 99 #[.agg #[.slice ao n cap, .int .i64 secs], .agg #[.int .i64 g, .int .i64 a], .int .i64 size] w fun e w' => e = .returned (.tuple #[.slice none 0 0, .int .i64 1]) ∧ Below w.heap.size w w' := by
  obtain ⟨w0, hw0⟩ : ∃ w0, w0 = (w.alloc (.cells #[.slice ao n cap, .int .i64 secs] 96)).alloc (.cells #[.int .i64 g, .int .i64 a] 63) := ⟨_, rfl⟩
  have hb0 : Below w.heap.size w w0 := by rw [hw0]; exact ((Below.refl _ _).alloc (Nat.le_refl _) _).alloc (by simp) _
  have hR0 : Blk w0 w.heap.size 96 [.slice ao n cap, .int .i64 secs] := by rw [hw0]; exact (Blk.new w _ _).alloc _
  have hP0 : Blk w0 (w.heap.size + 1) 63 [.int .i64 g, .int .i64 a] := by rw [hw0]; exact Blk.newAt _ _ (by simp)
  have hT := cmay_any ao n cap gs secs g a size w0 (h.below hb0) ha
  rw [hm] at hT
  have HT := Lib.hid hT
  have HB0 := Lib.hid hb0
  have q0 := hR0.cell 0
  have q1 := hR0.cell 1
  have r0 := hP0.cell 0
  have r1 := hP0.cell 1
  clear hT hb0 hR0 hP0 h hm
  go_enter Try.func99, Try.ntmps99
  go_wp2_with fail
  rw [← hw0]
  clear hw0
  go_wp2_with fail
  refine HT.out.mono ?_
  rintro e w1 ⟨rfl, hb1⟩
  go_wp2_with fail
  go_ret2
  exact ⟨rfl, HB0.out.trans (hb1.mono HB0.out.size)⟩

set_option maxRecDepth 100000 in
set_option maxHeartbeats 1600000 in
theorem cof_yes (ao : Option Addr) (n cap : Nat) (gs : Gs) (secs : Int) (g a size : Nat) (w : World) (h : GSl w ao n cap gs) (hm : mayC gs secs g a size = true) :
    Calls Try.prog 99 #[.agg #[.slice ao n cap, .int .i64 secs], .agg #[.int .i64 (g : Nat), .int .i64 (a : Nat)], .int .i64 (size : Nat)] w fun e w' => ∃ v, e = .returned (.tuple #[v, .int .i64 0]) ∧
      w'.ownsRow w.heap.size 180 4 v (colsL gs g a size).length (encC (colsL gs g a size)) ∧ Below w.heap.size w w' := by
  have ms := mayC_spec hm
  have hl := h.len
  have hgn : g < n := by have := ms.2.2.1; omega
  obtain ⟨w0, hw0⟩ : ∃ w0, w0 = (w.alloc (.cells #[.slice ao n cap, .int .i64 secs] 96)).alloc (.cells #[.int .i64 (g : Nat), .int .i64 (a : Nat)] 63) := ⟨_, rfl⟩
  have hb0 : Below w.heap.size w w0 := by rw [hw0]; exact ((Below.refl _ _).alloc (Nat.le_refl _) _).alloc (by simp) _
  have hR0 : Blk w0 w.heap.size 96 [.slice ao n cap, .int .i64 secs] := by rw [hw0]; exact (Blk.new w _ _).alloc _
  have hP0 : Blk w0 (w.heap.size + 1) 63 [.int .i64 (g : Nat), .int .i64 (a : Nat)] := by rw [hw0]; exact Blk.newAt _ _ (by simp)
  have hT := cmay_any ao n cap gs secs (g : Nat) (a : Nat) (size : Nat) w0 (h.below hb0) ⟨by omega, by have := ms.2.2.2.2.2.2.1; omega⟩
  rw [hm] at hT
  have hrt := ms.1
  have hbd := wsum_bd hrt g (by omega)
  have hgr := getD_right hrt (show g < gs.length by omega)
  obtain ⟨b, off, rfl, hb, hc⟩ := h.at_ (by omega)
  obtain ⟨k0, k1⟩ := hc g hgn
  have hFI : ∀ W, Below w0.heap.size w0 W → Calls Try.prog 119 #[.agg #[.slice (some ⟨b, off, none⟩) n cap, .int .i64 secs], .int .i64 (g : Nat)] W fun e w' => e = .returned (.int .i64 (wsum gs g)) ∧ Below W.heap.size W w' := fun W hW => gfirst_any _ n cap gs secs g W ((h.below hb0).below hW) hrt hgn
  have HCO := Lib.hid (show colsL gs g a size = if (gs.getD g (0, 0)).1 = 0 then mirL (wsum gs g).toNat a size (gs.getD g (0, 0)).2.toNat else parL (wsum gs g).toNat (gs.getD g (0, 0)).2.toNat a size from rfl)
  obtain ⟨gx, hgx⟩ : ∃ x, x = gs.getD g (0, 0) := ⟨_, rfl⟩
  rw [← hgx] at HCO k0 k1 hgr
  obtain ⟨k, x⟩ := gx
  obtain ⟨f, hf⟩ : ∃ f, f = wsum gs g := ⟨_, rfl⟩
  rw [← hf] at HCO hbd hFI
  dsimp only at HCO hgr k0 k1
  have hf8 : f ≤ 1000 := by have := hbd.2; have := (rightB_spec hrt).2.1; omega
  obtain ⟨f, rfl⟩ : ∃ f' : Nat, f = f' := ⟨f.toNat, by omega⟩
  obtain ⟨x, rfl⟩ : ∃ x' : Nat, x = x' := ⟨x.toNat, by omega⟩
  have ha : a ≤ 100000 := by have := ms.2.2.2.2.2.2.1; omega
  have hsz : size ≤ 4 := by have := ms.2.2.2.2.1; omega
  have hblt : b < w0.heap.size := Nat.lt_of_lt_of_le hb hb0.size
  have rel : ∀ W, Below w0.heap.size w0 W → W.cell? ⟨w.heap.size, 0, none⟩ = some (.slice (some ⟨b, off, none⟩) n cap) ∧ W.cell? ⟨w.heap.size, 1, none⟩ = some (.int .i64 secs) ∧ W.cell? ⟨w.heap.size + 1, 0, none⟩ = some (.int .i64 (g : Nat)) ∧ W.cell? ⟨w.heap.size + 1, 1, none⟩ = some (.int .i64 (a : Nat)) ∧ W.cell? ⟨b, off + g * 2, none⟩ = some (.int .i64 k) ∧ W.cell? ⟨b, off + g * 2 + 1, none⟩ = some (.int .i64 (x : Nat)) := fun W hW =>
    ⟨(hR0.below hW).cell 0, (hR0.below hW).cell 1, (hP0.below hW).cell 0, (hP0.below hW).cell 1, (hW.cell (p := ⟨b, _, none⟩) hblt).trans ((hb0.cell (p := ⟨b, _, none⟩) hb).trans k0), (hW.cell (p := ⟨b, _, none⟩) hblt).trans ((hb0.cell (p := ⟨b, _, none⟩) hb).trans k1)⟩
  have HT := Lib.hid hT
  have HB0 := Lib.hid hb0
  have HFI := Lib.hid hFI
  have REL := Lib.hid rel
  have q0 := hR0.cell 0
  have q1 := hR0.cell 1
  have r0 := hP0.cell 0
  have r1 := hP0.cell 1
  have hw2 : w.heap.size + 2 ≤ w0.heap.size := by have := hP0.lt; omega
  have hblt1 : w0.heap.size ≤ w0.heap.size := Nat.le_refl _
  clear hT hb0 hR0 hP0 h hm ms hrt hbd hc k0 k1 hFI hgx hf rel hblt1
  go_enter Try.func99, Try.ntmps99
  go_wp2_with fail
  rw [← hw0]
  clear hw0
  go_wp2_with fail
  refine HT.out.mono ?_
  rintro e w1 ⟨rfl, hb1⟩
  have HB1 := Lib.hid hb1
  clear hb1 q0 q1 r0 r1 HT
  go_wp2_with fail
  go_upto_region 3 with fail
  go_cut [8, 9] (fun va vb wx => ∃ gg : Nat, va = .pointer (some ⟨gg, 0, none⟩) ∧ vb = .int .i64 (f : Nat) ∧ Hid (Blk wx gg 140 [.int .i64 k, .int .i64 (x : Nat)]) ∧ Hid (Below w0.heap.size w0 wx))
  case first =>
    obtain ⟨h0, h1, h2, h3, h4, h5⟩ := REL.out w1 HB1.out
    have hm5 := Nat.lt_of_lt_of_le hblt HB1.out.size
    have hm6 := Nat.lt_of_lt_of_le hw2 HB1.out.size
    have hm7 : w1.heap.size ≠ b := Nat.ne_of_gt hm5
    have hm8 : w1.heap.size ≠ w.heap.size := Nat.ne_of_gt (Nat.lt_of_succ_lt hm6)
    have hm9 : w1.heap.size ≠ w.heap.size + 1 := Nat.ne_of_gt hm6
    go_region_held3 (fun w' => w'.cell? ⟨w.heap.size, 0, none⟩ = some (.slice (some ⟨b, off, none⟩) n cap) ∧ w'.cell? ⟨w.heap.size, 1, none⟩ = some (.int .i64 secs) ∧ w'.cell? ⟨w.heap.size + 1, 0, none⟩ = some (.int .i64 (g : Nat)) ∧ w'.cell? ⟨w.heap.size + 1, 1, none⟩ = some (.int .i64 (a : Nat)) ∧ w'.cell? ⟨b, off + g * 2, none⟩ = some (.int .i64 k) ∧ w'.cell? ⟨b, off + g * 2 + 1, none⟩ = some (.int .i64 (x : Nat))) (go_keep)
      (first
        | (go_at_call 119; refine (HFI.out w1.drew HB1.out.drew).mono ?_; rintro e w5 ⟨rfl, hb5⟩; have HB5 := Lib.hid (HB1.out.drew.trans (hb5.mono HB1.out.drew.size)); clear h0 h1 h2 h3 h4 h5; obtain ⟨h0, h1, h2, h3, h4, h5⟩ := REL.out w5 HB5.out; have hn5 := Nat.lt_of_lt_of_le hblt HB5.out.size; have hn6 := Nat.lt_of_lt_of_le hw2 HB5.out.size; have hn7 : w5.heap.size ≠ b := Nat.ne_of_gt hn5; have hn8 : w5.heap.size ≠ w.heap.size := Nat.ne_of_gt (Nat.lt_of_succ_lt hn6); have hn9 : w5.heap.size ≠ w.heap.size + 1 := Nat.ne_of_gt hn6; clear hb5)
        | (go_at_call 119; refine (HFI.out (w1.alloc (.cells #[.int .i64 0, .int .i64 0] 140)).drew (HB1.out.alloc HB1.out.size _).drew).mono ?_; rintro e w5 ⟨rfl, hb5⟩; have hnb : Blk w5 w1.heap.size 140 [.int .i64 0, .int .i64 0] := ((Blk.new w1 140 [.int .i64 0, .int .i64 0]).drew).below hb5; have hnc0 := hnb.cell 0; have hnc1 := hnb.cell 1; have hnf0 := hnb.frozen 0; have hnf1 := hnb.frozen 1; have HB5 := Lib.hid ((HB1.out.alloc HB1.out.size (.cells #[.int .i64 0, .int .i64 0] 140)).drew.trans (hb5.mono (HB1.out.alloc HB1.out.size _).drew.size)); clear h0 h1 h2 h3 h4 h5; obtain ⟨h0, h1, h2, h3, h4, h5⟩ := REL.out w5 HB5.out; clear hb5)
        | (go_at_call 119; refine (HFI.out (w1.alloc (.cells #[.int .i64 k, .int .i64 (x : Nat)] 140)).drew (HB1.out.alloc HB1.out.size _).drew).mono ?_; rintro e w5 ⟨rfl, hb5⟩; have hnb : Blk w5 w1.heap.size 140 [.int .i64 k, .int .i64 (x : Nat)] := ((Blk.new w1 140 [.int .i64 k, .int .i64 (x : Nat)]).drew).below hb5; have HB5 := Lib.hid ((HB1.out.alloc HB1.out.size (.cells #[.int .i64 k, .int .i64 (x : Nat)] 140)).drew.trans (hb5.mono (HB1.out.alloc HB1.out.size _).drew.size)); clear h0 h1 h2 h3 h4 h5; obtain ⟨h0, h1, h2, h3, h4, h5⟩ := REL.out w5 HB5.out; clear hb5))
    all_goals
      go_wp2_with fail
      go_meet
      first
        | exact ⟨w5.heap.size, rfl, rfl, Lib.hid (Blk.new w5 140 [.int .i64 k, .int .i64 (x : Nat)]), Lib.hid (HB5.out.alloc HB5.out.size _)⟩
        | exact ⟨w1.heap.size, rfl, rfl, Lib.hid ((hnb.setCell 0 _).setCell 1 _), Lib.hid ((HB5.out.setCell (p := ⟨w1.heap.size, 0, none⟩) HB1.out.size _).setCell (p := ⟨w1.heap.size, 1, none⟩) HB1.out.size _)⟩
        | exact ⟨w1.heap.size, rfl, rfl, Lib.hid hnb, HB5⟩
  case rest =>
    obtain ⟨gg, rfl, rfl, hG, hB⟩ := hcut
    obtain ⟨h0, h1, h2, h3, h4, h5⟩ := REL.out wc hB.out
    have e0 := hG.out.cell 0
    have e1 := hG.out.cell 1
    have hBB := Lib.hid (HB0.out.trans (hB.out.mono HB0.out.size))
    have hwc : w.heap.size ≤ wc.heap.size := hBB.out.size
    by_cases hk : k = 0
    · have hk1 : (k == 0) = true := by simpa using hk
      have HMI := Lib.hid (mirror_any f x a size wc (by omega) (by omega) ha hsz)
      have HCE := Lib.hid (show colsL gs g a size = mirL f a size x by rw [HCO.out, if_pos hk, Int.toNat_natCast, Int.toNat_natCast])
      clear hk hgr
      go_wp2_with fail
      refine HMI.out.mono ?_
      rintro e w6 ⟨v, rfl, hown, hb6⟩
      have HOW := Lib.hid hown
      have HB6 := Lib.hid (hBB.out.trans (hb6.mono hBB.out.size))
      clear hown hb6
      go_wp2_with fail
      go_ret2
      refine ⟨v, rfl, ?_, HB6.out⟩
      rw [HCE.out]
      exact owns_weaken HOW.out hwc
    · have hk1 : (k == 0) = false := by simpa using hk
      have HMI := Lib.hid (parity_any f x a size wc (by omega) (by omega) (by omega) ha hsz)
      have HCE := Lib.hid (show colsL gs g a size = parL f x a size by rw [HCO.out, if_neg hk, Int.toNat_natCast, Int.toNat_natCast])
      clear hk hgr
      go_wp2_with fail
      refine HMI.out.mono ?_
      rintro e w6 ⟨v, rfl, hown, hb6⟩
      have HOW := Lib.hid hown
      have HB6 := Lib.hid (hBB.out.trans (hb6.mono hBB.out.size))
      clear hown hb6
      go_wp2_with fail
      go_ret2
      refine ⟨v, rfl, ?_, HB6.out⟩
      rw [HCE.out]
      exact owns_weaken HOW.out hwc
end Go.Proofs.Ytmnhdpojonlfhaa
