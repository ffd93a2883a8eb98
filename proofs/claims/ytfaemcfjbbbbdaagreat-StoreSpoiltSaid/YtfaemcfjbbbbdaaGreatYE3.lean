/- Parts of the proof of the statement that the last file of this claim proves: lemmas, without any condition of their own beyond those that each states. -/
import Derived.Test.YtfaemcfjbbbbdaaGreatYE2
import Derived.Deep.CutBlock
import Derived.Deep.DeepCutAuto
import Derived.Test.YtfaemcfjbbbbdaaGreatProg
set_option linter.unusedVariables false
set_option linter.unusedSimpArgs false
set_option linter.unnecessarySimpa false
namespace Go.Proofs.YtfaemcfjbbbbdaaGreat
open Go.RowKit
attribute [local go_sem ↓] Go.wp_at_zero Go.wp_at_succ
set_option maxRecDepth 100000 in
theorem gfirst_any (ao : Option Addr) (n cap : Nat) (gs : Gs) (secs : Int) (i : Nat) (w : World) (h : GSl w ao n cap gs) (hr : rightB gs secs = true) (hi : i < n) :
  Calls Tryz.prog 46 #[.agg #[.slice ao n cap, .int .i64 secs], .int .i64 (i : Nat)] w fun e w' => e = .returned (.int .i64 (wsum gs i)) ∧ Below w.heap.size w w' := by
 have hl := h.len
 have hmx := h.mx
 have hn4 := (rightB_spec hr).2.1
 have hb0 : Below w.heap.size w (w.alloc (.cells #[.slice ao n cap, .int .i64 secs] 24)) := (Below.refl _ _).alloc (Nat.le_refl _) _
 have hR0 := Blk.new w 24 [.slice ao n cap, .int .i64 secs]
 have hT := ghas_any ao n cap gs secs i (w.alloc (.cells #[.slice ao n cap, .int .i64 secs] 24)) (h.below hb0)
 rw [hasB_mk hr (by omega) (by omega)] at hT
 have HT := Lib.hid hT
 have HB0 := Lib.hid hb0
 have HR0 := Lib.hid hR0
 obtain ⟨b, off, rfl, hb, hc⟩ := h.at_ (by omega)
 have HC := Lib.hid hc
 have hbd := wsum_bd hr
 have hst := wsum_step gs
 have HBD := Lib.hid hbd
 have HST := Lib.hid hst
 have hgr : ∀ j, j < n → 1 ≤ (gs.getD j (0, 0)).2 ∧ (gs.getD j (0, 0)).2 ≤ 8 := fun j hj => by have := getD_right hr (show j < gs.length by omega); omega
 have HGR := Lib.hid hgr
 have HL := Lib.hid hl
 clear hT hb0 hR0 h hc hbd hst hgr hl hr
 go_enter Tryz.func46, Tryz.ntmps46
 go_wp2_with fail
 refine HT.out.mono ?_
 rintro e w1 ⟨rfl, hb1⟩
 have R1 := Lib.hid (HR0.out.below hb1)
 have B1 := Lib.hid (HB0.out.trans (hb1.mono HB0.out.size))
 clear hb1 HT
 have c0 : w1.cell? ⟨w.heap.size, 0, none⟩ = some (.slice (some ⟨b, off, none⟩) n cap) := R1.out.cell 0
 go_wp2_with fail
 go_loop [5, 12] (fun s j => ∃ k : Nat, k ≤ i ∧ j = .int .i64 (k : Nat) ∧ s = .int .i64 (wsum gs k)) (fun _ j => i - (intOf j).toNat)
 case atStart => exact ⟨0, by omega, rfl, rfl⟩
 case round =>
  obtain ⟨k, hk, rfl, rfl⟩ := hrel
  by_cases hki : k < i
  ·have hkn : k < n := by omega
   have d1 : w1.cell? ⟨b, off + k * 2 + 1, none⟩ = some (.int .i64 (gs.getD k (0, 0)).2) := (B1.out.cell (p := ⟨b, off + k * 2 + 1, none⟩) hb).trans (HC.out k hkn).2
   have h1 := HBD.out k (by have := HL.out; omega)
   have h2 := HGR.out k hkn
   have h3 := HST.out k (by have := HL.out; omega)
   have HE := Lib.hid h3
   obtain ⟨s, hs⟩ : ∃ s, s = wsum gs k := ⟨_, rfl⟩
   obtain ⟨x, hx⟩ : ∃ x, x = (gs.getD k (0, 0)).2 := ⟨_, rfl⟩
   rw [← hs] at HE h1
   rw [← hx] at HE h2 d1
   obtain ⟨h11, h12⟩ := h1
   have h13 : s ≤ 32 := by have := HL.out; omega
   obtain ⟨h21, h22⟩ := h2
   rw [← hs]
   clear h3 hs hx
   go_wp2_with fail
   go_round
   case rel => exact ⟨k + 1, by omega, by go_num, by rw [HE.out]⟩
   case measure => simp [intOf]; omega
  ·obtain rfl : i = k := by omega
   go_wp2_with fail
   go_ret
   exact ⟨rfl, B1.out⟩
def colsL (gs : Gs) (g a size : Nat) : List ColT :=
 if (gs.getD g (0, 0)).1 = 0 then mirL (wsum gs g).toNat a size (gs.getD g (0, 0)).2.toNat else parL (wsum gs g).toNat (gs.getD g (0, 0)).2.toNat a size
set_option maxRecDepth 100000 in
theorem cof_no (ao : Option Addr) (n cap : Nat) (gs : Gs) (secs g a size : Int) (w : World) (h : GSl w ao n cap gs) (ha : I64' a) (hm : mayC gs secs g a size = false) :
  Calls Tryz.prog 25 #[.agg #[.slice ao n cap, .int .i64 secs], .agg #[.int .i64 g, .int .i64 a], .int .i64 size] w fun e w' => e = .returned (.tuple #[.slice none 0 0, .int .i64 1]) ∧ Below w.heap.size w w' := by
 obtain ⟨w0, hw0⟩ : ∃ w0, w0 = (w.alloc (.cells #[.slice ao n cap, .int .i64 secs] 24)).alloc (.cells #[.int .i64 g, .int .i64 a] 44) := ⟨_, rfl⟩
 have hb0 : Below w.heap.size w w0 := by rw [hw0]; exact ((Below.refl _ _).alloc (Nat.le_refl _) _).alloc (by simp) _
 have hR0 : Blk w0 w.heap.size 24 [.slice ao n cap, .int .i64 secs] := by rw [hw0]; exact (Blk.new w _ _).alloc _
 have hP0 : Blk w0 (w.heap.size + 1) 44 [.int .i64 g, .int .i64 a] := by rw [hw0]; exact Blk.newAt _ _ (by simp)
 have hT := cmay_any ao n cap gs secs g a size w0 (h.below hb0) ha
 rw [hm] at hT
 have HT := Lib.hid hT
 have HB0 := Lib.hid hb0
 have q0 := hR0.cell 0
 have q1 := hR0.cell 1
 have r0 := hP0.cell 0
 have r1 := hP0.cell 1
 clear hT hb0 hR0 hP0 h hm
 go_enter Tryz.func25, Tryz.ntmps25
 go_wp2_with fail
 rw [← hw0]
 clear hw0
 go_wp2_with fail
 refine HT.out.mono ?_
 rintro e w1 ⟨rfl, hb1⟩
 go_wp2_with fail
 go_ret2
 exact ⟨rfl, HB0.out.trans (hb1.mono HB0.out.size)⟩
set_option maxRecDepth 100000 in
set_option maxHeartbeats 1600000 in
theorem cof_yes (ao : Option Addr) (n cap : Nat) (gs : Gs) (secs : Int) (g a size : Nat) (w : World) (h : GSl w ao n cap gs) (hm : mayC gs secs g a size = true) :
  Calls Tryz.prog 25 #[.agg #[.slice ao n cap, .int .i64 secs], .agg #[.int .i64 (g : Nat), .int .i64 (a : Nat)], .int .i64 (size : Nat)] w fun e w' => ∃ v, e = .returned (.tuple #[v, .int .i64 0]) ∧
   w'.ownsRow w.heap.size 78 4 v (colsL gs g a size).length (encC (colsL gs g a size)) ∧ Below w.heap.size w w' := by
 have ms := mayC_spec hm
 have hl := h.len
 have hgn : g < n := by have := ms.2.2.1; omega
 obtain ⟨w0, hw0⟩ : ∃ w0, w0 = (w.alloc (.cells #[.slice ao n cap, .int .i64 secs] 24)).alloc (.cells #[.int .i64 (g : Nat), .int .i64 (a : Nat)] 44) := ⟨_, rfl⟩
 have hb0 : Below w.heap.size w w0 := by rw [hw0]; exact ((Below.refl _ _).alloc (Nat.le_refl _) _).alloc (by simp) _
 have hR0 : Blk w0 w.heap.size 24 [.slice ao n cap, .int .i64 secs] := by rw [hw0]; exact (Blk.new w _ _).alloc _
 have hP0 : Blk w0 (w.heap.size + 1) 44 [.int .i64 (g : Nat), .int .i64 (a : Nat)] := by rw [hw0]; exact Blk.newAt _ _ (by simp)
 have hT := cmay_any ao n cap gs secs (g : Nat) (a : Nat) (size : Nat) w0 (h.below hb0) ⟨by omega, by have := ms.2.2.2.2.2.2.1; omega⟩
 rw [hm] at hT
 have hrt := ms.1
 have hbd := wsum_bd hrt g (by omega)
 have hgr := getD_right hrt (show g < gs.length by omega)
 obtain ⟨b, off, rfl, hb, hc⟩ := h.at_ (by omega)
 obtain ⟨k0, k1⟩ := hc g hgn
 have hFI : ∀ W, Below w0.heap.size w0 W → Calls Tryz.prog 46 #[.agg #[.slice (some ⟨b, off, none⟩) n cap, .int .i64 secs], .int .i64 (g : Nat)] W fun e w' => e = .returned (.int .i64 (wsum gs g)) ∧ Below W.heap.size W w' := fun W hW => gfirst_any _ n cap gs secs g W ((h.below hb0).below hW) hrt hgn
 have HCO := Lib.hid (show colsL gs g a size = if (gs.getD g (0, 0)).1 = 0 then mirL (wsum gs g).toNat a size (gs.getD g (0, 0)).2.toNat else parL (wsum gs g).toNat (gs.getD g (0, 0)).2.toNat a size from rfl)
 obtain ⟨gx, hgx⟩ : ∃ x, x = gs.getD g (0, 0) := ⟨_, rfl⟩
 rw [← hgx] at HCO k0 k1 hgr
 obtain ⟨k, x⟩ := gx
 obtain ⟨f, hf⟩ : ∃ f, f = wsum gs g := ⟨_, rfl⟩
 rw [← hf] at HCO hbd hFI
 dsimp only at HCO hgr k0 k1
 have hf8 : f ≤ 1000 := by have := hbd.2; have := (rightB_spec hrt).2.1; omega
 obtain ⟨f, rfl⟩ : ∃ f' : Nat, f = f' := ⟨f.toNat, by omega⟩
 obtain ⟨x, rfl⟩ : ∃ x' : Nat, x = x' := ⟨x.toNat, by omega⟩
 have ha : a ≤ 100000 := by have := ms.2.2.2.2.2.2.1; omega
 have hsz : size ≤ 4 := by have := ms.2.2.2.2.1; omega
 have hblt : b < w0.heap.size := Nat.lt_of_lt_of_le hb hb0.size
 have rel : ∀ W, Below w0.heap.size w0 W → W.cell? ⟨w.heap.size, 0, none⟩ = some (.slice (some ⟨b, off, none⟩) n cap) ∧ W.cell? ⟨w.heap.size, 1, none⟩ = some (.int .i64 secs) ∧ W.cell? ⟨w.heap.size + 1, 0, none⟩ = some (.int .i64 (g : Nat)) ∧ W.cell? ⟨w.heap.size + 1, 1, none⟩ = some (.int .i64 (a : Nat)) ∧ W.cell? ⟨b, off + g * 2, none⟩ = some (.int .i64 k) ∧ W.cell? ⟨b, off + g * 2 + 1, none⟩ = some (.int .i64 (x : Nat)) := fun W hW =>
  ⟨(hR0.below hW).cell 0, (hR0.below hW).cell 1, (hP0.below hW).cell 0, (hP0.below hW).cell 1, (hW.cell (p := ⟨b, _, none⟩) hblt).trans ((hb0.cell (p := ⟨b, _, none⟩) hb).trans k0), (hW.cell (p := ⟨b, _, none⟩) hblt).trans ((hb0.cell (p := ⟨b, _, none⟩) hb).trans k1)⟩
 have HT := Lib.hid hT
 have HB0 := Lib.hid hb0
 have HFI := Lib.hid hFI
 have REL := Lib.hid rel
 have q0 := hR0.cell 0
 have q1 := hR0.cell 1
 have r0 := hP0.cell 0
 have r1 := hP0.cell 1
 have hw2 : w.heap.size + 2 ≤ w0.heap.size := by have := hP0.lt; omega
 have hblt1 : w0.heap.size ≤ w0.heap.size := Nat.le_refl _
 clear hT hb0 hR0 hP0 h hm ms hrt hbd hc k0 k1 hFI hgx hf rel hblt1
 go_enter Tryz.func25, Tryz.ntmps25
 go_wp2_with fail
 rw [← hw0]
 clear hw0
 go_wp2_with fail
 refine HT.out.mono ?_
 rintro e w1 ⟨rfl, hb1⟩
 have HB1 := Lib.hid hb1
 clear hb1 q0 q1 r0 r1 HT
 go_wp2_with fail
 go_upto_region 3 with fail
 go_cut [8, 9] (fun va vb wx => ∃ gg : Nat, va = .pointer (some ⟨gg, 0, none⟩) ∧ vb = .int .i64 (f : Nat) ∧ Hid (Blk wx gg 31 [.int .i64 k, .int .i64 (x : Nat)]) ∧ Hid (Below w0.heap.size w0 wx))
 case first =>
  obtain ⟨h0, h1, h2, h3, h4, h5⟩ := REL.out w1 HB1.out
  have hm5 := Nat.lt_of_lt_of_le hblt HB1.out.size
  have hm6 := Nat.lt_of_lt_of_le hw2 HB1.out.size
  have hm7 : w1.heap.size ≠ b := Nat.ne_of_gt hm5
  have hm8 : w1.heap.size ≠ w.heap.size := Nat.ne_of_gt (Nat.lt_of_succ_lt hm6)
  have hm9 : w1.heap.size ≠ w.heap.size + 1 := Nat.ne_of_gt hm6
  go_region_held3 (fun w' => w'.cell? ⟨w.heap.size, 0, none⟩ = some (.slice (some ⟨b, off, none⟩) n cap) ∧ w'.cell? ⟨w.heap.size, 1, none⟩ = some (.int .i64 secs) ∧ w'.cell? ⟨w.heap.size + 1, 0, none⟩ = some (.int .i64 (g : Nat)) ∧ w'.cell? ⟨w.heap.size + 1, 1, none⟩ = some (.int .i64 (a : Nat)) ∧ w'.cell? ⟨b, off + g * 2, none⟩ = some (.int .i64 k) ∧ w'.cell? ⟨b, off + g * 2 + 1, none⟩ = some (.int .i64 (x : Nat))) (go_keep)
   (first
    | (go_at_call 46; refine (HFI.out w1.drew HB1.out.drew).mono ?_; rintro e w5 ⟨rfl, hb5⟩; have HB5 := Lib.hid (HB1.out.drew.trans (hb5.mono HB1.out.drew.size)); clear h0 h1 h2 h3 h4 h5; obtain ⟨h0, h1, h2, h3, h4, h5⟩ := REL.out w5 HB5.out; have hn5 := Nat.lt_of_lt_of_le hblt HB5.out.size; have hn6 := Nat.lt_of_lt_of_le hw2 HB5.out.size; have hn7 : w5.heap.size ≠ b := Nat.ne_of_gt hn5; have hn8 : w5.heap.size ≠ w.heap.size := Nat.ne_of_gt (Nat.lt_of_succ_lt hn6); have hn9 : w5.heap.size ≠ w.heap.size + 1 := Nat.ne_of_gt hn6; clear hb5)
    | (go_at_call 46; refine (HFI.out (w1.alloc (.cells #[.int .i64 0, .int .i64 0] 31)).drew (HB1.out.alloc HB1.out.size _).drew).mono ?_; rintro e w5 ⟨rfl, hb5⟩; have hnb : Blk w5 w1.heap.size 31 [.int .i64 0, .int .i64 0] := ((Blk.new w1 31 [.int .i64 0, .int .i64 0]).drew).below hb5; have hnc0 := hnb.cell 0; have hnc1 := hnb.cell 1; have hnf0 := hnb.frozen 0; have hnf1 := hnb.frozen 1; have HB5 := Lib.hid ((HB1.out.alloc HB1.out.size (.cells #[.int .i64 0, .int .i64 0] 31)).drew.trans (hb5.mono (HB1.out.alloc HB1.out.size _).drew.size)); clear h0 h1 h2 h3 h4 h5; obtain ⟨h0, h1, h2, h3, h4, h5⟩ := REL.out w5 HB5.out; clear hb5)
    | (go_at_call 46; refine (HFI.out (w1.alloc (.cells #[.int .i64 k, .int .i64 (x : Nat)] 31)).drew (HB1.out.alloc HB1.out.size _).drew).mono ?_; rintro e w5 ⟨rfl, hb5⟩; have hnb : Blk w5 w1.heap.size 31 [.int .i64 k, .int .i64 (x : Nat)] := ((Blk.new w1 31 [.int .i64 k, .int .i64 (x : Nat)]).drew).below hb5; have HB5 := Lib.hid ((HB1.out.alloc HB1.out.size (.cells #[.int .i64 k, .int .i64 (x : Nat)] 31)).drew.trans (hb5.mono (HB1.out.alloc HB1.out.size _).drew.size)); clear h0 h1 h2 h3 h4 h5; obtain ⟨h0, h1, h2, h3, h4, h5⟩ := REL.out w5 HB5.out; clear hb5))
  all_goals
   go_wp2_with fail
   go_meet
   first
    | exact ⟨w5.heap.size, rfl, rfl, Lib.hid (Blk.new w5 31 [.int .i64 k, .int .i64 (x : Nat)]), Lib.hid (HB5.out.alloc HB5.out.size _)⟩
    | exact ⟨w1.heap.size, rfl, rfl, Lib.hid ((hnb.setCell 0 _).setCell 1 _), Lib.hid ((HB5.out.setCell (p := ⟨w1.heap.size, 0, none⟩) HB1.out.size _).setCell (p := ⟨w1.heap.size, 1, none⟩) HB1.out.size _)⟩
    | exact ⟨w1.heap.size, rfl, rfl, Lib.hid hnb, HB5⟩
 case rest =>
  obtain ⟨gg, rfl, rfl, hG, hB⟩ := hcut
  obtain ⟨h0, h1, h2, h3, h4, h5⟩ := REL.out wc hB.out
  have e0 := hG.out.cell 0
  have e1 := hG.out.cell 1
  have hBB := Lib.hid (HB0.out.trans (hB.out.mono HB0.out.size))
  have hwc : w.heap.size ≤ wc.heap.size := hBB.out.size
  by_cases hk : k = 0
  ·have hk1 : (k == 0) = true := by simpa using hk
   have HMI := Lib.hid (mirror_any f x a size wc (by omega) (by omega) ha hsz)
   have HCE := Lib.hid (show colsL gs g a size = mirL f a size x by rw [HCO.out, if_pos hk, Int.toNat_natCast, Int.toNat_natCast])
   clear hk hgr
   go_wp2_with fail
   refine HMI.out.mono ?_
   rintro e w6 ⟨v, rfl, hown, hb6⟩
   have HOW := Lib.hid hown
   have HB6 := Lib.hid (hBB.out.trans (hb6.mono hBB.out.size))
   clear hown hb6
   go_wp2_with fail
   go_ret2
   refine ⟨v, rfl, ?_, HB6.out⟩
   rw [HCE.out]
   exact owns_weaken HOW.out hwc
  ·have hk1 : (k == 0) = false := by simpa using hk
   have HMI := Lib.hid (parity_any f x a size wc (by omega) (by omega) (by omega) ha hsz)
   have HCE := Lib.hid (show colsL gs g a size = parL f x a size by rw [HCO.out, if_neg hk, Int.toNat_natCast, Int.toNat_natCast])
   clear hk hgr
   go_wp2_with fail
   refine HMI.out.mono ?_
   rintro e w6 ⟨v, rfl, hown, hb6⟩
   have HOW := Lib.hid hown
   have HB6 := Lib.hid (hBB.out.trans (hb6.mono hBB.out.size))
   clear hown hb6
   go_wp2_with fail
   go_ret2
   refine ⟨v, rfl, ?_, HB6.out⟩
   rw [HCE.out]
   exact owns_weaken HOW.out hwc
end Go.Proofs.YtfaemcfjbbbbdaaGreat
namespace Go.Proofs.YtfaemcfjbbbbdaaGreat
structure DvsT where
 gs : Gs
 secs : Int
 ds : List DevT
 away : List Bool
def devsN (gs : Gs) : Nat := (wsum gs gs.length).toNat
def DvsT.right (x : DvsT) : Bool := rightB x.gs x.secs && decide (x.ds.length = devsN x.gs) && decide (x.away.length = x.ds.length) && x.ds.all fun δ => decide ((δ.med.length : Int) = x.secs)
def DvsT.here (x : DvsT) (d : Nat) : Bool := !(x.away.getD d true) && !((x.ds.getD d dvD).lost)
def DvsT.set (x : DvsT) (d : Nat) (δ : DevT) : DvsT := ⟨x.gs, x.secs, x.ds.set d δ, x.away⟩
def colAt (c : ColT) : Int := (c.2.1 : Nat)
def DvsT.col (x : DvsT) (c : ColT) : Bs := if x.here c.1 = true then ((x.ds.getD c.1 dvD).readE (colAt c)).1 else []
def rawX (x : DvsT) (g a size : Nat) : List Bs := (colsL x.gs g a size).map x.col
def putX (x : DvsT) (c : ColT) (s : Bs) : Bool × DvsT :=
 if x.here c.1 = true then (decide (((x.ds.getD c.1 dvD).writeE (colAt c) s).1 = 0), x.set c.1 ((x.ds.getD c.1 dvD).writeE (colAt c) s).2) else (false, x)
def addF (f : List Nat) (d : Nat) : List Nat := if d ∈ f then f else f ++ [d]
def putsX : DvsT → List (ColT × Bs) → List Nat → List Nat × DvsT
 | x, [], f => (f, x)
 | x, (c, s) :: r, f => putsX (putX x c s).2 r (if (putX x c s).1 = true then f else addF f c.1)
def secK (s : Bs) (k : Nat) : List Bs := (List.range k).map fun i => (s.take (64 * i + 64)).drop (64 * i)
def secL (s : Bs) : List Bs := secK s (s.length / 64)
theorem secK_succ (s : Bs) (k : Nat) : secK s (k + 1) = secK s k ++ [(s.take (64 * k + 64)).drop (64 * k)] := by simp [secK, List.range_succ]
theorem secK_len (s : Bs) (k : Nat) : (secK s k).length = k := by simp [secK]
def blkOk (s : Bs) : Bool := decide (s ≠ [] ∧ s.length % 64 = 0 ∧ s.length ≤ 256)
def makeB (l : List Bs) : Bs := if l = [] ∨ evenL (bts l) = false then [] else xorL (l.getD 0 []).length (bts l)
def dataL (data : List Bs) : Nat → List ColT → List Bs
 | _, [] => []
 | n, c :: r => if c.2.2.1 = true then [] :: dataL data n r else data.getD (n % data.length) [] :: dataL data (n + 1) r
def cD : ColT := (0, 0, false, 0)
def rowL (l : List ColT) (no : Nat) : List Nat := (List.range l.length).filter fun i => decide ((l.getD i cD).2.2.2 = no) && !(l.getD i cD).2.2.1
def encL (l : List ColT) (data : List Bs) : List Bs :=
 (List.range l.length).map fun i => if (l.getD i cD).2.2.1 = true then makeB ((rowL l (l.getD i cD).2.2.2).map fun k => (dataL data 0 l).getD k []) else (dataL data 0 l).getD i []
def encodeE (gs : Gs) (secs : Int) (g a : Nat) (s : Bs) : Except Nat (List Bs) :=
 if blkOk s = true ∧ mayC gs secs g a ((s.length / 64 : Nat) : Int) = true then .ok (encL (colsL gs g a (s.length / 64)) (secL s)) else .error 1
def writeX (x : DvsT) (g a : Nat) (s : Bs) : Nat × Nat × DvsT :=
 if x.right = false then (0, 1, x)
 else match encodeE x.gs x.secs g a s with
  | .error e => (0, e, x)
  | .ok t =>
   let r := putsX x ((colsL x.gs g a (s.length / 64)).zip t) []
   (r.1.length, (if (x.gs.getD g (0, 0)).1 = 0 ∧ (r.1.length : Int) = (x.gs.getD g (0, 0)).2 ∨ (x.gs.getD g (0, 0)).1 = 1 ∧ 1 < r.1.length then 6 else 0), r.2)
def mendsX (l : List ColT) (t : List Bs) : DvsT → List Nat → Nat → Nat × DvsT
 | x, [], n => (n, x)
 | x, i :: r, n => if i < l.length then mendsX l t (putX x (l.getD i cD) (t.getD i [])).2 r (if (putX x (l.getD i cD) (t.getD i [])).1 = true then n + 1 else n) else mendsX l t x r n
def mendX (x : DvsT) (g a : Nat) (s : Bs) (l : List Nat) : Nat × DvsT :=
 if x.right = false then (0, x)
 else match encodeE x.gs x.secs g a s with
  | .error e => (0, x)
  | .ok t => mendsX (colsL x.gs g a (s.length / 64)) t x l 0
def mirT (l : List ColT) (size : Nat) (got : List Bs) : List (Int × Bs) :=
 (List.range (l.length / size)).filterMap fun k => if [] ∈ (got.drop (k * size)).take size then none else some (((l.getD (k * size) cD).1 : Nat), ((got.drop (k * size)).take size).flatten)
def againT (l : List ColT) (got : List Bs) (i : Nat) : Bs :=
 let parts := ((List.range l.length).filter fun j => decide ((l.getD j cD).2.2.2 = (l.getD i cD).2.2.2 ∧ j ≠ i)).map fun j => got.getD j []
 if [] ∈ parts then [] else makeB parts
def withGo (l : List ColT) (got : List Bs) (dev : Int) : List Nat → Bs → Bs
 | [], out => out
 | i :: r, out =>
  if (l.getD i cD).2.2.1 = true then withGo l got dev r out
  else let s := if ((l.getD i cD).1 : Int) = dev then againT l got i else got.getD i []
   if s = [] then [] else withGo l got dev r (out ++ s)
def withoutT (l : List ColT) (got : List Bs) (dev : Int) : Bs := withGo l got dev (List.range l.length) []
def word4 (s : Bs) (k : Nat) : Nat := leN ((s.drop (4 * k)).take 4)
def m64 : Nat := 18446744073709551616
def sumW : List Nat → Nat × Nat × Nat × Nat → Nat × Nat × Nat × Nat
 | [], x => x
 | w :: r, (a, b, c, d) =>
  let a1 := (a + w) % m64
  let b1 := (b + a1) % m64
  let c1 := (c + b1) % m64
  let d1 := (d + c1) % m64
  sumW r (a1, b1, c1, d1)
def padW (s : Bs) : Bs := s ++ zeros ((4 - s.length % 4) % 4)
def sumF (s : Bs) : Nat × Nat × Nat × Nat := sumW ((List.range ((padW s).length / 4)).map (word4 (padW s))) (0, 0, 0, 0)
end Go.Proofs.YtfaemcfjbbbbdaaGreat
namespace Go.Proofs.YtfaemcfjbbbbdaaGreat
open Go.RowKit
attribute [local go_sem ↓] Go.wp_at_zero Go.wp_at_succ
set_option maxRecDepth 100000 in
set_option maxHeartbeats 1600000 in
theorem papart_any (ao : Option Addr) (n cap : Nat) (gs : Gs) (secs ag aa bg ba size : Int) (w : World) (h : GSl w ao n cap gs) (hA : mayC gs secs ag aa size = true) (hB : mayC gs secs bg ba size = true) :
  Calls Tryz.prog 39 #[.agg #[.slice ao n cap, .int .i64 secs], .agg #[.int .i64 ag, .int .i64 aa], .agg #[.int .i64 bg, .int .i64 ba], .int .i64 size] w fun e w' => e = .returned (.bool (apartC gs secs ag aa bg ba size)) ∧ Below w.heap.size w w' := by
 obtain ⟨w0, hw0⟩ : ∃ w0, w0 = ((w.alloc (.cells #[.slice ao n cap, .int .i64 secs] 24)).alloc (.cells #[.int .i64 ag, .int .i64 aa] 44)).alloc (.cells #[.int .i64 bg, .int .i64 ba] 44) := ⟨_, rfl⟩
 have hb0 : Below w.heap.size w w0 := by rw [hw0]; exact (((Below.refl _ _).alloc (Nat.le_refl _) _).alloc (by simp) _).alloc (by simp; omega) _
 have hR0 : Blk w0 w.heap.size 24 [.slice ao n cap, .int .i64 secs] := by rw [hw0]; exact ((Blk.new w _ _).alloc _).alloc _
 have hP0 : Blk w0 (w.heap.size + 1) 44 [.int .i64 ag, .int .i64 aa] := by rw [hw0]; exact (Blk.newAt _ _ (by simp)).alloc _
 have hQ0 : Blk w0 (w.heap.size + 1 + 1) 44 [.int .i64 bg, .int .i64 ba] := by rw [hw0]; exact Blk.newAt _ _ (by simp)
 have ma := mayC_spec hA
 have mb := mayC_spec hB
 obtain ⟨ta, hta⟩ : ∃ t, t = takesI gs secs ag size := ⟨_, rfl⟩
 obtain ⟨tb, htb⟩ : ∃ t, t = takesI gs secs bg size := ⟨_, rfl⟩
 have hm : apartC gs secs ag aa bg ba size = decide (ag ≠ bg ∨ aa + ta ≤ ba ∨ ba + tb ≤ aa) := by rw [hta, htb]; rfl
 have HT : ∀ g W, Below w0.heap.size w0 W → Calls Tryz.prog 21 #[.agg #[.slice ao n cap, .int .i64 secs], .int .i64 g, .int .i64 size] W fun e w' => e = .returned (.int .i64 (takesI gs secs g size)) ∧ Below W.heap.size W w' := fun g W hW => gtakes_any ao n cap gs secs g size W ((h.below hb0).below hW)
 have HTA : ∀ W, Below w0.heap.size w0 W → Calls Tryz.prog 21 #[.agg #[.slice ao n cap, .int .i64 secs], .int .i64 ag, .int .i64 size] W fun e w' => e = .returned (.int .i64 ta) ∧ Below W.heap.size W w' := fun W hW => by rw [hta]; exact HT ag W hW
 have HTB : ∀ W, Below w0.heap.size w0 W → Calls Tryz.prog 21 #[.agg #[.slice ao n cap, .int .i64 secs], .int .i64 bg, .int .i64 size] W fun e w' => e = .returned (.int .i64 tb) ∧ Below W.heap.size W w' := fun W hW => by rw [htb]; exact HT bg W hW
 rw [hm]
 have x1 : 0 ≤ aa ∧ aa ≤ 32768 := ⟨ma.2.2.2.2.2.1, ma.2.2.2.2.2.2.1⟩
 have x2 : 0 ≤ ba ∧ ba ≤ 32768 := ⟨mb.2.2.2.2.2.1, mb.2.2.2.2.2.2.1⟩
 have x3 : 1 ≤ ta ∧ ta ≤ 6 := by rw [hta]; exact ⟨ma.2.2.2.2.2.2.2.1, ma.2.2.2.2.2.2.2.2.1⟩
 have x4 : 1 ≤ tb ∧ tb ≤ 6 := by rw [htb]; exact ⟨mb.2.2.2.2.2.2.2.1, mb.2.2.2.2.2.2.2.2.1⟩
 have rel : ∀ W, Below w0.heap.size w0 W → W.cell? ⟨w.heap.size, 0, none⟩ = some (.slice ao n cap) ∧ W.cell? ⟨w.heap.size, 1, none⟩ = some (.int .i64 secs) ∧ W.cell? ⟨w.heap.size + 1, 0, none⟩ = some (.int .i64 ag) ∧ W.cell? ⟨w.heap.size + 1, 1, none⟩ = some (.int .i64 aa) ∧ W.cell? ⟨w.heap.size + 2, 0, none⟩ = some (.int .i64 bg) ∧ W.cell? ⟨w.heap.size + 2, 1, none⟩ = some (.int .i64 ba) := fun W hW =>
  ⟨(hR0.below hW).cell 0, (hR0.below hW).cell 1, (hP0.below hW).cell 0, (hP0.below hW).cell 1, (hQ0.below hW).cell 0, (hQ0.below hW).cell 1⟩
 have fin : ∀ x : Bool, x = decide (ag ≠ bg ∨ aa + ta ≤ ba ∨ ba + tb ≤ aa) → Ending.returned (.bool x) = .returned (.bool (decide (ag ≠ bg ∨ aa + ta ≤ ba ∨ ba + tb ≤ aa))) := fun x e => by rw [e]
 obtain ⟨q0, q1, r0, r1, s0, s1⟩ := rel w0 (Below.refl _ _)
 have HB0 := Lib.hid hb0
 have HTA' := Lib.hid HTA
 have HTB' := Lib.hid HTB
 have REL := Lib.hid rel
 have FIN := Lib.hid fin
 have y1 : IntKind.i64.wrap (aa + ta) = aa + ta := IntWalk.i64_in _ (by omega)
 have y2 : IntKind.i64.wrap (ba + tb) = ba + tb := IntWalk.i64_in _ (by omega)
 clear h hA hB hb0 hR0 hP0 hQ0 ma mb hta htb hm HT HTA HTB rel fin
 by_cases d1 : ag = bg
 ·subst d1
  by_cases d2 : aa + ta ≤ ba
  ·have e2 : decide (aa + ta ≤ ba) = true := decide_eq_true d2
   go_enter Tryz.func39, Tryz.ntmps39
   go_wp2_with fail
   rw [← hw0]; clear hw0
   refine wp_region_held_drew (S := (fun w' => w'.cell? ⟨w.heap.size, 0, none⟩ = some (.slice ao n cap) ∧ w'.cell? ⟨w.heap.size, 1, none⟩ = some (.int .i64 secs) ∧ w'.cell? ⟨w.heap.size + 1, 0, none⟩ = some (.int .i64 ag) ∧ w'.cell? ⟨w.heap.size + 1, 1, none⟩ = some (.int .i64 aa) ∧ w'.cell? ⟨w.heap.size + 2, 0, none⟩ = some (.int .i64 ag) ∧ w'.cell? ⟨w.heap.size + 2, 1, none⟩ = some (.int .i64 ba))) (by kernel_rfl) (by go_keep) (fun hS0 => ?_)
   refine rtd 0 ?_; refine rtd 1 ?_; refine rtd 2 ?_; refine rtd 3 ?_; refine rtd 4 ?_; refine rtd 5 ?_; refine rtd 6 ?_; refine rtd 7 ?_; refine rtd 8 ?_; refine rtd 9 ?_; refine rtd 10 ?_; refine rtd 11 ?_
   refine rtd 14 ?_; refine rtd 15 ?_
   refine wpAnyH_ready (rs := [12]) (by kernel_rfl) (by simp) ?_
   refine AllReadyH.cons rfl (fun K hK => ?_) AllReadyH.nil
   go_simp
   (go_at_call 21; refine (HTA'.out _ (Below.refl _ _).drew).mono ?_; rintro e w5 ⟨rfl, hb5⟩; have HB5 := Lib.hid ((Below.refl w0.heap.size w0).drew.trans hb5); obtain ⟨h0, h1, h2, h3, h4, h5⟩ := REL.out w5 HB5.out; clear hb5)
   refine hK.out _ _ (by go_keep) (fun _ => ?_)
   try simp only [Act.put, z1, z2, z3]
   refine rtd 13 ?_; refine rtd 16 ?_; refine rtd 17 ?_; refine rtd 18 ?_; refine rtn 19 ?_; refine rtn 20 ?_; refine rtn 21 ?_; refine rtn 22 ?_; refine rtn 23 ?_; refine rtn 24 ?_; refine rtn 25 ?_; refine rtn 26 ?_
   refine rtn 27 ?_; refine rtn 28 ?_; refine rtn 29 ?_; refine rtd 30 ?_; refine rtd 31 ?_
   refine wpAnyH_done (by kernel_rfl) ?_ _
   all_goals
    go_wp2_with fail
    go_ret
    exact ⟨FIN.out _ (by simp [d2]), HB0.out.trans (HB5.out.mono HB0.out.size)⟩
  ·have e2 : decide (aa + ta ≤ ba) = false := decide_eq_false d2
   go_enter Tryz.func39, Tryz.ntmps39
   go_wp2_with fail
   rw [← hw0]; clear hw0
   refine wp_region_held_drew (S := (fun w' => w'.cell? ⟨w.heap.size, 0, none⟩ = some (.slice ao n cap) ∧ w'.cell? ⟨w.heap.size, 1, none⟩ = some (.int .i64 secs) ∧ w'.cell? ⟨w.heap.size + 1, 0, none⟩ = some (.int .i64 ag) ∧ w'.cell? ⟨w.heap.size + 1, 1, none⟩ = some (.int .i64 aa) ∧ w'.cell? ⟨w.heap.size + 2, 0, none⟩ = some (.int .i64 ag) ∧ w'.cell? ⟨w.heap.size + 2, 1, none⟩ = some (.int .i64 ba))) (by kernel_rfl) (by go_keep) (fun hS0 => ?_)
   refine rtd 0 ?_; refine rtd 1 ?_; refine rtd 2 ?_; refine rtd 3 ?_; refine rtd 4 ?_; refine rtd 5 ?_; refine rtd 6 ?_; refine rtd 7 ?_; refine rtd 8 ?_; refine rtd 9 ?_; refine rtd 10 ?_; refine rtd 11 ?_
   refine rtd 14 ?_; refine rtd 15 ?_
   refine wpAnyH_ready (rs := [12]) (by kernel_rfl) (by simp) ?_
   refine AllReadyH.cons rfl (fun K hK => ?_) AllReadyH.nil
   go_simp
   (go_at_call 21; refine (HTA'.out _ (Below.refl _ _).drew).mono ?_; rintro e w5 ⟨rfl, hb5⟩; have HB5 := Lib.hid ((Below.refl w0.heap.size w0).drew.trans hb5); obtain ⟨h0, h1, h2, h3, h4, h5⟩ := REL.out w5 HB5.out; clear hb5)
   refine hK.out _ _ (by go_keep) (fun _ => ?_)
   try simp only [Act.put, z1, z2, z3]
   refine rtd 13 ?_; refine rtd 16 ?_; refine rtd 17 ?_; refine rtd 18 ?_; refine rtd 19 ?_; refine rtd 20 ?_; refine rtd 21 ?_; refine rtd 22 ?_; refine rtd 23 ?_; refine rtd 24 ?_; refine rtd 27 ?_; refine rtd 28 ?_
   refine wpAnyH_ready (rs := [25]) (by kernel_rfl) (by simp) ?_
   refine AllReadyH.cons rfl (fun K hK => ?_) AllReadyH.nil
   go_simp
   (go_at_call 21; refine (HTB'.out _ HB5.out).mono ?_; rintro e w6 ⟨rfl, hb6⟩; clear h0 h1 h2 h3 h4 h5; have HB6 := Lib.hid (HB5.out.trans (hb6.mono HB5.out.size)); obtain ⟨h0, h1, h2, h3, h4, h5⟩ := REL.out w6 HB6.out; clear hb6)
   refine hK.out _ _ (by go_keep) (fun _ => ?_)
   try simp only [Act.put, z1, z2, z3]
   refine rtd 26 ?_; refine rtd 29 ?_; refine rtd 30 ?_; refine rtd 31 ?_
   refine wpAnyH_done (by kernel_rfl) ?_ _
   all_goals
    go_wp2_with fail
    go_ret
    exact ⟨FIN.out _ (by rw [Bool.eq_iff_iff]; simp only [decide_eq_true_eq]; omega), HB0.out.trans (HB6.out.mono HB0.out.size)⟩
 ·have e1 : (ag != bg) = true := by simpa using d1
  go_enter Tryz.func39, Tryz.ntmps39
  go_wp2_with fail
  rw [← hw0]; clear hw0
  go_quiet (fail)
  go_wp2_with fail
  go_ret
  exact ⟨FIN.out _ (by simp [d1]), below_drewN' HB0.out _⟩
end Go.Proofs.YtfaemcfjbbbbdaaGreat
namespace Go.Proofs.YtfaemcfjbbbbdaaGreat
open Go.RowKit
attribute [local go_sem ↓] Go.wp_at_zero Go.wp_at_succ
set_option maxRecDepth 100000 in
set_option maxHeartbeats 3200000 in
theorem pright_any (ao : Option Addr) (n cap : Nat) (gs : Gs) (secs : Int) (p : PtrT) (w : World) (h : GSl w ao n cap gs) (hp : p.ok) :
  Calls Tryz.prog 16 #[.agg #[.slice ao n cap, .int .i64 secs], .agg (encPtr p).toArray] w fun e w' => e = .returned (.bool (ptrRight gs secs p)) ∧ Below w.heap.size w w' := by
 have kaa := hp.aa
 have kba := hp.ba
 obtain ⟨ag, aa, bg, ba, two, sz, lv, bi, s0, s1, s2, s3⟩ := p
 dsimp only at kaa kba
 obtain ⟨w0, hw0⟩ : ∃ w0, w0 = (w.alloc (.cells #[.slice ao n cap, .int .i64 secs] 24)).alloc (.cells #[.int .i64 ag, .int .i64 aa, .int .i64 bg, .int .i64 ba, .bool two, .int .i64 sz, .int .i64 lv, .int .i64 bi, .int .u64 s0, .int .u64 s1, .int .u64 s2, .int .u64 s3] 49) := ⟨_, rfl⟩
 have hb0 : Below w.heap.size w w0 := by rw [hw0]; exact ((Below.refl _ _).alloc (Nat.le_refl _) _).alloc (by simp) _
 have hR0 : Blk w0 w.heap.size 24 [.slice ao n cap, .int .i64 secs] := by rw [hw0]; exact (Blk.new w _ _).alloc _
 have hP0 : Blk w0 (w.heap.size + 1) 49 [.int .i64 ag, .int .i64 aa, .int .i64 bg, .int .i64 ba, .bool two, .int .i64 sz, .int .i64 lv, .int .i64 bi, .int .u64 s0, .int .u64 s1, .int .u64 s2, .int .u64 s3] := by rw [hw0]; exact Blk.newAt _ _ (by simp)
 have hcells : ∀ W, Below w0.heap.size w0 W → W.cell? ⟨w.heap.size, 0, none⟩ = some (.slice ao n cap) ∧ W.cell? ⟨w.heap.size, 1, none⟩ = some (.int .i64 secs) ∧ W.cell? ⟨w.heap.size + 1, 0, none⟩ = some (.int .i64 ag) ∧ W.cell? ⟨w.heap.size + 1, 1, none⟩ = some (.int .i64 aa) ∧ W.cell? ⟨w.heap.size + 1, 2, none⟩ = some (.int .i64 bg) ∧ W.cell? ⟨w.heap.size + 1, 3, none⟩ = some (.int .i64 ba) ∧ W.cell? ⟨w.heap.size + 1, 4, none⟩ = some (.bool two) ∧ W.cell? ⟨w.heap.size + 1, 5, none⟩ = some (.int .i64 sz) ∧ W.cell? ⟨w.heap.size + 1, 6, none⟩ = some (.int .i64 lv) ∧ W.cell? ⟨w.heap.size + 1, 7, none⟩ = some (.int .i64 bi) := fun W hW =>
  ⟨(hR0.below hW).cell 0, (hR0.below hW).cell 1, (hP0.below hW).cell 0, (hP0.below hW).cell 1, (hP0.below hW).cell 2, (hP0.below hW).cell 3, (hP0.below hW).cell 4, (hP0.below hW).cell 5, (hP0.below hW).cell 6, (hP0.below hW).cell 7⟩
 have HB0 := Lib.hid hb0
 have HCE := Lib.hid hcells
 have HG := Lib.hid (h.below hb0)
 obtain ⟨c0, c1, c2, c3, c4, c5, c6, c7, c8, c9⟩ := hcells w0 (Below.refl _ _)
 have hPR : ptrRight gs secs ⟨ag, aa, bg, ba, two, sz, lv, bi, s0, s1, s2, s3⟩ = (decide (0 ≤ lv ∧ lv ≤ 3 ∧ 1 ≤ bi ∧ bi ≤ 4294967295) && mayC gs secs ag aa sz && (if two = true then mayC gs secs bg ba sz && apartC gs secs ag aa bg ba sz else decide (bg = 0 ∧ ba = 0))) := rfl
 have HPR := Lib.hid hPR
 have finF : ∀ x : Bool, x = ptrRight gs secs ⟨ag, aa, bg, ba, two, sz, lv, bi, s0, s1, s2, s3⟩ → Ending.returned (.bool x) = .returned (.bool (ptrRight gs secs ⟨ag, aa, bg, ba, two, sz, lv, bi, s0, s1, s2, s3⟩)) := fun x e => by rw [e]
 have FIN := Lib.hid finF
 clear h hp hb0 hR0 hP0 hcells hPR finF
 show Calls _ _ #[.agg #[.slice ao n cap, .int .i64 secs], .agg #[.int .i64 ag, .int .i64 aa, .int .i64 bg, .int .i64 ba, .bool two, .int .i64 sz, .int .i64 lv, .int .i64 bi, .int .u64 s0, .int .u64 s1, .int .u64 s2, .int .u64 s3]] _ _
 by_cases hc : 0 ≤ lv ∧ lv ≤ 3 ∧ 1 ≤ bi ∧ bi ≤ 4294967295
 ·obtain ⟨x1, x2, x3, x4⟩ := hc
  have hD := Lib.hid (show decide (0 ≤ lv ∧ lv ≤ 3 ∧ 1 ≤ bi ∧ bi ≤ 4294967295) = true from decide_eq_true ⟨x1, x2, x3, x4⟩)
  have d1 : decide (lv < 0) = false := decide_eq_false (by omega)
  have d2 : decide (3 < lv) = false := decide_eq_false (by omega)
  have d3 : decide (bi < 1) = false := decide_eq_false (by omega)
  have d4 : decide (4294967295 < bi) = false := decide_eq_false (by omega)
  cases hmA : mayC gs secs ag aa sz
  ·have HO := Lib.hid (cof_no ao n cap gs secs ag aa sz w0 HG.out kaa hmA)
   have HMA := Lib.hid hmA
   clear hmA
   go_enter Tryz.func16, Tryz.ntmps16
   go_wp2_with fail
   rw [← hw0]
   clear hw0
   go_wp2_with fail
   refine HO.out.mono ?_
   rintro e w1 ⟨rfl, hb1⟩
   have HB1 := Lib.hid (HB0.out.trans (hb1.mono HB0.out.size))
   clear hb1
   go_wp2_with fail
   go_ret
   exact ⟨FIN.out _ (by rw [HPR.out, HMA.out]; simp), HB1.out⟩
  ·have ms := mayC_spec hmA
   obtain ⟨g, rfl⟩ : ∃ g' : Nat, ag = g' := ⟨ag.toNat, by omega⟩
   obtain ⟨a, rfl⟩ : ∃ a' : Nat, aa = a' := ⟨aa.toNat, by omega⟩
   obtain ⟨size, rfl⟩ : ∃ s' : Nat, sz = s' := ⟨sz.toNat, by omega⟩
   have HO := Lib.hid (cof_yes ao n cap gs secs g a size w0 HG.out hmA)
   have HMA := Lib.hid hmA
   clear hmA ms
   cases two
   ·by_cases z1 : bg = 0 <;> by_cases z2 : ba = 0
    all_goals
     have Z1 := Lib.hid z1
     have Z2 := Lib.hid z2
     clear z1 z2
     go_enter Tryz.func16, Tryz.ntmps16
     go_wp2_with fail
     rw [← hw0]
     clear hw0
     go_wp2_with fail
     refine HO.out.mono ?_
     rintro e w1 ⟨v, rfl, _, hb1⟩
     have HB1 := Lib.hid (HB0.out.trans (hb1.mono HB0.out.size))
     clear c0 c1 c2 c3 c4 c5 c6 c7 c8 c9
     obtain ⟨c0, c1, c2, c3, c4, c5, c6, c7, c8, c9⟩ := HCE.out w1 hb1
     clear hb1
     have z1 := Z1.out
     have z2 := Z2.out
     go_wp2_with fail
     go_ret
     exact ⟨FIN.out _ (by rw [HPR.out, HMA.out, hD.out]; simp [z1, z2]), HB1.out⟩
   ·cases hmB : mayC gs secs bg ba size
    ·have HMB := Lib.hid hmB
     go_enter Tryz.func16, Tryz.ntmps16
     go_wp2_with fail
     rw [← hw0]
     clear hw0
     go_wp2_with fail
     refine HO.out.mono ?_
     rintro e w1 ⟨v, rfl, _, hb1⟩
     have HB1 := Lib.hid (HB0.out.trans (hb1.mono HB0.out.size))
     clear c0 c1 c2 c3 c4 c5 c6 c7 c8 c9
     obtain ⟨c0, c1, c2, c3, c4, c5, c6, c7, c8, c9⟩ := HCE.out w1 hb1
     have HO2 := Lib.hid (cof_no ao n cap gs secs bg ba size w1 (HG.out.below hb1) kba HMB.out)
     clear hb1 hmB
     go_wp2_with fail
     refine HO2.out.mono ?_
     rintro e w2 ⟨rfl, hb2⟩
     have HB2 := Lib.hid (HB1.out.trans (hb2.mono HB1.out.size))
     clear hb2
     go_wp2_with fail
     go_ret
     exact ⟨FIN.out _ (by rw [HPR.out, HMA.out, HMB.out]; simp), HB2.out⟩
    ·have ms := mayC_spec hmB
     obtain ⟨g2, rfl⟩ : ∃ g' : Nat, bg = g' := ⟨bg.toNat, by omega⟩
     obtain ⟨a2, rfl⟩ : ∃ a' : Nat, ba = a' := ⟨ba.toNat, by omega⟩
     have HMB := Lib.hid hmB
     clear ms hmB
     go_enter Tryz.func16, Tryz.ntmps16
     go_wp2_with fail
     rw [← hw0]
     clear hw0
     go_wp2_with fail
     refine HO.out.mono ?_
     rintro e w1 ⟨v, rfl, _, hb1⟩
     have HB1 := Lib.hid (HB0.out.trans (hb1.mono HB0.out.size))
     have HL1 := Lib.hid hb1
     clear c0 c1 c2 c3 c4 c5 c6 c7 c8 c9
     obtain ⟨c0, c1, c2, c3, c4, c5, c6, c7, c8, c9⟩ := HCE.out w1 hb1
     have HO2 := Lib.hid (cof_yes ao n cap gs secs g2 a2 size w1 (HG.out.below hb1) HMB.out)
     clear hb1
     go_wp2_with fail
     refine HO2.out.mono ?_
     rintro e w2 ⟨v2, rfl, _, hb2⟩
     have HB2 := Lib.hid (HB1.out.trans (hb2.mono HB1.out.size))
     have HL2 := Lib.hid (HL1.out.trans (hb2.mono HL1.out.size))
     clear c0 c1 c2 c3 c4 c5 c6 c7 c8 c9
     obtain ⟨c0, c1, c2, c3, c4, c5, c6, c7, c8, c9⟩ := HCE.out w2 HL2.out
     have HAP := Lib.hid (papart_any ao n cap gs secs g a g2 a2 size w2 (HG.out.below HL2.out) HMA.out HMB.out)
     clear hb2
     go_wp2_with fail
     refine HAP.out.mono ?_
     rintro e w3 ⟨rfl, hb3⟩
     have HB3 := Lib.hid (HB2.out.trans (hb3.mono HB2.out.size))
     clear hb3
     go_wp2_with fail
     go_ret
     exact ⟨FIN.out _ (by rw [HPR.out, HMA.out, HMB.out, hD.out]; simp), HB3.out⟩
 ·have hD := Lib.hid (show decide (0 ≤ lv ∧ lv ≤ 3 ∧ 1 ≤ bi ∧ bi ≤ 4294967295) = false from decide_eq_false hc)
  by_cases x1 : lv < 0
  ·have d1 : decide (lv < 0) = true := decide_eq_true x1
   clear hc
   go_enter Tryz.func16, Tryz.ntmps16
   go_wp2_with fail
   go_ret
   exact ⟨FIN.out _ (by rw [HPR.out, hD.out]; simp), by rw [← hw0]; exact HB0.out⟩
  ·have d1 : decide (lv < 0) = false := decide_eq_false x1
   by_cases x2 : 3 < lv
   ·have d2 : decide (3 < lv) = true := decide_eq_true x2
    clear hc
    go_enter Tryz.func16, Tryz.ntmps16
    go_wp2_with fail
    go_ret
    exact ⟨FIN.out _ (by rw [HPR.out, hD.out]; simp), by rw [← hw0]; exact HB0.out⟩
   ·have d2 : decide (3 < lv) = false := decide_eq_false x2
    by_cases x3 : bi < 1
    ·have d3 : decide (bi < 1) = true := decide_eq_true x3
     clear hc
     go_enter Tryz.func16, Tryz.ntmps16
     go_wp2_with fail
     go_ret
     exact ⟨FIN.out _ (by rw [HPR.out, hD.out]; simp), by rw [← hw0]; exact HB0.out⟩
    ·have d3 : decide (bi < 1) = false := decide_eq_false x3
     have x4 : 4294967295 < bi := by omega
     have d4 : decide (4294967295 < bi) = true := decide_eq_true x4
     clear hc
     go_enter Tryz.func16, Tryz.ntmps16
     go_wp2_with fail
     go_ret
     exact ⟨FIN.out _ (by rw [HPR.out, hD.out]; simp), by rw [← hw0]; exact HB0.out⟩
end Go.Proofs.YtfaemcfjbbbbdaaGreat
namespace Go.Proofs.YtfaemcfjbbbbdaaGreat
open Go.RowKit
def ptrsD (l : List Nat) : List Value := l.map fun (b : Nat) => Value.pointer (some ⟨b, 0, none⟩)
def boolsV (l : List Bool) : List Value := l.map Value.bool
structure DvV where
 g : Value
 l : Value
 a : Value
def DvV.val (V : DvV) (secs : Int) : Value := .agg #[V.g, .int .i64 secs, V.l, V.a]
structure IsDvsV (w : World) (x : DvsT) (V : DvV) (dbs : List Nat) (Fd : Nat → Nat → Prop) : Prop where
 grp : w.ownsRow 0 31 2 V.g x.gs.length (encG x.gs)
 lst : w.ownsRow 0 76 1 V.l dbs.length (ptrsD dbs)
 awy : w.ownsRow 0 4 1 V.a x.away.length (boolsV x.away)
 n1 : dbs.length = x.ds.length
 n2 : x.away.length = x.ds.length
 dev : ∀ i, i < x.ds.length → IsDev w (dbs.getD i 0) (x.ds.getD i dvD) (Fd i)
 dj : ∀ i j g, i < x.ds.length → j < x.ds.length → i ≠ j → Fd i g → ¬ Fd j g
 dg : ∀ i g, i < x.ds.length → Fd i g → V.g.ownBlock ≠ some g ∧ V.l.ownBlock ≠ some g ∧ V.a.ownBlock ≠ some g
 sec : 1 ≤ x.secs ∧ x.secs ≤ 4096
 num : x.ds.length ≤ 1000
def dvsF (x : DvsT) (V : DvV) (Fd : Nat → Nat → Prop) : Nat → Prop := fun g => V.g.ownBlock = some g ∨ V.l.ownBlock = some g ∨ V.a.ownBlock = some g ∨ ∃ i, i < x.ds.length ∧ Fd i g
def IsDvs (w : World) (x : DvsT) (V : DvV) (F : Nat → Prop) : Prop := ∃ dbs Fd, IsDvsV w x V dbs Fd ∧ ∀ g, F g ↔ dvsF x V Fd g
def NoTurn (w w' : World) : Prop := ∀ (k : Nat) cs e fr, w.heap[k]? = some (Obj.cells cs e fr) → e ≠ 121 → e ≠ 9 → w'.heap[k]? = some (Obj.cells cs e fr)
theorem NoTurn.below {w w' : World} (h : Below w.heap.size w w') : NoTurn w w' := fun k cs e fr hk _ _ => by rw [h.block k (Array.getElem?_eq_some_iff.1 hk).1]; exact hk
theorem NoTurn.trans {a b c : World} (h : NoTurn a b) (k : NoTurn b c) : NoTurn a c := fun i cs e fr hi h1 h2 => k i cs e fr (h i cs e fr hi h1 h2) h1 h2
theorem NoTurn.new {a b c : World} {g : Nat} (h : NoTurn a b) (hg : b.grownBy c (some g)) (hn : a.heap.size ≤ g) : NoTurn a c := fun i cs e fr hi h1 h2 => by
 have hb := h i cs e fr hi h1 h2
 rw [hg.block i (Array.getElem?_eq_some_iff.1 hb).1 (fun e2 => by have := (Array.getElem?_eq_some_iff.1 hi).1; have e3 := Option.some.inj e2; omega)]
 exact hb
theorem own_type {w : World} {b e k n g : Nat} {v : Value} {xs : List Value} (h : w.ownsRow b e k v n xs) (hg : v.ownBlock = some g) : ∃ cs fr, w.heap[g]? = some (Obj.cells cs e fr) := by
 rcases h.2 with ⟨rfl, _⟩ | ⟨g2, cap, cur, rfl, h1, h2, h3⟩
 ·cases hg
 ·have : g2 = g := by simpa [Value.ownBlock] using hg
  subst this
  exact ⟨_, _, h2⟩
theorem IsDev.type {w : World} {db : Nat} {δ : DevT} {F : Nat → Prop} (h : IsDev w db δ F) : ∀ g, F g → ∀ cs e fr, w.heap[g]? = some (Obj.cells cs e fr) → e = 121 ∨ e = 9 := by
 obtain ⟨vm, mb, c, h, hF⟩ := h
 intro g hg cs e fr hb
 have key : ∀ {v : Value} {n : Nat} {xs : List Value}, w.ownsRow 0 9 1 v n xs → v.ownBlock = some g → e = 9 := fun hr hv => by
  obtain ⟨c1, f1, h1⟩ := own_type hr hv
  rw [h1] at hb
  simp only [Option.some.injEq, Obj.cells.injEq] at hb
  exact hb.2.1.symm
 rcases (hF g).1 hg with rfl | rfl | h1 | ⟨k, v, hv, h1⟩
 ·have := h.blk
  unfold Blk at this
  rw [this] at hb
  simp only [Option.some.injEq, Obj.cells.injEq] at hb
  exact .inl hb.2.1.symm
 ·obtain ⟨es, ck, h1, _⟩ := h.map
  rw [h1] at hb
  cases hb
 ·exact .inr (key h.med h1)
 ·exact .inr (key (h.some_ k v hv).2 h1)
def DvsStep (x' : DvsT) (V : DvV) (F : Nat → Prop) (w w' : World) : Prop := ∃ F', IsDvs w' x' V F' ∧ Mod F w w' ∧ (∀ g, F' g → F g ∨ w.heap.size ≤ g) ∧ NoTurn w w'
theorem IsDvs.lt {w : World} {x : DvsT} {V : DvV} {F : Nat → Prop} (h : IsDvs w x V F) : ∀ g, F g → g < w.heap.size := by
 obtain ⟨dbs, Fd, h, hF⟩ := h
 intro g hg
 rcases (hF g).1 hg with h1 | h1 | h1 | ⟨i, hi, h1⟩
 ·exact (h.grp.lt g h1).2
 ·exact (h.lst.lt g h1).2
 ·exact (h.awy.lt g h1).2
 ·exact (h.dev i hi).lt g h1
theorem IsDvs.keep {w w' : World} {x : DvsT} {V : DvV} {F : Nat → Prop} (h : IsDvs w x V F) (hk : ∀ g, F g → w'.heap[g]? = w.heap[g]?) : IsDvs w' x V F := by
 obtain ⟨dbs, Fd, h, hF⟩ := h
 exact ⟨dbs, Fd, ⟨own_keep h.grp (fun g hg => hk g ((hF g).2 (.inl hg))), own_keep h.lst (fun g hg => hk g ((hF g).2 (.inr (.inl hg)))), own_keep h.awy (fun g hg => hk g ((hF g).2 (.inr (.inr (.inl hg))))), h.n1, h.n2, fun i hi => (h.dev i hi).keep (fun g hg => hk g ((hF g).2 (.inr (.inr (.inr ⟨i, hi, hg⟩))))), h.dj, h.dg, h.sec, h.num⟩, hF⟩
theorem IsDvs.below {w w' : World} {x : DvsT} {V : DvV} {F : Nat → Prop} (h : IsDvs w x V F) (hb : Below w.heap.size w w') : IsDvs w' x V F := h.keep (fun g hg => hb.block g (h.lt g hg))
theorem IsDvs.stay {w w' : World} {x : DvsT} {V : DvV} {F : Nat → Prop} (h : IsDvs w x V F) (hb : Below w.heap.size w w') : DvsStep x V F w w' := ⟨F, h.below hb, Mod.below hb, fun g hg => .inl hg, NoTurn.below hb⟩
theorem IsDvsV.step {w w' : World} {x : DvsT} {V : DvV} {dbs : List Nat} {Fd : Nat → Nat → Prop} {F : Nat → Prop} {i : Nat} {δ' : DevT} (h : IsDvsV w x V dbs Fd) (hF : ∀ g, F g ↔ dvsF x V Fd g) (hi : i < x.ds.length) (hs : DevStep (dbs.getD i 0) δ' (Fd i) w w') : DvsStep (x.set i δ') V F w w' := by
 obtain ⟨Fi, h1, h2, h3⟩ := hs
 have hsz : (x.set i δ').ds.length = x.ds.length := by simp [DvsT.set]
 have hk : ∀ g, g < w.heap.size → ¬ Fd i g → w'.heap[g]? = w.heap[g]? := fun g hg hn => h2.block g hg hn
 have hlt : ∀ g, Fd i g → F g := fun g hg => (hF g).2 (.inr (.inr (.inr ⟨i, hi, hg⟩)))
 refine ⟨dvsF (x.set i δ') V (fun j => if j = i then Fi else Fd j), ⟨dbs, _, ⟨own_keep h.grp (fun g hg => hk g (h.grp.lt g hg).2 (fun hf => (h.dg i g hi hf).1 hg)), own_keep h.lst (fun g hg => hk g (h.lst.lt g hg).2 (fun hf => (h.dg i g hi hf).2.1 hg)), own_keep h.awy (fun g hg => hk g (h.awy.lt g hg).2 (fun hf => (h.dg i g hi hf).2.2 hg)), by rw [hsz]; exact h.n1, by rw [hsz]; exact h.n2, fun j hj => ?_, fun j k g hj hk2 hne hg hg2 => ?_, fun j g hj hg => ?_, h.sec, by rw [hsz]; exact h.num⟩, fun g => Iff.rfl⟩, h2.mono (fun g _ hg => hlt g hg), fun g hg => ?_, fun k cs e fr hb e1 e2 => ?_⟩
 ·rw [hsz] at hj
  by_cases hji : j = i
  ·subst hji
   rw [if_pos rfl, show (x.set j δ').ds.getD j dvD = δ' by simp [DvsT.set, List.getD_eq_getElem?_getD, hj]]
   exact h1
  ·rw [if_neg hji, show (x.set i δ').ds.getD j dvD = x.ds.getD j dvD by simp [DvsT.set, List.getD_eq_getElem?_getD, List.getElem?_set, Ne.symm hji]]
   exact (h.dev j hj).keep (fun g hg => hk g ((h.dev j hj).lt g hg) (fun hf => h.dj j i g hj hi hji hg hf))
 ·rw [hsz] at hj hk2
  try dsimp only at hg hg2
  by_cases hji : j = i
  ·subst hji
   rw [if_pos rfl] at hg
   rw [if_neg (fun e => hne e.symm)] at hg2
   rcases h3 g hg with h4 | h4
   ·exact h.dj j k g hj hk2 hne h4 hg2
   ·have := (h.dev k hk2).lt g hg2; omega
  ·rw [if_neg hji] at hg
   by_cases hki : k = i
   ·subst hki
    rw [if_pos rfl] at hg2
    rcases h3 g hg2 with h4 | h4
    ·exact h.dj j k g hj hk2 hne hg h4
    ·have := (h.dev j hj).lt g hg; omega
   ·rw [if_neg hki] at hg2
    exact h.dj j k g hj hk2 hne hg hg2
 ·rw [hsz] at hj
  try dsimp only at hg
  by_cases hji : j = i
  ·subst hji
   rw [if_pos rfl] at hg
   rcases h3 g hg with h4 | h4
   ·exact h.dg j g hj h4
   ·refine ⟨fun e => ?_, fun e => ?_, fun e => ?_⟩
    ·have := (h.grp.lt g e).2; omega
    ·have := (h.lst.lt g e).2; omega
    ·have := (h.awy.lt g e).2; omega
  ·rw [if_neg hji] at hg
   exact h.dg j g hj hg
 ·rcases hg with h4 | h4 | h4 | ⟨j, hj, h4⟩
  ·exact .inl ((hF g).2 (.inl h4))
  ·exact .inl ((hF g).2 (.inr (.inl h4)))
  ·exact .inl ((hF g).2 (.inr (.inr (.inl h4))))
  ·rw [hsz] at hj
   try dsimp only at h4
   by_cases hji : j = i
   ·subst hji
    rw [if_pos rfl] at h4
    rcases h3 g h4 with h5 | h5
    ·exact .inl (hlt g h5)
    ·exact .inr h5
   ·rw [if_neg hji] at h4
    exact .inl ((hF g).2 (.inr (.inr (.inr ⟨j, hj, h4⟩))))
 ·rw [h2.block k (Array.getElem?_eq_some_iff.1 hb).1 (fun hf => by
   rcases (h.dev i hi).type k hf cs e fr hb with h4 | h4
   ·exact e1 h4
   ·exact e2 h4)]
  exact hb
theorem IsDvsV.acell {w : World} {x : DvsT} {V : DvV} {dbs : List Nat} {Fd : Nat → Nat → Prop} (h : IsDvsV w x V dbs Fd) (hn : 0 < x.ds.length) : ∃ b cap, V.a = .slice (some ⟨b, 0, none⟩) x.ds.length cap ∧ ∀ i, i < x.ds.length → w.cell? ⟨b, i, none⟩ = some (.bool (x.away.getD i true)) := by
 obtain ⟨b, cap, e⟩ := own_form1 h.awy (by rw [h.n2]; exact hn)
 have ha := h.awy
 rw [e] at ha
 rw [h.n2] at e ha
 refine ⟨b, cap, e, fun i hi => ?_⟩
 rw [ha.cellAt i (by omega)]
 simp [boolsV, List.getElem?_eq_getElem (show i < x.away.length by rw [h.n2]; exact hi)]
theorem IsDvsV.lcell {w : World} {x : DvsT} {V : DvV} {dbs : List Nat} {Fd : Nat → Nat → Prop} (h : IsDvsV w x V dbs Fd) (hn : 0 < x.ds.length) : ∃ b cap, V.l = .slice (some ⟨b, 0, none⟩) x.ds.length cap ∧ ∀ i, i < x.ds.length → w.cell? ⟨b, i, none⟩ = some (.pointer (some ⟨dbs.getD i 0, 0, none⟩)) := by
 obtain ⟨b, cap, e⟩ := own_form1 h.lst (by rw [h.n1]; exact hn)
 have ha := h.lst
 rw [e] at ha
 rw [h.n1] at e ha
 refine ⟨b, cap, e, fun i hi => ?_⟩
 rw [ha.cellAt i (by omega)]
 simp [ptrsD, List.getElem?_eq_getElem (show i < dbs.length by rw [h.n1]; exact hi)]
theorem IsDvs.form {w : World} {x : DvsT} {V : DvV} {F : Nat → Prop} (h : IsDvs w x V F) : ∃ ga gc la lc wa wc, V = ⟨.slice ga x.gs.length gc, .slice la x.ds.length lc, .slice wa x.ds.length wc⟩ ∧ GSl w ga x.gs.length gc x.gs := by
 obtain ⟨dbs, Fd, h, hF⟩ := h
 obtain ⟨ga, gc, e1⟩ := own_form h.grp
 obtain ⟨la, lc, e2⟩ := own_form h.lst
 obtain ⟨wa, wc, e3⟩ := own_form h.awy
 rw [h.n1] at e2
 rw [h.n2] at e3
 obtain ⟨g, l, a⟩ := V
 dsimp only at e1 e2 e3
 subst e1 e2 e3
 exact ⟨ga, gc, la, lc, wa, wc, rfl, rsl_of_owns h.grp⟩
set_option maxRecDepth 100000 in
set_option maxHeartbeats 1000000 in
theorem here_any {w : World} {x : DvsT} {V : DvV} {F : Nat → Prop} (h : IsDvs w x V F) (d : Nat) (hd : d < x.ds.length) :
  Calls Tryz.prog 43 #[V.val x.secs, .int .i64 (d : Nat)] w fun e w' => e = .returned (.bool (x.here d)) ∧ Below w.heap.size w w' := by
 obtain ⟨ga, gc, _, _, _, _, hV, _⟩ := h.form
 have HI := Lib.hid h
 obtain ⟨dbs, Fd, h, hF⟩ := h
 obtain ⟨ba, ca, ea, hca⟩ := h.acell (by omega)
 obtain ⟨bl, cl, el, hcl⟩ := h.lcell (by omega)
 have hgv : V.g = .slice ga x.gs.length gc := by rw [hV]
 have hla := (h.awy.lt ba (by rw [ea]; rfl)).2
 have hll := (h.lst.lt bl (by rw [el]; rfl)).2
 obtain ⟨w0, hw0⟩ : ∃ w0, w0 = w.alloc (.cells #[.slice ga x.gs.length gc, .int .i64 x.secs, .slice (some ⟨bl, 0, none⟩) x.ds.length cl, .slice (some ⟨ba, 0, none⟩) x.ds.length ca] 37) := ⟨_, rfl⟩
 have hb0 : Below w.heap.size w w0 := by rw [hw0]; exact (Below.refl _ _).alloc (Nat.le_refl _) _
 have hbx : Blk w0 w.heap.size 37 [.slice ga x.gs.length gc, .int .i64 x.secs, .slice (some ⟨bl, 0, none⟩) x.ds.length cl, .slice (some ⟨ba, 0, none⟩) x.ds.length ca] := by rw [hw0]; exact Blk.new w _ _
 have c2 := hbx.cell 2
 have c3 := hbx.cell 3
 have cA : w0.cell? ⟨ba, d, none⟩ = some (.bool (x.away.getD d true)) := by rw [World.cell?_of_block (w := w) (hb0.block ba hla)]; exact hca d hd
 have cL : w0.cell? ⟨bl, d, none⟩ = some (.pointer (some ⟨dbs.getD d 0, 0, none⟩)) := by rw [World.cell?_of_block (w := w) (hb0.block bl hll)]; exact hcl d hd
 have HLO := Lib.hid (dlost_any ((h.dev d hd).below hb0))
 have HB0 := Lib.hid hb0
 have q1 : (d : Int) < (x.ds.length : Int) := by omega
 have q2 : 0 ≤ (d : Int) := by omega
 have hval : V.val x.secs = .agg #[.slice ga x.gs.length gc, .int .i64 x.secs, .slice (some ⟨bl, 0, none⟩) x.ds.length cl, .slice (some ⟨ba, 0, none⟩) x.ds.length ca] := by unfold DvV.val; rw [hgv, el, ea]
 rw [hval]
 obtain ⟨aw, haw⟩ : ∃ aw, aw = x.away.getD d true := ⟨_, rfl⟩
 obtain ⟨lo, hlo⟩ : ∃ lo, lo = (x.ds.getD d dvD).lost := ⟨_, rfl⟩
 have hhere : x.here d = (!aw && !lo) := by unfold DvsT.here; rw [haw, hlo]
 rw [← haw] at cA
 rw [← hlo] at HLO
 rw [hhere]
 clear h hF hV hgv hbx hb0 hca hcl ea el hla hll hval haw hlo hhere
 cases aw with
 | true =>
  go_enter Tryz.func43, Tryz.ntmps43
  go_upto_region 1 with fail
  rw [← hw0]
  clear hw0
  go_wp2_with fail
  go_ret
  exact ⟨rfl, HB0.out⟩
 | false =>
  go_enter Tryz.func43, Tryz.ntmps43
  go_upto_region 1 with fail
  rw [← hw0]
  clear hw0
  go_wp2_with fail
  refine HLO.out.mono ?_
  rintro e w1 ⟨rfl, hb1⟩
  have HB1 := Lib.hid (HB0.out.trans (hb1.mono HB0.out.size))
  clear hb1
  go_wp2_with fail
  go_ret
  exact ⟨by simp, HB1.out⟩
end Go.Proofs.YtfaemcfjbbbbdaaGreat
namespace Go.Proofs.YtfaemcfjbbbbdaaGreat
open Go.RowKit
theorem blkOk_spec {s : Bs} (h : blkOk s = true) : s ≠ [] ∧ s.length % 64 = 0 ∧ s.length ≤ 256 ∧ 1 ≤ s.length / 64 ∧ s.length / 64 ≤ 4 ∧ s.length = 64 * (s.length / 64) := by
 unfold blkOk at h
 simp only [decide_eq_true_eq] at h
 obtain ⟨h1, h2, h3⟩ := h
 have : 0 < s.length := List.length_pos_iff.2 h1
 refine ⟨h1, h2, h3, ?_, ?_, ?_⟩ <;> omega
set_option maxHeartbeats 1000000 in
set_option maxRecDepth 100000 in
theorem sectors_any (s : Bs) (w : World) (h : blkOk s = true) :
  Calls Tryz.prog 83 #[.string ⟨s.toArray⟩] w fun e w' => ∃ v, e = .returned (.tuple #[v, .bool true]) ∧ w'.ownsRow w.heap.size 9 1 v (s.length / 64) (encS (bts (secL s))) ∧ Below w.heap.size w w' := by
 obtain ⟨h1, h2, h3, h4, h5, h6⟩ := blkOk_spec h
 obtain ⟨i0, hi, hz0, hz1, hz2⟩ := info_parts infoStr
 obtain ⟨n, hn⟩ : ∃ n, n = s.length / 64 := ⟨_, rfl⟩
 have hsz : (⟨s.toArray⟩ : ByteArray).size = s.length := by show s.toArray.size = _; simp
 have q0 : s.isEmpty = false := by simpa using h1
 have q1 : ((s.length : Int) % 64 != 0) = false := by simp; omega
 have q2 : ¬ (256 : Int) < (s.length : Int) := by omega
 have HS : Hid (s.length = 64 * n) := Lib.hid (by omega)
 have hL : secL s = secK s n := by unfold secL; rw [hn]
 rw [hL, ← hn]
 have hn4 : n ≤ 4 := by omega
 have q3 : s.length ≤ 256 := by omega
 clear h1 h2 h3 h4 h5 h6 h hsz hn hL
 go_enter Tryz.func83, Tryz.ntmps83
 go_wp2_with fail
 go_loopw [4, 5] (fun v i wr => ∃ k : Nat, k ≤ n ∧ i = .int .i64 ((64 * k : Nat) : Int) ∧ Hid (wr.ownsRow w.heap.size 9 1 v k (encS (bts (secK s k)))) ∧ Hid (Below w.heap.size w wr)) (fun _ i _ => 64 * n - (intOf i).toNat)
 case atStart => exact ⟨0, by omega, rfl, Lib.hid (World.ownsRow_nil _ _ _ _), Lib.hid (Below.refl _ _)⟩
 case round =>
  obtain ⟨k, hk, rfl, HOW, HBR⟩ := hrel
  have hsr := HBR.out.size
  obtain ⟨ao1, cap1, rfl⟩ := own_form HOW.out
  obtain ⟨p, hp⟩ : ∃ p, p = 64 * k := ⟨_, rfl⟩
  rw [← hp]
  by_cases hkn : k < n
  ·have q4 : (p : Int) < (s.length : Int) := by rw [HS.out]; omega
   have q5 : ((p + 64 : Nat) : Int) ≤ (s.length : Int) := by rw [HS.out]; omega
   have q6 : (p : Int) + 64 ≤ (s.length : Int) := by rw [HS.out]; omega
   have q7 : 0 ≤ (p : Int) := by omega
   have HP := Lib.hid hp
   clear hp
   obtain ⟨x, hx⟩ : ∃ x : Bs, x = (s.take (64 * k + 64)).drop (64 * k) := ⟨_, rfl⟩
   have hxe : (⟨s.toArray⟩ : ByteArray).extract p (p + 64) = ⟨x.toArray⟩ := by rw [str_extract, hx, HP.out]
   have HX := Lib.hid hx
   clear hx
   have m1 : k + 1 ≤ maxLen := by unfold maxLen; omega
   have m2 : (k + 1) * 16 ≤ 140737488355328 := by omega
   have m3 : w.heap.size ≤ (wr.alloc (.cells #[.string ⟨x.toArray⟩] 9)).heap.size := by simp; omega
   have HNW := Lib.hid (Blk.news (Blk.new wr 9 [.string ⟨x.toArray⟩]))
   have HOW3 := Lib.hid (HOW.out.alloc (.cells #[.string ⟨x.toArray⟩] 9))
   go_wp2_with (at_builtin; go_must (refine wpList_append_own_at _ rfl (.tmp 25) (.tmp 31) 59 rfl w.heap.size 9 i0 (.string ⟨#[]⟩) 1 16 Tryz.underlying59 hi hz0 hz1 hz2 rfl (by decide) (.slice ao1 k cap1) k (encS (bts (secK s k))) rfl HOW3.out ⟨wr.heap.size, 0, none⟩ 1 1 [.string ⟨x.toArray⟩] rfl rfl HNW.out (by simp [Value.oneCell']) m1 m2 m3 ?_; intro v1 w3 hown1 hgrow1 _ _))
   have e1 : encS (bts (secK s k)) ++ [Value.string ⟨x.toArray⟩] = encS (bts (secK s (k + 1))) := by rw [enc_snoc, secK_succ, HX.out]
   rw [e1] at hown1
   have HBF : Hid (Below w.heap.size w w3) := Lib.hid (below_own (HBR.out.alloc hsr _) HOW3.out hgrow1 m3 (Nat.le_refl _))
   clear e1
   go_roundw
   case rel => exact ⟨k + 1, by omega, by rw [show 64 * (k + 1) = p + 64 by rw [HP.out]; omega]; go_num, Lib.hid hown1, HBF⟩
   case measure => have h1 := HS.out; have h2 := HP.out; simp [intOf]; omega
  ·have q4 : ¬ (p : Int) < (s.length : Int) := by rw [HS.out]; omega
   have hkn2 : k = n := by omega
   subst hkn2
   go_wp2_with fail
   go_ret2
   exact ⟨_, rfl, HOW.out, HBR.out⟩
theorem colD_cells {w : World} {b off cap : Nat} {l : List ColT} (h : RSl w 4 (some ⟨b, off, none⟩) l.length cap (encC l)) {i : Nat} (hi : i < l.length) : w.rangeAt b (off + i * 4) (encC1 (l.getD i cD)) := by
 obtain ⟨b', o', e, _, hc⟩ := h.2.2.2.2 (by omega)
 simp only [Option.some.injEq, Addr.mk.injEq, and_true] at e
 obtain ⟨rfl, rfl⟩ := e
 intro j v hj
 have hj4 : j < 4 := by
  by_cases h4 : j < 4
  ·exact h4
  ·rw [List.getElem?_eq_none (by simp [encC1]; omega)] at hj; cases hj
 rw [Nat.add_assoc, hc _ (by omega)]
 rw [show encC l = l.flatMap encC1 from rfl, flat_get (f := encC1) (K := 4) (fun _ => rfl) l i j cD hi hj4, hj]
theorem rowL_step (l : List ColT) (no k : Nat) : ((List.range (k + 1)).filter fun i => decide ((l.getD i cD).2.2.2 = no) && !(l.getD i cD).2.2.1) = ((List.range k).filter fun i => decide ((l.getD i cD).2.2.2 = no) && !(l.getD i cD).2.2.1) ++ (if (decide ((l.getD k cD).2.2.2 = no) && !(l.getD k cD).2.2.1) = true then [k] else []) := by
 rw [List.range_succ, List.filter_append]
 congr 1
 by_cases h : (decide ((l.getD k cD).2.2.2 = no) && !(l.getD k cD).2.2.1) = true
 ·rw [if_pos h]; simp only [List.filter_cons, h, if_true, List.filter_nil]
 ·rw [if_neg h]; simp only [List.filter_cons, h, if_false, List.filter_nil]; rfl
end Go.Proofs.YtfaemcfjbbbbdaaGreat
namespace Go.Proofs.YtfaemcfjbbbbdaaGreat
open Go.RowKit
theorem iszCo : (Tryz.prog.info? 78).map (·.size) = some 4 := by kernel_rfl
theorem wp_loadCo {dst : Option Tmp} {x : Operand} {ty : TypeId} {pos : String} {after : Array Edge} {guard : Option (Nat × Bool)} {a : Act} {w : World} {next : Act → World → Prop} {Q : Exit → Act → World → Prop} :
  Oper.wp Tryz.prog ⟨dst, .load 78 x, ty, pos, after, guard⟩ a w next Q = LoadW Tryz.prog ⟨dst, .load 78 x, ty, pos, after, guard⟩ 78 (a.eval x) a w next Q := rfl
theorem wp_storeCo {dst : Option Tmp} {x y : Operand} {ty : TypeId} {pos : String} {after : Array Edge} {guard : Option (Nat × Bool)} {a : Act} {w : World} {next : Act → World → Prop} {Q : Exit → Act → World → Prop} :
  Oper.wp Tryz.prog ⟨dst, .store 78 x y, ty, pos, after, guard⟩ a w next Q = StoreW Tryz.prog ⟨dst, .store 78 x y, ty, pos, after, guard⟩ 78 (a.eval x) (a.eval y) a w next Q := rfl
theorem encC1_ones (c : ColT) : ∀ u ∈ encC1 c, u.oneCell' = true := by
 intro u hu
 simp only [encC1, List.mem_cons, List.not_mem_nil, or_false] at hu
 rcases hu with rfl | rfl | rfl | rfl <;> rfl
theorem store_newCo (c : ColT) (w : World) (op : Oper) (a : Act) (next : Act → World → Prop) (Q : Exit → Act → World → Prop) : StoreW Tryz.prog op 78 (.pointer (some ⟨w.heap.size, 0, none⟩)) (.agg (encC1 c).toArray) a (w.alloc (.cells #[.int .i64 0, .int .i64 0, .bool false, .int .i64 0] 78)) next Q = next (a.put op.dst undef) (w.alloc (.cells (encC1 c).toArray 78)) := by
 have h := Blk.new w 78 (#[.int .i64 0, .int .i64 0, .bool false, .int .i64 0] : Array Value).toList
 have e := setCells_alloc w 78 (encC1 c) (#[.int .i64 0, .int .i64 0, .bool false, .int .i64 0] : Array Value).toList rfl
 have s := storeW_part (P := Tryz.prog) (t := 78) (o := 0) (cs := encC1 c) h (Nat.le_refl 4) iszCo (encC1_ones c) op a next Q
 rw [e] at s
 exact s
attribute [local go_sem ↓] wp_loadCo wp_storeCo
def rowK (l : List ColT) (no k : Nat) : List Nat := (List.range k).filter fun i => decide ((l.getD i cD).2.2.2 = no) && !(l.getD i cD).2.2.1
theorem rowK_succ (l : List ColT) (no k : Nat) : rowK l no (k + 1) = rowK l no k ++ (if (decide ((l.getD k cD).2.2.2 = no) && !(l.getD k cD).2.2.1) = true then [k] else []) := rowL_step l no k
theorem rowK_len (l : List ColT) (no k : Nat) : (rowK l no k).length ≤ k := by
 have := List.length_filter_le (fun i => decide ((l.getD i cD).2.2.2 = no) && !(l.getD i cD).2.2.1) (List.range k)
 rw [List.length_range] at this
 exact this
set_option maxHeartbeats 1000000 in
set_option maxRecDepth 100000 in
theorem crow_any (ao : Option Addr) (cap : Nat) (l : List ColT) (no : Nat) (w : World) (h : RSl w 4 ao l.length cap (encC l)) (hl : l.length ≤ 100) :
  Calls Tryz.prog 84 #[.slice ao l.length cap, .int .i64 (no : Nat)] w fun e w' => ∃ v, e = .returned v ∧ w'.ownsRow w.heap.size 3 1 v (rowL l no).length (encNs (rowL l no)) ∧ Below w.heap.size w w' := by
 obtain ⟨i0, hi, hz0, hz1, hz2⟩ := info_parts infoI
 have HR := Lib.hid h
 have hmx : l.length ≤ 9223372036854775807 := by omega
 have hLr : rowL l no = rowK l no l.length := rfl
 rw [hLr]
 clear hLr h
 go_enter Tryz.func84, Tryz.ntmps84
 go_wp2_with fail
 go_loopw [5, 10] (fun v i wr => ∃ k : Nat, k ≤ l.length ∧ i = .int .i64 k ∧ Hid (wr.ownsRow w.heap.size 3 1 v (rowK l no k).length (encNs (rowK l no k))) ∧ Hid (Below w.heap.size w wr)) (fun _ i _ => l.length - (intOf i).toNat)
 case atStart => exact ⟨0, by omega, rfl, Lib.hid (World.ownsRow_nil _ _ _ _), Lib.hid (Below.refl _ _)⟩
 case round =>
  obtain ⟨k, hk, rfl, HOW, HBR⟩ := hrel
  have hsr := HBR.out.size
  obtain ⟨ao1, cap1, rfl⟩ := own_form HOW.out
  by_cases hkn : k < l.length
  ·have q1 : (k : Int) < (l.length : Int) := by omega
   have q2 : 0 ≤ (k : Int) := by omega
   obtain ⟨b, o, hb⟩ : ∃ b o, ao = some ⟨b, o, none⟩ := by
    obtain ⟨b, o, e, _⟩ := HR.out.2.2.2.2 (by omega); exact ⟨b, o, e⟩
   subst hb
   obtain ⟨c, hc⟩ : ∃ c, c = l.getD k cD := ⟨_, rfl⟩
   have hrg := colD_cells (HR.out.below HBR.out) hkn
   rw [← hc] at hrg
   have hl1 := fun op a next Q => loadW_mid (P := Tryz.prog) (t := 78) hrg Tryz.underlying78 rfl iszCo op a next Q
   have hst := fun op a next Q => store_newCo c wr op a next Q
   obtain ⟨w1, hw1⟩ : ∃ w1, w1 = wr.alloc (.cells (encC1 c).toArray 78) := ⟨_, rfl⟩
   obtain ⟨g1, hg1⟩ : ∃ g1, g1 = wr.heap.size := ⟨_, rfl⟩
   have hB1 : Blk w1 g1 78 (encC1 c) := by rw [hw1, hg1]; exact Blk.new wr _ _
   have HB1 : Hid (Below wr.heap.size wr w1) := Lib.hid (by rw [hw1]; exact (Below.refl _ _).alloc (Nat.le_refl _) _)
   have HOW1 := Lib.hid (owns_below HOW.out HB1.out)
   have HBR1 := Lib.hid (HBR.out.trans (HB1.out.mono hsr))
   have HC := Lib.hid hc
   have hkl := rowK_len l no k
   obtain ⟨R, hR⟩ : ∃ R, R = rowK l no k := ⟨_, rfl⟩
   have HRR := Lib.hid hR
   rw [← hR] at hkl HOW1 ⊢
   obtain ⟨c0, c1, cp, cr⟩ := c
   have c2 : w1.cell? ⟨g1, 2, none⟩ = some (.bool cp) := hB1.cell 2
   have c3 : w1.cell? ⟨g1, 3, none⟩ = some (.int .i64 (cr : Nat)) := hB1.cell 3
   clear hrg hB1 hc hR HOW
   go_upto_region 5 with fail
   rw [← hw1, ← hg1]
   clear hw1 hg1 hst hl1
   by_cases hrow : cr = no
   ·subst hrow
    have q3 : ((cr : Int) == (cr : Int)) = true := by simp
    cases cp with
    | true =>
     go_wp2_with fail
     go_roundw
     case rel => exact ⟨k + 1, by omega, by go_num, Lib.hid (by rw [rowK_succ, ← HC.out, ← HRR.out, if_neg (by simp), List.append_nil]; exact HOW1.out), HBR1⟩
     case measure => simp [intOf]; omega
    | false =>
     have m1 : R.length + 1 ≤ maxLen := by unfold maxLen; omega
     have m2 : (R.length + 1) * 8 ≤ 140737488355328 := by omega
     have m3 : w.heap.size ≤ (w1.alloc (.cells #[.int .i64 (k : Nat)] 3)).heap.size := by have := HBR1.out.size; simp; omega
     have HNW := Lib.hid (Blk.news (Blk.new w1 3 [.int .i64 (k : Nat)]))
     have HOW3 := Lib.hid (HOW1.out.alloc (.cells #[.int .i64 (k : Nat)] 3))
     go_wp2_with (at_builtin; go_must (refine wpList_append_own_at _ rfl (.tmp 24) (.tmp 26) 88 rfl w.heap.size 3 i0 (.int .i64 0) 1 8 Tryz.underlying88 hi hz0 hz1 hz2 rfl (by decide) (.slice ao1 R.length cap1) R.length (encNs R) rfl HOW3.out ⟨w1.heap.size, 0, none⟩ 1 1 [.int .i64 (k : Nat)] rfl rfl HNW.out (by simp [Value.oneCell']) m1 m2 m3 ?_; intro v1 w3 hown1 hgrow1 _ _))
     have HBF : Hid (Below w.heap.size w w3) := Lib.hid (below_own (HBR1.out.alloc (by have := HBR1.out.size; omega) _) HOW3.out hgrow1 m3 (Nat.le_refl _))
     have hown2 : w3.ownsRow w.heap.size 3 1 v1 (rowK l cr (k + 1)).length (encNs (rowK l cr (k + 1))) := by
      rw [rowK_succ, ← HC.out, ← HRR.out, if_pos (by simp), List.length_append, show encNs (R ++ [k]) = encNs R ++ [.int .i64 (k : Nat)] by simp [encNs]]
      exact hown1
     have HO2 := Lib.hid hown2
     clear hown1 hgrow1 hown2
     go_roundw
     case rel => exact ⟨k + 1, by omega, by go_num, HO2, HBF⟩
     case measure => simp [intOf]; omega
   ·have q3 : ((cr : Int) == (no : Int)) = false := by simp; omega
    have hf : (decide (((c0, c1, cp, cr) : ColT).2.2.2 = no) && !((c0, c1, cp, cr) : ColT).2.2.1) = false := by simp [hrow]
    go_wp2_with fail
    go_roundw
    case rel => exact ⟨k + 1, by omega, by go_num, Lib.hid (by rw [rowK_succ, ← HC.out, ← HRR.out, if_neg (by rw [hf]; decide), List.append_nil]; exact HOW1.out), HBR1⟩
    case measure => simp [intOf]; omega
  ·obtain rfl : k = l.length := by omega
   have q1 : ¬ (l.length : Int) < (l.length : Int) := by omega
   go_wp2_with fail
   go_ret
   exact ⟨_, rfl, HOW.out, HBR.out⟩
end Go.Proofs.YtfaemcfjbbbbdaaGreat
namespace Go.Proofs.YtfaemcfjbbbbdaaGreat
open Go.RowKit
theorem mirL_get (first at_ size : Nat) : ∀ (d i : Nat), i < d * size → (mirL first at_ size d).getD i cD = (first + i / size, 16 + at_ + i % size, false, i % size)
 | 0, i, h => by omega
 | d + 1, i, h => by
  unfold mirL
  have hl := mirL_length first at_ size d
  rw [List.getD_eq_getElem?_getD]
  by_cases hi : i < d * size
  ·rw [List.getElem?_append_left (by rw [hl]; exact hi), ← List.getD_eq_getElem?_getD]
   exact mirL_get first at_ size d i hi
  ·have hs : 0 < size := by
    rcases Nat.eq_zero_or_pos size with e | e
    ·subst e; omega
    ·exact e
   have h2 : i < d * size + size := by rw [← Nat.succ_mul]; exact h
   have e1 : i / size = d := Nat.div_eq_of_lt_le (by omega) (by rw [Nat.succ_mul]; omega)
   have e2 : i % size = i - d * size := by
    have := Nat.div_add_mod i size
    rw [e1, Nat.mul_comm] at this
    omega
   rw [List.getElem?_append_right (by rw [hl]; omega), hl]
   unfold mirD
   rw [List.getElem?_map, List.getElem?_range (by omega), e1, e2]
   rfl
theorem colsL_len {gs : Gs} {secs : Int} {g a size : Nat} (h : mayC gs secs g a size = true) : 1 ≤ (colsL gs g a size).length ∧ (colsL gs g a size).length ≤ 32 := by
 obtain ⟨hr, _, hg, hs1, hs4, _⟩ := mayC_spec h
 have hgr := getD_right hr (show g < gs.length by omega)
 unfold colsL
 split
 ·rename_i hk
  rw [mirL_length]
  have hw : 1 ≤ (gs.getD g (0, 0)).2.toNat ∧ (gs.getD g (0, 0)).2.toNat ≤ 8 := by omega
  have h1 : 1 ≤ size := by omega
  have h4 : size ≤ 4 := by omega
  constructor
  ·exact Nat.mul_le_mul hw.1 h1
  ·exact Nat.le_trans (Nat.mul_le_mul hw.2 h4) (by omega)
 ·rename_i hk
  have hp := parL_length (wsum gs g).toNat (gs.getD g (0, 0)).2.toNat a size
  refine ⟨?_, by omega⟩
  obtain ⟨k, hk⟩ : ∃ k, size = k + 1 := ⟨size - 1, by omega⟩
  rw [hk]
  unfold parL
  rw [parS_length]
  omega
theorem encL_length (l : List ColT) (data : List Bs) : (encL l data).length = l.length := by simp [encL]
def dcount (l : List ColT) (k : Nat) : Nat := ((l.take k).filter fun c => !c.2.2.1).length
theorem dcount_succ (l : List ColT) (k : Nat) (h : k < l.length) : dcount l (k + 1) = dcount l k + if (l.getD k cD).2.2.1 = true then 0 else 1 := by
 unfold dcount
 rw [List.take_succ_eq_append_getElem h, List.filter_append, List.length_append, List.getD_eq_getElem?_getD, List.getElem?_eq_getElem h]
 congr 1
 simp only [Option.getD_some]
 by_cases hc : l[k].2.2.1 = true
 ·simp [hc]
 ·simp [hc]
theorem dcount_le (l : List ColT) (k : Nat) : dcount l k ≤ k := by
 unfold dcount
 have := List.length_filter_le (fun c : ColT => !c.2.2.1) (l.take k)
 rw [List.length_take] at this
 omega
theorem dataL_get (data : List Bs) : ∀ (l : List ColT) (n i : Nat), i < l.length → (dataL data n l).getD i [] = if (l.getD i cD).2.2.1 = true then [] else data.getD ((n + dcount l i) % data.length) []
 | [], n, i, h => by simp at h
 | c :: r, n, 0, h => by
  unfold dataL
  simp only [List.getD_cons_zero, dcount, List.take_zero, List.filter_nil, List.length_nil, Nat.add_zero]
  split <;> simp
 | c :: r, n, i + 1, h => by
  have ih := dataL_get data r
  unfold dataL
  have hd : dcount (c :: r) (i + 1) = (if c.2.2.1 = true then 0 else 1) + dcount r i := by
   unfold dcount
   rw [List.take_succ_cons, List.filter_cons]
   cases c.2.2.1 <;> simp <;> omega
  rw [hd]
  split
  ·rename_i hc
   simp only [List.getD_cons_succ]
   rw [ih n i (by simpa using h), Nat.zero_add]
  ·rename_i hc
   simp only [List.getD_cons_succ]
   rw [ih (n + 1) i (by simpa using h), Nat.add_assoc]
end Go.Proofs.YtfaemcfjbbbbdaaGreat
namespace Go.Proofs.YtfaemcfjbbbbdaaGreat
open Go.RowKit
theorem u8info : (Tryz.prog.info? 5).map (fun i => (i.zero, i.size, i.bytes)) = some (some (.int .u8 0), 1, 1) := by kernel_rfl
set_option maxHeartbeats 400000 in
theorem one_any (ao : Option Addr) (len cap n : Nat) (ss : List ByteArray) (w : World) (hsl : SSl w ao len cap ss) (hm : len ≤ 1000000000) (h0 : 0 < len) (hn : n ≤ 1000000)
  (hs : ∀ s ∈ ss, s.size = n) :
  Calls Tryz.prog 108 #[.slice ao len cap] w fun e w' =>
   e = .returned (.string ⟨(xorL n ss).toArray⟩) ∧ Below w.heap.size w w' := by
 have hl := hsl.len
 obtain ⟨b, off, rfl, hb, hc⟩ := hsl.pos h0
 obtain ⟨s0, e0⟩ : ∃ s, s = ss[0] := ⟨_, rfl⟩
 have hc0 : w.cell? ⟨b, off, none⟩ = some (.string s0) := by have := hc 0 h0; rw [e0]; simpa [List.getD, hl, h0] using this
 have hs0 : s0.size = n := by rw [e0]; exact hs _ (List.getElem_mem _)
 obtain ⟨i0, hi, hz0, hz1, hz2⟩ := info_parts u8info
 subst hs0
 have HL : Hid (ss.length = len) := hl
 have HS : Hid (∀ s ∈ ss, s.size = s0.size) := hs
 have HC : Hid (∀ j, j < len → w.cell? ⟨b, off + j, none⟩ = some (.string (ss.getD j ByteArray.empty))) := hc
 clear e0 hs hl hc
 go_enter Tryz.func108, Tryz.ntmps108
 go_wp2_with (first
  | (at_make; refine wpList_make_full w rfl (.tmp 10) (.tmp 10) 82 rfl w.heap.size 5 i0 (.int .u8 0) 1 Tryz.underlying82 hi hz0 hz1 .i64 .i64 s0.size s0.size s0.size rfl rfl rfl rfl (by rw [hz2]; omega) (by unfold maxLen; omega) (Nat.le_refl _) ?_; intro w1 hown1 hgrow1))
 rw [enc8_zero] at hown1
 have hb1 : Below w.heap.size w w1 := (Below.refl _ _).grown hgrow1 (Nat.le_refl _) (by simp)
 clear hgrow1 hc0
 go_loopw [14] (fun i wr => ∃ k : Nat, k ≤ len ∧ i = .int .i64 k ∧ wr.ownsRow w.heap.size 5 1 (.slice (some ⟨w.heap.size, 0, none⟩) s0.size s0.size) s0.size (enc8 (xorL s0.size (ss.take k))) ∧ Below w.heap.size w wr) (fun i _ => len - (intOf i).toNat)
 case atStart => exact ⟨0, by omega, rfl, hown1, hb1⟩
 case round =>
  obtain ⟨k, hk, rfl, hown, hbel⟩ := hrel
  clear hown1 hb1
  obtain ⟨wo, rfl⟩ : ∃ wo : World, wo = wr := ⟨_, rfl⟩
  by_cases hkl : k < len
  ·obtain ⟨s, es⟩ : ∃ s, s = ss.getD k ByteArray.empty := ⟨_, rfl⟩
   have hcx : wo.cell? ⟨b, off + k, none⟩ = some (.string s) := by rw [es]; exact (hbel.cell (by exact hb)).trans (HC.out k hkl)
   have hsz : s.size = s0.size := HS.out s (by rw [es, List.getD_eq_getElem?_getD, List.getElem?_eq_getElem (by rw [HL.out]; exact hkl)]; exact List.getElem_mem _)
   have ES : Hid (s = ss.getD k ByteArray.empty) := es
   have HZ : Hid (s.size = s0.size) := hsz
   clear es hsz
   go_wp2
   go_loopw [20] (fun i wr => ∃ j : Nat, j ≤ s0.size ∧ i = .int .i64 j ∧ wr.ownsRow w.heap.size 5 1 (.slice (some ⟨w.heap.size, 0, none⟩) s0.size s0.size) s0.size (enc8 (mix (xorL s0.size (ss.take k)) s.data.toList j)) ∧ Below w.heap.size w wr) (fun i _ => s0.size - (intOf i).toNat)
   case atStart => exact ⟨0, by omega, rfl, by rw [mix_zero]; exact hown, hbel⟩
   case round =>
    obtain ⟨j, hj, rfl, hown2, hbel2⟩ := hrel
    clear hown hbel hcx
    by_cases hjl : j < s0.size
    ·obtain ⟨acc, ea⟩ : ∃ acc, acc = mix (xorL s0.size (ss.take k)) s.data.toList j := ⟨_, rfl⟩
     rw [← ea] at hown2
     have hal : acc.length = s0.size := by rw [ea, mix_length, xorL_length]
     obtain ⟨x, ex⟩ : ∃ x, acc[j]? = some x := ⟨_, List.getElem?_eq_getElem (by rw [hal]; exact hjl)⟩
     have hcell : wr.cell? ⟨w.heap.size, j, none⟩ = some (.int .u8 x.toNat) := by rw [hown2.cellAt j (by omega), enc8, List.getElem?_map, ex]; rfl
     have hfr := hown2.frozenAt j
     have hjs : j < s.size := by have := HZ.out; omega
     have hst := fun u => hown2.stored j u
     have EA := Lib.hid ea
     have EX := Lib.hid ex
     clear ea ex
     go_wp2
     go_region
     go_wp2
     go_roundw
     case rel =>
      refine ⟨j + 1, by omega, by go_num, ?_, ?_⟩
      ·have h1 := (hst (.int .u8 (x ^^^ s[j]).toNat)).1
       rw [enc8_set, ← getD_data s j hjs, ← mix_step _ _ _ _ _ EA.out (by rw [xorL_length]; exact hjl) EX.out, getD_data s j hjs] at h1
       rw [xor_u8]
       exact h1
      ·exact (hbel2.setCell (p := ⟨w.heap.size, j, none⟩) (Nat.le_refl _) _).drew
     case measure => simp [intOf]; omega
    ·have hjn : j = s0.size := by omega
     subst hjn
     go_wp2
     go_roundw
     case rel => exact ⟨k + 1, by omega, by go_num, by rw [xorL_step _ _ _ (by rw [HL.out]; exact hkl), ← ES.out]; exact hown2, hbel2⟩
     case measure => simp [intOf]; omega
  ·have hkn : k = len := by omega
   subst hkn
   have hss : ss.take k = ss := List.take_of_length_le (by rw [HL.out]; exact Nat.le_refl _)
   rw [hss] at hown
   clear hss
   have hcv := run_string_of_own (P := Tryz.prog) hown 82 5 9 Tryz.underlying82 Tryz.underlying5 Tryz.underlying9
   go_wp2
   go_ret
   exact ⟨rfl, hbel⟩
end Go.Proofs.YtfaemcfjbbbbdaaGreat
namespace Go.Proofs.YtfaemcfjbbbbdaaGreat
open Go.RowKit
set_option maxHeartbeats 400000 in
theorem indexFuncS_any (F : Nat) (capt : Array Value) (p : Nat → Bool) (ao : Option Addr) (n cap : Nat) (ss : List ByteArray) (w : World) (hsl : SSl w ao n cap ss) (hm : n ≤ 1000000000)
  (hF : ∀ args W, (callFunc F args).run Tryz.prog W = .ok (.enter F args) W)
  (hf : ∀ j, j < n → ∀ W, Below w.heap.size w W → Calls Tryz.prog F (#[.string (ss.getD j ByteArray.empty)] ++ capt) W fun e W' => e = .returned (.bool (p j)) ∧ Below W.heap.size W W') :
  Calls Tryz.prog 141 #[.slice ao n cap, .func (.func F) #[] capt] w fun e w' => e = .returned (.int .i64 (firstIdx p n)) ∧ Below w.heap.size w w' := by
 have HF := Lib.hid hf
 have HSL := Lib.hid hsl
 clear hf hsl
 go_enter Tryz.func141, Tryz.ntmps141
 go_wp2_with fail
 go_loopw [8] (fun i wr => ∃ k : Nat, k ≤ n ∧ i = .int .i64 k ∧ Hid (∀ j, j < k → p j = false) ∧ Below w.heap.size w wr) (fun i _ => n - (intOf i).toNat)
 case atStart => exact ⟨0, by omega, rfl, Lib.hid fun j hj => absurd hj (by omega), Below.refl _ _⟩
 case round =>
  obtain ⟨k, hk, rfl, hno, hbel⟩ := hrel
  by_cases hkn : k < n
  ·obtain ⟨b, off, rfl, hb, hc⟩ := HSL.out.pos (by omega)
   obtain ⟨s, es⟩ : ∃ s, s = ss.getD k ByteArray.empty := ⟨_, rfl⟩
   have hcx : wr.cell? ⟨b, off + k, none⟩ = some (.string s) := by rw [es]; exact (hbel.cell (by exact hb)).trans (hc k hkn)
   have hcl := HF.out k hkn wr hbel
   rw [← es] at hcl
   have HCL := Lib.hid hcl
   have ES := Lib.hid es
   have HC := Lib.hid hc
   clear hc es hcl
   cases hp : p k with
   | true =>
    rw [hp] at HCL
    go_wp2_with fail
    refine HCL.out.mono ?_
    rintro e w1 ⟨rfl, hb1⟩
    go_wp2_with fail
    go_ret
    exact ⟨by rw [firstIdx_at hkn hp hno.out]; rfl, hbel.trans (hb1.mono hbel.size)⟩
   | false =>
    rw [hp] at HCL
    have HP := Lib.hid hp
    clear hp
    go_wp2_with fail
    refine HCL.out.mono ?_
    rintro e w1 ⟨rfl, hb1⟩
    go_wp2_with fail
    go_roundw
    case rel =>
     refine ⟨k + 1, by omega, by go_num, Lib.hid fun j hj => ?_, hbel.trans (hb1.mono hbel.size)⟩
     by_cases e : j = k
     ·rw [e]; exact HP.out
     ·exact hno.out j (by omega)
    case measure => simp [intOf]; omega
  ·have hkn' : k = n := by omega
   subst hkn'
   go_wp2_with fail
   go_ret
   exact ⟨by rw [firstIdx_none hno.out]; rfl, hbel⟩
theorem containsFuncS_any (F : Nat) (capt : Array Value) (p : Nat → Bool) (ao : Option Addr) (n cap : Nat) (ss : List ByteArray) (w : World) (hsl : SSl w ao n cap ss) (hm : n ≤ 1000000000)
  (hF : ∀ args W, (callFunc F args).run Tryz.prog W = .ok (.enter F args) W)
  (hf : ∀ j, j < n → ∀ W, Below w.heap.size w W → Calls Tryz.prog F (#[.string (ss.getD j ByteArray.empty)] ++ capt) W fun e W' => e = .returned (.bool (p j)) ∧ Below W.heap.size W W') :
  Calls Tryz.prog 125 #[.slice ao n cap, .func (.func F) #[] capt] w fun e w' => e = .returned (.bool ((List.range n).any p)) ∧ Below w.heap.size w w' := by
 have H := Lib.hid (indexFuncS_any F capt p ao n cap ss w hsl hm hF hf)
 clear hF hf hsl
 go_enter Tryz.func125, Tryz.ntmps125
 go_wp2_with fail
 refine H.out.mono ?_
 rintro e w1 ⟨rfl, hb1⟩
 go_wp2_with fail
 go_ret
 exact ⟨by rw [← firstIdx_ge]; rfl, hb1⟩
theorem even1_any (s s0 : ByteArray) (B b off n cap : Nat) (w : World) (hB : w.cell? ⟨B, 0, none⟩ = some (.slice (some ⟨b, off, none⟩) n cap)) (h0 : w.cell? ⟨b, off, none⟩ = some (.string s0)) (hn : 0 < n) :
  Calls Tryz.prog 126 #[.string s, .pointer (some ⟨B, 0, none⟩)] w fun e w' => e = .returned (.bool ((s.size : Int) != s0.size)) ∧ Below w.heap.size w w' := by
 go_enter Tryz.func126, Tryz.ntmps126
 go_wp2_with fail
 go_ret
 exact ⟨rfl, Below.refl _ _⟩
theorem callFunc_even1 (args : Array Value) (W : World) : (callFunc 126 args).run Tryz.prog W = .ok (.enter 126 args) W := by kernel_rfl
theorem even_any (ao : Option Addr) (n cap : Nat) (ss : List ByteArray) (w : World) (hsl : SSl w ao n cap ss) (hm : n ≤ 1000000000) :
  Calls Tryz.prog 107 #[.slice ao n cap] w fun e w' => e = .returned (.bool (evenL ss)) ∧ Below w.heap.size w w' := by
 have hb0 : Below w.heap.size w (w.alloc (.cells #[.slice ao n cap] 59)) := (Below.refl _ _).alloc (Nat.le_refl _) _
 have hcB : (w.alloc (.cells #[.slice ao n cap] 59)).cell? ⟨w.heap.size, 0, none⟩ = some (.slice ao n cap) := by rw [World.cell?_alloc_at _ _ _ _ rfl]; rfl
 have hlen := hsl.len
 have H := containsFuncS_any 126 #[.pointer (some ⟨w.heap.size, 0, none⟩)] (fun j => ((ss.getD j ByteArray.empty).size : Int) != (ss.getD 0 ByteArray.empty).size) ao n cap ss (w.alloc (.cells #[.slice ao n cap] 59))
  (hsl.below hb0) hm callFunc_even1 (fun j hj W hW => by
   have hsl' := (hsl.below hb0).below hW
   obtain ⟨b, off, rfl, hb, hc⟩ := hsl'.pos (by omega)
   refine even1_any _ _ _ b off n cap W ?_ (hc 0 (by omega)) (by omega)
   rw [hW.cell (p := ⟨w.heap.size, 0, none⟩) (by simp)]
   exact hcB)
 have HH := Lib.hid H
 have HB0 := Lib.hid hb0
 clear H hsl hcB hb0
 go_enter Tryz.func107, Tryz.ntmps107
 go_wp2_with fail
 refine HH.out.mono ?_
 rintro e w1 ⟨rfl, hb1⟩
 go_wp2_with fail
 go_ret
 refine ⟨?_, HB0.out.trans (hb1.mono (by simp))⟩
 rw [← even_eq ss n hlen]
 rfl
theorem make_no (ao : Option Addr) (n cap : Nat) (ss : List ByteArray) (w : World) (hsl : SSl w ao n cap ss) (hm : n ≤ 1000000000) (hno : n = 0 ∨ evenL ss = false) :
  Calls Tryz.prog 85 #[.slice ao n cap] w fun e w' => e = .returned (.tuple #[.string ByteArray.empty, .int .i64 1]) ∧ Below w.heap.size w w' := by
 have HE := Lib.hid (even_any ao n cap ss w hsl hm)
 have HNO := Lib.hid hno
 clear hno hsl
 by_cases h0 : n = 0
 ·subst h0
  go_enter Tryz.func85, Tryz.ntmps85
  go_wp2_with fail
  go_ret2
  exact ⟨rfl, Below.refl _ _⟩
 ·have hz : ((n : Int) == 0) = false := by simpa using h0
  have hev : evenL ss = false := HNO.out.resolve_left h0
  rw [hev] at HE
  clear hev
  go_enter Tryz.func85, Tryz.ntmps85
  go_wp2_with fail
  refine HE.out.mono ?_
  rintro e w1 ⟨rfl, hb1⟩
  go_wp2_with fail
  go_ret2
  exact ⟨rfl, hb1⟩
theorem make_yes (ao : Option Addr) (n cap m : Nat) (ss : List ByteArray) (w : World) (hsl : SSl w ao n cap ss) (hm : n ≤ 1000000000) (h0 : 0 < n) (hmm : m ≤ 1000000) (hs : ∀ s ∈ ss, s.size = m) :
  Calls Tryz.prog 85 #[.slice ao n cap] w fun e w' => e = .returned (.tuple #[.string ⟨(xorL m ss).toArray⟩, .int .i64 0]) ∧ Below w.heap.size w w' := by
 have hev : evenL ss = true := evenL_of ss m hs
 have HE := Lib.hid (even_any ao n cap ss w hsl hm)
 rw [hev] at HE
 clear hev
 have HO := Lib.hid fun W (hW : Below w.heap.size w W) => one_any ao n cap m ss W (hsl.below hW) hm h0 hmm hs
 clear hs hsl
 have hz : ((n : Int) == 0) = false := by simp; omega
 go_enter Tryz.func85, Tryz.ntmps85
 go_wp2_with fail
 refine HE.out.mono ?_
 rintro e w1 ⟨rfl, hb1⟩
 go_wp2_with fail
 refine (HO.out w1 hb1).mono ?_
 rintro e w2 ⟨rfl, hb2⟩
 go_wp2_with fail
 go_ret2
 exact ⟨rfl, hb1.trans (hb2.mono hb1.size)⟩
end Go.Proofs.YtfaemcfjbbbbdaaGreat
namespace Go.Proofs.YtfaemcfjbbbbdaaGreat
open Go.RowKit
attribute [local go_sem ↓] wp_loadCo wp_storeCo
theorem make_any (ao : Option Addr) (n cap : Nat) (l : List Bs) (w : World) (h : SSl w ao n cap (bts l)) (hm : n ≤ 1000000) (hl : ∀ s ∈ l, s.length ≤ 1000000) :
  Calls Tryz.prog 85 #[.slice ao n cap] w fun e w' => ∃ m : Int, e = .returned (.tuple #[.string ⟨(makeB l).toArray⟩, .int .i64 m]) ∧ Below w.heap.size w w' := by
 have hlen : l.length = n := by have := h.1; simpa [encS, bts] using this
 by_cases hno : n = 0 ∨ evenL (bts l) = false
 ·have e : makeB l = [] := by
   unfold makeB
   rw [if_pos]
   rcases hno with h0 | h0
   ·left; rw [h0] at hlen; exact List.eq_nil_of_length_eq_zero hlen
   ·exact .inr h0
  rw [e]
  refine (make_no ao n cap (bts l) w h (by omega) hno).mono ?_
  rintro e w' ⟨rfl, hb⟩
  exact ⟨1, rfl, hb⟩
 ·have hn : 0 < n := by omega
  have hev : evenL (bts l) = true := by
   cases hh : evenL (bts l) with
   | true => rfl
   | false => exact absurd (.inr hh) hno
  have hs := evenL_size hev
  have h0 : (bts l).getD 0 ByteArray.empty = ⟨(l.getD 0 []).toArray⟩ := by
   cases l with
   | nil => simp at hlen; omega
   | cons a r => rfl
  rw [h0] at hs
  have hsz : (⟨(l.getD 0 []).toArray⟩ : ByteArray).size = (l.getD 0 []).length := by show (l.getD 0 []).toArray.size = _; simp
  rw [hsz] at hs
  have hlt : (l.getD 0 []).length ≤ 1000000 := by
   cases l with
   | nil => simp
   | cons a r => exact hl a (by simp)
  have e : makeB l = xorL (l.getD 0 []).length (bts l) := by
   unfold makeB
   rw [if_neg]
   rintro (h1 | h1)
   ·rw [h1] at hlen; simp at hlen; omega
   ·rw [hev] at h1; cases h1
  rw [e]
  refine (make_yes ao n cap (l.getD 0 []).length (bts l) w h (by omega) hn hlt hs).mono ?_
  rintro e w' ⟨rfl, hb⟩
  exact ⟨0, rfl, hb⟩
theorem encS_zero' (n : Nat) : (madeCells (Value.string ⟨#[]⟩).cells (n * 1)).toList = encS (bts (List.replicate n [])) := by
 rw [Nat.mul_one, encS, bts, List.map_replicate, List.map_replicate]
 exact toList_madeCells_one _ _
theorem make_strs (n : Nat) (hn : n ≤ 1000000) (w : World) : (Instr.makeSlice 59 (.int .i64 (n : Int)) (.int .i64 (n : Int))).run Tryz.prog w = .ok (.slice (some ⟨w.heap.size, 0, none⟩) n n) (w.alloc (.cells (encS (bts (List.replicate n []))).toArray 9)) := by
 obtain ⟨i0, hi, hi0, hi1, hi2⟩ := info_parts infoStr
 have := run_make (P := Tryz.prog) w 59 9 i0 (.string ⟨#[]⟩) Tryz.underlying59 hi hi0 .i64 .i64 (n : Int) (n : Int) (by omega) (by omega) (by rw [hi2]; omega) (by omega)
 rw [this, hi1]
 simp only [Int.toNat_natCast]
 rw [← encS_zero']
theorem blk_str {w : World} {g : Nat} {O : List Bs} (h : Blk w g 9 (encS (bts O))) {j : Nat} (hj : j < O.length) : w.cell? ⟨g, j, none⟩ = some (.string ⟨(O.getD j []).toArray⟩) := by
 rw [h.cell]
 simp [encS, bts, List.getElem?_eq_getElem hj]
theorem blk_strset {w : World} {g : Nat} {O : List Bs} (h : Blk w g 9 (encS (bts O))) (j : Nat) (t : Bs) : Blk (w.setCell ⟨g, j, none⟩ (.string ⟨t.toArray⟩)) g 9 (encS (bts (O.set j t))) := by
 have := h.setCell j (.string ⟨t.toArray⟩)
 have e : (encS (bts O)).set j (.string ⟨t.toArray⟩) = encS (bts (O.set j t)) := by simp [encS, bts, List.map_set]
 rw [e] at this
 exact this
theorem own_int {w : World} {b g n cap j : Nat} {l : List Nat} (h : w.ownsRow b 3 1 (.slice (some ⟨g, 0, none⟩) n cap) n (encNs l)) (hj : j < l.length) : w.cell? ⟨g, j, none⟩ = some (.int .i64 ((l.getD j 0 : Nat) : Int)) := by
 have hl : l.length = n := by have := h.1; simpa [encNs] using this
 rw [h.cellAt j (by omega)]
 simp [encNs, List.getElem?_eq_getElem hj]
def encAt (l : List ColT) (data : List Bs) (k j : Nat) : Bs := if j < k then (encL l data).getD j [] else (dataL data 0 l).getD j []
theorem encAt_all (l : List ColT) (data : List Bs) {O : List Bs} (hO : O.length = l.length) (h : ∀ j, j < l.length → O.getD j [] = encAt l data l.length j) : O = encL l data := by
 apply List.ext_getElem
 ·rw [hO, encL_length]
 ·intro j h1 h2
  have := h j (by omega)
  unfold encAt at this
  rw [if_pos (by omega)] at this
  simpa [List.getD_eq_getElem?_getD, List.getElem?_eq_getElem h1, List.getElem?_eq_getElem h2] using this
theorem encL_get (l : List ColT) (data : List Bs) {i : Nat} (hi : i < l.length) : (encL l data).getD i [] = if (l.getD i cD).2.2.1 = true then makeB ((rowL l (l.getD i cD).2.2.2).map fun k => (dataL data 0 l).getD k []) else (dataL data 0 l).getD i [] := by
 unfold encL
 rw [List.getD_eq_getElem?_getD, List.getElem?_map, List.getElem?_range hi]
 rfl
end Go.Proofs.YtfaemcfjbbbbdaaGreat
namespace Go.Proofs.YtfaemcfjbbbbdaaGreat
open Go.RowKit
theorem ptrs_pos {w : World} {ao : Option Addr} {n cap : Nat} {l : List Nat} (h : RSl w 1 ao n cap (ptrsD l)) (hn : 0 < n) : ∃ b off, ao = some ⟨b, off, none⟩ ∧ b < w.heap.size ∧ ∀ k, k < n → w.cell? ⟨b, off + k, none⟩ = some (.pointer (some ⟨l.getD k 0, 0, none⟩)) := by
 have hl : l.length = n := by have := h.1; simpa [ptrsD] using this
 obtain ⟨b, off, e, hb, hc⟩ := h.2.2.2.2 hn
 refine ⟨b, off, e, hb, fun k hk => ?_⟩
 rw [hc k (by omega)]
 simp [ptrsD, List.getElem?_eq_getElem (show k < l.length by omega)]
set_option maxHeartbeats 400000 in
theorem indexFuncD_any (F : Nat) (capt : Array Value) (p : Nat → Bool) (ao : Option Addr) (n cap : Nat) (ss : List Nat) (w : World) (hsl : RSl w 1 ao n cap (ptrsD ss)) (hm : n ≤ 1000000000)
  (hF : ∀ args W, (callFunc F args).run Tryz.prog W = .ok (.enter F args) W)
  (hf : ∀ j, j < n → ∀ W, Below w.heap.size w W → Calls Tryz.prog F (#[.pointer (some ⟨ss.getD j 0, 0, none⟩)] ++ capt) W fun e W' => e = .returned (.bool (p j)) ∧ Below W.heap.size W W') :
  Calls Tryz.prog 80 #[.slice ao n cap, .func (.func F) #[] capt] w fun e w' => e = .returned (.int .i64 (firstIdx p n)) ∧ Below w.heap.size w w' := by
 have HF := Lib.hid hf
 have HSL := Lib.hid hsl
 clear hf hsl
 go_enter Tryz.func80, Tryz.ntmps80
 go_wp2_with fail
 go_loopw [8] (fun i wr => ∃ k : Nat, k ≤ n ∧ i = .int .i64 k ∧ Hid (∀ j, j < k → p j = false) ∧ Below w.heap.size w wr) (fun i _ => n - (intOf i).toNat)
 case atStart => exact ⟨0, by omega, rfl, Lib.hid fun j hj => absurd hj (by omega), Below.refl _ _⟩
 case round =>
  obtain ⟨k, hk, rfl, hno, hbel⟩ := hrel
  by_cases hkn : k < n
  ·obtain ⟨b, off, rfl, hb, hc⟩ := ptrs_pos HSL.out (by omega)
   obtain ⟨s, es⟩ : ∃ s, s = ss.getD k 0 := ⟨_, rfl⟩
   have hcx : wr.cell? ⟨b, off + k, none⟩ = some (.pointer (some ⟨s, 0, none⟩)) := by rw [es]; exact (hbel.cell (by exact hb)).trans (hc k hkn)
   have hcl := HF.out k hkn wr hbel
   rw [← es] at hcl
   have HCL := Lib.hid hcl
   have ES := Lib.hid es
   have HC := Lib.hid hc
   clear hc es hcl
   cases hp : p k with
   | true =>
    rw [hp] at HCL
    go_wp2_with fail
    refine HCL.out.mono ?_
    rintro e w1 ⟨rfl, hb1⟩
    go_wp2_with fail
    go_ret
    exact ⟨by rw [firstIdx_at hkn hp hno.out]; rfl, hbel.trans (hb1.mono hbel.size)⟩
   | false =>
    rw [hp] at HCL
    have HP := Lib.hid hp
    clear hp
    go_wp2_with fail
    refine HCL.out.mono ?_
    rintro e w1 ⟨rfl, hb1⟩
    go_wp2_with fail
    go_roundw
    case rel =>
     refine ⟨k + 1, by omega, by go_num, Lib.hid fun j hj => ?_, hbel.trans (hb1.mono hbel.size)⟩
     by_cases e : j = k
     ·rw [e]; exact HP.out
     ·exact hno.out j (by omega)
    case measure => simp [intOf]; omega
  ·have hkn' : k = n := by omega
   subst hkn'
   go_wp2_with fail
   go_ret
   exact ⟨by rw [firstIdx_none hno.out]; rfl, hbel⟩
theorem containsFuncD_any (F : Nat) (capt : Array Value) (p : Nat → Bool) (ao : Option Addr) (n cap : Nat) (ss : List Nat) (w : World) (hsl : RSl w 1 ao n cap (ptrsD ss)) (hm : n ≤ 1000000000)
  (hF : ∀ args W, (callFunc F args).run Tryz.prog W = .ok (.enter F args) W)
  (hf : ∀ j, j < n → ∀ W, Below w.heap.size w W → Calls Tryz.prog F (#[.pointer (some ⟨ss.getD j 0, 0, none⟩)] ++ capt) W fun e W' => e = .returned (.bool (p j)) ∧ Below W.heap.size W W') :
  Calls Tryz.prog 60 #[.slice ao n cap, .func (.func F) #[] capt] w fun e w' => e = .returned (.bool ((List.range n).any p)) ∧ Below w.heap.size w w' := by
 have H := Lib.hid (indexFuncD_any F capt p ao n cap ss w hsl hm hF hf)
 clear hF hf hsl
 go_enter Tryz.func60, Tryz.ntmps60
 go_wp2_with fail
 refine H.out.mono ?_
 rintro e w1 ⟨rfl, hb1⟩
 go_wp2_with fail
 go_ret
 exact ⟨by rw [← firstIdx_ge]; rfl, hb1⟩
theorem iszGr : (Tryz.prog.info? 31).map (·.size) = some 2 := by kernel_rfl
theorem iszGm : (Tryz.prog.info? 24).map (·.size) = some 2 := by kernel_rfl
theorem wp_loadGr {dst : Option Tmp} {x : Operand} {ty : TypeId} {pos : String} {after : Array Edge} {guard : Option (Nat × Bool)} {a : Act} {w : World} {next : Act → World → Prop} {Q : Exit → Act → World → Prop} :
  Oper.wp Tryz.prog ⟨dst, .load 31 x, ty, pos, after, guard⟩ a w next Q = LoadW Tryz.prog ⟨dst, .load 31 x, ty, pos, after, guard⟩ 31 (a.eval x) a w next Q := rfl
theorem wp_storeGr {dst : Option Tmp} {x y : Operand} {ty : TypeId} {pos : String} {after : Array Edge} {guard : Option (Nat × Bool)} {a : Act} {w : World} {next : Act → World → Prop} {Q : Exit → Act → World → Prop} :
  Oper.wp Tryz.prog ⟨dst, .store 31 x y, ty, pos, after, guard⟩ a w next Q = StoreW Tryz.prog ⟨dst, .store 31 x y, ty, pos, after, guard⟩ 31 (a.eval x) (a.eval y) a w next Q := rfl
attribute [local go_sem ↓] wp_loadGr wp_storeGr
def encGr (g : Int × Int) : List Value := [.int .i64 g.1, .int .i64 g.2]
theorem store_newGr (c : Int × Int) (w : World) (op : Oper) (a : Act) (next : Act → World → Prop) (Q : Exit → Act → World → Prop) : StoreW Tryz.prog op 31 (.pointer (some ⟨w.heap.size, 0, none⟩)) (.agg (encGr c).toArray) a (w.alloc (.cells #[.int .i64 0, .int .i64 0] 31)) next Q = next (a.put op.dst undef) (w.alloc (.cells (encGr c).toArray 31)) := by
 have h := Blk.new w 31 (#[.int .i64 0, .int .i64 0] : Array Value).toList
 have e := setCells_alloc w 31 (encGr c) (#[.int .i64 0, .int .i64 0] : Array Value).toList rfl
 have s := storeW_part (P := Tryz.prog) (t := 31) (o := 0) (cs := encGr c) h (Nat.le_refl 2) iszGr (by
  intro u hu
  simp only [encGr, List.mem_cons, List.not_mem_nil, or_false] at hu
  rcases hu with rfl | rfl <;> rfl) op a next Q
 rw [e] at s
 exact s
theorem grp_cells {w : World} {b off n cap : Nat} {gs : Gs} (h : GSl w (some ⟨b, off, none⟩) n cap gs) {i : Nat} (hi : i < n) : w.rangeAt b (off + i * 2) (encGr (gs.getD i (0, 0))) := by
 obtain ⟨b', o', e, _, hc⟩ := h.at_ (by omega)
 simp only [Option.some.injEq, Addr.mk.injEq, and_true] at e
 obtain ⟨rfl, rfl⟩ := e
 obtain ⟨h1, h2⟩ := hc i hi
 intro j v hj
 match j, hj with
 | 0, hj => rw [Nat.add_zero, h1]; exact hj
 | 1, hj => rw [h2]; exact hj
set_option maxHeartbeats 1000000 in
set_option maxRecDepth 100000 in
theorem gdevs_any (ao : Option Addr) (n cap : Nat) (gs : Gs) (secs : Int) (w : World) (h : GSl w ao n cap gs) (hr : rightB gs secs = true) :
  Calls Tryz.prog 59 #[.agg #[.slice ao n cap, .int .i64 secs]] w fun e w' => e = .returned (.int .i64 (devsN gs : Nat)) ∧ Below w.heap.size w w' := by
 have hl := h.len
 have hsp := rightB_spec hr
 have hb0 : Below w.heap.size w (w.alloc (.cells #[.slice ao n cap, .int .i64 secs] 24)) := (Below.refl _ _).alloc (Nat.le_refl _) _
 have HGR := Lib.hid (gright_any ao n cap gs secs _ (h.below hb0))
 rw [hr] at HGR
 have HB0 := Lib.hid hb0
 have HG := Lib.hid h
 have HWS : Hid (∀ k, k ≤ n → 0 ≤ wsum gs k ∧ wsum gs k ≤ 32) := Lib.hid (fun k hk => by have := wsum_bd hr k (by omega); omega)
 have HST : Hid (∀ k, k < n → wsum gs (k + 1) = wsum gs k + (gs.getD k (0, 0)).2) := Lib.hid (fun k hk => wsum_step gs k (by omega))
 have HD : Hid (((devsN gs : Nat) : Int) = wsum gs n) := Lib.hid (by unfold devsN; have := (wsum_bd hr gs.length (Nat.le_refl _)).1; rw [hl] at *; omega)
 have hn4 : n ≤ 4 := by omega
 have hn1 : 1 ≤ n := by omega
 clear hl hsp hb0 h
 go_enter Tryz.func59, Tryz.ntmps59
 go_wp2_with fail
 refine HGR.out.mono ?_
 rintro e w1 ⟨rfl, hb1⟩
 have HB1 := Lib.hid (HB0.out.trans (hb1.mono HB0.out.size))
 have k0 : w1.cell? ⟨w.heap.size, 0, none⟩ = some (.slice ao n cap) := ((Blk.new w 24 [.slice ao n cap, .int .i64 secs]).below hb1).cell 0
 clear hb1
 go_wp2_with fail
 go_loopw [3, 12] (fun v3 vi wr => ∃ (k : Nat), vi = .int .i64 k ∧ v3 = .int .i64 (wsum gs k) ∧ k ≤ n ∧ Hid (Below w.heap.size w wr)) (fun _ vi _ => n - (intOf vi).toNat)
 case atStart => exact ⟨0, rfl, rfl, Nat.zero_le _, HB1⟩
 case round =>
  obtain ⟨k, rfl, rfl, hk, HBR⟩ := hrel
  have hsr := HBR.out.size
  by_cases hkn : k < n
  ·have q1 : (k : Int) < (n : Int) := by omega
   have q2 : 0 ≤ (k : Int) := by omega
   obtain ⟨b, o, e, _⟩ := HG.out.at_ (by omega)
   subst e
   obtain ⟨c, hc⟩ : ∃ c, c = gs.getD k (0, 0) := ⟨_, rfl⟩
   have hrg := grp_cells (HG.out.below HBR.out) hkn
   rw [← hc] at hrg
   have hl1 := fun op a next Q => loadW_mid (P := Tryz.prog) (t := 31) hrg Tryz.underlying31 rfl iszGr op a next Q
   have hst := fun op a next Q => store_newGr c wr op a next Q
   obtain ⟨w3, hw3⟩ : ∃ w3, w3 = wr.alloc (.cells (encGr c).toArray 31) := ⟨_, rfl⟩
   obtain ⟨g3, hg3⟩ : ∃ g3, g3 = wr.heap.size := ⟨_, rfl⟩
   have hB3 : Blk w3 g3 31 (encGr c) := by rw [hw3, hg3]; exact Blk.new wr _ _
   have hb3 : Below wr.heap.size wr w3 := by rw [hw3]; exact (Below.refl _ _).alloc (Nat.le_refl _) _
   have HB3 := Lib.hid (HBR.out.trans (hb3.mono hsr))
   have hstep := HST.out k hkn
   rw [← hc] at hstep
   have hw1 := HWS.out k hk
   have hw2 := HWS.out (k + 1) (by omega)
   obtain ⟨c0, c1⟩ := c
   have e2 : w3.cell? ⟨g3, 1, none⟩ = some (.int .i64 c1) := hB3.cell 1
   obtain ⟨x, hx⟩ : ∃ x, x = wsum gs k := ⟨_, rfl⟩
   rw [← hx] at hstep hw1 ⊢
   dsimp only at hstep
   have q3 : 0 ≤ x + c1 := by omega
   have q4 : x + c1 ≤ 32 := by omega
   have HS := Lib.hid hstep
   clear hrg hB3 hc hb3 hx hstep hw1 hw2
   go_upto_region 7 with fail
   rw [← hw3, ← hg3]
   clear hw3 hg3 hst hl1
   go_wp2_with fail
   go_roundw
   case rel => exact ⟨k + 1, by go_num, by rw [HS.out], by omega, HB3⟩
   case measure => simp [intOf]; omega
  ·have q1 : ¬ (k : Int) < (n : Int) := by omega
   obtain rfl : k = n := by omega
   go_wp2_with fail
   go_ret
   exact ⟨by rw [HD.out]; rfl, HBR.out⟩
set_option maxRecDepth 100000 in
theorem dright1_any {w : World} {db gx : Nat} {δ : DevT} {F : Nat → Prop} {secs : Int} (h : IsDev w db δ F) (hx : w.cell? ⟨gx, 1, none⟩ = some (.int .i64 secs)) (hlt : gx < w.heap.size) :
  Calls Tryz.prog 61 #[.pointer (some ⟨db, 0, none⟩), .pointer (some ⟨gx, 0, none⟩)] w fun e w' => e = .returned (.bool ((δ.med.length : Int) != secs)) ∧ Below w.heap.size w w' := by
 have HS := Lib.hid (dsecs_any (h.below (Below.refl _ _).drew))
 have hx0 : w.drew.cell? ⟨gx, 1, none⟩ = some (.int .i64 secs) := hx
 have HX : Hid (∀ w', Below w.heap.size w w' → w'.cell? ⟨gx, 1, none⟩ = some (.int .i64 secs)) := Lib.hid (fun w' hb => by rw [World.cell?_of_block (w := w) (hb.block gx hlt)]; exact hx)
 go_enter Tryz.func61, Tryz.ntmps61
 go_upto_region 1 with fail
 refine wp_region_held_drew (S := fun w' => w'.cell? ⟨gx, 1, none⟩ = some (.int .i64 secs)) (by kernel_rfl) hx0 (fun hS0 => ?_)
 refine rtd 0 ?_; refine rtd 2 ?_; refine rtd 3 ?_; refine rtd 4 ?_
 refine rr1 (i := 1) (h := fun K hK => ?_)
 go_simp
 refine HS.out.mono ?_
 rintro e w1 ⟨rfl, hb1⟩
 have HB1 := Lib.hid ((Below.refl w.heap.size w).drew.trans hb1)
 clear hb1
 try dsimp only
 refine hK.out _ _ (HX.out _ HB1.out) (fun hSs1 => ?_)
 try simp only [Act.put, z1, z2, z3]
 refine rtd 5 ?_; refine rtd 6 ?_
 refine wpAnyH_done (by kernel_rfl) ?_ _
 go_wp2_with fail
 go_ret
 exact ⟨rfl, HB1.out⟩
theorem callFunc_dright1 (args : Array Value) (W : World) : (callFunc 61 args).run Tryz.prog W = .ok (.enter 61 args) W := by kernel_rfl
end Go.Proofs.YtfaemcfjbbbbdaaGreat
namespace Go.Proofs.YtfaemcfjbbbbdaaGreat
open Go.RowKit
theorem right_spec {x : DvsT} (h : x.right = true) : rightB x.gs x.secs = true ∧ x.ds.length = devsN x.gs ∧ x.away.length = x.ds.length ∧ ∀ i, i < x.ds.length → (((x.ds.getD i dvD).med.length : Nat) : Int) = x.secs := by
 unfold DvsT.right at h
 simp only [Bool.and_eq_true, decide_eq_true_eq] at h
 obtain ⟨⟨⟨h1, h2⟩, h3⟩, h4⟩ := h
 refine ⟨h1, h2, h3, fun i hi => ?_⟩
 rw [List.all_eq_true] at h4
 have := h4 (x.ds[i]) (List.getElem_mem _)
 rw [List.getD_eq_getElem?_getD, List.getElem?_eq_getElem hi]
 simpa using this
theorem range_pre {w : World} {g e : Nat} {cs ds : List Value} (h : Blk w g e (cs ++ ds)) : w.rangeAt g 0 cs := fun j v hj => by
 rw [h.cell, Nat.zero_add]
 rw [List.getElem?_append_left (List.getElem?_eq_some_iff.1 hj).1]
 exact hj
structure DvBox (w : World) (gx : Nat) (ga : Option Addr) (gn gc : Nat) (secs : Int) (la : Option Addr) (n lc : Nat) (wa : Option Addr) (wc : Nat) : Prop where
 blk : Blk w gx 37 [.slice ga gn gc, .int .i64 secs, .slice la n lc, .slice wa n wc]
section
variable {w : World} {gx gn gc n lc wc : Nat} {ga la wa : Option Addr} {secs : Int}
theorem DvBox.c0 (h : DvBox w gx ga gn gc secs la n lc wa wc) : w.rangeAt gx 0 [.slice ga gn gc, .int .i64 secs] := range_pre (cs := [.slice ga gn gc, .int .i64 secs]) h.blk
theorem DvBox.c2 (h : DvBox w gx ga gn gc secs la n lc wa wc) : w.cell? ⟨gx, 2, none⟩ = some (.slice la n lc) := h.blk.cell 2
theorem DvBox.c3 (h : DvBox w gx ga gn gc secs la n lc wa wc) : w.cell? ⟨gx, 3, none⟩ = some (.slice wa n wc) := h.blk.cell 3
end
set_option maxRecDepth 100000 in
set_option maxHeartbeats 1000000 in
theorem vright_any {w : World} {x : DvsT} {V : DvV} {F : Nat → Prop} (h : IsDvs w x V F) (hr : x.right = true) :
  Calls Tryz.prog 31 #[V.val x.secs] w fun e w' => e = .returned (.bool true) ∧ Below w.heap.size w w' := by
 obtain ⟨ga, gc, la, lc, wa, wc, hV, hg⟩ := h.form
 obtain ⟨r1, r2, r3, r4⟩ := right_spec hr
 have HI := Lib.hid h
 obtain ⟨w0, hw0⟩ : ∃ w0, w0 = w.alloc (.cells #[.slice ga x.gs.length gc, .int .i64 x.secs, .slice la x.ds.length lc, .slice wa x.ds.length wc] 37) := ⟨_, rfl⟩
 have hb0 : Below w.heap.size w w0 := by rw [hw0]; exact (Below.refl _ _).alloc (Nat.le_refl _) _
 have hbx : DvBox w0 w.heap.size ga x.gs.length gc x.secs la x.ds.length lc wa wc := by rw [hw0]; exact ⟨Blk.new w _ _⟩
 have hgr := fun W (hW : Below w.heap.size w W) => gright_any ga x.gs.length gc x.gs x.secs W (hg.below hW)
 rw [r1] at hgr
 have hgd := fun W (hW : Below w.heap.size w W) => gdevs_any ga x.gs.length gc x.gs x.secs W (hg.below hW) r1
 rw [← r2] at hgd
 have HGR := Lib.hid hgr
 have HGD := Lib.hid hgd
 have HBX : Hid (∀ W, Below w0.heap.size w0 W → DvBox W w.heap.size ga x.gs.length gc x.secs la x.ds.length lc wa wc) := Lib.hid (fun W hW => ⟨hbx.blk.below hW⟩)
 have HB0 := Lib.hid hb0
 have hgx : w.heap.size < w0.heap.size := hbx.blk.lt
 have hval : V.val x.secs = .agg #[.slice ga x.gs.length gc, .int .i64 x.secs, .slice la x.ds.length lc, .slice wa x.ds.length wc] := by rw [hV]; rfl
 have HCF : Hid (∀ W, Below w0.heap.size w0 W → Calls Tryz.prog 60 #[.slice la x.ds.length lc, .func (.func 61) #[] #[.pointer (some ⟨w.heap.size, 0, none⟩)]] W fun e w' => e = .returned (.bool false) ∧ Below W.heap.size W w') := Lib.hid (by
  obtain ⟨dbs, Fd, hv, hF⟩ := h
  intro W hW
  have hl := hv.lst
  rw [hV] at hl
  rw [hv.n1] at hl
  have hbW := hb0.trans (hW.mono hb0.size)
  have hc := containsFuncD_any 61 #[.pointer (some ⟨w.heap.size, 0, none⟩)] (fun _ => false) la x.ds.length lc dbs W ((rsl_of_owns hl).below hbW) (by have := hv.num; omega) callFunc_dright1 (fun j hj W2 hW2 => by
   have hbW2 := hbW.trans (hW2.mono hbW.size)
   have hd := (hv.dev j hj).below hbW2
   have hcell : W2.cell? ⟨w.heap.size, 1, none⟩ = some (.int .i64 x.secs) := (hbx.blk.below (hW.trans (hW2.mono hW.size))).cell 1
   have hlt2 : w.heap.size < W2.heap.size := (hbx.blk.below (hW.trans (hW2.mono hW.size))).lt
   have := dright1_any hd hcell hlt2
   rw [r4 j hj] at this
   simpa using this)
  have e : (List.range x.ds.length).any (fun _ => false) = false := by simp
  rw [e] at hc
  exact hc)
 rw [hval]
 obtain ⟨n, hn⟩ : ∃ n, n = x.ds.length := ⟨_, rfl⟩
 obtain ⟨gn, hgn⟩ : ∃ gn, gn = x.gs.length := ⟨_, rfl⟩
 rw [← hn] at HBX HCF HGD ⊢
 rw [← hgn] at HBX HGR HGD ⊢
 rw [← hn, ← hgn] at hw0
 obtain ⟨gx, hgxx⟩ : ∃ gx, gx = w.heap.size := ⟨_, rfl⟩
 rw [← hgxx] at HBX HCF
 have hnum : n ≤ 1000 := by rw [hn]; obtain ⟨_, _, hv, _⟩ := HI.out; exact hv.num
 clear h hr hV hg r1 r2 r3 r4 hb0 hbx hgr hgd hgx hval hn hgn
 go_enter Tryz.func31, Tryz.ntmps31
 go_upto_region 1 with fail
 rw [← hw0, ← hgxx]
 clear hw0 hgxx
 refine wp_region_held_drew (S := fun w' => DvBox w' gx ga gn gc x.secs la n lc wa wc) (by kernel_rfl) (HBX.out _ (Below.refl _ _).drew) (fun hS0 => ?_)
 refine rtd 0 ?_
 refine rtg 1 ?vs1 ?ys1 ?_
 case ys1 => refine yieldsIf_load_mid (by kernel_rfl) 24 (.tmp 3) ?_ gx (0) ?_ ([.slice ga gn gc, .int .i64 x.secs]) _ (fun w' hw => DvBox.c0 hw) Tryz.underlying24 rfl iszGm <;> rfl
 refine rr1 (i := 2) (h := fun K hK => ?_)
 go_simp
 refine (HGR.out _ (HB0.out.trans ((Below.refl w0.heap.size w0).drew.mono HB0.out.size))).mono ?_
 rintro e w1 ⟨rfl, hb1⟩
 have HB1 := Lib.hid ((Below.refl w0.heap.size w0).drew.trans hb1)
 clear hb1
 try dsimp only
 refine hK.out _ _ (HBX.out _ HB1.out) (fun hSs2 => ?_)
 try simp only [Act.put, z1, z2, z3]
 refine rtd 3 ?_; refine rtd 4 ?_; refine rtd 5 ?_
 refine rtv (i := 6) (v := ?vs6) (hy := ?ys6) (h := ?_)
 case ys6 => intro w hSw; (try dsimp only at hSw); go_simp; first | (rw [DvBox.c2 hSw]; rfl) | rfl
 try simp only [Act.put, z1, z2, z3]
 refine rtd 7 ?_; refine rtd 8 ?_
 refine rtg 9 ?vs9 ?ys9 ?_
 case ys9 => refine yieldsIf_load_mid (by kernel_rfl) 24 (.tmp 11) ?_ gx (0) ?_ ([.slice ga gn gc, .int .i64 x.secs]) _ (fun w' hw => DvBox.c0 hw) Tryz.underlying24 rfl iszGm <;> rfl
 refine rr1 (i := 10) (h := fun K hK => ?_)
 go_simp
 refine (HGD.out _ (HB0.out.trans (HB1.out.mono HB0.out.size))).mono ?_
 rintro e w2 ⟨rfl, hb2⟩
 have HB2 := Lib.hid (HB1.out.trans (hb2.mono HB1.out.size))
 clear hb2
 try dsimp only
 refine hK.out _ _ (HBX.out _ HB2.out) (fun hSs10 => ?_)
 try simp only [Act.put, z1, z2, z3]
 refine rtv (i := 11) (v := ?vs11) (hy := ?ys11) (h := ?_)
 case ys11 => intro w hSw; (try dsimp only at hSw); go_simp; first | with_reducible rfl | (rw [bne_self_eq_false]) | simp
 try simp only [Act.put, z1, z2, z3]
 refine rtd 12 ?_; refine rtd 13 ?_; refine rtd 14 ?_
 refine rtv (i := 15) (v := ?vs15) (hy := ?ys15) (h := ?_)
 case ys15 => intro w hSw; (try dsimp only at hSw); go_simp; first | (rw [DvBox.c3 hSw]; rfl) | rfl
 try simp only [Act.put, z1, z2, z3]
 refine rtd 16 ?_; refine rtd 17 ?_
 refine rtv (i := 18) (v := ?vs18) (hy := ?ys18) (h := ?_)
 case ys18 => intro w hSw; (try dsimp only at hSw); go_simp; first | (rw [DvBox.c2 hSw]; rfl) | rfl
 try simp only [Act.put, z1, z2, z3]
 refine rtd 19 ?_
 refine rtv (i := 20) (v := ?vs20) (hy := ?ys20) (h := ?_)
 case ys20 => intro w hSw; (try dsimp only at hSw); go_simp; first | with_reducible rfl | (rw [bne_self_eq_false]) | simp
 try simp only [Act.put, z1, z2, z3]
 refine rtd 21 ?_
 refine wpAnyH_done (by kernel_rfl) ?_ _
 have HB2x := HB2
 have k2 := (HBX.out _ HB2.out).c2
 go_wp2_with fail
 refine (HCF.out _ HB2.out).mono ?_
 rintro e w3 ⟨rfl, hb3⟩
 have HB3 := Lib.hid (HB0.out.trans ((HB2.out.trans (hb3.mono HB2.out.size)).mono HB0.out.size))
 clear hb3
 go_wp2_with fail
 go_ret
 exact ⟨rfl, HB3.out⟩
end Go.Proofs.YtfaemcfjbbbbdaaGreat
namespace Go.Proofs.YtfaemcfjbbbbdaaGreat
open Go.RowKit
theorem DevStep.mod {w w' : World} {db : Nat} {δ' : DevT} {F : Nat → Prop} (h : DevStep db δ' F w w') : Mod F w w' := by
 obtain ⟨F', _, h2, _⟩ := h
 exact h2
theorem DevStep.early {w w1 w' : World} {db : Nat} {δ' : DevT} {F : Nat → Prop} (hb : Below w.heap.size w w1) (h : DevStep db δ' F w1 w') : DevStep db δ' F w w' := by
 obtain ⟨F', h1, h2, h3⟩ := h
 exact ⟨F', h1, (Mod.below hb).self h2, fun g hg => (h3 g hg).imp id (fun h4 => Nat.le_trans hb.size h4)⟩
theorem iszDs : (Tryz.prog.info? 37).map (·.size) = some 4 := by kernel_rfl
structure PutS (gx gcc : Nat) (ga : Option Addr) (gn gc : Nat) (secs : Int) (bl n lc : Nat) (wa : Option Addr) (wc : Nat) (c : ColT) (db : Nat) (w : World) : Prop where
 bx : DvBox w gx ga gn gc secs (some ⟨bl, 0, none⟩) n lc wa wc
 co : Blk w gcc 78 (encC1 c)
 ld : w.cell? ⟨bl, c.1, none⟩ = some (.pointer (some ⟨db, 0, none⟩))
section
variable {gx gcc gn gc bl n lc wc db : Nat} {ga wa : Option Addr} {secs : Int} {c : ColT} {w w' : World}
theorem PutS.r0 (h : PutS gx gcc ga gn gc secs bl n lc wa wc c db w) : w.rangeAt gx 0 [.slice ga gn gc, .int .i64 secs, .slice (some ⟨bl, 0, none⟩) n lc, .slice wa n wc] := range_pre (ds := []) h.bx.blk
theorem PutS.c2 (h : PutS gx gcc ga gn gc secs bl n lc wa wc c db w) : w.cell? ⟨gx, 2, none⟩ = some (.slice (some ⟨bl, 0, none⟩) n lc) := h.bx.c2
theorem PutS.k0 (h : PutS gx gcc ga gn gc secs bl n lc wa wc c db w) : w.cell? ⟨gcc, 0, none⟩ = some (.int .i64 (c.1 : Nat)) := h.co.cell 0
theorem PutS.k1 (h : PutS gx gcc ga gn gc secs bl n lc wa wc c db w) : w.cell? ⟨gcc, 1, none⟩ = some (.int .i64 (c.2.1 : Nat)) := h.co.cell 1
theorem PutS.keep {F : Nat → Prop} (h : PutS gx gcc ga gn gc secs bl n lc wa wc c db w) (hm : Mod F w w') (h1 : ¬ F gx) (h2 : ¬ F gcc) (h3 : ¬ F bl) : PutS gx gcc ga gn gc secs bl n lc wa wc c db w' :=
 ⟨⟨hm.blk h.bx.blk h1⟩, hm.blk h.co h2, by
  have hlt : bl < w.heap.size := by
   have := h.ld
   unfold World.cell? at this
   cases hh : w.heap[bl]? with
   | none => rw [hh] at this; cases this
   | some o => exact (Array.getElem?_eq_some_iff.1 hh).1
  rw [World.cell?_of_block (w := w) (hm.block bl hlt h3)]; exact h.ld⟩
end
set_option maxRecDepth 100000 in
set_option maxHeartbeats 1000000 in
theorem vput_any {w : World} {x : DvsT} {V : DvV} {F : Nat → Prop} (h : IsDvs w x V F) (c : ColT) (hc : c.1 < x.ds.length) (s : Bs) (hs : s.length ≤ 1000000) (hdep : ((x.ds.getD c.1 dvD).cache c.2.1).length + 1 ≤ 1000000000) :
  Calls Tryz.prog 66 #[V.val x.secs, .agg (encC1 c).toArray, .string ⟨s.toArray⟩] w fun e w' => e = .returned (.bool (putX x c s).1) ∧ DvsStep (putX x c s).2 V F w w' := by
 have HI := Lib.hid h
 obtain ⟨dbs, Fd, hv, hF⟩ := h
 obtain ⟨bl, lc, el, hcl⟩ := hv.lcell (by omega)
 obtain ⟨ga, gc, eg⟩ := own_form hv.grp
 obtain ⟨wa, wc, ea⟩ := own_form hv.awy
 rw [hv.n2] at ea
 obtain ⟨w0, hw0⟩ : ∃ w0, w0 = (w.alloc (.cells #[.slice ga x.gs.length gc, .int .i64 x.secs, .slice (some ⟨bl, 0, none⟩) x.ds.length lc, .slice wa x.ds.length wc] 37)).alloc (.cells (encC1 c).toArray 78) := ⟨_, rfl⟩
 have hb0 : Below w.heap.size w w0 := by rw [hw0]; exact ((Below.refl _ _).alloc (Nat.le_refl _) _).alloc (by simp) _
 have hbl : bl < w.heap.size := (hv.lst.lt bl (by rw [el]; rfl)).2
 obtain ⟨db, hdb⟩ : ∃ db, db = dbs.getD c.1 0 := ⟨_, rfl⟩
 have hbx : PutS w.heap.size (w.heap.size + 1) ga x.gs.length gc x.secs bl x.ds.length lc wa wc c db w0 := by
  refine ⟨⟨by rw [hw0]; exact (Blk.new w _ _).alloc _⟩, by rw [hw0]; exact Blk.newAt (w := w.alloc _) _ _ (by simp), ?_⟩
  rw [World.cell?_of_block (w := w) (hb0.block bl hbl), hdb]
  exact hcl c.1 hc
 have hval : V.val x.secs = .agg #[.slice ga x.gs.length gc, .int .i64 x.secs, .slice (some ⟨bl, 0, none⟩) x.ds.length lc, .slice wa x.ds.length wc] := by unfold DvV.val; rw [eg, el, ea]
 have hhe := fun W (hW : Below w.heap.size w W) => here_any (HI.out.below hW) c.1 hc
 rw [hval] at hhe
 rw [hval]
 have HHE := Lib.hid hhe
 have HV := Lib.hid hv
 have HF := Lib.hid hF
 have HW := Lib.hid (fun W (hW : Below w.heap.size w W) => dwrite_any ((hv.dev c.1 hc).below hW) ((c.2.1 : Nat) : Int) s hs (fun _ => by simpa using hdep))
 rw [← hdb] at HW
 have HDB := Lib.hid hdb
 have HB0 := Lib.hid hb0
 have HDG : Hid (∀ g, Fd c.1 g → g < w.heap.size ∧ g ≠ bl) := Lib.hid (fun g hg => ⟨(hv.dev c.1 hc).lt g hg, fun e => (hv.dg c.1 g hc hg).2.1 (by rw [el, e]; rfl)⟩)
 obtain ⟨n, hn⟩ : ∃ n, n = x.ds.length := ⟨_, rfl⟩
 obtain ⟨gn, hgn⟩ : ∃ gn, gn = x.gs.length := ⟨_, rfl⟩
 obtain ⟨gx, hgxx⟩ : ∃ gx, gx = w.heap.size := ⟨_, rfl⟩
 obtain ⟨gcc, hgcc⟩ : ∃ gcc, gcc = w.heap.size + 1 := ⟨_, rfl⟩
 rw [← hn, ← hgn, ← hgcc, ← hgxx] at hbx
 rw [← hn, ← hgn] at hw0 HHE ⊢
 have HGX : Hid (¬ Fd c.1 gx ∧ ¬ Fd c.1 gcc) := Lib.hid ⟨fun hf => by have := (HDG.out gx hf).1; omega, fun hf => by have := (HDG.out gcc hf).1; omega⟩
 have HBX : Hid (∀ W, Below w0.heap.size w0 W → PutS gx gcc ga gn gc x.secs bl n lc wa wc c db W) := Lib.hid (fun W hW => hbx.keep (F := fun _ => False) (Mod.below hW) (fun h => h) (fun h => h) (fun h => h))
 have HCN := Lib.hid hc
 have q1 : ((c.1 : Nat) : Int) < (n : Int) := by omega
 have q2 : 0 ≤ ((c.1 : Nat) : Int) := by omega
 clear hv hF el hcl eg ea hb0 hbl hbx hval hhe hdep hc hn hgn hdb
 cases hh : x.here c.1 with
 | false =>
  have hp : putX x c s = (false, x) := by unfold putX; rw [hh, if_neg (by decide)]
  rw [hh] at HHE
  rw [hp]
  clear hh hp
  go_enter Tryz.func66, Tryz.ntmps66
  go_upto_region 1 with fail
  rw [← hw0, ← hgcc, ← hgxx]
  clear hw0 hgxx hgcc
  refine wp_region_held_drew (S := PutS gx gcc ga gn gc x.secs bl n lc wa wc c db) (by kernel_rfl) (HBX.out _ (Below.refl _ _).drew) (fun hS0 => ?_)
  refine rtg 0 ?vf0 ?yf0 ?_
  case yf0 => refine yieldsIf_load_mid (by kernel_rfl) 37 (.tmp 3) ?_ gx (0) ?_ ([.slice ga gn gc, .int .i64 x.secs, .slice (some ⟨bl, 0, none⟩) n lc, .slice wa n wc]) _ (fun w' hw => PutS.r0 hw) Tryz.underlying37 rfl iszDs <;> rfl
  refine rtd 1 ?_
  refine rtv (i := 2) (v := ?vf2) (hy := ?yf2) (h := ?_)
  case yf2 => intro w hSw; (try dsimp only at hSw); go_simp; first | (rw [PutS.k0 hSw]; rfl) | rfl
  try simp only [Act.put, z1, z2, z3]
  refine rr1 (i := 3) (h := fun K hK => ?_)
  go_simp
  refine (HHE.out _ (HB0.out.trans ((Below.refl w0.heap.size w0).drew.mono HB0.out.size))).mono ?_
  rintro e w1 ⟨rfl, hb1⟩
  have HB1 := Lib.hid ((Below.refl w0.heap.size w0).drew.trans hb1)
  clear hb1
  try dsimp only
  refine hK.out _ _ (HBX.out _ HB1.out) (fun hSf3 => ?_)
  try simp only [Act.put, z1, z2, z3]
  refine rtd 4 ?_; refine rtn 5 ?_; refine rtn 6 ?_; refine rtn 7 ?_; refine rtn 8 ?_; refine rtn 9 ?_; refine rtn 10 ?_; refine rtn 11 ?_; refine rtn 12 ?_; refine rtn 13 ?_; refine rtn 14 ?_; refine rtn 15 ?_
  refine rtd 16 ?_; refine rtd 17 ?_
  refine wpAnyH_done (by kernel_rfl) ?_ _
  go_wp2_with fail
  go_ret
  exact ⟨rfl, HI.out.stay (HB0.out.trans (HB1.out.mono HB0.out.size))⟩
 | true =>
  have hp : putX x c s = (decide (((x.ds.getD c.1 dvD).writeE (colAt c) s).1 = 0), x.set c.1 ((x.ds.getD c.1 dvD).writeE (colAt c) s).2) := by unfold putX; rw [hh, if_pos rfl]
  rw [hh] at HHE
  rw [hp]
  clear hh hp
  obtain ⟨r, hr⟩ : ∃ r, r = (x.ds.getD c.1 dvD).writeE (colAt c) s := ⟨_, rfl⟩
  have HR := Lib.hid hr
  rw [← hr]
  clear hr
  go_enter Tryz.func66, Tryz.ntmps66
  go_upto_region 1 with fail
  rw [← hw0, ← hgcc, ← hgxx]
  clear hw0 hgxx hgcc
  refine wp_region_held_drew (S := PutS gx gcc ga gn gc x.secs bl n lc wa wc c db) (by kernel_rfl) (HBX.out _ (Below.refl _ _).drew) (fun hS0 => ?_)
  refine rtg 0 ?vt0 ?yt0 ?_
  case yt0 => refine yieldsIf_load_mid (by kernel_rfl) 37 (.tmp 3) ?_ gx (0) ?_ ([.slice ga gn gc, .int .i64 x.secs, .slice (some ⟨bl, 0, none⟩) n lc, .slice wa n wc]) _ (fun w' hw => PutS.r0 hw) Tryz.underlying37 rfl iszDs <;> rfl
  refine rtd 1 ?_
  refine rtv (i := 2) (v := ?vt2) (hy := ?yt2) (h := ?_)
  case yt2 => intro w hSw; (try dsimp only at hSw); go_simp; first | (rw [PutS.k0 hSw]; rfl) | rfl
  try simp only [Act.put, z1, z2, z3]
  refine rr1 (i := 3) (h := fun K hK => ?_)
  go_simp
  refine (HHE.out _ (HB0.out.trans ((Below.refl w0.heap.size w0).drew.mono HB0.out.size))).mono ?_
  rintro e w1 ⟨rfl, hb1⟩
  have HB1 := Lib.hid ((Below.refl w0.heap.size w0).drew.trans hb1)
  clear hb1
  try dsimp only
  refine hK.out _ _ (HBX.out _ HB1.out) (fun hSt3 => ?_)
  try simp only [Act.put, z1, z2, z3]
  refine rtd 4 ?_; refine rtd 5 ?_
  refine rtv (i := 6) (v := ?vt6) (hy := ?yt6) (h := ?_)
  case yt6 => intro w hSw; (try dsimp only at hSw); go_simp; first | (rw [PutS.c2 hSw]; rfl) | rfl
  try simp only [Act.put, z1, z2, z3]
  refine rtd 7 ?_
  refine rtv (i := 8) (v := ?vt8) (hy := ?yt8) (h := ?_)
  case yt8 => intro w hSw; (try dsimp only at hSw); go_simp; first | (rw [PutS.k0 hSw]; rfl) | rfl
  try simp only [Act.put, z1, z2, z3]
  refine rtv (i := 9) (v := ?vt9) (hy := ?yt9) (h := ?_)
  case yt9 => intro w hSw; (try dsimp only at hSw); go_simp; first | with_reducible rfl | rw [if_pos (by omega)]
  try simp only [Act.put, z1, z2, z3]
  refine rtv (i := 10) (v := ?vt10) (hy := ?yt10) (h := ?_)
  case yt10 => intro w hSw; (try dsimp only at hSw); go_simp; first | (rw [PutS.ld hSw]; rfl) | rfl
  try simp only [Act.put, z1, z2, z3]
  refine rtd 11 ?_
  refine rtv (i := 12) (v := ?vt12) (hy := ?yt12) (h := ?_)
  case yt12 => intro w hSw; (try dsimp only at hSw); go_simp; first | (rw [PutS.k1 hSw]; rfl) | rfl
  try simp only [Act.put, z1, z2, z3]
  refine rtd 13 ?_
  refine rr1 (i := 14) (h := fun K hK => ?_)
  go_simp
  refine (HW.out _ (HB0.out.trans (HB1.out.mono HB0.out.size))).mono ?_
  rintro e w2 ⟨rfl, hst2⟩
  rw [show ((c.2.1 : Nat) : Int) = colAt c from rfl, ← HR.out] at hst2
  rw [show ((c.2.1 : Nat) : Int) = colAt c from rfl, ← HR.out]
  have HS2 := Lib.hid hst2
  have HM2 := Lib.hid (DevStep.mod hst2)
  clear hst2
  try dsimp only
  refine hK.out _ _ ((HBX.out _ HB1.out).keep HM2.out HGX.out.1 HGX.out.2 (fun hf => (HDG.out bl hf).2 rfl)) (fun hSt14 => ?_)
  try simp only [Act.put, z1, z2, z3]
  refine rtd 15 ?_; refine rtd 16 ?_; refine rtd 17 ?_
  refine wpAnyH_done (by kernel_rfl) ?_ _
  go_wp2_with fail
  go_ret
  refine ⟨by by_cases h0 : r.1 = 0 <;> simp [h0], ?_⟩
  have hstep := DevStep.early (HB0.out.trans (HB1.out.mono HB0.out.size)) HS2.out
  rw [HDB.out] at hstep
  exact HV.out.step HF.out HCN.out hstep
end Go.Proofs.YtfaemcfjbbbbdaaGreat
namespace Go.Proofs.YtfaemcfjbbbbdaaGreat
open Go.RowKit
def posOk (first wide at_ : Nat) (l : List ColT) : Prop := ∀ j, j < l.length → (l.getD j cD).1 = first + (at_ + j) % wide ∧ (l.getD j cD).2.1 = 16 + (at_ + j) / wide
theorem parS_pos {first wide at_ : Nat} {out : List ColT} (h : posOk first wide at_ out) (row : Nat) (par : Bool) : posOk first wide at_ (parS first wide at_ out row par) := by
 intro j hj
 rw [parS_length] at hj
 unfold parS
 rw [List.getD_eq_getElem?_getD]
 by_cases hlt : j < out.length
 ·rw [List.getElem?_append_left hlt, ← List.getD_eq_getElem?_getD]
  exact h j hlt
 ·rw [List.getElem?_append_right (by omega), show j - out.length = 0 by omega]
  have : j = out.length := by omega
  subst this
  exact ⟨rfl, rfl⟩
theorem parL_pos (first wide at_ : Nat) : ∀ i, posOk first wide at_ (parL first wide at_ i)
 | 0 => fun j hj => by simp [parL] at hj
 | i + 1 => by
  unfold parL
  refine parS_pos ?_ _ _
  split
  ·exact parS_pos (parL_pos first wide at_ i) _ _
  ·exact parL_pos first wide at_ i
theorem wsum_le {gs : Gs} {secs : Int} (hr : rightB gs secs = true) {g : Nat} (hg : g < gs.length) : wsum gs g + (gs.getD g (0, 0)).2 ≤ wsum gs gs.length := by
 have hm : ∀ k, g + 1 ≤ k → k ≤ gs.length → wsum gs (g + 1) ≤ wsum gs k := by
  intro k
  induction k with
  | zero => intro h; omega
  | succ k ih =>
   intro h1 h2
   by_cases hk : g + 1 = k + 1
   ·rw [hk]; exact Int.le_refl _
   ·have h3 := ih (by omega) (by omega)
    have h4 := wsum_step gs k (by omega)
    have h5 := getD_right hr (show k < gs.length by omega)
    omega
 have h1 := wsum_step gs g hg
 have h2 := hm gs.length (by omega) (Nat.le_refl _)
 omega
theorem colsL_dev {gs : Gs} {secs : Int} {g a size : Nat} (h : mayC gs secs g a size = true) {i : Nat} (hi : i < (colsL gs g a size).length) : ((colsL gs g a size).getD i cD).1 < devsN gs := by
 obtain ⟨hr, _, hg, hs1, hs4, _⟩ := mayC_spec h
 have hg' : g < gs.length := by omega
 have hgr := getD_right hr hg'
 have hw := wsum_le hr hg'
 have h0 := (wsum_bd hr g (by omega)).1
 unfold devsN
 unfold colsL at hi ⊢
 split
 ·rename_i hk
  rw [if_pos hk, mirL_length] at hi
  rw [mirL_get _ _ _ _ _ hi]
  have h1 : i / size < (gs.getD g (0, 0)).2.toNat := Nat.div_lt_of_lt_mul (by rw [Nat.mul_comm]; exact hi)
  dsimp only
  omega
 ·rename_i hk
  rw [if_neg hk] at hi
  rw [(parL_pos _ _ _ _ i hi).1]
  have h1 : (a + i) % (gs.getD g (0, 0)).2.toNat < (gs.getD g (0, 0)).2.toNat := Nat.mod_lt _ (by omega)
  omega
end Go.Proofs.YtfaemcfjbbbbdaaGreat
namespace Go.Proofs.YtfaemcfjbbbbdaaGreat
open Go.RowKit
theorem wp_loadDs {dst : Option Tmp} {x : Operand} {ty : TypeId} {pos : String} {after : Array Edge} {guard : Option (Nat × Bool)} {a : Act} {w : World} {next : Act → World → Prop} {Q : Exit → Act → World → Prop} :
  Oper.wp Tryz.prog ⟨dst, .load 37 x, ty, pos, after, guard⟩ a w next Q = LoadW Tryz.prog ⟨dst, .load 37 x, ty, pos, after, guard⟩ 37 (a.eval x) a w next Q := rfl
attribute [local go_sem ↓] wp_loadCo wp_storeCo wp_loadDs
theorem rawX_len (x : DvsT) (g a size : Nat) : (rawX x g a size).length = (colsL x.gs g a size).length := by simp [rawX]
theorem rawX_get (x : DvsT) (g a size : Nat) {i : Nat} (hi : i < (colsL x.gs g a size).length) : (rawX x g a size).getD i [] = x.col ((colsL x.gs g a size).getD i cD) := by
 unfold rawX
 rw [List.getD_eq_getElem?_getD, List.getElem?_map, List.getElem?_eq_getElem hi, List.getD_eq_getElem?_getD, List.getElem?_eq_getElem hi]
 rfl
theorem IsDvs.gslen {w : World} {x : DvsT} {V : DvV} {F : Nat → Prop} (h : IsDvs w x V F) : x.ds.length ≤ 1000 := by
 obtain ⟨_, _, hv, _⟩ := h
 exact hv.num
theorem IsDvs.putS {w W : World} {x : DvsT} {V : DvV} {F : Nat → Prop} {c : ColT} {gx gcc bl lc gc wc : Nat} {ga wa : Option Addr} (h : IsDvs w x V F) (hV : V = ⟨.slice ga x.gs.length gc, .slice (some ⟨bl, 0, none⟩) x.ds.length lc, .slice wa x.ds.length wc⟩) (hW : Below w.heap.size w W) (hc : c.1 < x.ds.length)
  (hx : DvBox W gx ga x.gs.length gc x.secs (some ⟨bl, 0, none⟩) x.ds.length lc wa wc) (hco : Blk W gcc 78 (encC1 c)) :
  ∃ db Fi, PutS gx gcc ga x.gs.length gc x.secs bl x.ds.length lc wa wc c db W ∧ IsDev W db (x.ds.getD c.1 dvD) Fi := by
 obtain ⟨dbs, Fd, hv, hF⟩ := h
 obtain ⟨bl2, lc2, el, hcl⟩ := hv.lcell (by omega)
 rw [hV] at el
 simp only [Value.slice.injEq, Option.some.injEq, Addr.mk.injEq, and_true, true_and] at el
 obtain ⟨rfl, rfl⟩ := el
 have hbl : bl < w.heap.size := (hv.lst.lt bl (by rw [hV]; rfl)).2
 exact ⟨_, _, ⟨hx, hco, by rw [World.cell?_of_block (w := w) (hW.block bl hbl)]; exact hcl c.1 hc⟩, (hv.dev c.1 hc).below hW⟩
set_option maxRecDepth 100000 in
set_option maxHeartbeats 2000000 in
theorem raw_any {w : World} {x : DvsT} {V : DvV} {F : Nat → Prop} (h : IsDvs w x V F) (hr : x.right = true) (g a size : Nat) (hm : mayC x.gs x.secs g a size = true) :
  Calls Tryz.prog 24 #[V.val x.secs, .agg #[.int .i64 (g : Nat), .int .i64 (a : Nat)], .int .i64 (size : Nat)] w fun e w' => ∃ v, e = .returned (.tuple #[v, .int .i64 0]) ∧ w'.ownsRow w.heap.size 9 1 v (colsL x.gs g a size).length (encS (bts (rawX x g a size))) ∧ Below w.heap.size w w' := by
 obtain ⟨ga, gc, la, lc, wa, wc, hV, hg⟩ := h.form
 obtain ⟨r1, r2, r3, r4⟩ := right_spec hr
 have hLl := colsL_len hm
 have hdv := fun i (hi : i < (colsL x.gs g a size).length) => colsL_dev hm hi
 rw [← r2] at hdv
 have hn0 : 0 < x.ds.length := by have := hdv 0 (by omega); omega
 obtain ⟨bl, rfl⟩ : ∃ bl, la = some ⟨bl, 0, none⟩ := by
  obtain ⟨dbs, Fd, hv, hF⟩ := h
  obtain ⟨bl, lc2, el, _⟩ := hv.lcell hn0
  rw [hV] at el
  simp only [Value.slice.injEq] at el
  exact ⟨bl, el.1⟩
 obtain ⟨w0, hw0⟩ : ∃ w0, w0 = (w.alloc (.cells #[.slice ga x.gs.length gc, .int .i64 x.secs, .slice (some ⟨bl, 0, none⟩) x.ds.length lc, .slice wa x.ds.length wc] 37)).alloc (.cells #[.int .i64 (g : Nat), .int .i64 (a : Nat)] 44) := ⟨_, rfl⟩
 have hb0 : Below w.heap.size w w0 := by rw [hw0]; exact ((Below.refl _ _).alloc (Nat.le_refl _) _).alloc (by simp) _
 have hbx : DvBox w0 w.heap.size ga x.gs.length gc x.secs (some ⟨bl, 0, none⟩) x.ds.length lc wa wc := ⟨by rw [hw0]; exact (Blk.new w _ _).alloc _⟩
 have hB2 : Blk w0 (w.heap.size + 1) 44 [.int .i64 (g : Nat), .int .i64 (a : Nat)] := by rw [hw0]; exact Blk.newAt (w := w.alloc _) _ _ (by simp)
 have hval : V.val x.secs = .agg #[.slice ga x.gs.length gc, .int .i64 x.secs, .slice (some ⟨bl, 0, none⟩) x.ds.length lc, .slice wa x.ds.length wc] := by rw [hV]; rfl
 have HI := Lib.hid h
 have hri := fun W (hW : Below w.heap.size w W) => vright_any (h.below hW) hr
 have hhe := fun W (hW : Below w.heap.size w W) d (hd : d < x.ds.length) => here_any (h.below hW) d hd
 rw [hval] at hri hhe ⊢
 have HRI := Lib.hid hri
 have HHE := Lib.hid hhe
 obtain ⟨L, hL⟩ : ∃ L, L = colsL x.gs g a size := ⟨_, rfl⟩
 have HCO : Hid (∀ W, Below w.heap.size w W → Calls Tryz.prog 25 #[.agg #[.slice ga x.gs.length gc, .int .i64 x.secs], .agg #[.int .i64 (g : Nat), .int .i64 (a : Nat)], .int .i64 (size : Nat)] W fun e w' => ∃ v, e = .returned (.tuple #[v, .int .i64 0]) ∧ w'.ownsRow W.heap.size 78 4 v L.length (encC L) ∧ Below W.heap.size W w') := Lib.hid (fun W hW => by
  rw [hL]; exact cof_yes ga x.gs.length gc x.gs x.secs g a size W (hg.below hW) hm)
 obtain ⟨RX, hRX⟩ : ∃ RX, RX = rawX x g a size := ⟨_, rfl⟩
 have HRL : Hid (RX.length = L.length ∧ ∀ i, i < L.length → RX.getD i [] = x.col (L.getD i cD)) := Lib.hid ⟨by rw [hRX, hL, rawX_len], fun i hi => by rw [hRX, hL, rawX_get]; rw [hL] at hi; exact hi⟩
 rw [← hRX]
 rw [← hL] at hLl hdv ⊢
 have HDV := Lib.hid hdv
 have HBX := Lib.hid hbx
 have HX2 := Lib.hid hB2
 have HB0 := Lib.hid hb0
 have HV := Lib.hid hV
 have hnum := h.gslen
 have HBL : Hid (bl < w.heap.size) := Lib.hid (by
  obtain ⟨dbs, Fd, hv, hF⟩ := h
  exact (hv.lst.lt bl (by rw [hV]; rfl)).2)
 have HPS : Hid (∀ (W : World) (c : ColT) (gcc : Nat), Below w0.heap.size w0 W → c.1 < x.ds.length → Blk W gcc 78 (encC1 c) → ∃ db Fi, PutS w.heap.size gcc ga x.gs.length gc x.secs bl x.ds.length lc wa wc c db W ∧ IsDev W db (x.ds.getD c.1 dvD) Fi) := Lib.hid (fun W c gcc hW hc hco => h.putS hV (hb0.trans (hW.mono hb0.size)) hc ⟨hbx.blk.below hW⟩ hco)
 obtain ⟨n, hn⟩ : ∃ n, n = x.ds.length := ⟨_, rfl⟩
 obtain ⟨gn, hgn⟩ : ∃ gn, gn = x.gs.length := ⟨_, rfl⟩
 obtain ⟨gx, hgxx⟩ : ∃ gx, gx = w.heap.size := ⟨_, rfl⟩
 obtain ⟨gp, hgp⟩ : ∃ gp, gp = w.heap.size + 1 := ⟨_, rfl⟩
 rw [← hn, ← hgn] at hw0 HRI HHE HBX ⊢
 have HN := Lib.hid hn
 rw [← hgn] at HCO
 rw [← hn, ← hgn, ← hgxx] at HPS
 rw [← hgxx] at HBX
 rw [← hgp] at HX2
 rw [← hn] at HDV hnum
 clear h hr hm hV hg r1 r2 r3 r4 hdv hn0 hb0 hbx hB2 hval hri hhe hL hRX hn hgn
 go_enter Tryz.func24, Tryz.ntmps24
 go_upto_region 1 with fail
 rw [← hw0, ← hgp, ← hgxx]
 clear hw0 hgp
 have hld := fun op a next Q => loadW_blk (P := Tryz.prog) HBX.out.blk Tryz.underlying37 rfl iszDs op a next Q
 have HGXX := Lib.hid hgxx
 clear hgxx
 go_wp2_with fail
 refine (HRI.out w0 HB0.out).mono ?_
 rintro e w1 ⟨rfl, hb1⟩
 have HB1 := Lib.hid (HB0.out.trans (hb1.mono HB0.out.size))
 have HC1 := Lib.hid hb1
 have x0 := (HBX.out.blk.below hb1).cell 0
 have x1 := (HBX.out.blk.below hb1).cell 1
 have y0 := (HX2.out.below hb1).cell 0
 have y1 := (HX2.out.below hb1).cell 1
 have HC := Lib.hid (HCO.out w1 HB1.out)
 clear hb1 hld
 go_wp2_with fail
 refine HC.out.mono ?_
 rintro e w2 ⟨v10, rfl, hrow10, hb2⟩
 obtain ⟨g10, c10, rfl⟩ := own_form1 hrow10 (by omega)
 have HB2 := Lib.hid (HB1.out.trans (hb2.mono HB1.out.size))
 have HC2 := Lib.hid (HC1.out.trans (hb2.mono HC1.out.size))
 have HLR : Hid (∀ W, Below w2.heap.size w2 W → RSl W 4 (some ⟨g10, 0, none⟩) L.length c10 (encC L)) := Lib.hid (fun W hW => rsl_of_owns (owns_below hrow10 hW))
 have hmk := make_strs L.length (by omega) w2
 have HBO : Hid (Blk (w2.alloc (.cells (encS (bts (List.replicate L.length []))).toArray 9)) w2.heap.size 9 (encS (bts (List.replicate L.length [])))) := Lib.hid (Blk.new w2 _ _)
 have HBB : Hid (Below w2.heap.size w2 (w2.alloc (.cells (encS (bts (List.replicate L.length []))).toArray 9))) := Lib.hid ((Below.refl _ _).alloc (Nat.le_refl _) _)
 obtain ⟨go, hgo⟩ : ∃ go, go = w2.heap.size := ⟨_, rfl⟩
 obtain ⟨wC, hwC⟩ : ∃ wC, wC = w2.alloc (.cells (encS (bts (List.replicate L.length []))).toArray 9) := ⟨_, rfl⟩
 rw [← hwC, ← hgo] at HBO hmk
 rw [← hwC] at HBB
 have HGO := Lib.hid hgo
 clear hrow10 hb2 HC x0 x1 y0 y1 hgo hwC
 go_wp2_with fail
 go_loopw [32] (fun vi wr => ∃ (k : Nat) (O : List Bs), vi = .int .i64 k ∧ k ≤ L.length ∧ Hid (Blk wr go 9 (encS (bts O))) ∧ Hid (O.length = L.length ∧ ∀ j, j < L.length → O.getD j [] = if j < k then RX.getD j [] else []) ∧ Hid (Below w2.heap.size w2 wr)) (fun vi _ => L.length - (intOf vi).toNat)
 case atStart => exact ⟨0, List.replicate L.length [], rfl, Nat.zero_le _, HBO, Lib.hid ⟨by simp, fun j hj => by rw [if_neg (by omega)]; simp [List.getD_eq_getElem?_getD, hj]⟩, HBB⟩
 case round =>
  obtain ⟨k, O, rfl, hk, HO, HOG, HBR⟩ := hrel
  have hsr := HBR.out.size
  by_cases hkn : k < L.length
  ·have q1 : (k : Int) < (L.length : Int) := by omega
   have q2 : 0 ≤ (k : Int) := by omega
   obtain ⟨c, hc⟩ : ∃ c, c = L.getD k cD := ⟨_, rfl⟩
   have hrg := colD_cells (HLR.out wr HBR.out) hkn
   rw [← hc, Nat.zero_add] at hrg
   have hl1 := fun op a next Q => loadW_mid (P := Tryz.prog) (t := 78) hrg Tryz.underlying78 rfl iszCo op a next Q
   have hst := fun op a next Q => store_newCo c wr op a next Q
   obtain ⟨w3, hw3⟩ : ∃ w3, w3 = wr.alloc (.cells (encC1 c).toArray 78) := ⟨_, rfl⟩
   obtain ⟨g3, hg3⟩ : ∃ g3, g3 = wr.heap.size := ⟨_, rfl⟩
   have hB3 : Blk w3 g3 78 (encC1 c) := by rw [hw3, hg3]; exact Blk.new wr _ _
   have hb3 : Below wr.heap.size wr w3 := by rw [hw3]; exact (Below.refl _ _).alloc (Nat.le_refl _) _
   have HB3 := Lib.hid (HBR.out.trans (hb3.mono hsr))
   have HO3 := Lib.hid (HO.out.below hb3)
   have HC := Lib.hid hc
   have HCB := Lib.hid hB3
   have hdc : c.1 < n := by rw [hc]; exact HDV.out k hkn
   have e0 : w3.cell? ⟨g3, 0, none⟩ = some (.int .i64 (c.1 : Nat)) := hB3.cell 0
   clear hrg hB3 hc hb3
   go_upto_region 10 with fail
   rw [← hw3, ← hg3]
   clear hw3 hg3 hst hl1
   have HC3 := Lib.hid (HC2.out.trans (HB3.out.mono HC2.out.size))
   have HW3 := Lib.hid (HB2.out.trans (HB3.out.mono HB2.out.size))
   have hld := fun op a next Q => loadW_blk (P := Tryz.prog) (HBX.out.blk.below HC3.out) Tryz.underlying37 rfl iszDs op a next Q
   have HH := Lib.hid (HHE.out w3 HW3.out c.1 hdc)
   cases hh : x.here c.1 with
   | false =>
    rw [hh] at HH
    have HK : Hid (x.col c = []) := Lib.hid (by unfold DvsT.col; rw [hh, if_neg (by decide)])
    clear hh
    go_wp2_with fail
    refine HH.out.mono ?_
    rintro e w4 ⟨rfl, hb4⟩
    have HB4 := Lib.hid (HB3.out.trans (hb4.mono HB3.out.size))
    have HO4 := Lib.hid (HO3.out.below hb4)
    clear hb4 hld e0
    go_wp2_with fail
    go_roundw
    case rel =>
     refine ⟨k + 1, O, by go_num, by omega, HO4, Lib.hid ⟨HOG.out.1, fun j hj => ?_⟩, HB4⟩
     rw [HOG.out.2 j hj]
     by_cases hjk : j < k
     ·rw [if_pos hjk, if_pos (by omega)]
     ·rw [if_neg hjk]
      by_cases hjk2 : j < k + 1
      ·have : j = k := by omega
       subst this
       rw [if_pos hjk2, HRL.out.2 j hkn, ← HC.out, HK.out]
      ·rw [if_neg hjk2]
    case measure => simp [intOf]; omega
   | true =>
    rw [hh] at HH
    obtain ⟨r, hr⟩ : ∃ r, r = (x.ds.getD c.1 dvD).readE (colAt c) := ⟨_, rfl⟩
    have HK : Hid (x.col c = r.1) := Lib.hid (by unfold DvsT.col; rw [hh, if_pos rfl, hr])
    have HRR := Lib.hid hr
    clear hh hr
    go_wp2_with fail
    refine HH.out.mono ?_
    rintro e w4 ⟨rfl, hb4⟩
    have HB4 := Lib.hid (HB3.out.trans (hb4.mono HB3.out.size))
    have HC4 := Lib.hid (HC3.out.trans (hb4.mono HC3.out.size))
    have HO4 := Lib.hid (HO3.out.below hb4)
    have HCB4 := Lib.hid (HCB.out.below hb4)
    clear hb4 hld e0
    obtain ⟨db, Fi, hps, hdev⟩ := HPS.out w4 c g3 HC4.out hdc HCB4.out
    have HRE := Lib.hid (dread_at (hdev.below (Below.refl _ _).drew) ((c.2.1 : Nat) : Int))
    rw [show ((c.2.1 : Nat) : Int) = colAt c from rfl, ← HRR.out] at HRE
    have HPK : Hid (∀ W, Below w4.heap.size w4 W → PutS gx g3 ga gn gc x.secs bl n lc wa wc c db W) := Lib.hid (fun W hW => hps.keep (F := fun _ => False) (Mod.below hW) (fun h => h) (fun h => h) (fun h => h))
    have HNE : Hid (gx ≠ go ∧ g3 ≠ go ∧ bl ≠ go) := Lib.hid (by
     have h1 := HB2.out.size
     have h2 := HO4.out
     refine ⟨by have := HGXX.out; have := HGO.out; have := HC2.out.size; have := HBX.out.blk.lt; omega, fun e => ?_, fun e => ?_⟩
     ·have h3 := HCB4.out
      unfold Blk at h2 h3
      rw [e] at h3
      rw [h2] at h3
      simp only [Option.some.injEq, Obj.cells.injEq] at h3
      exact absurd h3.2.1 (by decide)
     ·have := HGO.out; have := HBL.out; omega)
    have q3 : ((c.1 : Nat) : Int) < (n : Int) := by omega
    have q4 : 0 ≤ ((c.1 : Nat) : Int) := by omega
    have HPS0 := Lib.hid (HPK.out _ (Below.refl _ _).drew)
    clear hps hdev
    go_upto_region 11 with fail
    refine wp_region_held_drew (S := PutS gx g3 ga gn gc x.secs bl n lc wa wc c db) (by kernel_rfl) HPS0.out (fun hS0 => ?_)
    refine rtd 0 ?_; refine rtd 1 ?_; refine rtd 2 ?_
    refine rtv (i := 3) (v := ?vs3) (hy := ?ys3) (h := ?_)
    case ys3 => intro w hSw; (try dsimp only at hSw); go_simp; first | (rw [PutS.c2 hSw]; rfl) | rfl
    try simp only [Act.put, z1, z2, z3]
    refine rtd 4 ?_
    refine rtv (i := 5) (v := ?vs5) (hy := ?ys5) (h := ?_)
    case ys5 => intro w hSw; (try dsimp only at hSw); go_simp; first | (rw [PutS.k0 hSw]; rfl) | rfl
    try simp only [Act.put, z1, z2, z3]
    refine rtv (i := 6) (v := ?vs6) (hy := ?ys6) (h := ?_)
    case ys6 => intro w hSw; (try dsimp only at hSw); go_simp; first | with_reducible rfl | rw [if_pos (by omega)]
    try simp only [Act.put, z1, z2, z3]
    refine rtv (i := 7) (v := ?vs7) (hy := ?ys7) (h := ?_)
    case ys7 => intro w hSw; (try dsimp only at hSw); go_simp; first | (rw [PutS.ld hSw]; rfl) | rfl
    try simp only [Act.put, z1, z2, z3]
    refine rtd 8 ?_
    refine rtv (i := 9) (v := ?vs9) (hy := ?ys9) (h := ?_)
    case ys9 => intro w hSw; (try dsimp only at hSw); go_simp; first | (rw [PutS.k1 hSw]; rfl) | rfl
    try simp only [Act.put, z1, z2, z3]
    refine rr1 (i := 10) (h := fun K hK => ?_)
    go_simp
    refine HRE.out.mono ?_
    rintro e w5 ⟨rfl, hb5⟩
    have HB5 := Lib.hid ((Below.refl w4.heap.size w4).drew.trans hb5)
    have HO5 := Lib.hid (HO4.out.below HB5.out)
    have hok : k < O.length := by rw [HOG.out.1]; exact hkn
    obtain ⟨y, hy⟩ : ∃ y : Bs, y = O.getD k [] := ⟨_, rfl⟩
    have d2 := blk_str HO5.out hok
    rw [← hy] at d2
    have d3 := Blk.frozen HO5.out k
    have HO6 := Lib.hid (blk_strset HO5.out k r.1)
    have HMO : Hid (Mod (fun g => g = go) w5 (w5.setCell ⟨go, k, none⟩ (.string ⟨r.1.toArray⟩))) := Lib.hid ((Mod.refl _ _).setCell (.inl rfl))
    clear hb5 hy
    try dsimp only
    refine hK.out _ _ (HPK.out _ HB5.out) (fun hSs10 => ?_)
    try simp only [Act.put, z1, z2, z3]
    refine rtd 11 ?_; refine rtd 12 ?_; refine rtd 13 ?_
    refine rtv (i := 14) (v := ?vs14) (hy := ?ys14) (h := ?_)
    case ys14 => intro w hSw; (try dsimp only at hSw); go_simp; first | with_reducible rfl | rw [if_pos (by omega)]
    try simp only [Act.put, z1, z2, z3]
    refine rr1 (i := 15) (h := fun K hK => ?_)
    go_simp
    try dsimp only
    refine hK.out _ _ ((HPK.out _ HB5.out).keep HMO.out HNE.out.1 HNE.out.2.1 HNE.out.2.2) (fun hSs15 => ?_)
    try simp only [Act.put, z1, z2, z3]
    refine wpAnyH_done (by kernel_rfl) ?_ _
    have HB6 := Lib.hid (below_put (o := k) (vs := [.string ⟨r.1.toArray⟩]) ((HB4.out.trans (HB5.out.mono HB4.out.size))) (HB4.out.trans (HB5.out.mono HB4.out.size)).size (show w2.heap.size ≤ go by rw [HGO.out]; exact Nat.le_refl _))
    go_wp2_with fail
    go_roundw
    case rel =>
     refine ⟨k + 1, O.set k r.1, by go_num, by omega, HO6, Lib.hid ⟨by rw [List.length_set]; exact HOG.out.1, fun j hj => ?_⟩, HB6⟩
     by_cases hjk : j = k
     ·subst hjk
      rw [if_pos (by omega), HRL.out.2 j hkn, ← HC.out, HK.out]
      simp [List.getD_eq_getElem?_getD, hok]
     ·rw [List.getD_eq_getElem?_getD, List.getElem?_set_ne (Ne.symm hjk), ← List.getD_eq_getElem?_getD, HOG.out.2 j hj]
      by_cases hjk2 : j < k
      ·rw [if_pos hjk2, if_pos (by omega)]
      ·rw [if_neg hjk2, if_neg (by omega)]
    case measure => simp [intOf]; omega
  ·have q1 : ¬ (k : Int) < (L.length : Int) := by omega
   have hO : O = RX := by
    apply List.ext_getElem
    ·rw [HOG.out.1, HRL.out.1]
    ·intro j h1 h2
     have h3 := HOG.out.2 j (by rw [HOG.out.1] at h1; exact h1)
     rw [if_pos (by rw [HOG.out.1] at h1; omega)] at h3
     simpa [List.getD_eq_getElem?_getD, List.getElem?_eq_getElem h1, List.getElem?_eq_getElem h2] using h3
   have HFO : Hid (wr.ownsRow w.heap.size 9 1 (.slice (some ⟨go, 0, none⟩) L.length L.length) L.length (encS (bts RX))) := Lib.hid (by
    have h1 := blk_owns (base := w.heap.size) (n := L.length) (cap := L.length) (size := 1) HO.out (by rw [HGO.out]; exact HB2.out.size) (Nat.le_refl _) (by unfold maxLen; omega) (by rw [Nat.mul_one]; simp [encS, bts]; exact HOG.out.1)
    rw [List.take_of_length_le (by simp [encS, bts]; rw [HOG.out.1]; exact Nat.le_refl _), hO] at h1
    exact h1)
   have HFB := Lib.hid (HB2.out.trans (HBR.out.mono HB2.out.size))
   clear hO
   go_wp2_with fail
   go_ret2
   exact ⟨_, rfl, HFO.out, HFB.out⟩
end Go.Proofs.YtfaemcfjbbbbdaaGreat
namespace Go.Proofs.YtfaemcfjbbbbdaaGreat
open Go.RowKit
structure DvsAt (x : DvsT) (V : DvV) (F : Nat → Prop) (w wc : World) (F1 : Nat → Prop) : Prop where
 is : IsDvs wc x V F1
 mo : Mod F w wc
 nw : ∀ g, F1 g → F g ∨ w.heap.size ≤ g
 ty : NoTurn w wc
section
variable {x x2 : DvsT} {V : DvV} {F F1 : Nat → Prop} {w wc wd : World}
theorem DvsAt.start (h : IsDvs w x V F) : DvsAt x V F w w F := ⟨h, Mod.refl _ _, fun _ hg => .inl hg, NoTurn.below (Below.refl _ _)⟩
theorem DvsAt.below (h : DvsAt x V F w wc F1) (hb : Below wc.heap.size wc wd) : DvsAt x V F w wd F1 := ⟨h.is.below hb, h.mo.trans' hb, h.nw, h.ty.trans (NoTurn.below hb)⟩
theorem DvsAt.step (h : DvsAt x V F w wc F1) (k : DvsStep x2 V F1 wc wd) : ∃ F2, DvsAt x2 V F w wd F2 ∧ (∀ g, g < wc.heap.size → ¬ F1 g → ¬ F2 g) ∧ Mod F1 wc wd := by
 obtain ⟨F2, a1, a2, a3, a4⟩ := k
 refine ⟨F2, ⟨a1, h.mo.trans a2 (fun g hg hf => (h.nw g hf).resolve_right (by omega)), fun g hg => ?_, h.ty.trans a4⟩, fun g hg hn hf => (a3 g hf).elim hn (by omega), a2⟩
 rcases a3 g hg with h1 | h1
 ·exact h.nw g h1
 ·exact .inr (Nat.le_trans h.mo.size h1)
theorem DvsAt.fin (h : DvsAt x V F w wc F1) : DvsStep x V F w wc := ⟨F1, h.is, h.mo, h.nw, h.ty⟩
end
def DvsT.deep (x : DvsT) (K : Nat) : Prop := ∀ i k, ((x.ds.getD i dvD).cache k).length ≤ K
theorem DvsT.set_getD (x : DvsT) (i j : Nat) (δ : DevT) (hi : i < x.ds.length) : (x.set i δ).ds.getD j dvD = if j = i then δ else x.ds.getD j dvD := by
 unfold DvsT.set
 dsimp only
 by_cases h : j = i
 ·subst h
  rw [if_pos rfl, List.getD_eq_getElem?_getD, List.getElem?_set_self hi]
  rfl
 ·rw [if_neg h, List.getD_eq_getElem?_getD, List.getElem?_set_ne (Ne.symm h), ← List.getD_eq_getElem?_getD]
theorem writeE_deep (δ : DevT) (a : Int) (s : Bs) (K : Nat) (h : ∀ k, (δ.cache k).length ≤ K) : ∀ k, ((δ.writeE a s).2.cache k).length ≤ K + 1 := by
 intro k
 have h1 := h k
 unfold DevT.writeE
 split
 ·dsimp only; omega
 ·split
  ·dsimp only; omega
  ·split
   ·dsimp only; omega
   ·unfold DevT.wrote cput
    dsimp only
    split
    ·rename_i hk
     have := h a.toNat
     simp only [List.length_append, List.length_singleton]; omega
    ·omega
theorem putX_same (x : DvsT) (c : ColT) (s : Bs) : (putX x c s).2.gs = x.gs ∧ (putX x c s).2.secs = x.secs ∧ (putX x c s).2.away = x.away ∧ (putX x c s).2.ds.length = x.ds.length := by
 unfold putX
 split
 ·exact ⟨rfl, rfl, rfl, by simp [DvsT.set]⟩
 ·exact ⟨rfl, rfl, rfl, rfl⟩
theorem putX_deep {x : DvsT} {K : Nat} (h : x.deep K) (c : ColT) (s : Bs) (hc : c.1 < x.ds.length) : (putX x c s).2.deep (K + 1) := by
 unfold putX
 split
 ·intro i k
  dsimp only
  rw [DvsT.set_getD x c.1 i _ hc]
  split
  ·exact writeE_deep _ _ _ _ (h c.1) k
  ·exact Nat.le_succ_of_le (h i k)
 ·intro i k
  exact Nat.le_succ_of_le (h i k)
def setV (f : List Nat) : List (Nat × Value) := f.map fun (d : Nat) => (d, Value.bool true)
theorem setV_none {f : List Nat} {d : Nat} (h : d ∉ f) : vget (setV f) d = none := by
 induction f with
 | nil => rfl
 | cons a r ih =>
  simp only [List.mem_cons, not_or] at h
  unfold setV at ih ⊢
  rw [List.map_cons]
  unfold vget
  rw [if_neg (fun e => h.1 e.symm)]
  exact ih h.2
theorem setV_put (f : List Nat) (d : Nat) : vput (setV f) d (.bool true) = setV (addF f d) := by
 unfold addF
 by_cases h : d ∈ f
 ·rw [if_pos h]
  induction f with
  | nil => cases h
  | cons a r ih =>
   unfold setV at ih ⊢
   rw [List.map_cons]
   unfold vput
   by_cases ha : a = d
   ·rw [if_pos ha, ha]
   ·rw [if_neg ha, ih (by simpa [Ne.symm ha, ha] using h)]
 ·rw [if_neg h, vput_none (setV_none h)]
  simp [setV]
theorem run_len_map {w : World} {g : Nat} {c : List (Nat × Value)} (h : MapI w g c) (ty : TypeId) : (Builtin.len_ #[138] ty #[.map (some g)]).run Tryz.prog w = .ok (.int .i64 (c.length : Nat)) w := by
 obtain ⟨es, clock, h1, h2⟩ := h
 unfold Builtin.len_
 simp only [List.getElem?_toArray, List.getElem?_cons_zero]
 rw [Sem.run_bind, run_underlying Tryz.underlying138 w]
 simp only [Result.andThen_ok]
 rw [Sem.run_bind, MapKept.run_getObj_map h1]
 simp only [Result.andThen_ok]
 have := kvI_length h2
 rw [Array.length_toList] at this
 rw [this]
 rfl
structure WrI (wr : World) (F1 : Nat → Prop) (gx gp g8 c8 g10 c10 : Nat) (box : List Value) (g a : Nat) (T : List Bs) (L : List ColT) : Prop where
 bx : Blk wr gx 37 box
 fx : ¬ F1 gx
 px : Blk wr gp 44 [.int .i64 (g : Nat), .int .i64 (a : Nat)]
 fp : ¬ F1 gp
 tx : wr.ownsRow 0 9 1 (.slice (some ⟨g8, 0, none⟩) T.length c8) T.length (encS (bts T))
 ft : ¬ F1 g8
 lx : wr.ownsRow 0 78 4 (.slice (some ⟨g10, 0, none⟩) L.length c10) L.length (encC L)
 fl : ¬ F1 g10
section
variable {wr wc : World} {F1 F2 : Nat → Prop} {gx gp g8 c8 g10 c10 g a : Nat} {box : List Value} {T : List Bs} {L : List ColT}
theorem WrI.below (h : WrI wr F1 gx gp g8 c8 g10 c10 box g a T L) (hb : Below wr.heap.size wr wc) : WrI wc F1 gx gp g8 c8 g10 c10 box g a T L :=
 ⟨h.bx.below hb, h.fx, h.px.below hb, h.fp, owns_below h.tx hb, h.ft, owns_below h.lx hb, h.fl⟩
theorem WrI.step (h : WrI wr F1 gx gp g8 c8 g10 c10 box g a T L) (hm : Mod F1 wr wc) (hf : ∀ k, k < wr.heap.size → ¬ F1 k → ¬ F2 k) : WrI wc F2 gx gp g8 c8 g10 c10 box g a T L :=
 ⟨hm.blk h.bx h.fx, hf _ h.bx.lt h.fx, hm.blk h.px h.fp, hf _ h.px.lt h.fp, own_mod hm h.tx (fun k hk => by simp only [Value.ownBlock, Option.some.injEq] at hk; rw [← hk]; exact h.ft), hf _ (h.tx.lt g8 rfl).2 h.ft, own_mod hm h.lx (fun k hk => by simp only [Value.ownBlock, Option.some.injEq] at hk; rw [← hk]; exact h.fl), hf _ (h.lx.lt g10 rfl).2 h.fl⟩
end
theorem makeB_len (l : List Bs) (n : Nat) (h : ∀ u ∈ l, u.length ≤ n) : (makeB l).length ≤ n := by
 unfold makeB
 split
 ·simp
 ·rename_i hne
  rw [xorL_length]
  cases l with
  | nil => exact absurd (.inl rfl) hne
  | cons a r => exact h a (by simp)
theorem row_base0 {w : World} {b e k n : Nat} {v : Value} {xs : List Value} (h : w.ownsRow b e k v n xs) : w.ownsRow 0 e k v n xs := by
 obtain ⟨h1, h2⟩ := h
 refine ⟨h1, ?_⟩
 rcases h2 with h2 | ⟨g, cap, cur, h3, h4, h5⟩
 ·exact .inl h2
 ·exact .inr ⟨g, cap, cur, h3, Nat.zero_le _, h5⟩
theorem row_nmap' {w : World} {b e k n g : Nat} {v : Value} {xs : List Value} {c : List (Nat × Value)} (h : w.ownsRow b e k v n xs) (hb : MapI w g c) : ∀ x, v.ownBlock = some x → ¬ x = g := fun x hx e => row_nmap h hb (by rw [hx, e])
theorem WrI.map {wr wc : World} {F1 : Nat → Prop} {gx gp g8 c8 g10 c10 g a mp : Nat} {box : List Value} {T : List Bs} {L : List ColT} {c : List (Nat × Value)} (h : WrI wr F1 gx gp g8 c8 g10 c10 box g a T L) (hM : MapI wr mp c) (hG : wr.grownBy wc (some mp)) : WrI wc F1 gx gp g8 c8 g10 c10 box g a T L := by
 have hm : Mod (fun x => x = mp) wr wc := mod_grown hG (fun x hx => by simpa using hx.symm)
 exact ⟨hm.blk h.bx (blk_nmap h.bx hM), h.fx, hm.blk h.px (blk_nmap h.px hM), h.fp, own_mod hm h.tx (row_nmap' h.tx hM), h.ft, own_mod hm h.lx (row_nmap' h.lx hM), h.fl⟩
theorem DvsAt.map {x : DvsT} {V : DvV} {F F1 : Nat → Prop} {w wc wd : World} {mp : Nat} (h : DvsAt x V F w wc F1) (hn : ¬ F1 mp) (hG : wc.grownBy wd (some mp)) (hw : w.heap.size ≤ mp) : DvsAt x V F w wd F1 := by
 have hm : Mod (fun x => x = mp) wc wd := mod_grown hG (fun x hx => by simpa using hx.symm)
 exact ⟨h.is.keep (fun g hg => hm.block g (h.is.lt g hg) (fun e => hn (by rw [← e]; exact hg))), h.mo.trans hm (fun g hg e => by omega), h.nw, h.ty.new hG hw⟩
theorem range_all {w : World} {g e : Nat} {cs : List Value} (h : Blk w g e cs) : w.rangeAt g 0 cs := fun j v hj => by
 rw [h.cell, Nat.zero_add]; exact hj
structure WrS (gx g5 g8 k : Nat) (box : List Value) (c : ColT) (tx : Bs) (w : World) : Prop where
 bx : Blk w gx 37 box
 co : Blk w g5 78 (encC1 c)
 tc : w.cell? ⟨g8, k, none⟩ = some (.string ⟨tx.toArray⟩)
theorem WrS.r0 {gx g5 g8 k : Nat} {box : List Value} {c : ColT} {tx : Bs} {w : World} (h : WrS gx g5 g8 k box c tx w) : w.rangeAt gx 0 box := range_all h.bx
theorem WrS.r1 {gx g5 g8 k : Nat} {box : List Value} {c : ColT} {tx : Bs} {w : World} (h : WrS gx g5 g8 k box c tx w) : w.rangeAt g5 0 (encC1 c) := range_all h.co
end Go.Proofs.YtfaemcfjbbbbdaaGreat
namespace Go.Proofs.YtfaemcfjbbbbdaaGreat
open Go.RowKit
attribute [local go_sem ↓] wp_loadCo wp_storeCo
theorem secK_small (s : Bs) (k j : Nat) : ((secK s k).getD j []).length ≤ 64 := by
 unfold secK
 rw [List.getD_eq_getElem?_getD, List.getElem?_map]
 by_cases h : j < k
 ·rw [List.getElem?_range h]
  simp only [Option.map_some, Option.getD_some, List.length_drop, List.length_take]
  omega
 ·rw [List.getElem?_eq_none (by simp; omega)]; simp
theorem dataL_small {data : List Bs} (h : ∀ j, (data.getD j []).length ≤ 64) (l : List ColT) {i : Nat} (hi : i < l.length) : ((dataL data 0 l).getD i []).length ≤ 64 := by
 rw [dataL_get data l 0 i hi]
 split
 ·simp
 ·exact h _
theorem rowL_in {l : List ColT} {no q : Nat} (h : q ∈ rowL l no) : q < l.length ∧ (l.getD q cD).2.2.1 = false := by
 unfold rowL at h
 rw [List.mem_filter, List.mem_range] at h
 refine ⟨h.1, ?_⟩
 have := h.2
 simp only [Bool.and_eq_true, Bool.not_eq_true'] at this
 exact this.2
theorem encAt_data {l : List ColT} {data : List Bs} {k q : Nat} (hq : q < l.length) (hp : (l.getD q cD).2.2.1 = false) : encAt l data k q = (dataL data 0 l).getD q [] := by
 unfold encAt
 split
 ·rw [encL_get l data hq, if_neg (by rw [hp]; decide)]
 ·rfl
theorem rowL_len (l : List ColT) (no : Nat) : (rowL l no).length ≤ l.length := rowK_len l no l.length
set_option maxHeartbeats 4000000 in
set_option maxRecDepth 100000 in
theorem encode_any (ga : Option Addr) (gc : Nat) (gs : Gs) (secs : Int) (g a : Nat) (s : Bs) (w : World) (hg : GSl w ga gs.length gc gs) (hs : blkOk s = true) (hm : mayC gs secs g a ((s.length / 64 : Nat) : Int) = true) :
  Calls Tryz.prog 65 #[.agg #[.slice ga gs.length gc, .int .i64 secs], .agg #[.int .i64 (g : Nat), .int .i64 (a : Nat)], .string ⟨s.toArray⟩] w fun e w' => ∃ v, e = .returned (.tuple #[v, .int .i64 0]) ∧ w'.ownsRow w.heap.size 9 1 v (colsL gs g a (s.length / 64)).length (encS (bts (encL (colsL gs g a (s.length / 64)) (secL s)))) ∧ Below w.heap.size w w' := by
 obtain ⟨b1, _, _, b4, b5, _⟩ := blkOk_spec hs
 obtain ⟨w0, hw0⟩ : ∃ w0, w0 = (w.alloc (.cells #[.slice ga gs.length gc, .int .i64 secs] 24)).alloc (.cells #[.int .i64 (g : Nat), .int .i64 (a : Nat)] 44) := ⟨_, rfl⟩
 have hb0 : Below w.heap.size w w0 := by rw [hw0]; exact ((Below.refl _ _).alloc (Nat.le_refl _) _).alloc (by simp) _
 have hB1 : Blk w0 w.heap.size 24 [.slice ga gs.length gc, .int .i64 secs] := by rw [hw0]; exact (Blk.new w _ _).alloc _
 have hB2 : Blk w0 (w.heap.size + 1) 44 [.int .i64 (g : Nat), .int .i64 (a : Nat)] := by rw [hw0]; exact Blk.newAt (w := w.alloc _) _ _ (by simp)
 have HB0 := Lib.hid hb0
 have HX1 := Lib.hid hB1
 have HX2 := Lib.hid hB2
 have HSE := Lib.hid (sectors_any s w0 hs)
 obtain ⟨size, hsize⟩ : ∃ size, size = s.length / 64 := ⟨_, rfl⟩
 obtain ⟨data, hdata⟩ : ∃ data, data = secL s := ⟨_, rfl⟩
 obtain ⟨L, hL⟩ : ∃ L, L = colsL gs g a (s.length / 64) := ⟨_, rfl⟩
 have hLl := colsL_len hm
 have HCO : Hid (∀ W, Below w.heap.size w W → Calls Tryz.prog 25 #[.agg #[.slice ga gs.length gc, .int .i64 secs], .agg #[.int .i64 (g : Nat), .int .i64 (a : Nat)], .int .i64 (size : Nat)] W fun e w' => ∃ v, e = .returned (.tuple #[v, .int .i64 0]) ∧ w'.ownsRow W.heap.size 78 4 v L.length (encC L) ∧ Below W.heap.size W w') := Lib.hid (fun W hW => by
  rw [hL, hsize]; exact cof_yes ga gs.length gc gs secs g a (s.length / 64) W (hg.below hW) hm)
 have hdl : data.length = size := by rw [hdata, hsize]; unfold secL; exact secK_len _ _
 have HSM : Hid (∀ j, (data.getD j []).length ≤ 64) := Lib.hid (fun j => by rw [hdata]; unfold secL; exact secK_small _ _ _)
 rw [← hL] at hLl ⊢
 rw [← hdata] at HSE ⊢
 rw [← hsize] at HSE b4 b5
 have HDL := Lib.hid hdl
 have hs0 : s.length ≤ 1000000 := by have := (blkOk_spec hs).2.2.1; omega
 clear hb0 hB1 hB2 hg hs hm hdata hL hsize hdl b1
 go_enter Tryz.func65, Tryz.ntmps65
 go_upto_region 1 with fail
 rw [← hw0]
 clear hw0
 go_wp2_with fail
 refine HSE.out.mono ?_
 rintro e w1 ⟨v8, rfl, hrow8, hb1⟩
 obtain ⟨g8, c8, rfl⟩ := own_form1 hrow8 (by omega)
 have HB1 := Lib.hid (HB0.out.trans (hb1.mono HB0.out.size))
 have HR8 := Lib.hid hrow8
 have x0 := (HX1.out.below hb1).cell 0
 have x1 := (HX1.out.below hb1).cell 1
 have y0 := (HX2.out.below hb1).cell 0
 have y1 := (HX2.out.below hb1).cell 1
 have HC := Lib.hid (HCO.out w1 HB1.out)
 clear hrow8 hb1 HSE
 go_wp2_with fail
 refine HC.out.mono ?_
 rintro e w2 ⟨v10, rfl, hrow10, hb2⟩
 obtain ⟨g10, c10, rfl⟩ := own_form1 hrow10 (by omega)
 have HB2 := Lib.hid (HB1.out.trans (hb2.mono HB1.out.size))
 have HD : Hid (∀ W, Below w2.heap.size w2 W → ∀ j, j < size → W.cell? ⟨g8, j, none⟩ = some (.string ⟨(data.getD j []).toArray⟩)) := Lib.hid (fun W hW j hj => own_str (owns_below (owns_below HR8.out hb2) hW) (by rw [HDL.out]; exact hj))
 have HLR : Hid (∀ W, Below w2.heap.size w2 W → RSl W 4 (some ⟨g10, 0, none⟩) L.length c10 (encC L)) := Lib.hid (fun W hW => rsl_of_owns (owns_below hrow10 hW))
 have hmk := make_strs L.length (by omega) w2
 have HBO : Hid (Blk (w2.alloc (.cells (encS (bts (List.replicate L.length []))).toArray 9)) w2.heap.size 9 (encS (bts (List.replicate L.length [])))) := Lib.hid (Blk.new w2 _ _)
 have HBB : Hid (Below w2.heap.size w2 (w2.alloc (.cells (encS (bts (List.replicate L.length []))).toArray 9))) := Lib.hid ((Below.refl _ _).alloc (Nat.le_refl _) _)
 obtain ⟨go, hgo⟩ : ∃ go, go = w2.heap.size := ⟨_, rfl⟩
 obtain ⟨wC, hwC⟩ : ∃ wC, wC = w2.alloc (.cells (encS (bts (List.replicate L.length []))).toArray 9) := ⟨_, rfl⟩
 rw [← hwC, ← hgo] at HBO hmk
 rw [← hwC] at HBB
 have HGO := Lib.hid hgo
 clear hrow10 hb2 HC x0 x1 y0 y1 hgo hwC
 go_wp2_with fail
 go_loopw [13, 44] (fun v13 vi wr => ∃ (k : Nat) (O : List Bs), vi = .int .i64 k ∧ v13 = .int .i64 ((dcount L k : Nat) : Int) ∧ k ≤ L.length ∧ Hid (Blk wr go 9 (encS (bts O))) ∧ Hid (O.length = L.length ∧ ∀ j, j < L.length → O.getD j [] = if j < k then (dataL data 0 L).getD j [] else []) ∧ Hid (Below w2.heap.size w2 wr)) (fun _ vi _ => L.length - (intOf vi).toNat)
 case atStart => exact ⟨0, List.replicate L.length [], rfl, rfl, Nat.zero_le _, HBO, Lib.hid ⟨by simp, fun j hj => by rw [if_neg (by omega)]; simp [List.getD_eq_getElem?_getD, hj]⟩, HBB⟩
 case round =>
  obtain ⟨k, O, rfl, rfl, hk, HO, HOG, HBR⟩ := hrel
  have hsr := HBR.out.size
  by_cases hkn : k < L.length
  ·have q1 : (k : Int) < (L.length : Int) := by omega
   have q2 : 0 ≤ (k : Int) := by omega
   obtain ⟨c, hc⟩ : ∃ c, c = L.getD k cD := ⟨_, rfl⟩
   have hrg := colD_cells (HLR.out wr HBR.out) hkn
   rw [← hc, Nat.zero_add] at hrg
   have hl1 := fun op a next Q => loadW_mid (P := Tryz.prog) (t := 78) hrg Tryz.underlying78 rfl iszCo op a next Q
   have hst := fun op a next Q => store_newCo c wr op a next Q
   obtain ⟨w3, hw3⟩ : ∃ w3, w3 = wr.alloc (.cells (encC1 c).toArray 78) := ⟨_, rfl⟩
   obtain ⟨g3, hg3⟩ : ∃ g3, g3 = wr.heap.size := ⟨_, rfl⟩
   have hB3 : Blk w3 g3 78 (encC1 c) := by rw [hw3, hg3]; exact Blk.new wr _ _
   have hb3 : Below wr.heap.size wr w3 := by rw [hw3]; exact (Below.refl _ _).alloc (Nat.le_refl _) _
   have HB3 := Lib.hid (HBR.out.trans (hb3.mono hsr))
   have HO3 := Lib.hid (HO.out.below hb3)
   have HC := Lib.hid hc
   obtain ⟨c0, c1, cp, cr⟩ := c
   have e2 : w3.cell? ⟨g3, 2, none⟩ = some (.bool cp) := hB3.cell 2
   clear hrg hB3 hc hb3
   go_upto_region 12 with fail
   rw [← hw3, ← hg3]
   clear hw3 hg3 hst hl1
   obtain ⟨dc, hdc⟩ : ∃ dc, dc = dcount L k := ⟨_, rfl⟩
   have hdcl := dcount_le L k
   have HDC := Lib.hid hdc
   rw [← hdc] at hdcl ⊢
   clear hdc
   cases cp with
   | true =>
    go_wp2_with fail
    go_roundw
    case rel =>
     refine ⟨k + 1, O, by go_num, by rw [dcount_succ L k hkn, ← HC.out, if_pos rfl, ← HDC.out]; rfl, by omega, HO3, Lib.hid ⟨HOG.out.1, fun j hj => ?_⟩, HB3⟩
     rw [HOG.out.2 j hj]
     by_cases hjk : j < k
     ·rw [if_pos hjk, if_pos (by omega)]
     ·rw [if_neg hjk]
      by_cases hjk2 : j < k + 1
      ·have : j = k := by omega
       subst this
       rw [if_pos hjk2, dataL_get data L 0 j hkn, ← HC.out, if_pos rfl]
      ·rw [if_neg hjk2]
    case measure => simp [intOf]; omega
   | false =>
    obtain ⟨m, hm⟩ : ∃ m, m = dc % size := ⟨_, rfl⟩
    have hms : m < size := by rw [hm]; exact Nat.mod_lt _ (by omega)
    have q3 : (dc : Int) % (size : Int) = (m : Int) := by rw [hm]; simp
    have q4 : (m : Int) < (size : Int) := by omega
    have q5 : 0 ≤ (m : Int) := by omega
    have q6 : (size : Int) ≠ 0 := by omega
    have q7 : 0 ≤ (dc : Int) := by omega
    have d1 := HD.out w3 HB3.out m hms
    have hok : k < O.length := by rw [HOG.out.1]; exact hkn
    have d2 := blk_str HO3.out hok
    have d3 := Blk.frozen HO3.out k
    obtain ⟨x, hx⟩ : ∃ x : Bs, x = data.getD m [] := ⟨_, rfl⟩
    obtain ⟨y, hy⟩ : ∃ y : Bs, y = O.getD k [] := ⟨_, rfl⟩
    rw [← hx] at d1
    rw [← hy] at d2
    have HX := Lib.hid hx
    have HMM := Lib.hid hm
    have HO4 := Lib.hid (blk_strset HO3.out k x)
    have HB4 := Lib.hid (below_put (o := k) (vs := [.string ⟨x.toArray⟩]) HB3.out HB3.out.size (show w2.heap.size ≤ go by rw [HGO.out]; exact Nat.le_refl _))
    clear hx hy hm
    go_wp2_with fail
    go_roundw
    case rel =>
     refine ⟨k + 1, O.set k x, by go_num, by rw [dcount_succ L k hkn, ← HC.out, if_neg (by simp), ← HDC.out]; go_num, by omega, HO4, Lib.hid ⟨by rw [List.length_set]; exact HOG.out.1, fun j hj => ?_⟩, HB4⟩
     by_cases hjk : j = k
     ·subst hjk
      rw [if_pos (by omega), dataL_get data L 0 j hkn, ← HC.out, if_neg (by simp), Nat.zero_add, ← HDC.out, HDL.out, ← HMM.out, ← HX.out]
      simp [List.getD_eq_getElem?_getD, hok]
     ·rw [List.getD_eq_getElem?_getD, List.getElem?_set_ne (Ne.symm hjk), ← List.getD_eq_getElem?_getD, HOG.out.2 j hj]
      by_cases hjk2 : j < k
      ·rw [if_pos hjk2, if_pos (by omega)]
      ·rw [if_neg hjk2, if_neg (by omega)]
    case measure => simp [intOf]; omega
  ·have q1 : ¬ (k : Int) < (L.length : Int) := by omega
   have hO2 : O.length = L.length ∧ ∀ j, j < L.length → O.getD j [] = encAt L data 0 j := ⟨HOG.out.1, fun j hj => by rw [HOG.out.2 j hj, if_pos (by omega)]; unfold encAt; rw [if_neg (by omega)]⟩
   have HO2 := Lib.hid hO2
   clear hO2 HOG
   go_wp2_with fail
   go_loopw [67] (fun vi wr => ∃ (k : Nat) (O : List Bs), vi = .int .i64 k ∧ k ≤ L.length ∧ Hid (Blk wr go 9 (encS (bts O))) ∧ Hid (O.length = L.length ∧ ∀ j, j < L.length → O.getD j [] = encAt L data k j) ∧ Hid (Below w2.heap.size w2 wr)) (fun vi _ => L.length - (intOf vi).toNat)
   case atStart => exact ⟨0, O, rfl, Nat.zero_le _, HO, HO2, HBR⟩
   case round =>
    clear HO HO2 HBR hsr
    obtain ⟨k2, O2, rfl, hk2, HO, HOG, HBR⟩ := hrel
    have hsr := HBR.out.size
    by_cases hkn2 : k2 < L.length
    ·have q2 : (k2 : Int) < (L.length : Int) := by omega
     have q3 : 0 ≤ (k2 : Int) := by omega
     obtain ⟨c, hc⟩ : ∃ c, c = L.getD k2 cD := ⟨_, rfl⟩
     have hrg := colD_cells (HLR.out wr HBR.out) hkn2
     rw [← hc, Nat.zero_add] at hrg
     have hl1 := fun op a next Q => loadW_mid (P := Tryz.prog) (t := 78) hrg Tryz.underlying78 rfl iszCo op a next Q
     have hst := fun op a next Q => store_newCo c wr op a next Q
     obtain ⟨w3, hw3⟩ : ∃ w3, w3 = wr.alloc (.cells (encC1 c).toArray 78) := ⟨_, rfl⟩
     obtain ⟨g3, hg3⟩ : ∃ g3, g3 = wr.heap.size := ⟨_, rfl⟩
     have hB3 : Blk w3 g3 78 (encC1 c) := by rw [hw3, hg3]; exact Blk.new wr _ _
     have hb3 : Below wr.heap.size wr w3 := by rw [hw3]; exact (Below.refl _ _).alloc (Nat.le_refl _) _
     have HB3 := Lib.hid (HBR.out.trans (hb3.mono hsr))
     have HO3 := Lib.hid (HO.out.below hb3)
     have HC := Lib.hid hc
     obtain ⟨c0, c1, cp, cr⟩ := c
     have e2 : w3.cell? ⟨g3, 2, none⟩ = some (.bool cp) := hB3.cell 2
     have e3 : w3.cell? ⟨g3, 3, none⟩ = some (.int .i64 (cr : Nat)) := hB3.cell 3
     clear hrg hB3 hc hb3
     go_upto_region 19 with fail
     rw [← hw3, ← hg3]
     clear hw3 hg3 hst hl1
     cases cp with
     | false =>
      go_wp2_with fail
      go_roundw
      case rel =>
       refine ⟨k2 + 1, O2, by go_num, by omega, HO3, Lib.hid ⟨HOG.out.1, fun j hj => ?_⟩, HB3⟩
       rw [HOG.out.2 j hj]
       by_cases hjk : j = k2
       ·subst hjk
        rw [encAt_data hj (by rw [← HC.out]), encAt_data hj (by rw [← HC.out])]
       ·unfold encAt
        by_cases hjk2 : j < k2
        ·rw [if_pos hjk2, if_pos (by omega)]
        ·rw [if_neg hjk2, if_neg (by omega)]
      case measure => simp [intOf]; omega
     | true =>
      have HCR := Lib.hid (crow_any (some ⟨g10, 0, none⟩) c10 L cr w3 (HLR.out w3 HB3.out) (by omega))
      obtain ⟨R, hR⟩ : ∃ R, R = rowL L cr := ⟨_, rfl⟩
      have HRI : Hid (∀ q ∈ R, q < L.length ∧ (L.getD q cD).2.2.1 = false) := Lib.hid (fun q hq => by rw [hR] at hq; exact rowL_in hq)
      have hRl : R.length ≤ 32 := by rw [hR]; have := rowL_len L cr; omega
      rw [← hR] at HCR
      have HRR := Lib.hid hR
      clear hR
      go_wp2_with fail
      refine HCR.out.mono ?_
      rintro e w4 ⟨vR, rfl, hrowR, hb4⟩
      obtain ⟨aoR, cR, rfl⟩ := own_form hrowR
      have HB4 := Lib.hid (HB3.out.trans (hb4.mono HB3.out.size))
      have HO4 := Lib.hid (HO3.out.below hb4)
      have HRR4 := Lib.hid hrowR
      clear hrowR hb4 HCR
      go_wp2_with fail
      go_loopw [18, 79] (fun v18 vi wx => ∃ (m : Nat), vi = .int .i64 m ∧ m ≤ R.length ∧ Hid (wx.ownsRow w4.heap.size 9 1 v18 m (encS (bts ((R.take m).map fun q => O2.getD q [])))) ∧ Hid (Below w4.heap.size w4 wx)) (fun _ vi _ => R.length - (intOf vi).toNat)
      case atStart => exact ⟨0, rfl, Nat.zero_le _, Lib.hid (World.ownsRow_nil _ _ _ _), Lib.hid (Below.refl _ _)⟩
      case round =>
       obtain ⟨m, rfl, hml, HP, HBX⟩ := hrel
       have hsx := HBX.out.size
       obtain ⟨ao18, c18, rfl⟩ := own_form HP.out
       by_cases hmR : m < R.length
       ·have r1 : (m : Int) < (R.length : Int) := by omega
        have r2 : 0 ≤ (m : Int) := by omega
        obtain ⟨gR, cR2, eR⟩ := own_form1 HRR4.out (by omega)
        simp only [Value.slice.injEq, true_and] at eR
        obtain ⟨rfl, rfl⟩ := eR
        obtain ⟨q, hq⟩ : ∃ q, q = R.getD m 0 := ⟨_, rfl⟩
        have hqR : q ∈ R := by rw [hq, List.getD_eq_getElem?_getD, List.getElem?_eq_getElem hmR]; exact List.getElem_mem _
        have hqL := (HRI.out q hqR).1
        have e5 := own_int (owns_below HRR4.out HBX.out) hmR
        rw [← hq] at e5
        obtain ⟨x, hx⟩ : ∃ x : Bs, x = O2.getD q [] := ⟨_, rfl⟩
        have e6 := blk_str (HO4.out.below HBX.out) (j := q) (by rw [HOG.out.1]; exact hqL)
        rw [← hx] at e6
        have r3 : (q : Int) < (L.length : Int) := by omega
        have r4 : 0 ≤ (q : Int) := by omega
        have HQ := Lib.hid hq
        have HX := Lib.hid hx
        clear hq hx hqR
        obtain ⟨i0, hi, hz0, hz1, hz2⟩ := info_parts infoStr
        have m1 : m + 1 ≤ maxLen := by unfold maxLen; omega
        have m2 : (m + 1) * 16 ≤ 140737488355328 := by omega
        have m3 : w4.heap.size ≤ (wr.alloc (.cells #[.string ⟨x.toArray⟩] 9)).heap.size := by simp; omega
        have HNW := Lib.hid (Blk.news (Blk.new wr 9 [.string ⟨x.toArray⟩]))
        have HP3 := Lib.hid (HP.out.alloc (.cells #[.string ⟨x.toArray⟩] 9))
        obtain ⟨PP, hPP⟩ : ∃ PP, PP = (R.take m).map fun q => O2.getD q [] := ⟨_, rfl⟩
        have HPP := Lib.hid hPP
        rw [← hPP] at HP3
        clear hPP HP
        go_wp2_with (at_builtin; go_must (refine wpList_append_own_at _ rfl (.tmp 83) (.tmp 88) 59 rfl w4.heap.size 9 i0 (.string ⟨#[]⟩) 1 16 Tryz.underlying59 hi hz0 hz1 hz2 rfl (by decide) (.slice ao18 m c18) m (encS (bts PP)) rfl HP3.out ⟨wr.heap.size, 0, none⟩ 1 1 [.string ⟨x.toArray⟩] rfl rfl HNW.out (by simp [Value.oneCell']) m1 m2 m3 ?_; intro v1 w5 hown1 hgrow1 _ _))
        have HBF : Hid (Below w4.heap.size w4 w5) := Lib.hid (below_own (HBX.out.alloc hsx _) HP3.out hgrow1 m3 (Nat.le_refl _))
        have hown2 : w5.ownsRow w4.heap.size 9 1 v1 (m + 1) (encS (bts ((R.take (m + 1)).map fun q => O2.getD q []))) := by
         rw [enc_snoc] at hown1
         rw [List.take_succ_eq_append_getElem hmR, List.map_append, ← HPP.out]
         have e7 : R[m] = q := by rw [HQ.out]; simp [List.getD_eq_getElem?_getD, hmR]
         simp only [List.map_cons, List.map_nil, e7, ← HX.out]
         exact hown1
        have HO7 := Lib.hid hown2
        clear hown1 hgrow1 hown2
        go_roundw
        case rel => exact ⟨m + 1, by go_num, by omega, HO7, HBF⟩
        case measure => simp [intOf]; omega
       ·have r1 : ¬ (m : Int) < (R.length : Int) := by omega
        have hmE : m = R.length := by omega
        have hparts : (R.take m).map (fun q => O2.getD q []) = (rowL L cr).map fun q => (dataL data 0 L).getD q [] := by
         rw [hmE, List.take_length, ← HRR.out]
         apply List.map_congr_left
         intro q hq
         obtain ⟨h1, h2⟩ := HRI.out q hq
         rw [HOG.out.2 q h1, encAt_data h1 h2]
        have hP := HP.out
        rw [hparts] at hP
        obtain ⟨PA, hPA⟩ : ∃ PA, PA = (rowL L cr).map fun q => (dataL data 0 L).getD q [] := ⟨_, rfl⟩
        rw [← hPA] at hP
        have hsmall : ∀ t ∈ PA, t.length ≤ 1000000 := fun t ht => by
         rw [hPA] at ht
         obtain ⟨q, hq, rfl⟩ := List.mem_map.1 ht
         have := dataL_small HSM.out L (rowL_in hq).1
         omega
        have HMK := Lib.hid (make_any ao18 m c18 PA wr (rsl_of_owns hP) (by omega) hsmall)
        have HPA := Lib.hid hPA
        have HO8 := Lib.hid (HO4.out.below HBX.out)
        have HB8 := Lib.hid (HB4.out.trans (HBX.out.mono HB4.out.size))
        clear hP hPA hparts hmE hsmall HP
        go_wp2_with fail
        refine HMK.out.mono ?_
        rintro e w6 ⟨me, rfl, hb6⟩
        have HO9 := Lib.hid (HO8.out.below hb6)
        have HB9 := Lib.hid (HB8.out.trans (hb6.mono HB8.out.size))
        have hok : k2 < O2.length := by rw [HOG.out.1]; exact hkn2
        obtain ⟨y, hy⟩ : ∃ y : Bs, y = O2.getD k2 [] := ⟨_, rfl⟩
        have d2 := blk_str HO9.out hok
        rw [← hy] at d2
        have d3 := Blk.frozen HO9.out k2
        obtain ⟨x, hx⟩ : ∃ x : Bs, x = makeB PA := ⟨_, rfl⟩
        have HX := Lib.hid hx
        rw [← hx]
        have HO10 := Lib.hid (blk_strset HO9.out k2 x)
        have HB10 := Lib.hid (below_put (o := k2) (vs := [.string ⟨x.toArray⟩]) HB9.out HB9.out.size (show w2.heap.size ≤ go by rw [HGO.out]; exact Nat.le_refl _))
        clear hx hy hb6 HMK
        go_wp2_with fail
        go_roundw
        case rel =>
         refine ⟨k2 + 1, O2.set k2 x, by go_num, by omega, HO10, Lib.hid ⟨by rw [List.length_set]; exact HOG.out.1, fun j hj => ?_⟩, HB10⟩
         by_cases hjk : j = k2
         ·subst hjk
          unfold encAt
          rw [if_pos (by omega), encL_get L data hj, ← HC.out, if_pos rfl, ← HPA.out, ← HX.out]
          simp [List.getD_eq_getElem?_getD, hok]
         ·rw [List.getD_eq_getElem?_getD, List.getElem?_set_ne (Ne.symm hjk), ← List.getD_eq_getElem?_getD, HOG.out.2 j hj]
          unfold encAt
          by_cases hjk2 : j < k2
          ·rw [if_pos hjk2, if_pos (by omega)]
          ·rw [if_neg hjk2, if_neg (by omega)]
        case measure => simp [intOf]; omega
    ·have q2 : ¬ (k2 : Int) < (L.length : Int) := by omega
     have hO : O2 = encL L data := encAt_all L data HOG.out.1 (fun j hj => by rw [HOG.out.2 j hj, show k2 = L.length by omega])
     have HFO : Hid (wr.ownsRow w.heap.size 9 1 (.slice (some ⟨go, 0, none⟩) L.length L.length) L.length (encS (bts (encL L data)))) := Lib.hid (by
      have h1 := blk_owns (base := w.heap.size) (n := L.length) (cap := L.length) (size := 1) HO.out (by rw [HGO.out]; exact HB2.out.size) (Nat.le_refl _) (by unfold maxLen; omega) (by rw [Nat.mul_one]; simp [encS, bts]; exact HOG.out.1)
      rw [List.take_of_length_le (by simp [encS, bts]; rw [HOG.out.1]; exact Nat.le_refl _), hO] at h1
      exact h1)
     have HFB := Lib.hid (HB2.out.trans (HBR.out.mono HB2.out.size))
     clear hO
     go_wp2_with fail
     go_ret2
     exact ⟨_, rfl, HFO.out, HFB.out⟩
end Go.Proofs.YtfaemcfjbbbbdaaGreat
namespace Go.Proofs.YtfaemcfjbbbbdaaGreat
open Go.RowKit
attribute [local go_sem ↓] wp_loadCo wp_storeCo wp_loadDs wp_loadGr wp_storeGr
theorem zip_drop {L : List ColT} {T : List Bs} (hT : T.length = L.length) {k : Nat} (hk : k < L.length) : (L.zip T).drop k = (L.getD k cD, T.getD k []) :: (L.zip T).drop (k + 1) := by
 rw [List.drop_eq_getElem_cons (by rw [List.length_zip]; omega), List.getElem_zip]
 simp [List.getD_eq_getElem?_getD, hk, show k < T.length by omega]
theorem writeX_eq {x : DvsT} (hr : x.right = true) {g a : Nat} {s : Bs} (hs : blkOk s = true) (hm : mayC x.gs x.secs g a ((s.length / 64 : Nat) : Int) = true) {f : List Nat} {x' : DvsT} (h : putsX x ((colsL x.gs g a (s.length / 64)).zip (encL (colsL x.gs g a (s.length / 64)) (secL s))) [] = (f, x')) :
  writeX x g a s = (f.length, (if (x.gs.getD g (0, 0)).1 = 0 ∧ (f.length : Int) = (x.gs.getD g (0, 0)).2 ∨ (x.gs.getD g (0, 0)).1 = 1 ∧ 1 < f.length then 6 else 0), x') := by
 unfold writeX encodeE
 rw [if_neg (by rw [hr]; decide), if_pos ⟨hs, hm⟩]
 dsimp only
 rw [h]
set_option maxRecDepth 100000 in
set_option maxHeartbeats 4000000 in
theorem vwrite_any {w : World} {x : DvsT} {V : DvV} {F : Nat → Prop} (h : IsDvs w x V F) (hr : x.right = true) (g a : Nat) (s : Bs) (hs : blkOk s = true) (hm : mayC x.gs x.secs g a ((s.length / 64 : Nat) : Int) = true) (K : Nat) (hK : x.deep K) (hK2 : K + 100 ≤ 1000000000) :
  Calls Tryz.prog 35 #[V.val x.secs, .agg #[.int .i64 (g : Nat), .int .i64 (a : Nat)], .string ⟨s.toArray⟩] w fun e w' => e = .returned (.tuple #[.int .i64 ((writeX x g a s).1 : Nat), .int .i64 ((writeX x g a s).2.1 : Nat)]) ∧ DvsStep (writeX x g a s).2.2 V F w w' := by
 obtain ⟨ga, gc, la, lc, wa, wc, hV, hg⟩ := h.form
 obtain ⟨r1, r2, r3, r4⟩ := right_spec hr
 have hLl := colsL_len hm
 have hdv := fun i (hi : i < (colsL x.gs g a (s.length / 64)).length) => colsL_dev hm hi
 rw [← r2] at hdv
 obtain ⟨w0, hw0⟩ : ∃ w0, w0 = (w.alloc (.cells #[.slice ga x.gs.length gc, .int .i64 x.secs, .slice la x.ds.length lc, .slice wa x.ds.length wc] 37)).alloc (.cells #[.int .i64 (g : Nat), .int .i64 (a : Nat)] 44) := ⟨_, rfl⟩
 have hb0 : Below w.heap.size w w0 := by rw [hw0]; exact ((Below.refl _ _).alloc (Nat.le_refl _) _).alloc (by simp) _
 have hbx : Blk w0 w.heap.size 37 [.slice ga x.gs.length gc, .int .i64 x.secs, .slice la x.ds.length lc, .slice wa x.ds.length wc] := by rw [hw0]; exact (Blk.new w _ _).alloc _
 have hB2 : Blk w0 (w.heap.size + 1) 44 [.int .i64 (g : Nat), .int .i64 (a : Nat)] := by rw [hw0]; exact Blk.newAt (w := w.alloc _) _ _ (by simp)
 have hval : V.val x.secs = .agg #[.slice ga x.gs.length gc, .int .i64 x.secs, .slice la x.ds.length lc, .slice wa x.ds.length wc] := by rw [hV]; rfl
 have hri := fun W (hW : Below w.heap.size w W) => vright_any (h.below hW) hr
 rw [hval] at hri ⊢
 have HRI := Lib.hid hri
 have hgs := mayC_spec hm
 have hggl : g < x.gs.length := by have := hgs.2.2.1; omega
 obtain ⟨L, hL⟩ : ∃ L, L = colsL x.gs g a (s.length / 64) := ⟨_, rfl⟩
 obtain ⟨T, hT⟩ : ∃ T, T = encL (colsL x.gs g a (s.length / 64)) (secL s) := ⟨_, rfl⟩
 have hTl : T.length = L.length := by rw [hT, hL, encL_length]
 have HEN : Hid (∀ W, Below w.heap.size w W → Calls Tryz.prog 65 #[.agg #[.slice ga x.gs.length gc, .int .i64 x.secs], .agg #[.int .i64 (g : Nat), .int .i64 (a : Nat)], .string ⟨s.toArray⟩] W fun e w' => ∃ v, e = .returned (.tuple #[v, .int .i64 0]) ∧ w'.ownsRow W.heap.size 9 1 v L.length (encS (bts T)) ∧ Below W.heap.size W w') := Lib.hid (fun W hW => by
  rw [hL, hT]; exact encode_any ga gc x.gs x.secs g a s W (hg.below hW) hs hm)
 have HCO : Hid (∀ W, Below w.heap.size w W → Calls Tryz.prog 25 #[.agg #[.slice ga x.gs.length gc, .int .i64 x.secs], .agg #[.int .i64 (g : Nat), .int .i64 (a : Nat)], .int .i64 ((s.length / 64 : Nat) : Int)] W fun e w' => ∃ v, e = .returned (.tuple #[v, .int .i64 0]) ∧ w'.ownsRow W.heap.size 78 4 v L.length (encC L) ∧ Below W.heap.size W w') := Lib.hid (fun W hW => by
  rw [hL]; exact cof_yes ga x.gs.length gc x.gs x.secs g a (s.length / 64) W (hg.below hW) hm)
 obtain ⟨R, hR⟩ : ∃ R, putsX x (L.zip T) [] = R := ⟨_, rfl⟩
 have HWX : Hid (writeX x g a s = (R.1.length, (if (x.gs.getD g (0, 0)).1 = 0 ∧ (R.1.length : Int) = (x.gs.getD g (0, 0)).2 ∨ (x.gs.getD g (0, 0)).1 = 1 ∧ 1 < R.1.length then 6 else 0), R.2)) := Lib.hid (writeX_eq hr hs hm (by rw [hL, hT] at hR; exact hR))
 have HTS : Hid (∀ j, (T.getD j []).length ≤ 1000000) := Lib.hid (fun j => by
  by_cases hj : j < L.length
  ·rw [hT, encL_get _ _ (by rw [← hL]; exact hj)]
   have hsm : ∀ q, ((secL s).getD q []).length ≤ 64 := fun q => by unfold secL; exact secK_small _ _ _
   split
   ·refine Nat.le_trans (makeB_len _ 64 (fun u hu => ?_)) (by omega)
    obtain ⟨q, hq, rfl⟩ := List.mem_map.1 hu
    exact dataL_small hsm _ (rowL_in hq).1
   ·exact Nat.le_trans (dataL_small hsm _ (by rw [← hL]; exact hj)) (by omega)
  ·rw [List.getD_eq_getElem?_getD, List.getElem?_eq_none (by omega)]; simp)
 rw [HWX.out]
 obtain ⟨kd, hkd⟩ : ∃ kd, kd = (x.gs.getD g (0, 0)).1 := ⟨_, rfl⟩
 obtain ⟨wd, hwd⟩ : ∃ wd, wd = (x.gs.getD g (0, 0)).2 := ⟨_, rfl⟩
 have hkw : kd = 0 ∨ kd = 1 := by
  have := getD_right hgs.1 hggl
  rw [hkd]; omega
 have HGC : Hid (∀ (W : World) (y : DvsT) (Fy : Nat → Prop), IsDvs W y V Fy → y.gs = x.gs → ∃ b o, ga = some ⟨b, o, none⟩ ∧ W.rangeAt b (o + g * 2) (encGr (kd, wd))) := Lib.hid (fun W y Fy hy hyg => by
  obtain ⟨ga2, gc2, la2, lc2, wa2, wc2, hV2, hg2⟩ := hy.form
  rw [hV] at hV2
  simp only [DvV.mk.injEq, Value.slice.injEq] at hV2
  obtain ⟨⟨rfl, _, rfl⟩, _⟩ := hV2
  obtain ⟨b, o, e, _⟩ := hg2.at_ (by rw [hyg]; omega)
  subst e
  refine ⟨b, o, rfl, ?_⟩
  have := grp_cells hg2 (by rw [hyg]; exact hggl)
  rw [hyg] at this
  rw [hkd, hwd]; exact this)
 rw [← hkd, ← hwd]
 obtain ⟨E, hE⟩ : ∃ E : Nat, E = (if kd = 0 ∧ (R.1.length : Int) = wd ∨ kd = 1 ∧ 1 < R.1.length then 6 else 0) := ⟨_, rfl⟩
 rw [← hE]
 have HE := Lib.hid hE
 clear hE
 rw [← hL] at hLl hdv
 have HDV := Lib.hid hdv
 have HBX := Lib.hid hbx
 have HX2 := Lib.hid hB2
 have HB0 := Lib.hid hb0
 have HI := Lib.hid h
 have HVV := Lib.hid hV
 have HR := Lib.hid hR
 have HK := Lib.hid hK
 have HTL := Lib.hid hTl
 have hnum := h.gslen
 obtain ⟨secs, hsecs⟩ : ∃ secs, secs = x.secs := ⟨_, rfl⟩
 obtain ⟨n, hn⟩ : ∃ n, n = x.ds.length := ⟨_, rfl⟩
 obtain ⟨gn, hgn⟩ : ∃ gn, gn = x.gs.length := ⟨_, rfl⟩
 obtain ⟨gx, hgxx⟩ : ∃ gx, gx = w.heap.size := ⟨_, rfl⟩
 obtain ⟨gp, hgp⟩ : ∃ gp, gp = w.heap.size + 1 := ⟨_, rfl⟩
 rw [← hn, ← hgn, ← hsecs] at hw0 HRI HBX ⊢
 rw [← hgn, ← hsecs] at HCO HEN
 rw [← hgxx] at HBX
 rw [← hgp] at HX2
 rw [← hn] at HDV hnum
 rw [← hgn] at hggl
 have HVE : Hid (∀ y : DvsT, y.gs.length = gn → y.secs = secs → V.val y.secs = .agg #[.slice ga gn gc, .int .i64 secs, .slice la n lc, .slice wa n wc]) := Lib.hid (fun y h1 h2 => by rw [h2, hV, hsecs, hn, hgn]; rfl)
 have HXX : Hid (x.gs.length = gn ∧ x.secs = secs ∧ x.ds.length = n) := Lib.hid ⟨hgn.symm, hsecs.symm, hn.symm⟩
 have hs256 : s.length ≤ 256 ∧ s.length % 64 = 0 := ⟨(blkOk_spec hs).2.2.1, (blkOk_spec hs).2.1⟩
 obtain ⟨sz, hsz⟩ : ∃ sz, sz = s.length / 64 := ⟨_, rfl⟩
 rw [← hsz] at HCO
 have q0 : (s.length : Int) / 64 = (sz : Int) := by omega
 have q0' : (s.length : Int).tdiv 64 = (sz : Int) := by rw [Int.tdiv_eq_ediv_of_nonneg (by omega)]; exact q0
 clear h hr hs hm hK hV hg r1 r2 r3 r4 hdv hb0 hbx hB2 hval hri hgs hL hT hTl hR hkd hwd hsecs hn hgn HWX hsz
 go_enter Tryz.func35, Tryz.ntmps35
 go_upto_region 1 with fail
 rw [← hw0, ← hgp, ← hgxx]
 have HGXX := Lib.hid (And.intro hgxx hgp)
 clear hw0 hgp hgxx
 have hld := fun op a next Q => loadW_blk (P := Tryz.prog) HBX.out Tryz.underlying37 rfl iszDs op a next Q
 go_wp2_with fail
 refine (HRI.out w0 HB0.out).mono ?_
 rintro e w1 ⟨rfl, hb1⟩
 have HB1 := Lib.hid (HB0.out.trans (hb1.mono HB0.out.size))
 have HC1 := Lib.hid hb1
 have x0 := (HBX.out.below hb1).cell 0
 have x1 := (HBX.out.below hb1).cell 1
 have y0 := (HX2.out.below hb1).cell 0
 have y1 := (HX2.out.below hb1).cell 1
 have HC := Lib.hid (HEN.out w1 HB1.out)
 clear hb1 hld
 go_wp2_with fail
 refine HC.out.mono ?_
 rintro e w2 ⟨v8, rfl, hrow8, hb2⟩
 obtain ⟨g8, c8, rfl⟩ := own_form1 hrow8 (by omega)
 have HB2 := Lib.hid (HB1.out.trans (hb2.mono HB1.out.size))
 have HC2 := Lib.hid (HC1.out.trans (hb2.mono HC1.out.size))
 have HR8 := Lib.hid hrow8
 have x0 := (HBX.out.below HC2.out).cell 0
 have x1 := (HBX.out.below HC2.out).cell 1
 have y0 := (HX2.out.below HC2.out).cell 0
 have y1 := (HX2.out.below HC2.out).cell 1
 have HC := Lib.hid (HCO.out w2 HB2.out)
 clear hrow8 hb2
 go_wp2_with fail
 try rw [q0']
 try rw [q0]
 refine HC.out.mono ?_
 rintro e w3 ⟨v10, rfl, hrow10, hb3⟩
 obtain ⟨g10, c10, rfl⟩ := own_form1 hrow10 (by omega)
 have HB3 := Lib.hid (HB2.out.trans (hb3.mono HB2.out.size))
 have HC3 := Lib.hid (HC2.out.trans (hb3.mono HC2.out.size))
 have HR8b := Lib.hid (owns_below HR8.out hb3)
 have HR10 := Lib.hid hrow10
 have hmk := @run_makeMap Tryz.prog
 have HMP0 : Hid (MapI (w3.alloc (.map #[] 0)) w3.heap.size (setV [])) := Lib.hid (MapI.new w3)
 obtain ⟨mp, hmp⟩ : ∃ mp, mp = w3.heap.size := ⟨_, rfl⟩
 obtain ⟨wM, hwM⟩ : ∃ wM, wM = w3.alloc (.map #[] 0) := ⟨_, rfl⟩
 have hbM : Below w3.heap.size w3 wM := by rw [hwM]; exact (Below.refl _ _).alloc (Nat.le_refl _) _
 have HAT0 : Hid (DvsAt x V F w wM F) := Lib.hid ((DvsAt.start HI.out).below (HB3.out.trans (hbM.mono HB3.out.size)))
 have HNF : Hid (∀ g, w.heap.size ≤ g → ¬ F g) := Lib.hid (fun g hg hf => by have := HI.out.lt g hf; omega)
 have HWI0 : Hid (WrI wM F gx gp g8 c8 g10 c10 [.slice ga gn gc, .int .i64 secs, .slice la n lc, .slice wa n wc] g a T L) := Lib.hid (by
  have k1 := HB1.out.size
  have k2 := HB2.out.size
  refine ⟨(HBX.out.below HC3.out).below hbM, HNF.out _ (by rw [HGXX.out.1]; exact Nat.le_refl _), (HX2.out.below HC3.out).below hbM, HNF.out _ (by rw [HGXX.out.2]; omega), ?_, HNF.out _ (by have := (HR8.out.lt g8 rfl).1; omega), ?_, HNF.out _ (by have := (HR10.out.lt g10 rfl).1; omega)⟩
  ·rw [HTL.out]; exact row_base0 (owns_below HR8b.out hbM)
  ·exact row_base0 (owns_below HR10.out hbM))
 have HMF0 : Hid (¬ F mp) := Lib.hid (HNF.out _ (by rw [hmp]; exact HB3.out.size))
 have HMW : Hid (w.heap.size ≤ mp) := Lib.hid (by rw [hmp]; exact HB3.out.size)
 rw [← hmp, ← hwM] at HMP0
 clear hrow10 hb3 HC x0 x1 y0 y1 hbM
 go_upto_region 8 with fail
 rw [← hwM, ← hmp]
 clear hwM hmp hmk
 go_wp2_with fail
 go_loopw [43] (fun vi wr => ∃ (k : Nat) (xk : DvsT) (f : List Nat) (Fk : Nat → Prop), vi = .int .i64 k ∧ k ≤ L.length ∧ Hid (DvsAt xk V F w wr Fk) ∧ Hid (WrI wr Fk gx gp g8 c8 g10 c10 [.slice ga gn gc, .int .i64 secs, .slice la n lc, .slice wa n wc] g a T L) ∧ Hid (MapI wr mp (setV f) ∧ ¬ Fk mp) ∧ Hid (putsX xk ((L.zip T).drop k) f = R) ∧ Hid (xk.gs = x.gs ∧ xk.secs = secs ∧ xk.ds.length = n ∧ xk.deep (K + k))) (fun vi _ => L.length - (intOf vi).toNat)
 case atStart => exact ⟨0, x, [], F, rfl, Nat.zero_le _, HAT0, HWI0, Lib.hid ⟨HMP0.out, HMF0.out⟩, HR, Lib.hid ⟨rfl, HXX.out.2.1, HXX.out.2.2, HK.out⟩⟩
 case round =>
  obtain ⟨k, xk, f, Fk, rfl, hk, HAT, HWI, HMP, HPU, HXK⟩ := hrel
  by_cases hkn : k < L.length
  ·have q1 : (k : Int) < (L.length : Int) := by omega
   have q2 : 0 ≤ (k : Int) := by omega
   obtain ⟨c, hc⟩ : ∃ c, c = L.getD k cD := ⟨_, rfl⟩
   obtain ⟨tx, htx⟩ : ∃ tx, tx = T.getD k [] := ⟨_, rfl⟩
   have hpu := HPU.out
   rw [zip_drop HTL.out hkn, ← hc, ← htx] at hpu
   have hpu2 : putsX (putX xk c tx).2 ((L.zip T).drop (k + 1)) (if (putX xk c tx).1 = true then f else addF f c.1) = R := hpu
   have hdc : c.1 < n := by rw [hc]; exact HDV.out k hkn
   have hrg := colD_cells (rsl_of_owns HWI.out.lx) hkn
   rw [← hc, Nat.zero_add] at hrg
   have hl1 := fun op a next Q => loadW_mid (P := Tryz.prog) (t := 78) hrg Tryz.underlying78 rfl iszCo op a next Q
   have hst := fun op a next Q => store_newCo c wr op a next Q
   obtain ⟨w5, hw5⟩ : ∃ w5, w5 = wr.alloc (.cells (encC1 c).toArray 78) := ⟨_, rfl⟩
   obtain ⟨g5, hg5⟩ : ∃ g5, g5 = wr.heap.size := ⟨_, rfl⟩
   have hB5 : Blk w5 g5 78 (encC1 c) := by rw [hw5, hg5]; exact Blk.new wr _ _
   have hb5 : Below wr.heap.size wr w5.drew := by rw [hw5]; exact ((Below.refl _ _).alloc (Nat.le_refl _) _).drew
   have HF5 : Hid (¬ Fk g5) := Lib.hid (fun hf => by have := HAT.out.is.lt g5 hf; omega)
   have HAT5 := Lib.hid (HAT.out.below hb5)
   have HWI5 := Lib.hid (HWI.out.below hb5)
   have HMP5 := Lib.hid (HMP.out.1.below hb5)
   have HCB5 := Lib.hid hB5.drew
   have htl : k < T.length := by rw [HTL.out]; exact hkn
   have HTXC : Hid (∀ (W : World) (Fq : Nat → Prop), WrI W Fq gx gp g8 c8 g10 c10 [.slice ga gn gc, .int .i64 secs, .slice la n lc, .slice wa n wc] g a T L → W.cell? ⟨g8, k, none⟩ = some (.string ⟨tx.toArray⟩)) := Lib.hid (fun W Fq hW => by
    have := own_str hW.tx htl
    rw [← htx] at this; exact this)
   have htxs : tx.length ≤ 1000000 := by rw [htx]; exact HTS.out k
   have HPT := Lib.hid (vput_any HAT5.out.is c (by rw [HXK.out.2.2.1]; exact hdc) tx htxs (by have := HXK.out.2.2.2 c.1 c.2.1; omega))
   rw [HVE.out xk (by rw [HXK.out.1]; exact HXX.out.1) HXK.out.2.1] at HPT
   have hsame := putX_same xk c tx
   have hdeep := putX_deep HXK.out.2.2.2 c tx (by rw [HXK.out.2.2.1]; exact hdc)
   obtain ⟨pb, x2, hpb⟩ : ∃ pb x2, putX xk c tx = (pb, x2) := ⟨_, _, rfl⟩
   rw [hpb] at hpu2 hsame hdeep HPT
   have HPU2 := Lib.hid hpu2
   have HX2K : Hid (x2.gs = x.gs ∧ x2.secs = secs ∧ x2.ds.length = n ∧ x2.deep (K + (k + 1))) := Lib.hid ⟨hsame.1.trans HXK.out.1, hsame.2.1.trans HXK.out.2.1, hsame.2.2.2.trans HXK.out.2.2.1, hdeep⟩
   have HC := Lib.hid hc
   have HNL : Hid (g8 < T.length + g8 + 1) := Lib.hid (by omega)
   have q3 : (k : Int) < (T.length : Int) := by omega
   clear hpu hpu2 hrg hB5 hb5 hsame hdeep hpb hc htx
   go_upto_region 11 with fail
   rw [← hw5, ← hg5]
   clear hw5 hg5 hst hl1
   have hS0 : WrS gx g5 g8 k [.slice ga gn gc, .int .i64 secs, .slice la n lc, .slice wa n wc] c tx w5.drew := ⟨HWI5.out.bx, HCB5.out, HTXC.out _ _ HWI5.out⟩
   cases pb with
   | true =>
    refine wp_region_held_drew (S := WrS gx g5 g8 k [.slice ga gn gc, .int .i64 secs, .slice la n lc, .slice wa n wc] c tx) (by kernel_rfl) hS0 (fun hS0 => ?_)
    refine rtg 0 ?vy0 ?yy0 ?_
    case yy0 => refine yieldsIf_load_mid (by kernel_rfl) 37 (.tmp 3) ?_ gx (0) ?_ ([.slice ga gn gc, .int .i64 secs, .slice la n lc, .slice wa n wc]) _ (fun w' hw => WrS.r0 hw) Tryz.underlying37 rfl iszDs <;> rfl
    refine rtg 1 ?vy1 ?yy1 ?_
    case yy1 => refine yieldsIf_load_mid (by kernel_rfl) 78 (.tmp 14) ?_ g5 (0) ?_ (encC1 c) _ (fun w' hw => WrS.r1 hw) Tryz.underlying78 rfl iszCo <;> rfl
    refine rtd 2 ?_; refine rtd 3 ?_
    refine rtv (i := 4) (v := ?vy4) (hy := ?yy4) (h := ?_)
    case yy4 => intro w hSw; (try dsimp only at hSw); go_simp; first | with_reducible rfl | rw [if_pos (by omega)]
    try simp only [Act.put, z1, z2, z3]
    refine rtv (i := 5) (v := ?vy5) (hy := ?yy5) (h := ?_)
    case yy5 => intro w hSw; (try dsimp only at hSw); go_simp; first | (rw [WrS.tc hSw]; rfl) | rfl
    try simp only [Act.put, z1, z2, z3]
    refine rr1 (i := 6) (h := fun K hK => ?_)
    go_simp
    refine HPT.out.mono ?_
    rintro e w6 ⟨rfl, hstep⟩
    obtain ⟨F2, hat6, hfr6, hm6⟩ := HAT5.out.step hstep
    have HAT6 := Lib.hid hat6
    have HWI6 := Lib.hid (HWI5.out.step hm6 hfr6)
    have HCB6 := Lib.hid (hm6.blk HCB5.out HF5.out)
    have HMP6 : Hid (MapI w6 mp (setV f) ∧ ¬ F2 mp) := Lib.hid ⟨HMP5.out.keep (hm6.block mp HMP5.out.lt HMP.out.2), hfr6 mp HMP5.out.lt HMP.out.2⟩
    clear hstep hat6 hfr6 hm6
    try dsimp only
    refine hK.out _ _ (⟨HWI6.out.bx, HCB6.out, HTXC.out _ _ HWI6.out⟩) (fun hSy6 => ?_)
    try simp only [Act.put, z1, z2, z3]
    refine rtd 7 ?_
    refine wpAnyH_done (by kernel_rfl) ?_ _
    go_wp2_with fail
    go_roundw
    case rel => exact ⟨k + 1, x2, f, F2, by go_num, by omega, HAT6, HWI6, HMP6, HPU2, HX2K⟩
    case measure => simp [intOf]; omega
   | false =>
    refine wp_region_held_drew (S := WrS gx g5 g8 k [.slice ga gn gc, .int .i64 secs, .slice la n lc, .slice wa n wc] c tx) (by kernel_rfl) hS0 (fun hS0 => ?_)
    refine rtg 0 ?vz0 ?yz0 ?_
    case yz0 => refine yieldsIf_load_mid (by kernel_rfl) 37 (.tmp 3) ?_ gx (0) ?_ ([.slice ga gn gc, .int .i64 secs, .slice la n lc, .slice wa n wc]) _ (fun w' hw => WrS.r0 hw) Tryz.underlying37 rfl iszDs <;> rfl
    refine rtg 1 ?vz1 ?yz1 ?_
    case yz1 => refine yieldsIf_load_mid (by kernel_rfl) 78 (.tmp 14) ?_ g5 (0) ?_ (encC1 c) _ (fun w' hw => WrS.r1 hw) Tryz.underlying78 rfl iszCo <;> rfl
    refine rtd 2 ?_; refine rtd 3 ?_
    refine rtv (i := 4) (v := ?vz4) (hy := ?yz4) (h := ?_)
    case yz4 => intro w hSw; (try dsimp only at hSw); go_simp; first | with_reducible rfl | rw [if_pos (by omega)]
    try simp only [Act.put, z1, z2, z3]
    refine rtv (i := 5) (v := ?vz5) (hy := ?yz5) (h := ?_)
    case yz5 => intro w hSw; (try dsimp only at hSw); go_simp; first | (rw [WrS.tc hSw]; rfl) | rfl
    try simp only [Act.put, z1, z2, z3]
    refine rr1 (i := 6) (h := fun K hK => ?_)
    go_simp
    refine HPT.out.mono ?_
    rintro e w6 ⟨rfl, hstep⟩
    obtain ⟨F2, hat6, hfr6, hm6⟩ := HAT5.out.step hstep
    have HAT6 := Lib.hid hat6
    have HWI6 := Lib.hid (HWI5.out.step hm6 hfr6)
    have HCB6 := Lib.hid (hm6.blk HCB5.out HF5.out)
    have HMP6 : Hid (MapI w6 mp (setV f) ∧ ¬ F2 mp) := Lib.hid ⟨HMP5.out.keep (hm6.block mp HMP5.out.lt HMP.out.2), hfr6 mp HMP5.out.lt HMP.out.2⟩
    clear hstep hat6 hfr6 hm6
    try dsimp only
    refine hK.out _ _ (⟨HWI6.out.bx, HCB6.out, HTXC.out _ _ HWI6.out⟩) (fun hSz6 => ?_)
    try simp only [Act.put, z1, z2, z3]
    refine rtd 7 ?_
    refine wpAnyH_done (by kernel_rfl) ?_ _
    have e0 : w6.cell? ⟨g5, 0, none⟩ = some (.int .i64 (c.1 : Nat)) := HCB6.out.cell 0
    obtain ⟨w7, hrun, hM7, hG7⟩ := run_update_int (P := Tryz.prog) (t := 138) Tryz.underlying138 Tryz.underlying3 HMP6.out.1 c.1 (.bool true)
    rw [setV_put] at hM7
    have HWI7 := Lib.hid (HWI6.out.map HMP6.out.1 hG7)
    have HAT7 := Lib.hid (HAT6.out.map HMP6.out.2 hG7 HMW.out)
    have HMP7 : Hid (MapI w7 mp (setV (addF f c.1)) ∧ ¬ F2 mp) := Lib.hid ⟨hM7, HMP6.out.2⟩
    clear hM7 hG7
    go_wp2_with fail
    go_roundw
    case rel => exact ⟨k + 1, x2, addF f c.1, F2, by go_num, by omega, HAT7, HWI7, HMP7, HPU2, HX2K⟩
    case measure => simp [intOf]; omega
  ·have q1 : ¬ (k : Int) < (L.length : Int) := by omega
   have hfx : (f, xk) = R := by
    have := HPU.out
    rw [List.drop_eq_nil_of_le (by rw [List.length_zip]; omega)] at this
    exact this
   have k0 : wr.cell? ⟨gx, 0, none⟩ = some (.slice ga gn gc) := HWI.out.bx.cell 0
   have p0 : wr.cell? ⟨gp, 0, none⟩ = some (.int .i64 (g : Nat)) := HWI.out.px.cell 0
   obtain ⟨bg, og, hga, hrgG⟩ := HGC.out wr xk Fk HAT.out.is HXK.out.1
   rw [hga] at k0
   have hl1 := fun op a next Q => loadW_mid (P := Tryz.prog) (t := 31) hrgG Tryz.underlying31 rfl iszGr op a next Q
   have hst := fun op a next Q => store_newGr (kd, wd) wr op a next Q
   obtain ⟨w5, hw5⟩ : ∃ w5, w5 = wr.alloc (.cells (encGr (kd, wd)).toArray 31) := ⟨_, rfl⟩
   obtain ⟨g5, hg5⟩ : ∃ g5, g5 = wr.heap.size := ⟨_, rfl⟩
   have hB5 : Blk w5 g5 31 (encGr (kd, wd)) := by rw [hw5, hg5]; exact Blk.new wr _ _
   have hb5 : Below wr.heap.size wr w5 := by rw [hw5]; exact (Below.refl _ _).alloc (Nat.le_refl _) _
   have HAT5 := Lib.hid (HAT.out.below hb5)
   have e0 : w5.cell? ⟨g5, 0, none⟩ = some (.int .i64 kd) := hB5.cell 0
   have e1 : w5.cell? ⟨g5, 1, none⟩ = some (.int .i64 wd) := hB5.cell 1
   have hlen := run_len_map (HMP.out.1.below hb5)
   rw [show (setV f).length = f.length by simp [setV]] at hlen
   have q3 : (g : Int) < (gn : Int) := by omega
   have q4 : 0 ≤ (g : Int) := by omega
   have HFX := Lib.hid hfx
   clear hrgG hB5 hb5 hga hfx
   go_upto_region 15 with fail
   rw [← hw5, ← hg5]
   clear hw5 hg5 hst hl1 k0 p0
   rcases hkw with rfl | rfl
   ·by_cases hfw : (f.length : Int) = wd
    ·have q5 : ((f.length : Int) == wd) = true := by simpa using hfw
     have HFW := Lib.hid hfw
     clear hfw
     go_wp2_with fail
     go_ret2
     refine ⟨?_, ?_⟩
     ·rw [HE.out, ← HFX.out, if_pos (.inl ⟨by first | rfl | trivial, HFW.out⟩)]; rfl
     ·first | exact HAT5.out.fin | (rw [← HFX.out]; exact HAT5.out.fin)
    ·have q5 : ((f.length : Int) == wd) = false := by simpa using hfw
     have HFW := Lib.hid hfw
     clear hfw
     go_wp2_with fail
     go_ret2
     refine ⟨?_, ?_⟩
     ·rw [HE.out, ← HFX.out, if_neg (fun h => h.elim (fun h => HFW.out h.2) (fun h => by have := h.1; omega))]; rfl
     ·first | exact HAT5.out.fin | (rw [← HFX.out]; exact HAT5.out.fin)
   ·by_cases hfw : 1 < f.length
    ·have q5 : (1 : Int) < (f.length : Int) := by omega
     have HFW := Lib.hid hfw
     clear hfw
     go_wp2_with fail
     go_ret2
     refine ⟨?_, ?_⟩
     ·rw [HE.out, ← HFX.out, if_pos (.inr ⟨by first | rfl | trivial, HFW.out⟩)]; rfl
     ·first | exact HAT5.out.fin | (rw [← HFX.out]; exact HAT5.out.fin)
    ·have q5 : ¬ (1 : Int) < (f.length : Int) := by omega
     have HFW := Lib.hid hfw
     clear hfw
     go_wp2_with fail
     go_ret2
     refine ⟨?_, ?_⟩
     ·rw [HE.out, ← HFX.out, if_neg (fun h => h.elim (fun h => by have := h.1; omega) (fun h => HFW.out h.2))]; rfl
     ·first | exact HAT5.out.fin | (rw [← HFX.out]; exact HAT5.out.fin)
end Go.Proofs.YtfaemcfjbbbbdaaGreat
namespace Go.Proofs.YtfaemcfjbbbbdaaGreat
open Go.RowKit
attribute [local go_sem ↓] wp_loadCo wp_storeCo wp_loadDs wp_loadGr wp_storeGr
theorem mendX_eq {x : DvsT} (hr : x.right = true) {g a : Nat} {s : Bs} (hs : blkOk s = true) (hm : mayC x.gs x.secs g a ((s.length / 64 : Nat) : Int) = true) (bl : List Nat) : mendX x g a s bl = mendsX (colsL x.gs g a (s.length / 64)) (encL (colsL x.gs g a (s.length / 64)) (secL s)) x bl 0 := by
 unfold mendX encodeE
 rw [if_neg (by rw [hr]; decide), if_pos ⟨hs, hm⟩]
structure WrM (gx g8 g10 i : Nat) (box : List Value) (c : ColT) (tx : Bs) (w : World) : Prop where
 bx : Blk w gx 37 box
 co : w.rangeAt g10 (i * 4) (encC1 c)
 tc : w.cell? ⟨g8, i, none⟩ = some (.string ⟨tx.toArray⟩)
theorem WrM.r0 {gx g8 g10 i : Nat} {box : List Value} {c : ColT} {tx : Bs} {w : World} (h : WrM gx g8 g10 i box c tx w) : w.rangeAt gx 0 box := range_all h.bx
theorem WrM.r1 {gx g8 g10 i : Nat} {box : List Value} {c : ColT} {tx : Bs} {w : World} (h : WrM gx g8 g10 i box c tx w) : w.rangeAt g10 (i * 4) (encC1 c) := h.co
theorem mends_cons (L : List ColT) (T : List Bs) (x : DvsT) {bl : List Nat} {k n : Nat} (hk : k < bl.length) (hi : bl.getD k 0 < L.length) : mendsX L T x (bl.drop k) n = mendsX L T (putX x (L.getD (bl.getD k 0) cD) (T.getD (bl.getD k 0) [])).2 (bl.drop (k + 1)) (if (putX x (L.getD (bl.getD k 0) cD) (T.getD (bl.getD k 0) [])).1 = true then n + 1 else n) := by
 rw [List.drop_eq_getElem_cons hk]
 have e : bl[k] = bl.getD k 0 := by simp [List.getD_eq_getElem?_getD, hk]
 rw [e]
 conv => lhs; unfold mendsX
 rw [if_pos hi]
set_option maxRecDepth 100000 in
set_option maxHeartbeats 4000000 in
theorem vmend_any {w : World} {x : DvsT} {V : DvV} {F : Nat → Prop} (h : IsDvs w x V F) (hr : x.right = true) (g a : Nat) (s : Bs) (hs : blkOk s = true) (hm : mayC x.gs x.secs g a ((s.length / 64 : Nat) : Int) = true) (K : Nat) (hK : x.deep K) (bl : List Nat) (lcap : Nat) (hbl : ∀ i ∈ bl, i < (colsL x.gs g a (s.length / 64)).length) (hbn : bl.length ≤ 32) (hK2 : K + 100 ≤ 1000000000) (lo : Option Addr) (hlr : w.ownsRow 0 3 1 (.slice lo bl.length lcap) bl.length (encNs bl)) (hlf : ∀ g, (Value.slice lo bl.length lcap).ownBlock = some g → ¬ F g) :
  Calls Tryz.prog 93 #[V.val x.secs, .agg #[.int .i64 (g : Nat), .int .i64 (a : Nat)], .string ⟨s.toArray⟩, .slice lo bl.length lcap] w fun e w' => e = .returned (.int .i64 ((mendX x g a s bl).1 : Nat)) ∧ DvsStep (mendX x g a s bl).2 V F w w' := by
 obtain ⟨ga, gc, la, lc, wa, wc, hV, hg⟩ := h.form
 obtain ⟨r1, r2, r3, r4⟩ := right_spec hr
 have hLl := colsL_len hm
 have hdv := fun i (hi : i < (colsL x.gs g a (s.length / 64)).length) => colsL_dev hm hi
 rw [← r2] at hdv
 obtain ⟨w0, hw0⟩ : ∃ w0, w0 = (w.alloc (.cells #[.slice ga x.gs.length gc, .int .i64 x.secs, .slice la x.ds.length lc, .slice wa x.ds.length wc] 37)).alloc (.cells #[.int .i64 (g : Nat), .int .i64 (a : Nat)] 44) := ⟨_, rfl⟩
 have hb0 : Below w.heap.size w w0 := by rw [hw0]; exact ((Below.refl _ _).alloc (Nat.le_refl _) _).alloc (by simp) _
 have hbx : Blk w0 w.heap.size 37 [.slice ga x.gs.length gc, .int .i64 x.secs, .slice la x.ds.length lc, .slice wa x.ds.length wc] := by rw [hw0]; exact (Blk.new w _ _).alloc _
 have hB2 : Blk w0 (w.heap.size + 1) 44 [.int .i64 (g : Nat), .int .i64 (a : Nat)] := by rw [hw0]; exact Blk.newAt (w := w.alloc _) _ _ (by simp)
 have hval : V.val x.secs = .agg #[.slice ga x.gs.length gc, .int .i64 x.secs, .slice la x.ds.length lc, .slice wa x.ds.length wc] := by rw [hV]; rfl
 have hri := fun W (hW : Below w.heap.size w W) => vright_any (h.below hW) hr
 rw [hval] at hri ⊢
 have HRI := Lib.hid hri
 have hgs := mayC_spec hm
 have hggl : g < x.gs.length := by have := hgs.2.2.1; omega
 obtain ⟨L, hL⟩ : ∃ L, L = colsL x.gs g a (s.length / 64) := ⟨_, rfl⟩
 obtain ⟨T, hT⟩ : ∃ T, T = encL (colsL x.gs g a (s.length / 64)) (secL s) := ⟨_, rfl⟩
 have hTl : T.length = L.length := by rw [hT, hL, encL_length]
 have HEN : Hid (∀ W, Below w.heap.size w W → Calls Tryz.prog 65 #[.agg #[.slice ga x.gs.length gc, .int .i64 x.secs], .agg #[.int .i64 (g : Nat), .int .i64 (a : Nat)], .string ⟨s.toArray⟩] W fun e w' => ∃ v, e = .returned (.tuple #[v, .int .i64 0]) ∧ w'.ownsRow W.heap.size 9 1 v L.length (encS (bts T)) ∧ Below W.heap.size W w') := Lib.hid (fun W hW => by
  rw [hL, hT]; exact encode_any ga gc x.gs x.secs g a s W (hg.below hW) hs hm)
 have HCO : Hid (∀ W, Below w.heap.size w W → Calls Tryz.prog 25 #[.agg #[.slice ga x.gs.length gc, .int .i64 x.secs], .agg #[.int .i64 (g : Nat), .int .i64 (a : Nat)], .int .i64 ((s.length / 64 : Nat) : Int)] W fun e w' => ∃ v, e = .returned (.tuple #[v, .int .i64 0]) ∧ w'.ownsRow W.heap.size 78 4 v L.length (encC L) ∧ Below W.heap.size W w') := Lib.hid (fun W hW => by
  rw [hL]; exact cof_yes ga x.gs.length gc x.gs x.secs g a (s.length / 64) W (hg.below hW) hm)
 obtain ⟨R, hR⟩ : ∃ R, mendsX L T x bl 0 = R := ⟨_, rfl⟩
 have HWX : Hid (mendX x g a s bl = R) := Lib.hid (by rw [mendX_eq hr hs hm]; rw [hL, hT] at hR; exact hR)
 have HTS : Hid (∀ j, (T.getD j []).length ≤ 1000000) := Lib.hid (fun j => by
  by_cases hj : j < L.length
  ·rw [hT, encL_get _ _ (by rw [← hL]; exact hj)]
   have hsm : ∀ q, ((secL s).getD q []).length ≤ 64 := fun q => by unfold secL; exact secK_small _ _ _
   split
   ·refine Nat.le_trans (makeB_len _ 64 (fun u hu => ?_)) (by omega)
    obtain ⟨q, hq, rfl⟩ := List.mem_map.1 hu
    exact dataL_small hsm _ (rowL_in hq).1
   ·exact Nat.le_trans (dataL_small hsm _ (by rw [← hL]; exact hj)) (by omega)
  ·rw [List.getD_eq_getElem?_getD, List.getElem?_eq_none (by omega)]; simp)
 rw [HWX.out]
 rw [← hL] at hLl hdv hbl
 have HBL := Lib.hid hbl
 have HLF := Lib.hid hlf
 have HLR0 := Lib.hid hlr
 have HDV := Lib.hid hdv
 have HBX := Lib.hid hbx
 have HX2 := Lib.hid hB2
 have HB0 := Lib.hid hb0
 have HI := Lib.hid h
 have HVV := Lib.hid hV
 have HR := Lib.hid hR
 have HK := Lib.hid hK
 have HTL := Lib.hid hTl
 have hnum := h.gslen
 obtain ⟨secs, hsecs⟩ : ∃ secs, secs = x.secs := ⟨_, rfl⟩
 obtain ⟨n, hn⟩ : ∃ n, n = x.ds.length := ⟨_, rfl⟩
 obtain ⟨gn, hgn⟩ : ∃ gn, gn = x.gs.length := ⟨_, rfl⟩
 obtain ⟨gx, hgxx⟩ : ∃ gx, gx = w.heap.size := ⟨_, rfl⟩
 obtain ⟨gp, hgp⟩ : ∃ gp, gp = w.heap.size + 1 := ⟨_, rfl⟩
 rw [← hn, ← hgn, ← hsecs] at hw0 HRI HBX ⊢
 rw [← hgn, ← hsecs] at HCO HEN
 rw [← hgxx] at HBX
 rw [← hgp] at HX2
 rw [← hn] at HDV hnum
 rw [← hgn] at hggl
 have HVE : Hid (∀ y : DvsT, y.gs.length = gn → y.secs = secs → V.val y.secs = .agg #[.slice ga gn gc, .int .i64 secs, .slice la n lc, .slice wa n wc]) := Lib.hid (fun y h1 h2 => by rw [h2, hV, hsecs, hn, hgn]; rfl)
 have HXX : Hid (x.gs.length = gn ∧ x.secs = secs ∧ x.ds.length = n) := Lib.hid ⟨hgn.symm, hsecs.symm, hn.symm⟩
 have hs256 : s.length ≤ 256 ∧ s.length % 64 = 0 := ⟨(blkOk_spec hs).2.2.1, (blkOk_spec hs).2.1⟩
 obtain ⟨sz, hsz⟩ : ∃ sz, sz = s.length / 64 := ⟨_, rfl⟩
 rw [← hsz] at HCO
 have q0 : (s.length : Int) / 64 = (sz : Int) := by omega
 have q0' : (s.length : Int).tdiv 64 = (sz : Int) := by rw [Int.tdiv_eq_ediv_of_nonneg (by omega)]; exact q0
 clear h hr hs hm hK hV hg r1 r2 r3 r4 hdv hb0 hbx hB2 hval hri hgs hL hT hTl hR hbl hlr hlf hsecs hn hgn HWX hsz
 go_enter Tryz.func93, Tryz.ntmps93
 go_upto_region 1 with fail
 rw [← hw0, ← hgp, ← hgxx]
 have HGXX := Lib.hid (And.intro hgxx hgp)
 clear hw0 hgp hgxx
 have hld := fun op a next Q => loadW_blk (P := Tryz.prog) HBX.out Tryz.underlying37 rfl iszDs op a next Q
 go_wp2_with fail
 refine (HRI.out w0 HB0.out).mono ?_
 rintro e w1 ⟨rfl, hb1⟩
 have HB1 := Lib.hid (HB0.out.trans (hb1.mono HB0.out.size))
 have HC1 := Lib.hid hb1
 have x0 := (HBX.out.below hb1).cell 0
 have x1 := (HBX.out.below hb1).cell 1
 have y0 := (HX2.out.below hb1).cell 0
 have y1 := (HX2.out.below hb1).cell 1
 have HC := Lib.hid (HEN.out w1 HB1.out)
 clear hb1 hld
 go_wp2_with fail
 refine HC.out.mono ?_
 rintro e w2 ⟨v8, rfl, hrow8, hb2⟩
 obtain ⟨g8, c8, rfl⟩ := own_form1 hrow8 (by omega)
 have HB2 := Lib.hid (HB1.out.trans (hb2.mono HB1.out.size))
 have HC2 := Lib.hid (HC1.out.trans (hb2.mono HC1.out.size))
 have HR8 := Lib.hid hrow8
 have x0 := (HBX.out.below HC2.out).cell 0
 have x1 := (HBX.out.below HC2.out).cell 1
 have y0 := (HX2.out.below HC2.out).cell 0
 have y1 := (HX2.out.below HC2.out).cell 1
 have HC := Lib.hid (HCO.out w2 HB2.out)
 clear hrow8 hb2
 go_wp2_with fail
 try rw [q0']
 try rw [q0]
 refine HC.out.mono ?_
 rintro e w3 ⟨v10, rfl, hrow10, hb3⟩
 obtain ⟨g10, c10, rfl⟩ := own_form1 hrow10 (by omega)
 have HB3 := Lib.hid (HB2.out.trans (hb3.mono HB2.out.size))
 have HC3 := Lib.hid (HC2.out.trans (hb3.mono HC2.out.size))
 have HR8b := Lib.hid (owns_below HR8.out hb3)
 have HR10 := Lib.hid hrow10
 have HAT0 : Hid (DvsAt x V F w w3 F) := Lib.hid ((DvsAt.start HI.out).below HB3.out)
 have HNF : Hid (∀ g, w.heap.size ≤ g → ¬ F g) := Lib.hid (fun g hg hf => by have := HI.out.lt g hf; omega)
 have HWI0 : Hid (WrI w3 F gx gp g8 c8 g10 c10 [.slice ga gn gc, .int .i64 secs, .slice la n lc, .slice wa n wc] g a T L) := Lib.hid (by
  have k1 := HB1.out.size
  have k2 := HB2.out.size
  refine ⟨HBX.out.below HC3.out, HNF.out _ (by rw [HGXX.out.1]; exact Nat.le_refl _), HX2.out.below HC3.out, HNF.out _ (by rw [HGXX.out.2]; omega), ?_, HNF.out _ (by have := (HR8.out.lt g8 rfl).1; omega), ?_, HNF.out _ (by have := (HR10.out.lt g10 rfl).1; omega)⟩
  ·rw [HTL.out]; exact row_base0 HR8b.out
  ·exact row_base0 HR10.out)
 have HLR3 : Hid (w3.ownsRow 0 3 1 (.slice lo bl.length lcap) bl.length (encNs bl) ∧ ∀ g, (Value.slice lo bl.length lcap).ownBlock = some g → ¬ F g) := Lib.hid ⟨owns_below HLR0.out HB3.out, HLF.out⟩
 clear hrow10 hb3 HC x0 x1 y0 y1
 go_wp2_with fail
 go_loopw [13, 41] (fun v13 vi wr => ∃ (k nf : Nat) (xk : DvsT) (Fk : Nat → Prop), vi = .int .i64 k ∧ v13 = .int .i64 nf ∧ nf ≤ k ∧ k ≤ bl.length ∧ Hid (DvsAt xk V F w wr Fk) ∧ Hid (WrI wr Fk gx gp g8 c8 g10 c10 [.slice ga gn gc, .int .i64 secs, .slice la n lc, .slice wa n wc] g a T L) ∧ Hid (wr.ownsRow 0 3 1 (.slice lo bl.length lcap) bl.length (encNs bl) ∧ ∀ g, (Value.slice lo bl.length lcap).ownBlock = some g → ¬ Fk g) ∧ Hid (mendsX L T xk (bl.drop k) nf = R) ∧ Hid (xk.gs = x.gs ∧ xk.secs = secs ∧ xk.ds.length = n ∧ xk.deep (K + k))) (fun _ vi _ => bl.length - (intOf vi).toNat)
 case atStart => exact ⟨0, 0, x, F, rfl, rfl, Nat.le_refl _, Nat.zero_le _, HAT0, HWI0, HLR3, HR, Lib.hid ⟨rfl, HXX.out.2.1, HXX.out.2.2, HK.out⟩⟩
 case round =>
  obtain ⟨k, nf, xk, Fk, rfl, rfl, hnf, hk, HAT, HWI, HLR, HPU, HXK⟩ := hrel
  by_cases hkn : k < bl.length
  ·have q1 : (k : Int) < (bl.length : Int) := by omega
   have q2 : 0 ≤ (k : Int) := by omega
   obtain ⟨i, hi⟩ : ∃ i, i = bl.getD k 0 := ⟨_, rfl⟩
   have hiL : i < L.length := by rw [hi]; exact HBL.out _ (by rw [List.getD_eq_getElem?_getD, List.getElem?_eq_getElem hkn]; exact List.getElem_mem _)
   obtain ⟨c, hc⟩ : ∃ c, c = L.getD i cD := ⟨_, rfl⟩
   obtain ⟨tx, htx⟩ : ∃ tx, tx = T.getD i [] := ⟨_, rfl⟩
   have hpu := HPU.out
   rw [mends_cons L T xk hkn (by rw [← hi]; exact hiL), ← hi, ← hc, ← htx] at hpu
   have hdc : c.1 < n := by rw [hc]; exact HDV.out i hiL
   obtain ⟨lb, lcap2, elo⟩ := own_form1 HLR.out.1 (by omega)
   simp only [Value.slice.injEq, true_and] at elo
   obtain ⟨rfl, rfl⟩ := elo
   have e5 := own_int HLR.out.1 hkn
   rw [← hi] at e5
   have htl : i < T.length := by rw [HTL.out]; exact hiL
   have HTXC : Hid (∀ (W : World) (Fq : Nat → Prop), WrI W Fq gx gp g8 c8 g10 c10 [.slice ga gn gc, .int .i64 secs, .slice la n lc, .slice wa n wc] g a T L → WrM gx g8 g10 i [.slice ga gn gc, .int .i64 secs, .slice la n lc, .slice wa n wc] c tx W) := Lib.hid (fun W Fq hW => by
    have h1 := own_str hW.tx htl
    have h2 := colD_cells (rsl_of_owns hW.lx) hiL
    rw [← htx] at h1
    rw [← hc, Nat.zero_add] at h2
    exact ⟨hW.bx, h2, h1⟩)
   have htxs : tx.length ≤ 1000000 := by rw [htx]; exact HTS.out i
   have HAT5 := Lib.hid (HAT.out.below (Below.refl _ _).drew)
   have HWI5 := Lib.hid (HWI.out.below (wc := wr.drew) (Below.refl _ _).drew)
   have HLR5 := Lib.hid (owns_below HLR.out.1 (Below.refl wr.heap.size wr).drew)
   have HPT := Lib.hid (vput_any HAT5.out.is c (by rw [HXK.out.2.2.1]; exact hdc) tx htxs (by have := HXK.out.2.2.2 c.1 c.2.1; omega))
   rw [HVE.out xk (by rw [HXK.out.1]; exact HXX.out.1) HXK.out.2.1] at HPT
   have hsame := putX_same xk c tx
   have hdeep := putX_deep HXK.out.2.2.2 c tx (by rw [HXK.out.2.2.1]; exact hdc)
   obtain ⟨pb, x2, hpb⟩ : ∃ pb x2, putX xk c tx = (pb, x2) := ⟨_, _, rfl⟩
   rw [hpb] at hpu hsame hdeep HPT
   have HPU2 := Lib.hid hpu
   have HX2K : Hid (x2.gs = x.gs ∧ x2.secs = secs ∧ x2.ds.length = n ∧ x2.deep (K + (k + 1))) := Lib.hid ⟨hsame.1.trans HXK.out.1, hsame.2.1.trans HXK.out.2.1, hsame.2.2.2.trans HXK.out.2.2.1, hdeep⟩
   have q3 : (i : Int) < (L.length : Int) := by omega
   have q4 : 0 ≤ (i : Int) := by omega
   have hS0 : WrM gx g8 g10 i [.slice ga gn gc, .int .i64 secs, .slice la n lc, .slice wa n wc] c tx wr.drew := HTXC.out _ _ HWI5.out
   have hnf2 : nf ≤ 32 := by omega
   clear hpu hsame hdeep hpb hc htx hi
   go_upto_region 11 with fail
   refine wp_region_held_drew (S := WrM gx g8 g10 i [.slice ga gn gc, .int .i64 secs, .slice la n lc, .slice wa n wc] c tx) (by kernel_rfl) hS0 (fun hS0 => ?_)
   refine rtd 0 ?_; refine rtd 1 ?_; refine rtd 2 ?_; refine rtd 3 ?_; refine rtd 4 ?_; refine rtd 5 ?_; refine rtd 6 ?_; refine rtd 7 ?_; refine rtd 8 ?_
   refine rtg 9 ?vy9 ?yy9 ?_
   case yy9 => refine yieldsIf_load_mid (by kernel_rfl) 37 (.tmp 4) ?_ gx (0) ?_ ([.slice ga gn gc, .int .i64 secs, .slice la n lc, .slice wa n wc]) _ (fun w' hw => WrM.r0 hw) Tryz.underlying37 rfl iszDs <;> rfl
   refine rtd 10 ?_; refine rtd 11 ?_
   refine rtv (i := 12) (v := ?vy12) (hy := ?yy12) (h := ?_)
   case yy12 => intro w hSw; (try dsimp only at hSw); go_simp; first | with_reducible rfl | rw [if_pos (by omega)]
   try simp only [Act.put, z1, z2, z3]
   refine rtg 13 ?vy13 ?yy13 ?_
   case yy13 => refine yieldsIf_load_mid (by kernel_rfl) 78 (.tmp 57) ?_ g10 ((i * 4)) ?_ (encC1 c) _ (fun w' hw => WrM.r1 hw) Tryz.underlying78 rfl iszCo <;> rfl
   refine rtd 14 ?_; refine rtd 15 ?_
   refine rtv (i := 16) (v := ?vy16) (hy := ?yy16) (h := ?_)
   case yy16 => intro w hSw; (try dsimp only at hSw); go_simp; first | with_reducible rfl | rw [if_pos (by omega)]
   try simp only [Act.put, z1, z2, z3]
   refine rtv (i := 17) (v := ?vy17) (hy := ?yy17) (h := ?_)
   case yy17 => intro w hSw; (try dsimp only at hSw); go_simp; first | (rw [WrM.tc hSw]; rfl) | rfl
   try simp only [Act.put, z1, z2, z3]
   refine rr1 (i := 18) (h := fun K hK => ?_)
   go_simp
   refine HPT.out.mono ?_
   rintro e w6 ⟨rfl, hstep⟩
   obtain ⟨F2, hat6, hfr6, hm6⟩ := HAT5.out.step hstep
   have HAT6 := Lib.hid hat6
   have HWI6 := Lib.hid (HWI5.out.step hm6 hfr6)
   have HLR6 : Hid (w6.ownsRow 0 3 1 (.slice (some ⟨lb, 0, none⟩) bl.length lcap) bl.length (encNs bl) ∧ ∀ g, (Value.slice (some ⟨lb, 0, none⟩) bl.length lcap).ownBlock = some g → ¬ F2 g) := Lib.hid ⟨own_mod hm6 HLR5.out HLR.out.2, fun g hg => hfr6 g (HLR5.out.lt g hg).2 (HLR.out.2 g hg)⟩
   clear hstep hat6 hfr6 hm6
   try dsimp only
   refine hK.out _ _ (HTXC.out _ _ HWI6.out) (fun hSy18 => ?_)
   try simp only [Act.put, z1, z2, z3]
   refine rtd 19 ?_
   refine wpAnyH_done (by kernel_rfl) ?_ _
   cases pb with
   | true =>
    go_wp2_with fail
    go_roundw
    case rel => exact ⟨k + 1, nf + 1, x2, F2, by go_num, by go_num, by omega, by omega, HAT6, HWI6, HLR6, HPU2, HX2K⟩
    case measure => simp [intOf]; omega
   | false =>
    go_wp2_with fail
    go_roundw
    case rel => exact ⟨k + 1, nf, x2, F2, by go_num, rfl, by omega, by omega, HAT6, HWI6, HLR6, HPU2, HX2K⟩
    case measure => simp [intOf]; omega
  ·have q1 : ¬ (k : Int) < (bl.length : Int) := by omega
   have hfx : (nf, xk) = R := by
    have := HPU.out
    rw [List.drop_eq_nil_of_le (by omega)] at this
    exact this
   have HFX := Lib.hid hfx
   clear hfx
   go_wp2_with fail
   go_ret
   rw [← HFX.out]
   exact ⟨rfl, HAT.out.fin⟩
end Go.Proofs.YtfaemcfjbbbbdaaGreat
namespace Go.Proofs.YtfaemcfjbbbbdaaGreat
open Go.RowKit
def fit1 (s : Bs) : Bool := decide (s = [] ∨ s.length = 64)
set_option maxRecDepth 100000 in
theorem fits1_any (s : Bs) (w : World) : Calls Tryz.prog 142 #[.string ⟨s.toArray⟩] w fun e w' => e = .returned (.bool (!fit1 s)) ∧ Below w.heap.size w w' := by
 cases s with
 | nil =>
  go_enter Tryz.func142, Tryz.ntmps142
  go_wp2_with fail
  go_ret
  exact ⟨by simp [fit1], Below.refl _ _⟩
 | cons a r =>
  obtain ⟨s, hs⟩ : ∃ s : Bs, s = a :: r := ⟨_, rfl⟩
  rw [← hs]
  have q0 : s.isEmpty = false := by rw [hs]; rfl
  have q1 : s ≠ [] := by rw [hs]; simp
  clear hs
  by_cases h64 : s.length = 64
  ·have q2 : ((s.length : Int) != 64) = false := by simp; omega
   have hf : (!fit1 s) = false := by simp [fit1, h64]
   rw [hf]
   go_enter Tryz.func142, Tryz.ntmps142
   go_wp2_with fail
   go_ret
   exact ⟨rfl, Below.refl _ _⟩
  ·have q2 : ((s.length : Int) != 64) = true := by simp; omega
   have hf : (!fit1 s) = true := by simp [fit1, h64, q1]
   rw [hf]
   go_enter Tryz.func142, Tryz.ntmps142
   go_wp2_with fail
   go_ret
   exact ⟨rfl, Below.refl _ _⟩
theorem callFunc_fits1 (args : Array Value) (W : World) : (callFunc 142 args).run Tryz.prog W = .ok (.enter 142 args) W := by kernel_rfl
theorem bts_getD (l : List Bs) (j : Nat) (hj : j < l.length) : (bts l).getD j ByteArray.empty = ⟨(l.getD j []).toArray⟩ := by
 simp [bts, List.getD_eq_getElem?_getD, hj]
theorem any_fit (l : List Bs) : (List.range l.length).any (fun j => !fit1 (l.getD j [])) = !(l.all fit1) := by
 rw [Bool.eq_iff_iff]
 simp only [List.any_eq_true, List.mem_range, Bool.not_eq_true', List.all_eq_false]
 constructor
 ·rintro ⟨j, hj, h⟩
  exact ⟨l[j], List.getElem_mem _, by rw [List.getD_eq_getElem?_getD, List.getElem?_eq_getElem hj] at h; simpa using h⟩
 ·rintro ⟨s, hs, h⟩
  obtain ⟨j, hj, rfl⟩ := List.mem_iff_getElem.1 hs
  exact ⟨j, hj, by rw [List.getD_eq_getElem?_getD, List.getElem?_eq_getElem hj]; simpa using h⟩
set_option maxRecDepth 100000 in
set_option maxHeartbeats 1000000 in
theorem cfits_any (ga : Option Addr) (gc : Nat) (gs : Gs) (secs : Int) (g a size : Nat) (w : World) (hg : GSl w ga gs.length gc gs) (hm : mayC gs secs g a size = true) (got : List Bs) (go_ : Option Addr) (cap : Nat) (hgt : SSl w go_ got.length cap (bts got)) (hl : got.length = (colsL gs g a size).length) :
  Calls Tryz.prog 128 #[.agg #[.slice ga gs.length gc, .int .i64 secs], .agg #[.int .i64 (g : Nat), .int .i64 (a : Nat)], .int .i64 (size : Nat), .slice go_ got.length cap] w fun e w' => e = .returned (.bool (got.all fit1)) ∧ Below w.heap.size w w' := by
 have hLl := colsL_len hm
 obtain ⟨w0, hw0⟩ : ∃ w0, w0 = (w.alloc (.cells #[.slice ga gs.length gc, .int .i64 secs] 24)).alloc (.cells #[.int .i64 (g : Nat), .int .i64 (a : Nat)] 44) := ⟨_, rfl⟩
 have hb0 : Below w.heap.size w w0 := by rw [hw0]; exact ((Below.refl _ _).alloc (Nat.le_refl _) _).alloc (by simp) _
 have hB1 : Blk w0 w.heap.size 24 [.slice ga gs.length gc, .int .i64 secs] := by rw [hw0]; exact (Blk.new w _ _).alloc _
 have hB2 : Blk w0 (w.heap.size + 1) 44 [.int .i64 (g : Nat), .int .i64 (a : Nat)] := by rw [hw0]; exact Blk.newAt (w := w.alloc _) _ _ (by simp)
 have HB0 := Lib.hid hb0
 have x0 := hB1.cell 0
 have x1 := hB1.cell 1
 have y0 := hB2.cell 0
 have y1 := hB2.cell 1
 have HC := Lib.hid (cof_yes ga gs.length gc gs secs g a size w0 (hg.below hb0) hm)
 have HCF : Hid (∀ W, Below w.heap.size w W → Calls Tryz.prog 125 #[.slice go_ got.length cap, .func (.func 142) #[] #[]] W fun e w' => e = .returned (.bool (!(got.all fit1))) ∧ Below W.heap.size W w') := Lib.hid (fun W hW => by
  have := containsFuncS_any 142 #[] (fun j => !fit1 (got.getD j [])) go_ got.length cap (bts got) W (hgt.below hW) (by omega) callFunc_fits1 (fun j hj W2 hW2 => by
   rw [bts_getD got j hj]
   exact fits1_any (got.getD j []) W2)
  rw [any_fit] at this
  exact this)
 obtain ⟨n, hn⟩ : ∃ n, n = (colsL gs g a size).length := ⟨_, rfl⟩
 have hgl := hl
 rw [← hn] at HC hLl hgl
 obtain ⟨m, hm2⟩ : ∃ m, m = got.length := ⟨_, rfl⟩
 rw [← hm2] at HCF hgl ⊢
 have hmn : m = n := hgl
 subst hmn
 clear hg hm hgt hl hb0 hB1 hB2 hgl hn hm2
 go_enter Tryz.func128, Tryz.ntmps128
 go_upto_region 1 with fail
 rw [← hw0]
 clear hw0
 go_wp2_with fail
 refine HC.out.mono ?_
 rintro e w1 ⟨v, rfl, hrow, hb1⟩
 obtain ⟨ao, c1, rfl⟩ := own_form hrow
 have HB1 := Lib.hid (HB0.out.trans (hb1.mono HB0.out.size))
 clear hrow hb1 HC x0 x1 y0 y1
 go_wp2_with fail
 refine (HCF.out w1 HB1.out).mono ?_
 rintro e w2 ⟨rfl, hb2⟩
 have HB2 := Lib.hid (HB1.out.trans (hb2.mono HB1.out.size))
 clear hb2
 go_wp2_with fail
 go_ret
 exact ⟨by simp, HB2.out⟩
end Go.Proofs.YtfaemcfjbbbbdaaGreat
namespace Go.Proofs.YtfaemcfjbbbbdaaGreat
open Go.RowKit
theorem row_lower {w : World} {b b' e k n : Nat} {v : Value} {xs : List Value} (h : w.ownsRow b e k v n xs) (hb : b' ≤ b) : w.ownsRow b' e k v n xs := by
 obtain ⟨h1, h2⟩ := h
 refine ⟨h1, ?_⟩
 rcases h2 with h2 | ⟨g, cap, cur, h3, h4, h5⟩
 ·exact .inl h2
 ·exact .inr ⟨g, cap, cur, h3, by omega, h5⟩
def badK (want got : List Bs) (k : Nat) : List Nat := (List.range k).filter fun i => decide (want.getD i [] ≠ got.getD i [])
theorem badK_succ (want got : List Bs) (k : Nat) : badK want got (k + 1) = badK want got k ++ (if want.getD k [] ≠ got.getD k [] then [k] else []) := by
 unfold badK
 rw [List.range_succ, List.filter_append]
 congr 1
 by_cases h : want.getD k [] ≠ got.getD k []
 ·rw [if_pos h]; simp only [List.filter_cons, decide_eq_true h, if_true, List.filter_nil]
 ·rw [if_neg h]; simp only [List.filter_cons, decide_eq_false h, List.filter_nil]; rfl
theorem badK_len (want got : List Bs) (k : Nat) : (badK want got k).length ≤ k := by
 have := List.length_filter_le (fun i => decide (want.getD i [] ≠ got.getD i [])) (List.range k)
 rw [List.length_range] at this
 exact this
set_option maxRecDepth 100000 in
set_option maxHeartbeats 2000000 in
theorem bad_any (ga : Option Addr) (gc : Nat) (gs : Gs) (secs : Int) (g a : Nat) (s : Bs) (w : World) (hg : GSl w ga gs.length gc gs) (hs : blkOk s = true) (hm : mayC gs secs g a ((s.length / 64 : Nat) : Int) = true) (got : List Bs) (gb cap : Nat) (hgt : SSl w (some ⟨gb, 0, none⟩) got.length cap (bts got)) (hl : got.length = (colsL gs g a (s.length / 64)).length) (hf : got.all fit1 = true) :
  Calls Tryz.prog 115 #[.agg #[.slice ga gs.length gc, .int .i64 secs], .agg #[.int .i64 (g : Nat), .int .i64 (a : Nat)], .string ⟨s.toArray⟩, .slice (some ⟨gb, 0, none⟩) got.length cap] w fun e w' => ∃ v, e = .returned v ∧ w'.ownsRow w.heap.size 3 1 v (badK (encL (colsL gs g a (s.length / 64)) (secL s)) got got.length).length (encNs (badK (encL (colsL gs g a (s.length / 64)) (secL s)) got got.length)) ∧ Below w.heap.size w w' := by
 have hLl := colsL_len hm
 obtain ⟨w0, hw0⟩ : ∃ w0, w0 = (w.alloc (.cells #[.slice ga gs.length gc, .int .i64 secs] 24)).alloc (.cells #[.int .i64 (g : Nat), .int .i64 (a : Nat)] 44) := ⟨_, rfl⟩
 have hb0 : Below w.heap.size w w0 := by rw [hw0]; exact ((Below.refl _ _).alloc (Nat.le_refl _) _).alloc (by simp) _
 have hB1 : Blk w0 w.heap.size 24 [.slice ga gs.length gc, .int .i64 secs] := by rw [hw0]; exact (Blk.new w _ _).alloc _
 have hB2 : Blk w0 (w.heap.size + 1) 44 [.int .i64 (g : Nat), .int .i64 (a : Nat)] := by rw [hw0]; exact Blk.newAt (w := w.alloc _) _ _ (by simp)
 have HB0 := Lib.hid hb0
 have HX1 := Lib.hid hB1
 have HX2 := Lib.hid hB2
 obtain ⟨W_, hW_⟩ : ∃ W_, W_ = encL (colsL gs g a (s.length / 64)) (secL s) := ⟨_, rfl⟩
 obtain ⟨n, hn⟩ : ∃ n, n = (colsL gs g a (s.length / 64)).length := ⟨_, rfl⟩
 have hWl : W_.length = n := by rw [hW_, hn, encL_length]
 have hEN := encode_any ga gc gs secs g a s w0 (hg.below hb0) hs hm
 have HFI : Hid (∀ W, Below w.heap.size w W → Calls Tryz.prog 128 #[.agg #[.slice ga gs.length gc, .int .i64 secs], .agg #[.int .i64 (g : Nat), .int .i64 (a : Nat)], .int .i64 ((s.length / 64 : Nat) : Int), .slice (some ⟨gb, 0, none⟩) got.length cap] W fun e w' => e = .returned (.bool true) ∧ Below W.heap.size W w') := Lib.hid (fun W hW => by
  have := cfits_any ga gc gs secs g a (s.length / 64) W (hg.below hW) hm got (some ⟨gb, 0, none⟩) cap (hgt.below hW) hl
  rw [hf] at this; exact this)
 have HGT : Hid (∀ W, Below w.heap.size w W → ∀ j, j < n → W.cell? ⟨gb, j, none⟩ = some (.string ⟨(got.getD j []).toArray⟩)) := Lib.hid (fun W hW j hj => by
  obtain ⟨b', o', e, hb, hc⟩ := hgt.2.2.2.2 (by omega)
  simp only [Option.some.injEq, Addr.mk.injEq, and_true] at e
  obtain ⟨rfl, rfl⟩ := e
  have hj' : j < got.length := by omega
  have := hc j (by omega)
  rw [Nat.zero_add] at this
  rw [World.cell?_of_block (w := w) (hW.block gb hb), this]
  simp [encS, bts, List.getElem?_eq_getElem hj'])
 rw [← hW_, ← hn] at hEN
 rw [← hn] at hLl hl
 rw [← hW_]
 have HEN := Lib.hid hEN
 have HWL := Lib.hid hWl
 obtain ⟨m, hm2⟩ : ∃ m, m = got.length := ⟨_, rfl⟩
 rw [← hm2] at HFI hl ⊢
 subst hl
 have hs256 : s.length ≤ 256 ∧ s.length % 64 = 0 := ⟨(blkOk_spec hs).2.2.1, (blkOk_spec hs).2.1⟩
 obtain ⟨sz, hsz⟩ : ∃ sz, sz = s.length / 64 := ⟨_, rfl⟩
 rw [← hsz] at HFI
 have q0 : (s.length : Int) / 64 = (sz : Int) := by omega
 have q0' : (s.length : Int).tdiv 64 = (sz : Int) := by rw [Int.tdiv_eq_ediv_of_nonneg (by omega)]; exact q0
 obtain ⟨i0, hi, hz0, hz1, hz2⟩ := info_parts infoI
 clear hg hs hm hgt hf hb0 hB1 hB2 hW_ hn hWl hEN hm2 hsz
 go_enter Tryz.func115, Tryz.ntmps115
 go_upto_region 1 with fail
 rw [← hw0]
 clear hw0
 have x0 := HX1.out.cell 0
 have x1 := HX1.out.cell 1
 have y0 := HX2.out.cell 0
 have y1 := HX2.out.cell 1
 go_wp2_with fail
 refine HEN.out.mono ?_
 rintro e w1 ⟨v, rfl, hrow, hb1⟩
 obtain ⟨gw, c1, rfl⟩ := own_form1 hrow (by omega)
 have HB1 := Lib.hid (HB0.out.trans (hb1.mono HB0.out.size))
 have HRW := Lib.hid hrow
 have x0 := (HX1.out.below hb1).cell 0
 have x1 := (HX1.out.below hb1).cell 1
 have y0 := (HX2.out.below hb1).cell 0
 have y1 := (HX2.out.below hb1).cell 1
 have HC := Lib.hid (HFI.out w1 HB1.out)
 clear hrow hb1 HEN
 go_wp2_with fail
 try rw [q0']
 try rw [q0]
 refine HC.out.mono ?_
 rintro e w2 ⟨rfl, hb2⟩
 have HB2 := Lib.hid (HB1.out.trans (hb2.mono HB1.out.size))
 have HWC : Hid (∀ W, Below w2.heap.size w2 W → ∀ j, j < m → W.cell? ⟨gw, j, none⟩ = some (.string ⟨(W_.getD j []).toArray⟩)) := Lib.hid (fun W hW j hj => own_str (owns_below (owns_below HRW.out hb2) hW) (by rw [HWL.out]; exact hj))
 clear hb2 HC x0 x1 y0 y1
 go_wp2_with fail
 go_loopw [11, 34] (fun v vi wr => ∃ k : Nat, k ≤ m ∧ vi = .int .i64 k ∧ Hid (wr.ownsRow w2.heap.size 3 1 v (badK W_ got k).length (encNs (badK W_ got k))) ∧ Hid (Below w2.heap.size w2 wr)) (fun _ vi _ => m - (intOf vi).toNat)
 case atStart => exact ⟨0, by omega, rfl, Lib.hid (World.ownsRow_nil _ _ _ _), Lib.hid (Below.refl _ _)⟩
 case round =>
  obtain ⟨k, hk, rfl, HOW, HBR⟩ := hrel
  have hsr := HBR.out.size
  obtain ⟨ao1, cap1, rfl⟩ := own_form HOW.out
  by_cases hkn : k < m
  ·have q1 : (k : Int) < (m : Int) := by omega
   have q2 : 0 ≤ (k : Int) := by omega
   obtain ⟨u, hu⟩ : ∃ u : Bs, u = W_.getD k [] := ⟨_, rfl⟩
   obtain ⟨t, ht⟩ : ∃ t : Bs, t = got.getD k [] := ⟨_, rfl⟩
   have hbw := HB2.out.trans (HBR.out.mono HB2.out.size)
   have hS0 : (fun w' : World => w'.cell? ⟨gw, k, none⟩ = some (.string ⟨u.toArray⟩) ∧ w'.cell? ⟨gb, k, none⟩ = some (.string ⟨t.toArray⟩)) wr.drew := ⟨by rw [hu]; exact HWC.out _ (HBR.out.trans ((Below.refl wr.heap.size wr).drew.mono hsr)) k hkn, by rw [ht]; exact HGT.out _ (hbw.trans ((Below.refl wr.heap.size wr).drew.mono hbw.size)) k hkn⟩
   have HBK : Hid (badK W_ got (k + 1) = badK W_ got k ++ (if u ≠ t then [k] else [])) := Lib.hid (by rw [badK_succ, hu, ht])
   have hkl := badK_len W_ got k
   obtain ⟨R, hR⟩ : ∃ R, R = badK W_ got k := ⟨_, rfl⟩
   rw [← hR] at hkl HBK HOW ⊢
   have HOW1 := Lib.hid (owns_below HOW.out (Below.refl wr.heap.size wr).drew)
   have HBR1 := Lib.hid (HBR.out.trans ((Below.refl wr.heap.size wr).drew.mono hsr))
   clear hu ht hR hbw
   by_cases hut : u = t
   ·subst hut
    go_upto_region 8 with fail
    refine wp_region_held_drew (S := fun w' => w'.cell? ⟨gw, k, none⟩ = some (.string ⟨u.toArray⟩) ∧ w'.cell? ⟨gb, k, none⟩ = some (.string ⟨u.toArray⟩)) (by kernel_rfl) hS0 (fun hS0 => ?_)
    refine rtd 0 ?_; refine rtd 1 ?_
    refine rtv (i := 2) (v := ?ve2) (hy := ?ye2) (h := ?_)
    case ye2 => intro w hSw; (try dsimp only at hSw); go_simp; first | with_reducible rfl | rw [if_pos (by omega)]
    try simp only [Act.put, z1, z2, z3]
    refine rtv (i := 3) (v := ?ve3) (hy := ?ye3) (h := ?_)
    case ye3 => intro w hSw; (try dsimp only at hSw); go_simp; first | (rw [hSw.1]; rfl) | rfl
    try simp only [Act.put, z1, z2, z3]
    refine rtd 4 ?_; refine rtd 5 ?_
    refine rtv (i := 6) (v := ?ve6) (hy := ?ye6) (h := ?_)
    case ye6 => intro w hSw; (try dsimp only at hSw); go_simp; first | with_reducible rfl | rw [if_pos (by omega)]
    try simp only [Act.put, z1, z2, z3]
    refine rtv (i := 7) (v := ?ve7) (hy := ?ye7) (h := ?_)
    case ye7 => intro w hSw; (try dsimp only at hSw); go_simp; first | (rw [hSw.2]; rfl) | rfl
    try simp only [Act.put, z1, z2, z3]
    refine rtd 8 ?_
    refine wpAnyH_done (by kernel_rfl) ?_ _
    go_wp2_with fail
    refine ⟨⟨k + 1, by omega, by go_num, Lib.hid (by rw [HBK.out, if_neg (by simp), List.append_nil]; exact HOW1.out), HBR1⟩, ?_⟩
    simp [intOf]
    omega
   ·go_upto_region 8 with fail
    refine wp_region_held_drew (S := fun w' => w'.cell? ⟨gw, k, none⟩ = some (.string ⟨u.toArray⟩) ∧ w'.cell? ⟨gb, k, none⟩ = some (.string ⟨t.toArray⟩)) (by kernel_rfl) hS0 (fun hS0 => ?_)
    refine rtd 0 ?_; refine rtd 1 ?_
    refine rtv (i := 2) (v := ?vn2) (hy := ?yn2) (h := ?_)
    case yn2 => intro w hSw; (try dsimp only at hSw); go_simp; first | with_reducible rfl | rw [if_pos (by omega)]
    try simp only [Act.put, z1, z2, z3]
    refine rtv (i := 3) (v := ?vn3) (hy := ?yn3) (h := ?_)
    case yn3 => intro w hSw; (try dsimp only at hSw); go_simp; first | (rw [hSw.1]; rfl) | rfl
    try simp only [Act.put, z1, z2, z3]
    refine rtd 4 ?_; refine rtd 5 ?_
    refine rtv (i := 6) (v := ?vn6) (hy := ?yn6) (h := ?_)
    case yn6 => intro w hSw; (try dsimp only at hSw); go_simp; first | with_reducible rfl | rw [if_pos (by omega)]
    try simp only [Act.put, z1, z2, z3]
    refine rtv (i := 7) (v := ?vn7) (hy := ?yn7) (h := ?_)
    case yn7 => intro w hSw; (try dsimp only at hSw); go_simp; first | (rw [hSw.2]; rfl) | rfl
    try simp only [Act.put, z1, z2, z3]
    refine rtv (i := 8) (v := ?vn8) (hy := ?yn8) (h := ?_)
    case yn8 => intro w hSw; (try dsimp only at hSw); go_simp; rw [show (!u == t) = true by simp [hut]]
    try simp only [Act.put, z1, z2, z3]
    refine wpAnyH_done (by kernel_rfl) ?_ _
    have m1 : R.length + 1 ≤ maxLen := by unfold maxLen; omega
    have m2 : (R.length + 1) * 8 ≤ 140737488355328 := by omega
    have m3 : w2.heap.size ≤ (wr.drew.alloc (.cells #[.int .i64 (k : Nat)] 3)).heap.size := by have h2 := HBR1.out.size; simp at *; omega
    have HNW := Lib.hid (Blk.news (Blk.new wr.drew 3 [.int .i64 (k : Nat)]))
    have HOW3 := Lib.hid (HOW1.out.alloc (.cells #[.int .i64 (k : Nat)] 3))
    go_wp2_with (at_builtin; go_must (refine wpList_append_own_at _ rfl (.tmp 46) (.tmp 48) 88 rfl w2.heap.size 3 i0 (.int .i64 0) 1 8 Tryz.underlying88 hi hz0 hz1 hz2 rfl (by decide) (.slice ao1 R.length cap1) R.length (encNs R) rfl HOW3.out ⟨wr.heap.size, 0, none⟩ 1 1 [.int .i64 (k : Nat)] rfl rfl HNW.out (by simp [Value.oneCell']) m1 m2 m3 ?_; intro v1 w3 hown1 hgrow1 _ _))
    have HBF : Hid (Below w2.heap.size w2 w3) := Lib.hid (below_own (HBR1.out.alloc HBR1.out.size _) HOW3.out hgrow1 m3 (Nat.le_refl _))
    have hown2 : w3.ownsRow w2.heap.size 3 1 v1 (badK W_ got (k + 1)).length (encNs (badK W_ got (k + 1))) := by
     rw [HBK.out, if_pos hut, List.length_append, show encNs (R ++ [k]) = encNs R ++ [.int .i64 (k : Nat)] by simp [encNs]]
     exact hown1
    have HO2 := Lib.hid hown2
    clear hown1 hgrow1 hown2
    go_roundw
    case rel => exact ⟨k + 1, by omega, by go_num, HO2, HBF⟩
    case measure => simp [intOf]; omega
  ·obtain rfl : k = m := by omega
   have q1 : ¬ (k : Int) < (k : Int) := by omega
   go_wp2_with fail
   go_ret
   exact ⟨_, rfl, row_lower HOW.out HB2.out.size, HB2.out.trans (HBR.out.mono HB2.out.size)⟩
end Go.Proofs.YtfaemcfjbbbbdaaGreat
namespace Go.Proofs.YtfaemcfjbbbbdaaGreat
open Go.RowKit
attribute [local go_sem ↓] wp_loadCo wp_storeCo
set_option maxHeartbeats 400000 in
set_option maxRecDepth 100000 in
theorem indexE_any (ao : Option Addr) (n cap : Nat) (l : List Bs) (w : World) (hsl : SSl w ao n cap (bts l)) (hm : n ≤ 1000000000) :
  Calls Tryz.prog 131 #[.slice ao n cap, .string ⟨#[]⟩] w fun e w' => e = .returned (.int .i64 (firstIdx (fun j => (l.getD j []).isEmpty) n)) ∧ Below w.heap.size w w' := by
 have HSL := Lib.hid hsl
 have hlen : l.length = n := by have := hsl.1; simpa [encS, bts] using this
 have HLN := Lib.hid hlen
 clear hsl hlen
 go_enter Tryz.func131, Tryz.ntmps131
 go_wp2_with fail
 go_loopw [8] (fun i wr => ∃ k : Nat, k ≤ n ∧ i = .int .i64 k ∧ Hid (∀ j, j < k → (l.getD j []).isEmpty = false) ∧ Below w.heap.size w wr) (fun i _ => n - (intOf i).toNat)
 case atStart => exact ⟨0, by omega, rfl, Lib.hid fun j hj => absurd hj (by omega), Below.refl _ _⟩
 case round =>
  obtain ⟨k, hk, rfl, hno, hbel⟩ := hrel
  by_cases hkn : k < n
  ·obtain ⟨b, off, rfl, hb, hc⟩ := HSL.out.pos (by omega)
   obtain ⟨u, hu⟩ : ∃ u : Bs, u = l.getD k [] := ⟨_, rfl⟩
   have hcx : wr.cell? ⟨b, off + k, none⟩ = some (.string ⟨u.toArray⟩) := by
    rw [hu, ← bts_getD l k (by rw [HLN.out]; exact hkn)]; exact (hbel.cell (by exact hb)).trans (hc k hkn)
   have HU := Lib.hid hu
   clear hc hu
   cases u with
   | nil =>
    go_wp2_with fail
    go_ret
    exact ⟨by rw [firstIdx_at hkn (by rw [← HU.out]; rfl) hno.out]; rfl, hbel⟩
   | cons x r =>
    go_wp2_with fail
    go_roundw
    case rel =>
     refine ⟨k + 1, by omega, by go_num, Lib.hid fun j hj => ?_, hbel⟩
     by_cases e : j = k
     ·rw [e, ← HU.out]; rfl
     ·exact hno.out j (by omega)
    case measure => simp [intOf]; omega
  ·have hkn' : k = n := by omega
   subst hkn'
   go_wp2_with fail
   go_ret
   exact ⟨by rw [firstIdx_none hno.out]; rfl, hbel⟩
theorem containsE_any (ao : Option Addr) (n cap : Nat) (l : List Bs) (w : World) (hsl : SSl w ao n cap (bts l)) (hm : n ≤ 1000000000) :
  Calls Tryz.prog 114 #[.slice ao n cap, .string ⟨#[]⟩] w fun e w' => e = .returned (.bool (decide ([] ∈ l))) ∧ Below w.heap.size w w' := by
 have hlen : l.length = n := by have := hsl.1; simpa [encS, bts] using this
 have H := Lib.hid (indexE_any ao n cap l w hsl hm)
 have HA : Hid ((List.range n).any (fun j => (l.getD j []).isEmpty) = decide ([] ∈ l)) := Lib.hid (by
  rw [← hlen, Bool.eq_iff_iff]
  simp only [List.any_eq_true, List.mem_range, decide_eq_true_eq]
  constructor
  ·rintro ⟨j, hj, h⟩
   rw [List.getD_eq_getElem?_getD, List.getElem?_eq_getElem hj, Option.getD_some, List.isEmpty_iff] at h
   rw [← h]; exact List.getElem_mem _
  ·intro h
   obtain ⟨j, hj, e⟩ := List.mem_iff_getElem.1 h
   exact ⟨j, hj, by rw [List.getD_eq_getElem?_getD, List.getElem?_eq_getElem hj, Option.getD_some, e]; rfl⟩)
 clear hsl hlen
 go_enter Tryz.func114, Tryz.ntmps114
 go_wp2_with fail
 refine H.out.mono ?_
 rintro e w1 ⟨rfl, hb1⟩
 go_wp2_with fail
 go_ret
 exact ⟨by rw [← HA.out, ← firstIdx_ge]; rfl, hb1⟩
end Go.Proofs.YtfaemcfjbbbbdaaGreat
