/- The walks of geom.First, cols.may, cols.mirror, ptr.None, ptr.Places, ptr.apart. -/
import Derived.Test.YtmnhdpojonlfhaaAlE
import Derived.Test.YtmnhdpojonlfhaaGeT
import Derived.Deep.QuietTactic
import Derived.BigQuiet
import Derived.Deep.RegionHeld3
namespace Go.Proofs.Ytmnhdpojonlfhaa
open Go.RowKit
attribute [local go_sem ↓] Go.wp_at_zero Go.wp_at_succ

set_option maxRecDepth 100000 in
theorem pnone_any (p : PtrT) (hb : 1 ≤ p.birth) (w : World) :
    Calls Try.prog 130 #[.agg (encPtr p).toArray] w fun e w' => e = .returned (.bool false) ∧ Below w.heap.size w w' := by
  obtain ⟨p0, p1, p2, p3, p4, p5, p6, p7, p8, p9, p10, p11⟩ := p
  dsimp only at hb
  have hne : (p7 == 0) = false := by simp; omega
  have hb0 : Below w.heap.size w (w.alloc (.cells #[.int .i64 p0, .int .i64 p1, .int .i64 p2, .int .i64 p3, .bool p4, .int .i64 p5, .int .i64 p6, .int .i64 p7, .int .u64 p8, .int .u64 p9, .int .u64 p10, .int .u64 p11] 68)) := (Below.refl _ _).alloc (Nat.le_refl _) _
  have HB := Lib.hid hb0
  clear hb0 hb
  show Calls _ _ #[.agg #[.int .i64 p0, .int .i64 p1, .int .i64 p2, .int .i64 p3, .bool p4, .int .i64 p5, .int .i64 p6, .int .i64 p7, .int .u64 p8, .int .u64 p9, .int .u64 p10, .int .u64 p11]] _ _
  go_enter Try.func130, Try.ntmps130
  go_wp2_with fail
  go_ret
  exact ⟨ret_bool (by simp_all), HB.out⟩

set_option maxRecDepth 100000 in
theorem places_any (p : PtrT) (hb : 1 ≤ p.birth) (w : World) :
    Calls Try.prog 117 #[.agg (encPtr p).toArray] w fun e w' => ∃ g, Hid (e = .returned (.slice (some ⟨g, 0, none⟩) (if p.two = true then 2 else 1) (if p.two = true then 2 else 1))) ∧ w.heap.size ≤ g ∧
      Blk w' g 63 (if p.two = true then [.int .i64 p.ag, .int .i64 p.aa, .int .i64 p.bg, .int .i64 p.ba] else [.int .i64 p.ag, .int .i64 p.aa]) ∧ Below w.heap.size w w' := by
  have HN := Lib.hid (fun W => pnone_any p hb W)
  obtain ⟨p0, p1, p2, p3, p4, p5, p6, p7, p8, p9, p10, p11⟩ := p
  have hb0 : Below w.heap.size w (w.alloc (.cells #[.int .i64 p0, .int .i64 p1, .int .i64 p2, .int .i64 p3, .bool p4, .int .i64 p5, .int .i64 p6, .int .i64 p7, .int .u64 p8, .int .u64 p9, .int .u64 p10, .int .u64 p11] 68)) := (Below.refl _ _).alloc (Nat.le_refl _) _
  have hB0 := Blk.new w 68 [.int .i64 p0, .int .i64 p1, .int .i64 p2, .int .i64 p3, .bool p4, .int .i64 p5, .int .i64 p6, .int .i64 p7, .int .u64 p8, .int .u64 p9, .int .u64 p10, .int .u64 p11]
  have HB := Lib.hid hb0
  have HK := Lib.hid hB0
  clear hb0 hb hB0
  show Calls _ _ #[.agg #[.int .i64 p0, .int .i64 p1, .int .i64 p2, .int .i64 p3, .bool p4, .int .i64 p5, .int .i64 p6, .int .i64 p7, .int .u64 p8, .int .u64 p9, .int .u64 p10, .int .u64 p11]] _ _
  cases p4
  all_goals
    go_enter Try.func117, Try.ntmps117
    go_wp2_with fail
    refine (HN.out _).mono ?_
    rintro e w1 ⟨rfl, hb1⟩
    have B1 := Lib.hid (HB.out.trans (hb1.mono HB.out.size))
    have K1 := HK.out.below hb1
    have c0 := K1.cell 0
    have c1 := K1.cell 1
    have c2 := K1.cell 2
    have c3 := K1.cell 3
    have c4 := K1.cell 4
    clear hb1 K1
    go_wp2_with fail
    go_ret
    exact ⟨w1.heap.size, Lib.hid rfl, B1.out.size, Blk.new w1 _ _, B1.out.alloc B1.out.size _⟩

theorem takesI_bd (gs : Gs) (secs g size : Int) : takesI gs secs g size ≤ 6 ∧ sectI gs secs g ≤ 32768 ∧ 0 ≤ sectI gs secs g ∧ 0 ≤ takesI gs secs g size := by
  have ht : 0 ≤ takesI gs secs g size ∧ takesI gs secs g size ≤ 6 := by
    unfold takesI
    split
    · rename_i hc
      obtain ⟨h1, h2, h3⟩ := hasB_spec hc.1
      obtain ⟨i, rfl⟩ := Int.eq_ofNat_of_zero_le h2
      have := takes_bd (getD_right h1 (show i < gs.length by omega)) hc.2.1 hc.2.2
      rw [Int.toNat_natCast]
      omega
    · omega
  have hs : 0 ≤ sectI gs secs g ∧ sectI gs secs g ≤ 32768 := by
    unfold sectI
    split
    · rename_i hc
      obtain ⟨h1, h2, h3⟩ := hasB_spec hc
      obtain ⟨i, rfl⟩ := Int.eq_ofNat_of_zero_le h2
      have hr := rightB_spec h1
      have := sect_bd (getD_right h1 (show i < gs.length by omega)) hr.2.2.1 hr.2.2.2.1
      rw [Int.toNat_natCast]
      omega
    · omega
  omega

set_option maxRecDepth 100000 in
theorem cmay_any (ao : Option Addr) (n cap : Nat) (gs : Gs) (secs g a size : Int) (w : World) (h : GSl w ao n cap gs) (_ha : I64' a) :
    Calls Try.prog 118 #[.agg #[.slice ao n cap, .int .i64 secs], .agg #[.int .i64 g, .int .i64 a], .int .i64 size] w fun e w' => e = .returned (.bool (mayC gs secs g a size)) ∧ Below w.heap.size w w' := by
  obtain ⟨w0, hw0⟩ : ∃ w0, w0 = (w.alloc (.cells #[.slice ao n cap, .int .i64 secs] 96)).alloc (.cells #[.int .i64 g, .int .i64 a] 63) := ⟨_, rfl⟩
  have hb0 : Below w.heap.size w w0 := by rw [hw0]; exact ((Below.refl _ _).alloc (Nat.le_refl _) _).alloc (by simp) _
  have hR0 : Blk w0 w.heap.size 96 [.slice ao n cap, .int .i64 secs] := by rw [hw0]; exact (Blk.new w _ _).alloc _
  have hP0 : Blk w0 (w.heap.size + 1) 63 [.int .i64 g, .int .i64 a] := by rw [hw0]; exact Blk.newAt _ _ (by simp)
  have HT := Lib.hid (gtakes_any ao n cap gs secs g size w0 (h.below hb0))
  have HB0 := Lib.hid hb0
  have HR0 := Lib.hid hR0
  have HP0 := Lib.hid hP0
  have HG := Lib.hid h
  have hx := takesI_bd gs secs g size
  obtain ⟨t, ht⟩ : ∃ t, t = takesI gs secs g size := ⟨_, rfl⟩
  obtain ⟨s, hs⟩ : ∃ s, s = sectI gs secs g := ⟨_, rfl⟩
  have hm : mayC gs secs g a size = decide (0 < t ∧ 0 ≤ a ∧ a ≤ s - t) := by rw [ht, hs]; rfl
  rw [← ht] at HT
  rw [← ht, ← hs] at hx
  obtain ⟨x1, x2, x3, x4⟩ := hx
  rw [hm]
  have HS : ∀ W, Below w0.heap.size w0 W → Calls Try.prog 95 #[.agg #[.slice ao n cap, .int .i64 secs], .int .i64 g] W fun e w' => e = .returned (.int .i64 s) ∧ Below W.heap.size W w' := fun W hW => by
    rw [hs]; exact gsectors_any ao n cap gs secs g W ((h.below hb0).below hW)
  have HS' := Lib.hid HS
  have q0 := hR0.cell 0
  have q1 := hR0.cell 1
  have r0 := hP0.cell 0
  have r1 := hP0.cell 1
  have fin : ∀ x : Bool, x = decide (0 < t ∧ 0 ≤ a ∧ a ≤ s - t) → Ending.returned (.bool x) = .returned (.bool (decide (0 < t ∧ 0 ≤ a ∧ a ≤ s - t))) := fun x e => by rw [e]
  have FIN := Lib.hid fin
  clear hb0 hR0 hP0 h hm ht hs HS fin q0 q1 r0 r1
  go_enter Try.func118, Try.ntmps118
  go_wp2_with fail
  rw [← hw0]
  clear hw0
  have q0 := HR0.out.cell 0
  have q1 := HR0.out.cell 1
  have r0 := HP0.out.cell 0
  have r1 := HP0.out.cell 1
  go_wp2_with fail
  refine HT.out.mono ?_
  rintro e w1 ⟨rfl, hb1⟩
  have B1 := Lib.hid (HB0.out.trans (hb1.mono HB0.out.size))
  have R1 := HR0.out.below hb1
  have P1 := HP0.out.below hb1
  clear q0 q1 r0 r1
  have q0 := R1.cell 0
  have q1 := R1.cell 1
  have r0 := P1.cell 0
  have r1 := P1.cell 1
  have R1' := Lib.hid R1
  have P1' := Lib.hid P1
  have HC := Lib.hid (HS'.out w1.drew (hb1.trans (Below.refl _ _).drew))
  clear hb1 R1 P1
  have rel : ∀ W, Below w1.heap.size w1.drew W → W.cell? ⟨w.heap.size, 0, none⟩ = some (.slice ao n cap) ∧ W.cell? ⟨w.heap.size, 1, none⟩ = some (.int .i64 secs) ∧ W.cell? ⟨w.heap.size + 1, 0, none⟩ = some (.int .i64 g) ∧ W.cell? ⟨w.heap.size + 1, 1, none⟩ = some (.int .i64 a) := fun W hW => ⟨(R1'.out.below ((Below.refl _ _).drew.trans hW)).cell 0, (R1'.out.below ((Below.refl _ _).drew.trans hW)).cell 1, (P1'.out.below ((Below.refl _ _).drew.trans hW)).cell 0, (P1'.out.below ((Below.refl _ _).drew.trans hW)).cell 1⟩
  have REL := Lib.hid rel
  clear rel
  by_cases d1 : 0 < t
  · by_cases d2 : 0 ≤ a
    · have e2 : decide (0 ≤ a) = true := decide_eq_true d2
      have e1 : decide (0 < t) = true := decide_eq_true d1
      go_wp2_with fail
      go_region_held3 (fun w' => w'.cell? ⟨w.heap.size, 0, none⟩ = some (.slice ao n cap) ∧ w'.cell? ⟨w.heap.size, 1, none⟩ = some (.int .i64 secs) ∧ w'.cell? ⟨w.heap.size + 1, 0, none⟩ = some (.int .i64 g) ∧ w'.cell? ⟨w.heap.size + 1, 1, none⟩ = some (.int .i64 a)) (go_keep)
        (first | (go_at_call 95; refine HC.out.mono ?_; rintro e w5 ⟨rfl, hb5⟩; obtain ⟨hd1, hd2, hd3, hd4⟩ := REL.out w5 hb5; have HB5 := Lib.hid hb5; clear hb5))
      all_goals
        go_wp2_with fail
        go_ret
        exact ⟨FIN.out _ (by rw [IntWalk.i64_in (s - t) (by omega)]; simp [d1, d2]), B1.out.trans (((Below.refl _ _).drew.trans HB5.out).mono B1.out.size)⟩
    · have e2 : decide (0 ≤ a) = false := decide_eq_false d2
      have e1 : decide (0 < t) = true := decide_eq_true d1
      go_wp2_with fail
      go_quiet (fail)
      go_wp2_with fail
      go_ret
      exact ⟨FIN.out _ (decide_eq_false (by omega)).symm, below_drewN' B1.out _⟩
  · have e1 : decide (0 < t) = false := decide_eq_false d1
    go_wp2_with fail
    go_quiet (fail)
    go_wp2_with fail
    go_ret
    exact ⟨FIN.out _ (decide_eq_false (by omega)).symm, below_drewN' B1.out _⟩
end Go.Proofs.Ytmnhdpojonlfhaa
