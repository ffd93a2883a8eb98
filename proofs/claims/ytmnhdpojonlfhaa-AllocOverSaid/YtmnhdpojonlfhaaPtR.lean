/- The walk of ptr.Right. -/
import Derived.Test.YtmnhdpojonlfhaaPtO
import Derived.Test.YtmnhdpojonlfhaaPtA
namespace Go.Proofs.Ytmnhdpojonlfhaa
open Go.RowKit
set_option linter.unusedSimpArgs false
attribute [local go_sem ↓] Go.wp_at_zero Go.wp_at_succ

set_option maxRecDepth 100000 in
set_option maxHeartbeats 3200000 in
theorem pright_any (ao : Option Addr) (n cap : Nat) (gs : Gs) (secs : Int) (p : PtrT) (w : World) (h : GSl w ao n cap gs) (hp : p.ok) :
    Calls Try.prog 63 #[.agg #[.slice ao n cap, .int .i64 secs], .agg (encPtr p).toArray] w fun e w' => e = .returned (.bool (ptrRight gs secs p)) ∧ Below w.heap.size w w' := by
  have kaa := hp.aa
  have kba := hp.ba
  obtain ⟨ag, aa, bg, ba, two, sz, lv, bi, s0, s1, s2, s3⟩ := p
  dsimp only at kaa kba
  obtain ⟨w0, hw0⟩ : ∃ w0, w0 = (w.alloc (.cells #[.slice ao n cap, .int .i64 secs] 96)).alloc (.cells #[.int .i64 ag, .int .i64 aa, .int .i64 bg, .int .i64 ba, .bool two, .int .i64 sz, .int .i64 lv, .int .i64 bi, .int .u64 s0, .int .u64 s1, .int .u64 s2, .int .u64 s3] 68) := ⟨_, rfl⟩
  have hb0 : Below w.heap.size w w0 := by rw [hw0]; exact ((Below.refl _ _).alloc (Nat.le_refl _) _).alloc (by simp) _
  have hR0 : Blk w0 w.heap.size 96 [.slice ao n cap, .int .i64 secs] := by rw [hw0]; exact (Blk.new w _ _).alloc _
  have hP0 : Blk w0 (w.heap.size + 1) 68 [.int .i64 ag, .int .i64 aa, .int .i64 bg, .int .i64 ba, .bool two, .int .i64 sz, .int .i64 lv, .int .i64 bi, .int .u64 s0, .int .u64 s1, .int .u64 s2, .int .u64 s3] := by rw [hw0]; exact Blk.newAt _ _ (by simp)
  have hcells : ∀ W, Below w0.heap.size w0 W → W.cell? ⟨w.heap.size, 0, none⟩ = some (.slice ao n cap) ∧ W.cell? ⟨w.heap.size, 1, none⟩ = some (.int .i64 secs) ∧ W.cell? ⟨w.heap.size + 1, 0, none⟩ = some (.int .i64 ag) ∧ W.cell? ⟨w.heap.size + 1, 1, none⟩ = some (.int .i64 aa) ∧ W.cell? ⟨w.heap.size + 1, 2, none⟩ = some (.int .i64 bg) ∧ W.cell? ⟨w.heap.size + 1, 3, none⟩ = some (.int .i64 ba) ∧ W.cell? ⟨w.heap.size + 1, 4, none⟩ = some (.bool two) ∧ W.cell? ⟨w.heap.size + 1, 5, none⟩ = some (.int .i64 sz) ∧ W.cell? ⟨w.heap.size + 1, 6, none⟩ = some (.int .i64 lv) ∧ W.cell? ⟨w.heap.size + 1, 7, none⟩ = some (.int .i64 bi) := fun W hW =>
    ⟨(hR0.below hW).cell 0, (hR0.below hW).cell 1, (hP0.below hW).cell 0, (hP0.below hW).cell 1, (hP0.below hW).cell 2, (hP0.below hW).cell 3, (hP0.below hW).cell 4, (hP0.below hW).cell 5, (hP0.below hW).cell 6, (hP0.below hW).cell 7⟩
  have HB0 := Lib.hid hb0
  have HCE := Lib.hid hcells
  have HG := Lib.hid (h.below hb0)
  obtain ⟨c0, c1, c2, c3, c4, c5, c6, c7, c8, c9⟩ := hcells w0 (Below.refl _ _)
  have hPR : ptrRight gs secs ⟨ag, aa, bg, ba, two, sz, lv, bi, s0, s1, s2, s3⟩ = (decide (0 ≤ lv ∧ lv ≤ 3 ∧ 1 ≤ bi ∧ bi ≤ 4294967295) && mayC gs secs ag aa sz && (if two = true then mayC gs secs bg ba sz && apartC gs secs ag aa bg ba sz else decide (bg = 0 ∧ ba = 0))) := rfl
  have HPR := Lib.hid hPR
  have finF : ∀ x : Bool, x = ptrRight gs secs ⟨ag, aa, bg, ba, two, sz, lv, bi, s0, s1, s2, s3⟩ → Ending.returned (.bool x) = .returned (.bool (ptrRight gs secs ⟨ag, aa, bg, ba, two, sz, lv, bi, s0, s1, s2, s3⟩)) := fun x e => by rw [e]
  have FIN := Lib.hid finF
  clear h hp hb0 hR0 hP0 hcells hPR finF
  show Calls _ _ #[.agg #[.slice ao n cap, .int .i64 secs], .agg #[.int .i64 ag, .int .i64 aa, .int .i64 bg, .int .i64 ba, .bool two, .int .i64 sz, .int .i64 lv, .int .i64 bi, .int .u64 s0, .int .u64 s1, .int .u64 s2, .int .u64 s3]] _ _
  by_cases hc : 0 ≤ lv ∧ lv ≤ 3 ∧ 1 ≤ bi ∧ bi ≤ 4294967295
  · obtain ⟨x1, x2, x3, x4⟩ := hc
    have hD := Lib.hid (show decide (0 ≤ lv ∧ lv ≤ 3 ∧ 1 ≤ bi ∧ bi ≤ 4294967295) = true from decide_eq_true ⟨x1, x2, x3, x4⟩)
    have d1 : decide (lv < 0) = false := decide_eq_false (by omega)
    have d2 : decide (3 < lv) = false := decide_eq_false (by omega)
    have d3 : decide (bi < 1) = false := decide_eq_false (by omega)
    have d4 : decide (4294967295 < bi) = false := decide_eq_false (by omega)
    cases hmA : mayC gs secs ag aa sz
    · have HO := Lib.hid (cof_no ao n cap gs secs ag aa sz w0 HG.out kaa hmA)
      have HMA := Lib.hid hmA
      clear hmA
      go_enter Try.func63, Try.ntmps63
      go_wp2_with fail
      rw [← hw0]
      clear hw0
      go_wp2_with fail
      refine HO.out.mono ?_
      rintro e w1 ⟨rfl, hb1⟩
      have HB1 := Lib.hid (HB0.out.trans (hb1.mono HB0.out.size))
      clear hb1
      go_wp2_with fail
      go_ret
      exact ⟨FIN.out _ (by rw [HPR.out, HMA.out]; simp), HB1.out⟩
    · have ms := mayC_spec hmA
      obtain ⟨g, rfl⟩ : ∃ g' : Nat, ag = g' := ⟨ag.toNat, by omega⟩
      obtain ⟨a, rfl⟩ : ∃ a' : Nat, aa = a' := ⟨aa.toNat, by omega⟩
      obtain ⟨size, rfl⟩ : ∃ s' : Nat, sz = s' := ⟨sz.toNat, by omega⟩
      have HO := Lib.hid (cof_yes ao n cap gs secs g a size w0 HG.out hmA)
      have HMA := Lib.hid hmA
      clear hmA ms
      cases two
      · by_cases z1 : bg = 0 <;> by_cases z2 : ba = 0
        all_goals
          have Z1 := Lib.hid z1
          have Z2 := Lib.hid z2
          clear z1 z2
          go_enter Try.func63, Try.ntmps63
          go_wp2_with fail
          rw [← hw0]
          clear hw0
          go_wp2_with fail
          refine HO.out.mono ?_
          rintro e w1 ⟨v, rfl, _, hb1⟩
          have HB1 := Lib.hid (HB0.out.trans (hb1.mono HB0.out.size))
          clear c0 c1 c2 c3 c4 c5 c6 c7 c8 c9
          obtain ⟨c0, c1, c2, c3, c4, c5, c6, c7, c8, c9⟩ := HCE.out w1 hb1
          clear hb1
          have z1 := Z1.out
          have z2 := Z2.out
          go_wp2_with fail
          go_ret
          exact ⟨FIN.out _ (by rw [HPR.out, HMA.out, hD.out]; simp [z1, z2]), HB1.out⟩
      · cases hmB : mayC gs secs bg ba size
        · have HMB := Lib.hid hmB
          go_enter Try.func63, Try.ntmps63
          go_wp2_with fail
          rw [← hw0]
          clear hw0
          go_wp2_with fail
          refine HO.out.mono ?_
          rintro e w1 ⟨v, rfl, _, hb1⟩
          have HB1 := Lib.hid (HB0.out.trans (hb1.mono HB0.out.size))
          clear c0 c1 c2 c3 c4 c5 c6 c7 c8 c9
          obtain ⟨c0, c1, c2, c3, c4, c5, c6, c7, c8, c9⟩ := HCE.out w1 hb1
          have HO2 := Lib.hid (cof_no ao n cap gs secs bg ba size w1 (HG.out.below hb1) kba HMB.out)
          clear hb1 hmB
          go_wp2_with fail
          refine HO2.out.mono ?_
          rintro e w2 ⟨rfl, hb2⟩
          have HB2 := Lib.hid (HB1.out.trans (hb2.mono HB1.out.size))
          clear hb2
          go_wp2_with fail
          go_ret
          exact ⟨FIN.out _ (by rw [HPR.out, HMA.out, HMB.out]; simp), HB2.out⟩
        · have ms := mayC_spec hmB
          obtain ⟨g2, rfl⟩ : ∃ g' : Nat, bg = g' := ⟨bg.toNat, by omega⟩
          obtain ⟨a2, rfl⟩ : ∃ a' : Nat, ba = a' := ⟨ba.toNat, by omega⟩
          have HMB := Lib.hid hmB
          clear ms hmB
          go_enter Try.func63, Try.ntmps63
          go_wp2_with fail
          rw [← hw0]
          clear hw0
          go_wp2_with fail
          refine HO.out.mono ?_
          rintro e w1 ⟨v, rfl, _, hb1⟩
          have HB1 := Lib.hid (HB0.out.trans (hb1.mono HB0.out.size))
          have HL1 := Lib.hid hb1
          clear c0 c1 c2 c3 c4 c5 c6 c7 c8 c9
          obtain ⟨c0, c1, c2, c3, c4, c5, c6, c7, c8, c9⟩ := HCE.out w1 hb1
          have HO2 := Lib.hid (cof_yes ao n cap gs secs g2 a2 size w1 (HG.out.below hb1) HMB.out)
          clear hb1
          go_wp2_with fail
          refine HO2.out.mono ?_
          rintro e w2 ⟨v2, rfl, _, hb2⟩
          have HB2 := Lib.hid (HB1.out.trans (hb2.mono HB1.out.size))
          have HL2 := Lib.hid (HL1.out.trans (hb2.mono HL1.out.size))
          clear c0 c1 c2 c3 c4 c5 c6 c7 c8 c9
          obtain ⟨c0, c1, c2, c3, c4, c5, c6, c7, c8, c9⟩ := HCE.out w2 HL2.out
          have HAP := Lib.hid (papart_any ao n cap gs secs g a g2 a2 size w2 (HG.out.below HL2.out) HMA.out HMB.out)
          clear hb2
          go_wp2_with fail
          refine HAP.out.mono ?_
          rintro e w3 ⟨rfl, hb3⟩
          have HB3 := Lib.hid (HB2.out.trans (hb3.mono HB2.out.size))
          clear hb3
          go_wp2_with fail
          go_ret
          exact ⟨FIN.out _ (by rw [HPR.out, HMA.out, HMB.out, hD.out]; simp), HB3.out⟩
  · have hD := Lib.hid (show decide (0 ≤ lv ∧ lv ≤ 3 ∧ 1 ≤ bi ∧ bi ≤ 4294967295) = false from decide_eq_false hc)
    by_cases x1 : lv < 0
    · have d1 : decide (lv < 0) = true := decide_eq_true x1
      clear hc
      go_enter Try.func63, Try.ntmps63
      go_wp2_with fail
      go_ret
      exact ⟨FIN.out _ (by rw [HPR.out, hD.out]; simp), by rw [← hw0]; exact HB0.out⟩
    · have d1 : decide (lv < 0) = false := decide_eq_false x1
      by_cases x2 : 3 < lv
      · have d2 : decide (3 < lv) = true := decide_eq_true x2
        clear hc
        go_enter Try.func63, Try.ntmps63
        go_wp2_with fail
        go_ret
        exact ⟨FIN.out _ (by rw [HPR.out, hD.out]; simp), by rw [← hw0]; exact HB0.out⟩
      · have d2 : decide (3 < lv) = false := decide_eq_false x2
        by_cases x3 : bi < 1
        · have d3 : decide (bi < 1) = true := decide_eq_true x3
          clear hc
          go_enter Try.func63, Try.ntmps63
          go_wp2_with fail
          go_ret
          exact ⟨FIN.out _ (by rw [HPR.out, hD.out]; simp), by rw [← hw0]; exact HB0.out⟩
        · have d3 : decide (bi < 1) = false := decide_eq_false x3
          have x4 : 4294967295 < bi := by omega
          have d4 : decide (4294967295 < bi) = true := decide_eq_true x4
          clear hc
          go_enter Try.func63, Try.ntmps63
          go_wp2_with fail
          go_ret
          exact ⟨FIN.out _ (by rw [HPR.out, hD.out]; simp), by rw [← hw0]; exact HB0.out⟩
end Go.Proofs.Ytmnhdpojonlfhaa
