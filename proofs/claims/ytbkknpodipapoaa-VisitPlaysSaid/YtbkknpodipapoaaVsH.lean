/- health.Has, polderref19.Has, visit.Count. -/
import Derived.Test.YtbkknpodipapoaaVsDe
namespace Go.Proofs.Ytbkknpodipapoaa
open Go.RowKit
set_option linter.unusedSimpArgs false
attribute [local go_sem ↓] Go.wp_at_zero Go.wp_at_succ

/-- is a birth in a range? -/
def hasR (f t b : Int) : Bool := decide (1 ≤ f ∧ t ≤ 4294967295 ∧ f ≤ t ∧ f ≤ b ∧ b ≤ t)
/-- the range, put right -/
def rightR (f t : Int) : Int × Int := if f < 1 ∨ 4294967295 < t ∨ t < f then (0, 0) else (f, t)
set_option maxHeartbeats 800000 in
theorem right_any (f t : Int) (w : World) : Calls Try.prog 41 #[.agg #[.int .i64 f, .int .i64 t]] w fun e w' => e = .returned (.agg #[.int .i64 (rightR f t).1, .int .i64 (rightR f t).2]) ∧ Below w.heap.size w w' := by
  by_cases h1 : f < 1
  · have HV : Hid (rightR f t = (0, 0)) := Lib.hid (by unfold rightR; rw [if_pos (.inl h1)])
    have hb1 : decide (f < 1) = true := by simpa using h1
    rw [HV.out]
    clear h1
    go_enter Try.func41, Try.ntmps41
    go_wp2_with fail
    refine bodyPost_ret (results_cell1 rfl _ _ (w.heap.size + 1) 42 #[.int .i64 0, .int .i64 0] (0, 0) _ rfl (Blk.newAt (w := w.alloc _) 42 [.int .i64 0, .int .i64 0] (by simp)) Try.underlying42 rfl rfl) rfl ?_
    exact ⟨rfl, ((Below.refl _ _).alloc (Nat.le_refl _) _).alloc (by simp) _⟩
  · have hb1 : decide (f < 1) = false := by simpa using h1
    by_cases h2 : 4294967295 < t
    · have HV : Hid (rightR f t = (0, 0)) := Lib.hid (by unfold rightR; rw [if_pos (.inr (.inl h2))])
      have hb2 : decide (4294967295 < t) = true := by simpa using h2
      rw [HV.out]
      clear h1 h2
      go_enter Try.func41, Try.ntmps41
      go_wp2_with fail
      refine bodyPost_ret (results_cell1 rfl _ _ (w.heap.size + 1) 42 #[.int .i64 0, .int .i64 0] (0, 0) _ rfl (Blk.newAt (w := w.alloc _) 42 [.int .i64 0, .int .i64 0] (by simp)) Try.underlying42 rfl rfl) rfl ?_
      exact ⟨rfl, ((Below.refl _ _).alloc (Nat.le_refl _) _).alloc (by simp) _⟩
    · have hb2 : decide (4294967295 < t) = false := by simpa using h2
      by_cases h3 : t < f
      · have HV : Hid (rightR f t = (0, 0)) := Lib.hid (by unfold rightR; rw [if_pos (.inr (.inr h3))])
        have hb3 : decide (t < f) = true := by simpa using h3
        rw [HV.out]
        clear h1 h2 h3
        go_enter Try.func41, Try.ntmps41
        go_wp2_with fail
        refine bodyPost_ret (results_cell1 rfl _ _ (w.heap.size + 1) 42 #[.int .i64 0, .int .i64 0] (0, 0) _ rfl (Blk.newAt (w := w.alloc _) 42 [.int .i64 0, .int .i64 0] (by simp)) Try.underlying42 rfl rfl) rfl ?_
        exact ⟨rfl, ((Below.refl _ _).alloc (Nat.le_refl _) _).alloc (by simp) _⟩
      · have hb3 : decide (t < f) = false := by simpa using h3
        have HV : Hid (rightR f t = (f, t)) := Lib.hid (by unfold rightR; rw [if_neg (by omega)])
        rw [HV.out]
        clear h1 h2 h3
        go_enter Try.func41, Try.ntmps41
        go_wp2_with fail
        refine bodyPost_ret (results_cell1 rfl _ _ (w.heap.size + 1) 42 #[.int .i64 f, .int .i64 t] (0, 0) _ rfl (Blk.newAt (w := w.alloc _) 42 [.int .i64 f, .int .i64 t] (by simp)) Try.underlying42 rfl rfl) rfl ?_
        exact ⟨rfl, ((Below.refl _ _).alloc (Nat.le_refl _) _).alloc (by simp) _⟩
theorem hasR_right (f t b : Int) : (decide (0 < b) && (decide ((rightR f t).1 ≤ b) && decide (b ≤ (rightR f t).2))) = hasR f t b := by
  unfold hasR rightR
  rw [Bool.eq_iff_iff]
  simp only [Bool.and_eq_true, decide_eq_true_eq]
  split
  · simp only []; omega
  · simp only []; omega
set_option maxHeartbeats 800000 in
theorem has_any (f t b : Int) (w : World) : Calls Try.prog 34 #[.agg #[.int .i64 f, .int .i64 t], .int .i64 b] w fun e w' => e = .returned (.bool (hasR f t b)) ∧ Below w.heap.size w w' := by
  have HR := Lib.hid (fun W => right_any f t W)
  have HV := Lib.hid (hasR_right f t b)
  obtain ⟨f', hf'⟩ : ∃ x, x = (rightR f t).1 := ⟨_, rfl⟩
  obtain ⟨t', ht'⟩ : ∃ x, x = (rightR f t).2 := ⟨_, rfl⟩
  rw [← hf', ← ht'] at HR HV
  rw [← HV.out]
  clear HV hf' ht'
  have HB0 := Lib.hid (Below.alloc (Below.refl w.heap.size w) (Nat.le_refl _) (.cells #[.int .i64 f, .int .i64 t] 42))
  have HK0 : Hid (Blk (w.alloc (.cells #[.int .i64 f, .int .i64 t] 42)) w.heap.size 42 [.int .i64 f, .int .i64 t]) := Lib.hid (Blk.new _ _ _)
  by_cases h1 : 0 < b
  · have d1 : decide (0 < b) = true := by simpa using h1
    by_cases h2 : f' ≤ b
    · have d2 : decide (f' ≤ b) = true := by simpa using h2
      by_cases h3 : b ≤ t'
      · have d3 : decide (b ≤ t') = true := by simpa using h3
        have e : (decide (0 < b) && (decide (f' ≤ b) && decide (b ≤ t'))) = true := by simp [h1, h2, h3]
        rw [e]
        clear e
        clear h1 h2 h3
        go_enter Try.func34, Try.ntmps34
        go_wp2_with fail
        refine (HR.out _).mono ?_
        rintro e w1 ⟨rfl, hb1⟩
        have K1 := HK0.out.below hb1
        have c0 := K1.cell 0
        have c1 := K1.cell 1
        have f0 := K1.frozen 0
        have f1 := K1.frozen 1
        have B1 := Lib.hid (HB0.out.trans (hb1.mono HB0.out.size))
        clear K1 hb1
        go_wp2_with fail
        go_ret
        exact ⟨rfl, (B1.out.setCell (p := ⟨w.heap.size, 0, none⟩) (Nat.le_refl _) _).setCell (p := ⟨w.heap.size, 1, none⟩) (Nat.le_refl _) _⟩
      · have d3 : decide (b ≤ t') = false := by simpa using h3
        have e : (decide (0 < b) && (decide (f' ≤ b) && decide (b ≤ t'))) = false := by simp [h3]
        rw [e]
        clear e
        clear h1 h2 h3
        go_enter Try.func34, Try.ntmps34
        go_wp2_with fail
        refine (HR.out _).mono ?_
        rintro e w1 ⟨rfl, hb1⟩
        have K1 := HK0.out.below hb1
        have c0 := K1.cell 0
        have c1 := K1.cell 1
        have f0 := K1.frozen 0
        have f1 := K1.frozen 1
        have B1 := Lib.hid (HB0.out.trans (hb1.mono HB0.out.size))
        clear K1 hb1
        go_wp2_with fail
        go_ret
        exact ⟨rfl, (B1.out.setCell (p := ⟨w.heap.size, 0, none⟩) (Nat.le_refl _) _).setCell (p := ⟨w.heap.size, 1, none⟩) (Nat.le_refl _) _⟩
    · have d2 : decide (f' ≤ b) = false := by simpa using h2
      have e : (decide (0 < b) && (decide (f' ≤ b) && decide (b ≤ t'))) = false := by simp [h2]
      rw [e]
      clear e
      clear h1 h2
      go_enter Try.func34, Try.ntmps34
      go_wp2_with fail
      refine (HR.out _).mono ?_
      rintro e w1 ⟨rfl, hb1⟩
      have K1 := HK0.out.below hb1
      have c0 := K1.cell 0
      have c1 := K1.cell 1
      have f0 := K1.frozen 0
      have f1 := K1.frozen 1
      have B1 := Lib.hid (HB0.out.trans (hb1.mono HB0.out.size))
      clear K1 hb1
      go_wp2_with fail
      go_ret
      exact ⟨rfl, (B1.out.setCell (p := ⟨w.heap.size, 0, none⟩) (Nat.le_refl _) _).setCell (p := ⟨w.heap.size, 1, none⟩) (Nat.le_refl _) _⟩
  · have d1 : decide (0 < b) = false := by simpa using h1
    have e : (decide (0 < b) && (decide (f' ≤ b) && decide (b ≤ t'))) = false := by simp [h1]
    rw [e]
    clear e
    clear h1
    go_enter Try.func34, Try.ntmps34
    go_wp2_with fail
    refine (HR.out _).mono ?_
    rintro e w1 ⟨rfl, hb1⟩
    have K1 := HK0.out.below hb1
    have c0 := K1.cell 0
    have c1 := K1.cell 1
    have f0 := K1.frozen 0
    have f1 := K1.frozen 1
    have B1 := Lib.hid (HB0.out.trans (hb1.mono HB0.out.size))
    clear K1 hb1
    go_wp2_with fail
    go_ret
    exact ⟨rfl, (B1.out.setCell (p := ⟨w.heap.size, 0, none⟩) (Nat.le_refl _) _).setCell (p := ⟨w.heap.size, 1, none⟩) (Nat.le_refl _) _⟩
set_option maxHeartbeats 800000 in
theorem count1_any (p : PtrT) (cb : Nat) (f t : Int) (w : World) (hc : Blk w cb 42 [.int .i64 f, .int .i64 t]) :
    Calls Try.prog 33 #[.agg (encPtr p).toArray, .pointer (some ⟨cb, 0, none⟩)] w fun e w' => e = .returned (.bool (!hasR f t p.birth)) ∧ Below w.heap.size w w' := by
  have HH := Lib.hid (fun W => has_any f t p.birth W)
  obtain ⟨p0, p1, p2, p3, p4, p5, p6, p7, p8, p9, p10, p11⟩ := p
  dsimp only at HH ⊢
  have hb0 : Below w.heap.size w (w.alloc (.cells #[.int .i64 p0, .int .i64 p1, .int .i64 p2, .int .i64 p3, .bool p4, .int .i64 p5, .int .i64 p6, .int .i64 p7, .int .u64 p8, .int .u64 p9, .int .u64 p10, .int .u64 p11] 30)) := (Below.refl _ _).alloc (Nat.le_refl _) _
  have c0 := (hc.alloc (.cells #[.int .i64 p0, .int .i64 p1, .int .i64 p2, .int .i64 p3, .bool p4, .int .i64 p5, .int .i64 p6, .int .i64 p7, .int .u64 p8, .int .u64 p9, .int .u64 p10, .int .u64 p11] 30)).cell 0
  have c1 := (hc.alloc (.cells #[.int .i64 p0, .int .i64 p1, .int .i64 p2, .int .i64 p3, .bool p4, .int .i64 p5, .int .i64 p6, .int .i64 p7, .int .u64 p8, .int .u64 p9, .int .u64 p10, .int .u64 p11] 30)).cell 1
  have HB := Lib.hid hb0
  clear hb0 hc
  show Calls _ _ #[.agg #[.int .i64 p0, .int .i64 p1, .int .i64 p2, .int .i64 p3, .bool p4, .int .i64 p5, .int .i64 p6, .int .i64 p7, .int .u64 p8, .int .u64 p9, .int .u64 p10, .int .u64 p11], _] _ _
  go_enter Try.func33, Try.ntmps33
  go_wp2_with fail
  refine (HH.out _).mono ?_
  rintro e w1 ⟨rfl, hb1⟩
  have B1 := Lib.hid (HB.out.trans (hb1.mono HB.out.size))
  clear hb1
  go_wp2_with fail
  go_ret
  exact ⟨rfl, B1.out⟩
/-- the blocks in order in a range -/
def rangeL (l : List PtrT) (f t : Int) : List PtrT := (ordL l).filter fun p => hasR f t p.birth
set_option maxRecDepth 100000 in
set_option maxHeartbeats 1600000 in
theorem count_any (ao : Option Addr) (n cap : Nat) (l : List PtrT) (f t : Int) (w : World) (h : PSl w ao n cap l) (hn : n ≤ 500) :
    Calls Try.prog 17 #[.slice ao n cap, .agg #[.int .i64 f, .int .i64 t]] w fun e w' => e = .returned (.int .i64 ((rangeL l f t).length : Nat)) ∧ Below w.heap.size w w' := by
  have BA := Lib.hid ((Below.refl w.heap.size w).alloc (Nat.le_refl _) (.cells #[.int .i64 f, .int .i64 t] 42))
  have HO := Lib.hid (vorder_any ao n cap l _ (h.below BA.out) hn)
  have HC : Hid (Blk (w.alloc (.cells #[.int .i64 f, .int .i64 t] 42)) w.heap.size 42 [.int .i64 f, .int .i64 t]) := Lib.hid (Blk.new _ _ _)
  have hle : (ordL l).length ≤ 1000 := by have := ordL_length l; have := h.len; omega
  clear h
  go_enter Try.func17, Try.ntmps17
  go_wp2_with fail
  refine HO.out.mono ?_
  rintro e w1 ⟨v, rfl, hp, hb1⟩
  have HC1 := Lib.hid (HC.out.below hb1)
  have HB1 := Lib.hid (BA.out.trans (hb1.mono BA.out.size))
  have hvl : ∀ g, v.ownBlock = some g → (w.alloc (.cells #[.int .i64 f, .int .i64 t] 42)).heap.size ≤ g := fun g hg => (hp.lt g hg).1
  have HD := Lib.hid (deleteRow_any 33 #[.pointer (some ⟨w.heap.size, 0, none⟩)] (fun x => !hasR f t x.birth) (ordL l) v _ w1 hp hle (fun args W => by go_simp) (fun x W hW => by
    refine count1_any x w.heap.size f t W ?_
    unfold Blk
    rw [hW.block _ HC1.out.lt (fun e => by have := hvl _ e.symm; simp at this; omega)]
    exact HC1.out))
  have HBF := Lib.hid (fun w' (hg : w1.grownBy w' v.ownBlock) => below_own (base := (w.alloc (.cells #[.int .i64 f, .int .i64 t] 42)).heap.size) HB1.out hp hg HB1.out.size BA.out.size)
  have HE : Hid ((ordL l).filter (fun x => !(!hasR f t x.birth)) = rangeL l f t) := Lib.hid (by unfold rangeL; simp only [Bool.not_not])
  clear hp hb1 hvl HO
  go_wp2_with fail
  refine HD.out.mono ?_
  rintro e w2 ⟨v', rfl, hp2, hg2⟩
  rw [HE.out] at hp2
  have HB2 := Lib.hid (HBF.out w2 hg2)
  obtain ⟨a', c', rfl, _⟩ := psl_of_row hp2
  clear hp2 hg2
  go_wp2_with fail
  go_ret
  exact ⟨rfl, HB2.out⟩
def R19Right (f t : Int) (w : World) (e : Ending) (w' : World) : Prop := ∃ r, e = .returned (.bool r) ∧ w' = w ∧ Hid (r = true ↔ (0 ≤ f ∧ t ≤ 4294967295 ∧ f ≤ t ∧ (f = 0 ↔ t = 0)))
def R19Has (f t b : Int) (w : World) (e : Ending) (w' : World) : Prop := e = .returned (.bool (hasR f t b)) ∧ w' = w
theorem r19right_any (f t : Int) (w : World) : Calls Try.prog 32 #[.int .i64 f, .int .i64 t] w (R19Right f t w) := by
  go_enter Try.func32, Try.ntmps32
  go_wp2_with fail
  all_goals go_ret
  · refine ⟨_, rfl, rfl, Lib.hid ?_⟩
    by_cases a : f = 0
    · by_cases b : t = 0
      · simp [a, b]
      · simp [a, b]
    · by_cases b : t = 0
      · simp [a, b]
      · have a' : (f == 0) = false := by simpa using a
        have b' : (t == 0) = false := by simpa using b
        rw [a', b']
        exact ⟨fun _ => ⟨by assumption, by assumption, by assumption, ⟨fun h => absurd h a, fun h => absurd h b⟩⟩, fun _ => rfl⟩
  · exact ⟨_, rfl, rfl, Lib.hid (by simp; omega)⟩
  · exact ⟨_, rfl, rfl, Lib.hid (by simp; omega)⟩
  · exact ⟨_, rfl, rfl, Lib.hid (by simp; omega)⟩
theorem r19has_any (f t b : Int) (w : World) : Calls Try.prog 16 #[.int .i64 f, .int .i64 t, .int .i64 b] w (R19Has f t b w) := by
  have HRi := Lib.hid (fun W => r19right_any f t W)
  have HK : Hid (∀ x : Bool, (x = true ↔ (1 ≤ f ∧ t ≤ 4294967295 ∧ f ≤ t ∧ f ≤ b ∧ b ≤ t)) → R19Has f t b w (.returned (.bool x)) w) := Lib.hid (fun x h => by
    refine ⟨ret_bool ?_, rfl⟩
    unfold hasR
    rw [Bool.eq_iff_iff, decide_eq_true_eq]
    exact h)
  go_enter Try.func16, Try.ntmps16
  go_wp2_with fail
  refine (HRi.out _).mono ?_
  rintro e w1 ⟨r, rfl, rfl, hr⟩
  cases r with
  | false =>
    go_wp2_with fail
    go_ret
    exact HK.out _ (by have := hr.out; simp at this ⊢; omega)
  | true =>
    go_wp2_with fail
    all_goals go_ret
    all_goals refine HK.out _ ?_
    all_goals have := hr.out
    all_goals simp at this ⊢
    all_goals omega
end Go.Proofs.Ytbkknpodipapoaa
