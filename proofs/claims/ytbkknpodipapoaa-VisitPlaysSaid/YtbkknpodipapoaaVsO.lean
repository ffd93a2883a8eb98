/- The order of marks: cmp.Compare, cmp.Or, visit.order, visit.Of and the closures of visit.Order. -/
import Derived.Test.YtbkknpodipapoaaVsT
import Derived.Deep.RegionHeld3
namespace Go.Proofs.Ytbkknpodipapoaa
open Go.RowKit
set_option linter.unusedSimpArgs false
attribute [local go_sem ↓] Go.wp_at_zero Go.wp_at_succ

/-- a mark: birth, group, sector -/
structure MarkT where
  b : Int
  g : Int
  a : Int
  deriving DecidableEq
def encM (m : MarkT) : List Value := [.int .i64 m.b, .int .i64 m.g, .int .i64 m.a]
def markOf (p : PtrT) : MarkT := ⟨p.birth, p.ag, p.aa⟩
def cmpI (x y : Int) : Int := if x < y then -1 else if y < x then 1 else 0
def orI (x y z : Int) : Int := if x = 0 then (if y = 0 then z else y) else x
def ordM (x y : MarkT) : Int := orI (cmpI x.b y.b) (cmpI x.g y.g) (cmpI x.a y.a)
/-- comes ahead -/
def ltM (x y : MarkT) : Prop := x.b < y.b ∨ x.b = y.b ∧ (x.g < y.g ∨ x.g = y.g ∧ x.a < y.a)
instance (x y : MarkT) : Decidable (ltM x y) := by unfold ltM; exact inferInstance
theorem cmpI_cases (x y : Int) : x < y ∧ cmpI x y = -1 ∨ y < x ∧ cmpI x y = 1 ∨ x = y ∧ cmpI x y = 0 := by
  unfold cmpI
  rcases Int.lt_trichotomy x y with h | h | h
  · left; rw [if_pos h]; exact ⟨h, rfl⟩
  · right; right; rw [if_neg (by omega), if_neg (by omega)]; exact ⟨h, rfl⟩
  · right; left; rw [if_neg (by omega), if_pos h]; exact ⟨h, rfl⟩
theorem ordM_cases (x y : MarkT) : ltM x y ∧ ordM x y = -1 ∨ ltM y x ∧ ordM x y = 1 ∨ x = y ∧ ordM x y = 0 := by
  obtain ⟨xb, xg, xa⟩ := x
  obtain ⟨yb, yg, ya⟩ := y
  unfold ltM ordM orI
  simp only [MarkT.mk.injEq]
  rcases cmpI_cases xb yb with ⟨h, e⟩ | ⟨h, e⟩ | ⟨h, e⟩
  · left; rw [e, if_neg (by omega)]; exact ⟨.inl h, rfl⟩
  · right; left; rw [e, if_neg (by omega)]; exact ⟨.inl h, rfl⟩
  · rw [e, if_pos rfl]
    rcases cmpI_cases xg yg with ⟨h2, e2⟩ | ⟨h2, e2⟩ | ⟨h2, e2⟩
    · left; rw [e2, if_neg (by omega)]; exact ⟨.inr ⟨h, .inl h2⟩, rfl⟩
    · right; left; rw [e2, if_neg (by omega)]; exact ⟨.inr ⟨h.symm, .inl h2⟩, rfl⟩
    · rw [e2, if_pos rfl]
      rcases cmpI_cases xa ya with ⟨h3, e3⟩ | ⟨h3, e3⟩ | ⟨h3, e3⟩
      · left; exact ⟨.inr ⟨h, .inr ⟨h2, h3⟩⟩, e3⟩
      · right; left; exact ⟨.inr ⟨h.symm, .inr ⟨h2.symm, h3⟩⟩, e3⟩
      · right; right; exact ⟨⟨h, h2, h3⟩, e3⟩
theorem ltM_asymm {x y : MarkT} (h : ltM x y) : ¬ ltM y x := by unfold ltM at *; omega
theorem ltM_irrefl (x : MarkT) : ¬ ltM x x := fun h => ltM_asymm h h
theorem ltM_trans {x y z : MarkT} (h : ltM x y) (k : ltM y z) : ltM x z := by unfold ltM at *; omega
theorem ltM_total {x y : MarkT} (h : x ≠ y) : ltM x y ∨ ltM y x := by
  rcases ordM_cases x y with h1 | h1 | h1
  · exact .inl h1.1
  · exact .inr h1.1
  · exact absurd h1.1 h
theorem ordM_neg {x y : MarkT} : ordM x y < 0 ↔ ltM x y := by
  rcases ordM_cases x y with ⟨h, e⟩ | ⟨h, e⟩ | ⟨h, e⟩
  · rw [e]; exact ⟨fun _ => h, fun _ => by decide⟩
  · rw [e]; exact ⟨fun h1 => by omega, fun h1 => absurd h1 (ltM_asymm h)⟩
  · rw [e, h]; exact ⟨fun h1 => by omega, fun h1 => absurd h1 (ltM_irrefl _)⟩
theorem ordM_pos {x y : MarkT} : 0 < ordM x y ↔ ltM y x := by
  rcases ordM_cases x y with ⟨h, e⟩ | ⟨h, e⟩ | ⟨h, e⟩
  · rw [e]; exact ⟨fun h1 => by omega, fun h1 => absurd h1 (ltM_asymm h)⟩
  · rw [e]; exact ⟨fun _ => h, fun _ => by decide⟩
  · rw [e, h]; exact ⟨fun h1 => by omega, fun h1 => absurd h1 (ltM_irrefl _)⟩
/-- the comparison of the things of a list -/
def cmpP (el : Nat → PtrT) (x y : Nat) : Int := ordM (markOf (el x)) (markOf (el y))
theorem cmpP_swo (el : Nat → PtrT) : SwoL (cmpP el) := by
  refine ⟨fun x y h k => ?_, fun x y z h k l => ?_⟩
  · exact ltM_asymm (ordM_neg.1 h) (ordM_neg.1 k)
  · have h1 := fun q => h (ordM_neg.2 q)
    have k1 := fun q => k (ordM_neg.2 q)
    have l1 := ordM_neg.1 l
    by_cases e : markOf (el y) = markOf (el x)
    · rw [e] at k1; exact k1 l1
    · rcases ltM_total e with q | q
      · exact k1 (ltM_trans q l1)
      · exact h1 q

theorem isNaN_any (x : Int) (w : World) : Calls Try.prog 44 #[.int .i64 x] w fun e w' => e = .returned (.bool false) ∧ w' = w := by
  go_enter Try.func44, Try.ntmps44
  go_wp2_with fail
  go_ret
  exact ⟨by simp, rfl⟩
theorem compare_any (x y : Int) (w : World) : Calls Try.prog 39 #[.int .i64 x, .int .i64 y] w fun e w' => e = .returned (.int .i64 (cmpI x y)) ∧ w' = w := by
  have HN := Lib.hid (fun z => isNaN_any z w)
  rcases Int.lt_trichotomy x y with h | h | h
  · have HE : Hid (cmpI x y = -1) := by show _ = _; unfold cmpI; rw [if_pos h]
    go_enter Try.func39, Try.ntmps39
    go_wp2_with fail
    refine (HN.out _).mono ?_
    rintro e w1 ⟨rfl, rfl⟩
    go_wp2_with fail
    refine (HN.out _).mono ?_
    rintro e w1 ⟨rfl, rfl⟩
    go_wp2_with fail
    go_ret
    exact ⟨by rw [HE.out]; rfl, rfl⟩
  · have HE : Hid (cmpI x y = 0) := by show _ = _; unfold cmpI; rw [if_neg (by omega), if_neg (by omega)]
    subst h
    go_enter Try.func39, Try.ntmps39
    go_wp2_with fail
    refine (HN.out _).mono ?_
    rintro e w1 ⟨rfl, rfl⟩
    go_wp2_with fail
    refine (HN.out _).mono ?_
    rintro e w1 ⟨rfl, rfl⟩
    go_wp2_with fail
    go_ret
    exact ⟨by rw [HE.out]; rfl, rfl⟩
  · have HE : Hid (cmpI x y = 1) := by show _ = _; unfold cmpI; rw [if_neg (by omega), if_pos h]
    have hn : ¬ x < y := by omega
    go_enter Try.func39, Try.ntmps39
    go_wp2_with fail
    refine (HN.out _).mono ?_
    rintro e w1 ⟨rfl, rfl⟩
    go_wp2_with fail
    refine (HN.out _).mono ?_
    rintro e w1 ⟨rfl, rfl⟩
    go_wp2_with fail
    go_ret
    exact ⟨by rw [HE.out]; rfl, rfl⟩
set_option maxHeartbeats 800000 in
theorem or3_any (x y z : Int) (g cap : Nat) (w : World) (h0 : w.cell? ⟨g, 0, none⟩ = some (.int .i64 x)) (h1 : w.cell? ⟨g, 1, none⟩ = some (.int .i64 y)) (h2 : w.cell? ⟨g, 2, none⟩ = some (.int .i64 z)) :
    Calls Try.prog 38 #[.slice (some ⟨g, 0, none⟩) 3 cap] w fun e w' => e = .returned (.int .i64 (orI x y z)) ∧ w' = w := by
  by_cases hx : x = 0
  · subst hx
    by_cases hy : y = 0
    · subst hy
      by_cases hz : z = 0
      · subst hz
        go_enter Try.func38, Try.ntmps38
        go_wp2_with fail
        refine wp_loop_rounds 4 ?_
        rw [rounds_succ]
        go_wp2_with fail
        rw [rounds_succ]
        go_wp2_with fail
        rw [rounds_succ]
        go_wp2_with fail
        rw [rounds_succ]
        go_wp2_with fail
        go_ret
        exact ⟨rfl, rfl⟩
      · have HE : Hid (orI 0 0 z = z) := rfl
        go_enter Try.func38, Try.ntmps38
        go_wp2_with fail
        refine wp_loop_rounds 3 ?_
        rw [rounds_succ]
        go_wp2_with fail
        rw [rounds_succ]
        go_wp2_with fail
        rw [rounds_succ]
        go_wp2_with fail
        go_ret
        exact ⟨by rw [HE.out]; rfl, rfl⟩
    · have HE : Hid (orI 0 y z = y) := by show _ = _; unfold orI; rw [if_pos rfl, if_neg hy]
      go_enter Try.func38, Try.ntmps38
      go_wp2_with fail
      refine wp_loop_rounds 2 ?_
      rw [rounds_succ]
      go_wp2_with fail
      rw [rounds_succ]
      go_wp2_with fail
      go_ret
      exact ⟨by rw [HE.out]; rfl, rfl⟩
  · have HE : Hid (orI x y z = x) := by show _ = _; unfold orI; rw [if_neg hx]
    go_enter Try.func38, Try.ntmps38
    go_wp2_with fail
    refine wp_loop_rounds 1 ?_
    rw [rounds_succ]
    go_wp2_with fail
    go_ret
    exact ⟨by rw [HE.out]; rfl, rfl⟩
set_option maxHeartbeats 1600000 in
theorem order_any (x y : MarkT) (w : World) : Calls Try.prog 26 #[.agg (encM x).toArray, .agg (encM y).toArray] w fun e w' => e = .returned (.int .i64 (ordM x y)) ∧ Below w.heap.size w w' := by
  have HE : Hid (ordM x y = orI (cmpI x.b y.b) (cmpI x.g y.g) (cmpI x.a y.a)) := rfl
  obtain ⟨xb, xg, xa⟩ := x
  obtain ⟨yb, yg, ya⟩ := y
  dsimp only at HE
  obtain ⟨r0, hr0⟩ : ∃ r, r = cmpI xb yb := ⟨_, rfl⟩
  obtain ⟨r1, hr1⟩ : ∃ r, r = cmpI xg yg := ⟨_, rfl⟩
  obtain ⟨r2, hr2⟩ : ∃ r, r = cmpI xa ya := ⟨_, rfl⟩
  have HC0 : Hid (∀ W, Calls Try.prog 39 #[.int .i64 xb, .int .i64 yb] W fun e w' => e = .returned (.int .i64 r0) ∧ w' = W) := Lib.hid (fun W => by rw [hr0]; exact compare_any _ _ W)
  have HC1 : Hid (∀ W, Calls Try.prog 39 #[.int .i64 xg, .int .i64 yg] W fun e w' => e = .returned (.int .i64 r1) ∧ w' = W) := Lib.hid (fun W => by rw [hr1]; exact compare_any _ _ W)
  have HC2 : Hid (∀ W, Calls Try.prog 39 #[.int .i64 xa, .int .i64 ya] W fun e w' => e = .returned (.int .i64 r2) ∧ w' = W) := Lib.hid (fun W => by rw [hr2]; exact compare_any _ _ W)
  rw [← hr0, ← hr1, ← hr2] at HE
  clear hr0 hr1 hr2
  rw [HE.out]
  clear HE
  show Calls _ _ #[.agg #[.int .i64 xb, .int .i64 xg, .int .i64 xa], .agg #[.int .i64 yb, .int .i64 yg, .int .i64 ya]] _ _
  go_enter Try.func26, Try.ntmps26
  go_wp2_with fail
  have K0 : Hid (Blk ((w.alloc (.cells #[.int .i64 xb, .int .i64 xg, .int .i64 xa] 34)).alloc (.cells #[.int .i64 yb, .int .i64 yg, .int .i64 ya] 34)) w.heap.size 34 [.int .i64 xb, .int .i64 xg, .int .i64 xa]) := Lib.hid ((Blk.new w _ _).alloc _)
  have K1 : Hid (Blk ((w.alloc (.cells #[.int .i64 xb, .int .i64 xg, .int .i64 xa] 34)).alloc (.cells #[.int .i64 yb, .int .i64 yg, .int .i64 ya] 34)) (w.heap.size + 1) 34 [.int .i64 yb, .int .i64 yg, .int .i64 ya]) := Lib.hid (Blk.newAt _ _ (by simp))
  have B0 : Hid (Below w.heap.size w ((w.alloc (.cells #[.int .i64 xb, .int .i64 xg, .int .i64 xa] 34)).alloc (.cells #[.int .i64 yb, .int .i64 yg, .int .i64 ya] 34))) := Lib.hid (((Below.refl _ _).alloc (Nat.le_refl _) _).alloc (by simp) _)
  generalize ((w.alloc (.cells #[.int .i64 xb, .int .i64 xg, .int .i64 xa] 34)).alloc (.cells #[.int .i64 yb, .int .i64 yg, .int .i64 ya] 34)) = w1 at K0 K1 B0 ⊢
  have N1 := Lib.hid (Blk.new w1 3 [.int .i64 r0, .int .i64 r1, .int .i64 r2])
  have HO := Lib.hid (fun (g : Nat) (W : World) (q0 : W.cell? ⟨g, 0, none⟩ = some (.int .i64 r0)) q1 q2 => or3_any r0 r1 r2 g 3 W q0 q1 q2)
  refine wp_region_held_drew (S := fun w' => Hid (Blk w' w.heap.size 34 [.int .i64 xb, .int .i64 xg, .int .i64 xa]) ∧ Hid (Blk w' (w.heap.size + 1) 34 [.int .i64 yb, .int .i64 yg, .int .i64 ya])) (by kernel_rfl) ⟨K0, K1⟩ (fun hS0 => ?_)
  refine wpAnyH_take (i := 0) (oi := ?oip0) (v := ?vp0) ?hip0 ?hsp0 ?hfp0 ?hrp0 ?hQp0 ?hyp0 ?hSp0 ?hp0
  case hip0 => (simp only [List.getElem?_toArray, List.getElem?_cons_succ, List.getElem?_cons_zero]; rfl)
  case hsp0 => kernel_rfl
  case hfp0 => kernel_rfl
  case hrp0 => kernel_rfl
  case hSp0 => assumption
  case hyp0 => refine Or.inl ⟨by kernel_rfl, ?_⟩; (intro w hSw; have a0 := hSw.1.out.cell 0; have a1 := hSw.1.out.cell 1; have a2 := hSw.1.out.cell 2; have b0 := hSw.2.out.cell 0; have b1 := hSw.2.out.cell 1; have b2 := hSw.2.out.cell 2; go_simp; try with_reducible rfl)
  case hQp0 => exact fun _ _ _ h => h
  try simp only [Act.put, List.setIfInBounds_toArray, List.set_cons_zero, List.set_cons_succ]
  refine wpAnyH_take (i := 1) (oi := ?oip1) (v := ?vp1) ?hip1 ?hsp1 ?hfp1 ?hrp1 ?hQp1 ?hyp1 ?hSp1 ?hp1
  case hip1 => (simp only [List.getElem?_toArray, List.getElem?_cons_succ, List.getElem?_cons_zero]; rfl)
  case hsp1 => kernel_rfl
  case hfp1 => kernel_rfl
  case hrp1 => kernel_rfl
  case hSp1 => assumption
  case hyp1 => refine Or.inl ⟨by kernel_rfl, ?_⟩; (intro w hSw; have a0 := hSw.1.out.cell 0; have a1 := hSw.1.out.cell 1; have a2 := hSw.1.out.cell 2; have b0 := hSw.2.out.cell 0; have b1 := hSw.2.out.cell 1; have b2 := hSw.2.out.cell 2; go_simp; try with_reducible rfl)
  case hQp1 => exact fun _ _ _ h => h
  try simp only [Act.put, List.setIfInBounds_toArray, List.set_cons_zero, List.set_cons_succ]
  refine wpAnyH_take (i := 2) (oi := ?oip2) (v := ?vp2) ?hip2 ?hsp2 ?hfp2 ?hrp2 ?hQp2 ?hyp2 ?hSp2 ?hp2
  case hip2 => (simp only [List.getElem?_toArray, List.getElem?_cons_succ, List.getElem?_cons_zero]; rfl)
  case hsp2 => kernel_rfl
  case hfp2 => kernel_rfl
  case hrp2 => kernel_rfl
  case hSp2 => assumption
  case hyp2 => refine Or.inl ⟨by kernel_rfl, ?_⟩; (intro w hSw; have a0 := hSw.1.out.cell 0; have a1 := hSw.1.out.cell 1; have a2 := hSw.1.out.cell 2; have b0 := hSw.2.out.cell 0; have b1 := hSw.2.out.cell 1; have b2 := hSw.2.out.cell 2; go_simp; try with_reducible rfl)
  case hQp2 => exact fun _ _ _ h => h
  try simp only [Act.put, List.setIfInBounds_toArray, List.set_cons_zero, List.set_cons_succ]
  refine wpAnyH_take (i := 3) (oi := ?oip3) (v := ?vp3) ?hip3 ?hsp3 ?hfp3 ?hrp3 ?hQp3 ?hyp3 ?hSp3 ?hp3
  case hip3 => (simp only [List.getElem?_toArray, List.getElem?_cons_succ, List.getElem?_cons_zero]; rfl)
  case hsp3 => kernel_rfl
  case hfp3 => kernel_rfl
  case hrp3 => kernel_rfl
  case hSp3 => assumption
  case hyp3 => refine Or.inl ⟨by kernel_rfl, ?_⟩; (intro w hSw; have a0 := hSw.1.out.cell 0; have a1 := hSw.1.out.cell 1; have a2 := hSw.1.out.cell 2; have b0 := hSw.2.out.cell 0; have b1 := hSw.2.out.cell 1; have b2 := hSw.2.out.cell 2; go_simp; try with_reducible rfl)
  case hQp3 => exact fun _ _ _ h => h
  try simp only [Act.put, List.setIfInBounds_toArray, List.set_cons_zero, List.set_cons_succ]
  refine wpAnyH_take (i := 5) (oi := ?oip5) (v := ?vp5) ?hip5 ?hsp5 ?hfp5 ?hrp5 ?hQp5 ?hyp5 ?hSp5 ?hp5
  case hip5 => (simp only [List.getElem?_toArray, List.getElem?_cons_succ, List.getElem?_cons_zero]; rfl)
  case hsp5 => kernel_rfl
  case hfp5 => kernel_rfl
  case hrp5 => kernel_rfl
  case hSp5 => assumption
  case hyp5 => refine Or.inl ⟨by kernel_rfl, ?_⟩; (intro w hSw; have a0 := hSw.1.out.cell 0; have a1 := hSw.1.out.cell 1; have a2 := hSw.1.out.cell 2; have b0 := hSw.2.out.cell 0; have b1 := hSw.2.out.cell 1; have b2 := hSw.2.out.cell 2; go_simp; try with_reducible rfl)
  case hQp5 => exact fun _ _ _ h => h
  try simp only [Act.put, List.setIfInBounds_toArray, List.set_cons_zero, List.set_cons_succ]
  refine wpAnyH_take (i := 6) (oi := ?oip6) (v := ?vp6) ?hip6 ?hsp6 ?hfp6 ?hrp6 ?hQp6 ?hyp6 ?hSp6 ?hp6
  case hip6 => (simp only [List.getElem?_toArray, List.getElem?_cons_succ, List.getElem?_cons_zero]; rfl)
  case hsp6 => kernel_rfl
  case hfp6 => kernel_rfl
  case hrp6 => kernel_rfl
  case hSp6 => assumption
  case hyp6 => refine Or.inl ⟨by kernel_rfl, ?_⟩; (intro w hSw; have a0 := hSw.1.out.cell 0; have a1 := hSw.1.out.cell 1; have a2 := hSw.1.out.cell 2; have b0 := hSw.2.out.cell 0; have b1 := hSw.2.out.cell 1; have b2 := hSw.2.out.cell 2; go_simp; try with_reducible rfl)
  case hQp6 => exact fun _ _ _ h => h
  try simp only [Act.put, List.setIfInBounds_toArray, List.set_cons_zero, List.set_cons_succ]
  refine wpAnyH_take (i := 7) (oi := ?oip7) (v := ?vp7) ?hip7 ?hsp7 ?hfp7 ?hrp7 ?hQp7 ?hyp7 ?hSp7 ?hp7
  case hip7 => (simp only [List.getElem?_toArray, List.getElem?_cons_succ, List.getElem?_cons_zero]; rfl)
  case hsp7 => kernel_rfl
  case hfp7 => kernel_rfl
  case hrp7 => kernel_rfl
  case hSp7 => assumption
  case hyp7 => refine Or.inl ⟨by kernel_rfl, ?_⟩; (intro w hSw; have a0 := hSw.1.out.cell 0; have a1 := hSw.1.out.cell 1; have a2 := hSw.1.out.cell 2; have b0 := hSw.2.out.cell 0; have b1 := hSw.2.out.cell 1; have b2 := hSw.2.out.cell 2; go_simp; try with_reducible rfl)
  case hQp7 => exact fun _ _ _ h => h
  try simp only [Act.put, List.setIfInBounds_toArray, List.set_cons_zero, List.set_cons_succ]
  refine wpAnyH_take (i := 8) (oi := ?oip8) (v := ?vp8) ?hip8 ?hsp8 ?hfp8 ?hrp8 ?hQp8 ?hyp8 ?hSp8 ?hp8
  case hip8 => (simp only [List.getElem?_toArray, List.getElem?_cons_succ, List.getElem?_cons_zero]; rfl)
  case hsp8 => kernel_rfl
  case hfp8 => kernel_rfl
  case hrp8 => kernel_rfl
  case hSp8 => assumption
  case hyp8 => refine Or.inl ⟨by kernel_rfl, ?_⟩; (intro w hSw; have a0 := hSw.1.out.cell 0; have a1 := hSw.1.out.cell 1; have a2 := hSw.1.out.cell 2; have b0 := hSw.2.out.cell 0; have b1 := hSw.2.out.cell 1; have b2 := hSw.2.out.cell 2; go_simp; try with_reducible rfl)
  case hQp8 => exact fun _ _ _ h => h
  try simp only [Act.put, List.setIfInBounds_toArray, List.set_cons_zero, List.set_cons_succ]
  refine wpAnyH_take (i := 10) (oi := ?oip10) (v := ?vp10) ?hip10 ?hsp10 ?hfp10 ?hrp10 ?hQp10 ?hyp10 ?hSp10 ?hp10
  case hip10 => (simp only [List.getElem?_toArray, List.getElem?_cons_succ, List.getElem?_cons_zero]; rfl)
  case hsp10 => kernel_rfl
  case hfp10 => kernel_rfl
  case hrp10 => kernel_rfl
  case hSp10 => assumption
  case hyp10 => refine Or.inl ⟨by kernel_rfl, ?_⟩; (intro w hSw; have a0 := hSw.1.out.cell 0; have a1 := hSw.1.out.cell 1; have a2 := hSw.1.out.cell 2; have b0 := hSw.2.out.cell 0; have b1 := hSw.2.out.cell 1; have b2 := hSw.2.out.cell 2; go_simp; try with_reducible rfl)
  case hQp10 => exact fun _ _ _ h => h
  try simp only [Act.put, List.setIfInBounds_toArray, List.set_cons_zero, List.set_cons_succ]
  refine wpAnyH_take (i := 11) (oi := ?oip11) (v := ?vp11) ?hip11 ?hsp11 ?hfp11 ?hrp11 ?hQp11 ?hyp11 ?hSp11 ?hp11
  case hip11 => (simp only [List.getElem?_toArray, List.getElem?_cons_succ, List.getElem?_cons_zero]; rfl)
  case hsp11 => kernel_rfl
  case hfp11 => kernel_rfl
  case hrp11 => kernel_rfl
  case hSp11 => assumption
  case hyp11 => refine Or.inl ⟨by kernel_rfl, ?_⟩; (intro w hSw; have a0 := hSw.1.out.cell 0; have a1 := hSw.1.out.cell 1; have a2 := hSw.1.out.cell 2; have b0 := hSw.2.out.cell 0; have b1 := hSw.2.out.cell 1; have b2 := hSw.2.out.cell 2; go_simp; try with_reducible rfl)
  case hQp11 => exact fun _ _ _ h => h
  try simp only [Act.put, List.setIfInBounds_toArray, List.set_cons_zero, List.set_cons_succ]
  refine wpAnyH_take (i := 12) (oi := ?oip12) (v := ?vp12) ?hip12 ?hsp12 ?hfp12 ?hrp12 ?hQp12 ?hyp12 ?hSp12 ?hp12
  case hip12 => (simp only [List.getElem?_toArray, List.getElem?_cons_succ, List.getElem?_cons_zero]; rfl)
  case hsp12 => kernel_rfl
  case hfp12 => kernel_rfl
  case hrp12 => kernel_rfl
  case hSp12 => assumption
  case hyp12 => refine Or.inl ⟨by kernel_rfl, ?_⟩; (intro w hSw; have a0 := hSw.1.out.cell 0; have a1 := hSw.1.out.cell 1; have a2 := hSw.1.out.cell 2; have b0 := hSw.2.out.cell 0; have b1 := hSw.2.out.cell 1; have b2 := hSw.2.out.cell 2; go_simp; try with_reducible rfl)
  case hQp12 => exact fun _ _ _ h => h
  try simp only [Act.put, List.setIfInBounds_toArray, List.set_cons_zero, List.set_cons_succ]
  refine wpAnyH_take (i := 13) (oi := ?oip13) (v := ?vp13) ?hip13 ?hsp13 ?hfp13 ?hrp13 ?hQp13 ?hyp13 ?hSp13 ?hp13
  case hip13 => (simp only [List.getElem?_toArray, List.getElem?_cons_succ, List.getElem?_cons_zero]; rfl)
  case hsp13 => kernel_rfl
  case hfp13 => kernel_rfl
  case hrp13 => kernel_rfl
  case hSp13 => assumption
  case hyp13 => refine Or.inl ⟨by kernel_rfl, ?_⟩; (intro w hSw; have a0 := hSw.1.out.cell 0; have a1 := hSw.1.out.cell 1; have a2 := hSw.1.out.cell 2; have b0 := hSw.2.out.cell 0; have b1 := hSw.2.out.cell 1; have b2 := hSw.2.out.cell 2; go_simp; try with_reducible rfl)
  case hQp13 => exact fun _ _ _ h => h
  try simp only [Act.put, List.setIfInBounds_toArray, List.set_cons_zero, List.set_cons_succ]
  refine wpAnyH_ready (rs := [4]) (by kernel_rfl) (by simp) ?_
  refine AllReadyH.cons (o := ?zoq1_4) ?zhq1_4 ?zkq1_4 AllReadyH.nil
  case zhq1_4 => (simp only [List.getElem?_toArray, List.getElem?_cons_succ, List.getElem?_cons_zero]; rfl)
  intro K hK
  go_simp
  (refine (HC0.out _).mono ?_; rintro e w2 ⟨rfl, rfl⟩; dsimp only)
  refine hK.out _ _ hS0 (fun _ => ?_)
  try simp only [Act.put, List.setIfInBounds_toArray, List.set_cons_zero, List.set_cons_succ]
  clear hK
  clear K
  refine wpAnyH_ready (rs := [9]) (by kernel_rfl) (by simp) ?_
  refine AllReadyH.cons (o := ?zoq2_9) ?zhq2_9 ?zkq2_9 AllReadyH.nil
  case zhq2_9 => (simp only [List.getElem?_toArray, List.getElem?_cons_succ, List.getElem?_cons_zero]; rfl)
  intro K hK
  go_simp
  (refine (HC1.out _).mono ?_; rintro e w2 ⟨rfl, rfl⟩; dsimp only)
  refine hK.out _ _ hS0 (fun _ => ?_)
  try simp only [Act.put, List.setIfInBounds_toArray, List.set_cons_zero, List.set_cons_succ]
  clear hK
  clear K
  refine wpAnyH_ready (rs := [14]) (by kernel_rfl) (by simp) ?_
  refine AllReadyH.cons (o := ?zoq3_14) ?zhq3_14 ?zkq3_14 AllReadyH.nil
  case zhq3_14 => (simp only [List.getElem?_toArray, List.getElem?_cons_succ, List.getElem?_cons_zero]; rfl)
  intro K hK
  go_simp
  (refine (HC2.out _).mono ?_; rintro e w2 ⟨rfl, rfl⟩; dsimp only)
  refine hK.out _ _ hS0 (fun _ => ?_)
  try simp only [Act.put, List.setIfInBounds_toArray, List.set_cons_zero, List.set_cons_succ]
  clear hK
  clear K
  refine wpAnyH_ready (rs := [15]) (by kernel_rfl) (by simp) ?_
  refine AllReadyH.cons (o := ?zoq4_15) ?zhq4_15 ?zkq4_15 AllReadyH.nil
  case zhq4_15 => (simp only [List.getElem?_toArray, List.getElem?_cons_succ, List.getElem?_cons_zero]; rfl)
  intro K hK
  go_simp
  refine hK.out _ _ ⟨Lib.hid (hS0.1.out.alloc _), Lib.hid (hS0.2.out.alloc _)⟩ (fun hS1 => ?_)
  try simp only [Act.put, List.setIfInBounds_toArray, List.set_cons_zero, List.set_cons_succ]
  clear hK
  clear K
  refine wpAnyH_ready (rs := [16]) (by kernel_rfl) (by simp) ?_
  refine AllReadyH.cons (o := ?zoq5_16) ?zhq5_16 ?zkq5_16 AllReadyH.nil
  case zhq5_16 => (simp only [List.getElem?_toArray, List.getElem?_cons_succ, List.getElem?_cons_zero]; rfl)
  intro K hK
  go_simp
  refine (HO.out _ _ (N1.out.drew.cell 0) (N1.out.drew.cell 1) (N1.out.drew.cell 2)).mono ?_
  rintro e w2 ⟨rfl, rfl⟩
  dsimp only
  refine hK.out _ _ hS1 (fun _ => ?_)
  try simp only [Act.put, List.setIfInBounds_toArray, List.set_cons_zero, List.set_cons_succ]
  clear hK
  clear K
  refine wpAnyH_take (i := 17) (oi := ?oip17) (v := ?vp17) ?hip17 ?hsp17 ?hfp17 ?hrp17 ?hQp17 ?hyp17 ?hSp17 ?hp17
  case hip17 => (simp only [List.getElem?_toArray, List.getElem?_cons_succ, List.getElem?_cons_zero]; rfl)
  case hsp17 => kernel_rfl
  case hfp17 => kernel_rfl
  case hrp17 => kernel_rfl
  case hSp17 => assumption
  case hyp17 => refine Or.inl ⟨by kernel_rfl, ?_⟩; (intro w hSw; have a0 := hSw.1.out.cell 0; have a1 := hSw.1.out.cell 1; have a2 := hSw.1.out.cell 2; have b0 := hSw.2.out.cell 0; have b1 := hSw.2.out.cell 1; have b2 := hSw.2.out.cell 2; go_simp; try with_reducible rfl)
  case hQp17 => exact fun _ _ _ h => h
  try simp only [Act.put, List.setIfInBounds_toArray, List.set_cons_zero, List.set_cons_succ]
  refine wpAnyH_done (by kernel_rfl) ?_ _
  have B9 := Lib.hid (B0.out.alloc B0.out.size (.cells #[.int .i64 r0, .int .i64 r1, .int .i64 r2] 3)).drew
  go_wp2_with fail
  go_ret
  exact ⟨rfl, B9.out⟩
end Go.Proofs.Ytbkknpodipapoaa
