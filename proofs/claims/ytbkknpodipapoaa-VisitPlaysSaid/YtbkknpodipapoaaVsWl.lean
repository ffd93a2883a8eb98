/- The walk of the statement VisitWithout. -/
import Derived.Test.YtbkknpodipapoaaVsDe
import Derived.Test.YtbkknpodipapoaaVsOp
namespace Go.Proofs.Ytbkknpodipapoaa
open Go.RowKit
set_option linter.unusedSimpArgs false
attribute [local go_sem ↓] Go.wp_at_zero Go.wp_at_succ

theorem ordL_marks_inj {l : List PtrT} {p q : PtrT} (hp : p ∈ ordL l) (hq : q ∈ ordL l) (h : markOf p = markOf q) : p = q := by
  have h1 := (ordL_is l).first p hp
  have h2 := (ordL_is l).first q hq
  rw [h, h2] at h1
  exact (Option.some.inj h1).symm
theorem ordL_sub {l : List PtrT} {p : PtrT} (hp : p ∈ ordL l) : p ∈ l := (firstM_mem ((ordL_is l).first p hp)).1
theorem without_twice (l m : List PtrT) : withoutL l (withoutL l m) = (ordL l).filter fun p => memM m (markOf p) := by
  unfold withoutL
  refine List.filter_congr fun p hp => ?_
  have h : memM ((ordL l).filter fun p => !memM m (markOf p)) (markOf p) = !memM m (markOf p) := by
    rw [Bool.eq_iff_iff, memM_iff]
    constructor
    · rintro ⟨q, hq, e⟩
      have hq' := List.mem_filter.1 hq
      rw [← e]
      exact hq'.2
    · intro hn
      exact ⟨p, List.mem_filter.2 ⟨hp, hn⟩, rfl⟩
  rw [h, Bool.not_not]
theorem without_len (l m : List PtrT) : (withoutL l m).length + (withoutL l (withoutL l m)).length = (ordL l).length := by
  rw [without_twice]
  unfold withoutL
  obtain ⟨L, hL⟩ : ∃ L, L = ordL l := ⟨_, rfl⟩
  rw [← hL]
  clear hL
  induction L with
  | nil => rfl
  | cons a r ih =>
    simp only [List.filter_cons, List.length_cons]
    cases memM m (markOf a) <;> simp <;> omega
theorem without_self (l : List PtrT) : withoutL l l = [] := by
  unfold withoutL
  rw [List.filter_eq_nil_iff]
  intro p hp
  have : memM l (markOf p) = true := (memM_iff _ _).2 ⟨p, ordL_sub hp, rfl⟩
  rw [this]
  simp
theorem without_nil (l : List PtrT) : withoutL l [] = ordL l := by
  unfold withoutL
  rw [List.filter_eq_self]
  intro p _
  rfl
theorem ord_without (l m : List PtrT) : ordL (withoutL l m) = withoutL l m := ordL_idem (List.Pairwise.filter _ (ordL_is l).sorted)
theorem dead_same (l m : List PtrT) : deadL l m 0 = deadL (withoutL l m) [] 0 := by
  unfold deadL
  rw [without_nil, ord_without]
set_option maxRecDepth 100000 in
set_option maxHeartbeats 3200000 in
theorem visitwithout_any (ao : Option Addr) (n cap : Nat) (l : List PtrT) (bo : Option Addr) (m cap' : Nat) (lm : List PtrT) (w : World) (h : QSl w ao n cap l) (h' : QSl w bo m cap' lm) :
    Calls Try.prog 5 #[.slice ao n cap, .slice bo m cap'] w fun e w' => e = .returned (.bool true) ∧ Below w.heap.size w w' := by
  have hmx := BW.mx h.1
  have hmx' := BW.mx h'.1
  have H := Lib.hid h.1
  have H' := Lib.hid h'.1
  have HL := Lib.hid h.1.len
  have HA := Lib.hid (fun W => awake22_any W)
  clear h h'
  by_cases hn60 : 60 < n
  · have hd1 : decide ((60 : Int) < (n : Int)) = true := by simp; omega
    go_enter Try.func5, Try.ntmps5
    go_wp2_with fail
    refine (HA.out _).mono ?_
    rintro e w1 ⟨rfl, hb1⟩
    have B1 := Lib.hid hb1
    clear hb1
    go_wp2_with fail
    refine (HA.out _).mono ?_
    rintro e w2 ⟨rfl, hb2⟩
    have B2 := Lib.hid (B1.out.trans (hb2.mono B1.out.size))
    clear hb2
    go_wp2_with fail
    go_ret
    exact ⟨rfl, B2.out⟩
  · have hd1 : decide ((60 : Int) < (n : Int)) = false := by simp; omega
    by_cases hm60 : 60 < m
    · have hd2 : decide ((60 : Int) < (m : Int)) = true := by simp; omega
      go_enter Try.func5, Try.ntmps5
      go_wp2_with fail
      refine (HA.out _).mono ?_
      rintro e w1 ⟨rfl, hb1⟩
      have B1 := Lib.hid hb1
      clear hb1
      go_wp2_with fail
      refine (HA.out _).mono ?_
      rintro e w2 ⟨rfl, hb2⟩
      have B2 := Lib.hid (B1.out.trans (hb2.mono B1.out.size))
      clear hb2
      go_wp2_with fail
      go_ret
      exact ⟨rfl, B2.out⟩
    · have hd2 : decide ((60 : Int) < (m : Int)) = false := by simp; omega
      have HN : Hid (n ≤ 60) := Lib.hid (by omega)
      have HL1 : Hid ((withoutL l lm).length ≤ 60) := Lib.hid (by have := withoutL_length l lm; have := HL.out; omega)
      have HWL := Lib.hid (without_len l lm)
      clear hn60 hm60
      go_enter Try.func5, Try.ntmps5
      go_wp2_with fail
      refine (HA.out _).mono ?_
      rintro e w1 ⟨rfl, hb1⟩
      have B1 := Lib.hid hb1
      have HP := Lib.hid (vorder_psl ao n cap l w1 (H.out.below hb1) (by have := HN.out; omega))
      clear hb1
      go_wp2_with fail
      refine HP.out.mono ?_
      rintro e w2 ⟨oo, oc, rfl, hpo, hb2⟩
      have PO := Lib.hid hpo
      have B2 := Lib.hid (B1.out.trans (hb2.mono B1.out.size))
      have HP2 := Lib.hid (without_psl ao bo n m cap cap' l lm w2 (H.out.below B2.out) (H'.out.below B2.out) (by have := HN.out; omega))
      clear hpo hb2 HP
      go_wp2_with fail
      refine HP2.out.mono ?_
      rintro e w3 ⟨ea, ec, rfl, hpa, hb3⟩
      have PO3 := Lib.hid (PO.out.below hb3)
      have PA3 := Lib.hid hpa
      have B3 := Lib.hid (B2.out.trans (hb3.mono B2.out.size))
      have HP3 := Lib.hid (without_psl ao ea n _ cap ec l (withoutL l lm) w3 (H.out.below B3.out) hpa (by have := HN.out; omega))
      clear hpa hb3 HP2 PO
      go_wp2_with fail
      refine HP3.out.mono ?_
      rintro e w4 ⟨eb, ebc, rfl, hpb, hb4⟩
      have PO4 := Lib.hid (PO3.out.below hb4)
      have PA4 := Lib.hid (PA3.out.below hb4)
      have B4 := Lib.hid (B3.out.trans (hb4.mono B3.out.size))
      have HP4 := Lib.hid (without_psl ao ao n n cap cap l l w4 (H.out.below B4.out) (H.out.below B4.out) (by have := HN.out; omega))
      rw [without_self] at HP4
      have hb0 : (ordL l).length ≤ 60 := by have := ordL_length l; have := HL.out; have := HN.out; omega
      obtain ⟨s1, hs1⟩ : ∃ s, s = (withoutL l lm).length := ⟨_, rfl⟩
      obtain ⟨s2, hs2⟩ : ∃ s, s = (withoutL l (withoutL l lm)).length := ⟨_, rfl⟩
      obtain ⟨s0, hs0⟩ : ∃ s, s = (ordL l).length := ⟨_, rfl⟩
      rw [← hs1, ← hs2, ← hs0] at HWL
      rw [← hs1] at PA4 HL1
      rw [← hs0] at PO4 hb0
      rw [← hs0, ← hs1, ← hs2]
      have hz : (s1 : Int) + (s2 : Int) = (s0 : Int) := by have := HWL.out; omega
      have HS0 := Lib.hid hs0
      have HS1 := Lib.hid hs1
      clear hpb hb4 HP3 PO3 PA3 hs0 hs1 hs2
      go_wp2_with fail
      refine HP4.out.mono ?_
      rintro e w5 ⟨ec5, cc5, rfl, hpc, hb5⟩
      have PO5 := Lib.hid (PO4.out.below hb5)
      have PA5 := Lib.hid (PA4.out.below hb5)
      have B5 := Lib.hid (B4.out.trans (hb5.mono B4.out.size))
      have HP5 := Lib.hid (without_psl ao none n 0 cap 0 l [] w5 (H.out.below B5.out) (RSl.nil w5 12) (by have := HN.out; omega))
      rw [without_nil, ← HS0.out] at HP5
      clear hpc hb5 HP4 PO4 PA4
      go_wp2_with fail
      refine HP5.out.mono ?_
      rintro e w6 ⟨ec6, cc6, rfl, hpc, hb6⟩
      have PA6 := Lib.hid (PA5.out.below hb6)
      have B6 := Lib.hid (B5.out.trans (hb6.mono B5.out.size))
      have HP6 := Lib.hid (same_ps _ _ _ _ _ _ _ _ w6 hpc (PO5.out.below hb6))
      rw [decide_eq_true rfl] at HP6
      clear hpc hb6 HP5 PO5 PA5
      go_wp2_with fail
      refine HP6.out.mono ?_
      rintro e w7 ⟨rfl, hb7⟩
      have PA7 := Lib.hid (PA6.out.below hb7)
      have B7 := Lib.hid (B6.out.trans (hb7.mono B6.out.size))
      have HP7 := Lib.hid (dead_psl ao bo n m cap cap' l lm 0 w7 (H.out.below B7.out) (H'.out.below B7.out) (by have := HN.out; omega))
      clear hb7 HP6 PA6
      go_wp2_with fail
      refine HP7.out.mono ?_
      rintro e w8 ⟨ea8, ca8, rfl, hpd, hb8⟩
      have PD8 := Lib.hid hpd
      have B8 := Lib.hid (B7.out.trans (hb8.mono B7.out.size))
      have HP8 := Lib.hid (dead_psl ea none s1 0 ec 0 (withoutL l lm) [] 0 w8 (PA7.out.below hb8) (RSl.nil w8 12) (by have := HL1.out; omega))
      rw [← dead_same] at HP8
      clear hpd hb8 HP7 PA7
      go_wp2_with fail
      refine HP8.out.mono ?_
      rintro e w9 ⟨ea9, ca9, rfl, hpe, hb9⟩
      have B9 := Lib.hid (B8.out.trans (hb9.mono B8.out.size))
      have HP9 := Lib.hid (same_ps _ _ _ _ _ _ _ _ w9 (PD8.out.below hb9) hpe)
      rw [decide_eq_true rfl] at HP9
      clear hpe hb9 HP8 PD8
      go_wp2_with fail
      refine HP9.out.mono ?_
      rintro e w10 ⟨rfl, hb10⟩
      have B10 := Lib.hid (B9.out.trans (hb10.mono B9.out.size))
      clear hb10
      go_wp2_with fail
      go_ret
      exact ⟨rfl, B10.out⟩
end Go.Proofs.Ytbkknpodipapoaa
