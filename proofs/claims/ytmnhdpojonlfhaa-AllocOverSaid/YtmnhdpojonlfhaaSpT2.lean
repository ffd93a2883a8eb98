/- The walk of space's Take. -/
import Derived.Test.YtmnhdpojonlfhaaSpT
import Derived.Deep.DeepCutAuto
import Derived.Deep.DrawnRows
namespace Go.Proofs.Ytmnhdpojonlfhaa
open Go.RowKit
attribute [local go_sem ↓] Go.wp_at_zero Go.wp_at_succ

theorem take_arg (mb size : Nat) (rs : List (Nat × Nat)) (a n : Int) (w : World) (h : IsMap w mb size rs) (hno : ¬ May size a n) :
    Calls Try.prog 29 #[.pointer (some ⟨mb, 0, none⟩), .int .i64 a, .int .i64 n] w fun e w' => e = .returned (.int .i64 1) ∧ w = w' := by
  obtain ⟨h1, h2, h3, h4, v, hb, ho⟩ := h
  have H := Lib.hid (may_no mb size a n w (hb.cell 0) h1 hno)
  clear hno hb ho
  go_enter Try.func29, Try.ntmps29
  go_wp2_with fail
  refine H.out.mono ?_
  rintro e w1 ⟨rfl, rfl⟩
  go_wp2_with fail
  go_ret
  exact ⟨rfl, rfl⟩

theorem take_nil (a n : Int) (w : World) :
    Calls Try.prog 29 #[.pointer none, .int .i64 a, .int .i64 n] w fun e w' => e = .returned (.int .i64 1) ∧ w = w' := by
  go_enter Try.func29, Try.ntmps29
  go_wp2_with fail
  refine (may_nil a n w).mono ?_
  rintro e w1 ⟨rfl, rfl⟩
  go_wp2_with fail
  go_ret
  exact ⟨rfl, rfl⟩

set_option maxRecDepth 100000 in
theorem take_used (mb size : Nat) (rs : List (Nat × Nat)) (a n : Nat) (w : World) (h : IsMap w mb size rs) (hmay : May size a n) (hi : firstOf rs a < rs.length) (hu : (rs.getD (firstOf rs a) (0, 0)).1 < a + n) :
    Calls Try.prog 29 #[.pointer (some ⟨mb, 0, none⟩), .int .i64 a, .int .i64 n] w fun e w' => e = .returned (.int .i64 13) ∧ Below w.heap.size w w' := by
  obtain ⟨h1, h2, h3, h4, v, hb, ho⟩ := h
  have H := Lib.hid (may_yes mb size a n w (hb.cell 0) h1 hmay)
  obtain ⟨hm1, hm2, hm3, hm4⟩ := hmay
  obtain ⟨g, cap, rfl, hg⟩ := owns_headv ho (by omega)
  have HF := Lib.hid (first_any mb a _ cap rs size w (hb.cell 1) (by obtain ⟨ao, c, e, hr⟩ := RSl.of_owns ho; simp only [Value.slice.injEq, true_and] at e; obtain ⟨rfl, rfl⟩ := e; exact hr) h1 h3 h4)
  obtain ⟨i, hii⟩ : ∃ i, i = firstOf rs a := ⟨_, rfl⟩
  obtain ⟨q, hq⟩ : ∃ q, q = rs.getD i (0, 0) := ⟨_, rfl⟩
  rw [← hii] at HF hi hu
  rw [← hq] at hu
  obtain ⟨q1, q2⟩ := q
  dsimp only at hu
  have HB := Lib.hid hb
  have HO := Lib.hid ho
  have HQ := Lib.hid hq
  have hcl := (encR_get rs i hi).1
  rw [← hq] at hcl
  have HCL := Lib.hid hcl
  clear hb ho hii hq hcl h3
  go_enter Try.func29, Try.ntmps29
  go_wp2_with fail
  refine H.out.mono ?_
  rintro e w1 ⟨rfl, rfl⟩
  go_wp2_with fail
  refine HF.out.mono ?_
  rintro e w1 ⟨rfl, hb1⟩
  have hcm : w1.cell? ⟨mb, 1, none⟩ = some (.slice (some ⟨g, 0, none⟩) rs.length cap) := (HB.out.below hb1).cell 1
  have hcg : w1.cell? ⟨g, i * 2, none⟩ = some (.int .i64 q1) := by rw [(owns_below HO.out hb1).cellAt _ (by omega)]; exact HCL.out
  go_wp2_with fail
  go_ret
  exact ⟨rfl, hb1⟩

/-- Concat, where Take calls it. -/
theorem take_concat (mb i a n c1 c3 : Nat) (a1 A3 : Option Addr) (old : Value) (cs0 : Value) (rs : List (Nat × Nat)) (w1 : World) (hb : Blk w1 mb 120 [cs0, old])
    (h1 : RSl w1 2 a1 i c1 (encR (rs.take i))) (h3 : RSl w1 2 A3 (rs.length - i) c3 (encR (rs.drop i))) (hi : i ≤ rs.length) (hl : rs.length ≤ 65536) :
    Calls Try.prog 74 #[.slice (some ⟨w1.heap.size + 1, 0, none⟩) 3 3]
      ((w1.alloc (.cells #[.int .i64 a, .int .i64 n] 44)).alloc (.cells #[.slice a1 i c1, .slice (some ⟨w1.heap.size, 0, none⟩) 1 1, .slice A3 (rs.length - i) c3] 41)).drew
      fun e w' => ∃ v, e = .returned v ∧ w'.ownsRow 0 44 2 v (rs.length + 1) (encR (rs.take i ++ (a, n) :: rs.drop i)) ∧ w'.cell? ⟨mb, 1, none⟩ = some old ∧ Below w1.heap.size w1 w' := by
  obtain ⟨W, hW⟩ : ∃ W, W = ((w1.alloc (.cells #[.int .i64 a, .int .i64 n] 44)).alloc (.cells #[.slice a1 i c1, .slice (some ⟨w1.heap.size, 0, none⟩) 1 1, .slice A3 (rs.length - i) c3] 41)).drew := ⟨_, rfl⟩
  have hbel : Below w1.heap.size w1 W := by rw [hW]; exact ((((Below.refl _ _).alloc (Nat.le_refl _) _).alloc (by simp) _).drew)
  have hp2 : RSl W 2 (some ⟨w1.heap.size, 0, none⟩) 1 1 (encR [(a, n)]) := by
    have hk : Blk (w1.alloc (.cells (encR [(a, n)]).toArray 44)) w1.heap.size 44 (encR [(a, n)]) := Blk.new _ _ _
    have := (hk.alloc (.cells #[.slice a1 i c1, .slice (some ⟨w1.heap.size, 0, none⟩) 1 1, .slice A3 (rs.length - i) c3] 41)).drew.rsl (k := 2) (n := 1) rfl (by unfold maxLen; omega)
    rw [hW]; exact this
  have hargs : RSl W 1 (some ⟨w1.heap.size + 1, 0, none⟩) 3 3 (encP [(a1, i, c1, encR (rs.take i)), (some ⟨w1.heap.size, 0, none⟩, 1, 1, encR [(a, n)]), (A3, rs.length - i, c3, encR (rs.drop i))]) := by
    rw [hW]
    exact (Blk.newAt (w := w1.alloc (.cells #[.int .i64 a, .int .i64 n] 44)) 41 _ (by simp)).drew.rsl rfl (by unfold maxLen; omega)
  rw [← hW]
  refine (concatR_any _ 3 3 _ W hargs (by omega) (by simp [sumN]; omega) ?_).mono ?_
  · intro p hp
    simp only [List.mem_cons, List.not_mem_nil, or_false] at hp
    rcases hp with rfl | rfl | rfl
    · exact ⟨h1.below hbel, encR_one _⟩
    · exact ⟨hp2, encR_one _⟩
    · exact ⟨h3.below hbel, encR_one _⟩
  · rintro e w' ⟨v, rfl, hown, hb'⟩
    have e1 : sumN [(a1, i, c1, encR (rs.take i)), (some ⟨w1.heap.size, 0, none⟩, 1, 1, encR [(a, n)]), (A3, rs.length - i, c3, encR (rs.drop i))] = rs.length + 1 := by simp [sumN]; omega
    have e2 : catC [(a1, i, c1, encR (rs.take i)), (some ⟨w1.heap.size, 0, none⟩, 1, 1, encR [(a, n)]), (A3, rs.length - i, c3, encR (rs.drop i))] = encR (rs.take i ++ (a, n) :: rs.drop i) := by
      rw [encR_append, encR_cons]; simp [catC, encR]
    rw [e1, e2] at hown
    refine ⟨v, rfl, owns_weaken hown (Nat.zero_le _), ?_, hbel.trans (hb'.mono hbel.size)⟩
    rw [hb'.cell (p := ⟨mb, 1, none⟩) (Nat.lt_of_lt_of_le hb.lt hbel.size), hbel.cell (p := ⟨mb, 1, none⟩) hb.lt]
    exact hb.cell 1

set_option maxHeartbeats 3200000 in
set_option maxRecDepth 100000 in
theorem take_ok_some (mb size g cap : Nat) (rs : List (Nat × Nat)) (a n i : Nat) (w : World) (h1 : size ≤ 65536) (h3 : Good size rs) (h4 : rs.length ≤ 65536)
    (hb : Blk w mb 120 [.int .i64 size, .slice (some ⟨g, 0, none⟩) rs.length cap]) (ho : w.ownsRow 0 44 2 (.slice (some ⟨g, 0, none⟩) rs.length cap) rs.length (encR rs))
    (hmay : May size a n) (hii : i = firstOf rs a) (hu : i < rs.length → a + n ≤ (rs.getD i (0, 0)).1) :
    Calls Try.prog 29 #[.pointer (some ⟨mb, 0, none⟩), .int .i64 a, .int .i64 n] w fun e w' => e = .returned (.int .i64 0) ∧
      (∃ v, Blk w' mb 120 [.int .i64 size, v] ∧ w'.ownsRow 0 44 2 v (joinL (rs.take i ++ (a, n) :: rs.drop i)).length (encR (joinL (rs.take i ++ (a, n) :: rs.drop i)))) ∧ w.grownBy w' (some mb) := by
  have H := Lib.hid (may_yes mb size a n w (hb.cell 0) h1 hmay)
  obtain ⟨hm1, hm2, hm3, hm4⟩ := hmay
  have hsl : RSl w 2 (some ⟨g, 0, none⟩) rs.length cap (encR rs) := by obtain ⟨ao, c, e, hr⟩ := RSl.of_owns ho; simp only [Value.slice.injEq, true_and] at e; obtain ⟨rfl, rfl⟩ := e; exact hr
  have HF := Lib.hid (first_any mb a _ cap rs size w (hb.cell 1) hsl h1 h3 h4)
  have hile : i ≤ rs.length := by rw [hii]; exact firstOf_le rs a
  rw [← hii] at HF
  have hcap : rs.length ≤ cap := hsl.2.1
  have hcap2 : cap ≤ 9223372036854775807 := by have := hsl.2.2.1; unfold maxLen at this; exact this
  have HB := Lib.hid hb
  have HO := Lib.hid ho
  have HU := Lib.hid hu
  have HI := Lib.hid hii
  have HS := Lib.hid hsl
  have hi0 : (0 : Int) ≤ (i : Int) := by omega
  have hi1 : (i : Int) ≤ (rs.length : Int) := by omega
  have hi2 : (i : Int) ≤ (cap : Int) := by omega
  clear hb ho hii hu hsl
  have HROW := Lib.hid (show Row size (rs.take i ++ (a, n) :: rs.drop i) by rw [HI.out]; exact row_insert h3 (by omega) (by omega) (by rw [← HI.out]; exact HU.out))
  obtain ⟨M, hM⟩ : ∃ M, M = joinL (rs.take i ++ (a, n) :: rs.drop i) := ⟨_, rfl⟩
  have HMM := Lib.hid hM
  rw [← hM]
  clear hM
  obtain ⟨A3, hA3⟩ : ∃ A3, (if cap = i then some (⟨g, 0, none⟩ : Addr) else some ⟨g, i * 2, none⟩) = A3 := ⟨_, rfl⟩
  go_enter Try.func29, Try.ntmps29
  go_wp2_with fail
  refine H.out.mono ?_
  rintro e w1 ⟨rfl, rfl⟩
  go_wp2_with fail
  refine HF.out.mono ?_
  rintro e w1 ⟨rfl, hb1⟩
  have hcm : w1.cell? ⟨mb, 1, none⟩ = some (.slice (some ⟨g, 0, none⟩) rs.length cap) := (HB.out.below hb1).cell 1
  have HCC := Lib.hid (take_concat mb i a n i (cap - i) (some ⟨g, 0, none⟩) A3 _ _ rs w1 (HB.out.below hb1) (by have := (HS.out.below hb1).takeAt hile (fun e => by simp at e); rw [encR_take] at this; exact this) (by have := (HS.out.below hb1).dropAt hile; rw [Nat.zero_add, encR_drop, hA3] at this; exact this) hile (by omega))
  have hmlt := (HB.out.below hb1).lt
  have HB1 := Lib.hid hb1
  clear hb1
  go_upto_region 4 with fail
  go_cut [36] (fun s wx => s = .bool false ∧ wx = w1)
  case first =>
    by_cases hil : i < rs.length
    · obtain ⟨q, hq⟩ : ∃ q, q = rs.getD i (0, 0) := ⟨_, rfl⟩
      have hcl := (encR_get rs i hil).1
      have hu := HU.out hil
      rw [← hq] at hcl hu
      obtain ⟨q1, q2⟩ := q
      dsimp only at hcl hu
      have hu' : ¬ (q1 : Int) < (a : Int) + (n : Int) := by omega
      have hcg : w1.cell? ⟨g, i * 2, none⟩ = some (.int .i64 q1) := by rw [(owns_below HO.out HB1.out).cellAt _ (by omega)]; exact hcl
      clear hcl hq hu
      go_wp2_with fail
      go_meet
      exact ⟨rfl, rfl⟩
    · have hil' : ¬ (i : Int) < (rs.length : Int) := by omega
      go_wp2_with fail
      go_meet
      exact ⟨rfl, rfl⟩
  case rest =>
    obtain ⟨rfl, rfl⟩ := hcut
    go_wp2_with fail
    go_region_with (first
        | (go_at_call 74; refine HCC.out.mono ?_; rintro e w2 ⟨v2, rfl, hown2, hcm2, hb2⟩; obtain ⟨ao2, cap2, rfl, hr2⟩ := RSl.of_owns hown2; have hj := joined_any size ao2 _ cap2 _ w2 hr2 (by omega) (by omega) HROW.out; rw [← HMM.out] at hj; have HJ := Lib.hid hj; clear hj; have H2 := Lib.hid hb2; clear hown2 hr2 hb2)
        | (go_at_call 73; refine HJ.out.mono ?_; rintro e w3 ⟨v3, rfl, hown3, hb3⟩; obtain ⟨ao3, cap3, rfl, _⟩ := RSl.of_owns hown3; have HO3 := Lib.hid (owns_weaken hown3 (Nat.zero_le _)); clear hown3; have hcm3 := (hb3.cell (p := ⟨mb, 1, none⟩) (block_lt_of_cell hcm2)).trans hcm2; have BK3 := Lib.hid (((HB.out.below HB1.out).below H2.out).below hb3); have hfz3 := BK3.out.frozen 1))
    all_goals go_wp2_with fail
    all_goals go_ret
    all_goals exact ⟨rfl, ⟨_, BK3.out.setCell 1 _, owns_setCell_other HO3.out BK3.out (by decide)⟩, grown_store ((HB1.out.trans (H2.out.mono HB1.out.size)).trans (hb3.mono (Nat.le_trans HB1.out.size H2.out.size)))⟩

set_option maxHeartbeats 3200000 in
set_option maxRecDepth 100000 in
theorem take_ok_none (mb size : Nat) (a n : Nat) (w : World) (h1 : size ≤ 65536)
    (hb : Blk w mb 120 [.int .i64 size, .slice none 0 0]) (hmay : May size a n) :
    Calls Try.prog 29 #[.pointer (some ⟨mb, 0, none⟩), .int .i64 a, .int .i64 n] w fun e w' => e = .returned (.int .i64 0) ∧
      (∃ v, Blk w' mb 120 [.int .i64 size, v] ∧ w'.ownsRow 0 44 2 v (joinL [(a, n)]).length (encR (joinL [(a, n)]))) ∧ w.grownBy w' (some mb) := by
  have H := Lib.hid (may_yes mb size a n w (hb.cell 0) h1 hmay)
  obtain ⟨hm1, hm2, hm3, hm4⟩ := hmay
  have HF := Lib.hid (first_any mb a none 0 [] size w (hb.cell 1) (RSl.nil _ _) h1 ⟨by simp, List.Pairwise.nil⟩ (by simp))
  have HB := Lib.hid hb
  have hrow : Row size [(a, n)] := ⟨fun r hr => by rw [List.mem_singleton.1 hr]; dsimp only; omega, List.pairwise_singleton _ _⟩
  have HROW := Lib.hid hrow
  obtain ⟨M, hM⟩ : ∃ M, M = joinL [(a, n)] := ⟨_, rfl⟩
  have HMM := Lib.hid hM
  rw [← hM]
  clear hb hM hrow
  have e0 : firstOf [] a = 0 := rfl
  rw [e0] at HF
  clear e0
  go_enter Try.func29, Try.ntmps29
  go_wp2_with fail
  refine H.out.mono ?_
  rintro e w1 ⟨rfl, rfl⟩
  go_wp2_with fail
  refine HF.out.mono ?_
  rintro e w1 ⟨rfl, hb1⟩
  have hcm : w1.cell? ⟨mb, 1, none⟩ = some (.slice none 0 0) := (HB.out.below hb1).cell 1
  have HCC := Lib.hid (take_concat mb 0 a n 0 0 none none _ _ [] w1 (HB.out.below hb1) (RSl.nil _ _) (RSl.nil _ _) (by simp) (by simp))
  have hmlt := (HB.out.below hb1).lt
  have HB1 := Lib.hid hb1
  clear hb1
  go_wp2_with fail
  go_region_with (first
      | (go_at_call 74; refine HCC.out.mono ?_; rintro e w2 ⟨v2, rfl, hown2, hcm2, hb2⟩; obtain ⟨ao2, cap2, rfl, hr2⟩ := RSl.of_owns hown2; have hj := joined_any size ao2 _ cap2 [(a, n)] w2 hr2 (by simp) (by omega) HROW.out; rw [← HMM.out] at hj; have HJ := Lib.hid hj; clear hj; have H2 := Lib.hid hb2; clear hown2 hr2 hb2)
      | (go_at_call 73; refine HJ.out.mono ?_; rintro e w3 ⟨v3, rfl, hown3, hb3⟩; obtain ⟨ao3, cap3, rfl, _⟩ := RSl.of_owns hown3; have HO3 := Lib.hid (owns_weaken hown3 (Nat.zero_le _)); clear hown3; have hcm3 := (hb3.cell (p := ⟨mb, 1, none⟩) (block_lt_of_cell hcm2)).trans hcm2; have BK3 := Lib.hid (((HB.out.below HB1.out).below H2.out).below hb3); have hfz3 := BK3.out.frozen 1))
  all_goals go_wp2_with fail
  all_goals go_ret
  all_goals exact ⟨rfl, ⟨_, BK3.out.setCell 1 _, owns_setCell_other HO3.out BK3.out (by decide)⟩, grown_store ((HB1.out.trans (H2.out.mono HB1.out.size)).trans (hb3.mono (Nat.le_trans HB1.out.size H2.out.size)))⟩

theorem take_any (mb size : Nat) (rs : List (Nat × Nat)) (a n : Int) (w : World) (h : IsMap w mb size rs) :
    Calls Try.prog 29 #[.pointer (some ⟨mb, 0, none⟩), .int .i64 a, .int .i64 n] w fun e w' => e = .returned (.int .i64 (takeS size rs a n).1) ∧ IsMap w' mb size (takeS size rs a n).2 ∧ w.grownBy w' (some mb) := by
  by_cases hm : May size a n
  · have hg := takeS_good h.2.2.1 a n
    have hm' := hm
    obtain ⟨hm1, hm2, hm3, hm4⟩ := hm
    obtain ⟨a, rfl⟩ := Int.eq_ofNat_of_zero_le hm2
    obtain ⟨n, rfl⟩ := Int.eq_ofNat_of_zero_le (show 0 ≤ n by omega)
    by_cases hu : firstOf rs a < rs.length ∧ (rs.getD (firstOf rs a) (0, 0)).1 < a + n
    · have e : takeS size rs (a : Int) (n : Int) = (13, rs) := by unfold takeS; rw [if_pos hm', if_pos (by simpa using hu)]
      rw [e]
      refine (take_used mb size rs a n w h hm' hu.1 hu.2).mono fun e w' ⟨he, hb⟩ => ⟨he, h.below hb, grown_of_below hb⟩
    · have e : takeS size rs (a : Int) (n : Int) = (0, joinL (rs.take (firstOf rs a) ++ (a, n) :: rs.drop (firstOf rs a))) := by unfold takeS; rw [if_pos hm', if_neg (by simpa using hu)]; simp
      rw [e] at hg ⊢
      obtain ⟨h1, h2, h3, h4, v, hb, ho⟩ := h
      obtain ⟨ao, cap, rfl, hr⟩ := RSl.of_owns ho
      have hl2 := good_len hg
      rcases ho.2 with ⟨hv, h0⟩ | ⟨g, cap', cur, hv, hbg, _⟩
      · simp only [Value.slice.injEq] at hv
        obtain ⟨rfl, _, rfl⟩ := hv
        have hrs : rs = [] := List.eq_nil_of_length_eq_zero h0
        subst hrs
        exact (take_ok_none mb size a n w h1 hb hm').mono fun e w' ⟨he, hv, hg'⟩ => ⟨he, ⟨h1, h2, hg, by omega, hv⟩, hg'⟩
      · simp only [Value.slice.injEq, true_and] at hv
        obtain ⟨rfl, rfl⟩ := hv
        exact (take_ok_some mb size g cap rs a n _ w h1 h3 h4 hb ho hm' rfl (fun hlt => by simp only [not_and, Nat.not_lt] at hu; exact hu hlt)).mono fun e w' ⟨he, hv, hg'⟩ => ⟨he, ⟨h1, h2, hg, by omega, hv⟩, hg'⟩
  · have e : takeS size rs a n = (1, rs) := by unfold takeS; rw [if_neg hm]
    rw [e]
    exact (take_arg mb size rs a n w h hm).mono fun e w' ⟨he, hw⟩ => by subst hw; exact ⟨he, h, World.grownBy.refl _ _⟩
end Go.Proofs.Ytmnhdpojonlfhaa
