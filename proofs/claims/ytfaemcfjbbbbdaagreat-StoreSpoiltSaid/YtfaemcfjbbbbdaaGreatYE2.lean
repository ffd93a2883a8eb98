/- Parts of the proof of the statement that the last file of this claim proves: lemmas, without any condition of their own beyond those that each states. -/
import Derived.Test.YtfaemcfjbbbbdaaGreatYE1
import Derived.Deep.DeepCutAuto
import Derived.Deep.DrawnRows
import Derived.Deep.Slices
import Derived.Deep.Fields
import Derived.ChangeSame
import Derived.Lib.SmallJoins
import Derived.Deep.CutBlock
import Derived.Deep.AppendLies
import Derived.Deep.RegionLaw
import Derived.Deep.QuietTactic
import Derived.BigQuiet
import Derived.Deep.SlicePairs
import Derived.Deep.RegionHeld3
import Derived.IntWalk
set_option linter.unusedVariables false
set_option linter.unusedSimpArgs false
set_option linter.unnecessarySimpa false
namespace Go.Proofs.YtfaemcfjbbbbdaaGreat
open Go.RowKit
attribute [local go_sem ↓] Go.wp_at_zero Go.wp_at_succ
theorem take_arg (mb size : Nat) (rs : List (Nat × Nat)) (a n : Int) (w : World) (h : IsMap w mb size rs) (hno : ¬ May size a n) :
  Calls Tryz.prog 106 #[.pointer (some ⟨mb, 0, none⟩), .int .i64 a, .int .i64 n] w fun e w' => e = .returned (.int .i64 1) ∧ w = w' := by
 obtain ⟨h1, h2, h3, h4, v, hb, ho⟩ := h
 have H := Lib.hid (may_no mb size a n w (hb.cell 0) h1 hno)
 clear hno hb ho
 go_enter Tryz.func106, Tryz.ntmps106
 go_wp2_with fail
 refine H.out.mono ?_
 rintro e w1 ⟨rfl, rfl⟩
 go_wp2_with fail
 go_ret
 exact ⟨rfl, rfl⟩
set_option maxRecDepth 100000 in
theorem take_used (mb size : Nat) (rs : List (Nat × Nat)) (a n : Nat) (w : World) (h : IsMap w mb size rs) (hmay : May size a n) (hi : firstOf rs a < rs.length) (hu : (rs.getD (firstOf rs a) (0, 0)).1 < a + n) :
  Calls Tryz.prog 106 #[.pointer (some ⟨mb, 0, none⟩), .int .i64 a, .int .i64 n] w fun e w' => e = .returned (.int .i64 13) ∧ Below w.heap.size w w' := by
 obtain ⟨h1, h2, h3, h4, v, hb, ho⟩ := h
 have H := Lib.hid (may_yes mb size a n w (hb.cell 0) h1 hmay)
 obtain ⟨hm1, hm2, hm3, hm4⟩ := hmay
 obtain ⟨g, cap, rfl, hg⟩ := owns_headv ho (by omega)
 have HF := Lib.hid (first_any mb a _ cap rs size w (hb.cell 1) (by obtain ⟨ao, c, e, hr⟩ := RSl.of_owns ho; simp only [Value.slice.injEq, true_and] at e; obtain ⟨rfl, rfl⟩ := e; exact hr) h1 h3 h4)
 obtain ⟨i, hii⟩ : ∃ i, i = firstOf rs a := ⟨_, rfl⟩
 obtain ⟨q, hq⟩ : ∃ q, q = rs.getD i (0, 0) := ⟨_, rfl⟩
 rw [← hii] at HF hi hu
 rw [← hq] at hu
 obtain ⟨q1, q2⟩ := q
 dsimp only at hu
 have HB := Lib.hid hb
 have HO := Lib.hid ho
 have HQ := Lib.hid hq
 have hcl := (encR_get rs i hi).1
 rw [← hq] at hcl
 have HCL := Lib.hid hcl
 clear hb ho hii hq hcl h3
 go_enter Tryz.func106, Tryz.ntmps106
 go_wp2_with fail
 refine H.out.mono ?_
 rintro e w1 ⟨rfl, rfl⟩
 go_wp2_with fail
 refine HF.out.mono ?_
 rintro e w1 ⟨rfl, hb1⟩
 have hcm : w1.cell? ⟨mb, 1, none⟩ = some (.slice (some ⟨g, 0, none⟩) rs.length cap) := (HB.out.below hb1).cell 1
 have hcg : w1.cell? ⟨g, i * 2, none⟩ = some (.int .i64 q1) := by rw [(owns_below HO.out hb1).cellAt _ (by omega)]; exact HCL.out
 go_wp2_with fail
 go_ret
 exact ⟨rfl, hb1⟩
theorem take_concat (mb i a n c1 c3 : Nat) (a1 A3 : Option Addr) (old : Value) (cs0 : Value) (rs : List (Nat × Nat)) (w1 : World) (hb : Blk w1 mb 154 [cs0, old])
  (h1 : RSl w1 2 a1 i c1 (encR (rs.take i))) (h3 : RSl w1 2 A3 (rs.length - i) c3 (encR (rs.drop i))) (hi : i ≤ rs.length) (hl : rs.length ≤ 65536) :
  Calls Tryz.prog 91 #[.slice (some ⟨w1.heap.size + 1, 0, none⟩) 3 3]
   ((w1.alloc (.cells #[.int .i64 a, .int .i64 n] 130)).alloc (.cells #[.slice a1 i c1, .slice (some ⟨w1.heap.size, 0, none⟩) 1 1, .slice A3 (rs.length - i) c3] 127)).drew
   fun e w' => ∃ v, e = .returned v ∧ w'.ownsRow 0 130 2 v (rs.length + 1) (encR (rs.take i ++ (a, n) :: rs.drop i)) ∧ w'.cell? ⟨mb, 1, none⟩ = some old ∧ Below w1.heap.size w1 w' := by
 obtain ⟨W, hW⟩ : ∃ W, W = ((w1.alloc (.cells #[.int .i64 a, .int .i64 n] 130)).alloc (.cells #[.slice a1 i c1, .slice (some ⟨w1.heap.size, 0, none⟩) 1 1, .slice A3 (rs.length - i) c3] 127)).drew := ⟨_, rfl⟩
 have hbel : Below w1.heap.size w1 W := by rw [hW]; exact ((((Below.refl _ _).alloc (Nat.le_refl _) _).alloc (by simp) _).drew)
 have hp2 : RSl W 2 (some ⟨w1.heap.size, 0, none⟩) 1 1 (encR [(a, n)]) := by
  have hk : Blk (w1.alloc (.cells (encR [(a, n)]).toArray 130)) w1.heap.size 130 (encR [(a, n)]) := Blk.new _ _ _
  have := (hk.alloc (.cells #[.slice a1 i c1, .slice (some ⟨w1.heap.size, 0, none⟩) 1 1, .slice A3 (rs.length - i) c3] 127)).drew.rsl (k := 2) (n := 1) rfl (by unfold maxLen; omega)
  rw [hW]; exact this
 have hargs : RSl W 1 (some ⟨w1.heap.size + 1, 0, none⟩) 3 3 (encP [(a1, i, c1, encR (rs.take i)), (some ⟨w1.heap.size, 0, none⟩, 1, 1, encR [(a, n)]), (A3, rs.length - i, c3, encR (rs.drop i))]) := by
  rw [hW]
  exact (Blk.newAt (w := w1.alloc (.cells #[.int .i64 a, .int .i64 n] 130)) 127 _ (by simp)).drew.rsl rfl (by unfold maxLen; omega)
 rw [← hW]
 refine (concatR_any _ 3 3 _ W hargs (by omega) (by simp [sumN]; omega) ?_).mono ?_
 ·intro p hp
  simp only [List.mem_cons, List.not_mem_nil, or_false] at hp
  rcases hp with rfl | rfl | rfl
  ·exact ⟨h1.below hbel, encR_one _⟩
  ·exact ⟨hp2, encR_one _⟩
  ·exact ⟨h3.below hbel, encR_one _⟩
 ·rintro e w' ⟨v, rfl, hown, hb'⟩
  have e1 : sumN [(a1, i, c1, encR (rs.take i)), (some ⟨w1.heap.size, 0, none⟩, 1, 1, encR [(a, n)]), (A3, rs.length - i, c3, encR (rs.drop i))] = rs.length + 1 := by simp [sumN]; omega
  have e2 : catC [(a1, i, c1, encR (rs.take i)), (some ⟨w1.heap.size, 0, none⟩, 1, 1, encR [(a, n)]), (A3, rs.length - i, c3, encR (rs.drop i))] = encR (rs.take i ++ (a, n) :: rs.drop i) := by
   rw [encR_append, encR_cons]; simp [catC, encR]
  rw [e1, e2] at hown
  refine ⟨v, rfl, owns_weaken hown (Nat.zero_le _), ?_, hbel.trans (hb'.mono hbel.size)⟩
  rw [hb'.cell (p := ⟨mb, 1, none⟩) (Nat.lt_of_lt_of_le hb.lt hbel.size), hbel.cell (p := ⟨mb, 1, none⟩) hb.lt]
  exact hb.cell 1
set_option maxHeartbeats 3200000 in
set_option maxRecDepth 100000 in
theorem take_ok_some (mb size g cap : Nat) (rs : List (Nat × Nat)) (a n i : Nat) (w : World) (h1 : size ≤ 65536) (h3 : Good size rs) (h4 : rs.length ≤ 65536)
  (hb : Blk w mb 154 [.int .i64 size, .slice (some ⟨g, 0, none⟩) rs.length cap]) (ho : w.ownsRow 0 130 2 (.slice (some ⟨g, 0, none⟩) rs.length cap) rs.length (encR rs))
  (hmay : May size a n) (hii : i = firstOf rs a) (hu : i < rs.length → a + n ≤ (rs.getD i (0, 0)).1) :
  Calls Tryz.prog 106 #[.pointer (some ⟨mb, 0, none⟩), .int .i64 a, .int .i64 n] w fun e w' => e = .returned (.int .i64 0) ∧
   (∃ v, Blk w' mb 154 [.int .i64 size, v] ∧ w'.ownsRow 0 130 2 v (joinL (rs.take i ++ (a, n) :: rs.drop i)).length (encR (joinL (rs.take i ++ (a, n) :: rs.drop i)))) ∧ w.grownBy w' (some mb) := by
 have H := Lib.hid (may_yes mb size a n w (hb.cell 0) h1 hmay)
 obtain ⟨hm1, hm2, hm3, hm4⟩ := hmay
 have hsl : RSl w 2 (some ⟨g, 0, none⟩) rs.length cap (encR rs) := by obtain ⟨ao, c, e, hr⟩ := RSl.of_owns ho; simp only [Value.slice.injEq, true_and] at e; obtain ⟨rfl, rfl⟩ := e; exact hr
 have HF := Lib.hid (first_any mb a _ cap rs size w (hb.cell 1) hsl h1 h3 h4)
 have hile : i ≤ rs.length := by rw [hii]; exact firstOf_le rs a
 rw [← hii] at HF
 have hcap : rs.length ≤ cap := hsl.2.1
 have hcap2 : cap ≤ 9223372036854775807 := by have := hsl.2.2.1; unfold maxLen at this; exact this
 have HB := Lib.hid hb
 have HO := Lib.hid ho
 have HU := Lib.hid hu
 have HI := Lib.hid hii
 have HS := Lib.hid hsl
 have hi0 : (0 : Int) ≤ (i : Int) := by omega
 have hi1 : (i : Int) ≤ (rs.length : Int) := by omega
 have hi2 : (i : Int) ≤ (cap : Int) := by omega
 clear hb ho hii hu hsl
 have HROW := Lib.hid (show Row size (rs.take i ++ (a, n) :: rs.drop i) by rw [HI.out]; exact row_insert h3 (by omega) (by omega) (by rw [← HI.out]; exact HU.out))
 obtain ⟨M, hM⟩ : ∃ M, M = joinL (rs.take i ++ (a, n) :: rs.drop i) := ⟨_, rfl⟩
 have HMM := Lib.hid hM
 rw [← hM]
 clear hM
 obtain ⟨A3, hA3⟩ : ∃ A3, (if cap = i then some (⟨g, 0, none⟩ : Addr) else some ⟨g, i * 2, none⟩) = A3 := ⟨_, rfl⟩
 go_enter Tryz.func106, Tryz.ntmps106
 go_wp2_with fail
 refine H.out.mono ?_
 rintro e w1 ⟨rfl, rfl⟩
 go_wp2_with fail
 refine HF.out.mono ?_
 rintro e w1 ⟨rfl, hb1⟩
 have hcm : w1.cell? ⟨mb, 1, none⟩ = some (.slice (some ⟨g, 0, none⟩) rs.length cap) := (HB.out.below hb1).cell 1
 have HCC := Lib.hid (take_concat mb i a n i (cap - i) (some ⟨g, 0, none⟩) A3 _ _ rs w1 (HB.out.below hb1) (by have := (HS.out.below hb1).takeAt hile (fun e => by simp at e); rw [encR_take] at this; exact this) (by have := (HS.out.below hb1).dropAt hile; rw [Nat.zero_add, encR_drop, hA3] at this; exact this) hile (by omega))
 have hmlt := (HB.out.below hb1).lt
 have HB1 := Lib.hid hb1
 clear hb1
 go_upto_region 4 with fail
 go_cut [36] (fun s wx => s = .bool false ∧ wx = w1)
 case first =>
  by_cases hil : i < rs.length
  ·obtain ⟨q, hq⟩ : ∃ q, q = rs.getD i (0, 0) := ⟨_, rfl⟩
   have hcl := (encR_get rs i hil).1
   have hu := HU.out hil
   rw [← hq] at hcl hu
   obtain ⟨q1, q2⟩ := q
   dsimp only at hcl hu
   have hu' : ¬ (q1 : Int) < (a : Int) + (n : Int) := by omega
   have hcg : w1.cell? ⟨g, i * 2, none⟩ = some (.int .i64 q1) := by rw [(owns_below HO.out HB1.out).cellAt _ (by omega)]; exact hcl
   clear hcl hq hu
   go_wp2_with fail
   go_meet
   exact ⟨rfl, rfl⟩
  ·have hil' : ¬ (i : Int) < (rs.length : Int) := by omega
   go_wp2_with fail
   go_meet
   exact ⟨rfl, rfl⟩
 case rest =>
  obtain ⟨rfl, rfl⟩ := hcut
  go_wp2_with fail
  go_region_with (first
    | (go_at_call 91; refine HCC.out.mono ?_; rintro e w2 ⟨v2, rfl, hown2, hcm2, hb2⟩; obtain ⟨ao2, cap2, rfl, hr2⟩ := RSl.of_owns hown2; have hj := joined_any size ao2 _ cap2 _ w2 hr2 (by omega) (by omega) HROW.out; rw [← HMM.out] at hj; have HJ := Lib.hid hj; clear hj; have H2 := Lib.hid hb2; clear hown2 hr2 hb2)
    | (go_at_call 124; refine HJ.out.mono ?_; rintro e w3 ⟨v3, rfl, hown3, hb3⟩; obtain ⟨ao3, cap3, rfl, _⟩ := RSl.of_owns hown3; have HO3 := Lib.hid (owns_weaken hown3 (Nat.zero_le _)); clear hown3; have hcm3 := (hb3.cell (p := ⟨mb, 1, none⟩) (block_lt_of_cell hcm2)).trans hcm2; have BK3 := Lib.hid (((HB.out.below HB1.out).below H2.out).below hb3); have hfz3 := BK3.out.frozen 1))
  all_goals go_wp2_with fail
  all_goals go_ret
  all_goals exact ⟨rfl, ⟨_, BK3.out.setCell 1 _, owns_setCell_other HO3.out BK3.out (by decide)⟩, grown_store ((HB1.out.trans (H2.out.mono HB1.out.size)).trans (hb3.mono (Nat.le_trans HB1.out.size H2.out.size)))⟩
set_option maxHeartbeats 3200000 in
set_option maxRecDepth 100000 in
theorem take_ok_none (mb size : Nat) (a n : Nat) (w : World) (h1 : size ≤ 65536)
  (hb : Blk w mb 154 [.int .i64 size, .slice none 0 0]) (hmay : May size a n) :
  Calls Tryz.prog 106 #[.pointer (some ⟨mb, 0, none⟩), .int .i64 a, .int .i64 n] w fun e w' => e = .returned (.int .i64 0) ∧
   (∃ v, Blk w' mb 154 [.int .i64 size, v] ∧ w'.ownsRow 0 130 2 v (joinL [(a, n)]).length (encR (joinL [(a, n)]))) ∧ w.grownBy w' (some mb) := by
 have H := Lib.hid (may_yes mb size a n w (hb.cell 0) h1 hmay)
 obtain ⟨hm1, hm2, hm3, hm4⟩ := hmay
 have HF := Lib.hid (first_any mb a none 0 [] size w (hb.cell 1) (RSl.nil _ _) h1 ⟨by simp, List.Pairwise.nil⟩ (by simp))
 have HB := Lib.hid hb
 have hrow : Row size [(a, n)] := ⟨fun r hr => by rw [List.mem_singleton.1 hr]; dsimp only; omega, List.pairwise_singleton _ _⟩
 have HROW := Lib.hid hrow
 obtain ⟨M, hM⟩ : ∃ M, M = joinL [(a, n)] := ⟨_, rfl⟩
 have HMM := Lib.hid hM
 rw [← hM]
 clear hb hM hrow
 have e0 : firstOf [] a = 0 := rfl
 rw [e0] at HF
 clear e0
 go_enter Tryz.func106, Tryz.ntmps106
 go_wp2_with fail
 refine H.out.mono ?_
 rintro e w1 ⟨rfl, rfl⟩
 go_wp2_with fail
 refine HF.out.mono ?_
 rintro e w1 ⟨rfl, hb1⟩
 have hcm : w1.cell? ⟨mb, 1, none⟩ = some (.slice none 0 0) := (HB.out.below hb1).cell 1
 have HCC := Lib.hid (take_concat mb 0 a n 0 0 none none _ _ [] w1 (HB.out.below hb1) (RSl.nil _ _) (RSl.nil _ _) (by simp) (by simp))
 have hmlt := (HB.out.below hb1).lt
 have HB1 := Lib.hid hb1
 clear hb1
 go_wp2_with fail
 go_region_with (first
   | (go_at_call 91; refine HCC.out.mono ?_; rintro e w2 ⟨v2, rfl, hown2, hcm2, hb2⟩; obtain ⟨ao2, cap2, rfl, hr2⟩ := RSl.of_owns hown2; have hj := joined_any size ao2 _ cap2 [(a, n)] w2 hr2 (by simp) (by omega) HROW.out; rw [← HMM.out] at hj; have HJ := Lib.hid hj; clear hj; have H2 := Lib.hid hb2; clear hown2 hr2 hb2)
   | (go_at_call 124; refine HJ.out.mono ?_; rintro e w3 ⟨v3, rfl, hown3, hb3⟩; obtain ⟨ao3, cap3, rfl, _⟩ := RSl.of_owns hown3; have HO3 := Lib.hid (owns_weaken hown3 (Nat.zero_le _)); clear hown3; have hcm3 := (hb3.cell (p := ⟨mb, 1, none⟩) (block_lt_of_cell hcm2)).trans hcm2; have BK3 := Lib.hid (((HB.out.below HB1.out).below H2.out).below hb3); have hfz3 := BK3.out.frozen 1))
 all_goals go_wp2_with fail
 all_goals go_ret
 all_goals exact ⟨rfl, ⟨_, BK3.out.setCell 1 _, owns_setCell_other HO3.out BK3.out (by decide)⟩, grown_store ((HB1.out.trans (H2.out.mono HB1.out.size)).trans (hb3.mono (Nat.le_trans HB1.out.size H2.out.size)))⟩
theorem take_any (mb size : Nat) (rs : List (Nat × Nat)) (a n : Int) (w : World) (h : IsMap w mb size rs) :
  Calls Tryz.prog 106 #[.pointer (some ⟨mb, 0, none⟩), .int .i64 a, .int .i64 n] w fun e w' => e = .returned (.int .i64 (takeS size rs a n).1) ∧ IsMap w' mb size (takeS size rs a n).2 ∧ w.grownBy w' (some mb) := by
 by_cases hm : May size a n
 ·have hg := takeS_good h.2.2.1 a n
  have hm' := hm
  obtain ⟨hm1, hm2, hm3, hm4⟩ := hm
  obtain ⟨a, rfl⟩ := Int.eq_ofNat_of_zero_le hm2
  obtain ⟨n, rfl⟩ := Int.eq_ofNat_of_zero_le (show 0 ≤ n by omega)
  by_cases hu : firstOf rs a < rs.length ∧ (rs.getD (firstOf rs a) (0, 0)).1 < a + n
  ·have e : takeS size rs (a : Int) (n : Int) = (13, rs) := by unfold takeS; rw [if_pos hm', if_pos (by simpa using hu)]
   rw [e]
   refine (take_used mb size rs a n w h hm' hu.1 hu.2).mono fun e w' ⟨he, hb⟩ => ⟨he, h.below hb, grown_of_below hb⟩
  ·have e : takeS size rs (a : Int) (n : Int) = (0, joinL (rs.take (firstOf rs a) ++ (a, n) :: rs.drop (firstOf rs a))) := by unfold takeS; rw [if_pos hm', if_neg (by simpa using hu)]; simp
   rw [e] at hg ⊢
   obtain ⟨h1, h2, h3, h4, v, hb, ho⟩ := h
   obtain ⟨ao, cap, rfl, hr⟩ := RSl.of_owns ho
   have hl2 := good_len hg
   rcases ho.2 with ⟨hv, h0⟩ | ⟨g, cap', cur, hv, hbg, _⟩
   ·simp only [Value.slice.injEq] at hv
    obtain ⟨rfl, _, rfl⟩ := hv
    have hrs : rs = [] := List.eq_nil_of_length_eq_zero h0
    subst hrs
    exact (take_ok_none mb size a n w h1 hb hm').mono fun e w' ⟨he, hv, hg'⟩ => ⟨he, ⟨h1, h2, hg, by omega, hv⟩, hg'⟩
   ·simp only [Value.slice.injEq, true_and] at hv
    obtain ⟨rfl, rfl⟩ := hv
    exact (take_ok_some mb size g cap rs a n _ w h1 h3 h4 hb ho hm' rfl (fun hlt => by simp only [not_and, Nat.not_lt] at hu; exact hu hlt)).mono fun e w' ⟨he, hv, hg'⟩ => ⟨he, ⟨h1, h2, hg, by omega, hv⟩, hg'⟩
 ·have e : takeS size rs a n = (1, rs) := by unfold takeS; rw [if_neg hm]
  rw [e]
  exact (take_arg mb size rs a n w h hm).mono fun e w' ⟨he, hw⟩ => by subst hw; exact ⟨he, h, World.grownBy.refl _ _⟩
end Go.Proofs.YtfaemcfjbbbbdaaGreat
namespace Go.Proofs.YtfaemcfjbbbbdaaGreat
open Go.RowKit
attribute [local go_sem ↓] Go.wp_at_zero Go.wp_at_succ
theorem cutR (ao : Option Addr) (n cap i : Nat) (rs : List (Nat × Nat)) (w : World) (h : RSl w 2 ao n cap (encR rs)) (hn : n = rs.length) (hi : i ≤ n) :
  ∃ (A3 : Option Addr) (n3 c3 : Nat), (∀ W : World, (Instr.slice 127 (.slice ao n cap) (some (.int .i64 i)) none none).run Tryz.prog W = .ok (.slice A3 n3 c3) W) ∧ RSl w 2 A3 n3 c3 (encR (rs.drop i)) ∧ n3 = (rs.drop i).length := by
 have hu : Tryz.prog.underlying 127 = some (.slice (Tryz.prog.elem 127)) := by kernel_rfl
 have hz : ∀ W : World, (sizeOf (Tryz.prog.elem 127)).run Tryz.prog W = .ok 2 W := fun W => by kernel_rfl
 have hrun : ∀ W : World, (Instr.slice 127 (.slice ao n cap) (some (.int .i64 i)) none none).run Tryz.prog W = .ok (sliced ao i n cap 2) W := fun W => by
  rw [run_slice_l (P := Tryz.prog) (w := W) (t := 127) (a := ao) (len := n) (cap := cap) (ht := hu) (kl := .i64) (l := (i : Int)) (h0 := by omega) (h1 := by omega), hz]
  rfl
 have hl : n - i = (rs.drop i).length := by rw [List.length_drop, hn]
 cases ao with
 | none =>
  have h0 : cap = 0 := h.2.2.2.1 rfl
  have hn0 : n = 0 := by have := h.2.1; omega
  have hi0 : i = 0 := by omega
  subst hi0
  refine ⟨none, n, cap, fun W => ?_, ?_, by omega⟩
  ·rw [hrun]; subst h0; subst hn0; rfl
  ·simpa using h
 | some ad =>
  by_cases hn0 : 0 < n
  ·obtain ⟨b, off, e, hlt, hc⟩ := h.2.2.2.2 hn0
   simp only [Option.some.injEq] at e
   subst e
   have hd := h.dropAt hi
   rw [encR_drop] at hd
   refine ⟨_, n - i, cap - i, fun W => ?_, hd, hl⟩
   rw [hrun]
   unfold sliced
   rw [show (Option.map (fun x : Addr => x.add (i * 2)) (some ⟨b, off, none⟩)) = some ⟨b, off + i * 2, none⟩ from by
    simp only [Option.map_some, Option.some.injEq]
    unfold Addr.add
    split <;> simp_all]
  ·have hn0' := hn0
   have hi0 : i = 0 := by omega
   subst hi0
   refine ⟨(if cap = 0 then some ad else some (ad.add 0)), n, cap, fun W => ?_, ?_, by omega⟩
   ·rw [hrun]; rfl
   ·refine ⟨h.1, h.2.1, h.2.2.1, fun e => ?_, fun hp => absurd hp hn0'⟩
    split at e <;> simp at e
set_option maxHeartbeats 3200000 in
set_option maxRecDepth 100000 in
theorem fit_any (mb size f : Nat) (rs : List (Nat × Nat)) (n : Int) (w : World) (h : IsMap w mb size rs) (hf : f ≤ size) :
  Calls Tryz.prog 123 #[.pointer (some ⟨mb, 0, none⟩), .int .i64 n, .int .i64 f] w fun e w' => e = .returned (.int .i64 (optI (fitS size rs n f))) ∧ Below w.heap.size w w' := by
 obtain ⟨h1, h2, h3, h4, v, hb, ho⟩ := h
 obtain ⟨ao, cap, rfl, hsl⟩ := RSl.of_owns ho
 have hile := firstOf_le rs f
 obtain ⟨i, hii⟩ : ∃ i, i = firstOf rs f := ⟨_, rfl⟩
 have hcap : rs.length ≤ cap := hsl.2.1
 have hcap2 : cap ≤ 9223372036854775807 := by have := hsl.2.2.1; unfold maxLen at this; exact this
 obtain ⟨A3, n3, c3, hA, hr3, hn3⟩ := cutR ao rs.length cap i rs w hsl rfl (hii ▸ hile)
 have HF := Lib.hid (first_any mb f ao cap rs size w.drew (((hb.below (Below.refl _ _).drew)).cell 1) (hsl.below (Below.refl _ _).drew) h1 h3 h4)
 rw [← hii] at HF hile
 have hfs : fitS size rs n f = fitGo size n (rs.drop i) f := by rw [fitS, ← hii]
 rw [hfs]
 have hc0 : w.cell? ⟨mb, 0, none⟩ = some (.int .i64 size) := hb.cell 0
 have hc1 : w.cell? ⟨mb, 1, none⟩ = some (.slice ao rs.length cap) := hb.cell 1
 have hlt := hb.lt
 have HR := Lib.hid hr3
 have HN3 := Lib.hid hn3
 have hdm : ∀ r ∈ rs.drop i, r.1 + r.2 ≤ size := fun r hr => (h3.1 r (List.mem_of_mem_drop hr)).2
 obtain ⟨D, hD⟩ : ∃ D, D = rs.drop i := ⟨_, rfl⟩
 rw [← hD] at HR HN3 hdm ⊢
 have HDM := Lib.hid hdm
 have hD6 : D.length ≤ 65536 := by rw [hD, List.length_drop]; omega
 have HB := Lib.hid hb
 clear hb ho hsl hii hfs hr3 hn3 hdm hD h3
 go_enter Tryz.func123, Tryz.ntmps123
 go_wp2_with fail
 go_region_held3 (fun w' => w'.cell? ⟨mb, 1, none⟩ = some (.slice ao rs.length cap)) (go_keep)
  (first
   | (go_at_call 88; refine HF.out.mono ?_; rintro e w1 ⟨rfl, hb1⟩; have hd1 := (hb1.cell (p := ⟨mb, 1, none⟩) hlt).trans hc1))
 have HRW := Lib.hid (HR.out.below (((Below.refl _ _).drew.trans hb1).mono (Nat.le_refl _)))
 have hs1 : w1.cell? ⟨mb, 0, none⟩ = some (.int .i64 size) := (((Below.refl _ _).drew.trans hb1).cell (p := ⟨mb, 0, none⟩) hlt).trans hc0
 have HB1 := Lib.hid ((Below.refl w.heap.size w).drew.trans hb1)
 clear hc0 hc1 hlt hb1 hd1 hA
 go_wp2_with fail
 have hDn := HN3.out
 go_loopw [7, 20] (fun t i wr => ∃ k q : Nat, k ≤ n3 ∧ i = .int .i64 k ∧ t = .int .i64 q ∧ q ≤ size ∧ fitGo size n (D.drop k) q = fitGo size n D f ∧ Below w1.heap.size w1 wr ∧ Below w.heap.size w wr) (fun _ i _ => n3 - (intOf i).toNat)
 case atStart => exact ⟨0, f, by omega, rfl, rfl, hf, rfl, Below.refl _ _, HB1.out⟩
 case round =>
  obtain ⟨k, q, hk, rfl, rfl, hq, hgo, hbel, hbel2⟩ := hrel
  by_cases hkn : k < n3
  ·obtain ⟨b, off, rfl, hb, hc⟩ := HRW.out.2.2.2.2 (by omega)
   have hkD : k < D.length := by omega
   obtain ⟨r, hr⟩ : ∃ r, r = D.getD k (0, 0) := ⟨_, rfl⟩
   obtain ⟨x, y⟩ := r
   have c0 : wr.cell? ⟨b, off + k * 2, none⟩ = some (.int .i64 x) := by rw [hbel.cell (p := ⟨b, _, none⟩) hb, hc _ (by omega), (encR_get D k hkD).1, ← hr]
   have c1 : wr.cell? ⟨b, off + k * 2 + 1, none⟩ = some (.int .i64 y) := by rw [Nat.add_assoc, hbel.cell (p := ⟨b, _, none⟩) hb, hc _ (by omega), (encR_get D k hkD).2, ← hr]
   have hm : x + y ≤ size := HDM.out (x, y) (by rw [hr, List.getD_eq_getElem?_getD, List.getElem?_eq_getElem hkD]; exact List.getElem_mem _)
   have hdr : D.drop k = (x, y) :: D.drop (k + 1) := by
    rw [List.drop_eq_getElem_cons hkD, hr, List.getD_eq_getElem?_getD, List.getElem?_eq_getElem hkD]; rfl
   rw [hdr] at hgo
   have HGO := Lib.hid hgo
   have hw1 : IntKind.i64.wrap ((x : Int) - (q : Int)) = (x : Int) - (q : Int) := IntWalk.i64_in _ (by omega)
   have hw2 : IntKind.i64.wrap ((x : Int) + (y : Int)) = (x : Int) + (y : Int) := IntWalk.i64_in _ (by omega)
   clear hdr hgo hr hc
   by_cases hd : n ≤ (x : Int) - (q : Int)
   ·go_wp2_with fail
    go_ret
    exact ⟨by rw [← HGO.out, fitGo, if_pos hd]; rfl, by first | exact hbel2.alloc hbel2.size _ | exact (hbel2.alloc hbel2.size _).drewN _⟩
   ·go_wp2_with fail
    go_roundw
    case rel =>
     refine ⟨k + 1, max q (x + y), by omega, by go_num, ?_, by omega, by rw [← HGO.out, fitGo, if_neg hd], hbel.alloc hbel.size _, hbel2.alloc hbel2.size _⟩
     congr 1
     first | (split <;> omega) | omega
    case measure => simp [intOf]; omega
  ·have hkn' : k = n3 := by omega
   have hdr : D.drop k = [] := List.drop_eq_nil_of_le (by omega)
   rw [hdr] at hgo
   have HGO := Lib.hid hgo
   clear hdr hgo
   subst hkn'
   have hsr : wr.cell? ⟨mb, 0, none⟩ = some (.int .i64 size) := (hbel.cell (p := ⟨mb, 0, none⟩) (block_lt_of_cell hs1)).trans hs1
   have hw1 : IntKind.i64.wrap ((size : Int) - (q : Int)) = (size : Int) - (q : Int) := IntWalk.i64_in _ (by omega)
   by_cases hd : n ≤ (size : Int) - (q : Int)
   ·go_wp2_with fail
    go_ret
    exact ⟨by rw [← HGO.out, fitGo, if_pos hd]; rfl, hbel2⟩
   ·go_wp2_with fail
    go_ret
    exact ⟨by rw [← HGO.out, fitGo, if_neg (by omega)]; rfl, hbel2⟩
set_option maxHeartbeats 3200000 in
set_option maxRecDepth 100000 in
theorem find_any (mb size : Nat) (rs : List (Nat × Nat)) (n f : Int) (w : World) (h : IsMap w mb size rs) :
  Calls Tryz.prog 105 #[.pointer (some ⟨mb, 0, none⟩), .int .i64 n, .int .i64 f] w fun e w' => e = .returned (.tuple #[.int .i64 ((findS size rs n f).getD 0), .bool (findS size rs n f).isSome]) ∧ Below w.heap.size w w' := by
 have hc0 : w.cell? ⟨mb, 0, none⟩ = some (.int .i64 size) := by
  obtain ⟨_, _, _, _, v, hb, _⟩ := h
  exact hb.cell 0
 by_cases hno : 1 ≤ n ∧ 0 ≤ f ∧ f ≤ size
 ·obtain ⟨g1, g2, g3⟩ := hno
  obtain ⟨q, rfl⟩ : ∃ q : Nat, f = q := ⟨f.toNat, by omega⟩
  have e : findS size rs n q = match fitS size rs n q with | some x => some x | none => fitS size rs n 0 := by
   rw [findS, if_pos ⟨g1, g2, g3⟩]; rfl
  rw [e]
  have H1 := Lib.hid fun W (hW : Below w.heap.size w W) => fit_any mb size q rs n W (h.below hW) (by omega)
  have H2 := Lib.hid fun W (hW : Below w.heap.size w W) => fit_any mb size 0 rs n W (h.below hW) (by omega)
  obtain ⟨o1, ho1⟩ : ∃ o, o = fitS size rs n q := ⟨_, rfl⟩
  obtain ⟨o2, ho2⟩ : ∃ o, o = fitS size rs n 0 := ⟨_, rfl⟩
  rw [← ho1, ← ho2]
  rw [← ho1] at H1
  rw [← ho2] at H2
  clear h e ho1 ho2
  have hlt := block_lt_of_cell hc0
  rcases o1 with _ | x1
  ·have H1' := Lib.hid fun W hW => (show Calls _ _ _ _ fun e w' => e = .returned (.int .i64 (-1)) ∧ _ from H1.out W hW)
   clear H1
   rcases o2 with _ | x2
   ·have H2' := Lib.hid fun W hW => (show Calls _ _ _ _ fun e w' => e = .returned (.int .i64 (-1)) ∧ _ from H2.out W hW)
    clear H2
    go_enter Tryz.func105, Tryz.ntmps105
    go_wp2_with fail
    refine wp_loop_rounds 3 ?_
    rw [rounds_succ]
    go_wp2_with fail
    refine (H1'.out _ ((Below.refl _ _).alloc (Nat.le_refl _) _)).mono ?_
    rintro e w1 ⟨rfl, hb1⟩
    have hc1 : w1.cell? ⟨mb, 0, none⟩ = some (.int .i64 size) := by rw [hb1.cell (p := ⟨mb, 0, none⟩) (by simp; omega), World.cell?_alloc_past _ _ _ hlt]; exact hc0
    have hcA : w1.cell? ⟨w.heap.size, 1, none⟩ = some (.int .i64 0) := by rw [hb1.cell (p := ⟨w.heap.size, 1, none⟩) (by simp), World.cell?_alloc_at _ _ _ _ rfl]; rfl
    have hB1 : Below w.heap.size w w1 := ((Below.refl _ _).alloc (Nat.le_refl _) _).trans (hb1.mono (by simp))
    clear hb1
    go_wp2_with fail
    rw [rounds_succ]
    go_wp2_with fail
    refine (H2'.out _ hB1).mono ?_
    rintro e w2 ⟨rfl, hb2⟩
    have hB2 : Below w.heap.size w w2 := hB1.trans (hb2.mono hB1.size)
    clear hb2
    go_wp2_with fail
    rw [rounds_succ]
    go_wp2_with fail
    go_ret2
    exact ⟨rfl, hB2⟩
   ·have H2' := Lib.hid fun W hW => (show Calls _ _ _ _ fun e w' => e = .returned (.int .i64 x2) ∧ _ from H2.out W hW)
    clear H2
    go_enter Tryz.func105, Tryz.ntmps105
    go_wp2_with fail
    refine wp_loop_rounds 3 ?_
    rw [rounds_succ]
    go_wp2_with fail
    refine (H1'.out _ ((Below.refl _ _).alloc (Nat.le_refl _) _)).mono ?_
    rintro e w1 ⟨rfl, hb1⟩
    have hc1 : w1.cell? ⟨mb, 0, none⟩ = some (.int .i64 size) := by rw [hb1.cell (p := ⟨mb, 0, none⟩) (by simp; omega), World.cell?_alloc_past _ _ _ hlt]; exact hc0
    have hcA : w1.cell? ⟨w.heap.size, 1, none⟩ = some (.int .i64 0) := by rw [hb1.cell (p := ⟨w.heap.size, 1, none⟩) (by simp), World.cell?_alloc_at _ _ _ _ rfl]; rfl
    have hB1 : Below w.heap.size w w1 := ((Below.refl _ _).alloc (Nat.le_refl _) _).trans (hb1.mono (by simp))
    clear hb1
    go_wp2_with fail
    rw [rounds_succ]
    go_wp2_with fail
    refine (H2'.out _ hB1).mono ?_
    rintro e w2 ⟨rfl, hb2⟩
    have hB2 : Below w.heap.size w w2 := hB1.trans (hb2.mono hB1.size)
    clear hb2
    go_wp2_with fail
    go_ret2
    exact ⟨rfl, hB2⟩
  ·have H1' := Lib.hid fun W hW => (show Calls _ _ _ _ fun e w' => e = .returned (.int .i64 x1) ∧ _ from H1.out W hW)
   clear H1 H2
   go_enter Tryz.func105, Tryz.ntmps105
   go_wp2_with fail
   refine wp_loop_rounds 3 ?_
   rw [rounds_succ]
   go_wp2_with fail
   refine (H1'.out _ ((Below.refl _ _).alloc (Nat.le_refl _) _)).mono ?_
   rintro e w1 ⟨rfl, hb1⟩
   have hB1 : Below w.heap.size w w1 := ((Below.refl _ _).alloc (Nat.le_refl _) _).trans (hb1.mono (by simp))
   clear hb1
   go_wp2_with fail
   go_ret2
   exact ⟨rfl, hB1⟩
 ·have e : findS size rs n f = none := by rw [findS, if_neg hno]
  rw [e]
  clear h e
  go_enter Tryz.func105, Tryz.ntmps105
  go_wp2_with fail
  all_goals (go_ret2; exact ⟨rfl, Below.refl _ _⟩)
end Go.Proofs.YtfaemcfjbbbbdaaGreat
namespace Go.Proofs.YtfaemcfjbbbbdaaGreat
open Go.RowKit
attribute [local go_sem ↓] Go.wp_at_zero Go.wp_at_succ
theorem new_yes (n : Nat) (w : World) (h : 1 ≤ n) (h2 : n ≤ 65536) :
  Calls Tryz.prog 55 #[.int .i64 n] w fun e w' => e = .returned (.tuple #[.pointer (some ⟨w.heap.size, 0, none⟩), .int .i64 0]) ∧ IsMap w' w.heap.size n [] ∧ Below w.heap.size w w' := by
 go_enter Tryz.func55, Tryz.ntmps55
 go_wp2
 go_ret2
 exact ⟨rfl, ⟨h2, h, ⟨by simp, List.Pairwise.nil⟩, by simp, .slice none 0 0, Blk.new w 154 [.int .i64 n, .slice none 0 0], World.ownsRow_nil _ _ _ _⟩, (Below.refl _ _).alloc (Nat.le_refl _) _⟩
theorem size_any (mb size : Nat) (rs : List (Nat × Nat)) (w : World) (h : IsMap w mb size rs) :
  Calls Tryz.prog 57 #[.pointer (some ⟨mb, 0, none⟩)] w fun e w' => e = .returned (.int .i64 size) ∧ w = w' := by
 obtain ⟨_, _, _, _, v, hb, _⟩ := h
 have hc : w.cell? ⟨mb, 0, none⟩ = some (.int .i64 size) := hb.cell 0
 clear hb
 go_enter Tryz.func57, Tryz.ntmps57
 go_wp2
 go_ret
 exact ⟨rfl, rfl⟩
theorem runs_any (mb size : Nat) (rs : List (Nat × Nat)) (w : World) (h : IsMap w mb size rs) :
  Calls Tryz.prog 58 #[.pointer (some ⟨mb, 0, none⟩)] w fun e w' => ∃ v, e = .returned v ∧ w'.ownsRow w.heap.size 130 2 v rs.length (encR rs) ∧ Below w.heap.size w w' := by
 obtain ⟨_, _, _, hl, v, hb, ho⟩ := h
 obtain ⟨ao, cap, rfl, hr⟩ := RSl.of_owns ho
 have hc : w.cell? ⟨mb, 1, none⟩ = some (.slice ao rs.length cap) := hb.cell 1
 have H := Lib.hid (cloneR_any ao rs.length cap (encR rs) w hr (encR_one _) (by omega))
 clear hb ho hr
 go_enter Tryz.func58, Tryz.ntmps58
 go_wp2_with fail
 refine H.out.mono ?_
 rintro e w1 ⟨v1, rfl, hown, hb1⟩
 go_wp2_with fail
 go_ret
 exact ⟨_, rfl, hown, hb1⟩
theorem copy_any (mb size : Nat) (rs : List (Nat × Nat)) (w : World) (h : IsMap w mb size rs) :
  Calls Tryz.prog 103 #[.pointer (some ⟨mb, 0, none⟩)] w fun e w' => ∃ cb, e = .returned (.pointer (some ⟨cb, 0, none⟩)) ∧ w.heap.size ≤ cb ∧ IsMap w' cb size rs ∧ Below w.heap.size w w' := by
 obtain ⟨h1, h2, h3, hl, v, hb, ho⟩ := h
 obtain ⟨ao, cap, rfl, hr⟩ := RSl.of_owns ho
 have hc0 : w.cell? ⟨mb, 0, none⟩ = some (.int .i64 size) := hb.cell 0
 have hc : w.cell? ⟨mb, 1, none⟩ = some (.slice ao rs.length cap) := hb.cell 1
 have H := Lib.hid (cloneR_any ao rs.length cap (encR rs) w.drew (hr.below (Below.refl _ _).drew) (encR_one _) (by omega))
 have hlt := hb.lt
 have H3 := Lib.hid h3
 clear hb ho hr h3
 go_enter Tryz.func103, Tryz.ntmps103
 go_wp2_with fail
 go_region_held3 (fun w' => w'.cell? ⟨mb, 0, none⟩ = some (.int .i64 size) ∧ w'.cell? ⟨mb, 1, none⟩ = some (.slice ao rs.length cap)) (go_keep)
  (first
   | (go_at_call 79; refine H.out.mono ?_; rintro e w1 ⟨v1, rfl, hown, hb1⟩; obtain ⟨ao1, cap1, rfl, _⟩ := RSl.of_owns hown; have hd0 := (hb1.cell (p := ⟨mb, 0, none⟩) hlt).trans hc0; have hd1 := (hb1.cell (p := ⟨mb, 1, none⟩) hlt).trans hc))
 go_wp2_with fail
 go_ret
 exact ⟨_, rfl, hb1.size, ⟨h1, h2, H3.out, hl, _, Blk.new w1 154 [.int .i64 size, .slice ao1 rs.length cap1], owns_weaken (hown.alloc _) (Nat.zero_le _)⟩, ((Below.refl _ _).drew.trans hb1).alloc hb1.size _⟩
theorem left_any (mb size : Nat) (rs : List (Nat × Nat)) (w : World) (h : IsMap w mb size rs) :
  Calls Tryz.prog 29 #[.pointer (some ⟨mb, 0, none⟩)] w fun e w' => e = .returned (.int .i64 ((size : Int) - (sumR rs : Int))) ∧ Below w.heap.size w w' := by
 have hs := good_sum h.2.2.1
 have h65 := h.1
 have HS := Lib.hid (size_any mb size rs w h)
 have HR := Lib.hid (runs_any mb size rs w h)
 have hl := h.2.2.2.1
 clear h
 go_enter Tryz.func29, Tryz.ntmps29
 go_wp2_with fail
 refine HS.out.mono ?_
 rintro e w1 ⟨rfl, rfl⟩
 go_wp2_with fail
 refine HR.out.mono ?_
 rintro e w1 ⟨v1, rfl, hown, hb1⟩
 obtain ⟨ao1, cap1, rfl, hr1⟩ := RSl.of_owns hown
 have HR1 := Lib.hid hr1
 clear hown hr1
 go_wp2_with fail
 go_loopw [3, 11] (fun t i wr => ∃ k : Nat, k ≤ rs.length ∧ i = .int .i64 k ∧ t = .int .i64 ((size : Int) - (sumR (rs.take k) : Int)) ∧ Below w1.heap.size w1 wr ∧ Below w.heap.size w wr) (fun _ i _ => rs.length - (intOf i).toNat)
 case atStart => exact ⟨0, by omega, rfl, by simp [sumR], Below.refl _ _, hb1⟩
 case round =>
  obtain ⟨k, hk, rfl, rfl, hbel, hbel2⟩ := hrel
  by_cases hkn : k < rs.length
  ·obtain ⟨b, off, rfl, hb, hc⟩ := HR1.out.2.2.2.2 (by omega)
   obtain ⟨x, hx⟩ : ∃ x, x = (rs.getD k (0, 0)).1 := ⟨_, rfl⟩
   obtain ⟨y, hy⟩ : ∃ y, y = (rs.getD k (0, 0)).2 := ⟨_, rfl⟩
   have c0 : wr.cell? ⟨b, off + k * 2, none⟩ = some (.int .i64 x) := by rw [hbel.cell (p := ⟨b, _, none⟩) hb, hc _ (by omega), (encR_get rs k hkn).1, ← hx]
   have c1 : wr.cell? ⟨b, off + k * 2 + 1, none⟩ = some (.int .i64 y) := by rw [Nat.add_assoc, hbel.cell (p := ⟨b, _, none⟩) hb, hc _ (by omega), (encR_get rs k hkn).2, ← hy]
   have hst := sumR_step rs k hkn
   rw [← hy] at hst
   have hle := sumR_take_le rs (k + 1)
   have hbd : sumR (rs.take k) + y ≤ size := by omega
   have HST := Lib.hid hst
   clear hst hc hx hy hle
   go_wp2_with fail
   go_roundw
   case rel => exact ⟨k + 1, by omega, by go_num, by rw [HST.out]; go_num, hbel.alloc hbel.size _, hbel2.alloc hbel2.size _⟩
   case measure => simp [intOf]; omega
  ·have hkn' : k = rs.length := by omega
   subst hkn'
   rw [List.take_length]
   go_wp2_with fail
   go_ret
   exact ⟨rfl, hbel2⟩
end Go.Proofs.YtfaemcfjbbbbdaaGreat
namespace Go.Proofs.YtfaemcfjbbbbdaaGreat
open Go.RowKit
theorem IsMap.ownKept {w w' : World} {mb size base k n : Nat} {e : TypeId} {rs : List (Nat × Nat)} {v : Value} {xs : List Value} (h : IsMap w mb size rs) (ho : w.ownsRow base e k v n xs) (he1 : e ≠ 154) (he2 : e ≠ 130) (hg : w.grownBy w' v.ownBlock) : IsMap w' mb size rs := by
 obtain ⟨h1, h2, h3, h4, v', h5, h6⟩ := h
 rcases ho.2 with ⟨rfl, _⟩ | ⟨g, cap, cur, rfl, _, hh, _⟩
 ·refine ⟨h1, h2, h3, h4, v', ?_, h6.kept hg ?_⟩
  ·unfold Blk
   rw [hg.block mb h5.lt (by simp [Value.ownBlock])]
   exact h5
  ·rcases h6.2 with ⟨rfl, _⟩ | ⟨g', cap', cur', rfl, _, hh', _⟩
   ·exact .inl rfl
   ·exact .inr (by simp [Value.ownBlock])
 ·refine ⟨h1, h2, h3, h4, v', ?_, h6.kept hg ?_⟩
  ·unfold Blk
   rw [hg.block mb h5.lt ?_]
   ·exact h5
   ·simp only [Value.ownBlock, ne_eq, Option.some.injEq]
    intro eq
    subst eq
    unfold Blk at h5
    rw [hh] at h5
    simp only [Option.some.injEq, Obj.cells.injEq] at h5
    exact he1 h5.2.1
  ·rcases h6.2 with ⟨rfl, _⟩ | ⟨g', cap', cur', rfl, _, hh', _⟩
   ·exact .inl rfl
   ·refine .inr ?_
    simp only [Value.ownBlock, ne_eq, Option.some.injEq]
    intro eq
    subst eq
    rw [hh] at hh'
    simp only [Option.some.injEq, Obj.cells.injEq] at hh'
    exact he2 hh'.2.1
end Go.Proofs.YtfaemcfjbbbbdaaGreat
namespace Go.Proofs.YtfaemcfjbbbbdaaGreat
open Go.RowKit
def TyOk (w : World) (F : Nat → Prop) : Prop := ∀ k, F k → k < w.heap.size → ∃ cs e, w.heap[k]? = some (.cells cs e (0, 0)) ∧ (e = 90 ∨ e = 154 ∨ e = 3)
theorem Mod.owns {F : Nat → Prop} {w w' : World} {base e size n : Nat} {v : Value} {xs : List Value} (h : Mod F w w') (ht : TyOk w F) (ho : w.ownsRow base e size v n xs) (h1 : e ≠ 90) (h2 : e ≠ 154) (h3 : e ≠ 3) : w'.ownsRow base e size v n xs := by
 refine ⟨ho.1, ?_⟩
 rcases ho.2 with h' | ⟨g, cap, cur, hv, hg, hh, r⟩
 ·exact .inl h'
 ·refine .inr ⟨g, cap, cur, hv, hg, ?_, r⟩
  have hlt := (Array.getElem?_eq_some_iff.1 hh).1
  rw [h.block g hlt (fun hf => ?_)]
  ·exact hh
  ·obtain ⟨cs, e', hk, he⟩ := ht g hf hlt
   rw [hh] at hk
   simp only [Option.some.injEq, Obj.cells.injEq] at hk
   have hee := hk.2.1
   rcases he with he | he | he
   ·exact h1 (hee.trans he)
   ·exact h2 (hee.trans he)
   ·exact h3 (hee.trans he)
theorem Mod.map {F : Nat → Prop} {w w' : World} {mb size : Nat} {rs : List (Nat × Nat)} (h : Mod F w w') (ht : TyOk w F) (hm : IsMap w mb size rs) (hn : ¬ F mb) : IsMap w' mb size rs := by
 obtain ⟨h1, h2, h3, h4, v, h5, h6⟩ := hm
 exact ⟨h1, h2, h3, h4, v, h.blk h5 hn, h.owns ht h6 (by decide) (by decide) (by decide)⟩
theorem Blk.ownKept {w w' : World} {g e base e2 k n : Nat} {cs xs : List Value} {v : Value} (h : Blk w g e cs) (ho : w.ownsRow base e2 k v n xs) (hne : e2 ≠ e) (hg : w.grownBy w' v.ownBlock) : Blk w' g e cs := by
 unfold Blk
 rw [hg.block g h.lt ?_]
 ·exact h
 ·rcases ho.2 with ⟨rfl, _⟩ | ⟨g', cap, cur, rfl, _, hh, _⟩
  ·simp [Value.ownBlock]
  ·simp only [Value.ownBlock, ne_eq, Option.some.injEq]
   intro eq
   subst eq
   unfold Blk at h
   rw [hh] at h
   simp only [Option.some.injEq, Obj.cells.injEq] at h
   exact hne h.2.1
theorem owns_ownKept {w w' : World} {base base2 e e2 k k2 n n2 : Nat} {v v2 : Value} {xs xs2 : List Value} (h : w.ownsRow base e k v n xs) (ho : w.ownsRow base2 e2 k2 v2 n2 xs2) (hne : e2 ≠ e) (hg : w.grownBy w' v2.ownBlock) : w'.ownsRow base e k v n xs := by
 refine h.kept hg ?_
 rcases h.2 with ⟨rfl, _⟩ | ⟨g, cap, cur, rfl, _, hh, _⟩
 ·exact .inl rfl
 ·refine .inr ?_
  rcases ho.2 with ⟨rfl, _⟩ | ⟨g', cap', cur', rfl, _, hh', _⟩
  ·simp [Value.ownBlock]
  ·simp only [Value.ownBlock, ne_eq, Option.some.injEq]
   intro eq
   subst eq
   rw [hh] at hh'
   simp only [Option.some.injEq, Obj.cells.injEq] at hh'
   exact hne hh'.2.1.symm
theorem owns_setOther {w : World} {base e e2 k n g j : Nat} {v u : Value} {xs cs : List Value} (h : w.ownsRow base e k v n xs) (hb : Blk w g e2 cs) (hne : e ≠ e2) : (w.setCell ⟨g, j, none⟩ u).ownsRow base e k v n xs := owns_setCell_other h hb hne
theorem IsMap.setOther {w : World} {mb size g j e2 : Nat} {rs : List (Nat × Nat)} {u : Value} {cs : List Value} (h : IsMap w mb size rs) (hb : Blk w g e2 cs) (h1 : 154 ≠ e2) (h2 : 130 ≠ e2) : IsMap (w.setCell ⟨g, j, none⟩ u) mb size rs := by
 obtain ⟨a1, a2, a3, a4, v, h5, h6⟩ := h
 refine ⟨a1, a2, a3, a4, v, h5.other (a := ⟨g, j, none⟩) ?_ _, owns_setCell_other h6 hb h2⟩
 rintro rfl
 unfold Blk at h5 hb
 rw [h5] at hb
 simp only [Option.some.injEq, Obj.cells.injEq] at hb
 exact h1 hb.2.1
abbrev MT := Nat × Nat × List (Nat × Nat)
def encM (l : List Nat) : List Value := l.map fun b => .pointer (some ⟨b, 0, none⟩)
def encNs (l : List Nat) : List Value := l.map fun x => .int .i64 (x : Nat)
theorem encM_one (l : List Nat) : ∀ u ∈ encM l, u.oneCell' = true := by
 intro u hu
 obtain ⟨s, _, rfl⟩ := List.mem_map.1 hu
 rfl
theorem encNs_one (l : List Nat) : ∀ u ∈ encNs l, u.oneCell' = true := by
 intro u hu
 obtain ⟨s, _, rfl⟩ := List.mem_map.1 hu
 rfl
theorem encM_append (a b : List Nat) : encM (a ++ b) = encM a ++ encM b := by simp [encM]
theorem encM_get (l : List Nat) (j : Nat) (h : j < l.length) : (encM l)[j]? = some (.pointer (some ⟨l.getD j 0, 0, none⟩)) := by simp [encM, List.getD, h]
theorem encNs_get (l : List Nat) (j : Nat) (h : j < l.length) : (encNs l)[j]? = some (.int .i64 (l.getD j 0 : Nat)) := by simp [encNs, List.getD, h]
theorem encNs_set (l : List Nat) (j x : Nat) : (encNs l).set j (.int .i64 (x : Nat)) = encNs (l.set j x) := by simp [encNs, List.map_set]
def mD : MT := (0, 0, [])
structure IsBook (w : World) (bb eb : Nat) (gs : Gs) (secs : Int) (ms : List MT) (es : List Nat) : Prop where
 right : rightB gs secs = true
 mlen : ms.length = gs.length
 elen : es.length = gs.length
 mem : ∃ gv mv ec, Blk w bb 90 [gv, .int .i64 secs, mv, .slice (some ⟨eb, 0, none⟩) gs.length ec] ∧ w.ownsRow 0 31 2 gv gs.length (encG gs) ∧ w.ownsRow 0 91 1 mv gs.length (encM (ms.map (·.1))) ∧
  w.ownsRow 0 3 1 (.slice (some ⟨eb, 0, none⟩) gs.length ec) gs.length (encNs es)
 maps : ∀ m ∈ ms, IsMap w m.1 m.2.1 m.2.2
 nodup : (ms.map (·.1)).Nodup
def foot (bb eb : Nat) (ms : List MT) (k : Nat) : Prop := k = bb ∨ k = eb ∨ k ∈ ms.map (·.1)
theorem IsBook.tyOk {w : World} {bb eb : Nat} {gs : Gs} {secs : Int} {ms : List MT} {es : List Nat} (h : IsBook w bb eb gs secs ms es) : TyOk w (foot bb eb ms) := by
 intro k hk _
 obtain ⟨gv, mv, ec, h1, h2, h3, h4⟩ := h.mem
 rcases hk with rfl | rfl | hk
 ·exact ⟨_, _, h1, .inl rfl⟩
 ·obtain ⟨cs, hb, _⟩ := owns_blk h4
  exact ⟨_, _, hb, .inr (.inr rfl)⟩
 ·obtain ⟨m, hm, rfl⟩ := List.mem_map.1 hk
  obtain ⟨_, _, _, _, v, h5, _⟩ := h.maps m hm
  exact ⟨_, _, h5, .inr (.inl rfl)⟩
theorem IsBook.lt {w : World} {bb eb : Nat} {gs : Gs} {secs : Int} {ms : List MT} {es : List Nat} (h : IsBook w bb eb gs secs ms es) : ∀ k, foot bb eb ms k → k < w.heap.size := by
 intro k hk
 obtain ⟨gv, mv, ec, h1, h2, h3, h4⟩ := h.mem
 rcases hk with rfl | rfl | hk
 ·exact h1.lt
 ·obtain ⟨cs, hb, _⟩ := owns_blk h4
  exact hb.lt
 ·obtain ⟨m, hm, rfl⟩ := List.mem_map.1 hk
  exact (h.maps m hm).lt
theorem IsBook.keep {w w' : World} {bb eb : Nat} {gs : Gs} {secs : Int} {ms : List MT} {es : List Nat} {F : Nat → Prop} (h : IsBook w bb eb gs secs ms es) (hm : Mod F w w') (ht : TyOk w F) (hd : ∀ k, foot bb eb ms k → ¬ F k) : IsBook w' bb eb gs secs ms es := by
 obtain ⟨gv, mv, ec, h1, h2, h3, h4⟩ := h.mem
 refine ⟨h.right, h.mlen, h.elen, ⟨gv, mv, ec, hm.blk h1 (hd _ (.inl rfl)), hm.owns ht h2 (by decide) (by decide) (by decide), hm.owns ht h3 (by decide) (by decide) (by decide), ?_⟩, fun m hm' => hm.map ht (h.maps m hm') (hd _ (.inr (.inr (List.mem_map_of_mem hm')))), h.nodup⟩
 obtain ⟨cs, hb, p1, p2, p3, p4, p5⟩ := owns_blk h4
 have := blk_owns (base := 0) (n := gs.length) (size := 1) (hm.blk hb (hd _ (.inr (.inl rfl)))) p1 p2 p3 p4
 rwa [p5] at this
theorem IsBook.below {w w' : World} {bb eb : Nat} {gs : Gs} {secs : Int} {ms : List MT} {es : List Nat} (h : IsBook w bb eb gs secs ms es) (hb : Below w.heap.size w w') : IsBook w' bb eb gs secs ms es :=
 h.keep (F := fun _ => False) (Mod.below hb) (fun _ h => h.elim) (fun _ _ h => h)
theorem IsBook.parts {w : World} {bb eb : Nat} {gs : Gs} {secs : Int} {ms : List MT} {es : List Nat} (h : IsBook w bb eb gs secs ms es) :
  ∃ (gb gc mv mc ec : Nat), w.cell? ⟨bb, 0, none⟩ = some (.slice (some ⟨gb, 0, none⟩) gs.length gc) ∧ w.cell? ⟨bb, 1, none⟩ = some (.int .i64 secs) ∧ w.cell? ⟨bb, 2, none⟩ = some (.slice (some ⟨mv, 0, none⟩) gs.length mc) ∧ w.cell? ⟨bb, 3, none⟩ = some (.slice (some ⟨eb, 0, none⟩) gs.length ec) ∧
   GSl w (some ⟨gb, 0, none⟩) gs.length gc gs ∧ (∀ j, j < gs.length → w.cell? ⟨mv, j, none⟩ = some (.pointer (some ⟨(ms.getD j mD).1, 0, none⟩))) ∧ RSl w 1 (some ⟨eb, 0, none⟩) gs.length ec (encNs es) ∧ mv < w.heap.size ∧ eb < w.heap.size ∧ bb < w.heap.size := by
 obtain ⟨gv, mv, ec, h1, h2, h3, h4⟩ := h.mem
 have hr := rightB_spec h.right
 obtain ⟨gb, gc, rfl, _⟩ := owns_headv h2 (by omega)
 obtain ⟨mb, mc, rfl, _⟩ := owns_headv h3 (by omega)
 obtain ⟨cs, hb, _⟩ := owns_blk h4
 obtain ⟨cs2, hb2, _⟩ := owns_blk h3
 refine ⟨gb, gc, mb, mc, ec, h1.cell 0, h1.cell 1, h1.cell 2, h1.cell 3, rsl_of_owns h2, fun j hj => ?_, rsl_of_owns h4, hb2.lt, hb.lt, h1.lt⟩
 have hl := h.mlen
 rw [h3.cellAt j (by omega), encM_get _ _ (by rw [List.length_map]; omega)]
 have hjm : j < ms.length := by omega
 simp [List.getD, hjm]
end Go.Proofs.YtfaemcfjbbbbdaaGreat
namespace Go.Proofs.YtfaemcfjbbbbdaaGreat
open Go.RowKit
attribute [local go_sem ↓] Go.wp_at_zero Go.wp_at_succ
theorem infoP : (Tryz.prog.info? 91).map (fun i => (i.zero, i.size, i.bytes)) = some (some (.pointer none), 1, 8) := by kernel_rfl
theorem encNs_zero (n : Nat) : (madeCells (Value.int .i64 0).cells (n * 1)).toList = encNs (List.replicate n 0) := by
 rw [Nat.mul_one, encNs, List.map_replicate]
 exact toList_madeCells_one _ _
def newM (gs : Gs) (secs : Int) (bs : List Nat) (k : Nat) : List MT := (List.range k).map fun i => (bs.getD i 0, (sect (gs.getD i (0, 0)) secs).toNat, [])
set_option maxHeartbeats 3200000 in
set_option maxRecDepth 100000 in
theorem anew_yes (ao : Option Addr) (n cap : Nat) (gs : Gs) (secs : Int) (w : World) (h : GSl w ao n cap gs) (hr : rightB gs secs = true) :
  Calls Tryz.prog 28 #[.agg #[.slice ao n cap, .int .i64 secs]] w fun e w' => ∃ bb eb ms, e = .returned (.tuple #[.pointer (some ⟨bb, 0, none⟩), .int .i64 0]) ∧ IsBook w' bb eb gs secs ms (List.replicate gs.length 0) ∧
   (∀ j, j < gs.length → (ms.getD j mD).2 = ((sect (gs.getD j (0, 0)) secs).toNat, [])) ∧ (∀ k, foot bb eb ms k → w.heap.size ≤ k) ∧ Below w.heap.size w w' := by
 have hl := h.len
 have hn4 := (rightB_spec hr).2.1
 have hn1 := (rightB_spec hr).1
 obtain ⟨i0, hi, hz0, hz1, hz2⟩ := info_parts infoI
 have hb0 : Below w.heap.size w (w.alloc (.cells #[.slice ao n cap, .int .i64 secs] 24)) := (Below.refl _ _).alloc (Nat.le_refl _) _
 have hT := gright_any ao n cap gs secs (w.alloc (.cells #[.slice ao n cap, .int .i64 secs] 24)) (h.below hb0)
 have hc0 : (w.alloc (.cells #[.slice ao n cap, .int .i64 secs] 24)).cell? ⟨w.heap.size, 0, none⟩ = some (.slice ao n cap) := by rw [World.cell?_alloc_at _ _ _ _ rfl]; rfl
 have hc1 : (w.alloc (.cells #[.slice ao n cap, .int .i64 secs] 24)).cell? ⟨w.heap.size, 1, none⟩ = some (.int .i64 secs) := by rw [World.cell?_alloc_at _ _ _ _ rfl]; rfl
 have HC0 := Lib.hid hc0
 have HC1 := Lib.hid hc1
 have HB0 := Lib.hid hb0
 rw [hr] at hT
 have HT := Lib.hid hT
 have HL := Lib.hid hl
 have HG := Lib.hid h
 have HRT := Lib.hid hr
 have hnn : n ≤ 4 := by omega
 have hnn1 : 1 ≤ n := by omega
 have hmk : ∀ W : World, (Instr.makeSlice 88 (.int .i64 (n : Int)) (.int .i64 (n : Int))).run Tryz.prog W = .ok (.slice (some ⟨W.heap.size, 0, none⟩) n n) (W.alloc (.cells (encNs (List.replicate n 0)).toArray 3)) := fun W => by
  have := run_make (P := Tryz.prog) W 88 3 i0 (.int .i64 0) Tryz.underlying88 hi hz0 .i64 .i64 (n : Int) (n : Int) (by omega) (by omega) (by rw [hz2]; omega) (by omega)
  rw [this, hz1]
  simp only [Int.toNat_natCast]
  have e := encNs_zero n
  rw [← e]
 clear hT hr h hb0 hc0 hc1 hl hn4 hn1 hi hz0 hz1 hz2
 go_enter Tryz.func28, Tryz.ntmps28
 go_wp2_with fail
 refine HT.out.mono ?_
 rintro e w1 ⟨rfl, hb1⟩
 have B1 := Lib.hid (HB0.out.trans (hb1.mono (by simp)))
 have hsz1 : w.heap.size + 1 ≤ w1.heap.size := by have := hb1.size; simpa using this
 have c0 : w1.cell? ⟨w.heap.size, 0, none⟩ = some (.slice ao n cap) := by rw [hb1.cell (p := ⟨w.heap.size, 0, none⟩) (by simp)]; exact HC0.out
 have c1 : w1.cell? ⟨w.heap.size, 1, none⟩ = some (.int .i64 secs) := by rw [hb1.cell (p := ⟨w.heap.size, 1, none⟩) (by simp)]; exact HC1.out
 have K0 := Lib.hid c0
 have K1 := Lib.hid c1
 clear hb1
 go_upto_region 3 with fail
 go_cut [4] (fun v wx => ∃ (bb eb : Nat) (gv : Value), v = .pointer (some ⟨bb, 0, none⟩) ∧ Hid (Blk wx bb 90 [gv, .int .i64 secs, .slice none 0 0, .slice (some ⟨eb, 0, none⟩) n n]) ∧ Hid (wx.ownsRow 0 31 2 gv n (encG gs)) ∧ Hid (Blk wx eb 3 (encNs (List.replicate n 0))) ∧ Hid (Below w1.heap.size w1 wx) ∧ w.heap.size + 1 ≤ bb ∧ w.heap.size ≤ eb)
 case first =>
  have HCL := Lib.hid fun W (hW : Below w1.heap.size w1 W) => (cloneG_any ao n cap (encG gs) W (RSl.below (RSl.below HG.out B1.out) hW) (encG_one _) (by omega)).mono fun e w' (hh : ∃ v, e = .returned v ∧ w'.ownsRow W.heap.size 31 2 v n (encG gs) ∧ Below W.heap.size W w') => (show ∃ v, e = .returned v ∧ w'.ownsRow W.heap.size 31 2 v n (encG gs) ∧ Below W.heap.size W w' ∧ Below w1.heap.size w1 w' from by obtain ⟨v, h1, h2, h3⟩ := hh; exact ⟨v, h1, h2, h3, hW.trans (h3.mono hW.size)⟩)
  have hlt1 : w.heap.size < w1.heap.size := by omega
  go_region_held3 (fun w' => w'.cell? ⟨w.heap.size, 0, none⟩ = some (.slice ao n cap) ∧ w'.cell? ⟨w.heap.size, 1, none⟩ = some (.int .i64 secs)) (go_keep)
   (first
    | (go_at_call 54; refine (HCL.out _ (by first | exact (Below.refl _ _).drew | exact ((Below.refl _ _).drew).alloc (Nat.le_refl _) _ | exact ((Below.refl _ _).alloc (Nat.le_refl _) _).drew)).mono ?_; rintro e w2 ⟨v2, rfl, hown2, hb2, hbw2⟩; obtain ⟨ao2, cap2, rfl, _⟩ := RSl.of_owns hown2; have hd0 := (hbw2.cell (p := ⟨w.heap.size, 0, none⟩) hlt1).trans K0.out; have hd1 := (hbw2.cell (p := ⟨w.heap.size, 1, none⟩) hlt1).trans K1.out))
  ·go_wp2_with fail
   go_meet
   refine ⟨_, _, _, rfl, Lib.hid (Blk.newAt 90 [.slice ao2 n cap2, .int .i64 secs, .slice none 0 0, .slice (some ⟨w2.heap.size, 0, none⟩) n n] (by simp)), Lib.hid (owns_weaken ((hown2.alloc _).alloc _) (Nat.zero_le _)), Lib.hid ((Blk.new w2 3 (encNs (List.replicate n 0))).alloc _), Lib.hid ((hbw2.alloc hbw2.size _).alloc (by have := hbw2.size; simp; omega) _), by have := hbw2.size; omega, by have := hbw2.size; omega⟩
  ·go_wp2_with fail
   go_meet
   refine ⟨_, _, _, rfl, Lib.hid (Blk.newAt 90 [.slice ao2 n cap2, .int .i64 secs, .slice none 0 0, .slice (some ⟨w1.heap.size, 0, none⟩) n n] rfl), Lib.hid (owns_weaken (hown2.alloc _) (Nat.zero_le _)), Lib.hid (((Blk.new w1 3 (encNs (List.replicate n 0))).drew.below hb2).alloc _), Lib.hid (hbw2.alloc hbw2.size _), by have := hbw2.size; omega, by omega⟩
 case rest =>
  obtain ⟨bb, eb, gv, rfl, hbk, hgv, heb, hbw, hbb, hee⟩ := hcut
  have hlt1 : w.heap.size < w1.heap.size := by omega
  have c0c : wc.cell? ⟨w.heap.size, 0, none⟩ = some (.slice ao n cap) := (hbw.out.cell (p := ⟨w.heap.size, 0, none⟩) hlt1).trans K0.out
  have HBW := Lib.hid (hbw.out.mono (show w.heap.size + 1 ≤ w1.heap.size by omega))
  have hszc := hbw.out.size
  clear hmk c0 c1
  obtain ⟨p0, hp, hp0, hp1, hp2⟩ := info_parts infoP
  go_wp2_with fail
  clear c0c
  go_loopw [26] (fun i wr => ∃ (k : Nat) (bs : List Nat) (mv : Value), k ≤ n ∧ i = .int .i64 k ∧ bs.length = k ∧ Hid (Blk wr bb 90 [gv, .int .i64 secs, mv, .slice (some ⟨eb, 0, none⟩) n n]) ∧ Hid (wr.ownsRow 0 31 2 gv n (encG gs)) ∧ Hid (Blk wr eb 3 (encNs (List.replicate n 0))) ∧
   Hid (wr.ownsRow (w.heap.size + 1) 91 1 mv k (encM bs)) ∧ Hid (∀ j, j < k → IsMap wr (bs.getD j 0) (sect (gs.getD j (0, 0)) secs).toNat []) ∧ Hid bs.Nodup ∧ Hid (∀ b ∈ bs, w.heap.size ≤ b ∧ b < wr.heap.size) ∧ Hid (Below (w.heap.size + 1) w1 wr)) (fun i _ => n - (intOf i).toNat)
  case atStart => exact ⟨0, [], _, by omega, rfl, rfl, hbk, hgv, heb, Lib.hid (World.ownsRow_nil _ _ _ _), Lib.hid (fun j hj => absurd hj (by omega)), Lib.hid List.nodup_nil, Lib.hid (by simp), HBW⟩
  case round =>
   obtain ⟨k, bs, mv, hk, rfl, hbl, BK, GV, EB, MV, MP, ND, BB, HBR⟩ := hrel
   clear hbk hgv heb hbw HBW
   by_cases hkn : k < n
   ·obtain ⟨mo, mc, rfl, _⟩ := RSl.of_owns MV.out
    have hlw : w.heap.size < w.heap.size + 1 := Nat.lt_succ_self _
    have c0 : wr.cell? ⟨w.heap.size, 0, none⟩ = some (.slice ao n cap) := (HBR.out.cell (p := ⟨w.heap.size, 0, none⟩) hlw).trans K0.out
    have c1 : wr.cell? ⟨w.heap.size, 1, none⟩ = some (.int .i64 secs) := (HBR.out.cell (p := ⟨w.heap.size, 1, none⟩) hlw).trans K1.out
    have hBr : Below w.heap.size w wr := B1.out.trans (HBR.out.mono (by omega))
    have hS := gsectors_any ao n cap gs secs (k : Nat) wr (HG.out.below hBr)
    have hgk := getD_right HRT.out (show k < gs.length by have := HL.out; omega)
    obtain ⟨_, _, s1, s2, _⟩ := rightB_spec HRT.out
    have hsb := sect_bd hgk s1 s2
    have hse : sectI gs secs (k : Nat) = ((sect (gs.getD k (0, 0)) secs).toNat : Nat) := by
     unfold sectI
     rw [if_pos (hasB_mk HRT.out (by omega) (by have := HL.out; omega)), Int.toNat_natCast]
     omega
    obtain ⟨z, hz⟩ : ∃ z, z = (sect (gs.getD k (0, 0)) secs).toNat := ⟨_, rfl⟩
    rw [← hz] at hse
    rw [hse] at hS
    have HS := Lib.hid hS
    have hz1 : 1 ≤ z := by omega
    have hz2 : z ≤ 65536 := by omega
    have HZ := Lib.hid hz
    have HBr := Lib.hid hBr
    have HBL := Lib.hid hbl
    clear hS hgk hsb hse hz hBr hbl
    go_wp2_with fail
    refine HS.out.mono ?_
    rintro e w2 ⟨rfl, hb2⟩
    have hsz2 := hb2.size
    have B2 := Lib.hid hb2
    clear hb2
    go_wp2_with fail
    refine (new_yes z w2 hz1 hz2).mono ?_
    rintro e w3 ⟨rfl, hm3, hb3⟩
    have B3 := Lib.hid (B2.out.trans (hb3.mono hsz2))
    have hsz3 := hb3.size
    have hlt3 := hm3.lt
    have M3 := Lib.hid hm3
    obtain ⟨nb, hnb⟩ : ∃ nb, nb = w2.heap.size := ⟨_, rfl⟩
    rw [← hnb] at hlt3 M3 ⊢
    have hnbr : wr.heap.size ≤ nb := by omega
    have BK3 := Lib.hid (BK.out.below B3.out)
    have O3 := Lib.hid (owns_below MV.out B3.out)
    have d2 : w3.cell? ⟨bb, 2, none⟩ = some (.slice mo k mc) := BK3.out.cell 2
    have hszr := HBR.out.size
    clear hm3 hb3 hnb c0 c1
    go_wp2_with (at_builtin; go_must (refine wpList_append_own _ rfl (.tmp 40) (.tmp 42) 87 rfl (w.heap.size + 1) 91 p0 (.pointer none) 1 8 Tryz.underlying87 hp hp0 hp1 hp2 rfl (by decide) (.slice mo k mc) k (encM bs) rfl (O3.out.alloc _) ⟨w3.heap.size, 0, none⟩ 1 1 (encM [nb]) rfl rfl (Blk.news (Blk.newAt (w := w3) 91 (encM [nb]) (by simp))) (encM_one _) (by unfold maxLen; omega) (by omega) (by simp; omega) ?_; intro v4 w4 hown4 hgrow4 _; rw [← encM_append] at hown4; have BK4 := Lib.hid ((BK3.out.alloc (.cells (encM [nb]).toArray 91)).ownKept (O3.out.alloc _) (by decide) hgrow4); have hcb4 := BK4.out.cell 2; have hfb4 := BK4.out.frozen 2; obtain ⟨vo, vc, rfl, _⟩ := RSl.of_owns hown4; have O4 := Lib.hid hown4; have G4 := Lib.hid hgrow4; clear hown4 hgrow4))
    have hA : Below w3.heap.size w3 (w3.alloc (.cells (encM [nb]).toArray 91)) := (Below.refl _ _).alloc (Nat.le_refl _) _
    have hMM : ∀ b sz, IsMap w3 b sz [] → IsMap (w4.setCell ⟨bb, 2, none⟩ (.slice vo (k + 1) vc)) b sz [] := fun b sz h => ((h.below hA).ownKept (O3.out.alloc _) (by decide) (by decide) G4.out).setOther BK4.out (by decide) (by decide)
    have hG4 := G4.out.size
    simp only [World.size_alloc] at hG4
    go_roundw
    case rel =>
     refine ⟨k + 1, bs ++ [nb], _, by omega, by go_num, by simp [HBL.out], Lib.hid (BK4.out.setCell 2 _), Lib.hid (owns_setOther (owns_ownKept (owns_below (owns_below GV.out B3.out) hA) (O3.out.alloc _) (by decide) G4.out) BK4.out (by decide)),
      Lib.hid ((((EB.out.below B3.out).below hA).ownKept (O3.out.alloc _) (by decide) G4.out).other (a := ⟨bb, 2, none⟩) ?_ _), Lib.hid (owns_setOther O4.out BK4.out (by decide)), Lib.hid ?_, Lib.hid ?_, Lib.hid ?_, Lib.hid ?_⟩
     ·rintro rfl
      have h1 := BK.out
      have h2 := EB.out
      unfold Blk at h1 h2
      rw [h1] at h2
      simp only [Option.some.injEq, Obj.cells.injEq] at h2
      exact absurd h2.2.1 (by decide)
     ·intro j hj
      rcases Nat.lt_or_ge j k with hlt | hge
      ·have e1 : (bs ++ [nb]).getD j 0 = bs.getD j 0 := by rw [List.getD_eq_getElem?_getD, List.getD_eq_getElem?_getD, List.getElem?_append_left (by have := HBL.out; omega)]
       rw [e1]
       obtain ⟨q1, q2, q3, q4, v, q5, q6⟩ := (MP.out j hlt).below B3.out
       exact hMM _ _ ⟨q1, q2, q3, q4, v, q5, q6⟩
      ·have e0 : j = k := by omega
       subst e0
       have e1 : (bs ++ [nb]).getD j 0 = nb := by rw [List.getD_eq_getElem?_getD, List.getElem?_append_right (by have := HBL.out; omega), HBL.out]; simp
       rw [e1, ← HZ.out]
       exact hMM _ _ M3.out
     ·rw [List.nodup_append]
      refine ⟨ND.out, by simp, fun a ha b hb => ?_⟩
      rw [List.mem_singleton.1 hb]
      have := (BB.out a ha).2
      omega
     ·intro b hb
      have hs : (w4.setCell ⟨bb, 2, none⟩ (.slice vo (k + 1) vc)).heap.size = w4.heap.size := by simp [World.setCell]
      rw [hs]
      rcases List.mem_append.1 hb with hb | hb
      ·have := BB.out b hb; omega
      ·rw [List.mem_singleton.1 hb]; omega
     ·have h1 : Below (w.heap.size + 1) w1 w3 := HBR.out.trans (B3.out.mono (by omega))
      exact (below_own (base := w.heap.size + 1) (h1.trans (hA.mono (by omega))) (O3.out.alloc _) G4.out (by simp; omega) (Nat.le_refl _)).setCell (p := ⟨bb, 2, none⟩) hbb _
    case measure => simp [intOf]; omega
   ·have hkn' : k = n := by omega
    subst hkn'
    go_wp2_with fail
    go_ret2
    have hlg := HL.out
    have hlm : ∀ j, j < k → (newM gs secs bs k).getD j mD = (bs.getD j 0, (sect (gs.getD j (0, 0)) secs).toNat, []) := fun j hj => by simp [newM, List.getD, hj]
    have hmf : (newM gs secs bs k).map (·.1) = bs := by
     apply List.ext_getElem
     ·simp [newM, hbl]
     ·intro j h1 h2
      simp only [newM, List.map_map, List.getElem_map, List.getElem_range, Function.comp]
      rw [List.getD_eq_getElem?_getD, List.getElem?_eq_getElem h2]; rfl
    refine ⟨bb, eb, newM gs secs bs k, rfl, ⟨HRT.out, by simp [newM, hlg], by simp, ⟨gv, mv, k, ?_, ?_, ?_, ?_⟩, ?_, by rw [hmf]; exact ND.out⟩, fun j hj => by rw [hlm j (by omega)], fun x hx => ?_, B1.out.trans (HBR.out.mono (by omega))⟩
    ·rw [hlg]; exact BK.out
    ·rw [hlg]; exact GV.out
    ·rw [hlg, hmf]; exact owns_weaken MV.out (Nat.zero_le _)
    ·rw [hlg]
     have := blk_owns (base := 0) (n := k) (cap := k) (size := 1) EB.out (Nat.zero_le _) (Nat.le_refl _) (by unfold maxLen; omega) (by simp [encNs])
     rwa [List.take_of_length_le (by simp [encNs])] at this
    ·intro m hm
     obtain ⟨j, hj, rfl⟩ := List.mem_map.1 hm
     exact MP.out j (List.mem_range.1 hj)
    ·rcases hx with rfl | rfl | hx
     ·omega
     ·omega
     ·rw [hmf] at hx; exact (BB.out x hx).1
end Go.Proofs.YtfaemcfjbbbbdaaGreat
namespace Go.Proofs.YtfaemcfjbbbbdaaGreat
open Go.RowKit
attribute [local go_sem ↓] Go.wp_at_zero Go.wp_at_succ
def leftM (m : MT) : Int := (m.2.1 : Int) - (sumR m.2.2 : Int)
def leftB (ms : List MT) : Int := (ms.map leftM).sum
theorem leftB_step (ms : List MT) (k : Nat) (h : k < ms.length) : leftB (ms.take (k + 1)) = leftB (ms.take k) + leftM (ms.getD k mD) := by
 unfold leftB
 rw [List.take_succ_eq_append_getElem h, List.map_append, List.sum_append, List.getD_eq_getElem?_getD, List.getElem?_eq_getElem h]
 simp
theorem IsMap.left_bd {w : World} {mb size : Nat} {rs : List (Nat × Nat)} (h : IsMap w mb size rs) : 0 ≤ (size : Int) - (sumR rs : Int) ∧ (size : Int) - (sumR rs : Int) ≤ 65536 := by
 have h1 := good_sum h.2.2.1
 have h2 := h.1
 omega
theorem IsBook.left_bd {w : World} {bb eb : Nat} {gs : Gs} {secs : Int} {ms : List MT} {es : List Nat} (h : IsBook w bb eb gs secs ms es) : ∀ k, k ≤ ms.length → 0 ≤ leftB (ms.take k) ∧ leftB (ms.take k) ≤ 65536 * k := by
 intro k
 induction k with
 | zero => intro _; simp [leftB]
 | succ k ih =>
  intro hk
  have h1 := ih (by omega)
  have hm := (h.maps (ms.getD k mD) (by rw [List.getD_eq_getElem?_getD, List.getElem?_eq_getElem (by omega)]; exact List.getElem_mem _)).left_bd
  rw [leftB_step ms k (by omega)]
  unfold leftM
  omega
theorem aleft_any (bb eb : Nat) (gs : Gs) (secs : Int) (ms : List MT) (es : List Nat) (w : World) (h : IsBook w bb eb gs secs ms es) :
  Calls Tryz.prog 11 #[.pointer (some ⟨bb, 0, none⟩)] w fun e w' => e = .returned (.int .i64 (leftB ms)) ∧ Below w.heap.size w w' := by
 obtain ⟨gb, gc, mv, mc, ec, c0, c1, c2, c3, hgs, hmp, hes, hmv, heb, hbb⟩ := h.parts
 have hr := rightB_spec h.right
 have hn4 := hr.2.1
 have hml := h.mlen
 have hbd := h.left_bd
 have HM := Lib.hid hmp
 have HB := Lib.hid h
 have HBD := Lib.hid hbd
 obtain ⟨n, hn⟩ : ∃ n, n = gs.length := ⟨_, rfl⟩
 rw [← hn] at c2 hn4 hml HM
 have HML := Lib.hid hml
 clear h c0 c1 c3 hgs hmp hes hr hbd hml hn
 go_enter Tryz.func11, Tryz.ntmps11
 go_wp2_with fail
 go_loopw [3, 13] (fun t i wr => ∃ k : Nat, k ≤ n ∧ i = .int .i64 k ∧ t = .int .i64 (leftB (ms.take k)) ∧ Hid (Below w.heap.size w wr)) (fun _ i _ => n - (intOf i).toNat)
 case atStart => exact ⟨0, by omega, rfl, rfl, Lib.hid (Below.refl _ _)⟩
 case round =>
  obtain ⟨k, hk, rfl, rfl, hb⟩ := hrel
  by_cases hkn : k < n
  ·have d1 : wr.cell? ⟨mv, k, none⟩ = some (.pointer (some ⟨(ms.getD k mD).1, 0, none⟩)) := (hb.out.cell (p := ⟨mv, k, none⟩) hmv).trans (HM.out k hkn)
   have hkm : k < ms.length := by have := HML.out; omega
   have hst := leftB_step ms k hkm
   have hmem : ms.getD k mD ∈ ms := by rw [List.getD_eq_getElem?_getD, List.getElem?_eq_getElem hkm]; exact List.getElem_mem _
   have hmm := HB.out.maps _ hmem
   have hl := hmm.left_bd
   obtain ⟨m, hmd⟩ : ∃ m, m = ms.getD k mD := ⟨_, rfl⟩
   rw [← hmd] at d1 hst hmm hl
   obtain ⟨m1, m2, m3⟩ := m
   have hT := left_any m1 m2 m3 wr (hmm.below hb.out)
   have HT := Lib.hid hT
   have HST := Lib.hid hst
   have hb1 := HBD.out k (by omega)
   obtain ⟨b1, b2⟩ := hb1
   obtain ⟨L, hL⟩ : ∃ L, L = leftB (ms.take k) := ⟨_, rfl⟩
   rw [← hL] at HST b1 b2 ⊢
   dsimp only at d1 hl
   clear hmd hmem hmm hT hst hL hkm
   go_wp2_with fail
   refine HT.out.mono ?_
   rintro e w1 ⟨rfl, hb1⟩
   have B1 := Lib.hid (hb.out.trans (hb1.mono hb.out.size))
   clear hb1
   go_wp2_with fail
   go_roundw
   case rel => exact ⟨k + 1, by omega, by go_num, by rw [HST.out]; rfl, B1⟩
   case measure => simp [intOf]; omega
  ·have hkn' : k = n := by omega
   have ht : ms.take k = ms := List.take_of_length_le (by have := HML.out; omega)
   rw [ht]
   clear ht
   subst hkn'
   go_wp2_with fail
   go_ret
   exact ⟨rfl, hb.out⟩
end Go.Proofs.YtfaemcfjbbbbdaaGreat
namespace Go.Proofs.YtfaemcfjbbbbdaaGreat
open Go.RowKit
attribute [local go_sem ↓] Go.wp_at_zero Go.wp_at_succ
def cpM (ms : List MT) (bs : List Nat) : List MT := (List.range ms.length).map fun i => (bs.getD i 0, (ms.getD i mD).2)
theorem cpM_length (ms : List MT) (bs : List Nat) : (cpM ms bs).length = ms.length := by simp [cpM]
theorem cpM_fst (ms : List MT) (bs : List Nat) (h : bs.length = ms.length) : (cpM ms bs).map (·.1) = bs := by
 apply List.ext_getElem
 ·simp [cpM, h]
 ·intro j h1 h2
  simp only [cpM, List.map_map, List.getElem_map, List.getElem_range, Function.comp]
  rw [List.getD_eq_getElem?_getD, List.getElem?_eq_getElem h2]; rfl
set_option maxHeartbeats 3200000 in
set_option maxRecDepth 100000 in
theorem acopy_any (bb eb : Nat) (gs : Gs) (secs : Int) (ms : List MT) (es : List Nat) (w : World) (h : IsBook w bb eb gs secs ms es) :
  Calls Tryz.prog 81 #[.pointer (some ⟨bb, 0, none⟩)] w fun e w' => ∃ cb ce bs, e = .returned (.pointer (some ⟨cb, 0, none⟩)) ∧ bs.length = ms.length ∧ IsBook w' cb ce gs secs (cpM ms bs) es ∧
   (∀ k, foot cb ce (cpM ms bs) k → w.heap.size ≤ k) ∧ Below w.heap.size w w' := by
 obtain ⟨gv0, mv0, ec0, r1, r2, r3, r4⟩ := h.mem
 obtain ⟨gb, gc, mv, mc, ec, c0, c1, c2, c3, hgs, hmp, hes, hmv, heb, hbb⟩ := h.parts
 have hr := rightB_spec h.right
 have hn4 := hr.2.1
 have hn1 := hr.1
 have hml := h.mlen
 have hel := h.elen
 have hgv : gv0 = .slice (some ⟨gb, 0, none⟩) gs.length gc := by
  have := r1.cell 0
  rw [c0] at this
  simpa using this.symm
 have HM := Lib.hid hmp
 have HB := Lib.hid h
 have HGV := Lib.hid r2
 have HGE := Lib.hid hgv
 have HES := Lib.hid hes
 have HHR := Lib.hid h.right
 have HEL := Lib.hid hel
 obtain ⟨p0, hp, hp0, hp1, hp2⟩ := info_parts infoP
 have HCL := Lib.hid fun W (hW : Below w.heap.size w W) => (cloneI_any (some ⟨eb, 0, none⟩) gs.length ec (encNs es) W (RSl.below hes hW) (encNs_one _) (by omega))
 obtain ⟨n, hn⟩ : ∃ n, n = gs.length := ⟨_, rfl⟩
 rw [← hn] at c0 c2 c3 hn4 hn1 hml HM HCL HES
 have HML := Lib.hid hml
 have HN := Lib.hid hn
 have K0 := Lib.hid c0
 have K1 := Lib.hid c1
 have K3 := Lib.hid c3
 have K2 := Lib.hid c2
 clear h hgs hmp hes hr hml hn r1 r2 r3 r4 hgv hel c2
 go_enter Tryz.func81, Tryz.ntmps81
 go_wp2_with fail
 go_region_held3 (fun w' => w'.cell? ⟨bb, 0, none⟩ = some (.slice (some ⟨gb, 0, none⟩) n gc) ∧ w'.cell? ⟨bb, 1, none⟩ = some (.int .i64 secs) ∧ w'.cell? ⟨bb, 3, none⟩ = some (.slice (some ⟨eb, 0, none⟩) n ec)) (go_keep)
  (first
   | (go_at_call 102; refine (HCL.out _ (by first | exact (Below.refl _ _).drew | exact Below.refl _ _)).mono ?_; rintro e w2 ⟨v2, rfl, hown2, hb2⟩; obtain ⟨ao2, cap2, rfl, _⟩ := RSl.of_owns hown2; have hd0 := (hb2.cell (p := ⟨bb, 0, none⟩) hbb).trans K0.out; have hd1 := (hb2.cell (p := ⟨bb, 1, none⟩) hbb).trans K1.out; have hd3 := (hb2.cell (p := ⟨bb, 3, none⟩) hbb).trans K3.out))
 obtain ⟨ce, rfl, hce⟩ := owns_head hown2 (by omega)
 have hce' : w.heap.size ≤ ce := hce
 have hb2' : Below w.heap.size w w2 := (Below.refl _ _).drew.trans hb2
 obtain ⟨cb, hcb⟩ : ∃ cb, cb = w2.heap.size := ⟨_, rfl⟩
 obtain ⟨w3, hw3⟩ : ∃ w3, w3 = w2.alloc (.cells #[.slice (some ⟨gb, 0, none⟩) n gc, .int .i64 secs, .slice none 0 0, .slice (some ⟨ce, 0, none⟩) n cap2] 90) := ⟨_, rfl⟩
 rw [← hcb, ← hw3]
 have BK0 : Hid (Blk w3 cb 90 [.slice (some ⟨gb, 0, none⟩) n gc, .int .i64 secs, .slice none 0 0, .slice (some ⟨ce, 0, none⟩) n cap2]) := Lib.hid (by rw [hw3, hcb]; exact Blk.new w2 _ _)
 have CE0 : Hid (w3.ownsRow w.heap.size 3 1 (.slice (some ⟨ce, 0, none⟩) n cap2) n (encNs es)) := Lib.hid (by rw [hw3]; exact hown2.alloc _)
 have B3 : Hid (Below w.heap.size w w3) := Lib.hid (by rw [hw3]; exact hb2'.alloc hb2'.size _)
 have hcbs : w.heap.size ≤ cb := by have := hb2'.size; omega
 have hcbl : cb < w3.heap.size := BK0.out.lt
 have d2 : w3.cell? ⟨bb, 2, none⟩ = some (.slice (some ⟨mv, 0, none⟩) n mc) := (B3.out.cell (p := ⟨bb, 2, none⟩) hbb).trans K2.out
 clear hown2 hb2 hb2' hd0 hd1 hd3 hcb hw3 c0 c1 c3
 go_wp2_with fail
 clear d2
 go_loopw [24] (fun i wr => ∃ (k : Nat) (bs : List Nat) (mo : Value), k ≤ n ∧ i = .int .i64 k ∧ bs.length = k ∧ Hid (Blk wr cb 90 [.slice (some ⟨gb, 0, none⟩) n gc, .int .i64 secs, mo, .slice (some ⟨ce, 0, none⟩) n cap2]) ∧
  Hid (wr.ownsRow w.heap.size 3 1 (.slice (some ⟨ce, 0, none⟩) n cap2) n (encNs es)) ∧ Hid (wr.ownsRow w.heap.size 91 1 mo k (encM bs)) ∧ Hid (∀ j, j < k → IsMap wr (bs.getD j 0) (ms.getD j mD).2.1 (ms.getD j mD).2.2) ∧ Hid bs.Nodup ∧ Hid (∀ b ∈ bs, w.heap.size ≤ b ∧ b < wr.heap.size) ∧ Hid (Below w.heap.size w wr)) (fun i _ => n - (intOf i).toNat)
 case atStart => exact ⟨0, [], _, by omega, rfl, rfl, BK0, CE0, Lib.hid (World.ownsRow_nil _ _ _ _), Lib.hid (fun j hj => absurd hj (by omega)), Lib.hid List.nodup_nil, Lib.hid (by simp), B3⟩
 case round =>
  obtain ⟨k, bs, mo, hk, rfl, hbl, BK, CE, MV, MP, ND, BB, HBR⟩ := hrel
  clear BK0 CE0
  by_cases hkn : k < n
  ·obtain ⟨mo, mcc, rfl, _⟩ := RSl.of_owns MV.out
   have hkm : k < ms.length := by have := HML.out; omega
   have dk : wr.cell? ⟨mv, k, none⟩ = some (.pointer (some ⟨(ms.getD k mD).1, 0, none⟩)) := (HBR.out.cell (p := ⟨mv, k, none⟩) hmv).trans (HM.out k hkn)
   have hmem : ms.getD k mD ∈ ms := by rw [List.getD_eq_getElem?_getD, List.getElem?_eq_getElem hkm]; exact List.getElem_mem _
   have hmm := HB.out.maps _ hmem
   obtain ⟨m, hmd⟩ : ∃ m, m = ms.getD k mD := ⟨_, rfl⟩
   rw [← hmd] at dk hmm
   have HMD := Lib.hid hmd
   obtain ⟨m1, m2, m3⟩ := m
   have hT := copy_any m1 m2 m3 wr.drew ((hmm.below HBR.out).below (Below.refl _ _).drew)
   have HT := Lib.hid hT
   have HBL := Lib.hid hbl
   have hszr := HBR.out.size
   have e2 : wr.cell? ⟨cb, 2, none⟩ = some (.slice mo k mcc) := BK.out.cell 2
   have f2 : wr.frozen? ⟨cb, 2, none⟩ = false := BK.out.frozen 2
   have hcbr := BK.out.lt
   dsimp only at dk
   clear hmd hmem hmm hT hbl hkm
   go_wp2_with fail
   go_region_law
    (first
     | (go_simp; go_at_call 103; refine HT.out.mono ?_; rintro e w4 ⟨nb, rfl, hnb, hm4, hb4⟩; have B4 := Lib.hid ((Below.refl wr.heap.size wr).drew.trans hb4); have BK4 := Lib.hid (BK.out.below B4.out); have O4 := Lib.hid (owns_below MV.out B4.out); have hd2 := BK4.out.cell 2; have hf2 := BK4.out.frozen 2; have hd2a : (w4.alloc (.cells #[.pointer (some ⟨nb, 0, none⟩)] 91)).cell? ⟨cb, 2, none⟩ = some (.slice mo k mcc) := (BK4.out.alloc _).cell 2; have hf2a : (w4.alloc (.cells #[.pointer (some ⟨nb, 0, none⟩)] 91)).frozen? ⟨cb, 2, none⟩ = false := (BK4.out.alloc _).frozen 2; have hnbr : wr.heap.size ≤ nb := hnb; have hlt4 := hm4.lt; have M4 := Lib.hid hm4; have hsz4 := hb4.size; clear hm4 hb4 hnb)
     | (refine step_append_lies _ (by rfl) _ _ _ (by rfl) w.heap.size 91 p0 (.pointer none) 1 8 Tryz.underlying87 hp hp0 hp1 hp2 rfl (by omega) (.slice mo k mcc) k (encM bs) (by rfl) (O4.out.alloc _) ⟨w4.heap.size, 0, none⟩ 1 1 (encM [nb]) (by rfl) rfl (Blk.news (Blk.newAt (w := w4) 91 (encM [nb]) rfl)) (encM_one _) (by omega) (by unfold maxLen; omega) (by omega) (by have := B4.out.size; simp; omega) (w4.heap.size + 1) (by simp) ?_; intro gg gcap w5 hown5 hgrow5 hat hlt; rw [← encM_append] at hown5; have BK5 := Lib.hid ((BK4.out.alloc (.cells (encM [nb]).toArray 91)).ownKept (O4.out.alloc _) (by decide) hgrow5); have he2 := BK5.out.cell 2; have hg2 := BK5.out.frozen 2; have O5 := Lib.hid hown5; have G5 := Lib.hid hgrow5; clear hown5 hgrow5 hat))
   all_goals
    have hA : Below w4.heap.size w4 (w4.alloc (.cells (encM [nb]).toArray 91)) := (Below.refl _ _).alloc (Nat.le_refl _) _
    have hMM : ∀ b sz rs, IsMap w4 b sz rs → IsMap (w5.setCell ⟨cb, 2, none⟩ (.slice (some ⟨gg, 0, none⟩) (k + 1) gcap)) b sz rs := fun b sz rs h => ((h.below hA).ownKept (O4.out.alloc _) (by decide) (by decide) G5.out).setOther BK5.out (by decide) (by decide)
    have hG5 := G5.out.size
    simp only [World.size_alloc] at hG5
    have hszD : wr.drew.heap.size = wr.heap.size := rfl
    have hsz4' : wr.heap.size ≤ w4.heap.size := B4.out.size
    go_wp2_with fail
    go_roundw
    case rel =>
     refine ⟨k + 1, bs ++ [nb], _, by omega, by go_num, by simp [HBL.out], Lib.hid (BK5.out.setCell 2 _), Lib.hid (owns_setOther (owns_ownKept (owns_below (owns_below CE.out B4.out) hA) (O4.out.alloc _) (by decide) G5.out) BK5.out (by decide)),
      Lib.hid (owns_setOther O5.out BK5.out (by decide)), Lib.hid ?_, Lib.hid ?_, Lib.hid ?_, Lib.hid ?_⟩
     ·intro j hj
      rcases Nat.lt_or_ge j k with hlt | hge
      ·have e1 : (bs ++ [nb]).getD j 0 = bs.getD j 0 := by rw [List.getD_eq_getElem?_getD, List.getD_eq_getElem?_getD, List.getElem?_append_left (by have := HBL.out; omega)]
       rw [e1]
       exact hMM _ _ _ ((MP.out j hlt).below B4.out)
      ·have e0 : j = k := by omega
       subst e0
       have e1 : (bs ++ [nb]).getD j 0 = nb := by rw [List.getD_eq_getElem?_getD, List.getElem?_append_right (by have := HBL.out; omega), HBL.out]; simp
       rw [e1, ← HMD.out]
       exact hMM _ _ _ M4.out
     ·rw [List.nodup_append]
      refine ⟨ND.out, by simp, fun a ha b hb => ?_⟩
      rw [List.mem_singleton.1 hb]
      have := (BB.out a ha).2
      omega
     ·intro b hb
      have hs : (w5.setCell ⟨cb, 2, none⟩ (.slice (some ⟨gg, 0, none⟩) (k + 1) gcap)).heap.size = w5.heap.size := by simp [World.setCell]
      rw [hs]
      rcases List.mem_append.1 hb with hb | hb
      ·have := BB.out b hb; omega
      ·rw [List.mem_singleton.1 hb]; omega
     ·have h1 : Below w.heap.size w w4 := HBR.out.trans (B4.out.mono hszr)
      exact (below_own (base := w.heap.size) (h1.trans (hA.mono (by omega))) (O4.out.alloc _) G5.out (by simp; omega) (Nat.le_refl _)).setCell (p := ⟨cb, 2, none⟩) hcbs _
    case measure => simp [intOf]; omega
  ·have hkn' : k = n := by omega
   subst hkn'
   go_wp2_with fail
   go_ret
   have hbm : bs.length = ms.length := by have := HML.out; omega
   have hnn := HN.out
   refine ⟨cb, ce, bs, rfl, hbm, ⟨HHR.out, by rw [cpM_length]; have := HML.out; omega, by have := HEL.out; omega, ⟨.slice (some ⟨gb, 0, none⟩) k gc, mo, cap2, ?_, ?_, ?_, ?_⟩, ?_, by rw [cpM_fst _ _ hbm]; exact ND.out⟩, fun x hx => ?_, HBR.out⟩
   ·rw [← hnn]; exact BK.out
   ·have := owns_below HGV.out HBR.out
    rw [HGE.out, ← hnn] at this
    rw [← hnn]; exact this
   ·rw [← hnn, cpM_fst _ _ hbm]; exact owns_weaken MV.out (Nat.zero_le _)
   ·rw [← hnn]; exact owns_weaken CE.out (Nat.zero_le _)
   ·intro m hm
    obtain ⟨j, hj, rfl⟩ := List.mem_map.1 hm
    exact MP.out j (by have := List.mem_range.1 hj; have := HML.out; omega)
   ·rcases hx with rfl | rfl | hx
    ·omega
    ·omega
    ·rw [cpM_fst _ _ hbm] at hx; exact (BB.out x hx).1
end Go.Proofs.YtfaemcfjbbbbdaaGreat
namespace Go.Proofs.YtfaemcfjbbbbdaaGreat
open Go.RowKit
attribute [local go_sem ↓] Go.wp_at_zero Go.wp_at_succ
theorem quiet_left {P : Program} {f : FuncId} {args : Array Value} {w : World} {n : Nat} {v : Value}
  (h : Calls P f args (w.drewN n) fun e w' => e = .returned v ∧ w.drewN n = w') : Calls P f args (w.drewN n) fun e w'' => e = .returned v ∧ ∃ m, w'' = w.drewN m :=
 h.mono fun _ _ ⟨he, hm⟩ => ⟨he, n, hm.symm⟩
def cmpI (a b : Int) : Int := if a < b then -1 else if b < a then 1 else 0
theorem cmpI_any (a b : Int) (w : World) : Calls Tryz.prog 120 #[.int .i64 a, .int .i64 b] w fun e w' => e = .returned (.int .i64 (cmpI a b)) ∧ w = w' := by
 unfold cmpI
 by_cases h1 : a < b
 ·rw [if_pos h1]
  go_enter Tryz.func120, Tryz.ntmps120
  go_wp2
  go_ret
  exact ⟨rfl, rfl⟩
 ·by_cases h2 : b < a
  ·rw [if_neg h1, if_pos h2]
   go_enter Tryz.func120, Tryz.ntmps120
   go_wp2
   go_ret
   exact ⟨rfl, rfl⟩
  ·rw [if_neg h1, if_neg h2]
   go_enter Tryz.func120, Tryz.ntmps120
   go_wp2
   go_ret
   exact ⟨rfl, rfl⟩
def flagI (b : Bool) : Int := if b then 1 else 0
theorem flag_any (b : Bool) (w : World) : Calls Tryz.prog 121 #[.bool b] w fun e w' => e = .returned (.int .i64 (flagI b)) ∧ w = w' := by
 cases b
 ·go_enter Tryz.func121, Tryz.ntmps121
  go_wp2
  go_ret
  exact ⟨rfl, rfl⟩
 ·go_enter Tryz.func121, Tryz.ntmps121
  go_wp2
  go_ret
  exact ⟨rfl, rfl⟩
def orI (a b : Int) : Int := if a ≠ 0 then a else b
theorem or2_any (a b : Int) (g : Nat) (w : World) (c0 : w.cell? ⟨g, 0, none⟩ = some (.int .i64 a)) (c1 : w.cell? ⟨g, 1, none⟩ = some (.int .i64 b)) :
  Calls Tryz.prog 122 #[.slice (some ⟨g, 0, none⟩) 2 2] w fun e w' => e = .returned (.int .i64 (orI a b)) ∧ w = w' := by
 unfold orI
 by_cases h1 : a = 0
 ·rw [if_neg (by simpa using h1)]
  have hz : (a != 0) = false := by simpa using h1
  by_cases h2 : b = 0
  ·have hz2 : (b != 0) = false := by simpa using h2
   have H2 := Lib.hid h2
   clear h1 h2
   go_enter Tryz.func122, Tryz.ntmps122
   go_wp2_with fail
   refine wp_loop_rounds 3 ?_
   rw [rounds_succ]
   go_wp2_with fail
   rw [rounds_succ]
   go_wp2_with fail
   rw [rounds_succ]
   go_wp2_with fail
   go_ret
   exact ⟨by rw [H2.out]; rfl, rfl⟩
  ·have hz2 : (b != 0) = true := by simpa using h2
   clear h1 h2
   go_enter Tryz.func122, Tryz.ntmps122
   go_wp2_with fail
   refine wp_loop_rounds 3 ?_
   rw [rounds_succ]
   go_wp2_with fail
   rw [rounds_succ]
   go_wp2_with fail
   go_ret
   exact ⟨rfl, rfl⟩
 ·rw [if_pos h1]
  have hz : (a != 0) = true := by simpa using h1
  clear h1
  go_enter Tryz.func122, Tryz.ntmps122
  go_wp2_with fail
  refine wp_loop_rounds 3 ?_
  rw [rounds_succ]
  go_wp2_with fail
  go_ret
  exact ⟨rfl, rfl⟩
def cmpS (ms : List MT) (last : Int) (x y : Nat) : Int :=
 if (((x : Int) == last) != ((y : Int) == last)) = true then cmpI (flagI ((x : Int) == last)) (flagI ((y : Int) == last))
 else if cmpI (leftM (ms.getD y mD)) (leftM (ms.getD x mD)) ≠ 0 then cmpI (leftM (ms.getD y mD)) (leftM (ms.getD x mD)) else cmpI x y
theorem cmpI_neg {a b : Int} : cmpI a b < 0 ↔ a < b := by
 unfold cmpI
 split
 ·simp_all
 ·split <;> simp_all <;> omega
theorem cmpI_zero {a b : Int} : cmpI a b = 0 ↔ a = b := by
 unfold cmpI
 split
 ·simp; omega
 ·split
  ·simp; omega
  ·simp; omega
theorem cmpS_neg {ms : List MT} {last : Int} {x y : Nat} : cmpS ms last x y < 0 ↔ ((x : Int) ≠ last ∧ (y : Int) = last) ∨ (((x : Int) = last ↔ (y : Int) = last) ∧ (leftM (ms.getD y mD) < leftM (ms.getD x mD) ∨ (leftM (ms.getD y mD) = leftM (ms.getD x mD) ∧ x < y))) := by
 unfold cmpS flagI
 by_cases hx : (x : Int) = last <;> by_cases hy : (y : Int) = last
 ·simp only [hx, hy, beq_self_eq_true, bne_self_eq_false, Bool.false_eq_true, if_false]
  have hxy : x = y := by omega
  subst hxy
  have : ¬ (cmpI (leftM (ms.getD x mD)) (leftM (ms.getD x mD)) ≠ 0) := by simp [cmpI_zero]
  rw [if_neg this, cmpI_neg]
  simp
 ·have e : ((y : Int) == last) = false := by simpa using hy
  simp [hx, hy, e, cmpI]
 ·have e : ((x : Int) == last) = false := by simpa using hx
  simp [hx, hy, e, cmpI]
 ·have e : ((x : Int) == last) = false := by simpa using hx
  have e2 : ((y : Int) == last) = false := by simpa using hy
  simp only [e, e2, bne_self_eq_false, Bool.false_eq_true, if_false]
  by_cases hl : cmpI (leftM (ms.getD y mD)) (leftM (ms.getD x mD)) = 0
  ·rw [if_neg (by simpa using hl), cmpI_neg]
   rw [cmpI_zero] at hl
   constructor
   ·intro h; exact .inr ⟨⟨fun h => absurd h hx, fun h => absurd h hy⟩, .inr ⟨hl, by omega⟩⟩
   ·rintro (⟨_, h⟩ | ⟨_, h | ⟨_, h⟩⟩)
    ·exact absurd h hy
    ·omega
    ·omega
  ·rw [if_pos (by simpa using hl), cmpI_neg]
   rw [cmpI_zero] at hl
   constructor
   ·intro h; exact .inr ⟨⟨fun h => absurd h hx, fun h => absurd h hy⟩, .inl h⟩
   ·rintro (⟨_, h⟩ | ⟨_, h | ⟨h, _⟩⟩)
    ·exact absurd h hy
    ·exact h
    ·exact absurd h hl
theorem cmpS_swo (ms : List MT) (last : Int) (m : Nat) : Swo m (cmpS ms last) := by
 refine ⟨fun x y _ _ h1 h2 => ?_, fun x y z _ _ _ h1 h2 h3 => ?_⟩
 ·rw [cmpS_neg] at h1 h2
  rcases h1 with ⟨a, b⟩ | ⟨a, b⟩ <;> rcases h2 with ⟨c, d⟩ | ⟨c, d⟩
  ·omega
  ·omega
  ·omega
  ·omega
 ·rw [cmpS_neg] at h1 h2 h3
  rcases h3 with ⟨a, b⟩ | ⟨a, b⟩
  ·omega
  ·omega
set_option maxHeartbeats 1600000 in
set_option maxRecDepth 100000 in
theorem order1_any (B0 B1 bb eb : Nat) (gs : Gs) (secs : Int) (ms : List MT) (es : List Nat) (last : Int) (x y : Nat) (w : World) (h : IsBook w bb eb gs secs ms es) (h0 : w.cell? ⟨B0, 0, none⟩ = some (.pointer (some ⟨bb, 0, none⟩))) (h1 : w.cell? ⟨B1, 0, none⟩ = some (.int .i64 last)) (hx : x < gs.length) (hy : y < gs.length) :
  Calls Tryz.prog 119 #[.int .i64 (x : Nat), .int .i64 (y : Nat), .pointer (some ⟨B0, 0, none⟩), .pointer (some ⟨B1, 0, none⟩)] w fun e w' => e = .returned (.int .i64 (cmpS ms last x y)) ∧ Below w.heap.size w w' := by
 obtain ⟨gb, gc, mv, mc, ec, c0, c1, c2, c3, hgs, hmp, hes, hmv, heb, hbb⟩ := h.parts
 have hr := rightB_spec h.right
 have hn4 := hr.2.1
 have hml := h.mlen
 have hB0 := block_lt_of_cell h0
 have hB1 := block_lt_of_cell h1
 have dx := hmp x hx
 have dy := hmp y hy
 have hmx := h.maps (ms.getD x mD) (by rw [List.getD_eq_getElem?_getD, List.getElem?_eq_getElem (show x < ms.length by omega)]; exact List.getElem_mem _)
 have hmy := h.maps (ms.getD y mD) (by rw [List.getD_eq_getElem?_getD, List.getElem?_eq_getElem (show y < ms.length by omega)]; exact List.getElem_mem _)
 have HCS : Hid (cmpS ms last x y = if (((x : Int) == last) != ((y : Int) == last)) = true then cmpI (flagI ((x : Int) == last)) (flagI ((y : Int) == last)) else if cmpI (leftM (ms.getD y mD)) (leftM (ms.getD x mD)) ≠ 0 then cmpI (leftM (ms.getD y mD)) (leftM (ms.getD x mD)) else cmpI x y) := Lib.hid rfl
 obtain ⟨mx, hmxe⟩ : ∃ m, m = ms.getD x mD := ⟨_, rfl⟩
 obtain ⟨my, hmye⟩ : ∃ m, m = ms.getD y mD := ⟨_, rfl⟩
 rw [← hmxe] at dx hmx HCS
 rw [← hmye] at dy hmy HCS
 obtain ⟨x1, x2, x3⟩ := mx
 obtain ⟨y1, y2, y3⟩ := my
 have HLX := Lib.hid fun W (hW : Below w.heap.size w W) => (left_any x1 x2 x3 W (hmx.below hW)).mono fun e w' (hh : e = .returned (.int .i64 ((x2 : Int) - (sumR x3 : Int))) ∧ Below W.heap.size W w') => (show e = .returned (.int .i64 ((x2 : Int) - (sumR x3 : Int))) ∧ Below w.heap.size w w' from ⟨hh.1, hW.trans (hh.2.mono hW.size)⟩)
 have HLY := Lib.hid fun W (hW : Below w.heap.size w W) => (left_any y1 y2 y3 W (hmy.below hW)).mono fun e w' (hh : e = .returned (.int .i64 ((y2 : Int) - (sumR y3 : Int))) ∧ Below W.heap.size W w') => (show e = .returned (.int .i64 ((y2 : Int) - (sumR y3 : Int))) ∧ Below w.heap.size w w' from ⟨hh.1, hW.trans (hh.2.mono hW.size)⟩)
 obtain ⟨lx, hlx⟩ : ∃ l, l = (x2 : Int) - (sumR x3 : Int) := ⟨_, rfl⟩
 obtain ⟨ly, hly⟩ : ∃ l, l = (y2 : Int) - (sumR y3 : Int) := ⟨_, rfl⟩
 have hcs2 := HCS.out
 unfold leftM at hcs2
 dsimp only at hcs2
 rw [← hlx, ← hly] at hcs2
 rw [← hlx] at HLX
 rw [← hly] at HLY
 have HCS := Lib.hid hcs2
 obtain ⟨n, hn⟩ : ∃ n, n = gs.length := ⟨_, rfl⟩
 rw [← hn] at c2 hx hy
 dsimp only at dx dy
 have x0 : (0 : Int) ≤ (x : Int) := by omega
 have y0 : (0 : Int) ≤ (y : Int) := by omega
 have xn : (x : Int) < (n : Int) := by omega
 have yn : (y : Int) < (n : Int) := by omega
 have H0 := Lib.hid h0
 have H1 := Lib.hid h1
 have C2 := Lib.hid c2
 have DX := Lib.hid dx
 have DY := Lib.hid dy
 have hbe : Hid (w.heap.size = w.heap.size) := Lib.hid rfl
 clear h c0 c1 c3 hgs hmp hes hr hml hmx hmy hmxe hmye hlx hly hcs2 hn hn4 hbe
 go_enter Tryz.func119, Tryz.ntmps119
 go_wp2_with fail
 go_region_held3 (fun w' => w'.cell? ⟨B0, 0, none⟩ = some (.pointer (some ⟨bb, 0, none⟩)) ∧ w'.cell? ⟨bb, 2, none⟩ = some (.slice (some ⟨mv, 0, none⟩) n mc) ∧ w'.cell? ⟨mv, x, none⟩ = some (.pointer (some ⟨x1, 0, none⟩)) ∧ w'.cell? ⟨mv, y, none⟩ = some (.pointer (some ⟨y1, 0, none⟩))) (go_keep)
  (first
   | (go_at_call_of 29 (Value.pointer (some ⟨x1, 0, none⟩)); refine (HLX.out _ (by first | exact (Below.refl _ _).drew | assumption)).mono ?_; rintro e w1 ⟨rfl, hb1⟩; have ha0 := (hb1.cell (p := ⟨B0, 0, none⟩) hB0).trans H0.out; have ha1 := (hb1.cell (p := ⟨bb, 2, none⟩) hbb).trans C2.out; have ha2 := (hb1.cell (p := ⟨mv, x, none⟩) hmv).trans DX.out; have ha3 := (hb1.cell (p := ⟨mv, y, none⟩) hmv).trans DY.out)
   | (go_at_call_of 29 (Value.pointer (some ⟨y1, 0, none⟩)); refine (HLY.out _ (by first | exact (Below.refl _ _).drew | assumption)).mono ?_; rintro e w2 ⟨rfl, hb2⟩; have hd0 := (hb2.cell (p := ⟨B0, 0, none⟩) hB0).trans H0.out; have hd1 := (hb2.cell (p := ⟨bb, 2, none⟩) hbb).trans C2.out; have hd2 := (hb2.cell (p := ⟨mv, x, none⟩) hmv).trans DX.out; have hd3 := (hb2.cell (p := ⟨mv, y, none⟩) hmv).trans DY.out))
 have q1 : w2.cell? ⟨B1, 0, none⟩ = some (.int .i64 last) := (hb2.cell (p := ⟨B1, 0, none⟩) hB1).trans H1.out
 have B2 := Lib.hid hb2
 have hlt2 := hb2.size
 clear hb1 hb2 ha0 ha1 ha2 ha3 hd0 hd1 hd2 hd3 HLX HLY dx dy h0 h1 c2
 obtain ⟨b1, hb1⟩ : ∃ b : Bool, b = ((x : Int) == last) := ⟨_, rfl⟩
 obtain ⟨b2, hb2⟩ : ∃ b : Bool, b = ((y : Int) == last) := ⟨_, rfl⟩
 rw [← hb1, ← hb2] at HCS
 cases b1 with
 | true =>
  cases b2 with
  | true =>
   have e1 := hb1.symm
   have e2 := hb2.symm
   have HC2 : Hid (cmpS ms last x y = orI (cmpI ly lx) (cmpI x y)) := Lib.hid (by rw [HCS.out]; unfold orI; simp)
   clear hb1 hb2
   go_wp2_with fail
   refine (cmpI_any ly lx _).mono ?_
   rintro e w3 ⟨rfl, rfl⟩
   go_wp2_with fail
   refine (cmpI_any x y _).mono ?_
   rintro e w3 ⟨rfl, rfl⟩
   obtain ⟨ca, hca⟩ : ∃ c, c = cmpI ly lx := ⟨_, rfl⟩
   obtain ⟨cb, hcb⟩ : ∃ c, c = cmpI x y := ⟨_, rfl⟩
   rw [← hca, ← hcb] at HC2 ⊢
   clear hca hcb
   go_wp2_with fail
   refine (or2_any ca cb w2.heap.size _ (by rw [World.cell?_alloc_at _ _ _ _ rfl]; rfl) (by rw [World.cell?_alloc_at _ _ _ _ rfl]; rfl)).mono ?_
   rintro e w3 ⟨rfl, rfl⟩
   go_wp2_with fail
   go_ret
   exact ⟨by rw [HC2.out]; rfl, B2.out.alloc hlt2 _⟩
  | false =>
   have e1 := hb1.symm
   have e2 := hb2.symm
   have HC2 : Hid (cmpS ms last x y = cmpI (flagI true) (flagI false)) := Lib.hid (by rw [HCS.out]; simp)
   clear hb1 hb2
   go_wp2_with fail
   go_quiet (first | (go_at_call 121; exact quiet_left (flag_any _ _)) | (go_at_call 120; exact quiet_left (cmpI_any _ _ _)))
   go_wp2_with fail
   go_ret
   exact ⟨by rw [HC2.out]; rfl, below_drewN' B2.out _⟩
 | false =>
  cases b2 with
  | true =>
   have e1 := hb1.symm
   have e2 := hb2.symm
   have HC2 : Hid (cmpS ms last x y = cmpI (flagI false) (flagI true)) := Lib.hid (by rw [HCS.out]; simp)
   clear hb1 hb2
   go_wp2_with fail
   go_quiet (first | (go_at_call 121; exact quiet_left (flag_any _ _)) | (go_at_call 120; exact quiet_left (cmpI_any _ _ _)))
   go_wp2_with fail
   go_ret
   exact ⟨by rw [HC2.out]; rfl, below_drewN' B2.out _⟩
  | false =>
   have e1 := hb1.symm
   have e2 := hb2.symm
   have HC2 : Hid (cmpS ms last x y = orI (cmpI ly lx) (cmpI x y)) := Lib.hid (by rw [HCS.out]; unfold orI; simp)
   clear hb1 hb2
   go_wp2_with fail
   refine (cmpI_any ly lx _).mono ?_
   rintro e w3 ⟨rfl, rfl⟩
   go_wp2_with fail
   refine (cmpI_any x y _).mono ?_
   rintro e w3 ⟨rfl, rfl⟩
   obtain ⟨ca, hca⟩ : ∃ c, c = cmpI ly lx := ⟨_, rfl⟩
   obtain ⟨cb, hcb⟩ : ∃ c, c = cmpI x y := ⟨_, rfl⟩
   rw [← hca, ← hcb] at HC2 ⊢
   clear hca hcb
   go_wp2_with fail
   refine (or2_any ca cb w2.heap.size _ (by rw [World.cell?_alloc_at _ _ _ _ rfl]; rfl) (by rw [World.cell?_alloc_at _ _ _ _ rfl]; rfl)).mono ?_
   rintro e w3 ⟨rfl, rfl⟩
   go_wp2_with fail
   go_ret
   exact ⟨by rw [HC2.out]; rfl, B2.out.alloc hlt2 _⟩
end Go.Proofs.YtfaemcfjbbbbdaaGreat
namespace Go.Proofs.YtfaemcfjbbbbdaaGreat
open Go.RowKit
theorem callFunc_order1 (args : Array Value) (W : World) : (callFunc 119 args).run Tryz.prog W = .ok (.enter 119 args) W := by kernel_rfl
theorem encF_snoc (f : Nat → Nat) (k : Nat) : encF f (k + 1) = encF f k ++ [.int .i64 (f k : Nat)] := by
 unfold encF
 rw [List.range_succ, List.map_append]
 rfl
def OrderIs (w : World) (ms : List MT) (last : Int) (n : Nat) (e : Ending) (w' : World) : Prop :=
 ∃ g cap f, e = .returned (.slice (some ⟨g, 0, none⟩) n cap) ∧ Once n n f ∧ SortedTo (cmpS ms last) f n ∧ w'.ownsRow w.heap.size 3 1 (.slice (some ⟨g, 0, none⟩) n cap) n (encF f n) ∧ Below w.heap.size w w'
set_option maxHeartbeats 1600000 in
set_option maxRecDepth 100000 in
theorem order_any' (bb eb : Nat) (gs : Gs) (secs : Int) (ms : List MT) (es : List Nat) (last : Int) (w : World) (h : IsBook w bb eb gs secs ms es) :
  Calls Tryz.prog 104 #[.pointer (some ⟨bb, 0, none⟩), .int .i64 last] w (OrderIs w ms last gs.length) := by
 obtain ⟨gb, gc, mv, mc, ec, c0, c1, c2, c3, hgs, hmp, hes, hmv, heb, hbb⟩ := h.parts
 have hr := rightB_spec h.right
 obtain ⟨i0, hi, hz0, hz1, hz2⟩ := info_parts infoI
 have HB := Lib.hid h
 obtain ⟨n, hn⟩ : ∃ n, n = gs.length := ⟨_, rfl⟩
 have hn4 := hr.2.1
 have hn1 := hr.1
 rw [← hn] at c2 hn4 hn1 ⊢
 have HN := Lib.hid hn
 obtain ⟨wB, hwB⟩ : ∃ wB, wB = (w.alloc (.cells #[.pointer (some ⟨bb, 0, none⟩)] 38)).alloc (.cells #[.int .i64 last] 3) := ⟨_, rfl⟩
 have hbB : Below w.heap.size w wB := by rw [hwB]; exact ((Below.refl _ _).alloc (Nat.le_refl _) _).alloc (by simp) _
 have hB0 : wB.cell? ⟨w.heap.size, 0, none⟩ = some (.pointer (some ⟨bb, 0, none⟩)) := by
  rw [hwB]
  exact ((Blk.new w 38 [.pointer (some ⟨bb, 0, none⟩)]).alloc _).cell 0
 have hB1 : wB.cell? ⟨w.heap.size + 1, 0, none⟩ = some (.int .i64 last) := by
  rw [hwB]
  exact (Blk.newAt (w := w.alloc (.cells #[.pointer (some ⟨bb, 0, none⟩)] 38)) 3 [.int .i64 last] (by simp)).cell 0
 have hBs : w.heap.size + 2 ≤ wB.heap.size := by rw [hwB]; simp
 have c2B : wB.cell? ⟨bb, 2, none⟩ = some (.slice (some ⟨mv, 0, none⟩) n mc) := (hbB.cell (p := ⟨bb, 2, none⟩) hbb).trans c2
 have HbB := Lib.hid hbB
 have H0 := Lib.hid hB0
 have H1 := Lib.hid hB1
 clear h c0 c1 c2 c3 hgs hmp hes hr hn hbB hB1
 go_enter Tryz.func104, Tryz.ntmps104
 go_upto_region 1 with fail
 rw [← hwB]
 clear hwB
 go_wp2_with fail
 clear hB0 c2B
 go_loopw [5, 12] (fun v i wr => ∃ k : Nat, k ≤ n ∧ i = .int .i64 k ∧ Hid (wr.ownsRow (w.heap.size + 2) 3 1 v k (encF (fun i => i) k)) ∧ Hid (Below (w.heap.size + 2) wB wr)) (fun _ i _ => n - (intOf i).toNat)
 case atStart => exact ⟨0, by omega, rfl, Lib.hid (World.ownsRow_nil _ _ _ _), Lib.hid (Below.refl _ _)⟩
 case round =>
  obtain ⟨k, hk, rfl, HOW, HBR⟩ := hrel
  have hsr := HBR.out.size
  by_cases hkn : k < n
  ·obtain ⟨ao1, cap1, rfl, _⟩ := RSl.of_owns HOW.out
   go_wp2_with (at_builtin; go_must (refine wpList_append_own _ rfl (.tmp 15) (.tmp 17) 88 rfl (w.heap.size + 2) 3 i0 (.int .i64 0) 1 8 Tryz.underlying88 hi hz0 hz1 hz2 rfl (by decide) (.slice ao1 k cap1) k (encF (fun i => i) k) rfl (HOW.out.alloc _) ⟨wr.heap.size, 0, none⟩ 1 1 [.int .i64 (k : Nat)] rfl rfl (Blk.news (Blk.newAt (w := wr) 3 [.int .i64 (k : Nat)] (by simp))) (by simp [Value.oneCell']) (by unfold maxLen; omega) (by omega) (by simp; omega) ?_; intro v1 w1 hown1 hgrow1 _))
   rw [← encF_snoc (fun i => i) k] at hown1
   go_roundw
   case rel => exact ⟨k + 1, by omega, by go_num, Lib.hid hown1, Lib.hid (below_own (base := w.heap.size + 2) (HBR.out.alloc (by omega) _) (HOW.out.alloc _) hgrow1 (by simp; omega) (Nat.le_refl _))⟩
   case measure => simp [intOf]; omega
  ·have hkn' : k = n := by omega
   subst hkn'
   obtain ⟨g, cap, rfl, hg⟩ := owns_headv HOW.out (by omega)
   have hglt := (HOW.out.lt g rfl).2
   have hBr : Below w.heap.size w wr := HbB.out.trans (HBR.out.mono (by omega))
   have hbook := HB.out.below hBr
   have hfl := hbook.lt
   have hfoot : ∀ x, foot bb eb ms x → x ≠ g := fun x hx e => by have := HB.out.lt x hx; omega
   obtain ⟨cs, hgb, _⟩ := owns_blk HOW.out
   have hq0 : wr.cell? ⟨w.heap.size, 0, none⟩ = some (.pointer (some ⟨bb, 0, none⟩)) := (HBR.out.cell (p := ⟨w.heap.size, 0, none⟩) (by show w.heap.size < w.heap.size + 2; omega)).trans H0.out
   have hq1 : wr.cell? ⟨w.heap.size + 1, 0, none⟩ = some (.int .i64 last) := (HBR.out.cell (p := ⟨w.heap.size + 1, 0, none⟩) (by show w.heap.size + 1 < w.heap.size + 2; omega)).trans H1.out
   have HS := Lib.hid (sortFunc_any 119 #[.pointer (some ⟨w.heap.size, 0, none⟩), .pointer (some ⟨w.heap.size + 1, 0, none⟩)] (cmpS ms last) (w.heap.size + 2) g k k cap (fun i => i) wr HOW.out (by omega) hn4 ⟨fun i hi => hi, fun i j _ _ h => h, fun y hy => ⟨y, hy, rfl⟩⟩ (cmpS_swo ms last k) callFunc_order1 (fun x y hx hy W hW => by
    have hMod : Mod (fun t => t = g) wr W := Mod.grown hW rfl
    have hty : TyOk wr (fun t => t = g) := fun t ht _ => by subst ht; exact ⟨_, _, hgb, .inr (.inr rfl)⟩
    have hb2 := hbook.keep hMod hty (fun x hx e => hfoot x hx e)
    refine order1_any w.heap.size (w.heap.size + 1) bb eb gs secs ms es last x y W hb2 ?_ ?_ (by have := HN.out; omega) (by have := HN.out; omega)
    ·rw [World.cell?_of_block (w := wr) (hMod.block w.heap.size (by omega) (by show ¬ w.heap.size = g; omega))]; exact hq0
    ·rw [World.cell?_of_block (w := wr) (hMod.block (w.heap.size + 1) (by omega) (by show ¬ w.heap.size + 1 = g; omega))]; exact hq1))
   have HBr := Lib.hid hBr
   clear hbook hfl hfoot hgb hq0 hq1 hBr
   go_wp2_with fail
   refine HS.out.mono ?_
   rintro e w1 ⟨rfl, f, ho, hs, how, hgr⟩
   have hfin : OrderIs w ms last k (.returned (.slice (some ⟨g, 0, none⟩) k cap)) w1 := ⟨g, cap, f, rfl, ho, hs, owns_weaken how (by omega), HBr.out.grown hgr HBr.out.size (fun t ht => by simp only [Option.some.injEq] at ht; omega)⟩
   clear ho hs how hgr
   go_wp2_with fail
   go_ret
   exact hfin
end Go.Proofs.YtfaemcfjbbbbdaaGreat
namespace Go.Proofs.YtfaemcfjbbbbdaaGreat
open Go.RowKit
theorem set_map_fst (ms : List MT) (i : Nat) (x : Nat × List (Nat × Nat)) : (ms.set i ((ms.getD i mD).1, x)).map (·.1) = ms.map (·.1) := by
 apply List.ext_getElem
 ·simp
 ·intro j h1 h2
  simp only [List.map_set, List.getElem_set]
  split
  ·rename_i e
   subst e
   have hj : i < ms.length := by simpa using h2
   simp [List.getD, hj]
  ·rfl
theorem getD_set_same {α : Type} (l : List α) (i : Nat) (x d : α) (h : i < l.length) : (l.set i x).getD i d = x := by simp [List.getD, h]
theorem getD_set_other {α : Type} (l : List α) (i j : Nat) (x d : α) (h : i ≠ j) : (l.set i x).getD j d = l.getD j d := by simp only [List.getD_eq_getElem?_getD, List.getElem?_set, if_neg h]
theorem mem_getD {ms : List MT} {i : Nat} (h : i < ms.length) : ms.getD i mD ∈ ms := by rw [List.getD_eq_getElem?_getD, List.getElem?_eq_getElem h]; exact List.getElem_mem _
theorem nodup_ne {ms : List MT} (hnd : (ms.map (·.1)).Nodup) {i j : Nat} (hi : i < ms.length) (hj : j < ms.length) (hne : i ≠ j) : (ms.getD i mD).1 ≠ (ms.getD j mD).1 := by
 intro e
 have h := List.nodup_iff_pairwise_ne.1 hnd
 rw [List.pairwise_map, List.pairwise_iff_getElem] at h
 have ei : ms.getD i mD = ms[i] := by rw [List.getD_eq_getElem?_getD, List.getElem?_eq_getElem hi]; rfl
 have ej : ms.getD j mD = ms[j] := by rw [List.getD_eq_getElem?_getD, List.getElem?_eq_getElem hj]; rfl
 rw [ei, ej] at e
 rcases Nat.lt_or_gt_of_ne hne with h1 | h1
 ·exact h i j hi hj h1 e
 ·exact h j i hj hi h1 e.symm
section
variable {w w' : World} {bb eb : Nat} {gs : Gs} {secs : Int} {ms : List MT} {es : List Nat}
theorem IsBook.map_at (h : IsBook w bb eb gs secs ms es) {i : Nat} (hi : i < gs.length) : IsMap w (ms.getD i mD).1 (ms.getD i mD).2.1 (ms.getD i mD).2.2 := h.maps _ (mem_getD (by rw [h.mlen]; exact hi))
theorem IsBook.footMap (h : IsBook w bb eb gs secs ms es) {i : Nat} (hi : i < gs.length) : foot bb eb ms (ms.getD i mD).1 := .inr (.inr (List.mem_map_of_mem (mem_getD (by rw [h.mlen]; exact hi))))
theorem IsBook.setMap (h : IsBook w bb eb gs secs ms es) {i : Nat} (hi : i < gs.length) {sz : Nat} {rs : List (Nat × Nat)} (hg : w.grownBy w' (some (ms.getD i mD).1)) (hm : IsMap w' (ms.getD i mD).1 sz rs) :
  IsBook w' bb eb gs secs (ms.set i ((ms.getD i mD).1, sz, rs)) es := by
 obtain ⟨gv, mv, ec, h1, h2, h3, h4⟩ := h.mem
 have him : i < ms.length := by rw [h.mlen]; exact hi
 have hold := h.map_at hi
 obtain ⟨_, _, _, _, ov, hob, _⟩ := hold
 have hne : ∀ e cs k, Blk w k e cs → e ≠ 154 → k ≠ (ms.getD i mD).1 := by
  intro e cs k hk he e1
  rw [e1] at hk
  unfold Blk at hk hob
  rw [hob] at hk
  simp only [Option.some.injEq, Obj.cells.injEq] at hk
  exact he hk.2.1.symm
 have hrow : ∀ {base e size n : Nat} {v : Value} {xs : List Value}, w.ownsRow base e size v n xs → e ≠ 154 → w'.ownsRow base e size v n xs := by
  intro base e size n v xs ho he
  refine ho.kept hg ?_
  rcases ho.2 with ⟨rfl, _⟩ | ⟨g, cap, cur, rfl, _, hh, _⟩
  ·exact .inl rfl
  ·refine .inr ?_
   intro eq
   simp only [Value.ownBlock, Option.some.injEq] at eq
   exact hne e cur.toList g (by simpa [Blk] using hh) he eq
 refine ⟨h.right, by rw [List.length_set]; exact h.mlen, h.elen, ⟨gv, mv, ec, ?_, hrow h2 (by decide), ?_, hrow h4 (by decide)⟩, ?_, ?_⟩
 ·unfold Blk
  rw [hg.block bb h1.lt (by simpa using hne _ _ _ h1 (by decide))]
  exact h1
 ·rw [set_map_fst]; exact hrow h3 (by decide)
 ·intro m hmm
  obtain ⟨j, hj, rfl⟩ := List.mem_iff_getElem.1 hmm
  rw [List.length_set] at hj
  rw [List.getElem_set]
  split
  ·exact hm
  ·rename_i e
   have ej : ms.getD j mD = ms[j] := by rw [List.getD_eq_getElem?_getD, List.getElem?_eq_getElem hj]; rfl
   have hmj := h.maps _ (List.getElem_mem hj)
   refine hmj.other hg hob ?_
   rw [← ej]
   exact nodup_ne h.nodup hj him (fun h => e h.symm)
 ·rw [set_map_fst]; exact h.nodup
theorem IsBook.setEnd (h : IsBook w bb eb gs secs ms es) {i x : Nat} (_hi : i < gs.length) : IsBook (w.setCell ⟨eb, i, none⟩ (.int .i64 (x : Nat))) bb eb gs secs ms (es.set i x) := by
 obtain ⟨gv, mv, ec, h1, h2, h3, h4⟩ := h.mem
 obtain ⟨cs, hb, _⟩ := owns_blk h4
 have h5 := (h4.stored i (.int .i64 (x : Nat))).1
 rw [encNs_set] at h5
 refine ⟨h.right, h.mlen, by rw [List.length_set]; exact h.elen, ⟨gv, mv, ec, h1.other (a := ⟨eb, i, none⟩) ?_ _, owns_setCell_other h2 hb (by decide), owns_setCell_other h3 hb (by decide), h5⟩, fun m hm => (h.maps m hm).setOther hb (by decide) (by decide), h.nodup⟩
 rintro rfl
 unfold Blk at h1 hb
 rw [h1] at hb
 simp only [Option.some.injEq, Obj.cells.injEq] at hb
 exact absurd hb.2.1 (by decide)
end
end Go.Proofs.YtfaemcfjbbbbdaaGreat
namespace Go.Proofs.YtfaemcfjbbbbdaaGreat
def Us (rs : List (Nat × Nat)) (x : Nat) : Prop := ∃ r ∈ rs, r.1 ≤ x ∧ x < r.1 + r.2
theorem Us_nil (x : Nat) : ¬ Us [] x := by rintro ⟨r, hr, _⟩; simp at hr
theorem Us_cons (r : Nat × Nat) (t : List (Nat × Nat)) (x : Nat) : Us (r :: t) x ↔ (r.1 ≤ x ∧ x < r.1 + r.2) ∨ Us t x := by
 simp only [Us, List.mem_cons]
 constructor
 ·rintro ⟨q, rfl | hq, h⟩
  ·exact .inl h
  ·exact .inr ⟨q, hq, h⟩
 ·rintro (h | ⟨q, hq, h⟩)
  ·exact ⟨r, .inl rfl, h⟩
  ·exact ⟨q, .inr hq, h⟩
theorem Us_append (a b : List (Nat × Nat)) (x : Nat) : Us (a ++ b) x ↔ Us a x ∨ Us b x := by
 induction a with
 | nil => simp [Us]
 | cons r t ih => rw [List.cons_append, Us_cons, Us_cons, ih, or_assoc]
theorem Us_one (r : Nat × Nat) (x : Nat) : Us [r] x ↔ r.1 ≤ x ∧ x < r.1 + r.2 := by
 rw [Us_cons]
 exact or_iff_left (Us_nil x)
theorem Us_get {rs : List (Nat × Nat)} {x : Nat} (h : Us rs x) : ∃ j, ∃ hj : j < rs.length, rs[j].1 ≤ x ∧ x < rs[j].1 + rs[j].2 := by
 obtain ⟨r, hr, h⟩ := h
 obtain ⟨j, hj, rfl⟩ := List.mem_iff_getElem.1 hr
 exact ⟨j, hj, h⟩
theorem Us_of {rs : List (Nat × Nat)} {x j : Nat} (hj : j < rs.length) (h1 : rs[j].1 ≤ x) (h2 : x < rs[j].1 + rs[j].2) : Us rs x := ⟨rs[j], List.getElem_mem _, h1, h2⟩
theorem Good.cons {size : Nat} {r : Nat × Nat} {t : List (Nat × Nat)} (h : Good size (r :: t)) : 1 ≤ r.2 ∧ r.1 + r.2 ≤ size ∧ Good size t ∧ ∀ q ∈ t, r.1 + r.2 < q.1 := by
 have h1 := h.1 r (by simp)
 have h2 := List.pairwise_cons.1 h.2
 exact ⟨h1.1, h1.2, ⟨fun q hq => h.1 q (by simp [hq]), h2.2⟩, h2.1⟩
theorem Us_joinStep (out : List (Nat × Nat)) (r : Nat × Nat) (x : Nat) : Us (joinStep out r) x ↔ Us out x ∨ (r.1 ≤ x ∧ x < r.1 + r.2) := by
 rcases List.eq_nil_or_concat out with rfl | ⟨o, q, rfl⟩
 ·rw [joinStep_nil, Us_one]
  exact (or_iff_right (Us_nil x)).symm
 ·rw [List.concat_eq_append]
  by_cases h : q.1 + q.2 = r.1
  ·rw [joinStep_touch _ _ _ h, Us_append, Us_append, Us_one, Us_one, or_assoc]
   refine or_congr_right ?_
   dsimp only
   omega
  ·rw [joinStep_apart _ _ _ h, Us_append, Us_one]
theorem Us_joinL (rs : List (Nat × Nat)) (x : Nat) : Us (joinL rs) x ↔ Us rs x := by
 have key : ∀ k, k ≤ rs.length → (Us (joinL (rs.take k)) x ↔ Us (rs.take k) x) := by
  intro k
  induction k with
  | zero => intro _; simp [joinL]
  | succ k ih =>
   intro hk
   rw [joinL_step _ _ hk, Us_joinStep, ih (by omega), List.take_succ_eq_append_getElem hk, Us_append, Us_one, List.getD_eq_getElem?_getD, List.getElem?_eq_getElem hk]
   rfl
 have := key rs.length (Nat.le_refl _)
 rwa [List.take_length] at this
theorem sumR_joinStep (out : List (Nat × Nat)) (r : Nat × Nat) : sumR (joinStep out r) = sumR out + r.2 := by
 rcases List.eq_nil_or_concat out with rfl | ⟨o, q, rfl⟩
 ·rw [joinStep_nil]; simp [sumR]
 ·rw [List.concat_eq_append]
  by_cases h : q.1 + q.2 = r.1
  ·rw [joinStep_touch _ _ _ h, sumR_append, sumR_append]; simp [sumR]; omega
  ·rw [joinStep_apart _ _ _ h, sumR_append]; simp [sumR]
theorem sumR_joinL (rs : List (Nat × Nat)) : sumR (joinL rs) = sumR rs := by
 have key : ∀ k, k ≤ rs.length → sumR (joinL (rs.take k)) = sumR (rs.take k) := by
  intro k
  induction k with
  | zero => intro _; simp [joinL]
  | succ k ih =>
   intro hk
   rw [joinL_step _ _ hk, sumR_joinStep, ih (by omega), sumR_step _ _ hk]
 have := key rs.length (Nat.le_refl _)
 rwa [List.take_length] at this
theorem first_hits {size a n : Nat} {rs : List (Nat × Nat)} (h : Good size rs) :
  (firstOf rs a < rs.length ∧ (rs.getD (firstOf rs a) (0, 0)).1 < a + n) ↔ ∃ x, a ≤ x ∧ x < a + n ∧ Us rs x ∨ firstOf rs a < rs.length ∧ n = 0 ∧ (rs.getD (firstOf rs a) (0, 0)).1 < a := by
 constructor
 ·rintro ⟨hi, hq⟩
  rcases Nat.eq_zero_or_pos n with rfl | hn
  ·exact ⟨0, .inr ⟨hi, rfl, by omega⟩⟩
  ·have hend := List.findIdx_getElem (p := fun r : Nat × Nat => decide (a < r.1 + r.2)) (w := hi)
   have hend : a < rs[firstOf rs a].1 + rs[firstOf rs a].2 := of_decide_eq_true hend
   have e : rs.getD (firstOf rs a) (0, 0) = rs[firstOf rs a] := by rw [List.getD_eq_getElem?_getD, List.getElem?_eq_getElem hi]; rfl
   rw [e] at hq
   have := (h.1 rs[firstOf rs a] (List.getElem_mem _)).1
   exact ⟨max a rs[firstOf rs a].1, .inl ⟨by omega, by omega, Us_of hi (by omega) (by omega)⟩⟩
 ·rintro ⟨x, ⟨h1, h2, hx⟩ | ⟨hi, rfl, hq⟩⟩
  ·obtain ⟨j, hj, g1, g2⟩ := Us_get hx
   have hij : firstOf rs a ≤ j := by
    refine Nat.le_of_not_lt fun hlt => ?_
    have := firstOf_before hlt hj
    omega
   have hi : firstOf rs a < rs.length := by omega
   refine ⟨hi, ?_⟩
   rw [List.getD_eq_getElem?_getD, List.getElem?_eq_getElem hi]
   show rs[firstOf rs a].1 < a + n
   rcases Nat.eq_or_lt_of_le hij with he | hlt
   ·have : rs[firstOf rs a] = rs[j] := by congr 1
    rw [this]; omega
   ·have := h.le hlt hj
    omega
  ·exact ⟨hi, by omega⟩
theorem takeS_spec {size : Nat} {rs : List (Nat × Nat)} (h : Good size rs) (a n : Int) :
  (¬ May size a n ∧ takeS size rs a n = (1, rs)) ∨ (May size a n ∧ (∃ x, a.toNat ≤ x ∧ x < a.toNat + n.toNat ∧ Us rs x) ∧ takeS size rs a n = (13, rs)) ∨
  (May size a n ∧ (∀ x, a.toNat ≤ x → x < a.toNat + n.toNat → ¬ Us rs x) ∧ (takeS size rs a n).1 = 0 ∧ (∀ x, Us (takeS size rs a n).2 x ↔ Us rs x ∨ (a.toNat ≤ x ∧ x < a.toNat + n.toNat)) ∧ sumR (takeS size rs a n).2 = sumR rs + n.toNat) := by
 by_cases hm : May size a n
 ·have hm' := hm
  obtain ⟨m1, m2, m3, m4⟩ := hm
  have hh := first_hits (a := a.toNat) (n := n.toNat) h
  by_cases hu : firstOf rs a.toNat < rs.length ∧ (rs.getD (firstOf rs a.toNat) (0, 0)).1 < a.toNat + n.toNat
  ·refine .inr (.inl ⟨hm', ?_, by unfold takeS; rw [if_pos hm', if_pos hu]⟩)
   obtain ⟨x, hx | hx⟩ := hh.1 hu
   ·exact ⟨x, hx⟩
   ·omega
  ·have e : takeS size rs a n = (0, joinL (rs.take (firstOf rs a.toNat) ++ (a.toNat, n.toNat) :: rs.drop (firstOf rs a.toNat))) := by unfold takeS; rw [if_pos hm', if_neg hu]
   refine .inr (.inr ⟨hm', fun x h1 h2 hx => hu (hh.2 ⟨x, .inl ⟨h1, h2, hx⟩⟩), by rw [e], fun x => ?_, ?_⟩)
   ·rw [e]
    show Us (joinL _) x ↔ _
    rw [Us_joinL, Us_append, Us_cons]
    conv => rhs; rw [← List.take_append_drop (firstOf rs a.toNat) rs, Us_append]
    dsimp only
    constructor
    ·rintro (h | h | h)
     ·exact .inl (.inl h)
     ·exact .inr h
     ·exact .inl (.inr h)
    ·rintro ((h | h) | h)
     ·exact .inl h
     ·exact .inr (.inr h)
     ·exact .inr (.inl h)
   ·rw [e]
    show sumR (joinL _) = _
    rw [sumR_joinL, sumR_append, sumR_cons]
    conv => rhs; rw [← List.take_append_drop (firstOf rs a.toNat) rs, sumR_append]
    dsimp only
    omega
 ·exact .inl ⟨hm, by unfold takeS; rw [if_neg hm]⟩
end Go.Proofs.YtfaemcfjbbbbdaaGreat
namespace Go.Proofs.YtfaemcfjbbbbdaaGreat
theorem fitGo_spec (size n : Nat) (hn : 1 ≤ n) : ∀ (D : List (Nat × Nat)) (c : Nat), Good size D →
  (∀ q, fitGo size n D c = some q → c ≤ q ∧ q + n ≤ size ∧ (∀ x, q ≤ x → x < q + n → ¬ Us D x) ∧ ∀ p, c ≤ p → p < q → ∃ x, p ≤ x ∧ x < p + n ∧ Us D x) ∧
  (fitGo size n D c = none → ∀ p, c ≤ p → p + n ≤ size → ∃ x, p ≤ x ∧ x < p + n ∧ Us D x) := by
 intro D
 induction D with
 | nil =>
  intro c _
  refine ⟨fun q hq => ?_, fun hq p hp hps => ?_⟩
  ·rw [fitGo] at hq
   split at hq
   ·simp only [Option.some.injEq] at hq
    subst hq
    exact ⟨Nat.le_refl _, by omega, fun x _ _ => Us_nil x, fun p h1 h2 => by omega⟩
   ·simp at hq
  ·rw [fitGo] at hq
   split at hq
   ·simp at hq
   ·omega
 | cons r t ih =>
  intro c hg
  obtain ⟨g1, g2, g3, g4⟩ := hg.cons
  have lo : ∀ x, Us t x → r.1 + r.2 < x := by
   rintro x ⟨q, hq, h1, _⟩
   have := g4 q hq
   omega
  by_cases hfit : (n : Int) ≤ (r.1 : Int) - (c : Int)
  ·have e : fitGo size n (r :: t) c = some c := by rw [fitGo, if_pos hfit]
   rw [e]
   refine ⟨fun q hq => ?_, fun h => by simp at h⟩
   simp only [Option.some.injEq] at hq
   subst hq
   refine ⟨Nat.le_refl _, by omega, fun x h1 h2 hx => ?_, fun p h1 h2 => by omega⟩
   rcases (Us_cons _ _ _).1 hx with h | h
   ·omega
   ·have := lo x h; omega
  ·have e : fitGo size n (r :: t) c = fitGo size n t (max c (r.1 + r.2)) := by rw [fitGo, if_neg hfit]
   rw [e]
   obtain ⟨i1, i2⟩ := ih (max c (r.1 + r.2)) g3
   have low : ∀ p, c ≤ p → p < max c (r.1 + r.2) → ∃ x, p ≤ x ∧ x < p + n ∧ Us (r :: t) x := fun p h1 h2 =>
    ⟨max p r.1, by omega, by omega, (Us_cons _ _ _).2 (.inl ⟨by omega, by omega⟩)⟩
   refine ⟨fun q hq => ?_, fun hq p hp hps => ?_⟩
   ·obtain ⟨a1, a2, a3, a4⟩ := i1 q hq
    refine ⟨by omega, a2, fun x h1 h2 hx => ?_, fun p h1 h2 => ?_⟩
    ·rcases (Us_cons _ _ _).1 hx with h | h
     ·omega
     ·exact a3 x h1 h2 h
    ·by_cases hlow : p < max c (r.1 + r.2)
     ·exact low p h1 hlow
     ·obtain ⟨x, b1, b2, b3⟩ := a4 p (by omega) h2
      exact ⟨x, b1, b2, (Us_cons _ _ _).2 (.inr b3)⟩
   ·by_cases hlow : p < max c (r.1 + r.2)
    ·exact low p hp hlow
    ·obtain ⟨x, b1, b2, b3⟩ := i2 hq p (by omega) hps
     exact ⟨x, b1, b2, (Us_cons _ _ _).2 (.inr b3)⟩
theorem Us_drop {size : Nat} {rs : List (Nat × Nat)} (_h : Good size rs) {f x : Nat} (hx : f ≤ x) : Us (rs.drop (firstOf rs f)) x ↔ Us rs x := by
 conv => rhs; rw [← List.take_append_drop (firstOf rs f) rs]
 rw [Us_append]
 refine (or_iff_right ?_).symm
 rintro ⟨r, hr, g1, g2⟩
 obtain ⟨j, hj, hji, rfl⟩ := mem_take_get hr
 have := firstOf_before hji hj
 omega
theorem Good.drop {size k : Nat} {rs : List (Nat × Nat)} (h : Good size rs) : Good size (rs.drop k) := ⟨fun r hr => h.1 r (List.mem_of_mem_drop hr), h.2.sublist (List.drop_sublist _ _)⟩
theorem fitS_spec {size n f : Nat} {rs : List (Nat × Nat)} (h : Good size rs) (hn : 1 ≤ n) :
  (∀ q, fitS size rs n f = some q → f ≤ q ∧ q + n ≤ size ∧ (∀ x, q ≤ x → x < q + n → ¬ Us rs x) ∧ ∀ p, f ≤ p → p < q → ∃ x, p ≤ x ∧ x < p + n ∧ Us rs x) ∧
  (fitS size rs n f = none → ∀ p, f ≤ p → p + n ≤ size → ∃ x, p ≤ x ∧ x < p + n ∧ Us rs x) := by
 obtain ⟨h1, h2⟩ := fitGo_spec size n hn (rs.drop (firstOf rs f)) f h.drop
 refine ⟨fun q hq => ?_, fun hq p hp hps => ?_⟩
 ·obtain ⟨a1, a2, a3, a4⟩ := h1 q hq
  refine ⟨a1, a2, fun x b1 b2 hx => a3 x b1 b2 ((Us_drop h (by omega)).2 hx), fun p b1 b2 => ?_⟩
  obtain ⟨x, c1, c2, c3⟩ := a4 p b1 b2
  exact ⟨x, c1, c2, (Us_drop h (by omega)).1 c3⟩
 ·obtain ⟨x, c1, c2, c3⟩ := h2 hq p hp hps
  exact ⟨x, c1, c2, (Us_drop h (by omega)).1 c3⟩
theorem findS_some {size n f q : Nat} {rs : List (Nat × Nat)} (h : Good size rs) (hn : 1 ≤ n) (hq : findS size rs n f = some q) : f ≤ size ∧ q + n ≤ size ∧ (∀ x, q ≤ x → x < q + n → ¬ Us rs x) := by
 unfold findS at hq
 split at hq
 ·rename_i hc
  refine ⟨by omega, ?_⟩
  simp only [Int.toNat_natCast] at hq
  cases e : fitS size rs n f with
  | some x =>
   rw [e] at hq
   simp only [Option.some.injEq] at hq
   subst hq
   obtain ⟨_, a2, a3, _⟩ := (fitS_spec h hn).1 _ e
   exact ⟨a2, a3⟩
  | none =>
   rw [e] at hq
   obtain ⟨_, a2, a3, _⟩ := (fitS_spec h hn).1 _ hq
   exact ⟨a2, a3⟩
 ·simp at hq
theorem findS_none {size n f : Nat} {rs : List (Nat × Nat)} (h : Good size rs) (hn : 1 ≤ n) (hf : f ≤ size) (hq : findS size rs n f = none) : ∀ p, p + n ≤ size → ∃ x, p ≤ x ∧ x < p + n ∧ Us rs x := by
 unfold findS at hq
 rw [if_pos ⟨by omega, by omega, by omega⟩] at hq
 simp only [Int.toNat_natCast] at hq
 cases e : fitS size rs n f with
 | some x => rw [e] at hq; simp at hq
 | none =>
  rw [e] at hq
  exact fun p hp => (fitS_spec h hn).2 hq p (by omega) hp
end Go.Proofs.YtfaemcfjbbbbdaaGreat
namespace Go.Proofs.YtfaemcfjbbbbdaaGreat
open Go.RowKit
attribute [local go_sem ↓] Go.wp_at_zero Go.wp_at_succ
def findG (gs : Gs) (secs : Int) (ms : List MT) (es : List Nat) (size : Int) (g : Nat) : Option Nat := findS (ms.getD g mD).2.1 (ms.getD g mD).2.2 (takesI gs secs g size) (es.getD g 0 : Nat)
def OneIs (w : World) (bb eb : Nat) (gs : Gs) (secs : Int) (ms : List MT) (es : List Nat) (size last : Int) (e : Ending) (w' : World) : Prop :=
  ∃ f, Once gs.length gs.length f ∧ SortedTo (cmpS ms last) f gs.length ∧
    ((∃ i at_, i < gs.length ∧ (∀ j, j < i → findG gs secs ms es size (f j) = none) ∧ findG gs secs ms es size (f i) = some at_ ∧ e = .returned (.tuple #[.agg #[.int .i64 (f i : Nat), .int .i64 (at_ : Nat)], .bool true]) ∧
        IsBook w' bb eb gs secs (ms.set (f i) ((ms.getD (f i) mD).1, (ms.getD (f i) mD).2.1, (takeS (ms.getD (f i) mD).2.1 (ms.getD (f i) mD).2.2 (at_ : Nat) (takesI gs secs (f i) size)).2)) (es.set (f i) (at_ + (takesI gs secs (f i) size).toNat)) ∧ Mod (foot bb eb ms) w w') ∨
     ((∀ j, j < gs.length → findG gs secs ms es size (f j) = none) ∧ e = .returned (.tuple #[.agg #[.int .i64 0, .int .i64 0], .bool false]) ∧ Below w.heap.size w w'))
theorem results_cell_tmp {P : Program} {fn : Func} {p u : Tmp} {ty : TypeId} (h : fn.results = #[.cell p ty, .tmp u]) (tmps : Array Value) (w : World) (g : Nat) (t : TypeId) (cs : Array Value) (fr : Nat × Nat) (d : TypeDesc)
  (hp : tmps.getD p undef = .pointer (some ⟨g, 0, none⟩)) (hg : w.heap[g]? = some (.cells cs t fr))
  (hu : P.underlying ty = some d) (hd : (match d with | .struct _ | .array _ _ => true | _ => false) = true) (hi : (P.info? ty).map (·.size) = some cs.size) :
  (results fn tmps).run P w = .ok (.tuple #[.agg cs, tmps.getD u undef]) w := by
 have hp' : tmps[p]?.getD undef = .pointer (some ⟨g, 0, none⟩) := by simpa using hp
 simp [results, h, hp', asAddr, run_loadVar_row w g t ty cs fr d hg hu hd hi]
section
variable {w : World} {bb eb : Nat} {gs : Gs} {secs : Int} {ms : List MT} {es : List Nat}
theorem IsBook.setOther (h : IsBook w bb eb gs secs ms es) {k e j : Nat} {cs : List Value} {u : Value} (hb : Blk w k e cs) (h1 : e ≠ 90) (h2 : 31 ≠ e) (h3 : 91 ≠ e) (h4 : 3 ≠ e) (h5 : 154 ≠ e) (h6 : 130 ≠ e) :
  IsBook (w.setCell ⟨k, j, none⟩ u) bb eb gs secs ms es := by
 obtain ⟨gv, mv, ec, a1, a2, a3, a4⟩ := h.mem
 refine ⟨h.right, h.mlen, h.elen, ⟨gv, mv, ec, a1.other (a := ⟨k, j, none⟩) ?_ _, owns_setCell_other a2 hb h2, owns_setCell_other a3 hb h3, owns_setCell_other a4 hb h4⟩, fun m hm => (h.maps m hm).setOther hb h5 h6, h.nodup⟩
 rintro rfl
 unfold Blk at a1 hb
 rw [a1] at hb
 simp only [Option.some.injEq, Obj.cells.injEq] at hb
 exact h1 hb.2.1.symm
end
set_option maxHeartbeats 3200000 in
set_option maxRecDepth 100000 in
theorem one_book (bb eb : Nat) (gs : Gs) (secs : Int) (ms : List MT) (es : List Nat) (size last : Int) (w : World) (h : IsBook w bb eb gs secs ms es) (hs1 : 1 ≤ size) (hs2 : size ≤ 4) :
  Calls Tryz.prog 82 #[.pointer (some ⟨bb, 0, none⟩), .int .i64 size, .int .i64 last] w (OneIs w bb eb gs secs ms es size last) := by
 obtain ⟨gb, gc, mv, mc, ec, c0, c1, c2, c3, hgs, hmp, hes, hmv, heb, hbb⟩ := h.parts
 have hr := rightB_spec h.right
 have HB := Lib.hid h
 obtain ⟨n, hn⟩ : ∃ n, n = gs.length := ⟨_, rfl⟩
 have hn4 := hr.2.1
 have hn1 := hr.1
 have hml := h.mlen
 have hel := h.elen
 rw [← hn] at c0 c2 c3 hn4 hn1 hgs hes hml hel hmp
 have HN := Lib.hid hn
 have HML := Lib.hid hml
 have HEL := Lib.hid hel
 have C0 := Lib.hid c0
 have C1 := Lib.hid c1
 have C2 := Lib.hid c2
 have C3 := Lib.hid c3
 have HGS := Lib.hid hgs
 have HMP := Lib.hid hmp
 have HES := Lib.hid hes
 have hA : Below w.heap.size w (w.alloc (.cells #[.int .i64 0, .int .i64 0] 44)) := (Below.refl _ _).alloc (Nat.le_refl _) _
 have HA := Lib.hid hA
 have HO := Lib.hid (order_any' bb eb gs secs ms es last (w.alloc (.cells #[.int .i64 0, .int .i64 0] 44)) (h.below hA))
 have HR0 := Lib.hid (Blk.new w 44 [.int .i64 0, .int .i64 0])
 have hRT := h.right
 have HRT := Lib.hid hRT
 clear h c0 c1 c2 c3 hgs hmp hes hr hn hml hel hA hRT
 go_enter Tryz.func82, Tryz.ntmps82
 go_wp2_with fail
 refine HO.out.mono ?_
 rintro e w1 ⟨g, cap, f, rfl, ho, hs, how, hb1⟩
 rw [← HN.out] at ho hs how ⊢
 have B1 := Lib.hid (HA.out.trans (hb1.mono (by simp)))
 have R1 := Lib.hid (HR0.out.below hb1)
 have hR1 := R1.out.lt
 have OW := Lib.hid (rsl_of_owns how)
 have HOF := Lib.hid ho
 have HS := Lib.hid hs
 have hgl := (how.lt g rfl).2
 have hgg : w.heap.size + 1 ≤ g := by have := (how.lt g rfl).1; simpa using this
 clear hb1 how ho hs
 go_wp2_with fail
 go_loopw [17] (fun i wr => ∃ k : Nat, k ≤ n ∧ i = .int .i64 k ∧ Hid (∀ j, j < k → findG gs secs ms es size (f j) = none) ∧ Hid (Below w1.heap.size w1 wr)) (fun i _ => n - (intOf i).toNat)
 case atStart => exact ⟨0, by omega, rfl, Lib.hid (fun j hj => absurd hj (by omega)), Lib.hid (Below.refl _ _)⟩
 case round =>
  obtain ⟨k, hk, rfl, HNO, HBR⟩ := hrel
  have hbw : Below w.heap.size w wr := B1.out.trans (HBR.out.mono B1.out.size)
  have HBW := Lib.hid hbw
  by_cases hkn : k < n
  ·obtain ⟨x, hx⟩ : ∃ x, x = f k := ⟨_, rfl⟩
   have hxn : x < n := by rw [hx]; exact HOF.out.lt k hkn
   have dk : wr.cell? ⟨g, k, none⟩ = some (.int .i64 (x : Nat)) := by
    rw [HBR.out.cell (p := ⟨g, k, none⟩) hgl, hx]
    obtain ⟨b, off, e, _, hc⟩ := OW.out.2.2.2.2 (by omega)
    simp only [Option.some.injEq, Addr.mk.injEq, and_true] at e
    obtain ⟨rfl, rfl⟩ := e
    have := hc k (by omega)
    rw [Nat.zero_add] at this
    rw [this, encF_get _ _ _ hkn]
   have HX := Lib.hid hx
   have e0 : wr.cell? ⟨bb, 0, none⟩ = some (.slice (some ⟨gb, 0, none⟩) n gc) := (hbw.cell (p := ⟨bb, 0, none⟩) hbb).trans C0.out
   have e1 : wr.cell? ⟨bb, 1, none⟩ = some (.int .i64 secs) := (hbw.cell (p := ⟨bb, 1, none⟩) hbb).trans C1.out
   have hT := gtakes_any (some ⟨gb, 0, none⟩) n gc gs secs (x : Nat) size wr (HGS.out.below hbw)
   have hfd : findG gs secs ms es size (f k) = findS (ms.getD x mD).2.1 (ms.getD x mD).2.2 (takesI gs secs (x : Nat) size) (es.getD x 0 : Nat) := by rw [← hx]; rfl
   have htk : takesI gs secs (x : Nat) size = takes (gs.getD x (0, 0)) size := by
    unfold takesI
    rw [if_pos ⟨hasB_mk HRT.out (by omega) (by have := HN.out; omega), hs1, hs2⟩]
    rfl
   have htb := takes_bd (getD_right HRT.out (show x < gs.length by have := HN.out; omega)) hs1 hs2
   rw [← htk] at htb
   obtain ⟨t, ht⟩ : ∃ t, t = (takesI gs secs (x : Nat) size).toNat := ⟨_, rfl⟩
   have ht' : takesI gs secs (x : Nat) size = (t : Int) := by rw [ht, Int.toNat_of_nonneg (by omega)]
   have ht1 : 1 ≤ t := by omega
   have ht6 : t ≤ 6 := by omega
   rw [ht'] at hT hfd
   have HT := Lib.hid hT
   have HFD := Lib.hid hfd
   have HTT := Lib.hid ht'
   have hx0 : (0 : Int) ≤ (x : Int) := by omega
   have hxn' : (x : Int) < (n : Int) := by omega
   clear hx hT hfd htk htb ht ht' hbw
   go_wp2_with fail
   refine HT.out.mono ?_
   rintro e w2 ⟨rfl, hb2⟩
   have B2 := Lib.hid (HBW.out.trans (hb2.mono HBW.out.size))
   have A2 := Lib.hid (HBR.out.trans (hb2.mono HBR.out.size))
   clear hb2 dk e0 e1
   have a2 : w2.cell? ⟨bb, 2, none⟩ = some (.slice (some ⟨mv, 0, none⟩) n mc) := (B2.out.cell (p := ⟨bb, 2, none⟩) hbb).trans C2.out
   have a3 : w2.cell? ⟨bb, 3, none⟩ = some (.slice (some ⟨eb, 0, none⟩) n ec) := (B2.out.cell (p := ⟨bb, 3, none⟩) hbb).trans C3.out
   have am : w2.cell? ⟨mv, x, none⟩ = some (.pointer (some ⟨(ms.getD x mD).1, 0, none⟩)) := (B2.out.cell (p := ⟨mv, x, none⟩) hmv).trans (HMP.out x hxn)
   have ae0 : w.cell? ⟨eb, x, none⟩ = some (.int .i64 (es.getD x 0 : Nat)) := by
    obtain ⟨b, off, e, _, hc⟩ := HES.out.2.2.2.2 (by omega)
    simp only [Option.some.injEq, Addr.mk.injEq, and_true] at e
    obtain ⟨rfl, rfl⟩ := e
    have := hc x (by omega)
    rw [Nat.zero_add] at this
    rw [this, encNs_get _ _ (by have := HEL.out; omega)]
   have ae : w2.cell? ⟨eb, x, none⟩ = some (.int .i64 (es.getD x 0 : Nat)) := (B2.out.cell (p := ⟨eb, x, none⟩) heb).trans ae0
   have hbook2 := HB.out.below B2.out
   have hmx := hbook2.map_at (show x < gs.length by have := HN.out; omega)
   obtain ⟨m, hm⟩ : ∃ m, m = ms.getD x mD := ⟨_, rfl⟩
   rw [← hm] at am hmx HFD
   have HM := Lib.hid hm
   obtain ⟨m1, m2, m3⟩ := m
   obtain ⟨en, hen⟩ : ∃ en, en = es.getD x 0 := ⟨_, rfl⟩
   rw [← hen] at ae HFD
   dsimp only at am hmx
   have hF := find_any m1 m2 m3 (t : Nat) (en : Nat) w2.drew (hmx.below (Below.refl _ _).drew)
   have HFD2 : Hid (findG gs secs ms es size (f k) = findS m2 m3 (t : Nat) (en : Nat)) := HFD
   obtain ⟨r, hr⟩ : ∃ r, r = findS m2 m3 (t : Nat) (en : Nat) := ⟨_, rfl⟩
   rw [← hr] at hF HFD2
   have HF := Lib.hid hF
   have HRR := Lib.hid hr
   have HMX := Lib.hid hmx
   have hlt1 : m1 < w2.heap.size := hmx.lt
   have hbbl : bb < w2.heap.size := by have := B2.out.size; omega
   have hmvl : mv < w2.heap.size := by have := B2.out.size; omega
   have hebl : eb < w2.heap.size := by have := B2.out.size; omega
   have A2' := Lib.hid a2
   have A3' := Lib.hid a3
   have AM' := Lib.hid am
   have AE' := Lib.hid ae
   have HB2 := Lib.hid hbook2
   clear hm hen ae0 hF hr hmx hbook2 HFD
   rcases r with _ | at_
   ·go_wp2_with fail
    go_region_held3 (fun w' => w'.cell? ⟨bb, 2, none⟩ = some (.slice (some ⟨mv, 0, none⟩) n mc) ∧ w'.cell? ⟨mv, x, none⟩ = some (.pointer (some ⟨m1, 0, none⟩)) ∧ w'.cell? ⟨bb, 3, none⟩ = some (.slice (some ⟨eb, 0, none⟩) n ec) ∧ w'.cell? ⟨eb, x, none⟩ = some (.int .i64 (en : Nat))) (go_keep)
     (first
      | (go_at_call 105; refine HF.out.mono ?_; rintro e w3 ⟨rfl, hb3⟩; have hd2 := (hb3.cell (p := ⟨bb, 2, none⟩) hbbl).trans A2'.out; have hdm := (hb3.cell (p := ⟨mv, x, none⟩) hmvl).trans AM'.out; have hd3 := (hb3.cell (p := ⟨bb, 3, none⟩) hbbl).trans A3'.out; have hde := (hb3.cell (p := ⟨eb, x, none⟩) hebl).trans AE'.out))
    have hb3' : Below w2.heap.size w2 w3 := (Below.refl _ _).drew.trans hb3
    go_wp2_with fail
    go_roundw
    case rel =>
     refine ⟨k + 1, by omega, by go_num, Lib.hid fun j hj => ?_, Lib.hid (A2.out.trans (hb3'.mono A2.out.size))⟩
     rcases Nat.lt_or_ge j k with h1 | h1
     ·exact HNO.out j h1
     ·rw [show j = k by omega]; exact HFD2.out
    case measure => simp [intOf]; omega
   ·have hgd := HMX.out.2.2.1
    have hm6 := HMX.out.1
    obtain ⟨_, hq2, hq3⟩ := findS_some hgd ht1 HRR.out.symm
    have hT3 := fun W (hW : IsMap W m1 m2 m3) => take_any m1 m2 m3 (at_ : Nat) (t : Nat) W hW
    have HT3 := Lib.hid hT3
    clear hgd hq3 hT3
    go_wp2_with fail
    go_region_held3 (fun w' => w'.cell? ⟨bb, 2, none⟩ = some (.slice (some ⟨mv, 0, none⟩) n mc) ∧ w'.cell? ⟨mv, x, none⟩ = some (.pointer (some ⟨m1, 0, none⟩)) ∧ w'.cell? ⟨bb, 3, none⟩ = some (.slice (some ⟨eb, 0, none⟩) n ec) ∧ w'.cell? ⟨eb, x, none⟩ = some (.int .i64 (en : Nat))) (go_keep)
     (first
      | (go_at_call 105; refine HF.out.mono ?_; rintro e w3 ⟨rfl, hb3⟩; have hd2 := (hb3.cell (p := ⟨bb, 2, none⟩) hbbl).trans A2'.out; have hdm := (hb3.cell (p := ⟨mv, x, none⟩) hmvl).trans AM'.out; have hd3 := (hb3.cell (p := ⟨bb, 3, none⟩) hbbl).trans A3'.out; have hde := (hb3.cell (p := ⟨eb, x, none⟩) hebl).trans AE'.out))
    have hb3' : Below w2.heap.size w2 w3 := (Below.refl _ _).drew.trans hb3
    have HM3 := Lib.hid (HMX.out.below hb3')
    have HB3 := Lib.hid (HB2.out.below hb3')
    have B3 := Lib.hid (B2.out.trans (hb3'.mono B2.out.size))
    have A3 := Lib.hid (A2.out.trans (hb3'.mono A2.out.size))
    clear hb3 hb3' a2 a3 am ae
    go_wp2_with fail
    refine (HT3.out w3 HM3.out).mono ?_
    rintro e w4 ⟨rfl, hm4, hg4⟩
    have hgm : m1 = (ms.getD x mD).1 := by rw [← HM.out]
    have hg4' : w3.grownBy w4 (some (ms.getD x mD).1) := by rw [← hgm]; exact hg4
    have hm4' : IsMap w4 (ms.getD x mD).1 m2 (takeS m2 m3 (at_ : Nat) (t : Nat)).2 := by rw [← hgm]; exact hm4
    have hbook4 := HB3.out.setMap (show x < gs.length by have := HN.out; omega) hg4' hm4'
    obtain ⟨gb4, gc4, mv4, mc4, ec4, f0, f1, f2, f3, _, _, hes4, _, heb4, hbb4⟩ := hbook4.parts
    have M4 : Mod (foot bb eb ms) w w4 := (Mod.below B3.out).trans (G := foot bb eb ms) (Mod.grown hg4' (HB3.out.footMap (show x < gs.length by have := HN.out; omega))) (fun _ _ h => h)
    have hne : ∀ k, k < w1.heap.size → w.heap.size ≤ k → k ≠ (ms.getD x mD).1 := by
     intro k _ hk e
     have := HB.out.lt _ (HB.out.footMap (show x < gs.length by have := HN.out; omega))
     omega
    have R4 : Blk w4 w.heap.size 44 [.int .i64 0, .int .i64 0] := by
     have h3 := R1.out.below A3.out
     unfold Blk
     rw [hg4'.block w.heap.size h3.lt (by simpa using hne w.heap.size hR1 (Nat.le_refl _))]
     exact h3
    rw [← HN.out] at f3 hes4
    have k0 : w4.cell? ⟨eb, x, none⟩ = some (.int .i64 (es.getD x 0 : Nat)) := by
     obtain ⟨b, off, e, _, hc⟩ := hes4.2.2.2.2 (by omega)
     simp only [Option.some.injEq, Addr.mk.injEq, and_true] at e
     obtain ⟨rfl, rfl⟩ := e
     have := hc x (by omega)
     rw [Nat.zero_add] at this
     rw [this, encNs_get _ _ (by have := HEL.out; omega)]
    have k1 : w4.frozen? ⟨eb, x, none⟩ = false := by
     obtain ⟨gv, mv', ec', _, _, _, h4⟩ := hbook4.mem
     exact h4.frozenAt x
    have hw1 : IntKind.i64.wrap ((at_ : Int) + (t : Int)) = (at_ : Int) + (t : Int) := IntWalk.i64_in _ (by omega)
    have HB4 := Lib.hid (hbook4.setEnd (x := at_ + t) (show x < gs.length by have := HN.out; omega))
    have M4' := Lib.hid M4
    have R4' := Lib.hid R4
    have hRne : w.heap.size ≠ eb := by omega
    have RR := Lib.hid ((R4.other (a := ⟨eb, x, none⟩) hRne (.int .i64 ((at_ : Int) + (t : Int)))))
    have r0 := RR.out.cell 0
    have r1 := RR.out.cell 1
    have r2 := RR.out.frozen 0
    have r3 := RR.out.frozen 1
    clear hm4 hg4 hg4' hm4' hbook4 hes4 M4 R4 f0 f1 f2 hgm
    go_wp2_with fail
    have RR1 := RR.out.setCell 0 (.int .i64 (x : Nat))
    have RR2 := RR1.setCell 1 (.int .i64 (at_ : Nat))
    refine bodyPost_ret (results_cell_tmp rfl _ _ w.heap.size 44 #[.int .i64 (x : Nat), .int .i64 (at_ : Nat)] (0, 0) _ rfl RR2 rfl rfl rfl) rfl ?_
    have hcast : ((at_ + t : Nat) : Int) = (at_ : Int) + (t : Int) := by omega
    have h1 := HB4.out
    rw [hcast] at h1
    have h2 := (h1.setOther (j := 0) (u := .int .i64 (x : Nat)) RR.out (by decide) (by decide) (by decide) (by decide) (by decide) (by decide)).setOther (j := 1) (u := .int .i64 (at_ : Nat)) RR1 (by decide) (by decide) (by decide) (by decide) (by decide) (by decide)
    unfold OneIs
    rw [← HN.out]
    refine ⟨f, HOF.out, HS.out, .inl ⟨k, at_, hkn, HNO.out, HFD2.out, by rw [← HX.out]; rfl, ?_, (((M4'.out.setCell (.inl (.inr (.inl rfl)))).setCell (.inr (Nat.le_refl _))).setCell (.inr (Nat.le_refl _)))⟩⟩
    rw [← HX.out, HTT.out]
    have hM := HM.out
    rw [← hM] at h2 ⊢
    simpa using h2
  ·have hkn' : k = n := by omega
   subst hkn'
   have R2 := Lib.hid (R1.out.below HBR.out)
   have r0 := R2.out.cell 0
   have r1 := R2.out.cell 1
   have r2 := R2.out.frozen 0
   have r3 := R2.out.frozen 1
   go_wp2_with fail
   have RR1 := R2.out.setCell 0 (.int .i64 0)
   have RR2 := RR1.setCell 1 (.int .i64 0)
   refine bodyPost_ret (results_cell_tmp rfl _ _ w.heap.size 44 #[.int .i64 0, .int .i64 0] (0, 0) _ rfl RR2 rfl rfl rfl) rfl ?_
   unfold OneIs
   rw [← HN.out]
   exact ⟨f, HOF.out, HS.out, .inr ⟨HNO.out, rfl, (HBW.out.setCell (Nat.le_refl _) _).setCell (Nat.le_refl _) _⟩⟩
end Go.Proofs.YtfaemcfjbbbbdaaGreat
namespace Go.Proofs.YtfaemcfjbbbbdaaGreat
open Go.RowKit
abbrev SN := List (Nat × List (Nat × Nat))
def st2 (ms : List MT) : SN := ms.map (·.2)
def sD : Nat × List (Nat × Nat) := (0, [])
def mkM (sn : SN) : List MT := sn.map fun x => (0, x)
theorem mkM_get (ms : List MT) (y : Nat) : ((mkM (st2 ms)).getD y mD).2 = (ms.getD y mD).2 := by
 simp only [mkM, st2, List.getD_eq_getElem?_getD, List.getElem?_map]
 cases ms[y]? <;> rfl
theorem st2_get (ms : List MT) (y : Nat) : (st2 ms).getD y sD = (ms.getD y mD).2 := by
 simp only [st2, List.getD_eq_getElem?_getD, List.getElem?_map]
 cases ms[y]? <;> rfl
def cmpA (sn : SN) (last : Int) (x y : Nat) : Int := cmpS (mkM sn) last x y
theorem cmpA_st (ms : List MT) (last : Int) : cmpA (st2 ms) last = cmpS ms last := by
 funext x y
 have hl : ∀ y, leftM ((mkM (st2 ms)).getD y mD) = leftM (ms.getD y mD) := fun y => by unfold leftM; rw [mkM_get]
 simp only [cmpA, cmpS, hl]
def findA (gs : Gs) (secs : Int) (sn : SN) (es : List Nat) (size : Int) (g : Nat) : Option Nat := findS (sn.getD g sD).1 (sn.getD g sD).2 (takesI gs secs g size) (es.getD g 0 : Nat)
theorem findA_st (gs : Gs) (secs : Int) (ms : List MT) (es : List Nat) (size : Int) (g : Nat) : findA gs secs (st2 ms) es size g = findG gs secs ms es size g := by
 unfold findA findG
 rw [st2_get]
open Classical in
noncomputable def ordA (sn : SN) (last : Int) (n : Nat) : Nat → Nat := if h : ∃ f, Once n n f ∧ SortedTo (cmpA sn last) f n then Classical.choose h else id
theorem cmpA_tot (sn : SN) (last : Int) {x y : Nat} (h : x ≠ y) : cmpA sn last x y < 0 ∨ cmpA sn last y x < 0 := by
 unfold cmpA
 rw [cmpS_neg, cmpS_neg]
 omega
theorem ordA_is {sn : SN} {last : Int} {n : Nat} {f : Nat → Nat} (ho : Once n n f) (hs : SortedTo (cmpA sn last) f n) : Once n n (ordA sn last n) ∧ SortedTo (cmpA sn last) (ordA sn last n) n ∧ ∀ i, i < n → ordA sn last n i = f i := by
 have h : ∃ f, Once n n f ∧ SortedTo (cmpA sn last) f n := ⟨f, ho, hs⟩
 have he : ordA sn last n = Classical.choose h := by unfold ordA; rw [dif_pos h]
 have hc := Classical.choose_spec h
 rw [he]
 exact ⟨hc.1, hc.2, sorted_uniq hc.1 ho hc.2 hs (fun x y _ _ hne => cmpA_tot sn last hne)⟩
noncomputable def oneA (gs : Gs) (secs : Int) (sn : SN) (es : List Nat) (size last : Int) : Option (Nat × Nat) :=
 (List.range gs.length).findSome? fun j => (findA gs secs sn es size (ordA sn last gs.length j)).map fun a => (ordA sn last gs.length j, a)
theorem findSome_first {β : Type} {p : Nat → Option β} : ∀ (n i : Nat) (b : β), i < n → (∀ j, j < i → p j = none) → p i = some b → (List.range n).findSome? p = some b := by
 intro n
 induction n with
 | zero => intro i b h; omega
 | succ n ih =>
  intro i b h hn hp
  rw [List.range_succ, List.findSome?_append]
  rcases Nat.lt_or_ge i n with h1 | h1
  ·rw [ih i b h1 hn hp]; rfl
  ·have : i = n := by omega
   subst this
   have : (List.range i).findSome? p = none := by
    rw [List.findSome?_eq_none_iff]
    intro x hx
    exact hn x (List.mem_range.1 hx)
   rw [this]
   simp [hp]
theorem findSome_none {β : Type} {p : Nat → Option β} (n : Nat) (h : ∀ j, j < n → p j = none) : (List.range n).findSome? p = none := by
 rw [List.findSome?_eq_none_iff]
 intro x hx
 exact h x (List.mem_range.1 hx)
def putS (gs : Gs) (secs : Int) (sn : SN) (size : Int) (x : Nat × Nat) : SN := sn.set x.1 ((sn.getD x.1 sD).1, (takeS (sn.getD x.1 sD).1 (sn.getD x.1 sD).2 (x.2 : Nat) (takesI gs secs x.1 size)).2)
def putE (gs : Gs) (secs : Int) (es : List Nat) (size : Int) (x : Nat × Nat) : List Nat := es.set x.1 (x.2 + (takesI gs secs x.1 size).toNat)
def OneFn (w : World) (bb eb : Nat) (gs : Gs) (secs : Int) (ms : List MT) (es : List Nat) (size last : Int) (e : Ending) (w' : World) : Prop :=
 (oneA gs secs (st2 ms) es size last = none ∧ e = .returned (.tuple #[.agg #[.int .i64 0, .int .i64 0], .bool false]) ∧ Below w.heap.size w w') ∨
 ∃ x, oneA gs secs (st2 ms) es size last = some x ∧ x.1 < gs.length ∧ e = .returned (.tuple #[.agg #[.int .i64 (x.1 : Nat), .int .i64 (x.2 : Nat)], .bool true]) ∧
  ∃ ms', st2 ms' = putS gs secs (st2 ms) size x ∧ ms'.map (·.1) = ms.map (·.1) ∧ IsBook w' bb eb gs secs ms' (putE gs secs es size x) ∧ Mod (foot bb eb ms) w w'
theorem one_fn {w : World} {bb eb : Nat} {gs : Gs} {secs : Int} {ms : List MT} {es : List Nat} {size last : Int} {e : Ending} {w' : World} (h : OneIs w bb eb gs secs ms es size last e w') : OneFn w bb eb gs secs ms es size last e w' := by
 obtain ⟨f, ho, hs, h⟩ := h
 rw [← cmpA_st] at hs
 obtain ⟨h1, _, h3⟩ := ordA_is ho hs
 have hp : ∀ j, j < gs.length → findA gs secs (st2 ms) es size (ordA (st2 ms) last gs.length j) = findG gs secs ms es size (f j) := fun j hj => by rw [findA_st, h3 j hj]
 rcases h with ⟨i, a, hi, hn, hf, rfl, hb, hm⟩ | ⟨hn, rfl, hb⟩
 ·refine .inr ⟨(f i, a), findSome_first _ i _ hi (fun j hj => ?_) ?_, ho.lt i hi, rfl, _, ?_, set_map_fst _ _ _, hb, hm⟩
  ·rw [hp j (by omega), hn j hj]; rfl
  ·rw [hp i hi, hf, h3 i hi]; rfl
  ·unfold st2 putS
   rw [List.map_set]
   have : (ms.map (·.2)).getD (f i) sD = (ms.getD (f i) mD).2 := st2_get ms (f i)
   rw [this]
 ·refine .inl ⟨findSome_none _ fun j hj => ?_, rfl, hb⟩
  rw [hp j hj, hn j hj]; rfl
theorem one_book' (bb eb : Nat) (gs : Gs) (secs : Int) (ms : List MT) (es : List Nat) (size last : Int) (w : World) (h : IsBook w bb eb gs secs ms es) (hs1 : 1 ≤ size) (hs2 : size ≤ 4) :
  Calls Tryz.prog 82 #[.pointer (some ⟨bb, 0, none⟩), .int .i64 size, .int .i64 last] w (OneFn w bb eb gs secs ms es size last) :=
 (one_book bb eb gs secs ms es size last w h hs1 hs2).mono fun _ _ h => one_fn h
theorem foot_fst {bb eb : Nat} {ms ms' : List MT} (h : ms'.map (·.1) = ms.map (·.1)) : foot bb eb ms' = foot bb eb ms := by
 funext k
 unfold foot
 rw [h]
structure GetR where
 p : Nat × Nat
 q : Nat × Nat
 err : Nat
 sn : SN
 es : List Nat
noncomputable def getA (gs : Gs) (secs : Int) (sn : SN) (es : List Nat) (size : Int) (two : Bool) : GetR :=
 if 1 ≤ size ∧ size ≤ 4 then
  match oneA gs secs sn es size (-1) with
  | none => ⟨(0, 0), (0, 0), 8, sn, es⟩
  | some x =>
   if two = true then
    match oneA gs secs (putS gs secs sn size x) (putE gs secs es size x) size (x.1 : Nat) with
    | none => ⟨(0, 0), (0, 0), 8, sn, es⟩
    | some y => ⟨x, y, 0, putS gs secs (putS gs secs sn size x) size y, putE gs secs (putE gs secs es size x) size y⟩
   else ⟨x, (0, 0), 0, putS gs secs sn size x, putE gs secs es size x⟩
 else ⟨(0, 0), (0, 0), 1, sn, es⟩
def GetFn (w : World) (bb eb : Nat) (gs : Gs) (secs : Int) (ms : List MT) (r : GetR) (e : Ending) (w' : World) : Prop :=
 e = .returned (.tuple #[.agg #[.int .i64 (r.p.1 : Nat), .int .i64 (r.p.2 : Nat)], .agg #[.int .i64 (r.q.1 : Nat), .int .i64 (r.q.2 : Nat)], .int .i64 (r.err : Nat)]) ∧
 ∃ eb' ms', IsBook w' bb eb' gs secs ms' r.es ∧ st2 ms' = r.sn ∧ (∀ k, foot bb eb' ms' k → foot bb eb ms k ∨ w.heap.size ≤ k) ∧ Mod (foot bb eb ms) w w'
theorem cpM_st2 (ms : List MT) (bs : List Nat) : st2 (cpM ms bs) = st2 ms := by
 apply List.ext_getElem
 ·simp [st2, cpM]
 ·intro j h1 h2
  simp only [st2, List.length_map] at h2
  simp [st2, cpM, List.getD, h2]
theorem results_cell2_tmp {P : Program} {fn : Func} {p q u : Tmp} {ty : TypeId} (h : fn.results = #[.cell p ty, .cell q ty, .tmp u]) (tmps : Array Value) (w : World) (g g2 : Nat) (t : TypeId) (cs cs2 : Array Value) (fr fr2 : Nat × Nat) (d : TypeDesc)
  (hp : tmps.getD p undef = .pointer (some ⟨g, 0, none⟩)) (hp2 : tmps.getD q undef = .pointer (some ⟨g2, 0, none⟩)) (hg : w.heap[g]? = some (.cells cs t fr)) (hg2 : w.heap[g2]? = some (.cells cs2 t fr2))
  (hu : P.underlying ty = some d) (hd : (match d with | .struct _ | .array _ _ => true | _ => false) = true) (hi : (P.info? ty).map (·.size) = some cs.size) (hi2 : (P.info? ty).map (·.size) = some cs2.size) :
  (results fn tmps).run P w = .ok (.tuple #[.agg cs, .agg cs2, tmps.getD u undef]) w := by
 have hp' : tmps[p]?.getD undef = .pointer (some ⟨g, 0, none⟩) := by simpa using hp
 have hp2' : tmps[q]?.getD undef = .pointer (some ⟨g2, 0, none⟩) := by simpa using hp2
 simp [results, h, hp', hp2', asAddr, run_loadVar_row w g t ty cs fr d hg hu hd hi, run_loadVar_row w g2 t ty cs2 fr2 d hg2 hu hd hi2]
section
variable {w : World} {bb eb : Nat} {gs : Gs} {secs : Int} {ms : List MT} {es : List Nat}
theorem IsBook.restore {cb ce : Nat} {esc : List Nat} {msc : List MT} {gv mv : Value} {ec : Nat} {old : List Value} (hc : IsBook w cb ce gs secs msc esc) (hb : Blk w bb 90 old) (ho : old.length = 4)
  (h0 : w.cell? ⟨cb, 0, none⟩ = some gv) (h2 : w.cell? ⟨cb, 2, none⟩ = some mv) (h3 : w.cell? ⟨cb, 3, none⟩ = some (.slice (some ⟨ce, 0, none⟩) gs.length ec)) :
  IsBook ((((w.setCell ⟨bb, 0, none⟩ gv).setCell ⟨bb, 1, none⟩ (.int .i64 secs)).setCell ⟨bb, 2, none⟩ mv).setCell ⟨bb, 3, none⟩ (.slice (some ⟨ce, 0, none⟩) gs.length ec)) bb ce gs secs msc esc := by
 obtain ⟨gv', mv', ec', a1, a2, a3, a4⟩ := hc.mem
 obtain ⟨o0, o1, o2, o3, rfl⟩ : ∃ a b c d, old = [a, b, c, d] := by
  match old, ho with
  | [a, b, c, d], _ => exact ⟨a, b, c, d, rfl⟩
 have e0 := a1.cell 0
 have e2 := a1.cell 2
 have e3 := a1.cell 3
 rw [h0] at e0
 rw [h2] at e2
 rw [h3] at e3
 simp only [List.getElem?_cons_zero, List.getElem?_cons_succ, Option.some.injEq, Value.slice.injEq, true_and] at e0 e2 e3
 subst e0 e2 e3
 have b1 := hb.setCell 0 gv
 have b2 := b1.setCell 1 (.int .i64 secs)
 have b3 := b2.setCell 2 mv
 have b4 := b3.setCell 3 (.slice (some ⟨ce, 0, none⟩) gs.length ec)
 refine ⟨hc.right, hc.mlen, hc.elen, ⟨gv, mv, ec, b4, ?_, ?_, ?_⟩, fun m hm => ?_, hc.nodup⟩
 ·exact owns_setCell_other (owns_setCell_other (owns_setCell_other (owns_setCell_other a2 hb (by decide)) b1 (by decide)) b2 (by decide)) b3 (by decide)
 ·exact owns_setCell_other (owns_setCell_other (owns_setCell_other (owns_setCell_other a3 hb (by decide)) b1 (by decide)) b2 (by decide)) b3 (by decide)
 ·exact owns_setCell_other (owns_setCell_other (owns_setCell_other (owns_setCell_other a4 hb (by decide)) b1 (by decide)) b2 (by decide)) b3 (by decide)
 ·exact ((((hc.maps m hm).setOther hb (by decide) (by decide)).setOther b1 (by decide) (by decide)).setOther b2 (by decide) (by decide)).setOther b3 (by decide) (by decide)
end
end Go.Proofs.YtfaemcfjbbbbdaaGreat
namespace Go.Proofs.YtfaemcfjbbbbdaaGreat
open Go.RowKit
theorem ord_ok (sn : SN) (last : Int) (n : Nat) : Once n n (ordA sn last n) ∧ SortedTo (cmpA sn last) (ordA sn last n) n := by
 have hsw : ∀ m, Swo m (cmpA sn last) := fun m => cmpS_swo (mkM sn) last m
 let le : Nat → Nat → Bool := fun x y => !decide (cmpA sn last y x < 0)
 have htr : ∀ a b c : Nat, le a b = true → le b c = true → le a c = true := by
  intro a b c h1 h2
  simp only [le, Bool.not_eq_true', decide_eq_false_iff_not] at *
  exact (hsw (a + b + c + 1)).ntrans c b a (by omega) (by omega) (by omega) h2 h1
 have hto : ∀ a b : Nat, (le a b || le b a) = true := by
  intro a b
  simp only [le, Bool.or_eq_true, Bool.not_eq_true', decide_eq_false_iff_not]
  by_cases h : cmpA sn last b a < 0
  ·exact .inr ((hsw (a + b + 1)).asymm b a (by omega) (by omega) h)
  ·exact .inl h
 have hp := List.pairwise_mergeSort htr hto (List.range n)
 have hperm := List.mergeSort_perm (List.range n) le
 generalize (List.range n).mergeSort le = l at hp hperm
 have hl : l.length = n := by rw [hperm.length_eq, List.length_range]
 have hnd : l.Nodup := hperm.nodup_iff.2 List.nodup_range
 have hmem : ∀ x, x ∈ l ↔ x < n := fun x => by rw [hperm.mem_iff, List.mem_range]
 have hget : ∀ i (h : i < l.length), l.getD i 0 = l[i] := fun i h => by rw [List.getD_eq_getElem?_getD, List.getElem?_eq_getElem h]; rfl
 have ho : Once n n (fun i => l.getD i 0) := by
  refine ⟨fun i hi => ?_, fun i j hi hj he => ?_, fun y hy => ?_⟩
  ·show l.getD i 0 < n
   rw [hget i (by omega)]
   exact (hmem _).1 (List.getElem_mem _)
  ·have he : l.getD i 0 = l.getD j 0 := he
   rw [hget i (by omega), hget j (by omega)] at he
   have hpw := List.pairwise_iff_getElem.1 (List.nodup_iff_pairwise_ne.1 hnd)
   rcases Nat.lt_trichotomy i j with h | h | h
   ·exact absurd he (hpw i j (by omega) (by omega) h)
   ·exact h
   ·exact absurd he.symm (hpw j i (by omega) (by omega) h)
  ·obtain ⟨i, hi, rfl⟩ := List.mem_iff_getElem.1 ((hmem y).2 hy)
   exact ⟨i, by omega, hget i hi⟩
 have hs : SortedTo (cmpA sn last) (fun i => l.getD i 0) n := by
  intro p q hpq hq
  show ¬ cmpA sn last (l.getD q 0) (l.getD p 0) < 0
  rw [hget p (by omega), hget q (by omega)]
  have := List.pairwise_iff_getElem.1 hp p q (by omega) (by omega) hpq
  simpa [le] using this
 exact ⟨(ordA_is ho hs).1, (ordA_is ho hs).2.1⟩
theorem least_of (P : Nat → Prop) (i : Nat) (h : P i) : ∃ j, P j ∧ ∀ k, k < j → ¬ P k := by
 induction i using Nat.strongRecOn with
 | _ i ih =>
  by_cases hk : ∃ k, k < i ∧ P k
  ·obtain ⟨k, h1, h2⟩ := hk
   exact ih k h1 h2
  ·exact ⟨i, h, fun k h1 h2 => hk ⟨k, h1, h2⟩⟩
theorem oneA_spec (gs : Gs) (secs : Int) (sn : SN) (es : List Nat) (size last : Int) :
  (oneA gs secs sn es size last = none ∧ ∀ g, g < gs.length → findA gs secs sn es size g = none) ∨
  ∃ x, oneA gs secs sn es size last = some x ∧ x.1 < gs.length ∧ findA gs secs sn es size x.1 = some x.2 ∧ ∀ g, g < gs.length → cmpA sn last g x.1 < 0 → findA gs secs sn es size g = none := by
 obtain ⟨ho, hs⟩ := ord_ok sn last gs.length
 by_cases h : ∃ i, i < gs.length ∧ findA gs secs sn es size (ordA sn last gs.length i) ≠ none
 ·obtain ⟨i, ⟨hi, hne⟩, hmin⟩ : ∃ i, (i < gs.length ∧ findA gs secs sn es size (ordA sn last gs.length i) ≠ none) ∧ ∀ j, j < i → ¬ (j < gs.length ∧ findA gs secs sn es size (ordA sn last gs.length j) ≠ none) := by
   obtain ⟨i, hi⟩ := h
   exact least_of _ i hi
  obtain ⟨a, ha⟩ := Option.ne_none_iff_exists'.1 hne
  have hnone : ∀ j, j < i → findA gs secs sn es size (ordA sn last gs.length j) = none := fun j hj => by
   have := hmin j hj
   by_cases e : findA gs secs sn es size (ordA sn last gs.length j) = none
   ·exact e
   ·exact absurd ⟨by omega, e⟩ this
  refine .inr ⟨(ordA sn last gs.length i, a), findSome_first _ i _ hi (fun j hj => by rw [hnone j hj]; rfl) (by rw [ha]; rfl), ho.lt i hi, ha, fun g hg hc => ?_⟩
  obtain ⟨j, hj, rfl⟩ := ho.surj g hg
  rcases Nat.lt_trichotomy j i with h1 | h1 | h1
  ·exact hnone j h1
  ·subst h1
   exact absurd hc (fun h => (cmpS_swo (mkM sn) last (ordA sn last gs.length j + 1)).asymm _ _ (by omega) (by omega) h h)
  ·exact absurd hc (hs i j h1 hj)
 ·refine .inl ⟨findSome_none _ fun j hj => ?_, fun g hg => ?_⟩
  ·have : findA gs secs sn es size (ordA sn last gs.length j) = none := by
    by_cases e : findA gs secs sn es size (ordA sn last gs.length j) = none
    ·exact e
    ·exact absurd ⟨j, hj, e⟩ h
   rw [this]; rfl
  ·obtain ⟨j, hj, rfl⟩ := ho.surj g hg
   by_cases e : findA gs secs sn es size (ordA sn last gs.length j) = none
   ·exact e
   ·exact absurd ⟨j, hj, e⟩ h
structure Inv (gs : Gs) (secs : Int) (sn : SN) (es : List Nat) : Prop where
 right : rightB gs secs = true
 slen : sn.length = gs.length
 elen : es.length = gs.length
 size : ∀ i, i < gs.length → (sn.getD i sD).1 = (sect (gs.getD i (0, 0)) secs).toNat
 good : ∀ i, i < gs.length → Good (sn.getD i sD).1 (sn.getD i sD).2
 ends : ∀ i, i < gs.length → es.getD i 0 ≤ (sn.getD i sD).1
theorem takes_nat {gs : Gs} {secs : Int} (h : rightB gs secs = true) {i : Nat} (hi : i < gs.length) {size : Int} (h1 : 1 ≤ size) (h2 : size ≤ 4) : ∃ t : Nat, takesI gs secs i size = (t : Nat) ∧ 1 ≤ t ∧ t ≤ 6 ∧ t ≤ (sect (gs.getD i (0, 0)) secs).toNat := by
 have hr := rightB_spec h
 have hg := getD_right h hi
 have hb := takes_bd hg h1 h2
 have hs := sect_bd hg hr.2.2.1 hr.2.2.2.1
 refine ⟨(takes (gs.getD i (0, 0)) size).toNat, ?_, by omega, by omega, by omega⟩
 unfold takesI
 rw [if_pos ⟨hasB_mk h (by omega) (by omega), h1, h2⟩, Int.toNat_natCast]
 omega
section
variable {gs : Gs} {secs : Int} {sn : SN} {es : List Nat}
theorem Inv.put (h : Inv gs secs sn es) {size : Int} (h1 : 1 ≤ size) (h2 : size ≤ 4) {x : Nat × Nat} (hx : x.1 < gs.length) (hf : findA gs secs sn es size x.1 = some x.2) : Inv gs secs (putS gs secs sn size x) (putE gs secs es size x) := by
 obtain ⟨t, ht, t1, t6, ts⟩ := takes_nat h.right hx h1 h2
 unfold findA at hf
 rw [ht] at hf
 obtain ⟨_, hq, _⟩ := findS_some (h.good _ hx) t1 hf
 have hgs : ∀ i, (putS gs secs sn size x).getD i sD = if i = x.1 then ((sn.getD x.1 sD).1, (takeS (sn.getD x.1 sD).1 (sn.getD x.1 sD).2 (x.2 : Nat) (t : Nat)).2) else sn.getD i sD := by
  intro i
  unfold putS
  rw [ht]
  by_cases e : i = x.1
  ·rw [if_pos e, e, getD_set_same _ _ _ _ (by rw [h.slen]; exact hx)]
  ·rw [if_neg e, getD_set_other _ _ _ _ _ (fun e' => e e'.symm)]
 have hge : ∀ i, (putE gs secs es size x).getD i 0 = if i = x.1 then x.2 + t else es.getD i 0 := by
  intro i
  unfold putE
  rw [ht, Int.toNat_natCast]
  by_cases e : i = x.1
  ·rw [if_pos e, e, getD_set_same _ _ _ _ (by rw [h.elen]; exact hx)]
  ·rw [if_neg e, getD_set_other _ _ _ _ _ (fun e' => e e'.symm)]
 refine ⟨h.right, by simp [putS, h.slen], by simp [putE, h.elen], fun i hi => ?_, fun i hi => ?_, fun i hi => ?_⟩
 ·rw [hgs]
  split
  ·rename_i e; subst e; exact h.size _ hi
  ·exact h.size i hi
 ·rw [hgs]
  split
  ·exact takeS_good (h.good _ hx) _ _
  ·exact h.good i hi
 ·rw [hgs, hge]
  split
  ·exact hq
  ·exact h.ends i hi
theorem Inv.get (h : Inv gs secs sn es) (size : Int) (two : Bool) : Inv gs secs (getA gs secs sn es size two).sn (getA gs secs sn es size two).es := by
 unfold getA
 by_cases hs : 1 ≤ size ∧ size ≤ 4
 ·rw [if_pos hs]
  rcases oneA_spec gs secs sn es size (-1) with ⟨h0, _⟩ | ⟨x, h0, hx, hf, _⟩
  ·rw [h0]; exact h
  ·rw [h0]
   have h1 := h.put hs.1 hs.2 hx hf
   dsimp only
   split
   ·rcases oneA_spec gs secs (putS gs secs sn size x) (putE gs secs es size x) size (x.1 : Nat) with ⟨h2, _⟩ | ⟨y, h2, hy, hg, _⟩
    ·rw [h2]; exact h
    ·rw [h2]; exact h1.put hs.1 hs.2 hy hg
   ·exact h1
 ·rw [if_neg hs]; exact h
theorem Inv.fresh (hr : rightB gs secs = true) (hl : sn.length = gs.length) (hs : ∀ j, j < gs.length → sn.getD j sD = ((sect (gs.getD j (0, 0)) secs).toNat, [])) : Inv gs secs sn (List.replicate gs.length 0) := by
 refine ⟨hr, hl, by simp, fun i hi => by rw [hs i hi], fun i hi => ?_, fun i hi => ?_⟩
 ·rw [hs i hi]; exact ⟨by simp, List.Pairwise.nil⟩
 ·simp [List.getD, hi]
theorem find_fresh (h : Inv gs secs sn es) {size : Int} (h1 : 1 ≤ size) (h2 : size ≤ 4) {g : Nat} (hg : g < gs.length) (hn : (sn.getD g sD).2 = []) : findA gs secs sn es size g ≠ none := by
 intro e
 obtain ⟨t, ht, t1, t6, ts⟩ := takes_nat h.right hg h1 h2
 unfold findA at e
 rw [ht] at e
 obtain ⟨x, _, _, r, hr, _⟩ := findS_none (h.good g hg) t1 (h.ends g hg) e 0 (by rw [h.size g hg]; omega)
 rw [hn] at hr
 simp at hr
theorem two_law (hr : rightB gs secs = true) (hl : sn.length = gs.length) (hs : ∀ j, j < gs.length → sn.getD j sD = ((sect (gs.getD j (0, 0)) secs).toNat, [])) (size : Int) (he : (getA gs secs sn (List.replicate gs.length 0) size true).err = 0) :
  (gs.length = 1 → (getA gs secs sn (List.replicate gs.length 0) size true).p ≠ (getA gs secs sn (List.replicate gs.length 0) size true).q) ∧
  (1 < gs.length → (getA gs secs sn (List.replicate gs.length 0) size true).p.1 ≠ (getA gs secs sn (List.replicate gs.length 0) size true).q.1) := by
 have hi := Inv.fresh hr hl hs
 generalize List.replicate gs.length 0 = es at *
 by_cases hsz : 1 ≤ size ∧ size ≤ 4
 ·rcases oneA_spec gs secs sn es size (-1) with ⟨h0, _⟩ | ⟨x, h0, hx, hf, _⟩
  ·have hg : getA gs secs sn es size true = ⟨(0, 0), (0, 0), 8, sn, es⟩ := by unfold getA; rw [if_pos hsz, h0]
   rw [hg] at he; simp at he
  ·have hi1 := hi.put hsz.1 hsz.2 hx hf
   rcases oneA_spec gs secs (putS gs secs sn size x) (putE gs secs es size x) size (x.1 : Nat) with ⟨h2, _⟩ | ⟨y, h2, hy, hg, hfirst⟩
   ·have hg : getA gs secs sn es size true = ⟨(0, 0), (0, 0), 8, sn, es⟩ := by unfold getA; rw [if_pos hsz, h0]; dsimp only; rw [if_pos rfl, h2]
    rw [hg] at he; simp at he
   ·have hgt : getA gs secs sn es size true = ⟨x, y, 0, putS gs secs (putS gs secs sn size x) size y, putE gs secs (putE gs secs es size x) size y⟩ := by unfold getA; rw [if_pos hsz, h0]; dsimp only; rw [if_pos rfl, h2]
    rw [hgt]
    dsimp only
    constructor
    ·intro _ e
     subst e
     obtain ⟨t, ht, t1, t6, ts⟩ := takes_nat hr hx hsz.1 hsz.2
     unfold findA at hf hg
     rw [ht] at hf hg
     have hput : (putS gs secs sn size x).getD x.1 sD = ((sn.getD x.1 sD).1, (takeS (sn.getD x.1 sD).1 (sn.getD x.1 sD).2 (x.2 : Nat) (t : Nat)).2) := by
      unfold putS
      rw [ht, getD_set_same _ _ _ _ (by rw [hl]; exact hx)]
     rw [hput] at hg
     obtain ⟨_, a2, a3⟩ := findS_some (hi.good _ hx) t1 hf
     obtain ⟨_, _, b3⟩ := findS_some (takeS_good (hi.good _ hx) _ _) t1 hg
     rcases takeS_spec (hi.good _ hx) (x.2 : Int) (t : Int) with ⟨hm, e⟩ | ⟨_, ⟨z, z1, z2, z3⟩, e⟩ | ⟨hm, hno, e0, hus, hsum⟩
     ·exact hm ⟨by omega, by omega, by omega, by omega⟩
     ·exact a3 z (by omega) (by omega) z3
     ·exact b3 x.2 (by omega) (by omega) ((hus x.2).2 (.inr ⟨by omega, by omega⟩))
    ·intro hn e
     obtain ⟨z, hz, hzx⟩ : ∃ z, z < gs.length ∧ z ≠ x.1 := by
      by_cases h : x.1 = 0
      ·exact ⟨1, hn, by omega⟩
      ·exact ⟨0, by omega, by omega⟩
     have hz2 : (putS gs secs sn size x).getD z sD = sn.getD z sD := by unfold putS; rw [getD_set_other _ _ _ _ _ (fun e => hzx e.symm)]
     refine find_fresh hi1 hsz.1 hsz.2 hz (by rw [hz2, hs z hz]) (hfirst z hz ?_)
     unfold cmpA
     rw [cmpS_neg]
     exact .inl ⟨by omega, by omega⟩
 ·have hg : getA gs secs sn es size true = ⟨(0, 0), (0, 0), 1, sn, es⟩ := by unfold getA; rw [if_neg hsz]
  rw [hg] at he; simp at he
end
end Go.Proofs.YtfaemcfjbbbbdaaGreat
namespace Go.Proofs.YtfaemcfjbbbbdaaGreat
open Go.RowKit
abbrev St := Nat × Nat × Nat
def sHas (s : St) (g x : Nat) : Prop := s.1 = g ∧ s.2.1 ≤ x ∧ x < s.2.1 + s.2.2
structure sOk (gs : Gs) (secs : Int) (s : St) : Prop where
 lt : s.1 < gs.length
 pos : 1 ≤ s.2.2
 top : s.2.1 + s.2.2 ≤ (sect (gs.getD s.1 (0, 0)) secs).toNat
def Dis (s t : St) : Prop := ∀ g x, sHas s g x → ¬ sHas t g x
theorem Dis.symm {s t : St} (h : Dis s t) : Dis t s := fun g x h1 h2 => h g x h2 h1
structure Cov (gs : Gs) (secs : Int) (sn : SN) (L : List St) : Prop where
 slen : sn.length = gs.length
 size : ∀ g, g < gs.length → (sn.getD g sD).1 = (sect (gs.getD g (0, 0)) secs).toNat
 good : ∀ g, g < gs.length → Good (sn.getD g sD).1 (sn.getD g sD).2
 ok : ∀ s ∈ L, sOk gs secs s
 dis : L.Pairwise Dis
 us : ∀ g x, g < gs.length → (Us (sn.getD g sD).2 x ↔ ∃ s ∈ L, sHas s g x)
def setG (sn : SN) (g : Nat) (rs : List (Nat × Nat)) : SN := sn.set g ((sn.getD g sD).1, rs)
theorem setG_same {sn : SN} {g : Nat} {rs : List (Nat × Nat)} (h : g < sn.length) : (setG sn g rs).getD g sD = ((sn.getD g sD).1, rs) := by
 unfold setG; rw [getD_set_same _ _ _ _ h]
theorem setG_other {sn : SN} {g k : Nat} {rs : List (Nat × Nat)} (h : k ≠ g) : (setG sn g rs).getD k sD = sn.getD k sD := by
 unfold setG; rw [getD_set_other _ _ _ _ _ (fun e => h e.symm)]
theorem setG_length (sn : SN) (g : Nat) (rs : List (Nat × Nat)) : (setG sn g rs).length = sn.length := by simp [setG]
def leftA (sn : SN) : Int := (sn.map fun s => (s.1 : Int) - (sumR s.2 : Int)).sum
theorem leftB_A (ms : List MT) : leftB ms = leftA (st2 ms) := by
 unfold leftB st2 leftA
 rw [List.map_map]
 rfl
theorem leftA_set : ∀ {sn : SN} {g : Nat} {rs : List (Nat × Nat)}, g < sn.length → leftA (setG sn g rs) + sumR rs = leftA sn + sumR (sn.getD g sD).2
 | [], g, rs, h => by simp at h
 | s :: sn, 0, rs, _ => by simp [setG, leftA]; omega
 | s :: sn, g + 1, rs, h => by
  have ih := leftA_set (sn := sn) (g := g) (rs := rs) (by simpa using h)
  have e1 : setG (s :: sn) (g + 1) rs = s :: setG sn g rs := by simp [setG]
  have e2 : leftA (s :: setG sn g rs) = ((s.1 : Int) - (sumR s.2 : Int)) + leftA (setG sn g rs) := by simp [leftA]
  have e3 : leftA (s :: sn) = ((s.1 : Int) - (sumR s.2 : Int)) + leftA sn := by simp [leftA]
  have e4 : (s :: sn).getD (g + 1) sD = sn.getD g sD := by simp
  rw [e1, e2, e3, e4]
  omega
section
variable {gs : Gs} {secs : Int} {sn : SN} {L : List St}
theorem Cov.may (h : Cov gs secs sn L) {s : St} (hs : sOk gs secs s) : May (sn.getD s.1 sD).1 (s.2.1 : Nat) (s.2.2 : Nat) := by
 have h1 := h.size s.1 hs.lt
 have h2 := hs.top
 have h3 := hs.pos
 unfold May
 rw [h1]
 omega
theorem Cov.take (h : Cov gs secs sn L) {s : St} (hs : sOk gs secs s) (hd : ∀ t ∈ L, Dis s t) :
  (takeS (sn.getD s.1 sD).1 (sn.getD s.1 sD).2 (s.2.1 : Nat) (s.2.2 : Nat)).1 = 0 ∧ Cov gs secs (setG sn s.1 (takeS (sn.getD s.1 sD).1 (sn.getD s.1 sD).2 (s.2.1 : Nat) (s.2.2 : Nat)).2) (L ++ [s]) ∧
   leftA (setG sn s.1 (takeS (sn.getD s.1 sD).1 (sn.getD s.1 sD).2 (s.2.1 : Nat) (s.2.2 : Nat)).2) + s.2.2 = leftA sn := by
 have hg := h.good s.1 hs.lt
 have hl : s.1 < sn.length := by rw [h.slen]; exact hs.lt
 have hm := h.may hs
 have hgt := takeS_good hg (s.2.1 : Nat) (s.2.2 : Nat)
 have hsum := leftA_set (sn := sn) (g := s.1) (rs := (takeS (sn.getD s.1 sD).1 (sn.getD s.1 sD).2 (s.2.1 : Nat) (s.2.2 : Nat)).2) hl
 rcases takeS_spec hg (s.2.1 : Nat) (s.2.2 : Nat) with ⟨hn, _⟩ | ⟨_, ⟨x, x1, x2, x3⟩, _⟩ | ⟨_, hno, e0, hus, hs2⟩
 ·exact absurd hm hn
 ·simp only [Int.toNat_natCast] at x1 x2
  obtain ⟨t, ht, hx⟩ := (h.us s.1 x hs.lt).1 x3
  exact absurd hx (hd t ht s.1 x ⟨rfl, x1, x2⟩)
 ·simp only [Int.toNat_natCast] at hus hs2
  refine ⟨e0, ⟨by rw [setG_length]; exact h.slen, fun g hg' => ?_, fun g hg' => ?_, fun t ht => ?_, ?_, fun g x hg' => ?_⟩, by omega⟩
  ·by_cases e : g = s.1
   ·subst e; rw [setG_same hl]; exact h.size _ hg'
   ·rw [setG_other e]; exact h.size _ hg'
  ·by_cases e : g = s.1
   ·subst e; rw [setG_same hl]; exact hgt
   ·rw [setG_other e]; exact h.good _ hg'
  ·rcases List.mem_append.1 ht with ht | ht
   ·exact h.ok t ht
   ·rw [List.mem_singleton.1 ht]; exact hs
  ·exact List.pairwise_append.2 ⟨h.dis, List.pairwise_singleton _ _, fun a ha b hb => by rw [List.mem_singleton.1 hb]; exact (hd a ha).symm⟩
  ·have hex : (∃ t ∈ L ++ [s], sHas t g x) ↔ (∃ t ∈ L, sHas t g x) ∨ sHas s g x := by
    constructor
    ·rintro ⟨t, ht, hx⟩
     rcases List.mem_append.1 ht with ht | ht
     ·exact .inl ⟨t, ht, hx⟩
     ·rw [List.mem_singleton.1 ht] at hx; exact .inr hx
    ·rintro (⟨t, ht, hx⟩ | hx)
     ·exact ⟨t, List.mem_append_left _ ht, hx⟩
     ·exact ⟨s, by simp, hx⟩
   rw [hex]
   by_cases e : g = s.1
   ·subst e
    rw [setG_same hl]
    show Us (takeS _ _ _ _).2 x ↔ _
    rw [hus, h.us _ x hg']
    unfold sHas
    simp
   ·rw [setG_other e, h.us _ x hg']
    constructor
    ·exact .inl
    ·rintro (h' | h')
     ·exact h'
     ·exact absurd h'.1.symm e
theorem Cov.empty (hl : sn.length = gs.length) (hs : ∀ j, j < gs.length → sn.getD j sD = ((sect (gs.getD j (0, 0)) secs).toNat, [])) : Cov gs secs sn [] := by
 refine ⟨hl, fun g hg => by rw [hs g hg], fun g hg => by rw [hs g hg]; exact ⟨by simp, List.Pairwise.nil⟩, by simp, List.Pairwise.nil, fun g x hg => ?_⟩
 rw [hs g hg]
 constructor
 ·exact fun h => absurd h (Us_nil x)
 ·rintro ⟨s, hs, _⟩; simp at hs
end
def stOf (gs : Gs) (secs : Int) (size : Int) (x : Nat × Nat) : St := (x.1, x.2, (takesI gs secs x.1 size).toNat)
def strs (gs : Gs) (secs : Int) (size : Int) (two : Bool) (p q : Nat × Nat) : List St := if two = true then [stOf gs secs size p, stOf gs secs size q] else [stOf gs secs size p]
section
variable {gs : Gs} {secs : Int} {sn : SN} {es : List Nat} {L : List St}
theorem Inv.find (h : Inv gs secs sn es) {size : Int} (h1 : 1 ≤ size) (h2 : size ≤ 4) {x : Nat × Nat} (hx : x.1 < gs.length) (hf : findA gs secs sn es size x.1 = some x.2) (hc : Cov gs secs sn L) :
  sOk gs secs (stOf gs secs size x) ∧ (∀ t ∈ L, Dis (stOf gs secs size x) t) ∧ putS gs secs sn size x = setG sn x.1 (takeS (sn.getD x.1 sD).1 (sn.getD x.1 sD).2 (x.2 : Nat) ((takesI gs secs x.1 size).toNat : Nat)).2 := by
 obtain ⟨t, ht, t1, t6, ts⟩ := takes_nat h.right hx h1 h2
 unfold findA at hf
 rw [ht] at hf
 obtain ⟨_, hq, hfree⟩ := findS_some (h.good _ hx) t1 hf
 unfold stOf putS setG
 rw [ht, Int.toNat_natCast]
 refine ⟨⟨hx, t1, by dsimp only; rw [← h.size _ hx]; exact hq⟩, fun s hs g y hy hy' => ?_, rfl⟩
 obtain ⟨e, y1, y2⟩ := hy
 dsimp only at e y1 y2
 subst e
 exact hfree y y1 y2 ((hc.us x.1 y hx).2 ⟨s, hs, hy'⟩)
theorem Inv.rightGet (h : Inv gs secs sn es) (hc : Cov gs secs sn L) (size : Int) (two : Bool) :
  ((getA gs secs sn es size two).err ≠ 0 ∧ (getA gs secs sn es size two).sn = sn ∧ (getA gs secs sn es size two).p = (0, 0) ∧ (getA gs secs sn es size two).q = (0, 0)) ∨
  ((getA gs secs sn es size two).err = 0 ∧ 1 ≤ size ∧ size ≤ 4 ∧ Cov gs secs (getA gs secs sn es size two).sn (L ++ strs gs secs size two (getA gs secs sn es size two).p (getA gs secs sn es size two).q) ∧ leftA (getA gs secs sn es size two).sn < leftA sn ∧
   (two = false → (getA gs secs sn es size two).q = (0, 0))) := by
 by_cases hs : 1 ≤ size ∧ size ≤ 4
 ·rcases oneA_spec gs secs sn es size (-1) with ⟨h0, _⟩ | ⟨x, h0, hx, hf, _⟩
  ·have hg : getA gs secs sn es size two = ⟨(0, 0), (0, 0), 8, sn, es⟩ := by unfold getA; rw [if_pos hs, h0]
   rw [hg]
   exact .inl ⟨by simp, rfl, rfl, rfl⟩
  ·have hi1 := h.put hs.1 hs.2 hx hf
   obtain ⟨o1, d1, e1⟩ := h.find hs.1 hs.2 hx hf hc
   obtain ⟨_, c1, l1⟩ := hc.take o1 d1
   have hc1 : Cov gs secs (putS gs secs sn size x) (L ++ [stOf gs secs size x]) := by rw [e1]; exact c1
   have hl1 : leftA (putS gs secs sn size x) < leftA sn := by
    rw [e1]
    have := o1.pos
    have l1' : leftA (setG sn x.1 (takeS (sn.getD x.1 sD).1 (sn.getD x.1 sD).2 (x.2 : Nat) ((takesI gs secs x.1 size).toNat : Nat)).2) + ((stOf gs secs size x).2.2 : Nat) = leftA sn := l1
    omega
   cases two
   ·have hg : getA gs secs sn es size false = ⟨x, (0, 0), 0, putS gs secs sn size x, putE gs secs es size x⟩ := by unfold getA; rw [if_pos hs, h0]; rfl
    rw [hg]
    exact .inr ⟨rfl, hs.1, hs.2, hc1, hl1, fun _ => rfl⟩
   ·rcases oneA_spec gs secs (putS gs secs sn size x) (putE gs secs es size x) size (x.1 : Nat) with ⟨h2, _⟩ | ⟨y, h2, hy, hf2, _⟩
    ·have hg : getA gs secs sn es size true = ⟨(0, 0), (0, 0), 8, sn, es⟩ := by unfold getA; rw [if_pos hs, h0]; dsimp only; rw [if_pos rfl, h2]
     rw [hg]
     exact .inl ⟨by simp, rfl, rfl, rfl⟩
    ·have hg : getA gs secs sn es size true = ⟨x, y, 0, putS gs secs (putS gs secs sn size x) size y, putE gs secs (putE gs secs es size x) size y⟩ := by unfold getA; rw [if_pos hs, h0]; dsimp only; rw [if_pos rfl, h2]
     rw [hg]
     obtain ⟨o2, d2, e2⟩ := hi1.find hs.1 hs.2 hy hf2 hc1
     obtain ⟨_, c2, l2⟩ := hc1.take o2 d2
     refine .inr ⟨rfl, hs.1, hs.2, ?_, ?_, fun h => by simp at h⟩
     ·dsimp only
      rw [e2]
      have : L ++ strs gs secs size true x y = L ++ [stOf gs secs size x] ++ [stOf gs secs size y] := by simp [strs]
      rw [this]
      exact c2
     ·dsimp only
      rw [e2]
      have := o2.pos
      have l2' : leftA (setG (putS gs secs sn size x) y.1 (takeS ((putS gs secs sn size x).getD y.1 sD).1 ((putS gs secs sn size x).getD y.1 sD).2 (y.2 : Nat) ((takesI gs secs y.1 size).toNat : Nat)).2) + ((stOf gs secs size y).2.2 : Nat) = leftA (putS gs secs sn size x) := l2
      omega
 ·have hg : getA gs secs sn es size two = ⟨(0, 0), (0, 0), 1, sn, es⟩ := by unfold getA; rw [if_neg hs]
  rw [hg]
  exact .inl ⟨by simp, rfl, rfl, rfl⟩
end
end Go.Proofs.YtfaemcfjbbbbdaaGreat
namespace Go.Proofs.YtfaemcfjbbbbdaaGreat
open Go.RowKit
attribute [local go_sem ↓] Go.wp_at_zero Go.wp_at_succ
set_option maxHeartbeats 3200000 in
set_option maxRecDepth 100000 in
theorem get_any (bb eb : Nat) (gs : Gs) (secs : Int) (ms : List MT) (es : List Nat) (size : Int) (two : Bool) (w : World) (h : IsBook w bb eb gs secs ms es) :
  Calls Tryz.prog 63 #[.pointer (some ⟨bb, 0, none⟩), .int .i64 size, .bool two] w (GetFn w bb eb gs secs ms (getA gs secs (st2 ms) es size two)) := by
 obtain ⟨w2, hw2⟩ : ∃ w2, w2 = (w.alloc (.cells #[.int .i64 0, .int .i64 0] 44)).alloc (.cells #[.int .i64 0, .int .i64 0] 44) := ⟨_, rfl⟩
 have hA : Below w.heap.size w w2 := by rw [hw2]; exact ((Below.refl _ _).alloc (Nat.le_refl _) _).alloc (by simp) _
 have hR : Blk w2 w.heap.size 44 [.int .i64 0, .int .i64 0] := by rw [hw2]; exact (Blk.new w _ _).alloc _
 have hS : Blk w2 (w.heap.size + 1) 44 [.int .i64 0, .int .i64 0] := by rw [hw2]; exact Blk.newAt _ _ (by simp)
 have hz : w2.heap.size = w.heap.size + 2 := by rw [hw2]; simp
 have hb2 := h.below hA
 have HA := Lib.hid hA
 have HR := Lib.hid hR
 have HS := Lib.hid hS
 have HB := Lib.hid h
 have HB2 := Lib.hid hb2
 have HL := Lib.hid h.lt
 have HTY := Lib.hid h.tyOk
 clear hA hR hS h hb2
 go_enter Tryz.func63, Tryz.ntmps63
 by_cases hs : 1 ≤ size ∧ size ≤ 4
 ·obtain ⟨hs1, hs2⟩ := hs
  have g1 : ¬ size < 1 := by omega
  have g2 : ¬ 4 < size := by omega
  have HC := Lib.hid (acopy_any bb eb gs secs ms es w2 HB2.out)
  go_wp2_with fail
  rw [← hw2]
  refine HC.out.mono ?_
  rintro e w3 ⟨cb, ce, bs, rfl, hbl, hbc, hfc, hb3⟩
  have HBC := Lib.hid hbc
  have HFC := Lib.hid hfc
  have HB3 := Lib.hid (HB2.out.below hb3)
  have A3 := Lib.hid (HA.out.trans (hb3.mono (by omega)))
  have R3 := Lib.hid (HR.out.below hb3)
  have S3 := Lib.hid (HS.out.below hb3)
  have hz3 := hb3.size
  have HST := Lib.hid (cpM_st2 ms bs)
  have HO := Lib.hid (one_book' bb eb gs secs ms es size (-1) w3 HB3.out hs1 hs2)
  have HNF : Hid (∀ k, w.heap.size ≤ k → ¬ foot bb eb ms k) := Lib.hid (fun k hk hf => by have := HL.out k hf; omega)
  clear hbc hfc hb3 hbl
  go_wp2_with fail
  refine HO.out.mono ?_
  rintro e w4 hof
  rcases hof with ⟨hno, rfl, hb4⟩ | ⟨x, hx, hxl, rfl, ms1, hst1, hfst1, hbk1, hm1⟩
  ·have HR8 : Hid (getA gs secs (st2 ms) es size two = ⟨(0, 0), (0, 0), 8, st2 ms, es⟩) := Lib.hid (by unfold getA; rw [if_pos ⟨hs1, hs2⟩, hno])
   have hz4 := hb4.size
   have hbl5 : Below w3.heap.size w3 ((w4.alloc (.cells #[.int .i64 0, .int .i64 0] 44)).alloc (.cells #[.int .i64 0, .int .i64 0] 44)) := (hb4.alloc (by omega) _).alloc (by simp; omega) _
   clear hno hb4
   have hBW : IsBook ((w4.alloc (.cells #[.int .i64 0, .int .i64 0] 44)).alloc (.cells #[.int .i64 0, .int .i64 0] 44)) bb eb gs secs ms es := HB3.out.below hbl5
   have hCW : IsBook ((w4.alloc (.cells #[.int .i64 0, .int .i64 0] 44)).alloc (.cells #[.int .i64 0, .int .i64 0] 44)) cb ce gs secs (cpM ms bs) es := HBC.out.below hbl5
   have hRW : Blk ((w4.alloc (.cells #[.int .i64 0, .int .i64 0] 44)).alloc (.cells #[.int .i64 0, .int .i64 0] 44)) w.heap.size 44 [.int .i64 0, .int .i64 0] := R3.out.below hbl5
   have hSW : Blk ((w4.alloc (.cells #[.int .i64 0, .int .i64 0] 44)).alloc (.cells #[.int .i64 0, .int .i64 0] 44)) (w.heap.size + 1) 44 [.int .i64 0, .int .i64 0] := S3.out.below hbl5
   have hMW : Mod (foot bb eb ms) w ((w4.alloc (.cells #[.int .i64 0, .int .i64 0] 44)).alloc (.cells #[.int .i64 0, .int .i64 0] 44)) := Mod.below (A3.out.trans (hbl5.mono (by omega)))
   obtain ⟨gv, mv, ec, k1, _, _, _⟩ := hBW.mem
   have k2 := k1.cell 0
   have k3 := k1.cell 1
   have k4 := k1.cell 2
   have k5 := k1.cell 3
   have k6 := k1.frozen 0
   have k7 := k1.frozen 1
   have k8 := k1.frozen 2
   have k9 := k1.frozen 3
   obtain ⟨gb, gc, mvb, mc, ecc, c0, c1, c2, c3, _, _, _, _, _, _⟩ := hCW.parts
   have C0 := Lib.hid c0
   have C2 := Lib.hid c2
   have C3 := Lib.hid c3
   have K1 := Lib.hid k1
   have HBW := Lib.hid hBW
   have HCW := Lib.hid hCW
   have HMW := Lib.hid hMW
   have hbn : bb < w.heap.size := HL.out bb (.inl rfl)
   have n1 : w.heap.size ≠ bb := by omega
   have n2 : w.heap.size + 1 ≠ bb := by omega
   have Q1 := Lib.hid ((((hRW.other (a := ⟨bb, 0, none⟩) n1 (.slice (some ⟨gb, 0, none⟩) gs.length gc)).other (a := ⟨bb, 1, none⟩) n1 (.int .i64 secs)).other (a := ⟨bb, 2, none⟩) n1 (.slice (some ⟨mvb, 0, none⟩) gs.length mc)).other (a := ⟨bb, 3, none⟩) n1 (.slice (some ⟨ce, 0, none⟩) gs.length ecc))
   have Q2 := Lib.hid ((((hSW.other (a := ⟨bb, 0, none⟩) n2 (.slice (some ⟨gb, 0, none⟩) gs.length gc)).other (a := ⟨bb, 1, none⟩) n2 (.int .i64 secs)).other (a := ⟨bb, 2, none⟩) n2 (.slice (some ⟨mvb, 0, none⟩) gs.length mc)).other (a := ⟨bb, 3, none⟩) n2 (.slice (some ⟨ce, 0, none⟩) gs.length ecc))
   have r0 := Q1.out.cell 0
   have r1 := Q1.out.cell 1
   have r2 := Q2.out.cell 0
   have r3 := Q2.out.cell 1
   have r4 := Q1.out.frozen 0
   have r5 := Q1.out.frozen 1
   have r6 := Q2.out.frozen 0
   have r7 := Q2.out.frozen 1
   clear k1 hBW hCW hRW hSW hMW
   go_wp2_with fail
   have Q3 := Q1.out.setCell 0 (.int .i64 0)
   have Q4 := Q3.setCell 1 (.int .i64 0)
   have Q5 := ((Q2.out.other (a := ⟨w.heap.size, 0, none⟩) (by simp) (.int .i64 0)).other (a := ⟨w.heap.size, 1, none⟩) (by simp) (.int .i64 0))
   have Q6 := Q5.setCell 0 (.int .i64 0)
   have Q7 := Q6.setCell 1 (.int .i64 0)
   have Q8 := (Q4.other (a := ⟨w.heap.size + 1, 0, none⟩) (by simp) (.int .i64 0)).other (a := ⟨w.heap.size + 1, 1, none⟩) (by simp) (.int .i64 0)
   refine bodyPost_ret (results_cell2_tmp rfl _ _ w.heap.size (w.heap.size + 1) 44 #[.int .i64 0, .int .i64 0] #[.int .i64 0, .int .i64 0] (0, 0) (0, 0) _ rfl rfl Q8 Q7 rfl rfl rfl rfl) rfl ?_
   have hres := IsBook.restore HCW.out K1.out rfl C0.out C2.out C3.out
   have hre2 := (((hres.setOther (j := 0) (u := .int .i64 0) Q1.out (by decide) (by decide) (by decide) (by decide) (by decide) (by decide)).setOther (j := 1) (u := .int .i64 0) Q3 (by decide) (by decide) (by decide) (by decide) (by decide) (by decide)).setOther (j := 0) (u := .int .i64 0) Q5 (by decide) (by decide) (by decide) (by decide) (by decide) (by decide)).setOther (j := 1) (u := .int .i64 0) Q6 (by decide) (by decide) (by decide) (by decide) (by decide) (by decide)
   rw [HR8.out]
   refine ⟨rfl, ce, cpM ms bs, hre2, HST.out, ?_, ?_⟩
   ·rintro k (rfl | hk)
    ·exact .inl (.inl rfl)
    ·exact .inr (Nat.le_trans (by omega) (HFC.out k (.inr hk)))
   ·exact (((((((HMW.out.setCell (.inl (.inl rfl))).setCell (.inl (.inl rfl))).setCell (.inl (.inl rfl))).setCell (.inl (.inl rfl))).setCell (.inr (Nat.le_refl _))).setCell (.inr (Nat.le_refl _))).setCell (.inr (Nat.le_succ _))).setCell (.inr (Nat.le_succ _))
  ·have hz4 := hm1.size
   have nR : w.heap.size ≠ w4.heap.size + 1 := by omega
   have nS : w.heap.size + 1 ≠ w4.heap.size + 1 := by omega
   have nX : w4.heap.size ≠ w4.heap.size + 1 := by omega
   have hM1 : Mod (foot bb eb ms) w w4 := (Mod.below A3.out).trans hm1 (fun _ _ h => h)
   have hM5 : Mod (foot bb eb ms) w ((w4.alloc (.cells #[.int .i64 (x.1 : Nat), .int .i64 (x.2 : Nat)] 44)).alloc (.cells #[.int .i64 0, .int .i64 0] 44)) := hM1.trans' ((((Below.refl _ _).alloc (Nat.le_refl _) _).alloc (by simp) _))
   have hm5 : Mod (foot bb eb ms) w3 ((w4.alloc (.cells #[.int .i64 (x.1 : Nat), .int .i64 (x.2 : Nat)] 44)).alloc (.cells #[.int .i64 0, .int .i64 0] 44)) := hm1.trans' ((((Below.refl _ _).alloc (Nat.le_refl _) _).alloc (by simp) _))
   have hbk5 := hbk1.below (w' := (w4.alloc (.cells #[.int .i64 (x.1 : Nat), .int .i64 (x.2 : Nat)] 44)).alloc (.cells #[.int .i64 0, .int .i64 0] 44)) (((Below.refl _ _).alloc (Nat.le_refl _) _).alloc (by simp) _)
   have hR5 := hm5.blk R3.out (fun h => HNF.out _ (Nat.le_refl _) h)
   have hS5 := hm5.blk S3.out (fun h => HNF.out _ (Nat.le_succ _) h)
   have hz5 : ((w4.alloc (.cells #[.int .i64 (x.1 : Nat), .int .i64 (x.2 : Nat)] 44)).alloc (.cells #[.int .i64 0, .int .i64 0] 44)).heap.size = w4.heap.size + 2 := by simp
   have X5 : Blk ((w4.alloc (.cells #[.int .i64 (x.1 : Nat), .int .i64 (x.2 : Nat)] 44)).alloc (.cells #[.int .i64 0, .int .i64 0] 44)) w4.heap.size 44 [.int .i64 (x.1 : Nat), .int .i64 (x.2 : Nat)] := (Blk.new w4 _ _).alloc _
   have Y5 : Blk ((w4.alloc (.cells #[.int .i64 (x.1 : Nat), .int .i64 (x.2 : Nat)] 44)).alloc (.cells #[.int .i64 0, .int .i64 0] 44)) (w4.heap.size + 1) 44 [.int .i64 0, .int .i64 0] := Blk.newAt _ _ (by simp)
   have HM5 := Lib.hid hM5
   have Hm5 := Lib.hid hm5
   have HBK5 := Lib.hid hbk5
   have HR5 := Lib.hid hR5
   have HS5 := Lib.hid hS5
   have HX5 := Lib.hid X5
   have HY5 := Lib.hid Y5
   have HF1 := Lib.hid (foot_fst (bb := bb) (eb := eb) hfst1)
   clear hm1 hM1 hM5 hm5 hbk1 hbk5 hR5 hS5 X5 Y5
   cases two
   ·have HRR : Hid (getA gs secs (st2 ms) es size false = ⟨x, (0, 0), 0, putS gs secs (st2 ms) size x, putE gs secs es size x⟩) := Lib.hid (by unfold getA; rw [if_pos ⟨hs1, hs2⟩, hx]; rfl)
    clear hx
    have hRW : Blk ((w4.alloc (.cells #[.int .i64 (x.1 : Nat), .int .i64 (x.2 : Nat)] 44)).alloc (.cells #[.int .i64 0, .int .i64 0] 44)) w.heap.size 44 [.int .i64 0, .int .i64 0] := HR5.out
    have hSW : Blk ((w4.alloc (.cells #[.int .i64 (x.1 : Nat), .int .i64 (x.2 : Nat)] 44)).alloc (.cells #[.int .i64 0, .int .i64 0] 44)) (w.heap.size + 1) 44 [.int .i64 0, .int .i64 0] := HS5.out
    have hXW : Blk ((w4.alloc (.cells #[.int .i64 (x.1 : Nat), .int .i64 (x.2 : Nat)] 44)).alloc (.cells #[.int .i64 0, .int .i64 0] 44)) w4.heap.size 44 [.int .i64 (x.1 : Nat), .int .i64 (x.2 : Nat)] := HX5.out
    have hYW : Blk ((w4.alloc (.cells #[.int .i64 (x.1 : Nat), .int .i64 (x.2 : Nat)] 44)).alloc (.cells #[.int .i64 0, .int .i64 0] 44)) (w4.heap.size + 1) 44 [.int .i64 0, .int .i64 0] := HY5.out
    have hBW : IsBook ((w4.alloc (.cells #[.int .i64 (x.1 : Nat), .int .i64 (x.2 : Nat)] 44)).alloc (.cells #[.int .i64 0, .int .i64 0] 44)) bb eb gs secs ms1 (putE gs secs es size x) := HBK5.out
    have hMW : Mod (foot bb eb ms) w ((w4.alloc (.cells #[.int .i64 (x.1 : Nat), .int .i64 (x.2 : Nat)] 44)).alloc (.cells #[.int .i64 0, .int .i64 0] 44)) := HM5.out
    have r0 := hRW.cell 0
    have r1 := hRW.cell 1
    have r2 := hSW.cell 0
    have r3 := hSW.cell 1
    have r4 := hRW.frozen 0
    have r5 := hRW.frozen 1
    have r6 := hSW.frozen 0
    have r7 := hSW.frozen 1
    have z0 := hXW.cell 0
    have z1 := hXW.cell 1
    have z2 := hYW.cell 0
    have z3 := hYW.cell 1
    have HRW := Lib.hid hRW
    have HSW := Lib.hid hSW
    have HBW := Lib.hid hBW
    have HMW := Lib.hid hMW
    clear hRW hSW hXW hYW hBW hMW
    go_wp2_with fail
    go_region
    go_wp2_with fail
    have Q3 := HRW.out.setCell 0 (.int .i64 (x.1 : Nat))
    have Q4 := Q3.setCell 1 (.int .i64 (x.2 : Nat))
    have Q5 := ((HSW.out.other (a := ⟨w.heap.size, 0, none⟩) (by simp) (.int .i64 (x.1 : Nat))).other (a := ⟨w.heap.size, 1, none⟩) (by simp) (.int .i64 (x.2 : Nat)))
    have Q6 := Q5.setCell 0 (.int .i64 0)
    have Q7 := Q6.setCell 1 (.int .i64 0)
    have Q8 := (Q4.other (a := ⟨w.heap.size + 1, 0, none⟩) (by simp) (.int .i64 0)).other (a := ⟨w.heap.size + 1, 1, none⟩) (by simp) (.int .i64 0)
    have Q9 : Blk _ w.heap.size 44 [.int .i64 (x.1 : Nat), .int .i64 (x.2 : Nat)] := Q8.drew
    have Q10 : Blk _ (w.heap.size + 1) 44 [.int .i64 0, .int .i64 0] := Q7.drew
    refine bodyPost_ret (results_cell2_tmp rfl _ _ w.heap.size (w.heap.size + 1) 44 #[.int .i64 (x.1 : Nat), .int .i64 (x.2 : Nat)] #[.int .i64 0, .int .i64 0] (0, 0) (0, 0) _ rfl rfl Q9 Q10 rfl rfl rfl rfl) rfl ?_
    have hre2 := (((HBW.out.setOther (j := 0) (u := .int .i64 (x.1 : Nat)) HRW.out (by decide) (by decide) (by decide) (by decide) (by decide) (by decide)).setOther (j := 1) (u := .int .i64 (x.2 : Nat)) Q3 (by decide) (by decide) (by decide) (by decide) (by decide) (by decide)).setOther (j := 0) (u := .int .i64 0) Q5 (by decide) (by decide) (by decide) (by decide) (by decide) (by decide)).setOther (j := 1) (u := .int .i64 0) Q6 (by decide) (by decide) (by decide) (by decide) (by decide) (by decide)
    rw [HRR.out]
    refine ⟨rfl, eb, ms1, hre2.below (Below.refl _ _).drew, hst1, fun k hk => .inl ?_, ((((HMW.out.setCell (.inr (Nat.le_refl _))).setCell (.inr (Nat.le_refl _))).setCell (.inr (Nat.le_succ _))).setCell (.inr (Nat.le_succ _))).trans' (Below.refl _ _).drew⟩
    rwa [HF1.out] at hk
   ·have HO2 := Lib.hid (one_book' bb eb gs secs ms1 (putE gs secs es size x) size (x.1 : Nat) ((w4.alloc (.cells #[.int .i64 (x.1 : Nat), .int .i64 (x.2 : Nat)] 44)).alloc (.cells #[.int .i64 0, .int .i64 0] 44)) HBK5.out hs1 hs2)
    have x0 := HX5.out.cell 0
    go_wp2_with fail
    refine HO2.out.mono ?_
    rintro e w6 hof
    rcases hof with ⟨hno, rfl, hb6⟩ | ⟨y, hy, hyl, rfl, ms2, hst2, hfst2, hbk2, hm2⟩
    ·have HR8 : Hid (getA gs secs (st2 ms) es size true = ⟨(0, 0), (0, 0), 8, st2 ms, es⟩) := Lib.hid (by
      unfold getA
      rw [if_pos ⟨hs1, hs2⟩, hx]
      dsimp only
      rw [hst1] at hno
      rw [if_pos rfl, hno])
     have hz6 := hb6.size
     have hY6 := HY5.out.below hb6
     have hY61 := hY6.setCell 0 (.int .i64 0)
     have y0 := hY6.cell 0
     have y1 := hY6.cell 1
     have y2 := hY6.frozen 0
     have y3 := hY6.frozen 1
     clear hx hno
     have hBW : IsBook ((w6.setCell ⟨w4.heap.size + 1, 0, none⟩ (.int .i64 0)).setCell ⟨w4.heap.size + 1, 1, none⟩ (.int .i64 0)) bb eb gs secs ms1 (putE gs secs es size x) := ((HBK5.out.below hb6).setOther (j := 0) (u := (.int .i64 0)) hY6 (by decide) (by decide) (by decide) (by decide) (by decide) (by decide)).setOther (j := 1) (u := (.int .i64 0)) hY61 (by decide) (by decide) (by decide) (by decide) (by decide) (by decide)
     have hCW : IsBook ((w6.setCell ⟨w4.heap.size + 1, 0, none⟩ (.int .i64 0)).setCell ⟨w4.heap.size + 1, 1, none⟩ (.int .i64 0)) cb ce gs secs (cpM ms bs) es := (((HBC.out.keep Hm5.out HB3.out.tyOk (fun k hk hf => HNF.out k (Nat.le_trans (by omega) (HFC.out k hk)) hf)).below hb6).setOther (j := 0) (u := (.int .i64 0)) hY6 (by decide) (by decide) (by decide) (by decide) (by decide) (by decide)).setOther (j := 1) (u := (.int .i64 0)) hY61 (by decide) (by decide) (by decide) (by decide) (by decide) (by decide)
     have hRW : Blk ((w6.setCell ⟨w4.heap.size + 1, 0, none⟩ (.int .i64 0)).setCell ⟨w4.heap.size + 1, 1, none⟩ (.int .i64 0)) w.heap.size 44 [.int .i64 0, .int .i64 0] := ((HR5.out.below hb6).other (a := ⟨w4.heap.size + 1, 0, none⟩) (by first | exact nR | exact nS | exact nX) _).other (a := ⟨w4.heap.size + 1, 1, none⟩) (by first | exact nR | exact nS | exact nX) _
     have hSW : Blk ((w6.setCell ⟨w4.heap.size + 1, 0, none⟩ (.int .i64 0)).setCell ⟨w4.heap.size + 1, 1, none⟩ (.int .i64 0)) (w.heap.size + 1) 44 [.int .i64 0, .int .i64 0] := ((HS5.out.below hb6).other (a := ⟨w4.heap.size + 1, 0, none⟩) (by first | exact nR | exact nS | exact nX) _).other (a := ⟨w4.heap.size + 1, 1, none⟩) (by first | exact nR | exact nS | exact nX) _
     have hMW : Mod (foot bb eb ms) w ((w6.setCell ⟨w4.heap.size + 1, 0, none⟩ (.int .i64 0)).setCell ⟨w4.heap.size + 1, 1, none⟩ (.int .i64 0)) := ((HM5.out.trans' hb6).setCell (.inr (by omega))).setCell (.inr (by omega))
     obtain ⟨gv, mv, ec, k1, _, _, _⟩ := hBW.mem
     have k2 := k1.cell 0
     have k3 := k1.cell 1
     have k4 := k1.cell 2
     have k5 := k1.cell 3
     have k6 := k1.frozen 0
     have k7 := k1.frozen 1
     have k8 := k1.frozen 2
     have k9 := k1.frozen 3
     obtain ⟨gb, gc, mvb, mc, ecc, c0, c1, c2, c3, _, _, _, _, _, _⟩ := hCW.parts
     have C0 := Lib.hid c0
     have C2 := Lib.hid c2
     have C3 := Lib.hid c3
     have K1 := Lib.hid k1
     have HBW := Lib.hid hBW
     have HCW := Lib.hid hCW
     have HMW := Lib.hid hMW
     have hbn : bb < w.heap.size := HL.out bb (.inl rfl)
     have n1 : w.heap.size ≠ bb := by omega
     have n2 : w.heap.size + 1 ≠ bb := by omega
     have Q1 := Lib.hid ((((hRW.other (a := ⟨bb, 0, none⟩) n1 (.slice (some ⟨gb, 0, none⟩) gs.length gc)).other (a := ⟨bb, 1, none⟩) n1 (.int .i64 secs)).other (a := ⟨bb, 2, none⟩) n1 (.slice (some ⟨mvb, 0, none⟩) gs.length mc)).other (a := ⟨bb, 3, none⟩) n1 (.slice (some ⟨ce, 0, none⟩) gs.length ecc))
     have Q2 := Lib.hid ((((hSW.other (a := ⟨bb, 0, none⟩) n2 (.slice (some ⟨gb, 0, none⟩) gs.length gc)).other (a := ⟨bb, 1, none⟩) n2 (.int .i64 secs)).other (a := ⟨bb, 2, none⟩) n2 (.slice (some ⟨mvb, 0, none⟩) gs.length mc)).other (a := ⟨bb, 3, none⟩) n2 (.slice (some ⟨ce, 0, none⟩) gs.length ecc))
     have r0 := Q1.out.cell 0
     have r1 := Q1.out.cell 1
     have r2 := Q2.out.cell 0
     have r3 := Q2.out.cell 1
     have r4 := Q1.out.frozen 0
     have r5 := Q1.out.frozen 1
     have r6 := Q2.out.frozen 0
     have r7 := Q2.out.frozen 1
     clear k1 hBW hCW hRW hSW hMW
     go_wp2_with fail
     have Q3 := Q1.out.setCell 0 (.int .i64 0)
     have Q4 := Q3.setCell 1 (.int .i64 0)
     have Q5 := ((Q2.out.other (a := ⟨w.heap.size, 0, none⟩) (by simp) (.int .i64 0)).other (a := ⟨w.heap.size, 1, none⟩) (by simp) (.int .i64 0))
     have Q6 := Q5.setCell 0 (.int .i64 0)
     have Q7 := Q6.setCell 1 (.int .i64 0)
     have Q8 := (Q4.other (a := ⟨w.heap.size + 1, 0, none⟩) (by simp) (.int .i64 0)).other (a := ⟨w.heap.size + 1, 1, none⟩) (by simp) (.int .i64 0)
     refine bodyPost_ret (results_cell2_tmp rfl _ _ w.heap.size (w.heap.size + 1) 44 #[.int .i64 0, .int .i64 0] #[.int .i64 0, .int .i64 0] (0, 0) (0, 0) _ rfl rfl Q8 Q7 rfl rfl rfl rfl) rfl ?_
     have hres := IsBook.restore HCW.out K1.out rfl C0.out C2.out C3.out
     have hre2 := (((hres.setOther (j := 0) (u := .int .i64 0) Q1.out (by decide) (by decide) (by decide) (by decide) (by decide) (by decide)).setOther (j := 1) (u := .int .i64 0) Q3 (by decide) (by decide) (by decide) (by decide) (by decide) (by decide)).setOther (j := 0) (u := .int .i64 0) Q5 (by decide) (by decide) (by decide) (by decide) (by decide) (by decide)).setOther (j := 1) (u := .int .i64 0) Q6 (by decide) (by decide) (by decide) (by decide) (by decide) (by decide)
     rw [HR8.out]
     refine ⟨rfl, ce, cpM ms bs, hre2, HST.out, ?_, ?_⟩
     ·rintro k (rfl | hk)
      ·exact .inl (.inl rfl)
      ·exact .inr (Nat.le_trans (by omega) (HFC.out k (.inr hk)))
     ·exact (((((((HMW.out.setCell (.inl (.inl rfl))).setCell (.inl (.inl rfl))).setCell (.inl (.inl rfl))).setCell (.inl (.inl rfl))).setCell (.inr (Nat.le_refl _))).setCell (.inr (Nat.le_refl _))).setCell (.inr (Nat.le_succ _))).setCell (.inr (Nat.le_succ _))
    ·have HRR : Hid (getA gs secs (st2 ms) es size true = ⟨x, y, 0, putS gs secs (putS gs secs (st2 ms) size x) size y, putE gs secs (putE gs secs es size x) size y⟩) := Lib.hid (by
      unfold getA
      rw [if_pos ⟨hs1, hs2⟩, hx]
      dsimp only
      rw [hst1] at hy
      rw [if_pos rfl, hy])
     have hz6 := hm2.size
     rw [HF1.out] at hm2
     have hM6 : Mod (foot bb eb ms) w w6 := HM5.out.trans hm2 (fun _ _ h => h)
     have hY6 := hm2.blk HY5.out (fun h => HNF.out _ (by omega) h)
     have hX6 := hm2.blk HX5.out (fun h => HNF.out _ (by omega) h)
     have hR6 := hm2.blk HR5.out (fun h => HNF.out _ (Nat.le_refl _) h)
     have hS6 := hm2.blk HS5.out (fun h => HNF.out _ (Nat.le_succ _) h)
     have y0 := hY6.cell 0
     have y1 := hY6.cell 1
     have y2 := hY6.frozen 0
     have y3 := hY6.frozen 1
     clear hx hy
     have hRW : Blk ((w6.setCell ⟨w4.heap.size + 1, 0, none⟩ (.int .i64 (y.1 : Nat))).setCell ⟨w4.heap.size + 1, 1, none⟩ (.int .i64 (y.2 : Nat))) w.heap.size 44 [.int .i64 0, .int .i64 0] := ((hR6).other (a := ⟨w4.heap.size + 1, 0, none⟩) (by first | exact nR | exact nS | exact nX) _).other (a := ⟨w4.heap.size + 1, 1, none⟩) (by first | exact nR | exact nS | exact nX) _
     have hSW : Blk ((w6.setCell ⟨w4.heap.size + 1, 0, none⟩ (.int .i64 (y.1 : Nat))).setCell ⟨w4.heap.size + 1, 1, none⟩ (.int .i64 (y.2 : Nat))) (w.heap.size + 1) 44 [.int .i64 0, .int .i64 0] := ((hS6).other (a := ⟨w4.heap.size + 1, 0, none⟩) (by first | exact nR | exact nS | exact nX) _).other (a := ⟨w4.heap.size + 1, 1, none⟩) (by first | exact nR | exact nS | exact nX) _
     have hXW : Blk ((w6.setCell ⟨w4.heap.size + 1, 0, none⟩ (.int .i64 (y.1 : Nat))).setCell ⟨w4.heap.size + 1, 1, none⟩ (.int .i64 (y.2 : Nat))) w4.heap.size 44 [.int .i64 (x.1 : Nat), .int .i64 (x.2 : Nat)] := ((hX6).other (a := ⟨w4.heap.size + 1, 0, none⟩) (by first | exact nR | exact nS | exact nX) _).other (a := ⟨w4.heap.size + 1, 1, none⟩) (by first | exact nR | exact nS | exact nX) _
     have hYW : Blk ((w6.setCell ⟨w4.heap.size + 1, 0, none⟩ (.int .i64 (y.1 : Nat))).setCell ⟨w4.heap.size + 1, 1, none⟩ (.int .i64 (y.2 : Nat))) (w4.heap.size + 1) 44 [.int .i64 (y.1 : Nat), .int .i64 (y.2 : Nat)] := (hY6.setCell 0 (.int .i64 (y.1 : Nat))).setCell 1 (.int .i64 (y.2 : Nat))
     have hBW : IsBook ((w6.setCell ⟨w4.heap.size + 1, 0, none⟩ (.int .i64 (y.1 : Nat))).setCell ⟨w4.heap.size + 1, 1, none⟩ (.int .i64 (y.2 : Nat))) bb eb gs secs ms2 (putE gs secs (putE gs secs es size x) size y) := ((hbk2).setOther (j := 0) (u := (.int .i64 (y.1 : Nat))) hY6 (by decide) (by decide) (by decide) (by decide) (by decide) (by decide)).setOther (j := 1) (u := (.int .i64 (y.2 : Nat))) (hY6.setCell 0 (.int .i64 (y.1 : Nat))) (by decide) (by decide) (by decide) (by decide) (by decide) (by decide)
     have hMW : Mod (foot bb eb ms) w ((w6.setCell ⟨w4.heap.size + 1, 0, none⟩ (.int .i64 (y.1 : Nat))).setCell ⟨w4.heap.size + 1, 1, none⟩ (.int .i64 (y.2 : Nat))) := ((hM6).setCell (.inr (by omega))).setCell (.inr (by omega))
     have r0 := hRW.cell 0
     have r1 := hRW.cell 1
     have r2 := hSW.cell 0
     have r3 := hSW.cell 1
     have r4 := hRW.frozen 0
     have r5 := hRW.frozen 1
     have r6 := hSW.frozen 0
     have r7 := hSW.frozen 1
     have z0 := hXW.cell 0
     have z1 := hXW.cell 1
     have z2 := hYW.cell 0
     have z3 := hYW.cell 1
     have HRW := Lib.hid hRW
     have HSW := Lib.hid hSW
     have HBW := Lib.hid hBW
     have HMW := Lib.hid hMW
     clear hRW hSW hXW hYW hBW hMW
     go_wp2_with fail
     go_region
     go_wp2_with fail
     have Q3 := HRW.out.setCell 0 (.int .i64 (x.1 : Nat))
     have Q4 := Q3.setCell 1 (.int .i64 (x.2 : Nat))
     have Q5 := ((HSW.out.other (a := ⟨w.heap.size, 0, none⟩) (by simp) (.int .i64 (x.1 : Nat))).other (a := ⟨w.heap.size, 1, none⟩) (by simp) (.int .i64 (x.2 : Nat)))
     have Q6 := Q5.setCell 0 (.int .i64 (y.1 : Nat))
     have Q7 := Q6.setCell 1 (.int .i64 (y.2 : Nat))
     have Q8 := (Q4.other (a := ⟨w.heap.size + 1, 0, none⟩) (by simp) (.int .i64 (y.1 : Nat))).other (a := ⟨w.heap.size + 1, 1, none⟩) (by simp) (.int .i64 (y.2 : Nat))
     have Q9 : Blk _ w.heap.size 44 [.int .i64 (x.1 : Nat), .int .i64 (x.2 : Nat)] := Q8.drew
     have Q10 : Blk _ (w.heap.size + 1) 44 [.int .i64 (y.1 : Nat), .int .i64 (y.2 : Nat)] := Q7.drew
     refine bodyPost_ret (results_cell2_tmp rfl _ _ w.heap.size (w.heap.size + 1) 44 #[.int .i64 (x.1 : Nat), .int .i64 (x.2 : Nat)] #[.int .i64 (y.1 : Nat), .int .i64 (y.2 : Nat)] (0, 0) (0, 0) _ rfl rfl Q9 Q10 rfl rfl rfl rfl) rfl ?_
     have hre2 := (((HBW.out.setOther (j := 0) (u := .int .i64 (x.1 : Nat)) HRW.out (by decide) (by decide) (by decide) (by decide) (by decide) (by decide)).setOther (j := 1) (u := .int .i64 (x.2 : Nat)) Q3 (by decide) (by decide) (by decide) (by decide) (by decide) (by decide)).setOther (j := 0) (u := .int .i64 (y.1 : Nat)) Q5 (by decide) (by decide) (by decide) (by decide) (by decide) (by decide)).setOther (j := 1) (u := .int .i64 (y.2 : Nat)) Q6 (by decide) (by decide) (by decide) (by decide) (by decide) (by decide)
     rw [HRR.out]
     refine ⟨rfl, eb, ms2, hre2.below (Below.refl _ _).drew, (by rw [hst2, hst1]), fun k hk => .inl ?_, ((((HMW.out.setCell (.inr (Nat.le_refl _))).setCell (.inr (Nat.le_refl _))).setCell (.inr (Nat.le_succ _))).setCell (.inr (Nat.le_succ _))).trans' (Below.refl _ _).drew⟩
     rwa [foot_fst hfst2, HF1.out] at hk
 ·have hr : getA gs secs (st2 ms) es size two = ⟨(0, 0), (0, 0), 1, st2 ms, es⟩ := by unfold getA; rw [if_neg hs]
  rw [hr]
  have r0 := HR.out.cell 0
  have r1 := HR.out.cell 1
  have r2 := HS.out.cell 0
  have r3 := HS.out.cell 1
  have r4 := HR.out.frozen 0
  have r5 := HR.out.frozen 1
  have r6 := HS.out.frozen 0
  have r7 := HS.out.frozen 1
  by_cases h1 : size < 1
  ·go_wp2_with fail
   rw [← hw2]
   refine bodyPost_ret (results_cell2_tmp rfl _ _ w.heap.size (w.heap.size + 1) 44 #[.int .i64 0, .int .i64 0] #[.int .i64 0, .int .i64 0] (0, 0) (0, 0) _ rfl rfl HR.out HS.out rfl rfl rfl rfl) rfl ?_
   exact ⟨rfl, eb, ms, HB2.out, rfl, fun k hk => .inl hk, Mod.below HA.out⟩
  ·have h2 : 4 < size := by omega
   go_wp2_with fail
   rw [← hw2]
   refine bodyPost_ret (results_cell2_tmp rfl _ _ w.heap.size (w.heap.size + 1) 44 #[.int .i64 0, .int .i64 0] #[.int .i64 0, .int .i64 0] (0, 0) (0, 0) _ rfl rfl HR.out HS.out rfl rfl rfl rfl) rfl ?_
   exact ⟨rfl, eb, ms, HB2.out, rfl, fun k hk => .inl hk, Mod.below HA.out⟩
end Go.Proofs.YtfaemcfjbbbbdaaGreat
namespace Go.Proofs.YtfaemcfjbbbbdaaGreat
open Go.RowKit Go.ChangeShapes Go.WideShapes Go.Deep
attribute [local go_sem ↓] Go.wp_at_zero Go.wp_at_succ
theorem addr_addA (b off j : Nat) : (⟨b, off, none⟩ : Addr).add j = ⟨b, off + j, none⟩ := by unfold Addr.add; split <;> simp_all
section
variable {H : Type} {enc : TypeId × Value → H} {W : World} {base : Nat} {spare : Nat → Bool} {held : Bool}
set_option maxRecDepth 100000 in
theorem open_groups {v : Value} {n : Nat} {y : DataW H × List MemPlace} (h : DataW.trod enc Tryz.prog W base spare held n 22 [v] = some y) : ∃ a len cap gs, v = .slice a len cap ∧ GSl W a len cap gs := by
 rcases open_slice_pairs Tryz.underlying22 Tryz.underlying31 (by kernel_rfl) rfl rfl (by kernel_rfl) (by kernel_rfl) h with ⟨hcs, _⟩ | ⟨ad, len, cap, m, k, V0, V1, D0, D1, P0, P1, hcs, hb, hl, hm, hmm, hx, hi⟩
 ·simp at hcs
  exact ⟨none, 0, 0, [], hcs, RSl.nil W 2⟩
 ·simp at hcs
  have hlm : len ≤ m := by rw [hmm]; split <;> omega
  have each : ∀ i, i < len → ∃ r : Int × Int, W.cell? (ad.add (i * 2)) = some (.int .i64 r.1) ∧ W.cell? (ad.add (i * 2 + 1)) = some (.int .i64 r.2) := by
   intro i hil
   obtain ⟨c0, c1, g0, g1⟩ := hi i (by omega)
   obtain ⟨n0, e0, _, _⟩ := DataW.trod_int Tryz.underlying3 g0
   obtain ⟨n1, e1, _, _⟩ := DataW.trod_int Tryz.underlying3 g1
   simp at e0 e1
   exact ⟨(n0, n1), by rw [c0, e0], by rw [c1, e1]⟩
  obtain ⟨q, hq⟩ := choose_lt each
  refine ⟨some ad, len, cap, (List.range len).map q, hcs, by rw [encG_length]; simp, hl, hm, fun e => by simp at e, fun hn => ?_⟩
  obtain ⟨b, off, spot⟩ := ad
  have h0 := (hq 0 hn).1
  have hs : spot = none := by
   cases spot with
   | none => rfl
   | some s => simp [Addr.add, World.cell?] at h0; split at h0 <;> simp at h0
  subst hs
  refine ⟨b, off, rfl, block_lt_of_cell (a := ⟨b, off, none⟩) (by simpa [Addr.add] using h0), fun j hj => ?_⟩
  have hk : j / 2 < len := by omega
  have hget : ((List.range len).map q).getD (j / 2) (0, 0) = q (j / 2) := by simp [List.getD, hk]
  obtain ⟨e0, e1⟩ := encG_get ((List.range len).map q) (j / 2) (by simpa using hk)
  rw [hget] at e0 e1
  obtain ⟨k0, k1⟩ := hq (j / 2) hk
  have h3 : j % 2 = 0 ∨ j % 2 = 1 := by omega
  rcases h3 with h3 | h3
  ·have hj2 : j = j / 2 * 2 := by omega
   rw [← hj2] at e0 k0
   rw [addr_addA] at k0
   rw [e0, ← k0]
  ·have hj2 : j = j / 2 * 2 + 1 := by omega
   rw [← hj2] at e1 k1
   rw [addr_addA] at k1
   rw [e1, ← k1]
set_option maxRecDepth 100000 in
theorem open_geom {r : Reach} {b0 : Nat} {v : Value} {d : DataW H} {p : List MemPlace} (hv : Value.okWide Tryz.prog W r b0 24 v) (h : DataW.Trod enc Tryz.prog W base spare held 24 v d p) :
  ∃ (ga : Option Addr) (gn gc : Nat) (gs : Gs) (secs : Int), v = .agg #[.slice ga gn gc, .int .i64 secs] ∧ GSl W ga gn gc gs := by
 obtain ⟨v0, v1, y0, y1, k, rfl, rfl, rfl, g0, g1⟩ := Joins.open_agg2 Tryz.underlying24 (by kernel_rfl) (by kernel_rfl) hv h
 obtain ⟨ga, gn, gc, gs, rfl, hg⟩ := open_groups g0
 obtain ⟨n1, e1, _, w1⟩ := DataW.trod_int Tryz.underlying3 g1
 simp at e1
 subst e1
 exact ⟨ga, gn, gc, gs, n1, rfl, hg⟩
end
end Go.Proofs.YtfaemcfjbbbbdaaGreat
namespace Go.Proofs.YtfaemcfjbbbbdaaGreat
open Go.RowKit
def mayC (gs : Gs) (secs g a size : Int) : Bool := decide (0 < takesI gs secs g size ∧ 0 ≤ a ∧ a ≤ sectI gs secs g - takesI gs secs g size)
def apartC (gs : Gs) (secs ag aa bg ba size : Int) : Bool := decide (ag ≠ bg ∨ aa + takesI gs secs ag size ≤ ba ∨ ba + takesI gs secs bg size ≤ aa)
def ptrRight (gs : Gs) (secs : Int) (p : PtrT) : Bool :=
 decide (0 ≤ p.level ∧ p.level ≤ 3 ∧ 1 ≤ p.birth ∧ p.birth ≤ 4294967295) && mayC gs secs p.ag p.aa p.size && (if p.two = true then mayC gs secs p.bg p.ba p.size && apartC gs secs p.ag p.aa p.bg p.ba p.size else decide (p.bg = 0 ∧ p.ba = 0))
theorem takesI_pos {gs : Gs} {secs g size : Int} (h : 0 < takesI gs secs g size) : rightB gs secs = true ∧ 0 ≤ g ∧ g < gs.length ∧ 1 ≤ size ∧ size ≤ 4 := by
 unfold takesI at h
 split at h
 ·rename_i hc
  obtain ⟨h1, h2, h3⟩ := hasB_spec hc.1
  exact ⟨h1, h2, h3, hc.2.1, hc.2.2⟩
 ·omega
theorem sectI_at {gs : Gs} {secs : Int} (h : rightB gs secs = true) {i : Nat} (hi : i < gs.length) : sectI gs secs i = sect (gs.getD i (0, 0)) secs := by
 unfold sectI
 rw [if_pos (hasB_mk h (by omega) (by omega)), Int.toNat_natCast]
def plN (p : PtrT) : List (Nat × Nat) := (p.ag.toNat, p.aa.toNat) :: if p.two = true then [(p.bg.toNat, p.ba.toNat)] else []
def pstrs (gs : Gs) (secs : Int) (p : PtrT) : List St := (plN p).map (stOf gs secs p.size)
theorem mayC_spec {gs : Gs} {secs g a size : Int} (h : mayC gs secs g a size = true) : rightB gs secs = true ∧ 0 ≤ g ∧ g < gs.length ∧ 1 ≤ size ∧ size ≤ 4 ∧ 0 ≤ a ∧ a ≤ 32768 ∧ 1 ≤ takesI gs secs g size ∧ takesI gs secs g size ≤ 6 ∧ sOk gs secs (stOf gs secs size (g.toNat, a.toNat)) := by
 unfold mayC at h
 simp only [decide_eq_true_eq] at h
 obtain ⟨h1, h2, h3⟩ := h
 obtain ⟨a1, a2, a3, a4, a5⟩ := takesI_pos h1
 obtain ⟨i, rfl⟩ : ∃ i : Nat, g = i := ⟨g.toNat, by omega⟩
 have hi : i < gs.length := by omega
 obtain ⟨t, ht, t1, t6, ts⟩ := takes_nat a1 hi a4 a5
 rw [sectI_at a1 hi, ht] at h3
 have hr := rightB_spec a1
 have hb := sect_bd (getD_right a1 hi) hr.2.2.1 hr.2.2.2.1
 refine ⟨a1, a2, a3, a4, a5, h2, by omega, by omega, by omega, ⟨by simp only [stOf, Int.toNat_natCast]; exact hi, ?_, ?_⟩⟩
 ·simp only [stOf, Int.toNat_natCast, ht]; exact t1
 ·simp only [stOf, Int.toNat_natCast, ht]; omega
theorem mayC_mk {gs : Gs} {secs size : Int} {x : Nat × Nat} (hr : rightB gs secs = true) (h1 : 1 ≤ size) (h2 : size ≤ 4) (h : sOk gs secs (stOf gs secs size x)) : mayC gs secs x.1 x.2 size = true := by
 obtain ⟨t, ht, t1, t6, ts⟩ := takes_nat hr h.lt h1 h2
 have hr' := rightB_spec hr
 have hb := sect_bd (getD_right hr h.lt) hr'.2.2.1 hr'.2.2.2.1
 have htop := h.top
 simp only [stOf] at htop ht ts hb
 rw [ht, Int.toNat_natCast] at htop
 unfold mayC
 have hsI := sectI_at hr h.lt
 simp only [stOf] at hsI
 rw [hsI, ht]
 simp only [decide_eq_true_eq]
 omega
def mkP (p q : Nat × Nat) (two : Bool) (size : Int) : PtrT := ⟨p.1, p.2, q.1, q.2, two, size, 0, 1, 0, 0, 0, 0⟩
theorem plN_mk (p q : Nat × Nat) (two : Bool) (size : Int) : plN (mkP p q two size) = p :: if two = true then [q] else [] := by cases two <;> simp [plN, mkP]
theorem Cov.right {gs : Gs} {secs : Int} {sn : SN} {L : List St} {p q : Nat × Nat} {two : Bool} {size : Int} (hr : rightB gs secs = true) (h1 : 1 ≤ size) (h2 : size ≤ 4) (h : Cov gs secs sn (L ++ strs gs secs size two p q)) (hq : two = false → q = (0, 0)) :
  ptrRight gs secs (mkP p q two size) = true := by
 have hp : sOk gs secs (stOf gs secs size p) := h.ok _ (by cases two <;> simp [strs])
 have m1 := mayC_mk hr h1 h2 hp
 cases two
 ·rw [hq rfl]
  simp [ptrRight, mkP, m1]
 ·have hq' : sOk gs secs (stOf gs secs size q) := h.ok _ (by simp [strs])
  have m2 := mayC_mk hr h1 h2 hq'
  have hd : Dis (stOf gs secs size p) (stOf gs secs size q) := by
   have := (List.pairwise_append.1 h.dis).2.1
   simp only [strs, if_pos, List.pairwise_cons] at this
   exact this.1 _ (by simp)
  have ha : apartC gs secs p.1 p.2 q.1 q.2 size = true := by
   unfold apartC
   simp only [decide_eq_true_eq]
   by_cases e : p.1 = q.1
   ·right
    have s1 := hp.pos
    have s2 := hq'.pos
    simp only [stOf] at s1 s2
    apply Classical.byContradiction
    intro hno
    have hd1 := hd p.1 (max p.2 q.2)
    simp only [sHas, stOf] at hd1
    exact hd1 ⟨trivial, by omega, by omega⟩ ⟨e.symm, by omega, by omega⟩
   ·left
    omega
  simp [ptrRight, mkP, m1, m2, ha]
theorem ptrRight_may {gs : Gs} {secs : Int} {p : PtrT} (h : ptrRight gs secs p = true) : mayC gs secs p.ag p.aa p.size = true ∧ (p.two = true → mayC gs secs p.bg p.ba p.size = true ∧ apartC gs secs p.ag p.aa p.bg p.ba p.size = true) ∧ (p.two = false → p.bg = 0 ∧ p.ba = 0) ∧ (0 ≤ p.level ∧ p.level ≤ 3 ∧ 1 ≤ p.birth ∧ p.birth ≤ 4294967295) := by
 unfold ptrRight at h
 simp only [Bool.and_eq_true, decide_eq_true_eq] at h
 obtain ⟨⟨h1, h2⟩, h3⟩ := h
 refine ⟨h2, fun e => ?_, fun e => ?_, h1⟩
 ·rw [if_pos e] at h3; simpa using h3
 ·rw [e] at h3; simpa using h3
end Go.Proofs.YtfaemcfjbbbbdaaGreat
namespace Go.Proofs.YtfaemcfjbbbbdaaGreat
open Go.RowKit
attribute [local go_sem ↓] Go.wp_at_zero Go.wp_at_succ
set_option maxRecDepth 100000 in
theorem pnone_any (p : PtrT) (hb : 1 ≤ p.birth) (w : World) :
  Calls Tryz.prog 15 #[.agg (encPtr p).toArray] w fun e w' => e = .returned (.bool false) ∧ Below w.heap.size w w' := by
 obtain ⟨p0, p1, p2, p3, p4, p5, p6, p7, p8, p9, p10, p11⟩ := p
 dsimp only at hb
 have hne : (p7 == 0) = false := by simp; omega
 have hb0 : Below w.heap.size w (w.alloc (.cells #[.int .i64 p0, .int .i64 p1, .int .i64 p2, .int .i64 p3, .bool p4, .int .i64 p5, .int .i64 p6, .int .i64 p7, .int .u64 p8, .int .u64 p9, .int .u64 p10, .int .u64 p11] 49)) := (Below.refl _ _).alloc (Nat.le_refl _) _
 have HB := Lib.hid hb0
 clear hb0 hb
 show Calls _ _ #[.agg #[.int .i64 p0, .int .i64 p1, .int .i64 p2, .int .i64 p3, .bool p4, .int .i64 p5, .int .i64 p6, .int .i64 p7, .int .u64 p8, .int .u64 p9, .int .u64 p10, .int .u64 p11]] _ _
 go_enter Tryz.func15, Tryz.ntmps15
 go_wp2_with fail
 go_ret
 exact ⟨ret_bool (by simp_all), HB.out⟩
set_option maxRecDepth 100000 in
theorem places_any (p : PtrT) (hb : 1 ≤ p.birth) (w : World) :
  Calls Tryz.prog 19 #[.agg (encPtr p).toArray] w fun e w' => ∃ g, Hid (e = .returned (.slice (some ⟨g, 0, none⟩) (if p.two = true then 2 else 1) (if p.two = true then 2 else 1))) ∧ w.heap.size ≤ g ∧
   Blk w' g 44 (if p.two = true then [.int .i64 p.ag, .int .i64 p.aa, .int .i64 p.bg, .int .i64 p.ba] else [.int .i64 p.ag, .int .i64 p.aa]) ∧ Below w.heap.size w w' := by
 have HN := Lib.hid (fun W => pnone_any p hb W)
 obtain ⟨p0, p1, p2, p3, p4, p5, p6, p7, p8, p9, p10, p11⟩ := p
 have hb0 : Below w.heap.size w (w.alloc (.cells #[.int .i64 p0, .int .i64 p1, .int .i64 p2, .int .i64 p3, .bool p4, .int .i64 p5, .int .i64 p6, .int .i64 p7, .int .u64 p8, .int .u64 p9, .int .u64 p10, .int .u64 p11] 49)) := (Below.refl _ _).alloc (Nat.le_refl _) _
 have hB0 := Blk.new w 49 [.int .i64 p0, .int .i64 p1, .int .i64 p2, .int .i64 p3, .bool p4, .int .i64 p5, .int .i64 p6, .int .i64 p7, .int .u64 p8, .int .u64 p9, .int .u64 p10, .int .u64 p11]
 have HB := Lib.hid hb0
 have HK := Lib.hid hB0
 clear hb0 hb hB0
 show Calls _ _ #[.agg #[.int .i64 p0, .int .i64 p1, .int .i64 p2, .int .i64 p3, .bool p4, .int .i64 p5, .int .i64 p6, .int .i64 p7, .int .u64 p8, .int .u64 p9, .int .u64 p10, .int .u64 p11]] _ _
 cases p4
 all_goals
  go_enter Tryz.func19, Tryz.ntmps19
  go_wp2_with fail
  refine (HN.out _).mono ?_
  rintro e w1 ⟨rfl, hb1⟩
  have B1 := Lib.hid (HB.out.trans (hb1.mono HB.out.size))
  have K1 := HK.out.below hb1
  have c0 := K1.cell 0
  have c1 := K1.cell 1
  have c2 := K1.cell 2
  have c3 := K1.cell 3
  have c4 := K1.cell 4
  clear hb1 K1
  go_wp2_with fail
  go_ret
  exact ⟨w1.heap.size, Lib.hid rfl, B1.out.size, Blk.new w1 _ _, B1.out.alloc B1.out.size _⟩
theorem takesI_bd (gs : Gs) (secs g size : Int) : takesI gs secs g size ≤ 6 ∧ sectI gs secs g ≤ 32768 ∧ 0 ≤ sectI gs secs g ∧ 0 ≤ takesI gs secs g size := by
 have ht : 0 ≤ takesI gs secs g size ∧ takesI gs secs g size ≤ 6 := by
  unfold takesI
  split
  ·rename_i hc
   obtain ⟨h1, h2, h3⟩ := hasB_spec hc.1
   obtain ⟨i, rfl⟩ := Int.eq_ofNat_of_zero_le h2
   have := takes_bd (getD_right h1 (show i < gs.length by omega)) hc.2.1 hc.2.2
   rw [Int.toNat_natCast]
   omega
  ·omega
 have hs : 0 ≤ sectI gs secs g ∧ sectI gs secs g ≤ 32768 := by
  unfold sectI
  split
  ·rename_i hc
   obtain ⟨h1, h2, h3⟩ := hasB_spec hc
   obtain ⟨i, rfl⟩ := Int.eq_ofNat_of_zero_le h2
   have hr := rightB_spec h1
   have := sect_bd (getD_right h1 (show i < gs.length by omega)) hr.2.2.1 hr.2.2.2.1
   rw [Int.toNat_natCast]
   omega
  ·omega
 omega
set_option maxRecDepth 100000 in
theorem cmay_any (ao : Option Addr) (n cap : Nat) (gs : Gs) (secs g a size : Int) (w : World) (h : GSl w ao n cap gs) (_ha : I64' a) :
  Calls Tryz.prog 45 #[.agg #[.slice ao n cap, .int .i64 secs], .agg #[.int .i64 g, .int .i64 a], .int .i64 size] w fun e w' => e = .returned (.bool (mayC gs secs g a size)) ∧ Below w.heap.size w w' := by
 obtain ⟨w0, hw0⟩ : ∃ w0, w0 = (w.alloc (.cells #[.slice ao n cap, .int .i64 secs] 24)).alloc (.cells #[.int .i64 g, .int .i64 a] 44) := ⟨_, rfl⟩
 have hb0 : Below w.heap.size w w0 := by rw [hw0]; exact ((Below.refl _ _).alloc (Nat.le_refl _) _).alloc (by simp) _
 have hR0 : Blk w0 w.heap.size 24 [.slice ao n cap, .int .i64 secs] := by rw [hw0]; exact (Blk.new w _ _).alloc _
 have hP0 : Blk w0 (w.heap.size + 1) 44 [.int .i64 g, .int .i64 a] := by rw [hw0]; exact Blk.newAt _ _ (by simp)
 have HT := Lib.hid (gtakes_any ao n cap gs secs g size w0 (h.below hb0))
 have HB0 := Lib.hid hb0
 have HR0 := Lib.hid hR0
 have HP0 := Lib.hid hP0
 have HG := Lib.hid h
 have hx := takesI_bd gs secs g size
 obtain ⟨t, ht⟩ : ∃ t, t = takesI gs secs g size := ⟨_, rfl⟩
 obtain ⟨s, hs⟩ : ∃ s, s = sectI gs secs g := ⟨_, rfl⟩
 have hm : mayC gs secs g a size = decide (0 < t ∧ 0 ≤ a ∧ a ≤ s - t) := by rw [ht, hs]; rfl
 rw [← ht] at HT
 rw [← ht, ← hs] at hx
 obtain ⟨x1, x2, x3, x4⟩ := hx
 rw [hm]
 have HS : ∀ W, Below w0.heap.size w0 W → Calls Tryz.prog 56 #[.agg #[.slice ao n cap, .int .i64 secs], .int .i64 g] W fun e w' => e = .returned (.int .i64 s) ∧ Below W.heap.size W w' := fun W hW => by
  rw [hs]; exact gsectors_any ao n cap gs secs g W ((h.below hb0).below hW)
 have HS' := Lib.hid HS
 have q0 := hR0.cell 0
 have q1 := hR0.cell 1
 have r0 := hP0.cell 0
 have r1 := hP0.cell 1
 have fin : ∀ x : Bool, x = decide (0 < t ∧ 0 ≤ a ∧ a ≤ s - t) → Ending.returned (.bool x) = .returned (.bool (decide (0 < t ∧ 0 ≤ a ∧ a ≤ s - t))) := fun x e => by rw [e]
 have FIN := Lib.hid fin
 clear hb0 hR0 hP0 h hm ht hs HS fin q0 q1 r0 r1
 go_enter Tryz.func45, Tryz.ntmps45
 go_wp2_with fail
 rw [← hw0]
 clear hw0
 have q0 := HR0.out.cell 0
 have q1 := HR0.out.cell 1
 have r0 := HP0.out.cell 0
 have r1 := HP0.out.cell 1
 go_wp2_with fail
 refine HT.out.mono ?_
 rintro e w1 ⟨rfl, hb1⟩
 have B1 := Lib.hid (HB0.out.trans (hb1.mono HB0.out.size))
 have R1 := HR0.out.below hb1
 have P1 := HP0.out.below hb1
 clear q0 q1 r0 r1
 have q0 := R1.cell 0
 have q1 := R1.cell 1
 have r0 := P1.cell 0
 have r1 := P1.cell 1
 have R1' := Lib.hid R1
 have P1' := Lib.hid P1
 have HC := Lib.hid (HS'.out w1.drew (hb1.trans (Below.refl _ _).drew))
 clear hb1 R1 P1
 have rel : ∀ W, Below w1.heap.size w1.drew W → W.cell? ⟨w.heap.size, 0, none⟩ = some (.slice ao n cap) ∧ W.cell? ⟨w.heap.size, 1, none⟩ = some (.int .i64 secs) ∧ W.cell? ⟨w.heap.size + 1, 0, none⟩ = some (.int .i64 g) ∧ W.cell? ⟨w.heap.size + 1, 1, none⟩ = some (.int .i64 a) := fun W hW => ⟨(R1'.out.below ((Below.refl _ _).drew.trans hW)).cell 0, (R1'.out.below ((Below.refl _ _).drew.trans hW)).cell 1, (P1'.out.below ((Below.refl _ _).drew.trans hW)).cell 0, (P1'.out.below ((Below.refl _ _).drew.trans hW)).cell 1⟩
 have REL := Lib.hid rel
 clear rel
 by_cases d1 : 0 < t
 ·by_cases d2 : 0 ≤ a
  ·have e2 : decide (0 ≤ a) = true := decide_eq_true d2
   have e1 : decide (0 < t) = true := decide_eq_true d1
   go_wp2_with fail
   go_region_held3 (fun w' => w'.cell? ⟨w.heap.size, 0, none⟩ = some (.slice ao n cap) ∧ w'.cell? ⟨w.heap.size, 1, none⟩ = some (.int .i64 secs) ∧ w'.cell? ⟨w.heap.size + 1, 0, none⟩ = some (.int .i64 g) ∧ w'.cell? ⟨w.heap.size + 1, 1, none⟩ = some (.int .i64 a)) (go_keep)
    (first | (go_at_call 56; refine HC.out.mono ?_; rintro e w5 ⟨rfl, hb5⟩; obtain ⟨hd1, hd2, hd3, hd4⟩ := REL.out w5 hb5; have HB5 := Lib.hid hb5; clear hb5))
   all_goals
    go_wp2_with fail
    go_ret
    exact ⟨FIN.out _ (by rw [IntWalk.i64_in (s - t) (by omega)]; simp [d1, d2]), B1.out.trans (((Below.refl _ _).drew.trans HB5.out).mono B1.out.size)⟩
  ·have e2 : decide (0 ≤ a) = false := decide_eq_false d2
   have e1 : decide (0 < t) = true := decide_eq_true d1
   go_wp2_with fail
   go_quiet (fail)
   go_wp2_with fail
   go_ret
   exact ⟨FIN.out _ (decide_eq_false (by omega)).symm, below_drewN' B1.out _⟩
 ·have e1 : decide (0 < t) = false := decide_eq_false d1
  go_wp2_with fail
  go_quiet (fail)
  go_wp2_with fail
  go_ret
  exact ⟨FIN.out _ (decide_eq_false (by omega)).symm, below_drewN' B1.out _⟩
end Go.Proofs.YtfaemcfjbbbbdaaGreat
namespace Go.Proofs.YtfaemcfjbbbbdaaGreat
open Go.RowKit
attribute [local go_sem ↓] Go.wp_at_zero Go.wp_at_succ
abbrev ColT := Nat × Nat × Bool × Nat
def encC1 (c : ColT) : List Value := [.int .i64 (c.1 : Nat), .int .i64 (c.2.1 : Nat), .bool c.2.2.1, .int .i64 (c.2.2.2 : Nat)]
def encC (l : List ColT) : List Value := l.flatMap encC1
theorem encC_append (a b : List ColT) : encC (a ++ b) = encC a ++ encC b := by simp [encC]
theorem encC_one (l : List ColT) : ∀ u ∈ encC l, u.oneCell' = true := by
 intro u hu
 simp only [encC, List.mem_flatMap, encC1, List.mem_cons, List.not_mem_nil, or_false] at hu
 obtain ⟨c, _, h⟩ := hu
 rcases h with rfl | rfl | rfl | rfl <;> rfl
theorem infoC : (Tryz.prog.info? 78).map (fun i => (i.zero, i.size, i.bytes)) = some (some (.agg #[.int .i64 0, .int .i64 0, .bool false, .int .i64 0]), 4, 32) := by kernel_rfl
def mirD (first at_ d i : Nat) : List ColT := (List.range i).map fun j => (first + d, 16 + at_ + j, false, j)
def mirL (first at_ size : Nat) : Nat → List ColT
 | 0 => []
 | d + 1 => mirL first at_ size d ++ mirD first at_ d size
theorem mirD_step (first at_ d i : Nat) : mirD first at_ d (i + 1) = mirD first at_ d i ++ [(first + d, 16 + at_ + i, false, i)] := by simp [mirD, List.range_succ]
theorem mirD_length (first at_ d i : Nat) : (mirD first at_ d i).length = i := by simp [mirD]
theorem mirL_length (first at_ size : Nat) : ∀ d, (mirL first at_ size d).length = d * size
 | 0 => by simp [mirL]
 | d + 1 => by simp [mirL, mirL_length first at_ size d, mirD_length, Nat.succ_mul]
set_option maxHeartbeats 1600000 in
set_option maxRecDepth 100000 in
theorem mirror_any (first wide at_ size : Nat) (w : World) (h1 : first ≤ 1000) (h2 : wide ≤ 8) (h3 : at_ ≤ 100000) (h4 : size ≤ 4) :
    Calls Tryz.prog 47 #[.int .i64 (first : Nat), .int .i64 (wide : Nat), .int .i64 (at_ : Nat), .int .i64 (size : Nat)] w fun e w' => ∃ v, e = .returned v ∧ w'.ownsRow w.heap.size 78 4 v (mirL first at_ size wide).length (encC (mirL first at_ size wide)) ∧ Below w.heap.size w w' := by
  obtain ⟨i0, hi, hz0, hz1, hz2⟩ := info_parts infoC
  go_enter Tryz.func47, Tryz.ntmps47
  go_wp2_with fail
  go_loopw [9, 13] (fun v i wr => ∃ d : Nat, d ≤ wide ∧ i = .int .i64 (d : Nat) ∧ Hid (wr.ownsRow w.heap.size 78 4 v (mirL first at_ size d).length (encC (mirL first at_ size d))) ∧ Hid (Below w.heap.size w wr)) (fun _ i _ => wide - (intOf i).toNat)
  case atStart => exact ⟨0, by omega, rfl, Lib.hid (World.ownsRow_nil _ _ _ _), Lib.hid (Below.refl _ _)⟩
  case round =>
    obtain ⟨d, hd, rfl, hown, hbel⟩ := hrel
    by_cases hdw : d < wide
    · obtain ⟨wo, rfl⟩ : ∃ wo : World, wo = wr := ⟨_, rfl⟩
      go_wp2_with fail
      go_loopw [9, 17] (fun v i wr => ∃ j : Nat, j ≤ size ∧ i = .int .i64 (j : Nat) ∧ Hid (wr.ownsRow w.heap.size 78 4 v (mirL first at_ size d ++ mirD first at_ d j).length (encC (mirL first at_ size d ++ mirD first at_ d j))) ∧ Hid (Below w.heap.size w wr)) (fun _ i _ => size - (intOf i).toNat)
      case atStart => exact ⟨0, by omega, rfl, Lib.hid (by have e : mirL first at_ size d ++ mirD first at_ d 0 = mirL first at_ size d := by simp [mirD]
                                                           rw [e]; exact hown.out), hbel⟩
      case round =>
        obtain ⟨j, hj, rfl, hownj, hbelj⟩ := hrel
        by_cases hjs : j < size
        · have hln : (mirL first at_ size d ++ mirD first at_ d j).length ≤ 100 := by
            rw [List.length_append, mirL_length, mirD_length]
            have : d * size ≤ 8 * 4 := Nat.mul_le_mul (by omega) h4
            omega
          obtain ⟨L, hL⟩ : ∃ L, L = mirL first at_ size d ++ mirD first at_ d j := ⟨_, rfl⟩
          have hL1 : mirL first at_ size d ++ mirD first at_ d (j + 1) = L ++ [(first + d, 16 + at_ + j, false, j)] := by rw [hL, mirD_step, List.append_assoc]
          rw [← hL] at hownj hln
          obtain ⟨ao1, cap1, rfl, _⟩ := RSl.of_owns hownj.out
          have HL1 := Lib.hid hL1
          have m1 : L.length + 1 ≤ maxLen := by unfold maxLen; omega
          have m2 : (L.length + 1) * 32 ≤ 140737488355328 := by omega
          have m3 : w.heap.size ≤ (wr.alloc (.cells (encC [(first + d, 16 + at_ + j, false, j)]).toArray 78)).heap.size := by have := hbelj.out.size; simp; omega
          have hnw := Blk.news (Blk.newAt (w := wr) 78 (encC [(first + d, 16 + at_ + j, false, j)]) rfl)
          have HNW := Lib.hid hnw
          clear hL hL1 hnw
          go_wp2_with (at_builtin; go_must (refine wpList_append_own _ rfl (.tmp 20) (.tmp 30) 73 rfl w.heap.size 78 i0 (.agg #[.int .i64 0, .int .i64 0, .bool false, .int .i64 0]) 4 32 Tryz.underlying73 hi hz0 hz1 hz2 rfl (Nat.succ_pos 3) (.slice ao1 L.length cap1) L.length (encC L) rfl (hownj.out.alloc _) ⟨wr.heap.size, 0, none⟩ 1 1 (encC [(first + d, 16 + at_ + j, false, j)]) rfl rfl HNW.out (encC_one _) m1 m2 m3 ?_; intro v1 w1 hown1 hgrow1 _))
          have HB1 := Lib.hid (below_own (base := w.heap.size) (hbelj.out.alloc hbelj.out.size (.cells (encC [(first + d, 16 + at_ + j, false, j)]).toArray 78)) (hownj.out.alloc _) hgrow1 m3 (Nat.le_refl _))
          have hown2 : w1.ownsRow w.heap.size 78 4 v1 (mirL first at_ size d ++ mirD first at_ d (j + 1)).length (encC (mirL first at_ size d ++ mirD first at_ d (j + 1))) := by
            rw [HL1.out, encC_append, List.length_append]
            exact hown1
          go_roundw
          case rel => exact ⟨j + 1, by omega, by go_num, Lib.hid hown2, HB1⟩
          case measure => simp [intOf]; omega
        · obtain rfl : size = j := by omega
          go_wp2_with fail
          go_roundw
          case rel => exact ⟨d + 1, by omega, by go_num, hownj, hbelj⟩
          case measure => simp [intOf]; omega
    · have hdd : d = wide := by omega
      subst hdd
      go_wp2_with fail
      go_ret
      exact ⟨_, rfl, hown.out, hbel.out⟩
def parS (first wide at_ : Nat) (out : List ColT) (row : Nat) (par : Bool) : List ColT := out ++ [(first + (at_ + out.length) % wide, 16 + (at_ + out.length) / wide, par, row)]
def parL (first wide at_ : Nat) : Nat → List ColT
 | 0 => []
 | i + 1 => parS first wide at_ (if i % (wide - 1) = 0 then parS first wide at_ (parL first wide at_ i) (i / (wide - 1)) true else parL first wide at_ i) (i / (wide - 1)) false
theorem parS_length (first wide at_ : Nat) (out : List ColT) (row : Nat) (par : Bool) : (parS first wide at_ out row par).length = out.length + 1 := by simp [parS]
theorem parL_length (first wide at_ : Nat) : ∀ i, (parL first wide at_ i).length ≤ 2 * i
 | 0 => by simp [parL]
 | i + 1 => by
  have := parL_length first wide at_ i
  simp only [parL, parS_length]
  split
  ·rw [parS_length]; omega
  ·omega
set_option maxRecDepth 100000 in
theorem parity1_any (first wide at_ row : Nat) (par : Bool) (base ga go_ gf gw : Nat) (out : List ColT) (v : Value) (w : World) (h1 : first ≤ 1000) (h2 : wide ≤ 8) (h20 : 1 ≤ wide) (h3 : at_ ≤ 100000) (_h4 : row ≤ 100) (hl : out.length ≤ 100)
  (ca : Blk w ga 3 [.int .i64 (at_ : Nat)]) (co : Blk w go_ 73 [v]) (cf : Blk w gf 3 [.int .i64 (first : Nat)]) (cw : Blk w gw 3 [.int .i64 (wide : Nat)]) (hown : w.ownsRow base 78 4 v out.length (encC out)) (hb : base ≤ go_) :
  Calls Tryz.prog 73 #[.int .i64 (row : Nat), .bool par, .pointer (some ⟨ga, 0, none⟩), .pointer (some ⟨go_, 0, none⟩), .pointer (some ⟨gf, 0, none⟩), .pointer (some ⟨gw, 0, none⟩)] w fun e w' => e = .returned (.tuple #[]) ∧
   ∃ v', Blk w' go_ 73 [v'] ∧ w'.ownsRow base 78 4 v' (parS first wide at_ out row par).length (encC (parS first wide at_ out row par)) ∧ Blk w' ga 3 [.int .i64 (at_ : Nat)] ∧ Blk w' gf 3 [.int .i64 (first : Nat)] ∧ Blk w' gw 3 [.int .i64 (wide : Nat)] ∧
    w.heap.size ≤ w'.heap.size ∧ (∀ B, B ≤ base → B ≤ w.heap.size → Below B w w') := by
 obtain ⟨i0, hi, hz0, hz1, hz2⟩ := info_parts infoC
 obtain ⟨ao1, cap1, rfl, _⟩ := RSl.of_owns hown
 obtain ⟨q, hq⟩ : ∃ q, q = (at_ + out.length) / wide := ⟨_, rfl⟩
 obtain ⟨r, hr⟩ : ∃ r, r = (at_ + out.length) % wide := ⟨_, rfl⟩
 have HS := Lib.hid (show parS first wide at_ out row par = out ++ [(first + r, 16 + q, par, row)] by rw [hq, hr]; rfl)
 have hr8 : r < 8 := by rw [hr]; exact Nat.lt_of_lt_of_le (Nat.mod_lt _ (by omega)) h2
 have hq8 : q ≤ 200000 := by rw [hq]; exact Nat.le_trans (Nat.div_le_self _ _) (by omega)
 have c0 := ca.cell 0
 have c1 := co.cell 0
 have c2 := cf.cell 0
 have c3 := cw.cell 0
 have hlt := co.lt
 have hne : ∀ g x, Blk w g 3 [x] → g ≠ go_ := fun g x h e => by
  subst e
  unfold Blk at h co
  rw [h] at co
  simp only [Option.some.injEq, Obj.cells.injEq] at co
  exact absurd co.2.1 (by decide)
 have HNA := Lib.hid (hne _ _ ca)
 have HNF := Lib.hid (hne _ _ cf)
 have HNW2 := Lib.hid (hne _ _ cw)
 have CA := Lib.hid ca
 have CO := Lib.hid co
 have CF := Lib.hid cf
 have CW := Lib.hid cw
 have HOWN := Lib.hid hown
 have HNW := Lib.hid (Blk.news (Blk.newAt (w := w) 78 (encC [(first + r, 16 + q, par, row)]) rfl))
 have m1 : out.length + 1 ≤ maxLen := by unfold maxLen; omega
 have m2 : (out.length + 1) * 32 ≤ 140737488355328 := by omega
 have HBA : Hid (base ≤ (w.alloc (.cells (encC [(first + r, 16 + q, par, row)]).toArray 78)).heap.size) := Lib.hid (by simp; omega)
 have x1 : wide ≠ 0 := by omega
 have x3 : IntKind.i64.wrap ((at_ : Int) + (out.length : Int)) = (at_ : Int) + (out.length : Int) := IntWalk.i64_in _ (by omega)
 have x4 : ((at_ : Int) + (out.length : Int)).tmod (wide : Int) = (r : Int) := by
  rw [hr, show (at_ : Int) + (out.length : Int) = ((at_ + out.length : Nat) : Int) by omega, Int.tmod_eq_emod_of_nonneg (by omega)]
  rfl
 have x5 : ((at_ : Int) + (out.length : Int)).tdiv (wide : Int) = (q : Int) := by
  rw [hq, show (at_ : Int) + (out.length : Int) = ((at_ + out.length : Nat) : Int) by omega, Int.tdiv_eq_ediv_of_nonneg (by omega)]
  rfl
 have x6 : IntKind.i64.wrap ((first : Int) + (r : Int)) = (first : Int) + (r : Int) := IntWalk.i64_in _ (by omega)
 have x7 : IntKind.i64.wrap (16 + (q : Int)) = 16 + (q : Int) := IntWalk.i64_in _ (by omega)
 have x8 : IntKind.i64.wrap (q : Int) = (q : Int) := IntWalk.i64_in _ (by omega)
 have x9 : IntKind.i64.wrap (r : Int) = (r : Int) := IntWalk.i64_in _ (by omega)
 clear hq hr
 clear ca co cf cw hown hne
 go_enter Tryz.func73, Tryz.ntmps73
 go_wp2_with fail
 refine wp_region_held_drew (S := (fun w' => w'.cell? ⟨ga, 0, none⟩ = some (.int .i64 (at_ : Nat)) ∧ w'.cell? ⟨gf, 0, none⟩ = some (.int .i64 (first : Nat)) ∧ w'.cell? ⟨gw, 0, none⟩ = some (.int .i64 (wide : Nat)))) (by kernel_rfl) (by go_keep) (fun hS0 => ?_)
 refine rtd 1 ?_; refine rtd 2 ?_; refine rtd 3 ?_; refine rtd 4 ?_; refine rtd 5 ?_; refine rtd 6 ?_; refine rtd 7 ?_; refine rtd 8 ?_; refine rtd 9 ?_; refine rtd 10 ?_; refine rtd 11 ?_; refine rtd 12 ?_
 refine wpAnyH_ready (rs := [0, 13]) (by kernel_rfl) (by simp) ?_
 refine AllReadyH.cons rfl (fun K hK => ?_) (AllReadyH.cons rfl (fun K hK => ?_) AllReadyH.nil)
 ·go_simp
  refine hK.out _ _ ⟨CA.out.cell 0, CF.out.cell 0, CW.out.cell 0⟩ (fun _ => ?_)
  try simp only [Act.put, z1, z2, z3]
  clear hK
  clear K
  refine wpAnyH_ready (rs := [13]) (by kernel_rfl) (by simp) ?_
  refine AllReadyH.cons rfl (fun K hK => ?_) AllReadyH.nil
  go_simp
  refine hK.out _ _ ⟨(CA.out.alloc _).cell 0, (CF.out.alloc _).cell 0, (CW.out.alloc _).cell 0⟩ (fun _ => ?_)
  try simp only [Act.put, z1, z2, z3]
  clear hK
  clear K
  refine wpAnyH_ready (rs := [14]) (by kernel_rfl) (by simp) ?_
  refine AllReadyH.cons rfl (fun K hK => ?_) AllReadyH.nil
  refine step_append_lies _ (by rfl) _ _ _ (by rfl) base 78 i0 (.agg #[.int .i64 0, .int .i64 0, .bool false, .int .i64 0]) 4 32 Tryz.underlying73 hi hz0 hz1 hz2 rfl (Nat.succ_pos 3) (.slice ao1 out.length cap1) out.length (encC out) (by rfl) (HOWN.out.alloc _) ⟨w.heap.size, 0, none⟩ 1 1 (encC [(first + r, 16 + q, par, row)]) (by rfl) rfl HNW.out (encC_one _) (by omega) m1 m2 (HBA.out) (w.heap.size + 1) (by simp) ?_
  intro gg gcap w5 hown5 hgrow4 hat hlt5
  have hgrow5 : (w.alloc (.cells (encC [(first + r, 16 + q, par, row)]).toArray 78)).grownBy w5 (Value.slice ao1 out.length cap1).ownBlock := grown_trans (grown_drew _ _) hgrow4
  have CA5 := Lib.hid ((CA.out.alloc (.cells (encC [(first + r, 16 + q, par, row)]).toArray 78)).ownKept (HOWN.out.alloc _) (by decide) hgrow5)
  have CF5 := Lib.hid ((CF.out.alloc (.cells (encC [(first + r, 16 + q, par, row)]).toArray 78)).ownKept (HOWN.out.alloc _) (by decide) hgrow5)
  have CW5 := Lib.hid ((CW.out.alloc (.cells (encC [(first + r, 16 + q, par, row)]).toArray 78)).ownKept (HOWN.out.alloc _) (by decide) hgrow5)
  have CO5 := Lib.hid ((CO.out.alloc (.cells (encC [(first + r, 16 + q, par, row)]).toArray 78)).ownKept (HOWN.out.alloc _) (by decide) hgrow5)
  have o5 := CO5.out.cell 0
  have f5 := CO5.out.frozen 0
  refine hK.out _ _ ⟨CA5.out.cell 0, CF5.out.cell 0, CW5.out.cell 0⟩ (fun _ => ?_)
  try simp only [Act.put, z1, z2, z3]
  clear hK
  clear K
  refine wpAnyH_ready (rs := [15]) (by kernel_rfl) (by simp) ?_
  refine AllReadyH.cons rfl (fun K hK => ?_) AllReadyH.nil
  go_simp
  refine hK.out _ _ ⟨(CA5.out.other (a := ⟨go_, 0, none⟩) HNA.out _).cell 0, (CF5.out.other (a := ⟨go_, 0, none⟩) HNF.out _).cell 0, (CW5.out.other (a := ⟨go_, 0, none⟩) HNW2.out _).cell 0⟩ (fun _ => ?_)
  try simp only [Act.put, z1, z2, z3]
  refine wpAnyH_done (by kernel_rfl) ?_ _
  go_wp2_with fail
  go_end0
  rw [HS.out, List.length_append, encC_append]
  exact ⟨rfl, _, CO5.out.setCell 0 _, owns_setOther hown5 CO5.out (by decide), CA5.out.other (a := ⟨go_, 0, none⟩) HNA.out _, CF5.out.other (a := ⟨go_, 0, none⟩) HNF.out _, CW5.out.other (a := ⟨go_, 0, none⟩) HNW2.out _, by have := hgrow5.size; simp [World.setCell] at this ⊢; omega, fun B hB hBw => (below_own (base := base) ((Below.refl _ _).alloc hBw _) (HOWN.out.alloc _) hgrow5 (by simp; omega) hB).setCell (p := ⟨go_, 0, none⟩) (Nat.le_trans hB hb) _⟩
 ·go_simp
  refine hK.out _ _ ⟨(CA.out.alloc _).cell 0, (CF.out.alloc _).cell 0, (CW.out.alloc _).cell 0⟩ (fun _ => ?_)
  try simp only [Act.put, z1, z2, z3]
  clear hK
  clear K
  refine wpAnyH_ready (rs := [0]) (by kernel_rfl) (by simp) ?_
  refine AllReadyH.cons rfl (fun K hK => ?_) AllReadyH.nil
  go_simp
  refine hK.out _ _ ⟨(CA.out.alloc _).cell 0, (CF.out.alloc _).cell 0, (CW.out.alloc _).cell 0⟩ (fun _ => ?_)
  try simp only [Act.put, z1, z2, z3]
  clear hK
  clear K
  refine wpAnyH_ready (rs := [14]) (by kernel_rfl) (by simp) ?_
  refine AllReadyH.cons rfl (fun K hK => ?_) AllReadyH.nil
  refine step_append_lies _ (by rfl) _ _ _ (by rfl) base 78 i0 (.agg #[.int .i64 0, .int .i64 0, .bool false, .int .i64 0]) 4 32 Tryz.underlying73 hi hz0 hz1 hz2 rfl (Nat.succ_pos 3) (.slice ao1 out.length cap1) out.length (encC out) (by rfl) (HOWN.out.alloc _) ⟨w.heap.size, 0, none⟩ 1 1 (encC [(first + r, 16 + q, par, row)]) (by rfl) rfl HNW.out (encC_one _) (by omega) m1 m2 (HBA.out) (w.heap.size + 1) (by simp) ?_
  intro gg gcap w5 hown5 hgrow4 hat hlt5
  have hgrow5 : (w.alloc (.cells (encC [(first + r, 16 + q, par, row)]).toArray 78)).grownBy w5 (Value.slice ao1 out.length cap1).ownBlock := grown_trans (grown_drew _ _) hgrow4
  have CA5 := Lib.hid ((CA.out.alloc (.cells (encC [(first + r, 16 + q, par, row)]).toArray 78)).ownKept (HOWN.out.alloc _) (by decide) hgrow5)
  have CF5 := Lib.hid ((CF.out.alloc (.cells (encC [(first + r, 16 + q, par, row)]).toArray 78)).ownKept (HOWN.out.alloc _) (by decide) hgrow5)
  have CW5 := Lib.hid ((CW.out.alloc (.cells (encC [(first + r, 16 + q, par, row)]).toArray 78)).ownKept (HOWN.out.alloc _) (by decide) hgrow5)
  have CO5 := Lib.hid ((CO.out.alloc (.cells (encC [(first + r, 16 + q, par, row)]).toArray 78)).ownKept (HOWN.out.alloc _) (by decide) hgrow5)
  have o5 := CO5.out.cell 0
  have f5 := CO5.out.frozen 0
  refine hK.out _ _ ⟨CA5.out.cell 0, CF5.out.cell 0, CW5.out.cell 0⟩ (fun _ => ?_)
  try simp only [Act.put, z1, z2, z3]
  clear hK
  clear K
  refine wpAnyH_ready (rs := [15]) (by kernel_rfl) (by simp) ?_
  refine AllReadyH.cons rfl (fun K hK => ?_) AllReadyH.nil
  go_simp
  refine hK.out _ _ ⟨(CA5.out.other (a := ⟨go_, 0, none⟩) HNA.out _).cell 0, (CF5.out.other (a := ⟨go_, 0, none⟩) HNF.out _).cell 0, (CW5.out.other (a := ⟨go_, 0, none⟩) HNW2.out _).cell 0⟩ (fun _ => ?_)
  try simp only [Act.put, z1, z2, z3]
  refine wpAnyH_done (by kernel_rfl) ?_ _
  go_wp2_with fail
  go_end0
  rw [HS.out, List.length_append, encC_append]
  exact ⟨rfl, _, CO5.out.setCell 0 _, owns_setOther hown5 CO5.out (by decide), CA5.out.other (a := ⟨go_, 0, none⟩) HNA.out _, CF5.out.other (a := ⟨go_, 0, none⟩) HNF.out _, CW5.out.other (a := ⟨go_, 0, none⟩) HNW2.out _, by have := hgrow5.size; simp [World.setCell] at this ⊢; omega, fun B hB hBw => (below_own (base := base) ((Below.refl _ _).alloc hBw _) (HOWN.out.alloc _) hgrow5 (by simp; omega) hB).setCell (p := ⟨go_, 0, none⟩) (Nat.le_trans hB hb) _⟩
theorem callFunc_parity1 (args : Array Value) (W : World) : (callFunc 73 args).run Tryz.prog W = .ok (.enter 73 args) W := by kernel_rfl
set_option maxRecDepth 100000 in
theorem parity_any (first wide at_ size : Nat) (w : World) (h1 : first ≤ 1000) (h20 : 3 ≤ wide) (h2 : wide ≤ 8) (h3 : at_ ≤ 100000) (h4 : size ≤ 4) :
  Calls Tryz.prog 48 #[.int .i64 (first : Nat), .int .i64 (wide : Nat), .int .i64 (at_ : Nat), .int .i64 (size : Nat)] w fun e w' => ∃ v, e = .returned v ∧ w'.ownsRow w.heap.size 78 4 v (parL first wide at_ size).length (encC (parL first wide at_ size)) ∧ Below w.heap.size w w' := by
 have hcf := callFunc_parity1
 obtain ⟨w0, hw0⟩ : ∃ w0, w0 = (((w.alloc (.cells #[.int .i64 (first : Nat)] 3)).alloc (.cells #[.int .i64 (wide : Nat)] 3)).alloc (.cells #[.int .i64 (at_ : Nat)] 3)).alloc (.cells #[.slice none 0 0] 73) := ⟨_, rfl⟩
 have hb0 : Below w.heap.size w w0 := by rw [hw0]; exact ((((Below.refl _ _).alloc (Nat.le_refl _) _).alloc (by simp) _).alloc (by simp; omega) _).alloc (by simp; omega) _
 have hF : Blk w0 w.heap.size 3 [.int .i64 (first : Nat)] := by rw [hw0]; exact (((Blk.new w 3 [.int .i64 (first : Nat)]).alloc _).alloc _).alloc _
 have hW : Blk w0 (w.heap.size + 1) 3 [.int .i64 (wide : Nat)] := by rw [hw0]; exact ((Blk.newAt 3 [.int .i64 (wide : Nat)] (by simp)).alloc _).alloc _
 have hA : Blk w0 (w.heap.size + 1 + 1) 3 [.int .i64 (at_ : Nat)] := by rw [hw0]; exact (Blk.newAt 3 [.int .i64 (at_ : Nat)] (by simp)).alloc _
 have hO : Blk w0 (w.heap.size + 1 + 1 + 1) 73 [.slice none 0 0] := by rw [hw0]; exact Blk.newAt 73 [.slice none 0 0] (by simp)
 have HB0 := Lib.hid hb0
 have HF := Lib.hid hF
 have HW := Lib.hid hW
 have HA := Lib.hid hA
 have HO := Lib.hid hO
 clear hb0 hF hW hA hO
 go_enter Tryz.func48, Tryz.ntmps48
 go_wp2_with fail
 rw [← hw0]
 clear hw0
 go_loopw [15] (fun i wr => ∃ (k : Nat) (v : Value), k ≤ size ∧ i = .int .i64 (k : Nat) ∧ Hid (Blk wr w.heap.size 3 [.int .i64 (first : Nat)]) ∧ Hid (Blk wr (w.heap.size + 1) 3 [.int .i64 (wide : Nat)]) ∧ Hid (Blk wr (w.heap.size + 1 + 1) 3 [.int .i64 (at_ : Nat)]) ∧ Hid (Blk wr (w.heap.size + 1 + 1 + 1) 73 [v]) ∧
  Hid (wr.ownsRow w.heap.size 78 4 v (parL first wide at_ k).length (encC (parL first wide at_ k))) ∧ Hid (Below w.heap.size w wr)) (fun i _ => size - (intOf i).toNat)
 case atStart => exact ⟨0, _, by omega, rfl, HF, HW, HA, HO, Lib.hid (World.ownsRow_nil _ _ _ _), HB0⟩
 case round =>
  obtain ⟨k, v, hk, rfl, bf, bw, ba, bo, hown, hbel⟩ := hrel
  clear HF HW HA HO HB0
  by_cases hks : k < size
  ·have hln := parL_length first wide at_ k
   obtain ⟨row, hrow⟩ : ∃ r, r = k / (wide - 1) := ⟨_, rfl⟩
   have hrl : row ≤ 100 := by rw [hrow]; exact Nat.le_trans (Nat.div_le_self _ _) (by omega)
   have ediv : (k : Int) / ((wide : Int) - 1) = (row : Int) := by rw [hrow, show (wide : Int) - 1 = ((wide - 1 : Nat) : Int) by omega]; rfl
   have x1 : (3 : Int) ≤ (wide : Int) := by omega
   have x2 : (wide : Int) ≤ 8 := by omega
   have d3 : wr.cell? ⟨w.heap.size + 1, 0, none⟩ = some (.int .i64 (wide : Nat)) := bw.out.cell 0
   have hP2 : ∀ W out v, Blk W w.heap.size 3 [.int .i64 (first : Nat)] → Blk W (w.heap.size + 1) 3 [.int .i64 (wide : Nat)] → Blk W (w.heap.size + 1 + 1) 3 [.int .i64 (at_ : Nat)] → Blk W (w.heap.size + 1 + 1 + 1) 73 [v] → W.ownsRow w.heap.size 78 4 v out.length (encC out) → out.length ≤ 100 → ∀ par, _ :=
    fun W out v a1 a2 a3 a4 a5 a6 par => parity1_any first wide at_ row par w.heap.size (w.heap.size + 1 + 1) (w.heap.size + 1 + 1 + 1) w.heap.size (w.heap.size + 1) out v W h1 h2 (by omega) h3 hrl a6 a3 a4 a1 a2 a5 (by omega)
   have HP2 := Lib.hid hP2
   have hws : w.heap.size ≤ wr.heap.size := hbel.out.size
   clear hP2
   by_cases hz : k % (wide - 1) = 0
   ·have emod : ((k : Int) % ((wide : Int) - 1) == 0) = true := by
     rw [show (wide : Int) - 1 = ((wide - 1 : Nat) : Int) by omega, show (k : Int) % ((wide - 1 : Nat) : Int) = ((k % (wide - 1) : Nat) : Int) from rfl, hz]; rfl
    have HST := Lib.hid (show parL first wide at_ (k + 1) = parS first wide at_ (parS first wide at_ (parL first wide at_ k) row true) row false by rw [parL, if_pos hz, ← hrow])
    have hl2 : (parS first wide at_ (parL first wide at_ k) row true).length ≤ 100 := by rw [parS_length]; omega
    clear hrow hz
    go_wp2_with fail
    refine (HP2.out _ _ _ bf.out bw.out ba.out bo.out hown.out (by omega) true).mono ?_
    rintro e w1 ⟨rfl, v1, bo1, hown1, ba1, bf1, bw1, hs1, hB1⟩
    have BO := Lib.hid bo1
    have BA := Lib.hid ba1
    have BF := Lib.hid bf1
    have BW := Lib.hid bw1
    have HO1 := Lib.hid hown1
    have HB1 := Lib.hid (hbel.out.trans (hB1 _ (Nat.le_refl _) hws))
    clear bo1 ba1 bf1 bw1 hown1 hB1
    go_wp2_with fail
    refine (HP2.out _ _ _ BF.out BW.out BA.out BO.out HO1.out hl2 false).mono ?_
    rintro e w2 ⟨rfl, v2, bo2, hown2, ba2, bf2, bw2, hs2, hB2⟩
    have HB2 := Lib.hid (HB1.out.trans (hB2 _ (Nat.le_refl _) (by omega)))
    have HO2 := Lib.hid hown2
    have BO2 := Lib.hid bo2
    have BA2 := Lib.hid ba2
    have BF2 := Lib.hid bf2
    have BW2 := Lib.hid bw2
    clear bo2 ba2 bf2 bw2 hown2 hB2
    go_wp2_with fail
    go_roundw
    case rel => exact ⟨k + 1, v2, by omega, by go_num, BF2, BW2, BA2, BO2, Lib.hid (by rw [HST.out]; exact HO2.out), HB2⟩
    case measure => simp [intOf]; omega
   ·have emod : ((k : Int) % ((wide : Int) - 1) == 0) = false := by
     rw [show (wide : Int) - 1 = ((wide - 1 : Nat) : Int) by omega, show (k : Int) % ((wide - 1 : Nat) : Int) = ((k % (wide - 1) : Nat) : Int) from rfl]; simp; omega
    have HST := Lib.hid (show parL first wide at_ (k + 1) = parS first wide at_ (parL first wide at_ k) row false by rw [parL, if_neg hz, ← hrow])
    clear hrow hz
    go_wp2_with fail
    refine (HP2.out _ _ _ bf.out bw.out ba.out bo.out hown.out (by omega) false).mono ?_
    rintro e w2 ⟨rfl, v2, bo2, hown2, ba2, bf2, bw2, hs2, hB2⟩
    have HB2 := Lib.hid (hbel.out.trans (hB2 _ (Nat.le_refl _) hws))
    have HO2 := Lib.hid hown2
    have BO2 := Lib.hid bo2
    have BA2 := Lib.hid ba2
    have BF2 := Lib.hid bf2
    have BW2 := Lib.hid bw2
    clear bo2 ba2 bf2 bw2 hown2 hB2
    go_wp2_with fail
    go_roundw
    case rel => exact ⟨k + 1, v2, by omega, by go_num, BF2, BW2, BA2, BO2, Lib.hid (by rw [HST.out]; exact HO2.out), HB2⟩
    case measure => simp [intOf]; omega
  ·obtain rfl : size = k := by omega
   have d9 : wr.cell? ⟨w.heap.size + 1 + 1 + 1, 0, none⟩ = some v := bo.out.cell 0
   go_wp2_with fail
   go_ret
   exact ⟨_, rfl, hown.out, hbel.out⟩
end Go.Proofs.YtfaemcfjbbbbdaaGreat
