/- The walk of space's Free. -/
import Derived.Test.YtmnhdpojonlfhaaSpT2
import Derived.Test.YtmnhdpojonlfhaaSpD
namespace Go.Proofs.Ytmnhdpojonlfhaa
open Go.RowKit
attribute [local go_sem ↓] Go.wp_at_zero Go.wp_at_succ

theorem free_nil (a n : Int) (w : World) :
    Calls Try.prog 33 #[.pointer none, .int .i64 a, .int .i64 n] w fun e w' => e = .returned (.int .i64 1) ∧ w = w' := by
  go_enter Try.func33, Try.ntmps33
  go_wp2_with fail
  refine (may_nil a n w).mono ?_
  rintro e w1 ⟨rfl, rfl⟩
  go_wp2_with fail
  go_ret
  exact ⟨rfl, rfl⟩

set_option maxRecDepth 100000 in
theorem free_arg (mb size : Nat) (rs : List (Nat × Nat)) (a n : Int) (w : World) (h : IsMap w mb size rs) (hno : ¬ May size a n) :
    Calls Try.prog 33 #[.pointer (some ⟨mb, 0, none⟩), .int .i64 a, .int .i64 n] w fun e w' => e = .returned (.int .i64 1) ∧ w = w' := by
  obtain ⟨h1, h2, h3, h4, v, hb, ho⟩ := h
  have H := Lib.hid (may_no mb size a n w (hb.cell 0) h1 hno)
  clear hno hb ho
  go_enter Try.func33, Try.ntmps33
  go_wp2_with fail
  refine H.out.mono ?_
  rintro e w1 ⟨rfl, rfl⟩
  go_wp2_with fail
  go_ret
  exact ⟨rfl, rfl⟩

theorem free1_any (x y : Nat) (w : World) :
    Calls Try.prog 77 #[.agg #[.int .i64 x, .int .i64 y]] w fun e w' => e = .returned (.bool ((y : Int) == 0)) ∧ Below w.heap.size w w' := by
  go_enter Try.func77, Try.ntmps77
  go_wp2
  go_ret
  exact ⟨rfl, (Below.refl _ _).alloc (Nat.le_refl _) _⟩
theorem callFunc_free1 (args : Array Value) (W : World) : (callFunc 77 args).run Try.prog W = .ok (.enter 77 args) W := by kernel_rfl

set_option maxHeartbeats 1600000 in
set_option maxRecDepth 100000 in
/-- no run is touched, or not all of the stretch lies in one -/
theorem free_none (mb size g cap : Nat) (rs : List (Nat × Nat)) (a n : Nat) (ao : Option Addr) (w : World) (h1 : size ≤ 65536) (h3 : Good size rs) (h4 : rs.length ≤ 65536)
    (hb : Blk w mb 120 [.int .i64 size, .slice ao rs.length cap]) (ho : w.ownsRow 0 44 2 (.slice ao rs.length cap) rs.length (encR rs)) (hg : 0 < rs.length → ao = some ⟨g, 0, none⟩)
    (hmay : May size a n) (hno : ¬ (firstOf rs a < rs.length ∧ (rs.getD (firstOf rs a) (0, 0)).1 ≤ a ∧ a + n ≤ (rs.getD (firstOf rs a) (0, 0)).1 + (rs.getD (firstOf rs a) (0, 0)).2)) :
    Calls Try.prog 33 #[.pointer (some ⟨mb, 0, none⟩), .int .i64 a, .int .i64 n] w fun e w' => e = .returned (.int .i64 7) ∧ Below w.heap.size w w' := by
  have H := Lib.hid (may_yes mb size a n w (hb.cell 0) h1 hmay)
  obtain ⟨hm1, hm2, hm3, hm4⟩ := hmay
  have HF := Lib.hid (first_any mb a _ cap rs size w (hb.cell 1) (rsl_of_owns ho) h1 h3 h4)
  have hile := firstOf_le rs a
  obtain ⟨i, hii⟩ : ∃ i, i = firstOf rs a := ⟨_, rfl⟩
  rw [← hii] at HF hile hno
  have HB := Lib.hid hb
  have HO := Lib.hid ho
  have HN := Lib.hid hno
  have HG := Lib.hid hg
  clear hb ho hii hno hg
  by_cases hil : i < rs.length
  · obtain rfl := HG.out (by omega)
    obtain ⟨q, hq⟩ : ∃ q, q = rs.getD i (0, 0) := ⟨_, rfl⟩
    have hcl0 := (encR_get rs i hil).1
    have hcl1 := (encR_get rs i hil).2
    have hn := HN.out
    have hqm := h3.1 (rs.getD i (0, 0)) (by rw [List.getD_eq_getElem?_getD, List.getElem?_eq_getElem hil]; exact List.getElem_mem _)
    rw [← hq] at hcl0 hcl1 hn hqm
    obtain ⟨q1, q2⟩ := q
    dsimp only at hcl0 hcl1 hn hqm
    have C0 := Lib.hid hcl0
    have C1 := Lib.hid hcl1
    have he : ((i : Int) == (rs.length : Int)) = false := by simp; omega
    clear hcl0 hcl1 hq HG
    by_cases hqa : q1 ≤ a
    · have hd1 : decide ((a : Int) < (q1 : Int)) = false := by simp; omega
      have hd2 : decide ((q1 : Int) + (q2 : Int) < (a : Int) + (n : Int)) = true := by
        simp only [decide_eq_true_eq]
        have := fun h => hn ⟨hil, hqa, h⟩
        omega
      have hw1 : IntKind.i64.wrap ((a : Int) + (n : Int)) = (a : Int) + (n : Int) := IntWalk.i64_in _ (by omega)
      have hw2 : IntKind.i64.wrap ((q1 : Int) + (q2 : Int)) = (q1 : Int) + (q2 : Int) := IntWalk.i64_in _ (by omega)
      clear hn
      go_enter Try.func33, Try.ntmps33
      go_wp2_with fail
      refine H.out.mono ?_
      rintro e w1 ⟨rfl, rfl⟩
      go_wp2_with fail
      refine HF.out.mono ?_
      rintro e w1 ⟨rfl, hb1⟩
      have hcm : w1.cell? ⟨mb, 1, none⟩ = some (.slice (some ⟨g, 0, none⟩) rs.length cap) := (HB.out.below hb1).cell 1
      have hcg0 : w1.cell? ⟨g, i * 2, none⟩ = some (.int .i64 q1) := by rw [(owns_below HO.out hb1).cellAt _ (by omega)]; exact C0.out
      have hcg1 : w1.cell? ⟨g, i * 2 + 1, none⟩ = some (.int .i64 q2) := by rw [(owns_below HO.out hb1).cellAt _ (by omega)]; exact C1.out
      go_wp2_with fail
      go_quiet (fail)
      go_wp2_with fail
      go_ret
      exact ⟨rfl, below_drewN' hb1 _⟩
    · have hd1 : decide ((a : Int) < (q1 : Int)) = true := by simp; omega
      clear hn
      go_enter Try.func33, Try.ntmps33
      go_wp2_with fail
      refine H.out.mono ?_
      rintro e w1 ⟨rfl, rfl⟩
      go_wp2_with fail
      refine HF.out.mono ?_
      rintro e w1 ⟨rfl, hb1⟩
      have hcm : w1.cell? ⟨mb, 1, none⟩ = some (.slice (some ⟨g, 0, none⟩) rs.length cap) := (HB.out.below hb1).cell 1
      have hcg0 : w1.cell? ⟨g, i * 2, none⟩ = some (.int .i64 q1) := by rw [(owns_below HO.out hb1).cellAt _ (by omega)]; exact C0.out
      have hcg1 : w1.cell? ⟨g, i * 2 + 1, none⟩ = some (.int .i64 q2) := by rw [(owns_below HO.out hb1).cellAt _ (by omega)]; exact C1.out
      go_wp2_with fail
      go_quiet (fail)
      go_wp2_with fail
      go_ret
      exact ⟨rfl, below_drewN' hb1 _⟩
  · have hil' : i = rs.length := by omega
    clear hil HN HG
    subst hil'
    go_enter Try.func33, Try.ntmps33
    go_wp2_with fail
    refine H.out.mono ?_
    rintro e w1 ⟨rfl, rfl⟩
    go_wp2_with fail
    refine HF.out.mono ?_
    rintro e w1 ⟨rfl, hb1⟩
    have hcm : w1.cell? ⟨mb, 1, none⟩ = some (.slice ao rs.length cap) := (HB.out.below hb1).cell 1
    go_wp2_with fail
    go_quiet (fail)
    go_wp2_with fail
    go_ret
    exact ⟨rfl, below_drewN' hb1 _⟩

/-- Concat of three slices that are laid as they are written. -/
theorem concat3 (a1 a2 a3 : Option Addr) (n1 n2 n3 c1 c2 c3 : Nat) (l1 l2 l3 : List (Nat × Nat)) (w1 : World)
    (h1 : RSl w1 2 a1 n1 c1 (encR l1)) (h2 : RSl w1 2 a2 n2 c2 (encR l2)) (h3 : RSl w1 2 a3 n3 c3 (encR l3)) (hl : n1 + n2 + n3 ≤ 1000000) :
    Calls Try.prog 74 #[.slice (some ⟨w1.heap.size, 0, none⟩) 3 3]
      (w1.alloc (.cells #[.slice a1 n1 c1, .slice a2 n2 c2, .slice a3 n3 c3] 41)).drew
      fun e w' => ∃ v, e = .returned v ∧ w'.ownsRow 0 44 2 v (n1 + n2 + n3) (encR (l1 ++ l2 ++ l3)) ∧ Below w1.heap.size w1 w' := by
  obtain ⟨W, hW⟩ : ∃ W, W = (w1.alloc (.cells #[.slice a1 n1 c1, .slice a2 n2 c2, .slice a3 n3 c3] 41)).drew := ⟨_, rfl⟩
  have hbel : Below w1.heap.size w1 W := by rw [hW]; exact (((Below.refl _ _).alloc (Nat.le_refl _) _).drew)
  have hargs : RSl W 1 (some ⟨w1.heap.size, 0, none⟩) 3 3 (encP [(a1, n1, c1, encR l1), (a2, n2, c2, encR l2), (a3, n3, c3, encR l3)]) := by
    rw [hW]
    exact (Blk.newAt (w := w1) 41 _ rfl).drew.rsl rfl (by unfold maxLen; omega)
  rw [← hW]
  refine (concatR_any _ 3 3 _ W hargs (by omega) (by simp [sumN]; omega) ?_).mono ?_
  · intro p hp
    simp only [List.mem_cons, List.not_mem_nil, or_false] at hp
    rcases hp with rfl | rfl | rfl
    · exact ⟨h1.below hbel, encR_one _⟩
    · exact ⟨h2.below hbel, encR_one _⟩
    · exact ⟨h3.below hbel, encR_one _⟩
  · rintro e w' ⟨v, rfl, hown, hb'⟩
    have e1 : sumN [(a1, n1, c1, encR l1), (a2, n2, c2, encR l2), (a3, n3, c3, encR l3)] = n1 + n2 + n3 := by simp [sumN]; omega
    have e2 : catC [(a1, n1, c1, encR l1), (a2, n2, c2, encR l2), (a3, n3, c3, encR l3)] = encR (l1 ++ l2 ++ l3) := by
      rw [encR_append, encR_append]; simp [catC]
    rw [e1, e2] at hown
    exact ⟨v, rfl, owns_weaken hown (Nat.zero_le _), hbel.trans (hb'.mono hbel.size)⟩

theorem keepK_encR (rs : List (Nat × Nat)) (q : Nat × Nat → Bool) : ∀ n, n ≤ rs.length → keepK 2 (encR rs) (fun j => q (rs.getD j (0, 0))) n = encR ((rs.take n).filter fun r => !q r) ∧ cntK (fun j => q (rs.getD j (0, 0))) n = ((rs.take n).filter fun r => !q r).length := by
  intro n
  induction n with
  | zero => intro _; exact ⟨rfl, rfl⟩
  | succ n ih =>
    intro hn
    obtain ⟨h1, h2⟩ := ih (by omega)
    have hlt : n < rs.length := by omega
    have e : rs.getD n (0, 0) = rs[n] := by rw [List.getD_eq_getElem?_getD, List.getElem?_eq_getElem hlt]; rfl
    have eg := encR_get rs n hlt
    rw [List.take_succ_eq_append_getElem hlt, List.filter_append, encR_append, List.length_append]
    cases hq : q rs[n] with
    | true => rw [keepK_yes (by rw [e]; exact hq), cntK_yes (by rw [e]; exact hq), h1, h2]; simp [hq, encR]
    | false =>
      rw [keepK_no (by rw [e]; exact hq), cntK_no (by rw [e]; exact hq), h1, h2, elem_rowR _ _ (by rw [encR_length]; omega)]
      rw [List.getD_eq_getElem?_getD, List.getD_eq_getElem?_getD, eg.1, eg.2, e]
      simp [hq, encR]

/-- what is left of a run, where Free has it -/
theorem free_parts (q1 q2 a n : Nat) (wc : World) (h1 : q1 ≤ a) (h2 : a + n ≤ q1 + q2) :
    Calls Try.prog 76 #[.slice (some ⟨wc.heap.size + 1, 0, none⟩) 2 2, .func (.func 77) #[] #[]]
      ((wc.alloc (.cells #[.int .i64 q1, .int .i64 q2] 44)).alloc (.cells #[.int .i64 q1, .int .i64 ((a : Int) - (q1 : Int)), .int .i64 ((a : Int) + (n : Int)), .int .i64 ((q1 : Int) + (q2 : Int) - (a : Int) - (n : Int))] 44))
      fun e w' => ∃ c, e = .returned (.slice (some ⟨wc.heap.size + 1, 0, none⟩) c 2) ∧ RSl w' 2 (some ⟨wc.heap.size + 1, 0, none⟩) c 2 (encR (partsOf (q1, q2) a n)) ∧ c = (partsOf (q1, q2) a n).length ∧ Below wc.heap.size wc w' := by
  obtain ⟨rs, hrs⟩ : ∃ rs, rs = [(q1, a - q1), (a + n, q1 + q2 - a - n)] := ⟨_, rfl⟩
  have e1 : (a : Int) - (q1 : Int) = ((a - q1 : Nat) : Int) := by omega
  have e2 : (a : Int) + (n : Int) = ((a + n : Nat) : Int) := by omega
  have e3 : (q1 : Int) + (q2 : Int) - (a : Int) - (n : Int) = ((q1 + q2 - a - n : Nat) : Int) := by omega
  rw [e1, e2, e3]
  have ec : (#[.int .i64 q1, .int .i64 ((a - q1 : Nat) : Int), .int .i64 ((a + n : Nat) : Int), .int .i64 ((q1 + q2 - a - n : Nat) : Int)] : Array Value) = (encR rs).toArray := by rw [hrs]; rfl
  rw [ec]
  obtain ⟨W, hW⟩ : ∃ W, W = (wc.alloc (.cells #[.int .i64 q1, .int .i64 q2] 44)).alloc (.cells (encR rs).toArray 44) := ⟨_, rfl⟩
  have hblk : Blk W (wc.heap.size + 1) 44 (encR rs) := by rw [hW]; exact Blk.newAt _ _ (by simp)
  have hbel : Below wc.heap.size wc W := by rw [hW]; exact ((Below.refl _ _).alloc (Nat.le_refl _) _).alloc (by simp) _
  have hown : W.ownsRow wc.heap.size 44 2 (.slice (some ⟨wc.heap.size + 1, 0, none⟩) 2 2) 2 (encR rs) := by
    have := blk_owns (base := wc.heap.size) (n := 2) (cap := 2) (size := 2) hblk (by omega) (Nat.le_refl _) (by unfold maxLen; omega) (by rw [hrs]; rfl)
    rwa [List.take_of_length_le (by rw [hrs]; simp [encR])] at this
  rw [← hW]
  have hl : rs.length = 2 := by rw [hrs]; rfl
  have hd := deleteFuncR_any 77 #[] (fun j => (fun r : Nat × Nat => ((r.2 : Int) == 0)) (rs.getD j (0, 0))) wc.heap.size (wc.heap.size + 1) 2 2 (encR rs) W hown (by omega) (encR_one _) callFunc_free1 (fun j hj W' _ => by
    have eg := encR_get rs j (by omega)
    rw [List.getD_eq_getElem?_getD, List.getD_eq_getElem?_getD, eg.1, eg.2]
    exact free1_any _ _ W')
  have hk := keepK_encR rs (fun r => ((r.2 : Int) == 0)) 2 (by omega)
  rw [List.take_of_length_le (by omega)] at hk
  have ep : (rs.filter fun r => !((r.2 : Int) == 0)) = partsOf (q1, q2) a n := by
    rw [hrs]
    unfold partsOf
    refine List.filter_congr fun x _ => ?_
    cases hx : x.2 with
    | zero => rfl
    | succ m =>
      have : (((m + 1 : Nat) : Int) == 0) = false := by simp; omega
      rw [this]; rfl
  rw [ep] at hk
  refine hd.mono fun e w' ⟨he, ho, hg⟩ => ⟨_, he, ?_, hk.2, hbel.grown hg hbel.size (fun k hk => by simp at hk; omega)⟩
  have hr := rsl_of_owns ho
  rw [hk.1] at hr
  exact hr

set_option maxHeartbeats 3200000 in
set_option maxRecDepth 100000 in
theorem free_ok (mb size g cap : Nat) (rs : List (Nat × Nat)) (a n i : Nat) (w : World) (h1 : size ≤ 65536) (h3 : Good size rs) (h4 : rs.length ≤ 65536)
    (hb : Blk w mb 120 [.int .i64 size, .slice (some ⟨g, 0, none⟩) rs.length cap]) (ho : w.ownsRow 0 44 2 (.slice (some ⟨g, 0, none⟩) rs.length cap) rs.length (encR rs))
    (hmay : May size a n) (hii : i = firstOf rs a) (hil : i < rs.length) (hq1 : (rs.getD i (0, 0)).1 ≤ a) (hq2 : a + n ≤ (rs.getD i (0, 0)).1 + (rs.getD i (0, 0)).2) :
    Calls Try.prog 33 #[.pointer (some ⟨mb, 0, none⟩), .int .i64 a, .int .i64 n] w fun e w' => e = .returned (.int .i64 0) ∧
      (∃ v k, k = (rs.take i ++ partsOf (rs.getD i (0, 0)) a n ++ rs.drop (i + 1)).length ∧ Blk w' mb 120 [.int .i64 size, v] ∧ w'.ownsRow 0 44 2 v k (encR (rs.take i ++ partsOf (rs.getD i (0, 0)) a n ++ rs.drop (i + 1)))) ∧ w.grownBy w' (some mb) := by
  have H := Lib.hid (may_yes mb size a n w (hb.cell 0) h1 hmay)
  obtain ⟨hm1, hm2, hm3, hm4⟩ := hmay
  have hsl := rsl_of_owns ho
  have HF := Lib.hid (first_any mb a _ cap rs size w (hb.cell 1) hsl h1 h3 h4)
  rw [← hii] at HF
  have hcap : rs.length ≤ cap := hsl.2.1
  have hcap2 : cap ≤ 9223372036854775807 := by have := hsl.2.2.1; unfold maxLen at this; exact this
  have hcl0 := (encR_get rs i hil).1
  have hcl1 := (encR_get rs i hil).2
  have hqm := h3.1 (rs.getD i (0, 0)) (by rw [List.getD_eq_getElem?_getD, List.getElem?_eq_getElem hil]; exact List.getElem_mem _)
  obtain ⟨q, hq⟩ : ∃ q, q = rs.getD i (0, 0) := ⟨_, rfl⟩
  rw [← hq] at hcl0 hcl1 hqm hq1 hq2 ⊢
  obtain ⟨q1, q2⟩ := q
  dsimp only at hcl0 hcl1 hqm hq1 hq2
  have HB := Lib.hid hb
  have HO := Lib.hid ho
  have HS := Lib.hid hsl
  have C0 := Lib.hid hcl0
  have C1 := Lib.hid hcl1
  have hi0 : (0 : Int) ≤ (i : Int) := by omega
  have hi1 : (i : Int) ≤ (rs.length : Int) := by omega
  have hi2 : (i : Int) ≤ (cap : Int) := by omega
  have hi3 : (i : Int) + 1 ≤ (rs.length : Int) := by omega
  have hi4 : (i : Int) + 1 ≤ (cap : Int) := by omega
  have he : ((i : Int) == (rs.length : Int)) = false := by simp; omega
  have hd1 : decide ((a : Int) < (q1 : Int)) = false := by simp; omega
  have hd2 : decide ((q1 : Int) + (q2 : Int) < (a : Int) + (n : Int)) = false := by simp; omega
  have hw1 : IntKind.i64.wrap ((a : Int) + (n : Int)) = (a : Int) + (n : Int) := IntWalk.i64_in _ (by omega)
  have hw2 : IntKind.i64.wrap ((q1 : Int) + (q2 : Int)) = (q1 : Int) + (q2 : Int) := IntWalk.i64_in _ (by omega)
  have hw3 : IntKind.i64.wrap ((i : Int) + 1) = (i : Int) + 1 := IntWalk.i64_in _ (by omega)
  obtain ⟨A3, hA3⟩ : ∃ A3, (if cap = i + 1 then some (⟨g, 0, none⟩ : Addr) else some ⟨g, (i + 1) * 2, none⟩) = A3 := ⟨_, rfl⟩
  clear hb ho hii hsl hcl0 hcl1 hq
  go_enter Try.func33, Try.ntmps33
  go_wp2_with fail
  refine H.out.mono ?_
  rintro e w1 ⟨rfl, rfl⟩
  go_wp2_with fail
  refine HF.out.mono ?_
  rintro e w1 ⟨rfl, hb1⟩
  have HB1 := Lib.hid hb1
  go_upto_region 4 with fail
  go_cut [59] (fun s wx => s = .bool false ∧ Hid (Below w.heap.size w wx))
  case first =>
    have hcm : w1.cell? ⟨mb, 1, none⟩ = some (.slice (some ⟨g, 0, none⟩) rs.length cap) := (HB.out.below hb1).cell 1
    have hcg0 : w1.cell? ⟨g, i * 2, none⟩ = some (.int .i64 q1) := by rw [(owns_below HO.out hb1).cellAt _ (by omega)]; exact C0.out
    have hcg1 : w1.cell? ⟨g, i * 2 + 1, none⟩ = some (.int .i64 q2) := by rw [(owns_below HO.out hb1).cellAt _ (by omega)]; exact C1.out
    clear hb1
    go_quiet (fail)
    go_wp2_with fail
    go_meet
    exact ⟨by rw [decide_eq_false (show ¬ a < q1 by omega)], Lib.hid (below_drewN' HB1.out _)⟩
  case rest =>
    clear hd1 hd2
    obtain ⟨rfl, hbc⟩ := hcut
    have hcm : wc.cell? ⟨mb, 1, none⟩ = some (.slice (some ⟨g, 0, none⟩) rs.length cap) := (HB.out.below hbc.out).cell 1
    have hcg0 : wc.cell? ⟨g, i * 2, none⟩ = some (.int .i64 q1) := by rw [(owns_below HO.out hbc.out).cellAt _ (by omega)]; exact C0.out
    have hcg1 : wc.cell? ⟨g, i * 2 + 1, none⟩ = some (.int .i64 q2) := by rw [(owns_below HO.out hbc.out).cellAt _ (by omega)]; exact C1.out
    clear hb1
    have HP := Lib.hid (free_parts q1 q2 a n wc hq1 hq2)
    have HBC := Lib.hid hbc.out
    have hmlt := (HB.out.below hbc.out).lt
    clear hbc hw2 hw1
    go_wp2_with fail
    refine HP.out.mono ?_
    rintro e w2 ⟨c, rfl, hr2, hc2, hb2⟩
    have hc22 : c ≤ 2 := by rw [hc2]; exact List.length_filter_le _ _
    have hcm2 : w2.cell? ⟨mb, 1, none⟩ = some (.slice (some ⟨g, 0, none⟩) rs.length cap) := (hb2.cell (p := ⟨mb, 1, none⟩) hmlt).trans hcm
    have HCC := Lib.hid (concat3 (some ⟨g, 0, none⟩) (some ⟨wc.heap.size + 1, 0, none⟩) A3 i c (rs.length - (i + 1)) i 2 (cap - (i + 1)) (rs.take i) (partsOf (q1, q2) a n) (rs.drop (i + 1)) w2
      (by have := ((HS.out.below HBC.out).below hb2).takeAt (show i ≤ rs.length by omega) (fun e => by simp at e); rw [encR_take] at this; exact this) hr2
      (by have := ((HS.out.below HBC.out).below hb2).dropAt (show i + 1 ≤ rs.length by omega); rw [Nat.zero_add, encR_drop, hA3] at this; exact this) (by omega))
    have BK2 := Lib.hid ((HB.out.below HBC.out).below hb2)
    have B2 := Lib.hid (HBC.out.trans (hb2.mono HBC.out.size))
    have C2 := Lib.hid hc2
    have hmlt2 := BK2.out.lt
    clear hr2 hc2 hb2 hcm hcg0 hcg1
    go_wp2_with fail
    go_region_with (go_at_call 74; refine HCC.out.mono ?_; rintro e w3 ⟨v3, rfl, hown3, hb3⟩; obtain ⟨ao3, cap3, rfl, _⟩ := RSl.of_owns hown3; have HO3 := Lib.hid hown3; have BK3 := Lib.hid (BK2.out.below hb3); have hcm3 := BK3.out.cell 1; have hfz3 := BK3.out.frozen 1; have B3 := Lib.hid (B2.out.trans (hb3.mono B2.out.size)); clear hown3 hb3)
    all_goals go_wp2_with fail
    all_goals go_ret
    all_goals exact ⟨rfl, ⟨_, _, by simp only [List.length_append, List.length_take, List.length_drop, ← C2.out]; omega, BK3.out.setCell 1 _, owns_setCell_other HO3.out BK3.out (by decide)⟩, grown_store B3.out⟩
end Go.Proofs.Ytmnhdpojonlfhaa
