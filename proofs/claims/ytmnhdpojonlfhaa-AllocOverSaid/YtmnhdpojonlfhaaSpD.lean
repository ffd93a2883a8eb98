/- The walk of slices.DeleteFunc at runs. -/
import Derived.Test.YtmnhdpojonlfhaaSpT
import Derived.Test.YtmnhdpojonlfhaaCore3
namespace Go.Proofs.Ytmnhdpojonlfhaa
open Go.RowKit

theorem zeroR (w : World) : (zeroValue 44).run Try.prog w = .ok (.agg #[.int .i64 0, .int .i64 0]) w := by kernel_rfl

theorem elem_rowR (cs : List Value) (k : Nat) (h : (k + 1) * 2 ≤ cs.length) : elemK 2 cs k = [cs.getD (k * 2) undef, cs.getD (k * 2 + 1) undef] := by
  unfold elemK
  rw [List.drop_eq_getElem_cons (show k * 2 < cs.length by omega), List.take_succ_cons]
  rw [List.drop_eq_getElem_cons (show k * 2 + 1 < cs.length by omega), List.take_succ_cons]
  rw [List.take_zero]
  simp only [List.getD_eq_getElem?_getD]
  rw [List.getElem?_eq_getElem (show k * 2 < cs.length by omega)]
  rw [List.getElem?_eq_getElem (show k * 2 + 1 < cs.length by omega)]
  rfl

theorem set_rowR (cur : List Value) (m : Nat) (v0 v1 : Value) (h : (m + 1) * 2 ≤ cur.length) : ((cur.set (m * 2) v0).set (m * 2 + 1) v1) = cur.take (m * 2) ++ [v0, v1] ++ cur.drop ((m + 1) * 2) := by
  apply List.ext_getElem?
  intro t
  rw [List.append_assoc, List.getElem?_append]
  by_cases h1 : t < m * 2
  · rw [if_pos (by simp; omega)]
    simp only [List.getElem?_set]
    rw [if_neg (by omega)]
    rw [if_neg (by omega)]
    rw [List.getElem?_take, if_pos h1]
  · rw [if_neg (by simp; omega), List.length_take, Nat.min_eq_left (by omega)]
    simp only [List.getElem?_set, List.length_set]
    by_cases h2 : t < (m + 1) * 2
    · rw [List.getElem?_append_left (by simp; omega)]
      have : t = m * 2 ∨ t = m * 2 + 1 := by omega
      rcases this with rfl | rfl
      · rw [if_neg (by omega), if_pos (by omega), if_pos (by omega)]
        rw [show m * 2 - m * 2 = 0 by omega]
        rfl
      · rw [if_pos (by omega), if_pos (by omega)]
        rw [show m * 2 + 1 - m * 2 = 1 by omega]
        rfl
    · rw [List.getElem?_append_right (by simp; omega)]
      rw [if_neg (by omega)]
      rw [if_neg (by omega)]
      rw [List.getElem?_drop]
      congr 1
      simp only [List.length_cons, List.length_nil]
      omega

set_option maxHeartbeats 1600000 in
set_option maxRecDepth 100000 in
theorem deleteFuncR_any (F : Nat) (capt : Array Value) (p : Nat → Bool) (base g n cap : Nat) (cs : List Value) (w : World) (h : w.ownsRow base 44 2 (.slice (some ⟨g, 0, none⟩) n cap) n cs) (hm : n ≤ 1000000) (h1 : ∀ u ∈ cs, u.oneCell' = true)
    (hF : ∀ args W, (callFunc F args).run Try.prog W = .ok (.enter F args) W)
    (hf : ∀ j, j < n → ∀ W, w.grownBy W (some g) → Calls Try.prog F (#[.agg #[cs.getD (j * 2) undef, cs.getD (j * 2 + 1) undef]] ++ capt) W fun e W' => e = .returned (.bool (p j)) ∧ Below W.heap.size W W') :
    Calls Try.prog 76 #[.slice (some ⟨g, 0, none⟩) n cap, .func (.func F) #[] capt] w fun e w' => e = .returned (.slice (some ⟨g, 0, none⟩) (cntK p n) cap) ∧ w'.ownsRow base 44 2 (.slice (some ⟨g, 0, none⟩) (cntK p n) cap) (cntK p n) (keepK 2 cs p n) ∧ w.grownBy w' (some g) := by
  have hcl := h.1
  obtain ⟨cur0, hblk0, hbase, hnc, hcm, hcl0, hct0⟩ := owns_blk h
  have hcap63 : cap ≤ 9223372036854775807 := by unfold maxLen at hcm; exact hcm
  have HIX := Lib.hid (indexFuncR_any F capt p (some ⟨g, 0, none⟩) n cap cs w (rsl_of_owns h) (by omega) hF (fun j hj W hW => hf j hj W (grown_of_below hW)))
  have H1 := Lib.hid h1
  have HF := Lib.hid hf
  have HH := Lib.hid h
  have HB0 := Lib.hid hblk0
  have HCL := Lib.hid hcl
  have HCL0 := Lib.hid hcl0
  have HCT0 := Lib.hid hct0
  have HCM := Lib.hid hcm
  clear hf h h1 hblk0 hcl hcl0 hct0 hcm
  rcases firstIdx_cases p n with ⟨hno, hfi⟩ | ⟨i0, hi0, hpi0, hno0, hfi⟩
  · rw [hfi] at HIX
    obtain ⟨ha, hb⟩ := keepK_all (K := 2) (cs := cs) n (by rw [HCL.out]; omega) hno
    rw [ha, hb, show n * 2 = cs.length from HCL.out.symm, List.take_length]
    clear ha hb hfi hno
    go_enter Try.func76, Try.ntmps76
    go_wp2_with fail
    refine HIX.out.mono ?_
    rintro e w1 ⟨rfl, hb1⟩
    go_wp2_with fail
    go_ret
    exact ⟨rfl, owns_below HH.out hb1, grown_of_below hb1⟩
  · rw [hfi] at HIX
    have hne : ((i0 : Int) == -1) = false := by simp
    have hcnt0 : cntK p (i0 + 1) = i0 := by rw [cntK_yes hpi0, (keepK_all (K := 2) (cs := cs) i0 (by rw [HCL.out]; omega) hno0).2]
    have hkeep0 : keepK 2 cs p (i0 + 1) = cs.take (i0 * 2) := by rw [keepK_yes hpi0, (keepK_all (K := 2) (cs := cs) i0 (by rw [HCL.out]; omega) hno0).1]
    have HCN := Lib.hid hcnt0
    have HKE := Lib.hid hkeep0
    clear hfi hno0 hpi0 hcnt0 hkeep0
    go_enter Try.func76, Try.ntmps76
    go_wp2_with fail
    refine HIX.out.mono ?_
    rintro e w1 ⟨rfl, hb1⟩
    have HB1 := Lib.hid hb1
    clear hb1
    go_wp2_with fail
    go_loopw [5, 6] (fun iv jv wr => ∃ (k : Nat) (cur : List Value), k ≤ n ∧ i0 < k ∧ jv = .int .i64 k ∧ iv = .int .i64 (cntK p k) ∧ cntK p k < k ∧ Hid (Blk wr g 44 cur) ∧ Hid (cur.length = cap * 2) ∧ Hid (cur.take (cntK p k * 2) = keepK 2 cs p k ∧ ∀ t, k * 2 ≤ t ∧ t < n * 2 → cur[t]? = cs[t]?) ∧ Hid (w.grownBy wr (some g))) (fun _ jv _ => n - (intOf jv).toNat)
    case atStart =>
      refine ⟨i0 + 1, cur0, by omega, by omega, by go_num, by rw [HCN.out], by rw [HCN.out]; omega, Lib.hid (HB0.out.below HB1.out), HCL0, Lib.hid ⟨?_, fun t ht => ?_⟩, Lib.hid (grown_of_below HB1.out)⟩
      · rw [HCN.out, HKE.out, ← HCT0.out, List.take_take, Nat.min_eq_left (by omega)]
      · rw [← HCT0.out, List.getElem?_take, if_pos ht.2]
    case round =>
      obtain ⟨k, cur, hk, hki, rfl, rfl, hck, hblk', hcur, HC, hgr⟩ := hrel
      have hcurl := hcur.out
      by_cases hkn : k < n
      · obtain ⟨m, hm⟩ : ∃ m, m = cntK p k := ⟨_, rfl⟩
        rw [← hm] at hck ⊢
        have HM := Lib.hid hm
        clear hm
        have hcsl := HCL.out
        have hblk := hblk'.out
        obtain ⟨v0, hv0⟩ : ∃ v, v = cs.getD (k * 2) undef := ⟨_, rfl⟩
        have c0 : wr.cell? ⟨g, k * 2, none⟩ = some v0 := by rw [hblk.cell, HC.out.2 _ (by omega), getD_some _ _ (by omega), hv0]
        have s0 : ∀ W a, (store a v0).run Try.prog W = stored Try.prog W a v0 .plain := fun W a => run_store Try.prog W a v0 .plain (by rw [hv0]; exact H1.out _ (getD_mem (by omega)))
        have V0 := Lib.hid hv0
        obtain ⟨v1, hv1⟩ : ∃ v, v = cs.getD (k * 2 + 1) undef := ⟨_, rfl⟩
        have c1 : wr.cell? ⟨g, k * 2 + 1, none⟩ = some v1 := by rw [hblk.cell, HC.out.2 _ (by omega), getD_some _ _ (by omega), hv1]
        have s1 : ∀ W a, (store a v1).run Try.prog W = stored Try.prog W a v1 .plain := fun W a => run_store Try.prog W a v1 .plain (by rw [hv1]; exact H1.out _ (getD_mem (by omega)))
        have V1 := Lib.hid hv1
        have hgl := hblk.lt
        clear hblk
        have hgr2 : w.grownBy (wr.alloc (.cells #[v0, v1] 44)) (some g) := grown_trans hgr.out (World.grownBy_alloc _ _ _)
        have hcal := HF.out k hkn _ hgr2
        rw [← hv0, ← hv1] at hcal
        have HCAL := Lib.hid hcal
        clear hcal hv0 hv1
        have hbn : Blk (wr.alloc (.cells #[v0, v1] 44)) wr.heap.size 44 [v0, v1] := Blk.new _ _ _
        have HBN := Lib.hid hbn
        have HG2 := Lib.hid hgr2
        clear hgr2 hbn hcsl
        rcases hp : p k with _ | _
        · rw [hp] at HCAL
          have HP := Lib.hid hp
          clear hp
          go_wp2_with fail
          refine HCAL.out.mono ?_
          rintro e w1 ⟨rfl, hbl⟩
          have hbx := HBN.out.below hbl
          have b0 : w1.cell? ⟨wr.heap.size, 0, none⟩ = some v0 := hbx.cell 0
          have b1 : w1.cell? ⟨wr.heap.size, 1, none⟩ = some v1 := hbx.cell 1
          have hb1 : Hid (Blk w1 g 44 cur) := Lib.hid ((hblk'.out.alloc _).below hbl)
          clear hbx
          obtain ⟨x0, hx0⟩ : ∃ x, x = cur.getD (m * 2) undef := ⟨_, rfl⟩
          have e0 : w1.cell? ⟨g, m * 2, none⟩ = some x0 := by rw [hb1.out.cell, getD_some _ _ (by omega), hx0]
          have f0 := hb1.out.frozen (m * 2)
          clear hx0
          obtain ⟨x1, hx1⟩ : ∃ x, x = cur.getD (m * 2 + 1) undef := ⟨_, rfl⟩
          have e1 : w1.cell? ⟨g, m * 2 + 1, none⟩ = some x1 := by rw [hb1.out.cell, getD_some _ _ (by omega), hx1]
          have f1 := hb1.out.frozen (m * 2 + 1)
          clear hx1
          have hgr2 : w.grownBy w1 (some g) := grown_trans HG2.out (grown_of_below hbl)
          have HG3 := Lib.hid hgr2
          have hne1 : g ≠ wr.heap.size := by omega
          clear hgr2 hbl
          go_wp2_with fail
          go_roundw
          case rel =>
            have hcr := HC.out
            rw [← HM.out] at hcr
            have hl3 : (m + 1) * 2 ≤ cur.length := by omega
            have hsr := set_rowR cur m v0 v1 hl3
            have hbk := ((hb1.out.setCell (m * 2) v0).setCell (m * 2 + 1) v1)
            rw [hsr] at hbk
            refine ⟨k + 1, _, by omega, by omega, by go_num, by rw [cntK_no HP.out, ← HM.out]; go_num, by rw [cntK_no HP.out, ← HM.out]; omega, Lib.hid hbk, Lib.hid ?_, Lib.hid ⟨?_, fun t ht => ?_⟩, Lib.hid ?_⟩
            · simp only [List.length_append, List.length_take, List.length_drop, List.length_cons, List.length_nil]; omega
            · rw [cntK_no HP.out, ← HM.out, keepK_no HP.out, ← hcr.1, elem_rowR cs k (by rw [HCL.out]; omega), V0.out.symm, V1.out.symm]
              have hl4 : (cur.take (m * 2) ++ [v0, v1]).length = (m + 1) * 2 := by simp only [List.length_append, List.length_take, List.length_cons, List.length_nil]; omega
              rw [← hl4]
              exact List.take_left
            · rw [List.getElem?_append_right (by simp only [List.length_append, List.length_take, List.length_cons, List.length_nil]; omega), List.getElem?_drop, ← hcr.2 t (by omega)]
              congr 1
              simp only [List.length_append, List.length_take, List.length_cons, List.length_nil]
              omega
            · exact (grown_setCell (grown_setCell HG3.out))
          case measure => simp [intOf]; omega
        · rw [hp] at HCAL
          have HP := Lib.hid hp
          clear hp
          go_wp2_with fail
          refine HCAL.out.mono ?_
          rintro e w1 ⟨rfl, hbl⟩
          have HBL := Lib.hid hbl
          clear hbl
          go_wp2_with fail
          go_roundw
          case rel =>
            have hcr := HC.out
            rw [← HM.out] at hcr
            refine ⟨k + 1, cur, by omega, by omega, by go_num, by rw [cntK_yes HP.out, ← HM.out], by rw [cntK_yes HP.out, ← HM.out]; omega, Lib.hid ((hblk'.out.alloc _).below HBL.out), hcur, Lib.hid ⟨?_, fun t ht => hcr.2 t (by omega)⟩, Lib.hid (grown_trans HG2.out (grown_of_below HBL.out))⟩
            rw [cntK_yes HP.out, ← HM.out, keepK_yes HP.out]
            exact hcr.1
          case measure => simp [intOf]; omega
      · have hkn' : k = n := by omega
        subst hkn'
        obtain ⟨m, hm⟩ : ∃ m, m = cntK p k := ⟨_, rfl⟩
        rw [← hm] at hck ⊢
        have hcr := HC.out
        rw [← hm] at hcr
        have hclr : ∀ ty, (Builtin.clear_ #[41] ty #[.slice (some ⟨g, m * 2, none⟩) (k - m) (cap - m)]).run Try.prog wr = .ok (.tuple #[]) (wr.setCells g (m * 2) (Builtin.zeroCells (.agg #[.int .i64 0, .int .i64 0] : Value).cells (k - m)).toList) :=
          fun ty => run_clear_rows wr _ _ ty _ Try.underlying41 zeroR 2 rfl (by decide) (by decide) g _ _ _ (by omega) (fun t ht => by rw [hblk'.out.cell, List.getElem?_eq_getElem (by omega)]; rfl) (fun t ht => hblk'.out.frozen _)
        have hne2 : ¬ cap = m := by omega
        have hmc : m ≤ cap := by omega
        have hmk : m ≤ k := by omega
        have hi1 : (0 : Int) ≤ (m : Int) := by omega
        have hi2 : (m : Int) ≤ (k : Int) := by omega
        have hi3 : (m : Int) ≤ (cap : Int) := by omega
        have HCR := Lib.hid hcr
        have HM0 := Lib.hid hm
        clear hcr hm
        go_wp2
        go_ret
        have hzl : (Builtin.zeroCells (.agg #[.int .i64 0, .int .i64 0] : Value).cells (k - m)).toList.length = (k - m) * 2 := by rw [Array.length_toList, size_zeroCells]; rfl
        have h2 := hblk'.out.setCells (Builtin.zeroCells (.agg #[.int .i64 0, .int .i64 0] : Value).cells (k - m)).toList (m * 2) (by rw [hzl]; omega)
        have h3 := blk_owns (base := base) (n := m) (cap := cap) (size := 2) h2 hbase hmc HCM.out (by simp only [List.length_append, List.length_take, List.length_drop, hzl]; omega)
        have h4 : (cur.take (m * 2)).length = m * 2 := by rw [List.length_take]; omega
        rw [List.append_assoc] at h3
        have h5 : (cur.take (m * 2) ++ ((Builtin.zeroCells (.agg #[.int .i64 0, .int .i64 0] : Value).cells (k - m)).toList ++ cur.drop (m * 2 + (Builtin.zeroCells (.agg #[.int .i64 0, .int .i64 0] : Value).cells (k - m)).toList.length))).take (m * 2) = cur.take (m * 2) := by
          conv => lhs; arg 1; rw [← h4]
          exact List.take_left
        rw [h5, HCR.out.1] at h3
        rw [← HM0.out]
        exact ⟨rfl, h3, grown_trans hgr.out (setCells_grown _ _ _ _)⟩

end Go.Proofs.Ytmnhdpojonlfhaa
