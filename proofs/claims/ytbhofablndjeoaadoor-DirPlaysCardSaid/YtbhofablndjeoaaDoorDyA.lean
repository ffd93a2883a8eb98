/- The document's answers for directories: ref09.May, ref16.List. -/
import Derived.Test.YtbhofablndjeoaaDoorDwE
namespace Go.Proofs.YtbhofablndjeoaaDoor
open Go.RowKit
set_option linter.unusedSimpArgs false
set_option linter.unusedVariables false
attribute [local go_sem ↓] wp_loadPt wp_storePt wp_loadNd wp_storeNd wp_bldNd
/-- the document's directory: who is there, and every node -/
def encHas (D : Nat → Option NodeT) : List Value := (List.range 32).map fun j => .bool (D j).isSome
def encNs (D : Nat → Option NodeT) : List Value := ((List.range 32).map fun j => (dRes (D j)).1).flatMap encN
def encX (D : Nat → Option NodeT) : List Value := encHas D ++ encNs D
theorem encHas_len (D : Nat → Option NodeT) : (encHas D).length = 32 := by simp [encHas]
theorem encNs_len (D : Nat → Option NodeT) : (encNs D).length = 416 := by
  have key : ∀ l : List NodeT, (l.flatMap encN).length = l.length * 13 := by
    intro l
    induction l with
    | nil => rfl
    | cons a r ih => simp only [List.flatMap_cons, List.length_append, ih, List.length_cons, show (encN a).length = 13 from rfl]; omega
  unfold encNs
  rw [key]; simp
theorem encX_len (D : Nat → Option NodeT) : (encX D).length = 448 := by unfold encX; rw [List.length_append, encHas_len, encNs_len]
theorem encX_has (D : Nat → Option NodeT) {i : Nat} (hi : i < 32) : (encX D)[i]? = some (.bool (D i).isSome) := by
  unfold encX
  rw [List.getElem?_append_left (by rw [encHas_len]; exact hi)]
  simp [encHas, hi]
theorem encX_n (D : Nat → Option NodeT) {i j : Nat} (hi : i < 32) (hj : j < 13) : (encX D)[32 + i * 13 + j]? = (encN (dRes (D i)).1)[j]? := by
  unfold encX
  rw [List.getElem?_append_right (by rw [encHas_len]; omega), encHas_len, show 32 + i * 13 + j - 32 = i * 13 + j by omega]
  unfold encNs
  rw [flat_get (f := encN) (K := 13) (fun a => rfl) _ i j nD (by simpa using hi) hj, List.getD_eq_getElem?_getD]
  simp [hi]
/-- an entry is written -/
theorem encX_upd (D : Nat → Option NodeT) {id : Nat} (hid : id < 32) (x : Option NodeT) : ((encX D).set id (.bool x.isSome)).take (32 + id * 13) ++ encN (dRes x).1 ++ ((encX D).set id (.bool x.isSome)).drop (32 + id * 13 + 13) = encX (dUpd D id x) := by
  obtain ⟨A, hA⟩ : ∃ A, A = (encX D).set id (.bool x.isSome) := ⟨_, rfl⟩
  have hl : A.length = 448 := by rw [hA, List.length_set, encX_len]
  have hset : ∀ k, k < 448 → k ≠ id → A[k]? = (encX D)[k]? := fun k hk hne => by rw [hA, List.getElem?_set_ne (by omega)]
  have hsame : A[id]? = some (.bool x.isSome) := by rw [hA, List.getElem?_set_self (by rw [encX_len]; omega)]
  rw [← hA]
  have hn : (encN (dRes x).1).length = 13 := rfl
  have lt : (A.take (32 + id * 13) ++ encN (dRes x).1).length = 32 + id * 13 + 13 := by rw [List.length_append, List.length_take, hn, hl]; omega
  have ht : (A.take (32 + id * 13)).length = 32 + id * 13 := by rw [List.length_take, hl]; omega
  apply List.ext_getElem?
  intro k
  by_cases hk : k < 448
  · by_cases hk2 : k < 32
    · rw [List.getElem?_append_left (by omega), List.getElem?_append_left (by omega), List.getElem?_take_of_lt (by omega), encX_has _ hk2]
      by_cases hki : k = id
      · rw [hki, hsame]; unfold dUpd; rw [if_pos rfl]
      · rw [hset k hk hki, encX_has _ hk2]; unfold dUpd; rw [if_neg hki]
    · obtain ⟨i, j, hj, rfl⟩ : ∃ i j, j < 13 ∧ k = 32 + i * 13 + j := ⟨(k - 32) / 13, (k - 32) % 13, Nat.mod_lt _ (by omega), by omega⟩
      have hi : i < 32 := by omega
      rw [encX_n _ hi hj]
      unfold dUpd
      by_cases h1 : i < id
      · rw [List.getElem?_append_left (by omega), List.getElem?_append_left (by omega), List.getElem?_take_of_lt (by omega), hset _ hk (by omega), encX_n _ hi hj, if_neg (by omega)]
      · by_cases h2 : i = id
        · subst h2
          rw [List.getElem?_append_left (by omega), List.getElem?_append_right (by omega), ht, show 32 + i * 13 + j - (32 + i * 13) = j by omega, if_pos rfl]
        · rw [List.getElem?_append_right (by omega), lt, List.getElem?_drop, show 32 + id * 13 + 13 + (32 + i * 13 + j - (32 + id * 13 + 13)) = 32 + i * 13 + j by omega, hset _ hk (by omega), encX_n _ hi hj, if_neg h2]
  · rw [List.getElem?_eq_none (by rw [List.length_append, lt, List.length_drop, hl]; omega), List.getElem?_eq_none (by rw [encX_len]; omega)]
/-- a pointer's five numbers -/
def fiveP (p : PtrT) : List Int := [p.ag, p.aa, p.bg, p.ba, p.birth]
def restMay (p : PtrT) : Bool := (decide (0 ≤ p.size) && decide (p.size ≤ 255)) && (decide (0 ≤ p.level) && decide (p.level ≤ 255))
theorem may_five (p : PtrT) : ptrMay p = ((fiveP p).all U32' && restMay p) := by
  unfold ptrMay fiveP restMay
  simp [Bool.and_assoc]
theorem may_not {p : PtrT} {k : Nat} (hk : k < 5) (h : U32' ((fiveP p).getD k 0) = false) : ptrMay p = false := by
  rw [may_five, Bool.and_eq_false_iff]
  left
  rw [List.all_eq_false]
  refine ⟨(fiveP p).getD k 0, ?_, by rw [h]; simp⟩
  rw [List.getD_eq_getElem?_getD, List.getElem?_eq_getElem (show k < (fiveP p).length from hk)]
  exact List.getElem_mem _
theorem may_all {p : PtrT} (h : ∀ j, j < 5 → U32' ((fiveP p).getD j 0) = true) : ptrMay p = restMay p := by
  rw [may_five]
  have : (fiveP p).all U32' = true := by
    have h0 := h 0 (by omega)
    have h1 := h 1 (by omega)
    have h2 := h 2 (by omega)
    have h3 := h 3 (by omega)
    have h4 := h 4 (by omega)
    simp [fiveP] at h0 h1 h2 h3 h4 ⊢
    exact ⟨h0, h1, h2, h3, h4⟩
  rw [this, Bool.true_and]
set_option maxHeartbeats 1000000 in
set_option maxRecDepth 100000 in
theorem May_any (p : PtrT) (w : World) :
    Calls Tryd.prog 25 #[.agg (encPtr p).toArray] w fun e w' => e = .returned (.bool (ptrMay p)) ∧ Below w.heap.size w w' := by
  obtain ⟨w0, hw0⟩ : ∃ w0, w0 = w.alloc (.cells (encPtr p).toArray 35) := ⟨_, rfl⟩
  obtain ⟨gP, hgP⟩ : ∃ g, g = w.heap.size := ⟨_, rfl⟩
  have hb : Blk w0 gP 35 (encPtr p) := by rw [hw0, hgP]; exact Blk.new w _ _
  have HB := Lib.hid hb
  have HBEL : Hid (Below w.heap.size w w0) := by rw [hw0]; exact Lib.hid ((Below.refl _ _).alloc (Nat.le_refl _) _)
  have c0 : w0.cell? ⟨gP, 0, none⟩ = some (.int .i64 p.ag) := by rw [hb.cell]; rfl
  have c1 : w0.cell? ⟨gP, 1, none⟩ = some (.int .i64 p.aa) := by rw [hb.cell]; rfl
  have c2 : w0.cell? ⟨gP, 2, none⟩ = some (.int .i64 p.bg) := by rw [hb.cell]; rfl
  have c3 : w0.cell? ⟨gP, 3, none⟩ = some (.int .i64 p.ba) := by rw [hb.cell]; rfl
  have c7 : w0.cell? ⟨gP, 7, none⟩ = some (.int .i64 p.birth) := by rw [hb.cell]; rfl
  clear hb
  go_enter Tryd.func25, Tryd.ntmps25
  go_upto_region 1 with fail
  rw [show w.alloc (.cells (encPtr p).toArray 35) = w0 from hw0.symm, ← hgP]
  clear hw0 hgP
  go_upto_region 2 with fail
  obtain ⟨w1, hw1⟩ : ∃ v, v = w0.alloc (.cells ((fiveP p).map (Value.int .i64)).toArray 3) := ⟨_, rfl⟩
  obtain ⟨gL, hgL⟩ : ∃ g, g = w0.heap.size := ⟨_, rfl⟩
  have hbl : Blk w1 gL 3 ((fiveP p).map (Value.int .i64)) := by rw [hw1, hgL]; exact Blk.new w0 _ _
  have HBL := Lib.hid hbl
  have HB1 : Hid (Blk w1 gP 35 (encPtr p)) := Lib.hid (by rw [hw1]; exact HB.out.alloc _)
  have HBEL1 : Hid (Below w.heap.size w w1) := Lib.hid (by rw [hw1]; exact HBEL.out.alloc HBEL.out.size _)
  rw [show w0.alloc (.cells #[.int .i64 p.ag, .int .i64 p.aa, .int .i64 p.bg, .int .i64 p.ba, .int .i64 p.birth] 3) = w1 from hw1.symm, ← hgL]
  clear hbl hw1 hgL HB HBEL c0 c1 c2 c3 c7
  go_wp2_with fail
  go_loopw [4] (fun vi wr => ∃ k : Nat, vi = .int .i64 k ∧ k ≤ 5 ∧ wr = w1 ∧ Hid (∀ j, j < k → U32' ((fiveP p).getD j 0) = true)) (fun vi _ => 5 - (intOf vi).toNat)
  case atStart => exact ⟨0, rfl, by omega, rfl, Lib.hid (fun j hj => by omega)⟩
  case round =>
    obtain ⟨k, rfl, hk, rfl, HU⟩ := hrel
    by_cases hlt : k < 5
    · have q1 : (k : Int) < 5 := by omega
      have q2 : 0 ≤ (k : Int) := by omega
      obtain ⟨u, hu⟩ : ∃ u, u = (fiveP p).getD k 0 := ⟨_, rfl⟩
      have c1 : wr.cell? ⟨gL, k, none⟩ = some (.int .i64 u) := by
        rw [HBL.out.cell, hu, List.getElem?_map, List.getD_eq_getElem?_getD, List.getElem?_eq_getElem (show k < (fiveP p).length from hlt)]
        rfl
      by_cases h1 : u < 0
      · have HN : Hid (ptrMay p = false) := Lib.hid (may_not hlt (by rw [← hu]; unfold U32'; simp; omega))
        clear hu
        go_wp2_with fail
        go_ret
        exact ⟨by rw [HN.out]; rfl, HBEL1.out⟩
      · by_cases h2 : 4294967295 < u
        · have HN : Hid (ptrMay p = false) := Lib.hid (may_not hlt (by rw [← hu]; unfold U32'; simp; omega))
          clear hu
          go_wp2_with fail
          go_ret
          exact ⟨by rw [HN.out]; rfl, HBEL1.out⟩
        · have HU2 : Hid (∀ j, j < k + 1 → U32' ((fiveP p).getD j 0) = true) := Lib.hid (fun j hj => by
            by_cases hjk : j = k
            · rw [hjk, ← hu]; unfold U32'; simp; omega
            · exact HU.out j (by omega))
          clear hu
          go_wp2_with fail
          go_roundw
          case rel => exact ⟨k + 1, by go_num, by omega, by first | rfl | trivial, HU2⟩
          case measure => simp [intOf]; omega
    · have q1 : ¬ (k : Int) < 5 := by omega
      obtain rfl : k = 5 := by omega
      have HM : Hid (ptrMay p = restMay p) := Lib.hid (may_all HU.out)
      have c5 : wr.cell? ⟨gP, 5, none⟩ = some (.int .i64 p.size) := by rw [HB1.out.cell]; rfl
      have c6 : wr.cell? ⟨gP, 6, none⟩ = some (.int .i64 p.level) := by rw [HB1.out.cell]; rfl
      by_cases a1 : 0 ≤ p.size <;> by_cases a2 : p.size ≤ 255 <;> by_cases a3 : 0 ≤ p.level <;> by_cases a4 : p.level ≤ 255 <;> first
        | (exfalso; omega)
        | (go_wp2_with fail
           go_ret
           exact ⟨by rw [HM.out]; unfold restMay; simp [a1, a2, a3, a4]; try omega, HBEL1.out⟩)
set_option maxHeartbeats 1000000 in
set_option maxRecDepth 100000 in
/-- the document's list -/
theorem List16_any (D : Nat → Option NodeT) (w : World) :
    Calls Tryd.prog 26 #[.agg (encX D).toArray] w fun e w' => ∃ ao cap, e = .returned (.slice ao (dLst D 32).length cap) ∧ RSl w' 1 ao (dLst D 32).length cap (encI (dLst D 32)) ∧ Below w.heap.size w w' := by
  obtain ⟨w0, hw0⟩ : ∃ w0, w0 = w.alloc (.cells (encX D).toArray 70) := ⟨_, rfl⟩
  obtain ⟨gP, hgP⟩ : ∃ g, g = w.heap.size := ⟨_, rfl⟩
  have hb : Blk w0 gP 70 (encX D) := by rw [hw0, hgP]; exact Blk.new w _ _
  have HB := Lib.hid hb
  have HBEL : Hid (Below w.heap.size w w0) := by rw [hw0]; exact Lib.hid ((Below.refl _ _).alloc (Nat.le_refl _) _)
  clear hb
  go_enter Tryd.func26, Tryd.ntmps26
  go_upto_region 1 with fail
  rw [show w.alloc (.cells (encX D).toArray 70) = w0 from hw0.symm, ← hgP]
  clear hw0
  obtain ⟨i0, hi, hi0, hi1, hi2⟩ := info_parts infoInt
  have HG : Hid (gP < w0.heap.size) := Lib.hid HB.out.lt
  have HGE : Hid (w.heap.size ≤ w0.heap.size) := Lib.hid HBEL.out.size
  clear hgP
  go_wp2_with fail
  go_loopw [3, 4] (fun v6 vi wr => ∃ (i : Nat), vi = .int .i64 i ∧ i ≤ 32 ∧ Hid (wr.ownsRow w0.heap.size 3 1 v6 (dLst D i).length (encI (dLst D i))) ∧ Hid (Below w0.heap.size w0 wr)) (fun _ vi _ => 32 - (intOf vi).toNat)
  case atStart => exact ⟨0, rfl, by omega, Lib.hid (World.ownsRow_nil _ _ _ _), Lib.hid (Below.refl _ _)⟩
  case round =>
    obtain ⟨i, rfl, hik, HR, HBR⟩ := hrel
    obtain ⟨ao6, cp6, rfl⟩ := row_formD HR.out
    by_cases hlt : i < 32
    · have q1 : (i : Int) < 32 := by omega
      have q2 : 0 ≤ (i : Int) := by omega
      have c1 : wr.cell? ⟨gP, i, none⟩ = some (.bool (D i).isSome) := by
        rw [(HB.out.below HBR.out).cell, encX_has D hlt]
      have hs := dLst_succ D i
      cases hb : (D i).isSome with
      | false =>
        rw [hb] at c1 hs
        rw [if_neg (by simp)] at hs
        have HR2 : Hid (wr.ownsRow w0.heap.size 3 1 (.slice ao6 (dLst D i).length cp6) (dLst D (i + 1)).length (encI (dLst D (i + 1)))) := by rw [hs]; exact HR
        clear hs hb
        go_wp2_with fail
        go_roundw
        case rel => exact ⟨i + 1, by go_num, by omega, HR2, HBR⟩
        case measure => simp [intOf]; omega
      | true =>
        rw [hb] at c1 hs
        rw [if_pos rfl] at hs
        have HS := Lib.hid hs
        have HL : Hid ((dLst D i).length ≤ 32) := Lib.hid (by unfold dLst; exact Nat.le_trans (List.length_filter_le _ _) (by simp; omega))
        clear hs hb
        have hb4 := (HBR.out).alloc HBR.out.size (.cells #[.int .i64 (i : Nat)] 3)
        have hr4 := owns_below HR.out (w' := wr.alloc (.cells #[.int .i64 (i : Nat)] 3)) ((Below.refl _ _).alloc (Nat.le_refl _) _)
        have HB4 := Lib.hid hb4
        have HR4 := Lib.hid hr4
        have HNB := Lib.hid (Blk.news (Blk.new wr 3 [.int .i64 (i : Nat)]))
        have hol := HL.out
        have m1 : (dLst D i).length + 1 ≤ maxLen := by unfold maxLen; omega
        have m2 : ((dLst D i).length + 1) * 8 ≤ 140737488355328 := by omega
        have m3 : w0.heap.size ≤ (wr.alloc (.cells #[.int .i64 (i : Nat)] 3)).heap.size := HB4.out.size
        clear hol hb4 hr4
        go_wp2_with (at_builtin; go_must (refine wpList_append_own_at _ rfl (.tmp 13) (.tmp 15) 60 rfl w0.heap.size 3 i0 (.int .i64 0) 1 8 Tryd.underlying60 hi hi0 hi1 hi2 rfl (Nat.succ_pos 0) (.slice ao6 (dLst D i).length cp6) (dLst D i).length (encI (dLst D i)) rfl HR4.out ⟨wr.heap.size, 0, none⟩ 1 1 [.int .i64 (i : Nat)] rfl rfl HNB.out (by simp [Value.oneCell']) m1 m2 m3 ?_; intro v6' w4 hown hgrow _ hat))
        have HR5 : Hid (w4.ownsRow w0.heap.size 3 1 v6' (dLst D (i + 1)).length (encI (dLst D (i + 1)))) := Lib.hid (by
          rw [HS.out, List.length_append]
          have e : encI (dLst D i ++ [i]) = encI (dLst D i) ++ [.int .i64 (i : Nat)] := by simp [encI]
          rw [e]
          exact hown)
        have HB5 : Hid (Below w0.heap.size w0 w4) := Lib.hid (below_own HB4.out HR4.out hgrow HB4.out.size (Nat.le_refl _))
        clear hown hgrow hat m1 m2 m3
        go_roundw
        case rel => exact ⟨i + 1, by go_num, by omega, HR5, HB5⟩
        case measure => simp [intOf]; omega
    · have q1 : ¬ (i : Int) < 32 := by omega
      obtain rfl : i = 32 := by omega
      have HFIN : Hid (Below w.heap.size w wr) := Lib.hid (HBEL.out.trans (HBR.out.mono HBEL.out.size))
      go_wp2_with fail
      go_ret
      exact ⟨ao6, cp6, rfl, rsl_of_owns HR.out, HFIN.out⟩
end Go.Proofs.YtbhofablndjeoaaDoor
