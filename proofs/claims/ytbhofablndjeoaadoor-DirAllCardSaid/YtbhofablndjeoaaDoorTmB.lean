/- The law's store Mem: Get. -/
import Derived.Test.YtbhofablndjeoaaDoorTmA
namespace Go.Proofs.YtbhofablndjeoaaDoor
open Go.RowKit
set_option linter.unusedSimpArgs false
set_option linter.unusedVariables false
theorem Mod.rowN {F : Nat → Prop} {w w' : World} {b n e k : Nat} {v : Value} {xs : List Value} (h : Mod F w w') (hr : w.ownsRow b e k v n xs) (hd : ∀ g, v.ownBlock = some g → ¬ F g) : w'.ownsRow b e k v n xs := by
  obtain ⟨h1, h2⟩ := hr
  refine ⟨h1, ?_⟩
  rcases h2 with h2 | ⟨g, cap, cur, rfl, hbg, hg, hx⟩
  · exact .inl h2
  · refine .inr ⟨g, cap, cur, rfl, hbg, ?_, hx⟩
    rw [h.block g (Array.getElem?_eq_some_iff.1 hg).1 (hd g rfl)]
    exact hg
theorem IsMem.below {w w' : World} {mb : Nat} {st : MemT} {v : Value} (h : IsMem w mb st v) (hb : Below w.heap.size w w') : IsMem w' mb st v :=
  ⟨h.blk.below hb, owns_below h.row hb, h.nb, h.cnt, h.fls⟩
theorem setCell_mod (w : World) (mb j : Nat) (u : Value) (n : Nat) : Mod (fun k => k = mb) w ((w.setCell ⟨mb, j, none⟩ u).drewN n) := ((Mod.refl (fun k => k = mb) w).setCell (.inl rfl)).drewN n
/-- the state behind step -/
def MemT.next (st : MemT) : MemT := { st with count := st.count + 1 }
theorem IsMem.stepped {w : World} {mb : Nat} {st : MemT} {v : Value} (h : IsMem w mb st v) (hc : st.count + 1 < 1000000000) (n : Nat) : IsMem ((w.setCell ⟨mb, 1, none⟩ (.int .i64 ((st.count : Int) + 1))).drewN n) mb st.next v :=
  ⟨(h.blk.setCell 1 _).drewN, (setCell_mod w mb 1 _ n).rowN h.row (fun g hg e => h.nb (by rw [hg, e])), h.nb, hc, h.fls⟩
set_option maxHeartbeats 1000000 in
set_option maxRecDepth 100000 in
theorem mget_sleep {w : World} {mb : Nat} {st : MemT} {v : Value} (h : IsMem w mb st v) (p : PtrT) (hc : st.count + 1 < 1000000000) (ha : awakeB (st.count + 1) st.fails = false) :
    Calls Tryd.prog 122 #[.pointer (some ⟨mb, 0, none⟩), .agg (encPtr p).toArray] w fun e w' => e = .returned (.tuple #[.string ⟨#[]⟩, .int .i64 6]) ∧ IsMem w' mb st.next v ∧ Mod (fun k => k = mb) w w' := by
  obtain ⟨w0, hw0⟩ : ∃ w0, w0 = w.alloc (.cells (encPtr p).toArray 35) := ⟨_, rfl⟩
  have HBX : Hid (Blk w0 w.heap.size 35 (encPtr p)) := by rw [hw0]; exact Lib.hid (Blk.new w _ _)
  have HM0 : Hid (IsMem w0 mb st v) := by rw [hw0]; exact Lib.hid (h.below ((Below.refl _ _).alloc (Nat.le_refl _) _))
  have HME : Hid (IsMem w0.drew mb st v) := Lib.hid (HM0.out.below (Below.refl _ _).drew)
  have HNE : Hid (w.heap.size ≠ mb) := Lib.hid (fun e => by have := h.blk.lt; omega)
  have HA := Lib.hid ha
  clear ha
  go_enter Tryd.func122, Tryd.ntmps122
  go_upto_region 1 with fail
  rw [show w.alloc (.cells (encPtr p).toArray 35) = w0 from hw0.symm]
  have HMD : Hid (Mod (fun k => k = mb) w w0.drew) := Lib.hid (by rw [hw0]; exact ((Mod.refl _ w).alloc _).drew)
  clear hw0
  refine wp_region_held_drew (S := fun _ => True) (by kernel_rfl) trivial (fun hS0 => ?_)
  refine wpAnyH_take (i := 0) (oi := ?oia0) (v := ?va0) ?hia0 ?hsa0 ?hfa0 ?hra0 ?hQa0 ?hya0 ?hSa0 ?ha0
  case hia0 => (simp only [List.getElem?_toArray, List.getElem?_cons_succ, List.getElem?_cons_zero]; rfl)
  case hsa0 => kernel_rfl
  case hfa0 => kernel_rfl
  case hra0 => kernel_rfl
  case hSa0 => first | assumption | trivial
  case hya0 => refine Or.inl ⟨by kernel_rfl, ?_⟩; (intro w hSw; (try dsimp only at hSw); go_simp; try with_reducible rfl)
  case hQa0 => exact fun _ _ _ h => h
  try simp only [Act.put, List.setIfInBounds_toArray, List.set_cons_zero, List.set_cons_succ]
  refine wpAnyH_ready (rs := [1]) (by kernel_rfl) (by simp) ?_
  refine AllReadyH.cons (by simp only [List.getElem?_toArray, List.getElem?_cons_succ, List.getElem?_cons_zero]; rfl) (fun K hK => ?_) AllReadyH.nil
  go_simp
  refine (step_any HME.out).mono ?_
  rintro e w2 ⟨rfl, nd, rfl⟩
  try dsimp only
  have HM2 := Lib.hid (HME.out.stepped hc nd)
  have HMD2 := Lib.hid (HMD.out.self (setCell_mod w0.drew mb 1 (.int .i64 ((st.count : Int) + 1)) nd))
  rw [HA.out]
  obtain ⟨w9, hw9⟩ : ∃ x, x = (w0.drew.setCell ⟨mb, 1, none⟩ (.int .i64 ((st.count : Int) + 1))).drewN nd := ⟨_, rfl⟩
  rw [← hw9] at HM2 HMD2 ⊢
  clear hw9
  refine hK.out _ _ (trivial) (fun hSa1 => ?_)
  try simp only [Act.put, List.setIfInBounds_toArray, List.set_cons_zero, List.set_cons_succ]
  refine wpAnyH_take (i := 2) (oi := ?oia2) (v := ?va2) ?hia2 ?hsa2 ?hfa2 ?hra2 ?hQa2 ?hya2 ?hSa2 ?ha2
  case hia2 => (simp only [List.getElem?_toArray, List.getElem?_cons_succ, List.getElem?_cons_zero]; rfl)
  case hsa2 => kernel_rfl
  case hfa2 => kernel_rfl
  case hra2 => kernel_rfl
  case hSa2 => first | assumption | trivial
  case hya2 => refine Or.inl ⟨by kernel_rfl, ?_⟩; (intro w hSw; (try dsimp only at hSw); go_simp; try with_reducible rfl)
  case hQa2 => exact fun _ _ _ h => h
  try simp only [Act.put, List.setIfInBounds_toArray, List.set_cons_zero, List.set_cons_succ]
  refine wpAnyH_take (i := 3) (oi := ?oia3) (v := ?va3) ?hia3 ?hsa3 ?hfa3 ?hra3 ?hQa3 ?hya3 ?hSa3 ?ha3
  case hia3 => (simp only [List.getElem?_toArray, List.getElem?_cons_succ, List.getElem?_cons_zero]; rfl)
  case hsa3 => kernel_rfl
  case hfa3 => kernel_rfl
  case hra3 => kernel_rfl
  case hSa3 => first | assumption | trivial
  case hya3 => refine Or.inl ⟨by kernel_rfl, ?_⟩; (intro w hSw; (try dsimp only at hSw); go_simp; try with_reducible rfl)
  case hQa3 => exact fun _ _ _ h => h
  try simp only [Act.put, List.setIfInBounds_toArray, List.set_cons_zero, List.set_cons_succ]
  refine wpAnyH_take (i := 4) (oi := ?oia4) (v := undef) ?hia4 ?hsa4 ?hfa4 ?hra4 ?hQa4 ?hya4 ?hSa4 ?ha4
  case hia4 => (simp only [List.getElem?_toArray, List.getElem?_cons_succ, List.getElem?_cons_zero]; rfl)
  case hsa4 => kernel_rfl
  case hfa4 => kernel_rfl
  case hra4 => kernel_rfl
  case hSa4 => first | assumption | trivial
  case hya4 => exact Or.inr ⟨by kernel_rfl, rfl⟩
  case hQa4 => exact fun _ _ _ h => h
  try simp only [Act.put, List.setIfInBounds_toArray, List.set_cons_zero, List.set_cons_succ]
  refine wpAnyH_take (i := 5) (oi := ?oia5) (v := undef) ?hia5 ?hsa5 ?hfa5 ?hra5 ?hQa5 ?hya5 ?hSa5 ?ha5
  case hia5 => (simp only [List.getElem?_toArray, List.getElem?_cons_succ, List.getElem?_cons_zero]; rfl)
  case hsa5 => kernel_rfl
  case hfa5 => kernel_rfl
  case hra5 => kernel_rfl
  case hSa5 => first | assumption | trivial
  case hya5 => exact Or.inr ⟨by kernel_rfl, rfl⟩
  case hQa5 => exact fun _ _ _ h => h
  try simp only [Act.put, List.setIfInBounds_toArray, List.set_cons_zero, List.set_cons_succ]
  refine wpAnyH_take (i := 6) (oi := ?oia6) (v := undef) ?hia6 ?hsa6 ?hfa6 ?hra6 ?hQa6 ?hya6 ?hSa6 ?ha6
  case hia6 => (simp only [List.getElem?_toArray, List.getElem?_cons_succ, List.getElem?_cons_zero]; rfl)
  case hsa6 => kernel_rfl
  case hfa6 => kernel_rfl
  case hra6 => kernel_rfl
  case hSa6 => first | assumption | trivial
  case hya6 => exact Or.inr ⟨by kernel_rfl, rfl⟩
  case hQa6 => exact fun _ _ _ h => h
  try simp only [Act.put, List.setIfInBounds_toArray, List.set_cons_zero, List.set_cons_succ]
  refine wpAnyH_take (i := 7) (oi := ?oia7) (v := undef) ?hia7 ?hsa7 ?hfa7 ?hra7 ?hQa7 ?hya7 ?hSa7 ?ha7
  case hia7 => (simp only [List.getElem?_toArray, List.getElem?_cons_succ, List.getElem?_cons_zero]; rfl)
  case hsa7 => kernel_rfl
  case hfa7 => kernel_rfl
  case hra7 => kernel_rfl
  case hSa7 => first | assumption | trivial
  case hya7 => exact Or.inr ⟨by kernel_rfl, rfl⟩
  case hQa7 => exact fun _ _ _ h => h
  try simp only [Act.put, List.setIfInBounds_toArray, List.set_cons_zero, List.set_cons_succ]
  refine wpAnyH_take (i := 8) (oi := ?oia8) (v := ?va8) ?hia8 ?hsa8 ?hfa8 ?hra8 ?hQa8 ?hya8 ?hSa8 ?ha8
  case hia8 => (simp only [List.getElem?_toArray, List.getElem?_cons_succ, List.getElem?_cons_zero]; rfl)
  case hsa8 => kernel_rfl
  case hfa8 => kernel_rfl
  case hra8 => kernel_rfl
  case hSa8 => first | assumption | trivial
  case hya8 => refine Or.inl ⟨by kernel_rfl, ?_⟩; (intro w hSw; (try dsimp only at hSw); go_simp; try with_reducible rfl)
  case hQa8 => exact fun _ _ _ h => h
  try simp only [Act.put, List.setIfInBounds_toArray, List.set_cons_zero, List.set_cons_succ]
  refine wpAnyH_take (i := 9) (oi := ?oia9) (v := ?va9) ?hia9 ?hsa9 ?hfa9 ?hra9 ?hQa9 ?hya9 ?hSa9 ?ha9
  case hia9 => (simp only [List.getElem?_toArray, List.getElem?_cons_succ, List.getElem?_cons_zero]; rfl)
  case hsa9 => kernel_rfl
  case hfa9 => kernel_rfl
  case hra9 => kernel_rfl
  case hSa9 => first | assumption | trivial
  case hya9 => refine Or.inl ⟨by kernel_rfl, ?_⟩; (intro w hSw; (try dsimp only at hSw); go_simp; try with_reducible rfl)
  case hQa9 => exact fun _ _ _ h => h
  try simp only [Act.put, List.setIfInBounds_toArray, List.set_cons_zero, List.set_cons_succ]
  refine wpAnyH_take (i := 10) (oi := ?oia10) (v := undef) ?hia10 ?hsa10 ?hfa10 ?hra10 ?hQa10 ?hya10 ?hSa10 ?ha10
  case hia10 => (simp only [List.getElem?_toArray, List.getElem?_cons_succ, List.getElem?_cons_zero]; rfl)
  case hsa10 => kernel_rfl
  case hfa10 => kernel_rfl
  case hra10 => kernel_rfl
  case hSa10 => first | assumption | trivial
  case hya10 => exact Or.inr ⟨by kernel_rfl, rfl⟩
  case hQa10 => exact fun _ _ _ h => h
  try simp only [Act.put, List.setIfInBounds_toArray, List.set_cons_zero, List.set_cons_succ]
  refine wpAnyH_take (i := 11) (oi := ?oia11) (v := undef) ?hia11 ?hsa11 ?hfa11 ?hra11 ?hQa11 ?hya11 ?hSa11 ?ha11
  case hia11 => (simp only [List.getElem?_toArray, List.getElem?_cons_succ, List.getElem?_cons_zero]; rfl)
  case hsa11 => kernel_rfl
  case hfa11 => kernel_rfl
  case hra11 => kernel_rfl
  case hSa11 => first | assumption | trivial
  case hya11 => exact Or.inr ⟨by kernel_rfl, rfl⟩
  case hQa11 => exact fun _ _ _ h => h
  try simp only [Act.put, List.setIfInBounds_toArray, List.set_cons_zero, List.set_cons_succ]
  refine wpAnyH_take (i := 12) (oi := ?oia12) (v := undef) ?hia12 ?hsa12 ?hfa12 ?hra12 ?hQa12 ?hya12 ?hSa12 ?ha12
  case hia12 => (simp only [List.getElem?_toArray, List.getElem?_cons_succ, List.getElem?_cons_zero]; rfl)
  case hsa12 => kernel_rfl
  case hfa12 => kernel_rfl
  case hra12 => kernel_rfl
  case hSa12 => first | assumption | trivial
  case hya12 => exact Or.inr ⟨by kernel_rfl, rfl⟩
  case hQa12 => exact fun _ _ _ h => h
  try simp only [Act.put, List.setIfInBounds_toArray, List.set_cons_zero, List.set_cons_succ]
  refine wpAnyH_take (i := 13) (oi := ?oia13) (v := undef) ?hia13 ?hsa13 ?hfa13 ?hra13 ?hQa13 ?hya13 ?hSa13 ?ha13
  case hia13 => (simp only [List.getElem?_toArray, List.getElem?_cons_succ, List.getElem?_cons_zero]; rfl)
  case hsa13 => kernel_rfl
  case hfa13 => kernel_rfl
  case hra13 => kernel_rfl
  case hSa13 => first | assumption | trivial
  case hya13 => exact Or.inr ⟨by kernel_rfl, rfl⟩
  case hQa13 => exact fun _ _ _ h => h
  try simp only [Act.put, List.setIfInBounds_toArray, List.set_cons_zero, List.set_cons_succ]
  refine wpAnyH_take (i := 14) (oi := ?oia14) (v := undef) ?hia14 ?hsa14 ?hfa14 ?hra14 ?hQa14 ?hya14 ?hSa14 ?ha14
  case hia14 => (simp only [List.getElem?_toArray, List.getElem?_cons_succ, List.getElem?_cons_zero]; rfl)
  case hsa14 => kernel_rfl
  case hfa14 => kernel_rfl
  case hra14 => kernel_rfl
  case hSa14 => first | assumption | trivial
  case hya14 => exact Or.inr ⟨by kernel_rfl, rfl⟩
  case hQa14 => exact fun _ _ _ h => h
  try simp only [Act.put, List.setIfInBounds_toArray, List.set_cons_zero, List.set_cons_succ]
  refine wpAnyH_take (i := 15) (oi := ?oia15) (v := undef) ?hia15 ?hsa15 ?hfa15 ?hra15 ?hQa15 ?hya15 ?hSa15 ?ha15
  case hia15 => (simp only [List.getElem?_toArray, List.getElem?_cons_succ, List.getElem?_cons_zero]; rfl)
  case hsa15 => kernel_rfl
  case hfa15 => kernel_rfl
  case hra15 => kernel_rfl
  case hSa15 => first | assumption | trivial
  case hya15 => exact Or.inr ⟨by kernel_rfl, rfl⟩
  case hQa15 => exact fun _ _ _ h => h
  try simp only [Act.put, List.setIfInBounds_toArray, List.set_cons_zero, List.set_cons_succ]
  refine wpAnyH_take (i := 16) (oi := ?oia16) (v := undef) ?hia16 ?hsa16 ?hfa16 ?hra16 ?hQa16 ?hya16 ?hSa16 ?ha16
  case hia16 => (simp only [List.getElem?_toArray, List.getElem?_cons_succ, List.getElem?_cons_zero]; rfl)
  case hsa16 => kernel_rfl
  case hfa16 => kernel_rfl
  case hra16 => kernel_rfl
  case hSa16 => first | assumption | trivial
  case hya16 => exact Or.inr ⟨by kernel_rfl, rfl⟩
  case hQa16 => exact fun _ _ _ h => h
  try simp only [Act.put, List.setIfInBounds_toArray, List.set_cons_zero, List.set_cons_succ]
  refine wpAnyH_take (i := 17) (oi := ?oia17) (v := undef) ?hia17 ?hsa17 ?hfa17 ?hra17 ?hQa17 ?hya17 ?hSa17 ?ha17
  case hia17 => (simp only [List.getElem?_toArray, List.getElem?_cons_succ, List.getElem?_cons_zero]; rfl)
  case hsa17 => kernel_rfl
  case hfa17 => kernel_rfl
  case hra17 => kernel_rfl
  case hSa17 => first | assumption | trivial
  case hya17 => exact Or.inr ⟨by kernel_rfl, rfl⟩
  case hQa17 => exact fun _ _ _ h => h
  try simp only [Act.put, List.setIfInBounds_toArray, List.set_cons_zero, List.set_cons_succ]
  refine wpAnyH_take (i := 18) (oi := ?oia18) (v := undef) ?hia18 ?hsa18 ?hfa18 ?hra18 ?hQa18 ?hya18 ?hSa18 ?ha18
  case hia18 => (simp only [List.getElem?_toArray, List.getElem?_cons_succ, List.getElem?_cons_zero]; rfl)
  case hsa18 => kernel_rfl
  case hfa18 => kernel_rfl
  case hra18 => kernel_rfl
  case hSa18 => first | assumption | trivial
  case hya18 => exact Or.inr ⟨by kernel_rfl, rfl⟩
  case hQa18 => exact fun _ _ _ h => h
  try simp only [Act.put, List.setIfInBounds_toArray, List.set_cons_zero, List.set_cons_succ]
  refine wpAnyH_take (i := 19) (oi := ?oia19) (v := ?va19) ?hia19 ?hsa19 ?hfa19 ?hra19 ?hQa19 ?hya19 ?hSa19 ?ha19
  case hia19 => (simp only [List.getElem?_toArray, List.getElem?_cons_succ, List.getElem?_cons_zero]; rfl)
  case hsa19 => kernel_rfl
  case hfa19 => kernel_rfl
  case hra19 => kernel_rfl
  case hSa19 => first | assumption | trivial
  case hya19 => refine Or.inl ⟨by kernel_rfl, ?_⟩; (intro w hSw; (try dsimp only at hSw); go_simp; try with_reducible rfl)
  case hQa19 => exact fun _ _ _ h => h
  try simp only [Act.put, List.setIfInBounds_toArray, List.set_cons_zero, List.set_cons_succ]
  refine wpAnyH_done (by kernel_rfl) ?_ _
  go_wp2_with fail
  go_ret2
  exact ⟨rfl, HM2.out, HMD2.out⟩
theorem row_form {w : World} {b e k n : Nat} {v : Value} {xs : List Value} (h : w.ownsRow b e k v n xs) : ∃ ao cap, v = .slice ao n cap := by
  rcases h.2 with ⟨rfl, rfl⟩ | ⟨g, cap, cur, rfl, _⟩
  · exact ⟨none, 0, rfl⟩
  · exact ⟨_, cap, rfl⟩
set_option maxHeartbeats 1000000 in
set_option maxRecDepth 100000 in
theorem mget_bad {w : World} {mb : Nat} {st : MemT} {v : Value} (h : IsMem w mb st v) (p : PtrT) (hc : st.count + 1 < 1000000000) (ha : awakeB (st.count + 1) st.fails = true) (hp : p.aa < 0 ∨ (st.L.length : Int) ≤ p.aa) :
    Calls Tryd.prog 122 #[.pointer (some ⟨mb, 0, none⟩), .agg (encPtr p).toArray] w fun e w' => e = .returned (.tuple #[.string ⟨#[]⟩, .int .i64 6]) ∧ IsMem w' mb st.next v ∧ Mod (fun k => k = mb) w w' := by
  obtain ⟨ao, cap, rfl⟩ := row_form h.row
  obtain ⟨w0, hw0⟩ : ∃ w0, w0 = w.alloc (.cells (encPtr p).toArray 35) := ⟨_, rfl⟩
  have HBX : Hid (Blk w0 w.heap.size 35 (encPtr p)) := by rw [hw0]; exact Lib.hid (Blk.new w _ _)
  have HM0 : Hid (IsMem w0 mb st (.slice ao st.L.length cap)) := by rw [hw0]; exact Lib.hid (h.below ((Below.refl _ _).alloc (Nat.le_refl _) _))
  have HME : Hid (IsMem w0.drew mb st (.slice ao st.L.length cap)) := Lib.hid (HM0.out.below (Below.refl _ _).drew)
  have HNE : Hid (w.heap.size ≠ mb) := Lib.hid (fun e => by have := h.blk.lt; omega)
  have HA := Lib.hid ha
  clear ha
  by_cases hn : p.aa < 0
  · have HQ : Hid (decide (p.aa < 0) = true) := Lib.hid (by simpa using hn)
    go_enter Tryd.func122, Tryd.ntmps122
    go_upto_region 1 with fail
    rw [show w.alloc (.cells (encPtr p).toArray 35) = w0 from hw0.symm]
    have HMD : Hid (Mod (fun k => k = mb) w w0.drew) := Lib.hid (by rw [hw0]; exact ((Mod.refl _ w).alloc _).drew)
    clear hw0
    refine wp_region_held_drew (S := fun w' => w'.cell? ⟨w.heap.size, 1, none⟩ = some (.int .i64 p.aa) ∧ w'.cell? ⟨mb, 0, none⟩ = some (.slice ao st.L.length cap)) (by kernel_rfl) ⟨HBX.out.drew.cell 1, HME.out.c0⟩ (fun hS0 => ?_)
    refine wpAnyH_take (i := 0) (oi := ?oia0) (v := ?va0) ?hia0 ?hsa0 ?hfa0 ?hra0 ?hQa0 ?hya0 ?hSa0 ?ha0
    case hia0 => (simp only [List.getElem?_toArray, List.getElem?_cons_succ, List.getElem?_cons_zero]; rfl)
    case hsa0 => kernel_rfl
    case hfa0 => kernel_rfl
    case hra0 => kernel_rfl
    case hSa0 => first | assumption | trivial
    case hya0 => refine Or.inl ⟨by kernel_rfl, ?_⟩; (intro w hSw; (try dsimp only at hSw); go_simp; try with_reducible rfl)
    case hQa0 => exact fun _ _ _ h => h
    try simp only [Act.put, List.setIfInBounds_toArray, List.set_cons_zero, List.set_cons_succ]
    refine wpAnyH_ready (rs := [1]) (by kernel_rfl) (by simp) ?_
    refine AllReadyH.cons (by simp only [List.getElem?_toArray, List.getElem?_cons_succ, List.getElem?_cons_zero]; rfl) (fun K hK => ?_) AllReadyH.nil
    go_simp
    refine (step_any HME.out).mono ?_
    rintro e w2 ⟨rfl, nd, rfl⟩
    try dsimp only
    have HM2 := Lib.hid (HME.out.stepped hc nd)
    have HMD2 := Lib.hid (HMD.out.self (setCell_mod w0.drew mb 1 (.int .i64 ((st.count : Int) + 1)) nd))
    have HBX2 := Lib.hid ((setCell_mod w0.drew mb 1 (.int .i64 ((st.count : Int) + 1)) nd).blk HBX.out.drew HNE.out)
    rw [HA.out]
    obtain ⟨w9, hw9⟩ : ∃ x, x = (w0.drew.setCell ⟨mb, 1, none⟩ (.int .i64 ((st.count : Int) + 1))).drewN nd := ⟨_, rfl⟩
    rw [← hw9] at HM2 HMD2 HBX2 ⊢
    clear hw9
    refine hK.out _ _ (⟨HBX2.out.cell 1, HM2.out.c0⟩) (fun hSa1 => ?_)
    try simp only [Act.put, List.setIfInBounds_toArray, List.set_cons_zero, List.set_cons_succ]
    refine wpAnyH_take (i := 2) (oi := ?oia2) (v := ?va2) ?hia2 ?hsa2 ?hfa2 ?hra2 ?hQa2 ?hya2 ?hSa2 ?ha2
    case hia2 => (simp only [List.getElem?_toArray, List.getElem?_cons_succ, List.getElem?_cons_zero]; rfl)
    case hsa2 => kernel_rfl
    case hfa2 => kernel_rfl
    case hra2 => kernel_rfl
    case hSa2 => first | assumption | trivial
    case hya2 => refine Or.inl ⟨by kernel_rfl, ?_⟩; (intro w hSw; (try dsimp only at hSw); go_simp; try with_reducible rfl)
    case hQa2 => exact fun _ _ _ h => h
    try simp only [Act.put, List.setIfInBounds_toArray, List.set_cons_zero, List.set_cons_succ]
    refine wpAnyH_take (i := 3) (oi := ?oia3) (v := ?va3) ?hia3 ?hsa3 ?hfa3 ?hra3 ?hQa3 ?hya3 ?hSa3 ?ha3
    case hia3 => (simp only [List.getElem?_toArray, List.getElem?_cons_succ, List.getElem?_cons_zero]; rfl)
    case hsa3 => kernel_rfl
    case hfa3 => kernel_rfl
    case hra3 => kernel_rfl
    case hSa3 => first | assumption | trivial
    case hya3 => refine Or.inl ⟨by kernel_rfl, ?_⟩; (intro w hSw; (try dsimp only at hSw); go_simp; try with_reducible rfl)
    case hQa3 => exact fun _ _ _ h => h
    try simp only [Act.put, List.setIfInBounds_toArray, List.set_cons_zero, List.set_cons_succ]
    refine wpAnyH_take (i := 4) (oi := ?oia4) (v := ?va4) ?hia4 ?hsa4 ?hfa4 ?hra4 ?hQa4 ?hya4 ?hSa4 ?ha4
    case hia4 => (simp only [List.getElem?_toArray, List.getElem?_cons_succ, List.getElem?_cons_zero]; rfl)
    case hsa4 => kernel_rfl
    case hfa4 => kernel_rfl
    case hra4 => kernel_rfl
    case hSa4 => first | assumption | trivial
    case hya4 => refine Or.inl ⟨by kernel_rfl, ?_⟩; (intro w hSw; (try dsimp only at hSw); go_simp; try with_reducible rfl)
    case hQa4 => exact fun _ _ _ h => h
    try simp only [Act.put, List.setIfInBounds_toArray, List.set_cons_zero, List.set_cons_succ]
    refine wpAnyH_take (i := 5) (oi := ?oia5) (v := ?va5) ?hia5 ?hsa5 ?hfa5 ?hra5 ?hQa5 ?hya5 ?hSa5 ?ha5
    case hia5 => (simp only [List.getElem?_toArray, List.getElem?_cons_succ, List.getElem?_cons_zero]; rfl)
    case hsa5 => kernel_rfl
    case hfa5 => kernel_rfl
    case hra5 => kernel_rfl
    case hSa5 => first | assumption | trivial
    case hya5 => refine Or.inl ⟨by kernel_rfl, ?_⟩; (intro w hSw; (try dsimp only at hSw); go_simp; try with_reducible rfl)
    case hQa5 => exact fun _ _ _ h => h
    try simp only [Act.put, List.setIfInBounds_toArray, List.set_cons_zero, List.set_cons_succ]
    refine wpAnyH_take (i := 6) (oi := ?oia6) (v := ?va6) ?hia6 ?hsa6 ?hfa6 ?hra6 ?hQa6 ?hya6 ?hSa6 ?ha6
    case hia6 => (simp only [List.getElem?_toArray, List.getElem?_cons_succ, List.getElem?_cons_zero]; rfl)
    case hsa6 => kernel_rfl
    case hfa6 => kernel_rfl
    case hra6 => kernel_rfl
    case hSa6 => first | assumption | trivial
    case hya6 => refine Or.inl ⟨by kernel_rfl, ?_⟩; (intro w hSw; (try dsimp only at hSw); go_simp; first | with_reducible rfl | (rw [hSw.1]; rfl) | rfl)
    case hQa6 => exact fun _ _ _ h => h
    try simp only [Act.put, List.setIfInBounds_toArray, List.set_cons_zero, List.set_cons_succ]
    refine wpAnyH_take (i := 7) (oi := ?oia7) (v := ?va7) ?hia7 ?hsa7 ?hfa7 ?hra7 ?hQa7 ?hya7 ?hSa7 ?ha7
    case hia7 => (simp only [List.getElem?_toArray, List.getElem?_cons_succ, List.getElem?_cons_zero]; rfl)
    case hsa7 => kernel_rfl
    case hfa7 => kernel_rfl
    case hra7 => kernel_rfl
    case hSa7 => first | assumption | trivial
    case hya7 => refine Or.inl ⟨by kernel_rfl, ?_⟩; (intro w hSw; (try dsimp only at hSw); go_simp; first | with_reducible rfl | rw [HQ.out] | simp only [HQ.out])
    case hQa7 => exact fun _ _ _ h => h
    try simp only [Act.put, List.setIfInBounds_toArray, List.set_cons_zero, List.set_cons_succ]
    refine wpAnyH_take (i := 8) (oi := ?oia8) (v := ?va8) ?hia8 ?hsa8 ?hfa8 ?hra8 ?hQa8 ?hya8 ?hSa8 ?ha8
    case hia8 => (simp only [List.getElem?_toArray, List.getElem?_cons_succ, List.getElem?_cons_zero]; rfl)
    case hsa8 => kernel_rfl
    case hfa8 => kernel_rfl
    case hra8 => kernel_rfl
    case hSa8 => first | assumption | trivial
    case hya8 => refine Or.inl ⟨by kernel_rfl, ?_⟩; (intro w hSw; (try dsimp only at hSw); go_simp; try with_reducible rfl)
    case hQa8 => exact fun _ _ _ h => h
    try simp only [Act.put, List.setIfInBounds_toArray, List.set_cons_zero, List.set_cons_succ]
    refine wpAnyH_take (i := 9) (oi := ?oia9) (v := ?va9) ?hia9 ?hsa9 ?hfa9 ?hra9 ?hQa9 ?hya9 ?hSa9 ?ha9
    case hia9 => (simp only [List.getElem?_toArray, List.getElem?_cons_succ, List.getElem?_cons_zero]; rfl)
    case hsa9 => kernel_rfl
    case hfa9 => kernel_rfl
    case hra9 => kernel_rfl
    case hSa9 => first | assumption | trivial
    case hya9 => refine Or.inl ⟨by kernel_rfl, ?_⟩; (intro w hSw; (try dsimp only at hSw); go_simp; try with_reducible rfl)
    case hQa9 => exact fun _ _ _ h => h
    try simp only [Act.put, List.setIfInBounds_toArray, List.set_cons_zero, List.set_cons_succ]
    refine wpAnyH_take (i := 10) (oi := ?oia10) (v := undef) ?hia10 ?hsa10 ?hfa10 ?hra10 ?hQa10 ?hya10 ?hSa10 ?ha10
    case hia10 => (simp only [List.getElem?_toArray, List.getElem?_cons_succ, List.getElem?_cons_zero]; rfl)
    case hsa10 => kernel_rfl
    case hfa10 => kernel_rfl
    case hra10 => kernel_rfl
    case hSa10 => first | assumption | trivial
    case hya10 => exact Or.inr ⟨by kernel_rfl, rfl⟩
    case hQa10 => exact fun _ _ _ h => h
    try simp only [Act.put, List.setIfInBounds_toArray, List.set_cons_zero, List.set_cons_succ]
    refine wpAnyH_take (i := 11) (oi := ?oia11) (v := undef) ?hia11 ?hsa11 ?hfa11 ?hra11 ?hQa11 ?hya11 ?hSa11 ?ha11
    case hia11 => (simp only [List.getElem?_toArray, List.getElem?_cons_succ, List.getElem?_cons_zero]; rfl)
    case hsa11 => kernel_rfl
    case hfa11 => kernel_rfl
    case hra11 => kernel_rfl
    case hSa11 => first | assumption | trivial
    case hya11 => exact Or.inr ⟨by kernel_rfl, rfl⟩
    case hQa11 => exact fun _ _ _ h => h
    try simp only [Act.put, List.setIfInBounds_toArray, List.set_cons_zero, List.set_cons_succ]
    refine wpAnyH_take (i := 12) (oi := ?oia12) (v := undef) ?hia12 ?hsa12 ?hfa12 ?hra12 ?hQa12 ?hya12 ?hSa12 ?ha12
    case hia12 => (simp only [List.getElem?_toArray, List.getElem?_cons_succ, List.getElem?_cons_zero]; rfl)
    case hsa12 => kernel_rfl
    case hfa12 => kernel_rfl
    case hra12 => kernel_rfl
    case hSa12 => first | assumption | trivial
    case hya12 => exact Or.inr ⟨by kernel_rfl, rfl⟩
    case hQa12 => exact fun _ _ _ h => h
    try simp only [Act.put, List.setIfInBounds_toArray, List.set_cons_zero, List.set_cons_succ]
    refine wpAnyH_take (i := 13) (oi := ?oia13) (v := undef) ?hia13 ?hsa13 ?hfa13 ?hra13 ?hQa13 ?hya13 ?hSa13 ?ha13
    case hia13 => (simp only [List.getElem?_toArray, List.getElem?_cons_succ, List.getElem?_cons_zero]; rfl)
    case hsa13 => kernel_rfl
    case hfa13 => kernel_rfl
    case hra13 => kernel_rfl
    case hSa13 => first | assumption | trivial
    case hya13 => exact Or.inr ⟨by kernel_rfl, rfl⟩
    case hQa13 => exact fun _ _ _ h => h
    try simp only [Act.put, List.setIfInBounds_toArray, List.set_cons_zero, List.set_cons_succ]
    refine wpAnyH_take (i := 14) (oi := ?oia14) (v := undef) ?hia14 ?hsa14 ?hfa14 ?hra14 ?hQa14 ?hya14 ?hSa14 ?ha14
    case hia14 => (simp only [List.getElem?_toArray, List.getElem?_cons_succ, List.getElem?_cons_zero]; rfl)
    case hsa14 => kernel_rfl
    case hfa14 => kernel_rfl
    case hra14 => kernel_rfl
    case hSa14 => first | assumption | trivial
    case hya14 => exact Or.inr ⟨by kernel_rfl, rfl⟩
    case hQa14 => exact fun _ _ _ h => h
    try simp only [Act.put, List.setIfInBounds_toArray, List.set_cons_zero, List.set_cons_succ]
    refine wpAnyH_take (i := 15) (oi := ?oia15) (v := undef) ?hia15 ?hsa15 ?hfa15 ?hra15 ?hQa15 ?hya15 ?hSa15 ?ha15
    case hia15 => (simp only [List.getElem?_toArray, List.getElem?_cons_succ, List.getElem?_cons_zero]; rfl)
    case hsa15 => kernel_rfl
    case hfa15 => kernel_rfl
    case hra15 => kernel_rfl
    case hSa15 => first | assumption | trivial
    case hya15 => exact Or.inr ⟨by kernel_rfl, rfl⟩
    case hQa15 => exact fun _ _ _ h => h
    try simp only [Act.put, List.setIfInBounds_toArray, List.set_cons_zero, List.set_cons_succ]
    refine wpAnyH_take (i := 16) (oi := ?oia16) (v := undef) ?hia16 ?hsa16 ?hfa16 ?hra16 ?hQa16 ?hya16 ?hSa16 ?ha16
    case hia16 => (simp only [List.getElem?_toArray, List.getElem?_cons_succ, List.getElem?_cons_zero]; rfl)
    case hsa16 => kernel_rfl
    case hfa16 => kernel_rfl
    case hra16 => kernel_rfl
    case hSa16 => first | assumption | trivial
    case hya16 => exact Or.inr ⟨by kernel_rfl, rfl⟩
    case hQa16 => exact fun _ _ _ h => h
    try simp only [Act.put, List.setIfInBounds_toArray, List.set_cons_zero, List.set_cons_succ]
    refine wpAnyH_take (i := 17) (oi := ?oia17) (v := undef) ?hia17 ?hsa17 ?hfa17 ?hra17 ?hQa17 ?hya17 ?hSa17 ?ha17
    case hia17 => (simp only [List.getElem?_toArray, List.getElem?_cons_succ, List.getElem?_cons_zero]; rfl)
    case hsa17 => kernel_rfl
    case hfa17 => kernel_rfl
    case hra17 => kernel_rfl
    case hSa17 => first | assumption | trivial
    case hya17 => exact Or.inr ⟨by kernel_rfl, rfl⟩
    case hQa17 => exact fun _ _ _ h => h
    try simp only [Act.put, List.setIfInBounds_toArray, List.set_cons_zero, List.set_cons_succ]
    refine wpAnyH_take (i := 18) (oi := ?oia18) (v := undef) ?hia18 ?hsa18 ?hfa18 ?hra18 ?hQa18 ?hya18 ?hSa18 ?ha18
    case hia18 => (simp only [List.getElem?_toArray, List.getElem?_cons_succ, List.getElem?_cons_zero]; rfl)
    case hsa18 => kernel_rfl
    case hfa18 => kernel_rfl
    case hra18 => kernel_rfl
    case hSa18 => first | assumption | trivial
    case hya18 => exact Or.inr ⟨by kernel_rfl, rfl⟩
    case hQa18 => exact fun _ _ _ h => h
    try simp only [Act.put, List.setIfInBounds_toArray, List.set_cons_zero, List.set_cons_succ]
    refine wpAnyH_take (i := 19) (oi := ?oia19) (v := ?va19) ?hia19 ?hsa19 ?hfa19 ?hra19 ?hQa19 ?hya19 ?hSa19 ?ha19
    case hia19 => (simp only [List.getElem?_toArray, List.getElem?_cons_succ, List.getElem?_cons_zero]; rfl)
    case hsa19 => kernel_rfl
    case hfa19 => kernel_rfl
    case hra19 => kernel_rfl
    case hSa19 => first | assumption | trivial
    case hya19 => refine Or.inl ⟨by kernel_rfl, ?_⟩; (intro w hSw; (try dsimp only at hSw); go_simp; try with_reducible rfl)
    case hQa19 => exact fun _ _ _ h => h
    try simp only [Act.put, List.setIfInBounds_toArray, List.set_cons_zero, List.set_cons_succ]
    refine wpAnyH_done (by kernel_rfl) ?_ _
    go_wp2_with fail
    go_ret2
    exact ⟨rfl, HM2.out, HMD2.out⟩
  · have HQ : Hid (decide (p.aa < 0) = false) := Lib.hid (by simpa using hn)
    have HQ2 : Hid (decide ((st.L.length : Int) ≤ p.aa) = true) := Lib.hid (by simpa using hp.resolve_left hn)
    go_enter Tryd.func122, Tryd.ntmps122
    go_upto_region 1 with fail
    rw [show w.alloc (.cells (encPtr p).toArray 35) = w0 from hw0.symm]
    have HMD : Hid (Mod (fun k => k = mb) w w0.drew) := Lib.hid (by rw [hw0]; exact ((Mod.refl _ w).alloc _).drew)
    clear hw0
    refine wp_region_held_drew (S := fun w' => w'.cell? ⟨w.heap.size, 1, none⟩ = some (.int .i64 p.aa) ∧ w'.cell? ⟨mb, 0, none⟩ = some (.slice ao st.L.length cap)) (by kernel_rfl) ⟨HBX.out.drew.cell 1, HME.out.c0⟩ (fun hS0 => ?_)
    refine wpAnyH_take (i := 0) (oi := ?oib0) (v := ?vb0) ?hib0 ?hsb0 ?hfb0 ?hrb0 ?hQb0 ?hyb0 ?hSb0 ?hb0
    case hib0 => (simp only [List.getElem?_toArray, List.getElem?_cons_succ, List.getElem?_cons_zero]; rfl)
    case hsb0 => kernel_rfl
    case hfb0 => kernel_rfl
    case hrb0 => kernel_rfl
    case hSb0 => first | assumption | trivial
    case hyb0 => refine Or.inl ⟨by kernel_rfl, ?_⟩; (intro w hSw; (try dsimp only at hSw); go_simp; try with_reducible rfl)
    case hQb0 => exact fun _ _ _ h => h
    try simp only [Act.put, List.setIfInBounds_toArray, List.set_cons_zero, List.set_cons_succ]
    refine wpAnyH_ready (rs := [1]) (by kernel_rfl) (by simp) ?_
    refine AllReadyH.cons (by simp only [List.getElem?_toArray, List.getElem?_cons_succ, List.getElem?_cons_zero]; rfl) (fun K hK => ?_) AllReadyH.nil
    go_simp
    refine (step_any HME.out).mono ?_
    rintro e w2 ⟨rfl, nd, rfl⟩
    try dsimp only
    have HM2 := Lib.hid (HME.out.stepped hc nd)
    have HMD2 := Lib.hid (HMD.out.self (setCell_mod w0.drew mb 1 (.int .i64 ((st.count : Int) + 1)) nd))
    have HBX2 := Lib.hid ((setCell_mod w0.drew mb 1 (.int .i64 ((st.count : Int) + 1)) nd).blk HBX.out.drew HNE.out)
    rw [HA.out]
    obtain ⟨w9, hw9⟩ : ∃ x, x = (w0.drew.setCell ⟨mb, 1, none⟩ (.int .i64 ((st.count : Int) + 1))).drewN nd := ⟨_, rfl⟩
    rw [← hw9] at HM2 HMD2 HBX2 ⊢
    clear hw9
    refine hK.out _ _ (⟨HBX2.out.cell 1, HM2.out.c0⟩) (fun hSb1 => ?_)
    try simp only [Act.put, List.setIfInBounds_toArray, List.set_cons_zero, List.set_cons_succ]
    refine wpAnyH_take (i := 2) (oi := ?oib2) (v := ?vb2) ?hib2 ?hsb2 ?hfb2 ?hrb2 ?hQb2 ?hyb2 ?hSb2 ?hb2
    case hib2 => (simp only [List.getElem?_toArray, List.getElem?_cons_succ, List.getElem?_cons_zero]; rfl)
    case hsb2 => kernel_rfl
    case hfb2 => kernel_rfl
    case hrb2 => kernel_rfl
    case hSb2 => first | assumption | trivial
    case hyb2 => refine Or.inl ⟨by kernel_rfl, ?_⟩; (intro w hSw; (try dsimp only at hSw); go_simp; try with_reducible rfl)
    case hQb2 => exact fun _ _ _ h => h
    try simp only [Act.put, List.setIfInBounds_toArray, List.set_cons_zero, List.set_cons_succ]
    refine wpAnyH_take (i := 3) (oi := ?oib3) (v := ?vb3) ?hib3 ?hsb3 ?hfb3 ?hrb3 ?hQb3 ?hyb3 ?hSb3 ?hb3
    case hib3 => (simp only [List.getElem?_toArray, List.getElem?_cons_succ, List.getElem?_cons_zero]; rfl)
    case hsb3 => kernel_rfl
    case hfb3 => kernel_rfl
    case hrb3 => kernel_rfl
    case hSb3 => first | assumption | trivial
    case hyb3 => refine Or.inl ⟨by kernel_rfl, ?_⟩; (intro w hSw; (try dsimp only at hSw); go_simp; try with_reducible rfl)
    case hQb3 => exact fun _ _ _ h => h
    try simp only [Act.put, List.setIfInBounds_toArray, List.set_cons_zero, List.set_cons_succ]
    refine wpAnyH_take (i := 4) (oi := ?oib4) (v := ?vb4) ?hib4 ?hsb4 ?hfb4 ?hrb4 ?hQb4 ?hyb4 ?hSb4 ?hb4
    case hib4 => (simp only [List.getElem?_toArray, List.getElem?_cons_succ, List.getElem?_cons_zero]; rfl)
    case hsb4 => kernel_rfl
    case hfb4 => kernel_rfl
    case hrb4 => kernel_rfl
    case hSb4 => first | assumption | trivial
    case hyb4 => refine Or.inl ⟨by kernel_rfl, ?_⟩; (intro w hSw; (try dsimp only at hSw); go_simp; try with_reducible rfl)
    case hQb4 => exact fun _ _ _ h => h
    try simp only [Act.put, List.setIfInBounds_toArray, List.set_cons_zero, List.set_cons_succ]
    refine wpAnyH_take (i := 5) (oi := ?oib5) (v := ?vb5) ?hib5 ?hsb5 ?hfb5 ?hrb5 ?hQb5 ?hyb5 ?hSb5 ?hb5
    case hib5 => (simp only [List.getElem?_toArray, List.getElem?_cons_succ, List.getElem?_cons_zero]; rfl)
    case hsb5 => kernel_rfl
    case hfb5 => kernel_rfl
    case hrb5 => kernel_rfl
    case hSb5 => first | assumption | trivial
    case hyb5 => refine Or.inl ⟨by kernel_rfl, ?_⟩; (intro w hSw; (try dsimp only at hSw); go_simp; try with_reducible rfl)
    case hQb5 => exact fun _ _ _ h => h
    try simp only [Act.put, List.setIfInBounds_toArray, List.set_cons_zero, List.set_cons_succ]
    refine wpAnyH_take (i := 6) (oi := ?oib6) (v := ?vb6) ?hib6 ?hsb6 ?hfb6 ?hrb6 ?hQb6 ?hyb6 ?hSb6 ?hb6
    case hib6 => (simp only [List.getElem?_toArray, List.getElem?_cons_succ, List.getElem?_cons_zero]; rfl)
    case hsb6 => kernel_rfl
    case hfb6 => kernel_rfl
    case hrb6 => kernel_rfl
    case hSb6 => first | assumption | trivial
    case hyb6 => refine Or.inl ⟨by kernel_rfl, ?_⟩; (intro w hSw; (try dsimp only at hSw); go_simp; first | with_reducible rfl | (rw [hSw.1]; rfl) | rfl)
    case hQb6 => exact fun _ _ _ h => h
    try simp only [Act.put, List.setIfInBounds_toArray, List.set_cons_zero, List.set_cons_succ]
    refine wpAnyH_take (i := 7) (oi := ?oib7) (v := ?vb7) ?hib7 ?hsb7 ?hfb7 ?hrb7 ?hQb7 ?hyb7 ?hSb7 ?hb7
    case hib7 => (simp only [List.getElem?_toArray, List.getElem?_cons_succ, List.getElem?_cons_zero]; rfl)
    case hsb7 => kernel_rfl
    case hfb7 => kernel_rfl
    case hrb7 => kernel_rfl
    case hSb7 => first | assumption | trivial
    case hyb7 => refine Or.inl ⟨by kernel_rfl, ?_⟩; (intro w hSw; (try dsimp only at hSw); go_simp; first | with_reducible rfl | rw [HQ.out] | simp only [HQ.out])
    case hQb7 => exact fun _ _ _ h => h
    try simp only [Act.put, List.setIfInBounds_toArray, List.set_cons_zero, List.set_cons_succ]
    refine wpAnyH_take (i := 8) (oi := ?oib8) (v := ?vb8) ?hib8 ?hsb8 ?hfb8 ?hrb8 ?hQb8 ?hyb8 ?hSb8 ?hb8
    case hib8 => (simp only [List.getElem?_toArray, List.getElem?_cons_succ, List.getElem?_cons_zero]; rfl)
    case hsb8 => kernel_rfl
    case hfb8 => kernel_rfl
    case hrb8 => kernel_rfl
    case hSb8 => first | assumption | trivial
    case hyb8 => refine Or.inl ⟨by kernel_rfl, ?_⟩; (intro w hSw; (try dsimp only at hSw); go_simp; try with_reducible rfl)
    case hQb8 => exact fun _ _ _ h => h
    try simp only [Act.put, List.setIfInBounds_toArray, List.set_cons_zero, List.set_cons_succ]
    refine wpAnyH_take (i := 9) (oi := ?oib9) (v := ?vb9) ?hib9 ?hsb9 ?hfb9 ?hrb9 ?hQb9 ?hyb9 ?hSb9 ?hb9
    case hib9 => (simp only [List.getElem?_toArray, List.getElem?_cons_succ, List.getElem?_cons_zero]; rfl)
    case hsb9 => kernel_rfl
    case hfb9 => kernel_rfl
    case hrb9 => kernel_rfl
    case hSb9 => first | assumption | trivial
    case hyb9 => refine Or.inl ⟨by kernel_rfl, ?_⟩; (intro w hSw; (try dsimp only at hSw); go_simp; try with_reducible rfl)
    case hQb9 => exact fun _ _ _ h => h
    try simp only [Act.put, List.setIfInBounds_toArray, List.set_cons_zero, List.set_cons_succ]
    refine wpAnyH_take (i := 10) (oi := ?oib10) (v := ?vb10) ?hib10 ?hsb10 ?hfb10 ?hrb10 ?hQb10 ?hyb10 ?hSb10 ?hb10
    case hib10 => (simp only [List.getElem?_toArray, List.getElem?_cons_succ, List.getElem?_cons_zero]; rfl)
    case hsb10 => kernel_rfl
    case hfb10 => kernel_rfl
    case hrb10 => kernel_rfl
    case hSb10 => first | assumption | trivial
    case hyb10 => refine Or.inl ⟨by kernel_rfl, ?_⟩; (intro w hSw; (try dsimp only at hSw); go_simp; try with_reducible rfl)
    case hQb10 => exact fun _ _ _ h => h
    try simp only [Act.put, List.setIfInBounds_toArray, List.set_cons_zero, List.set_cons_succ]
    refine wpAnyH_take (i := 11) (oi := ?oib11) (v := ?vb11) ?hib11 ?hsb11 ?hfb11 ?hrb11 ?hQb11 ?hyb11 ?hSb11 ?hb11
    case hib11 => (simp only [List.getElem?_toArray, List.getElem?_cons_succ, List.getElem?_cons_zero]; rfl)
    case hsb11 => kernel_rfl
    case hfb11 => kernel_rfl
    case hrb11 => kernel_rfl
    case hSb11 => first | assumption | trivial
    case hyb11 => refine Or.inl ⟨by kernel_rfl, ?_⟩; (intro w hSw; (try dsimp only at hSw); go_simp; try with_reducible rfl)
    case hQb11 => exact fun _ _ _ h => h
    try simp only [Act.put, List.setIfInBounds_toArray, List.set_cons_zero, List.set_cons_succ]
    refine wpAnyH_take (i := 12) (oi := ?oib12) (v := ?vb12) ?hib12 ?hsb12 ?hfb12 ?hrb12 ?hQb12 ?hyb12 ?hSb12 ?hb12
    case hib12 => (simp only [List.getElem?_toArray, List.getElem?_cons_succ, List.getElem?_cons_zero]; rfl)
    case hsb12 => kernel_rfl
    case hfb12 => kernel_rfl
    case hrb12 => kernel_rfl
    case hSb12 => first | assumption | trivial
    case hyb12 => refine Or.inl ⟨by kernel_rfl, ?_⟩; (intro w hSw; (try dsimp only at hSw); go_simp; first | with_reducible rfl | (rw [hSw.1]; rfl) | rfl)
    case hQb12 => exact fun _ _ _ h => h
    try simp only [Act.put, List.setIfInBounds_toArray, List.set_cons_zero, List.set_cons_succ]
    refine wpAnyH_take (i := 13) (oi := ?oib13) (v := ?vb13) ?hib13 ?hsb13 ?hfb13 ?hrb13 ?hQb13 ?hyb13 ?hSb13 ?hb13
    case hib13 => (simp only [List.getElem?_toArray, List.getElem?_cons_succ, List.getElem?_cons_zero]; rfl)
    case hsb13 => kernel_rfl
    case hfb13 => kernel_rfl
    case hrb13 => kernel_rfl
    case hSb13 => first | assumption | trivial
    case hyb13 => refine Or.inl ⟨by kernel_rfl, ?_⟩; (intro w hSw; (try dsimp only at hSw); go_simp; try with_reducible rfl)
    case hQb13 => exact fun _ _ _ h => h
    try simp only [Act.put, List.setIfInBounds_toArray, List.set_cons_zero, List.set_cons_succ]
    refine wpAnyH_take (i := 14) (oi := ?oib14) (v := ?vb14) ?hib14 ?hsb14 ?hfb14 ?hrb14 ?hQb14 ?hyb14 ?hSb14 ?hb14
    case hib14 => (simp only [List.getElem?_toArray, List.getElem?_cons_succ, List.getElem?_cons_zero]; rfl)
    case hsb14 => kernel_rfl
    case hfb14 => kernel_rfl
    case hrb14 => kernel_rfl
    case hSb14 => first | assumption | trivial
    case hyb14 => refine Or.inl ⟨by kernel_rfl, ?_⟩; (intro w hSw; (try dsimp only at hSw); go_simp; try with_reducible rfl)
    case hQb14 => exact fun _ _ _ h => h
    try simp only [Act.put, List.setIfInBounds_toArray, List.set_cons_zero, List.set_cons_succ]
    refine wpAnyH_take (i := 15) (oi := ?oib15) (v := ?vb15) ?hib15 ?hsb15 ?hfb15 ?hrb15 ?hQb15 ?hyb15 ?hSb15 ?hb15
    case hib15 => (simp only [List.getElem?_toArray, List.getElem?_cons_succ, List.getElem?_cons_zero]; rfl)
    case hsb15 => kernel_rfl
    case hfb15 => kernel_rfl
    case hrb15 => kernel_rfl
    case hSb15 => first | assumption | trivial
    case hyb15 => refine Or.inl ⟨by kernel_rfl, ?_⟩; (intro w hSw; (try dsimp only at hSw); go_simp; try with_reducible rfl)
    case hQb15 => exact fun _ _ _ h => h
    try simp only [Act.put, List.setIfInBounds_toArray, List.set_cons_zero, List.set_cons_succ]
    refine wpAnyH_take (i := 16) (oi := ?oib16) (v := ?vb16) ?hib16 ?hsb16 ?hfb16 ?hrb16 ?hQb16 ?hyb16 ?hSb16 ?hb16
    case hib16 => (simp only [List.getElem?_toArray, List.getElem?_cons_succ, List.getElem?_cons_zero]; rfl)
    case hsb16 => kernel_rfl
    case hfb16 => kernel_rfl
    case hrb16 => kernel_rfl
    case hSb16 => first | assumption | trivial
    case hyb16 => refine Or.inl ⟨by kernel_rfl, ?_⟩; (intro w hSw; (try dsimp only at hSw); go_simp; first | with_reducible rfl | (rw [hSw.2]; rfl) | rfl)
    case hQb16 => exact fun _ _ _ h => h
    try simp only [Act.put, List.setIfInBounds_toArray, List.set_cons_zero, List.set_cons_succ]
    refine wpAnyH_take (i := 17) (oi := ?oib17) (v := ?vb17) ?hib17 ?hsb17 ?hfb17 ?hrb17 ?hQb17 ?hyb17 ?hSb17 ?hb17
    case hib17 => (simp only [List.getElem?_toArray, List.getElem?_cons_succ, List.getElem?_cons_zero]; rfl)
    case hsb17 => kernel_rfl
    case hfb17 => kernel_rfl
    case hrb17 => kernel_rfl
    case hSb17 => first | assumption | trivial
    case hyb17 => refine Or.inl ⟨by kernel_rfl, ?_⟩; (intro w hSw; (try dsimp only at hSw); go_simp; try with_reducible rfl)
    case hQb17 => exact fun _ _ _ h => h
    try simp only [Act.put, List.setIfInBounds_toArray, List.set_cons_zero, List.set_cons_succ]
    refine wpAnyH_take (i := 18) (oi := ?oib18) (v := ?vb18) ?hib18 ?hsb18 ?hfb18 ?hrb18 ?hQb18 ?hyb18 ?hSb18 ?hb18
    case hib18 => (simp only [List.getElem?_toArray, List.getElem?_cons_succ, List.getElem?_cons_zero]; rfl)
    case hsb18 => kernel_rfl
    case hfb18 => kernel_rfl
    case hrb18 => kernel_rfl
    case hSb18 => first | assumption | trivial
    case hyb18 => refine Or.inl ⟨by kernel_rfl, ?_⟩; (intro w hSw; (try dsimp only at hSw); go_simp; first | with_reducible rfl | rw [HQ2.out] | simp only [HQ2.out])
    case hQb18 => exact fun _ _ _ h => h
    try simp only [Act.put, List.setIfInBounds_toArray, List.set_cons_zero, List.set_cons_succ]
    refine wpAnyH_take (i := 19) (oi := ?oib19) (v := ?vb19) ?hib19 ?hsb19 ?hfb19 ?hrb19 ?hQb19 ?hyb19 ?hSb19 ?hb19
    case hib19 => (simp only [List.getElem?_toArray, List.getElem?_cons_succ, List.getElem?_cons_zero]; rfl)
    case hsb19 => kernel_rfl
    case hfb19 => kernel_rfl
    case hrb19 => kernel_rfl
    case hSb19 => first | assumption | trivial
    case hyb19 => refine Or.inl ⟨by kernel_rfl, ?_⟩; (intro w hSw; (try dsimp only at hSw); go_simp; try with_reducible rfl)
    case hQb19 => exact fun _ _ _ h => h
    try simp only [Act.put, List.setIfInBounds_toArray, List.set_cons_zero, List.set_cons_succ]
    refine wpAnyH_done (by kernel_rfl) ?_ _
    go_wp2_with fail
    go_ret2
    exact ⟨rfl, HM2.out, HMD2.out⟩
theorem row_form1 {w : World} {b e k n : Nat} {v : Value} {xs : List Value} (h : w.ownsRow b e k v n xs) (hn : 0 < n) : ∃ g cap, v = .slice (some ⟨g, 0, none⟩) n cap := by
  rcases h.2 with ⟨rfl, rfl⟩ | ⟨g, cap, cur, rfl, _⟩
  · omega
  · exact ⟨g, cap, rfl⟩
set_option maxHeartbeats 1000000 in
set_option maxRecDepth 100000 in
theorem mget_ok {w : World} {mb : Nat} {st : MemT} {v : Value} (h : IsMem w mb st v) (p : PtrT) (hc : st.count + 1 < 1000000000) (ha : awakeB (st.count + 1) st.fails = true) (j : Nat) (hj : p.aa = (j : Int)) (hjl : j < st.L.length) :
    Calls Tryd.prog 122 #[.pointer (some ⟨mb, 0, none⟩), .agg (encPtr p).toArray] w fun e w' => e = .returned (.tuple #[.string ⟨st.L[j].toArray⟩, .int .i64 0]) ∧ IsMem w' mb st.next v ∧ Mod (fun k => k = mb) w w' := by
  obtain ⟨g, cap, rfl⟩ := row_form1 h.row (by omega)
  obtain ⟨w0, hw0⟩ : ∃ w0, w0 = w.alloc (.cells (encPtr p).toArray 35) := ⟨_, rfl⟩
  have HBX : Hid (Blk w0 w.heap.size 35 (encPtr p)) := by rw [hw0]; exact Lib.hid (Blk.new w _ _)
  have HM0 : Hid (IsMem w0 mb st (.slice (some ⟨g, 0, none⟩) st.L.length cap)) := by rw [hw0]; exact Lib.hid (h.below ((Below.refl _ _).alloc (Nat.le_refl _) _))
  have HME : Hid (IsMem w0.drew mb st (.slice (some ⟨g, 0, none⟩) st.L.length cap)) := Lib.hid (HM0.out.below (Below.refl _ _).drew)
  have HNE : Hid (w.heap.size ≠ mb) := Lib.hid (fun e => by have := h.blk.lt; omega)
  have HA := Lib.hid ha
  have HJ := Lib.hid hj
  have HLL : Hid (∀ (W : World) (st' : MemT), st'.L = st.L → IsMem W mb st' (.slice (some ⟨g, 0, none⟩) st.L.length cap) → W.cell? ⟨g, j, none⟩ = some (.string ⟨st.L[j].toArray⟩)) := Lib.hid (fun W st' e hm => by
    have h1 := hm.row
    rw [e] at h1
    have := h1.cells (g := g) rfl j (.string ⟨st.L[j].toArray⟩) (by simp [encS, bts, List.getElem?_eq_getElem hjl])
    rwa [show (⟨g, 0, none⟩ : Addr).add j = ⟨g, j, none⟩ from by unfold Addr.add; split <;> simp_all] at this)
  clear ha hj
  have hn : ¬ (j : Int) < 0 := by omega
  have hn2 : ¬ (st.L.length : Int) ≤ (j : Int) := by omega
  have hn3 : (j : Int) < (st.L.length : Int) := by omega
  have hn4 : 0 ≤ (j : Int) := by omega
  have HQ : Hid (decide ((j : Int) < 0) = false) := Lib.hid (decide_eq_false hn)
  have HQ2 : Hid (decide ((st.L.length : Int) ≤ (j : Int)) = false) := Lib.hid (decide_eq_false hn2)
  go_enter Tryd.func122, Tryd.ntmps122
  go_upto_region 1 with fail
  rw [show w.alloc (.cells (encPtr p).toArray 35) = w0 from hw0.symm]
  have HMD : Hid (Mod (fun k => k = mb) w w0.drew) := Lib.hid (by rw [hw0]; exact ((Mod.refl _ w).alloc _).drew)
  clear hw0
  refine wp_region_held_drew (S := fun w' => w'.cell? ⟨w.heap.size, 1, none⟩ = some (.int .i64 (j : Nat)) ∧ w'.cell? ⟨mb, 0, none⟩ = some (.slice (some ⟨g, 0, none⟩) st.L.length cap)) (by kernel_rfl) ⟨by rw [← HJ.out]; exact HBX.out.drew.cell 1, HME.out.c0⟩ (fun hS0 => ?_)
  refine wpAnyH_take (i := 0) (oi := ?oib0) (v := ?vb0) ?hib0 ?hsb0 ?hfb0 ?hrb0 ?hQb0 ?hyb0 ?hSb0 ?hb0
  case hib0 => (simp only [List.getElem?_toArray, List.getElem?_cons_succ, List.getElem?_cons_zero]; rfl)
  case hsb0 => kernel_rfl
  case hfb0 => kernel_rfl
  case hrb0 => kernel_rfl
  case hSb0 => first | assumption | trivial
  case hyb0 => refine Or.inl ⟨by kernel_rfl, ?_⟩; (intro w hSw; (try dsimp only at hSw); go_simp; try with_reducible rfl)
  case hQb0 => exact fun _ _ _ h => h
  try simp only [Act.put, List.setIfInBounds_toArray, List.set_cons_zero, List.set_cons_succ]
  refine wpAnyH_ready (rs := [1]) (by kernel_rfl) (by simp) ?_
  refine AllReadyH.cons (by simp only [List.getElem?_toArray, List.getElem?_cons_succ, List.getElem?_cons_zero]; rfl) (fun K hK => ?_) AllReadyH.nil
  go_simp
  refine (step_any HME.out).mono ?_
  rintro e w2 ⟨rfl, nd, rfl⟩
  try dsimp only
  have HM2 := Lib.hid (HME.out.stepped hc nd)
  have HMD2 := Lib.hid (HMD.out.self (setCell_mod w0.drew mb 1 (.int .i64 ((st.count : Int) + 1)) nd))
  have HBX2 := Lib.hid ((setCell_mod w0.drew mb 1 (.int .i64 ((st.count : Int) + 1)) nd).blk HBX.out.drew HNE.out)
  rw [HA.out]
  obtain ⟨w9, hw9⟩ : ∃ x, x = (w0.drew.setCell ⟨mb, 1, none⟩ (.int .i64 ((st.count : Int) + 1))).drewN nd := ⟨_, rfl⟩
  rw [← hw9] at HM2 HMD2 HBX2 ⊢
  clear hw9
  refine hK.out _ _ (⟨by rw [← HJ.out]; exact HBX2.out.cell 1, HM2.out.c0⟩) (fun hSb1 => ?_)
  try simp only [Act.put, List.setIfInBounds_toArray, List.set_cons_zero, List.set_cons_succ]
  refine wpAnyH_take (i := 2) (oi := ?oib2) (v := ?vb2) ?hib2 ?hsb2 ?hfb2 ?hrb2 ?hQb2 ?hyb2 ?hSb2 ?hb2
  case hib2 => (simp only [List.getElem?_toArray, List.getElem?_cons_succ, List.getElem?_cons_zero]; rfl)
  case hsb2 => kernel_rfl
  case hfb2 => kernel_rfl
  case hrb2 => kernel_rfl
  case hSb2 => first | assumption | trivial
  case hyb2 => refine Or.inl ⟨by kernel_rfl, ?_⟩; (intro w hSw; (try dsimp only at hSw); go_simp; try with_reducible rfl)
  case hQb2 => exact fun _ _ _ h => h
  try simp only [Act.put, List.setIfInBounds_toArray, List.set_cons_zero, List.set_cons_succ]
  refine wpAnyH_take (i := 3) (oi := ?oib3) (v := ?vb3) ?hib3 ?hsb3 ?hfb3 ?hrb3 ?hQb3 ?hyb3 ?hSb3 ?hb3
  case hib3 => (simp only [List.getElem?_toArray, List.getElem?_cons_succ, List.getElem?_cons_zero]; rfl)
  case hsb3 => kernel_rfl
  case hfb3 => kernel_rfl
  case hrb3 => kernel_rfl
  case hSb3 => first | assumption | trivial
  case hyb3 => refine Or.inl ⟨by kernel_rfl, ?_⟩; (intro w hSw; (try dsimp only at hSw); go_simp; try with_reducible rfl)
  case hQb3 => exact fun _ _ _ h => h
  try simp only [Act.put, List.setIfInBounds_toArray, List.set_cons_zero, List.set_cons_succ]
  refine wpAnyH_take (i := 4) (oi := ?oib4) (v := ?vb4) ?hib4 ?hsb4 ?hfb4 ?hrb4 ?hQb4 ?hyb4 ?hSb4 ?hb4
  case hib4 => (simp only [List.getElem?_toArray, List.getElem?_cons_succ, List.getElem?_cons_zero]; rfl)
  case hsb4 => kernel_rfl
  case hfb4 => kernel_rfl
  case hrb4 => kernel_rfl
  case hSb4 => first | assumption | trivial
  case hyb4 => refine Or.inl ⟨by kernel_rfl, ?_⟩; (intro w hSw; (try dsimp only at hSw); go_simp; try with_reducible rfl)
  case hQb4 => exact fun _ _ _ h => h
  try simp only [Act.put, List.setIfInBounds_toArray, List.set_cons_zero, List.set_cons_succ]
  refine wpAnyH_take (i := 5) (oi := ?oib5) (v := ?vb5) ?hib5 ?hsb5 ?hfb5 ?hrb5 ?hQb5 ?hyb5 ?hSb5 ?hb5
  case hib5 => (simp only [List.getElem?_toArray, List.getElem?_cons_succ, List.getElem?_cons_zero]; rfl)
  case hsb5 => kernel_rfl
  case hfb5 => kernel_rfl
  case hrb5 => kernel_rfl
  case hSb5 => first | assumption | trivial
  case hyb5 => refine Or.inl ⟨by kernel_rfl, ?_⟩; (intro w hSw; (try dsimp only at hSw); go_simp; try with_reducible rfl)
  case hQb5 => exact fun _ _ _ h => h
  try simp only [Act.put, List.setIfInBounds_toArray, List.set_cons_zero, List.set_cons_succ]
  refine wpAnyH_take (i := 6) (oi := ?oib6) (v := ?vb6) ?hib6 ?hsb6 ?hfb6 ?hrb6 ?hQb6 ?hyb6 ?hSb6 ?hb6
  case hib6 => (simp only [List.getElem?_toArray, List.getElem?_cons_succ, List.getElem?_cons_zero]; rfl)
  case hsb6 => kernel_rfl
  case hfb6 => kernel_rfl
  case hrb6 => kernel_rfl
  case hSb6 => first | assumption | trivial
  case hyb6 => refine Or.inl ⟨by kernel_rfl, ?_⟩; (intro w hSw; (try dsimp only at hSw); go_simp; first | with_reducible rfl | (rw [hSw.1]; rfl) | rfl)
  case hQb6 => exact fun _ _ _ h => h
  try simp only [Act.put, List.setIfInBounds_toArray, List.set_cons_zero, List.set_cons_succ]
  refine wpAnyH_take (i := 7) (oi := ?oib7) (v := ?vb7) ?hib7 ?hsb7 ?hfb7 ?hrb7 ?hQb7 ?hyb7 ?hSb7 ?hb7
  case hib7 => (simp only [List.getElem?_toArray, List.getElem?_cons_succ, List.getElem?_cons_zero]; rfl)
  case hsb7 => kernel_rfl
  case hfb7 => kernel_rfl
  case hrb7 => kernel_rfl
  case hSb7 => first | assumption | trivial
  case hyb7 => refine Or.inl ⟨by kernel_rfl, ?_⟩; (intro w hSw; (try dsimp only at hSw); go_simp; first | with_reducible rfl | rw [HQ.out] | simp only [HQ.out])
  case hQb7 => exact fun _ _ _ h => h
  try simp only [Act.put, List.setIfInBounds_toArray, List.set_cons_zero, List.set_cons_succ]
  refine wpAnyH_take (i := 8) (oi := ?oib8) (v := ?vb8) ?hib8 ?hsb8 ?hfb8 ?hrb8 ?hQb8 ?hyb8 ?hSb8 ?hb8
  case hib8 => (simp only [List.getElem?_toArray, List.getElem?_cons_succ, List.getElem?_cons_zero]; rfl)
  case hsb8 => kernel_rfl
  case hfb8 => kernel_rfl
  case hrb8 => kernel_rfl
  case hSb8 => first | assumption | trivial
  case hyb8 => refine Or.inl ⟨by kernel_rfl, ?_⟩; (intro w hSw; (try dsimp only at hSw); go_simp; try with_reducible rfl)
  case hQb8 => exact fun _ _ _ h => h
  try simp only [Act.put, List.setIfInBounds_toArray, List.set_cons_zero, List.set_cons_succ]
  refine wpAnyH_take (i := 9) (oi := ?oib9) (v := ?vb9) ?hib9 ?hsb9 ?hfb9 ?hrb9 ?hQb9 ?hyb9 ?hSb9 ?hb9
  case hib9 => (simp only [List.getElem?_toArray, List.getElem?_cons_succ, List.getElem?_cons_zero]; rfl)
  case hsb9 => kernel_rfl
  case hfb9 => kernel_rfl
  case hrb9 => kernel_rfl
  case hSb9 => first | assumption | trivial
  case hyb9 => refine Or.inl ⟨by kernel_rfl, ?_⟩; (intro w hSw; (try dsimp only at hSw); go_simp; try with_reducible rfl)
  case hQb9 => exact fun _ _ _ h => h
  try simp only [Act.put, List.setIfInBounds_toArray, List.set_cons_zero, List.set_cons_succ]
  refine wpAnyH_take (i := 10) (oi := ?oib10) (v := ?vb10) ?hib10 ?hsb10 ?hfb10 ?hrb10 ?hQb10 ?hyb10 ?hSb10 ?hb10
  case hib10 => (simp only [List.getElem?_toArray, List.getElem?_cons_succ, List.getElem?_cons_zero]; rfl)
  case hsb10 => kernel_rfl
  case hfb10 => kernel_rfl
  case hrb10 => kernel_rfl
  case hSb10 => first | assumption | trivial
  case hyb10 => refine Or.inl ⟨by kernel_rfl, ?_⟩; (intro w hSw; (try dsimp only at hSw); go_simp; try with_reducible rfl)
  case hQb10 => exact fun _ _ _ h => h
  try simp only [Act.put, List.setIfInBounds_toArray, List.set_cons_zero, List.set_cons_succ]
  refine wpAnyH_take (i := 11) (oi := ?oib11) (v := ?vb11) ?hib11 ?hsb11 ?hfb11 ?hrb11 ?hQb11 ?hyb11 ?hSb11 ?hb11
  case hib11 => (simp only [List.getElem?_toArray, List.getElem?_cons_succ, List.getElem?_cons_zero]; rfl)
  case hsb11 => kernel_rfl
  case hfb11 => kernel_rfl
  case hrb11 => kernel_rfl
  case hSb11 => first | assumption | trivial
  case hyb11 => refine Or.inl ⟨by kernel_rfl, ?_⟩; (intro w hSw; (try dsimp only at hSw); go_simp; try with_reducible rfl)
  case hQb11 => exact fun _ _ _ h => h
  try simp only [Act.put, List.setIfInBounds_toArray, List.set_cons_zero, List.set_cons_succ]
  refine wpAnyH_take (i := 12) (oi := ?oib12) (v := ?vb12) ?hib12 ?hsb12 ?hfb12 ?hrb12 ?hQb12 ?hyb12 ?hSb12 ?hb12
  case hib12 => (simp only [List.getElem?_toArray, List.getElem?_cons_succ, List.getElem?_cons_zero]; rfl)
  case hsb12 => kernel_rfl
  case hfb12 => kernel_rfl
  case hrb12 => kernel_rfl
  case hSb12 => first | assumption | trivial
  case hyb12 => refine Or.inl ⟨by kernel_rfl, ?_⟩; (intro w hSw; (try dsimp only at hSw); go_simp; first | with_reducible rfl | (rw [hSw.1]; rfl) | rfl)
  case hQb12 => exact fun _ _ _ h => h
  try simp only [Act.put, List.setIfInBounds_toArray, List.set_cons_zero, List.set_cons_succ]
  refine wpAnyH_take (i := 13) (oi := ?oib13) (v := ?vb13) ?hib13 ?hsb13 ?hfb13 ?hrb13 ?hQb13 ?hyb13 ?hSb13 ?hb13
  case hib13 => (simp only [List.getElem?_toArray, List.getElem?_cons_succ, List.getElem?_cons_zero]; rfl)
  case hsb13 => kernel_rfl
  case hfb13 => kernel_rfl
  case hrb13 => kernel_rfl
  case hSb13 => first | assumption | trivial
  case hyb13 => refine Or.inl ⟨by kernel_rfl, ?_⟩; (intro w hSw; (try dsimp only at hSw); go_simp; try with_reducible rfl)
  case hQb13 => exact fun _ _ _ h => h
  try simp only [Act.put, List.setIfInBounds_toArray, List.set_cons_zero, List.set_cons_succ]
  refine wpAnyH_take (i := 14) (oi := ?oib14) (v := ?vb14) ?hib14 ?hsb14 ?hfb14 ?hrb14 ?hQb14 ?hyb14 ?hSb14 ?hb14
  case hib14 => (simp only [List.getElem?_toArray, List.getElem?_cons_succ, List.getElem?_cons_zero]; rfl)
  case hsb14 => kernel_rfl
  case hfb14 => kernel_rfl
  case hrb14 => kernel_rfl
  case hSb14 => first | assumption | trivial
  case hyb14 => refine Or.inl ⟨by kernel_rfl, ?_⟩; (intro w hSw; (try dsimp only at hSw); go_simp; try with_reducible rfl)
  case hQb14 => exact fun _ _ _ h => h
  try simp only [Act.put, List.setIfInBounds_toArray, List.set_cons_zero, List.set_cons_succ]
  refine wpAnyH_take (i := 15) (oi := ?oib15) (v := ?vb15) ?hib15 ?hsb15 ?hfb15 ?hrb15 ?hQb15 ?hyb15 ?hSb15 ?hb15
  case hib15 => (simp only [List.getElem?_toArray, List.getElem?_cons_succ, List.getElem?_cons_zero]; rfl)
  case hsb15 => kernel_rfl
  case hfb15 => kernel_rfl
  case hrb15 => kernel_rfl
  case hSb15 => first | assumption | trivial
  case hyb15 => refine Or.inl ⟨by kernel_rfl, ?_⟩; (intro w hSw; (try dsimp only at hSw); go_simp; try with_reducible rfl)
  case hQb15 => exact fun _ _ _ h => h
  try simp only [Act.put, List.setIfInBounds_toArray, List.set_cons_zero, List.set_cons_succ]
  refine wpAnyH_take (i := 16) (oi := ?oib16) (v := ?vb16) ?hib16 ?hsb16 ?hfb16 ?hrb16 ?hQb16 ?hyb16 ?hSb16 ?hb16
  case hib16 => (simp only [List.getElem?_toArray, List.getElem?_cons_succ, List.getElem?_cons_zero]; rfl)
  case hsb16 => kernel_rfl
  case hfb16 => kernel_rfl
  case hrb16 => kernel_rfl
  case hSb16 => first | assumption | trivial
  case hyb16 => refine Or.inl ⟨by kernel_rfl, ?_⟩; (intro w hSw; (try dsimp only at hSw); go_simp; first | with_reducible rfl | (rw [hSw.2]; rfl) | rfl)
  case hQb16 => exact fun _ _ _ h => h
  try simp only [Act.put, List.setIfInBounds_toArray, List.set_cons_zero, List.set_cons_succ]
  refine wpAnyH_take (i := 17) (oi := ?oib17) (v := ?vb17) ?hib17 ?hsb17 ?hfb17 ?hrb17 ?hQb17 ?hyb17 ?hSb17 ?hb17
  case hib17 => (simp only [List.getElem?_toArray, List.getElem?_cons_succ, List.getElem?_cons_zero]; rfl)
  case hsb17 => kernel_rfl
  case hfb17 => kernel_rfl
  case hrb17 => kernel_rfl
  case hSb17 => first | assumption | trivial
  case hyb17 => refine Or.inl ⟨by kernel_rfl, ?_⟩; (intro w hSw; (try dsimp only at hSw); go_simp; try with_reducible rfl)
  case hQb17 => exact fun _ _ _ h => h
  try simp only [Act.put, List.setIfInBounds_toArray, List.set_cons_zero, List.set_cons_succ]
  refine wpAnyH_take (i := 18) (oi := ?oib18) (v := ?vb18) ?hib18 ?hsb18 ?hfb18 ?hrb18 ?hQb18 ?hyb18 ?hSb18 ?hb18
  case hib18 => (simp only [List.getElem?_toArray, List.getElem?_cons_succ, List.getElem?_cons_zero]; rfl)
  case hsb18 => kernel_rfl
  case hfb18 => kernel_rfl
  case hrb18 => kernel_rfl
  case hSb18 => first | assumption | trivial
  case hyb18 => refine Or.inl ⟨by kernel_rfl, ?_⟩; (intro w hSw; (try dsimp only at hSw); go_simp; first | with_reducible rfl | rw [HQ2.out] | simp only [HQ2.out])
  case hQb18 => exact fun _ _ _ h => h
  try simp only [Act.put, List.setIfInBounds_toArray, List.set_cons_zero, List.set_cons_succ]
  refine wpAnyH_take (i := 19) (oi := ?oib19) (v := ?vb19) ?hib19 ?hsb19 ?hfb19 ?hrb19 ?hQb19 ?hyb19 ?hSb19 ?hb19
  case hib19 => (simp only [List.getElem?_toArray, List.getElem?_cons_succ, List.getElem?_cons_zero]; rfl)
  case hsb19 => kernel_rfl
  case hfb19 => kernel_rfl
  case hrb19 => kernel_rfl
  case hSb19 => first | assumption | trivial
  case hyb19 => refine Or.inl ⟨by kernel_rfl, ?_⟩; (intro w hSw; (try dsimp only at hSw); go_simp; try with_reducible rfl)
  case hQb19 => exact fun _ _ _ h => h
  try simp only [Act.put, List.setIfInBounds_toArray, List.set_cons_zero, List.set_cons_succ]
  refine wpAnyH_done (by kernel_rfl) ?_ _
  go_wp2_with fail
  have d1 : ∀ n, (w9.drewN n).cell? ⟨w.heap.size, 1, none⟩ = some (.int .i64 (j : Nat)) := fun n => by rw [← HJ.out]; exact (HBX2.out.drewN (n := n)).cell 1
  have d2 : ∀ n, (w9.drewN n).cell? ⟨mb, 0, none⟩ = some (.slice (some ⟨g, 0, none⟩) st.L.length cap) := fun n => (HM2.out.below (below_drewN' (Below.refl _ _) n)).c0
  have d3 : ∀ n, (w9.drewN n).cell? ⟨g, j, none⟩ = some (.string ⟨st.L[j].toArray⟩) := fun n => HLL.out _ st.next rfl (HM2.out.below (below_drewN' (Below.refl _ _) n))
  go_quiet (fail)
  go_wp2_with fail
  go_ret2
  exact ⟨rfl, HM2.out.below (below_drewN' (Below.refl _ _) _), HMD2.out.drewN _⟩
end Go.Proofs.YtbhofablndjeoaaDoor
