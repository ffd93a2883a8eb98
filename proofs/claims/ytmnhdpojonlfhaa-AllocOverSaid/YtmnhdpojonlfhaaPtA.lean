/- The walk of ptr.apart. -/
import Derived.Test.YtmnhdpojonlfhaaPtW
namespace Go.Proofs.Ytmnhdpojonlfhaa
open Go.RowKit
set_option linter.unusedSimpArgs false
attribute [local go_sem ↓] Go.wp_at_zero Go.wp_at_succ

set_option maxRecDepth 100000 in
set_option maxHeartbeats 1600000 in
theorem papart_any (ao : Option Addr) (n cap : Nat) (gs : Gs) (secs ag aa bg ba size : Int) (w : World) (h : GSl w ao n cap gs) (hA : mayC gs secs ag aa size = true) (hB : mayC gs secs bg ba size = true) :
    Calls Try.prog 100 #[.agg #[.slice ao n cap, .int .i64 secs], .agg #[.int .i64 ag, .int .i64 aa], .agg #[.int .i64 bg, .int .i64 ba], .int .i64 size] w fun e w' => e = .returned (.bool (apartC gs secs ag aa bg ba size)) ∧ Below w.heap.size w w' := by
  obtain ⟨w0, hw0⟩ : ∃ w0, w0 = ((w.alloc (.cells #[.slice ao n cap, .int .i64 secs] 96)).alloc (.cells #[.int .i64 ag, .int .i64 aa] 63)).alloc (.cells #[.int .i64 bg, .int .i64 ba] 63) := ⟨_, rfl⟩
  have hb0 : Below w.heap.size w w0 := by rw [hw0]; exact (((Below.refl _ _).alloc (Nat.le_refl _) _).alloc (by simp) _).alloc (by simp; omega) _
  have hR0 : Blk w0 w.heap.size 96 [.slice ao n cap, .int .i64 secs] := by rw [hw0]; exact ((Blk.new w _ _).alloc _).alloc _
  have hP0 : Blk w0 (w.heap.size + 1) 63 [.int .i64 ag, .int .i64 aa] := by rw [hw0]; exact (Blk.newAt _ _ (by simp)).alloc _
  have hQ0 : Blk w0 (w.heap.size + 1 + 1) 63 [.int .i64 bg, .int .i64 ba] := by rw [hw0]; exact Blk.newAt _ _ (by simp)
  have ma := mayC_spec hA
  have mb := mayC_spec hB
  obtain ⟨ta, hta⟩ : ∃ t, t = takesI gs secs ag size := ⟨_, rfl⟩
  obtain ⟨tb, htb⟩ : ∃ t, t = takesI gs secs bg size := ⟨_, rfl⟩
  have hm : apartC gs secs ag aa bg ba size = decide (ag ≠ bg ∨ aa + ta ≤ ba ∨ ba + tb ≤ aa) := by rw [hta, htb]; rfl
  have HT : ∀ g W, Below w0.heap.size w0 W → Calls Try.prog 116 #[.agg #[.slice ao n cap, .int .i64 secs], .int .i64 g, .int .i64 size] W fun e w' => e = .returned (.int .i64 (takesI gs secs g size)) ∧ Below W.heap.size W w' := fun g W hW => gtakes_any ao n cap gs secs g size W ((h.below hb0).below hW)
  have HTA : ∀ W, Below w0.heap.size w0 W → Calls Try.prog 116 #[.agg #[.slice ao n cap, .int .i64 secs], .int .i64 ag, .int .i64 size] W fun e w' => e = .returned (.int .i64 ta) ∧ Below W.heap.size W w' := fun W hW => by rw [hta]; exact HT ag W hW
  have HTB : ∀ W, Below w0.heap.size w0 W → Calls Try.prog 116 #[.agg #[.slice ao n cap, .int .i64 secs], .int .i64 bg, .int .i64 size] W fun e w' => e = .returned (.int .i64 tb) ∧ Below W.heap.size W w' := fun W hW => by rw [htb]; exact HT bg W hW
  rw [hm]
  have x1 : 0 ≤ aa ∧ aa ≤ 32768 := ⟨ma.2.2.2.2.2.1, ma.2.2.2.2.2.2.1⟩
  have x2 : 0 ≤ ba ∧ ba ≤ 32768 := ⟨mb.2.2.2.2.2.1, mb.2.2.2.2.2.2.1⟩
  have x3 : 1 ≤ ta ∧ ta ≤ 6 := by rw [hta]; exact ⟨ma.2.2.2.2.2.2.2.1, ma.2.2.2.2.2.2.2.2.1⟩
  have x4 : 1 ≤ tb ∧ tb ≤ 6 := by rw [htb]; exact ⟨mb.2.2.2.2.2.2.2.1, mb.2.2.2.2.2.2.2.2.1⟩
  have rel : ∀ W, Below w0.heap.size w0 W → W.cell? ⟨w.heap.size, 0, none⟩ = some (.slice ao n cap) ∧ W.cell? ⟨w.heap.size, 1, none⟩ = some (.int .i64 secs) ∧ W.cell? ⟨w.heap.size + 1, 0, none⟩ = some (.int .i64 ag) ∧ W.cell? ⟨w.heap.size + 1, 1, none⟩ = some (.int .i64 aa) ∧ W.cell? ⟨w.heap.size + 2, 0, none⟩ = some (.int .i64 bg) ∧ W.cell? ⟨w.heap.size + 2, 1, none⟩ = some (.int .i64 ba) := fun W hW =>
    ⟨(hR0.below hW).cell 0, (hR0.below hW).cell 1, (hP0.below hW).cell 0, (hP0.below hW).cell 1, (hQ0.below hW).cell 0, (hQ0.below hW).cell 1⟩
  have fin : ∀ x : Bool, x = decide (ag ≠ bg ∨ aa + ta ≤ ba ∨ ba + tb ≤ aa) → Ending.returned (.bool x) = .returned (.bool (decide (ag ≠ bg ∨ aa + ta ≤ ba ∨ ba + tb ≤ aa))) := fun x e => by rw [e]
  obtain ⟨q0, q1, r0, r1, s0, s1⟩ := rel w0 (Below.refl _ _)
  have HB0 := Lib.hid hb0
  have HTA' := Lib.hid HTA
  have HTB' := Lib.hid HTB
  have REL := Lib.hid rel
  have FIN := Lib.hid fin
  have y1 : IntKind.i64.wrap (aa + ta) = aa + ta := IntWalk.i64_in _ (by omega)
  have y2 : IntKind.i64.wrap (ba + tb) = ba + tb := IntWalk.i64_in _ (by omega)
  clear h hA hB hb0 hR0 hP0 hQ0 ma mb hta htb hm HT HTA HTB rel fin
  by_cases d1 : ag = bg
  · subst d1
    by_cases d2 : aa + ta ≤ ba
    · have e2 : decide (aa + ta ≤ ba) = true := decide_eq_true d2
      go_enter Try.func100, Try.ntmps100
      go_wp2_with fail
      rw [← hw0]; clear hw0
      refine wp_region_held_drew (S := (fun w' => w'.cell? ⟨w.heap.size, 0, none⟩ = some (.slice ao n cap) ∧ w'.cell? ⟨w.heap.size, 1, none⟩ = some (.int .i64 secs) ∧ w'.cell? ⟨w.heap.size + 1, 0, none⟩ = some (.int .i64 ag) ∧ w'.cell? ⟨w.heap.size + 1, 1, none⟩ = some (.int .i64 aa) ∧ w'.cell? ⟨w.heap.size + 2, 0, none⟩ = some (.int .i64 ag) ∧ w'.cell? ⟨w.heap.size + 2, 1, none⟩ = some (.int .i64 ba))) (by kernel_rfl) (by go_keep) (fun hS0 => ?_)
      refine wpAnyH_take (i := 0) (oi := ?oia0) (v := ?va0) ?hia0 ?hsa0 ?hfa0 ?hra0 ?hQa0 ?hya0 ?hSa0 ?ha0
      case hia0 => (simp only [List.getElem?_toArray, List.getElem?_cons_succ, List.getElem?_cons_zero]; rfl)
      case hsa0 => kernel_rfl
      case hfa0 => kernel_rfl
      case hra0 => kernel_rfl
      case hSa0 => assumption
      case hya0 => refine Or.inl ⟨by kernel_rfl, ?_⟩; (intro w hSw; (try dsimp only at hSw); go_simp; try with_reducible rfl)
      case hQa0 => exact fun _ _ _ h => h
      try simp only [Act.put, List.setIfInBounds_toArray, List.set_cons_zero, List.set_cons_succ]
      refine wpAnyH_take (i := 1) (oi := ?oia1) (v := ?va1) ?hia1 ?hsa1 ?hfa1 ?hra1 ?hQa1 ?hya1 ?hSa1 ?ha1
      case hia1 => (simp only [List.getElem?_toArray, List.getElem?_cons_succ, List.getElem?_cons_zero]; rfl)
      case hsa1 => kernel_rfl
      case hfa1 => kernel_rfl
      case hra1 => kernel_rfl
      case hSa1 => assumption
      case hya1 => refine Or.inl ⟨by kernel_rfl, ?_⟩; (intro w hSw; (try dsimp only at hSw); go_simp; try with_reducible rfl)
      case hQa1 => exact fun _ _ _ h => h
      try simp only [Act.put, List.setIfInBounds_toArray, List.set_cons_zero, List.set_cons_succ]
      refine wpAnyH_take (i := 2) (oi := ?oia2) (v := ?va2) ?hia2 ?hsa2 ?hfa2 ?hra2 ?hQa2 ?hya2 ?hSa2 ?ha2
      case hia2 => (simp only [List.getElem?_toArray, List.getElem?_cons_succ, List.getElem?_cons_zero]; rfl)
      case hsa2 => kernel_rfl
      case hfa2 => kernel_rfl
      case hra2 => kernel_rfl
      case hSa2 => assumption
      case hya2 => refine Or.inl ⟨by kernel_rfl, ?_⟩; (intro w hSw; (try dsimp only at hSw); go_simp; try with_reducible rfl)
      case hQa2 => exact fun _ _ _ h => h
      try simp only [Act.put, List.setIfInBounds_toArray, List.set_cons_zero, List.set_cons_succ]
      refine wpAnyH_take (i := 3) (oi := ?oia3) (v := ?va3) ?hia3 ?hsa3 ?hfa3 ?hra3 ?hQa3 ?hya3 ?hSa3 ?ha3
      case hia3 => (simp only [List.getElem?_toArray, List.getElem?_cons_succ, List.getElem?_cons_zero]; rfl)
      case hsa3 => kernel_rfl
      case hfa3 => kernel_rfl
      case hra3 => kernel_rfl
      case hSa3 => assumption
      case hya3 => refine Or.inl ⟨by kernel_rfl, ?_⟩; (intro w hSw; (try dsimp only at hSw); go_simp; try with_reducible rfl)
      case hQa3 => exact fun _ _ _ h => h
      try simp only [Act.put, List.setIfInBounds_toArray, List.set_cons_zero, List.set_cons_succ]
      refine wpAnyH_take (i := 4) (oi := ?oia4) (v := ?va4) ?hia4 ?hsa4 ?hfa4 ?hra4 ?hQa4 ?hya4 ?hSa4 ?ha4
      case hia4 => (simp only [List.getElem?_toArray, List.getElem?_cons_succ, List.getElem?_cons_zero]; rfl)
      case hsa4 => kernel_rfl
      case hfa4 => kernel_rfl
      case hra4 => kernel_rfl
      case hSa4 => assumption
      case hya4 => refine Or.inl ⟨by kernel_rfl, ?_⟩; (intro w hSw; (try dsimp only at hSw); go_simp; try with_reducible rfl)
      case hQa4 => exact fun _ _ _ h => h
      try simp only [Act.put, List.setIfInBounds_toArray, List.set_cons_zero, List.set_cons_succ]
      refine wpAnyH_take (i := 5) (oi := ?oia5) (v := ?va5) ?hia5 ?hsa5 ?hfa5 ?hra5 ?hQa5 ?hya5 ?hSa5 ?ha5
      case hia5 => (simp only [List.getElem?_toArray, List.getElem?_cons_succ, List.getElem?_cons_zero]; rfl)
      case hsa5 => kernel_rfl
      case hfa5 => kernel_rfl
      case hra5 => kernel_rfl
      case hSa5 => assumption
      case hya5 => refine Or.inl ⟨by kernel_rfl, ?_⟩; (intro w hSw; (try dsimp only at hSw); go_simp; try with_reducible rfl)
      case hQa5 => exact fun _ _ _ h => h
      try simp only [Act.put, List.setIfInBounds_toArray, List.set_cons_zero, List.set_cons_succ]
      refine wpAnyH_take (i := 6) (oi := ?oia6) (v := ?va6) ?hia6 ?hsa6 ?hfa6 ?hra6 ?hQa6 ?hya6 ?hSa6 ?ha6
      case hia6 => (simp only [List.getElem?_toArray, List.getElem?_cons_succ, List.getElem?_cons_zero]; rfl)
      case hsa6 => kernel_rfl
      case hfa6 => kernel_rfl
      case hra6 => kernel_rfl
      case hSa6 => assumption
      case hya6 => refine Or.inl ⟨by kernel_rfl, ?_⟩; (intro w hSw; (try dsimp only at hSw); go_simp; try with_reducible rfl)
      case hQa6 => exact fun _ _ _ h => h
      try simp only [Act.put, List.setIfInBounds_toArray, List.set_cons_zero, List.set_cons_succ]
      refine wpAnyH_take (i := 7) (oi := ?oia7) (v := ?va7) ?hia7 ?hsa7 ?hfa7 ?hra7 ?hQa7 ?hya7 ?hSa7 ?ha7
      case hia7 => (simp only [List.getElem?_toArray, List.getElem?_cons_succ, List.getElem?_cons_zero]; rfl)
      case hsa7 => kernel_rfl
      case hfa7 => kernel_rfl
      case hra7 => kernel_rfl
      case hSa7 => assumption
      case hya7 => refine Or.inl ⟨by kernel_rfl, ?_⟩; (intro w hSw; (try dsimp only at hSw); go_simp; try with_reducible rfl)
      case hQa7 => exact fun _ _ _ h => h
      try simp only [Act.put, List.setIfInBounds_toArray, List.set_cons_zero, List.set_cons_succ]
      refine wpAnyH_take (i := 8) (oi := ?oia8) (v := ?va8) ?hia8 ?hsa8 ?hfa8 ?hra8 ?hQa8 ?hya8 ?hSa8 ?ha8
      case hia8 => (simp only [List.getElem?_toArray, List.getElem?_cons_succ, List.getElem?_cons_zero]; rfl)
      case hsa8 => kernel_rfl
      case hfa8 => kernel_rfl
      case hra8 => kernel_rfl
      case hSa8 => assumption
      case hya8 => refine Or.inl ⟨by kernel_rfl, ?_⟩; (intro w hSw; (try dsimp only at hSw); go_simp; try with_reducible rfl)
      case hQa8 => exact fun _ _ _ h => h
      try simp only [Act.put, List.setIfInBounds_toArray, List.set_cons_zero, List.set_cons_succ]
      refine wpAnyH_take (i := 9) (oi := ?oia9) (v := ?va9) ?hia9 ?hsa9 ?hfa9 ?hra9 ?hQa9 ?hya9 ?hSa9 ?ha9
      case hia9 => (simp only [List.getElem?_toArray, List.getElem?_cons_succ, List.getElem?_cons_zero]; rfl)
      case hsa9 => kernel_rfl
      case hfa9 => kernel_rfl
      case hra9 => kernel_rfl
      case hSa9 => assumption
      case hya9 => refine Or.inl ⟨by kernel_rfl, ?_⟩; (intro w hSw; (try dsimp only at hSw); go_simp; try with_reducible rfl)
      case hQa9 => exact fun _ _ _ h => h
      try simp only [Act.put, List.setIfInBounds_toArray, List.set_cons_zero, List.set_cons_succ]
      refine wpAnyH_take (i := 10) (oi := ?oia10) (v := ?va10) ?hia10 ?hsa10 ?hfa10 ?hra10 ?hQa10 ?hya10 ?hSa10 ?ha10
      case hia10 => (simp only [List.getElem?_toArray, List.getElem?_cons_succ, List.getElem?_cons_zero]; rfl)
      case hsa10 => kernel_rfl
      case hfa10 => kernel_rfl
      case hra10 => kernel_rfl
      case hSa10 => assumption
      case hya10 => refine Or.inl ⟨by kernel_rfl, ?_⟩; (intro w hSw; (try dsimp only at hSw); go_simp; try with_reducible rfl)
      case hQa10 => exact fun _ _ _ h => h
      try simp only [Act.put, List.setIfInBounds_toArray, List.set_cons_zero, List.set_cons_succ]
      refine wpAnyH_take (i := 11) (oi := ?oia11) (v := ?va11) ?hia11 ?hsa11 ?hfa11 ?hra11 ?hQa11 ?hya11 ?hSa11 ?ha11
      case hia11 => (simp only [List.getElem?_toArray, List.getElem?_cons_succ, List.getElem?_cons_zero]; rfl)
      case hsa11 => kernel_rfl
      case hfa11 => kernel_rfl
      case hra11 => kernel_rfl
      case hSa11 => assumption
      case hya11 => refine Or.inl ⟨by kernel_rfl, ?_⟩; (intro w hSw; (try dsimp only at hSw); go_simp; try with_reducible rfl)
      case hQa11 => exact fun _ _ _ h => h
      try simp only [Act.put, List.setIfInBounds_toArray, List.set_cons_zero, List.set_cons_succ]
      refine wpAnyH_take (i := 14) (oi := ?oia14) (v := ?va14) ?hia14 ?hsa14 ?hfa14 ?hra14 ?hQa14 ?hya14 ?hSa14 ?ha14
      case hia14 => (simp only [List.getElem?_toArray, List.getElem?_cons_succ, List.getElem?_cons_zero]; rfl)
      case hsa14 => kernel_rfl
      case hfa14 => kernel_rfl
      case hra14 => kernel_rfl
      case hSa14 => assumption
      case hya14 => refine Or.inl ⟨by kernel_rfl, ?_⟩; (intro w hSw; (try dsimp only at hSw); go_simp; try with_reducible rfl)
      case hQa14 => exact fun _ _ _ h => h
      try simp only [Act.put, List.setIfInBounds_toArray, List.set_cons_zero, List.set_cons_succ]
      refine wpAnyH_take (i := 15) (oi := ?oia15) (v := ?va15) ?hia15 ?hsa15 ?hfa15 ?hra15 ?hQa15 ?hya15 ?hSa15 ?ha15
      case hia15 => (simp only [List.getElem?_toArray, List.getElem?_cons_succ, List.getElem?_cons_zero]; rfl)
      case hsa15 => kernel_rfl
      case hfa15 => kernel_rfl
      case hra15 => kernel_rfl
      case hSa15 => assumption
      case hya15 => refine Or.inl ⟨by kernel_rfl, ?_⟩; (intro w hSw; (try dsimp only at hSw); go_simp; try with_reducible rfl)
      case hQa15 => exact fun _ _ _ h => h
      try simp only [Act.put, List.setIfInBounds_toArray, List.set_cons_zero, List.set_cons_succ]
      refine wpAnyH_ready (rs := [12]) (by kernel_rfl) (by simp) ?_
      refine AllReadyH.cons rfl (fun K hK => ?_) AllReadyH.nil
      go_simp
      (go_at_call 116; refine (HTA'.out _ (Below.refl _ _).drew).mono ?_; rintro e w5 ⟨rfl, hb5⟩; have HB5 := Lib.hid ((Below.refl w0.heap.size w0).drew.trans hb5); obtain ⟨h0, h1, h2, h3, h4, h5⟩ := REL.out w5 HB5.out; clear hb5)
      refine hK.out _ _ (by go_keep) (fun _ => ?_)
      try simp only [Act.put, List.setIfInBounds_toArray, List.set_cons_zero, List.set_cons_succ]
      refine wpAnyH_take (i := 13) (oi := ?oia13) (v := ?va13) ?hia13 ?hsa13 ?hfa13 ?hra13 ?hQa13 ?hya13 ?hSa13 ?ha13
      case hia13 => (simp only [List.getElem?_toArray, List.getElem?_cons_succ, List.getElem?_cons_zero]; rfl)
      case hsa13 => kernel_rfl
      case hfa13 => kernel_rfl
      case hra13 => kernel_rfl
      case hSa13 => assumption
      case hya13 => refine Or.inl ⟨by kernel_rfl, ?_⟩; (intro w hSw; (try dsimp only at hSw); go_simp; try with_reducible rfl)
      case hQa13 => exact fun _ _ _ h => h
      try simp only [Act.put, List.setIfInBounds_toArray, List.set_cons_zero, List.set_cons_succ]
      refine wpAnyH_take (i := 16) (oi := ?oia16) (v := ?va16) ?hia16 ?hsa16 ?hfa16 ?hra16 ?hQa16 ?hya16 ?hSa16 ?ha16
      case hia16 => (simp only [List.getElem?_toArray, List.getElem?_cons_succ, List.getElem?_cons_zero]; rfl)
      case hsa16 => kernel_rfl
      case hfa16 => kernel_rfl
      case hra16 => kernel_rfl
      case hSa16 => assumption
      case hya16 => refine Or.inl ⟨by kernel_rfl, ?_⟩; (intro w hSw; (try dsimp only at hSw); go_simp; try with_reducible rfl)
      case hQa16 => exact fun _ _ _ h => h
      try simp only [Act.put, List.setIfInBounds_toArray, List.set_cons_zero, List.set_cons_succ]
      refine wpAnyH_take (i := 17) (oi := ?oia17) (v := ?va17) ?hia17 ?hsa17 ?hfa17 ?hra17 ?hQa17 ?hya17 ?hSa17 ?ha17
      case hia17 => (simp only [List.getElem?_toArray, List.getElem?_cons_succ, List.getElem?_cons_zero]; rfl)
      case hsa17 => kernel_rfl
      case hfa17 => kernel_rfl
      case hra17 => kernel_rfl
      case hSa17 => assumption
      case hya17 => refine Or.inl ⟨by kernel_rfl, ?_⟩; (intro w hSw; (try dsimp only at hSw); go_simp; try with_reducible rfl)
      case hQa17 => exact fun _ _ _ h => h
      try simp only [Act.put, List.setIfInBounds_toArray, List.set_cons_zero, List.set_cons_succ]
      refine wpAnyH_take (i := 18) (oi := ?oia18) (v := ?va18) ?hia18 ?hsa18 ?hfa18 ?hra18 ?hQa18 ?hya18 ?hSa18 ?ha18
      case hia18 => (simp only [List.getElem?_toArray, List.getElem?_cons_succ, List.getElem?_cons_zero]; rfl)
      case hsa18 => kernel_rfl
      case hfa18 => kernel_rfl
      case hra18 => kernel_rfl
      case hSa18 => assumption
      case hya18 => refine Or.inl ⟨by kernel_rfl, ?_⟩; (intro w hSw; (try dsimp only at hSw); go_simp; try with_reducible rfl)
      case hQa18 => exact fun _ _ _ h => h
      try simp only [Act.put, List.setIfInBounds_toArray, List.set_cons_zero, List.set_cons_succ]
      refine wpAnyH_take (i := 19) (oi := ?oia19) (v := undef) ?hia19 ?hsa19 ?hfa19 ?hra19 ?hQa19 ?hya19 ?hSa19 ?ha19
      case hia19 => (simp only [List.getElem?_toArray, List.getElem?_cons_succ, List.getElem?_cons_zero]; rfl)
      case hsa19 => kernel_rfl
      case hfa19 => kernel_rfl
      case hra19 => kernel_rfl
      case hSa19 => assumption
      case hya19 => exact Or.inr ⟨by kernel_rfl, rfl⟩
      case hQa19 => exact fun _ _ _ h => h
      try simp only [Act.put, List.setIfInBounds_toArray, List.set_cons_zero, List.set_cons_succ]
      refine wpAnyH_take (i := 20) (oi := ?oia20) (v := undef) ?hia20 ?hsa20 ?hfa20 ?hra20 ?hQa20 ?hya20 ?hSa20 ?ha20
      case hia20 => (simp only [List.getElem?_toArray, List.getElem?_cons_succ, List.getElem?_cons_zero]; rfl)
      case hsa20 => kernel_rfl
      case hfa20 => kernel_rfl
      case hra20 => kernel_rfl
      case hSa20 => assumption
      case hya20 => exact Or.inr ⟨by kernel_rfl, rfl⟩
      case hQa20 => exact fun _ _ _ h => h
      try simp only [Act.put, List.setIfInBounds_toArray, List.set_cons_zero, List.set_cons_succ]
      refine wpAnyH_take (i := 21) (oi := ?oia21) (v := undef) ?hia21 ?hsa21 ?hfa21 ?hra21 ?hQa21 ?hya21 ?hSa21 ?ha21
      case hia21 => (simp only [List.getElem?_toArray, List.getElem?_cons_succ, List.getElem?_cons_zero]; rfl)
      case hsa21 => kernel_rfl
      case hfa21 => kernel_rfl
      case hra21 => kernel_rfl
      case hSa21 => assumption
      case hya21 => exact Or.inr ⟨by kernel_rfl, rfl⟩
      case hQa21 => exact fun _ _ _ h => h
      try simp only [Act.put, List.setIfInBounds_toArray, List.set_cons_zero, List.set_cons_succ]
      refine wpAnyH_take (i := 22) (oi := ?oia22) (v := undef) ?hia22 ?hsa22 ?hfa22 ?hra22 ?hQa22 ?hya22 ?hSa22 ?ha22
      case hia22 => (simp only [List.getElem?_toArray, List.getElem?_cons_succ, List.getElem?_cons_zero]; rfl)
      case hsa22 => kernel_rfl
      case hfa22 => kernel_rfl
      case hra22 => kernel_rfl
      case hSa22 => assumption
      case hya22 => exact Or.inr ⟨by kernel_rfl, rfl⟩
      case hQa22 => exact fun _ _ _ h => h
      try simp only [Act.put, List.setIfInBounds_toArray, List.set_cons_zero, List.set_cons_succ]
      refine wpAnyH_take (i := 23) (oi := ?oia23) (v := undef) ?hia23 ?hsa23 ?hfa23 ?hra23 ?hQa23 ?hya23 ?hSa23 ?ha23
      case hia23 => (simp only [List.getElem?_toArray, List.getElem?_cons_succ, List.getElem?_cons_zero]; rfl)
      case hsa23 => kernel_rfl
      case hfa23 => kernel_rfl
      case hra23 => kernel_rfl
      case hSa23 => assumption
      case hya23 => exact Or.inr ⟨by kernel_rfl, rfl⟩
      case hQa23 => exact fun _ _ _ h => h
      try simp only [Act.put, List.setIfInBounds_toArray, List.set_cons_zero, List.set_cons_succ]
      refine wpAnyH_take (i := 24) (oi := ?oia24) (v := undef) ?hia24 ?hsa24 ?hfa24 ?hra24 ?hQa24 ?hya24 ?hSa24 ?ha24
      case hia24 => (simp only [List.getElem?_toArray, List.getElem?_cons_succ, List.getElem?_cons_zero]; rfl)
      case hsa24 => kernel_rfl
      case hfa24 => kernel_rfl
      case hra24 => kernel_rfl
      case hSa24 => assumption
      case hya24 => exact Or.inr ⟨by kernel_rfl, rfl⟩
      case hQa24 => exact fun _ _ _ h => h
      try simp only [Act.put, List.setIfInBounds_toArray, List.set_cons_zero, List.set_cons_succ]
      refine wpAnyH_take (i := 25) (oi := ?oia25) (v := undef) ?hia25 ?hsa25 ?hfa25 ?hra25 ?hQa25 ?hya25 ?hSa25 ?ha25
      case hia25 => (simp only [List.getElem?_toArray, List.getElem?_cons_succ, List.getElem?_cons_zero]; rfl)
      case hsa25 => kernel_rfl
      case hfa25 => kernel_rfl
      case hra25 => kernel_rfl
      case hSa25 => assumption
      case hya25 => exact Or.inr ⟨by kernel_rfl, rfl⟩
      case hQa25 => exact fun _ _ _ h => h
      try simp only [Act.put, List.setIfInBounds_toArray, List.set_cons_zero, List.set_cons_succ]
      refine wpAnyH_take (i := 26) (oi := ?oia26) (v := undef) ?hia26 ?hsa26 ?hfa26 ?hra26 ?hQa26 ?hya26 ?hSa26 ?ha26
      case hia26 => (simp only [List.getElem?_toArray, List.getElem?_cons_succ, List.getElem?_cons_zero]; rfl)
      case hsa26 => kernel_rfl
      case hfa26 => kernel_rfl
      case hra26 => kernel_rfl
      case hSa26 => assumption
      case hya26 => exact Or.inr ⟨by kernel_rfl, rfl⟩
      case hQa26 => exact fun _ _ _ h => h
      try simp only [Act.put, List.setIfInBounds_toArray, List.set_cons_zero, List.set_cons_succ]
      refine wpAnyH_take (i := 27) (oi := ?oia27) (v := undef) ?hia27 ?hsa27 ?hfa27 ?hra27 ?hQa27 ?hya27 ?hSa27 ?ha27
      case hia27 => (simp only [List.getElem?_toArray, List.getElem?_cons_succ, List.getElem?_cons_zero]; rfl)
      case hsa27 => kernel_rfl
      case hfa27 => kernel_rfl
      case hra27 => kernel_rfl
      case hSa27 => assumption
      case hya27 => exact Or.inr ⟨by kernel_rfl, rfl⟩
      case hQa27 => exact fun _ _ _ h => h
      try simp only [Act.put, List.setIfInBounds_toArray, List.set_cons_zero, List.set_cons_succ]
      refine wpAnyH_take (i := 28) (oi := ?oia28) (v := undef) ?hia28 ?hsa28 ?hfa28 ?hra28 ?hQa28 ?hya28 ?hSa28 ?ha28
      case hia28 => (simp only [List.getElem?_toArray, List.getElem?_cons_succ, List.getElem?_cons_zero]; rfl)
      case hsa28 => kernel_rfl
      case hfa28 => kernel_rfl
      case hra28 => kernel_rfl
      case hSa28 => assumption
      case hya28 => exact Or.inr ⟨by kernel_rfl, rfl⟩
      case hQa28 => exact fun _ _ _ h => h
      try simp only [Act.put, List.setIfInBounds_toArray, List.set_cons_zero, List.set_cons_succ]
      refine wpAnyH_take (i := 29) (oi := ?oia29) (v := undef) ?hia29 ?hsa29 ?hfa29 ?hra29 ?hQa29 ?hya29 ?hSa29 ?ha29
      case hia29 => (simp only [List.getElem?_toArray, List.getElem?_cons_succ, List.getElem?_cons_zero]; rfl)
      case hsa29 => kernel_rfl
      case hfa29 => kernel_rfl
      case hra29 => kernel_rfl
      case hSa29 => assumption
      case hya29 => exact Or.inr ⟨by kernel_rfl, rfl⟩
      case hQa29 => exact fun _ _ _ h => h
      try simp only [Act.put, List.setIfInBounds_toArray, List.set_cons_zero, List.set_cons_succ]
      refine wpAnyH_take (i := 30) (oi := ?oia30) (v := ?va30) ?hia30 ?hsa30 ?hfa30 ?hra30 ?hQa30 ?hya30 ?hSa30 ?ha30
      case hia30 => (simp only [List.getElem?_toArray, List.getElem?_cons_succ, List.getElem?_cons_zero]; rfl)
      case hsa30 => kernel_rfl
      case hfa30 => kernel_rfl
      case hra30 => kernel_rfl
      case hSa30 => assumption
      case hya30 => refine Or.inl ⟨by kernel_rfl, ?_⟩; (intro w hSw; (try dsimp only at hSw); go_simp; try with_reducible rfl)
      case hQa30 => exact fun _ _ _ h => h
      try simp only [Act.put, List.setIfInBounds_toArray, List.set_cons_zero, List.set_cons_succ]
      refine wpAnyH_take (i := 31) (oi := ?oia31) (v := ?va31) ?hia31 ?hsa31 ?hfa31 ?hra31 ?hQa31 ?hya31 ?hSa31 ?ha31
      case hia31 => (simp only [List.getElem?_toArray, List.getElem?_cons_succ, List.getElem?_cons_zero]; rfl)
      case hsa31 => kernel_rfl
      case hfa31 => kernel_rfl
      case hra31 => kernel_rfl
      case hSa31 => assumption
      case hya31 => refine Or.inl ⟨by kernel_rfl, ?_⟩; (intro w hSw; (try dsimp only at hSw); go_simp; try with_reducible rfl)
      case hQa31 => exact fun _ _ _ h => h
      try simp only [Act.put, List.setIfInBounds_toArray, List.set_cons_zero, List.set_cons_succ]
      refine wpAnyH_done (by kernel_rfl) ?_ _
      all_goals
        go_wp2_with fail
        go_ret
        exact ⟨FIN.out _ (by simp [d2]), HB0.out.trans (HB5.out.mono HB0.out.size)⟩
    · have e2 : decide (aa + ta ≤ ba) = false := decide_eq_false d2
      go_enter Try.func100, Try.ntmps100
      go_wp2_with fail
      rw [← hw0]; clear hw0
      refine wp_region_held_drew (S := (fun w' => w'.cell? ⟨w.heap.size, 0, none⟩ = some (.slice ao n cap) ∧ w'.cell? ⟨w.heap.size, 1, none⟩ = some (.int .i64 secs) ∧ w'.cell? ⟨w.heap.size + 1, 0, none⟩ = some (.int .i64 ag) ∧ w'.cell? ⟨w.heap.size + 1, 1, none⟩ = some (.int .i64 aa) ∧ w'.cell? ⟨w.heap.size + 2, 0, none⟩ = some (.int .i64 ag) ∧ w'.cell? ⟨w.heap.size + 2, 1, none⟩ = some (.int .i64 ba))) (by kernel_rfl) (by go_keep) (fun hS0 => ?_)
      refine wpAnyH_take (i := 0) (oi := ?oib0) (v := ?vb0) ?hib0 ?hsb0 ?hfb0 ?hrb0 ?hQb0 ?hyb0 ?hSb0 ?hb0
      case hib0 => (simp only [List.getElem?_toArray, List.getElem?_cons_succ, List.getElem?_cons_zero]; rfl)
      case hsb0 => kernel_rfl
      case hfb0 => kernel_rfl
      case hrb0 => kernel_rfl
      case hSb0 => assumption
      case hyb0 => refine Or.inl ⟨by kernel_rfl, ?_⟩; (intro w hSw; (try dsimp only at hSw); go_simp; try with_reducible rfl)
      case hQb0 => exact fun _ _ _ h => h
      try simp only [Act.put, List.setIfInBounds_toArray, List.set_cons_zero, List.set_cons_succ]
      refine wpAnyH_take (i := 1) (oi := ?oib1) (v := ?vb1) ?hib1 ?hsb1 ?hfb1 ?hrb1 ?hQb1 ?hyb1 ?hSb1 ?hb1
      case hib1 => (simp only [List.getElem?_toArray, List.getElem?_cons_succ, List.getElem?_cons_zero]; rfl)
      case hsb1 => kernel_rfl
      case hfb1 => kernel_rfl
      case hrb1 => kernel_rfl
      case hSb1 => assumption
      case hyb1 => refine Or.inl ⟨by kernel_rfl, ?_⟩; (intro w hSw; (try dsimp only at hSw); go_simp; try with_reducible rfl)
      case hQb1 => exact fun _ _ _ h => h
      try simp only [Act.put, List.setIfInBounds_toArray, List.set_cons_zero, List.set_cons_succ]
      refine wpAnyH_take (i := 2) (oi := ?oib2) (v := ?vb2) ?hib2 ?hsb2 ?hfb2 ?hrb2 ?hQb2 ?hyb2 ?hSb2 ?hb2
      case hib2 => (simp only [List.getElem?_toArray, List.getElem?_cons_succ, List.getElem?_cons_zero]; rfl)
      case hsb2 => kernel_rfl
      case hfb2 => kernel_rfl
      case hrb2 => kernel_rfl
      case hSb2 => assumption
      case hyb2 => refine Or.inl ⟨by kernel_rfl, ?_⟩; (intro w hSw; (try dsimp only at hSw); go_simp; try with_reducible rfl)
      case hQb2 => exact fun _ _ _ h => h
      try simp only [Act.put, List.setIfInBounds_toArray, List.set_cons_zero, List.set_cons_succ]
      refine wpAnyH_take (i := 3) (oi := ?oib3) (v := ?vb3) ?hib3 ?hsb3 ?hfb3 ?hrb3 ?hQb3 ?hyb3 ?hSb3 ?hb3
      case hib3 => (simp only [List.getElem?_toArray, List.getElem?_cons_succ, List.getElem?_cons_zero]; rfl)
      case hsb3 => kernel_rfl
      case hfb3 => kernel_rfl
      case hrb3 => kernel_rfl
      case hSb3 => assumption
      case hyb3 => refine Or.inl ⟨by kernel_rfl, ?_⟩; (intro w hSw; (try dsimp only at hSw); go_simp; try with_reducible rfl)
      case hQb3 => exact fun _ _ _ h => h
      try simp only [Act.put, List.setIfInBounds_toArray, List.set_cons_zero, List.set_cons_succ]
      refine wpAnyH_take (i := 4) (oi := ?oib4) (v := ?vb4) ?hib4 ?hsb4 ?hfb4 ?hrb4 ?hQb4 ?hyb4 ?hSb4 ?hb4
      case hib4 => (simp only [List.getElem?_toArray, List.getElem?_cons_succ, List.getElem?_cons_zero]; rfl)
      case hsb4 => kernel_rfl
      case hfb4 => kernel_rfl
      case hrb4 => kernel_rfl
      case hSb4 => assumption
      case hyb4 => refine Or.inl ⟨by kernel_rfl, ?_⟩; (intro w hSw; (try dsimp only at hSw); go_simp; try with_reducible rfl)
      case hQb4 => exact fun _ _ _ h => h
      try simp only [Act.put, List.setIfInBounds_toArray, List.set_cons_zero, List.set_cons_succ]
      refine wpAnyH_take (i := 5) (oi := ?oib5) (v := ?vb5) ?hib5 ?hsb5 ?hfb5 ?hrb5 ?hQb5 ?hyb5 ?hSb5 ?hb5
      case hib5 => (simp only [List.getElem?_toArray, List.getElem?_cons_succ, List.getElem?_cons_zero]; rfl)
      case hsb5 => kernel_rfl
      case hfb5 => kernel_rfl
      case hrb5 => kernel_rfl
      case hSb5 => assumption
      case hyb5 => refine Or.inl ⟨by kernel_rfl, ?_⟩; (intro w hSw; (try dsimp only at hSw); go_simp; try with_reducible rfl)
      case hQb5 => exact fun _ _ _ h => h
      try simp only [Act.put, List.setIfInBounds_toArray, List.set_cons_zero, List.set_cons_succ]
      refine wpAnyH_take (i := 6) (oi := ?oib6) (v := ?vb6) ?hib6 ?hsb6 ?hfb6 ?hrb6 ?hQb6 ?hyb6 ?hSb6 ?hb6
      case hib6 => (simp only [List.getElem?_toArray, List.getElem?_cons_succ, List.getElem?_cons_zero]; rfl)
      case hsb6 => kernel_rfl
      case hfb6 => kernel_rfl
      case hrb6 => kernel_rfl
      case hSb6 => assumption
      case hyb6 => refine Or.inl ⟨by kernel_rfl, ?_⟩; (intro w hSw; (try dsimp only at hSw); go_simp; try with_reducible rfl)
      case hQb6 => exact fun _ _ _ h => h
      try simp only [Act.put, List.setIfInBounds_toArray, List.set_cons_zero, List.set_cons_succ]
      refine wpAnyH_take (i := 7) (oi := ?oib7) (v := ?vb7) ?hib7 ?hsb7 ?hfb7 ?hrb7 ?hQb7 ?hyb7 ?hSb7 ?hb7
      case hib7 => (simp only [List.getElem?_toArray, List.getElem?_cons_succ, List.getElem?_cons_zero]; rfl)
      case hsb7 => kernel_rfl
      case hfb7 => kernel_rfl
      case hrb7 => kernel_rfl
      case hSb7 => assumption
      case hyb7 => refine Or.inl ⟨by kernel_rfl, ?_⟩; (intro w hSw; (try dsimp only at hSw); go_simp; try with_reducible rfl)
      case hQb7 => exact fun _ _ _ h => h
      try simp only [Act.put, List.setIfInBounds_toArray, List.set_cons_zero, List.set_cons_succ]
      refine wpAnyH_take (i := 8) (oi := ?oib8) (v := ?vb8) ?hib8 ?hsb8 ?hfb8 ?hrb8 ?hQb8 ?hyb8 ?hSb8 ?hb8
      case hib8 => (simp only [List.getElem?_toArray, List.getElem?_cons_succ, List.getElem?_cons_zero]; rfl)
      case hsb8 => kernel_rfl
      case hfb8 => kernel_rfl
      case hrb8 => kernel_rfl
      case hSb8 => assumption
      case hyb8 => refine Or.inl ⟨by kernel_rfl, ?_⟩; (intro w hSw; (try dsimp only at hSw); go_simp; try with_reducible rfl)
      case hQb8 => exact fun _ _ _ h => h
      try simp only [Act.put, List.setIfInBounds_toArray, List.set_cons_zero, List.set_cons_succ]
      refine wpAnyH_take (i := 9) (oi := ?oib9) (v := ?vb9) ?hib9 ?hsb9 ?hfb9 ?hrb9 ?hQb9 ?hyb9 ?hSb9 ?hb9
      case hib9 => (simp only [List.getElem?_toArray, List.getElem?_cons_succ, List.getElem?_cons_zero]; rfl)
      case hsb9 => kernel_rfl
      case hfb9 => kernel_rfl
      case hrb9 => kernel_rfl
      case hSb9 => assumption
      case hyb9 => refine Or.inl ⟨by kernel_rfl, ?_⟩; (intro w hSw; (try dsimp only at hSw); go_simp; try with_reducible rfl)
      case hQb9 => exact fun _ _ _ h => h
      try simp only [Act.put, List.setIfInBounds_toArray, List.set_cons_zero, List.set_cons_succ]
      refine wpAnyH_take (i := 10) (oi := ?oib10) (v := ?vb10) ?hib10 ?hsb10 ?hfb10 ?hrb10 ?hQb10 ?hyb10 ?hSb10 ?hb10
      case hib10 => (simp only [List.getElem?_toArray, List.getElem?_cons_succ, List.getElem?_cons_zero]; rfl)
      case hsb10 => kernel_rfl
      case hfb10 => kernel_rfl
      case hrb10 => kernel_rfl
      case hSb10 => assumption
      case hyb10 => refine Or.inl ⟨by kernel_rfl, ?_⟩; (intro w hSw; (try dsimp only at hSw); go_simp; try with_reducible rfl)
      case hQb10 => exact fun _ _ _ h => h
      try simp only [Act.put, List.setIfInBounds_toArray, List.set_cons_zero, List.set_cons_succ]
      refine wpAnyH_take (i := 11) (oi := ?oib11) (v := ?vb11) ?hib11 ?hsb11 ?hfb11 ?hrb11 ?hQb11 ?hyb11 ?hSb11 ?hb11
      case hib11 => (simp only [List.getElem?_toArray, List.getElem?_cons_succ, List.getElem?_cons_zero]; rfl)
      case hsb11 => kernel_rfl
      case hfb11 => kernel_rfl
      case hrb11 => kernel_rfl
      case hSb11 => assumption
      case hyb11 => refine Or.inl ⟨by kernel_rfl, ?_⟩; (intro w hSw; (try dsimp only at hSw); go_simp; try with_reducible rfl)
      case hQb11 => exact fun _ _ _ h => h
      try simp only [Act.put, List.setIfInBounds_toArray, List.set_cons_zero, List.set_cons_succ]
      refine wpAnyH_take (i := 14) (oi := ?oib14) (v := ?vb14) ?hib14 ?hsb14 ?hfb14 ?hrb14 ?hQb14 ?hyb14 ?hSb14 ?hb14
      case hib14 => (simp only [List.getElem?_toArray, List.getElem?_cons_succ, List.getElem?_cons_zero]; rfl)
      case hsb14 => kernel_rfl
      case hfb14 => kernel_rfl
      case hrb14 => kernel_rfl
      case hSb14 => assumption
      case hyb14 => refine Or.inl ⟨by kernel_rfl, ?_⟩; (intro w hSw; (try dsimp only at hSw); go_simp; try with_reducible rfl)
      case hQb14 => exact fun _ _ _ h => h
      try simp only [Act.put, List.setIfInBounds_toArray, List.set_cons_zero, List.set_cons_succ]
      refine wpAnyH_take (i := 15) (oi := ?oib15) (v := ?vb15) ?hib15 ?hsb15 ?hfb15 ?hrb15 ?hQb15 ?hyb15 ?hSb15 ?hb15
      case hib15 => (simp only [List.getElem?_toArray, List.getElem?_cons_succ, List.getElem?_cons_zero]; rfl)
      case hsb15 => kernel_rfl
      case hfb15 => kernel_rfl
      case hrb15 => kernel_rfl
      case hSb15 => assumption
      case hyb15 => refine Or.inl ⟨by kernel_rfl, ?_⟩; (intro w hSw; (try dsimp only at hSw); go_simp; try with_reducible rfl)
      case hQb15 => exact fun _ _ _ h => h
      try simp only [Act.put, List.setIfInBounds_toArray, List.set_cons_zero, List.set_cons_succ]
      refine wpAnyH_ready (rs := [12]) (by kernel_rfl) (by simp) ?_
      refine AllReadyH.cons rfl (fun K hK => ?_) AllReadyH.nil
      go_simp
      (go_at_call 116; refine (HTA'.out _ (Below.refl _ _).drew).mono ?_; rintro e w5 ⟨rfl, hb5⟩; have HB5 := Lib.hid ((Below.refl w0.heap.size w0).drew.trans hb5); obtain ⟨h0, h1, h2, h3, h4, h5⟩ := REL.out w5 HB5.out; clear hb5)
      refine hK.out _ _ (by go_keep) (fun _ => ?_)
      try simp only [Act.put, List.setIfInBounds_toArray, List.set_cons_zero, List.set_cons_succ]
      refine wpAnyH_take (i := 13) (oi := ?oib13) (v := ?vb13) ?hib13 ?hsb13 ?hfb13 ?hrb13 ?hQb13 ?hyb13 ?hSb13 ?hb13
      case hib13 => (simp only [List.getElem?_toArray, List.getElem?_cons_succ, List.getElem?_cons_zero]; rfl)
      case hsb13 => kernel_rfl
      case hfb13 => kernel_rfl
      case hrb13 => kernel_rfl
      case hSb13 => assumption
      case hyb13 => refine Or.inl ⟨by kernel_rfl, ?_⟩; (intro w hSw; (try dsimp only at hSw); go_simp; try with_reducible rfl)
      case hQb13 => exact fun _ _ _ h => h
      try simp only [Act.put, List.setIfInBounds_toArray, List.set_cons_zero, List.set_cons_succ]
      refine wpAnyH_take (i := 16) (oi := ?oib16) (v := ?vb16) ?hib16 ?hsb16 ?hfb16 ?hrb16 ?hQb16 ?hyb16 ?hSb16 ?hb16
      case hib16 => (simp only [List.getElem?_toArray, List.getElem?_cons_succ, List.getElem?_cons_zero]; rfl)
      case hsb16 => kernel_rfl
      case hfb16 => kernel_rfl
      case hrb16 => kernel_rfl
      case hSb16 => assumption
      case hyb16 => refine Or.inl ⟨by kernel_rfl, ?_⟩; (intro w hSw; (try dsimp only at hSw); go_simp; try with_reducible rfl)
      case hQb16 => exact fun _ _ _ h => h
      try simp only [Act.put, List.setIfInBounds_toArray, List.set_cons_zero, List.set_cons_succ]
      refine wpAnyH_take (i := 17) (oi := ?oib17) (v := ?vb17) ?hib17 ?hsb17 ?hfb17 ?hrb17 ?hQb17 ?hyb17 ?hSb17 ?hb17
      case hib17 => (simp only [List.getElem?_toArray, List.getElem?_cons_succ, List.getElem?_cons_zero]; rfl)
      case hsb17 => kernel_rfl
      case hfb17 => kernel_rfl
      case hrb17 => kernel_rfl
      case hSb17 => assumption
      case hyb17 => refine Or.inl ⟨by kernel_rfl, ?_⟩; (intro w hSw; (try dsimp only at hSw); go_simp; try with_reducible rfl)
      case hQb17 => exact fun _ _ _ h => h
      try simp only [Act.put, List.setIfInBounds_toArray, List.set_cons_zero, List.set_cons_succ]
      refine wpAnyH_take (i := 18) (oi := ?oib18) (v := ?vb18) ?hib18 ?hsb18 ?hfb18 ?hrb18 ?hQb18 ?hyb18 ?hSb18 ?hb18
      case hib18 => (simp only [List.getElem?_toArray, List.getElem?_cons_succ, List.getElem?_cons_zero]; rfl)
      case hsb18 => kernel_rfl
      case hfb18 => kernel_rfl
      case hrb18 => kernel_rfl
      case hSb18 => assumption
      case hyb18 => refine Or.inl ⟨by kernel_rfl, ?_⟩; (intro w hSw; (try dsimp only at hSw); go_simp; try with_reducible rfl)
      case hQb18 => exact fun _ _ _ h => h
      try simp only [Act.put, List.setIfInBounds_toArray, List.set_cons_zero, List.set_cons_succ]
      refine wpAnyH_take (i := 19) (oi := ?oib19) (v := ?vb19) ?hib19 ?hsb19 ?hfb19 ?hrb19 ?hQb19 ?hyb19 ?hSb19 ?hb19
      case hib19 => (simp only [List.getElem?_toArray, List.getElem?_cons_succ, List.getElem?_cons_zero]; rfl)
      case hsb19 => kernel_rfl
      case hfb19 => kernel_rfl
      case hrb19 => kernel_rfl
      case hSb19 => assumption
      case hyb19 => refine Or.inl ⟨by kernel_rfl, ?_⟩; (intro w hSw; (try dsimp only at hSw); go_simp; try with_reducible rfl)
      case hQb19 => exact fun _ _ _ h => h
      try simp only [Act.put, List.setIfInBounds_toArray, List.set_cons_zero, List.set_cons_succ]
      refine wpAnyH_take (i := 20) (oi := ?oib20) (v := ?vb20) ?hib20 ?hsb20 ?hfb20 ?hrb20 ?hQb20 ?hyb20 ?hSb20 ?hb20
      case hib20 => (simp only [List.getElem?_toArray, List.getElem?_cons_succ, List.getElem?_cons_zero]; rfl)
      case hsb20 => kernel_rfl
      case hfb20 => kernel_rfl
      case hrb20 => kernel_rfl
      case hSb20 => assumption
      case hyb20 => refine Or.inl ⟨by kernel_rfl, ?_⟩; (intro w hSw; (try dsimp only at hSw); go_simp; try with_reducible rfl)
      case hQb20 => exact fun _ _ _ h => h
      try simp only [Act.put, List.setIfInBounds_toArray, List.set_cons_zero, List.set_cons_succ]
      refine wpAnyH_take (i := 21) (oi := ?oib21) (v := ?vb21) ?hib21 ?hsb21 ?hfb21 ?hrb21 ?hQb21 ?hyb21 ?hSb21 ?hb21
      case hib21 => (simp only [List.getElem?_toArray, List.getElem?_cons_succ, List.getElem?_cons_zero]; rfl)
      case hsb21 => kernel_rfl
      case hfb21 => kernel_rfl
      case hrb21 => kernel_rfl
      case hSb21 => assumption
      case hyb21 => refine Or.inl ⟨by kernel_rfl, ?_⟩; (intro w hSw; (try dsimp only at hSw); go_simp; try with_reducible rfl)
      case hQb21 => exact fun _ _ _ h => h
      try simp only [Act.put, List.setIfInBounds_toArray, List.set_cons_zero, List.set_cons_succ]
      refine wpAnyH_take (i := 22) (oi := ?oib22) (v := ?vb22) ?hib22 ?hsb22 ?hfb22 ?hrb22 ?hQb22 ?hyb22 ?hSb22 ?hb22
      case hib22 => (simp only [List.getElem?_toArray, List.getElem?_cons_succ, List.getElem?_cons_zero]; rfl)
      case hsb22 => kernel_rfl
      case hfb22 => kernel_rfl
      case hrb22 => kernel_rfl
      case hSb22 => assumption
      case hyb22 => refine Or.inl ⟨by kernel_rfl, ?_⟩; (intro w hSw; (try dsimp only at hSw); go_simp; try with_reducible rfl)
      case hQb22 => exact fun _ _ _ h => h
      try simp only [Act.put, List.setIfInBounds_toArray, List.set_cons_zero, List.set_cons_succ]
      refine wpAnyH_take (i := 23) (oi := ?oib23) (v := ?vb23) ?hib23 ?hsb23 ?hfb23 ?hrb23 ?hQb23 ?hyb23 ?hSb23 ?hb23
      case hib23 => (simp only [List.getElem?_toArray, List.getElem?_cons_succ, List.getElem?_cons_zero]; rfl)
      case hsb23 => kernel_rfl
      case hfb23 => kernel_rfl
      case hrb23 => kernel_rfl
      case hSb23 => assumption
      case hyb23 => refine Or.inl ⟨by kernel_rfl, ?_⟩; (intro w hSw; (try dsimp only at hSw); go_simp; try with_reducible rfl)
      case hQb23 => exact fun _ _ _ h => h
      try simp only [Act.put, List.setIfInBounds_toArray, List.set_cons_zero, List.set_cons_succ]
      refine wpAnyH_take (i := 24) (oi := ?oib24) (v := ?vb24) ?hib24 ?hsb24 ?hfb24 ?hrb24 ?hQb24 ?hyb24 ?hSb24 ?hb24
      case hib24 => (simp only [List.getElem?_toArray, List.getElem?_cons_succ, List.getElem?_cons_zero]; rfl)
      case hsb24 => kernel_rfl
      case hfb24 => kernel_rfl
      case hrb24 => kernel_rfl
      case hSb24 => assumption
      case hyb24 => refine Or.inl ⟨by kernel_rfl, ?_⟩; (intro w hSw; (try dsimp only at hSw); go_simp; try with_reducible rfl)
      case hQb24 => exact fun _ _ _ h => h
      try simp only [Act.put, List.setIfInBounds_toArray, List.set_cons_zero, List.set_cons_succ]
      refine wpAnyH_take (i := 27) (oi := ?oib27) (v := ?vb27) ?hib27 ?hsb27 ?hfb27 ?hrb27 ?hQb27 ?hyb27 ?hSb27 ?hb27
      case hib27 => (simp only [List.getElem?_toArray, List.getElem?_cons_succ, List.getElem?_cons_zero]; rfl)
      case hsb27 => kernel_rfl
      case hfb27 => kernel_rfl
      case hrb27 => kernel_rfl
      case hSb27 => assumption
      case hyb27 => refine Or.inl ⟨by kernel_rfl, ?_⟩; (intro w hSw; (try dsimp only at hSw); go_simp; try with_reducible rfl)
      case hQb27 => exact fun _ _ _ h => h
      try simp only [Act.put, List.setIfInBounds_toArray, List.set_cons_zero, List.set_cons_succ]
      refine wpAnyH_take (i := 28) (oi := ?oib28) (v := ?vb28) ?hib28 ?hsb28 ?hfb28 ?hrb28 ?hQb28 ?hyb28 ?hSb28 ?hb28
      case hib28 => (simp only [List.getElem?_toArray, List.getElem?_cons_succ, List.getElem?_cons_zero]; rfl)
      case hsb28 => kernel_rfl
      case hfb28 => kernel_rfl
      case hrb28 => kernel_rfl
      case hSb28 => assumption
      case hyb28 => refine Or.inl ⟨by kernel_rfl, ?_⟩; (intro w hSw; (try dsimp only at hSw); go_simp; try with_reducible rfl)
      case hQb28 => exact fun _ _ _ h => h
      try simp only [Act.put, List.setIfInBounds_toArray, List.set_cons_zero, List.set_cons_succ]
      refine wpAnyH_ready (rs := [25]) (by kernel_rfl) (by simp) ?_
      refine AllReadyH.cons rfl (fun K hK => ?_) AllReadyH.nil
      go_simp
      (go_at_call 116; refine (HTB'.out _ HB5.out).mono ?_; rintro e w6 ⟨rfl, hb6⟩; clear h0 h1 h2 h3 h4 h5; have HB6 := Lib.hid (HB5.out.trans (hb6.mono HB5.out.size)); obtain ⟨h0, h1, h2, h3, h4, h5⟩ := REL.out w6 HB6.out; clear hb6)
      refine hK.out _ _ (by go_keep) (fun _ => ?_)
      try simp only [Act.put, List.setIfInBounds_toArray, List.set_cons_zero, List.set_cons_succ]
      refine wpAnyH_take (i := 26) (oi := ?oib26) (v := ?vb26) ?hib26 ?hsb26 ?hfb26 ?hrb26 ?hQb26 ?hyb26 ?hSb26 ?hb26
      case hib26 => (simp only [List.getElem?_toArray, List.getElem?_cons_succ, List.getElem?_cons_zero]; rfl)
      case hsb26 => kernel_rfl
      case hfb26 => kernel_rfl
      case hrb26 => kernel_rfl
      case hSb26 => assumption
      case hyb26 => refine Or.inl ⟨by kernel_rfl, ?_⟩; (intro w hSw; (try dsimp only at hSw); go_simp; try with_reducible rfl)
      case hQb26 => exact fun _ _ _ h => h
      try simp only [Act.put, List.setIfInBounds_toArray, List.set_cons_zero, List.set_cons_succ]
      refine wpAnyH_take (i := 29) (oi := ?oib29) (v := ?vb29) ?hib29 ?hsb29 ?hfb29 ?hrb29 ?hQb29 ?hyb29 ?hSb29 ?hb29
      case hib29 => (simp only [List.getElem?_toArray, List.getElem?_cons_succ, List.getElem?_cons_zero]; rfl)
      case hsb29 => kernel_rfl
      case hfb29 => kernel_rfl
      case hrb29 => kernel_rfl
      case hSb29 => assumption
      case hyb29 => refine Or.inl ⟨by kernel_rfl, ?_⟩; (intro w hSw; (try dsimp only at hSw); go_simp; try with_reducible rfl)
      case hQb29 => exact fun _ _ _ h => h
      try simp only [Act.put, List.setIfInBounds_toArray, List.set_cons_zero, List.set_cons_succ]
      refine wpAnyH_take (i := 30) (oi := ?oib30) (v := ?vb30) ?hib30 ?hsb30 ?hfb30 ?hrb30 ?hQb30 ?hyb30 ?hSb30 ?hb30
      case hib30 => (simp only [List.getElem?_toArray, List.getElem?_cons_succ, List.getElem?_cons_zero]; rfl)
      case hsb30 => kernel_rfl
      case hfb30 => kernel_rfl
      case hrb30 => kernel_rfl
      case hSb30 => assumption
      case hyb30 => refine Or.inl ⟨by kernel_rfl, ?_⟩; (intro w hSw; (try dsimp only at hSw); go_simp; try with_reducible rfl)
      case hQb30 => exact fun _ _ _ h => h
      try simp only [Act.put, List.setIfInBounds_toArray, List.set_cons_zero, List.set_cons_succ]
      refine wpAnyH_take (i := 31) (oi := ?oib31) (v := ?vb31) ?hib31 ?hsb31 ?hfb31 ?hrb31 ?hQb31 ?hyb31 ?hSb31 ?hb31
      case hib31 => (simp only [List.getElem?_toArray, List.getElem?_cons_succ, List.getElem?_cons_zero]; rfl)
      case hsb31 => kernel_rfl
      case hfb31 => kernel_rfl
      case hrb31 => kernel_rfl
      case hSb31 => assumption
      case hyb31 => refine Or.inl ⟨by kernel_rfl, ?_⟩; (intro w hSw; (try dsimp only at hSw); go_simp; try with_reducible rfl)
      case hQb31 => exact fun _ _ _ h => h
      try simp only [Act.put, List.setIfInBounds_toArray, List.set_cons_zero, List.set_cons_succ]
      refine wpAnyH_done (by kernel_rfl) ?_ _
      all_goals
        go_wp2_with fail
        go_ret
        exact ⟨FIN.out _ (by rw [Bool.eq_iff_iff]; simp only [decide_eq_true_eq]; omega), HB0.out.trans (HB6.out.mono HB0.out.size)⟩
  · have e1 : (ag != bg) = true := by simpa using d1
    go_enter Try.func100, Try.ntmps100
    go_wp2_with fail
    rw [← hw0]; clear hw0
    go_quiet (fail)
    go_wp2_with fail
    go_ret
    exact ⟨FIN.out _ (by simp [d1]), below_drewN' HB0.out _⟩
end Go.Proofs.Ytmnhdpojonlfhaa
