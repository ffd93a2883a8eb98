/- The walk of tree.set. -/
import Derived.Test.YtbhofablndjeoaaDoorTrO
namespace Go.Proofs.YtbhofablndjeoaaDoor
open Go.RowKit
set_option linter.unusedSimpArgs false
set_option linter.unusedVariables false
attribute [local go_sem ↓] wp_loadPt wp_storePt wp_loadA4 wp_storeA4 wp_binA4

theorem links_good {σ : Type} {S : StF σ} {p : PtrT} {s s1 : σ} {l : List PtrT} (h : linksM S p s = (.ok l, s1)) : l.length = 4 ∧ ∀ q ∈ l, q.wf := by
  have hi : ∀ {x : Item} {s2 : σ}, itemM S p s = (.ok x, s2) → x.good := by
    intro x s2 hx
    unfold itemM at hx
    by_cases hn : isNone p = true
    · rw [if_pos hn] at hx
      simp only [M.ret, Prod.mk.injEq, Except.ok.injEq] at hx
      rw [← hx.1]; trivial
    · rw [if_neg hn] at hx
      rcases M.bind_cases hx with ⟨t, s3, h1, h2⟩ | ⟨e, s3, h1, h2⟩
      · simp only [Prod.mk.injEq] at h2
        exact nodeRead_good h2.1
      · simp at h2
  rcases M.bind_cases (x := itemM S p) (f := fun x s => (linksOf x, s)) h with ⟨x, s2, h1, h2⟩ | ⟨e, s2, h1, h2⟩
  · have hg := hi h1
    simp only [Prod.mk.injEq] at h2
    cases x with
    | index l' =>
      simp only [linksOf, Except.ok.injEq] at h2
      rw [← h2.1]; exact hg
    | hole =>
      simp only [linksOf, Except.ok.injEq] at h2
      rw [← h2.1]; exact ⟨rfl, zs4_wf⟩
    | data t => simp [linksOf] at h2
  · simp at h2
theorem PutR.two {r : Except Nat PtrT} {e : Ending} (h : PutR r e) : (∃ n, r = .error n ∧ n ≠ 0) ∨ ∃ q, r = .ok q ∧ q.wf := by
  cases r with
  | ok p => exact .inr ⟨p, rfl, h.2⟩
  | error n => exact .inl ⟨n, rfl, h.2⟩
theorem dataText_le (s : Bs) : (dataText s).length ≤ 256 := by
  by_cases h : s.length ≤ 256
  · exact dataText_len h
  · unfold dataText; rw [if_neg h]; simp
section
variable {σ : Type} {S : StF σ} {ty : TypeId} {a : Addr} {C : StoreC S ty a}
set_option maxHeartbeats 2000000 in
set_option maxRecDepth 100000 in
theorem set0_any {w : World} {st : σ} {F : Nat → Prop} (h : C.Is w st F) (p : PtrT) (i : Int) (s : Bs) (hsl : s.length ≤ 1000000) (hok : C.Ok (setM S 0 p 0 s st).2) :
    Calls Tryd.prog 49 #[.iface ty (.pointer (some a)), .agg (encPtr p).toArray, .int .i64 0, .int .i64 i, .string ⟨s.toArray⟩] w fun e w' => PutR (setM S 0 p 0 s st).1 e ∧ C.Step F (setM S 0 p 0 s st).2 w w' := by
  obtain ⟨w0, hw0⟩ : ∃ w0, w0 = (w.alloc (.cells (encPtr p).toArray 35)).alloc (.cells (encPtr pD).toArray 35) := ⟨_, rfl⟩
  have hr : Blk w0 (w.heap.size + 1) 35 (encPtr pD) := by rw [hw0]; exact Blk.newAt (w := w.alloc _) _ _ (by simp)
  have hbel : Below w.heap.size w w0 := by rw [hw0]; exact ((Below.refl _ _).alloc (Nat.le_refl _) _).alloc (by simp) _
  have h1 : ¬ F (w.heap.size + 1) := fun hf => by have := C.lt h _ hf; omega
  have HAT : Hid (C.At F st w w0 F) := Lib.hid ((StoreC.At.start h).below hbel)
  have HR := Lib.hid hr
  clear hbel
  by_cases hz : s = []
  · have e : setM S 0 p 0 s = M.ret pD := by unfold setM; rw [if_pos hz]
    rw [e]
    have hst := fun op a next Q => storeZPt hr rfl op a next Q
    have HB2 := Lib.hid (hr.put (vs := encPtr pD) rfl)
    have HA2 := Lib.hid (HAT.out.put (o := 0) (vs := encPtr pD) (Nat.le_succ _) h1)
    have qs : s.isEmpty = true := by simp [hz]
    clear hz e hok hr
    go_enter Tryd.func49, Tryd.ntmps49
    go_upto_region 1 with fail
    rw [show (w.alloc (.cells (encPtr p).toArray 35)).alloc (.cells #[.int .i64 0, .int .i64 0, .int .i64 0, .int .i64 0, .bool false, .int .i64 0, .int .i64 0, .int .i64 0, .int .u64 0, .int .u64 0, .int .u64 0, .int .u64 0] 35) = w0 from hw0.symm]
    clear hw0
    go_wp2_with fail
    refine bodyPost_ret (res_cell_tmp rfl _ _ (w.heap.size + 1) 35 _ _ rfl HB2.out Tryd.underlying35 rfl iszPt) rfl ?_
    exact ⟨⟨rfl, pD_wf⟩, HA2.out.fin⟩
  · have e : setM S 0 p 0 s = S.put (dataText s) 0 := by unfold setM; rw [if_neg hz]
    rw [e] at hok ⊢
    have qs : s.isEmpty = false := by cases s <;> simp_all
    clear hz e hr
    go_enter Tryd.func49, Tryd.ntmps49
    go_upto_region 1 with fail
    rw [show (w.alloc (.cells (encPtr p).toArray 35)).alloc (.cells #[.int .i64 0, .int .i64 0, .int .i64 0, .int .i64 0, .bool false, .int .i64 0, .int .i64 0, .int .i64 0, .int .u64 0, .int .u64 0, .int .u64 0, .int .u64 0] 35) = w0 from hw0.symm]
    clear hw0
    go_wp2_with fail
    · refine wp_region_held_drew (S := fun w' => ∃ cs, cs.length = 12 ∧ Blk w' (w.heap.size + 1) 35 cs) (by kernel_rfl) ⟨_, rfl, HR.out.drew⟩ (fun hS0 => ?_)
      refine wpAnyH_take (i := 0) (oi := ?oia0) (v := ?va0) ?hia0 ?hsa0 ?hfa0 ?hra0 ?hQa0 ?hya0 ?hSa0 ?ha0
      case hia0 => (simp only [List.getElem?_toArray, List.getElem?_cons_succ, List.getElem?_cons_zero]; rfl)
      case hsa0 => kernel_rfl
      case hfa0 => kernel_rfl
      case hra0 => kernel_rfl
      case hSa0 => first | assumption | trivial
      case hya0 => refine Or.inl ⟨by kernel_rfl, ?_⟩; (intro w hSw; (try dsimp only at hSw); go_simp; try with_reducible rfl)
      case hQa0 => exact fun _ _ _ h => h
      try simp only [Act.put, List.setIfInBounds_toArray, List.set_cons_zero, List.set_cons_succ]
      refine wpAnyH_take (i := 1) (oi := ?oia1) (v := ?va1) ?hia1 ?hsa1 ?hfa1 ?hra1 ?hQa1 ?hya1 ?hSa1 ?ha1
      case hia1 => (simp only [List.getElem?_toArray, List.getElem?_cons_succ, List.getElem?_cons_zero]; rfl)
      case hsa1 => kernel_rfl
      case hfa1 => kernel_rfl
      case hra1 => kernel_rfl
      case hSa1 => first | assumption | trivial
      case hya1 => refine Or.inl ⟨by kernel_rfl, ?_⟩; (intro w hSw; (try dsimp only at hSw); go_simp; try with_reducible rfl)
      case hQa1 => exact fun _ _ _ h => h
      try simp only [Act.put, List.setIfInBounds_toArray, List.set_cons_zero, List.set_cons_succ]
      refine wpAnyH_take (i := 2) (oi := ?oia2) (v := ?va2) ?hia2 ?hsa2 ?hfa2 ?hra2 ?hQa2 ?hya2 ?hSa2 ?ha2
      case hia2 => (simp only [List.getElem?_toArray, List.getElem?_cons_succ, List.getElem?_cons_zero]; rfl)
      case hsa2 => kernel_rfl
      case hfa2 => kernel_rfl
      case hra2 => kernel_rfl
      case hSa2 => first | assumption | trivial
      case hya2 => refine Or.inl ⟨by kernel_rfl, ?_⟩; (intro w hSw; (try dsimp only at hSw); go_simp; try with_reducible rfl)
      case hQa2 => exact fun _ _ _ h => h
      try simp only [Act.put, List.setIfInBounds_toArray, List.set_cons_zero, List.set_cons_succ]
      refine wpAnyH_take (i := 4) (oi := ?oia4) (v := ?va4) ?hia4 ?hsa4 ?hfa4 ?hra4 ?hQa4 ?hya4 ?hSa4 ?ha4
      case hia4 => (simp only [List.getElem?_toArray, List.getElem?_cons_succ, List.getElem?_cons_zero]; rfl)
      case hsa4 => kernel_rfl
      case hfa4 => kernel_rfl
      case hra4 => kernel_rfl
      case hSa4 => first | assumption | trivial
      case hya4 => refine Or.inl ⟨by kernel_rfl, ?_⟩; (intro w hSw; (try dsimp only at hSw); go_simp; try with_reducible rfl)
      case hQa4 => exact fun _ _ _ h => h
      try simp only [Act.put, List.setIfInBounds_toArray, List.set_cons_zero, List.set_cons_succ]
      refine wpAnyH_take (i := 5) (oi := ?oia5) (v := ?va5) ?hia5 ?hsa5 ?hfa5 ?hra5 ?hQa5 ?hya5 ?hSa5 ?ha5
      case hia5 => (simp only [List.getElem?_toArray, List.getElem?_cons_succ, List.getElem?_cons_zero]; rfl)
      case hsa5 => kernel_rfl
      case hfa5 => kernel_rfl
      case hra5 => kernel_rfl
      case hSa5 => first | assumption | trivial
      case hya5 => refine Or.inl ⟨by kernel_rfl, ?_⟩; (intro w hSw; (try dsimp only at hSw); go_simp; rw [C.nput]; rfl)
      case hQa5 => exact fun _ _ _ h => h
      try simp only [Act.put, List.setIfInBounds_toArray, List.set_cons_zero, List.set_cons_succ]
      refine wpAnyH_take (i := 6) (oi := ?oia6) (v := ?va6) ?hia6 ?hsa6 ?hfa6 ?hra6 ?hQa6 ?hya6 ?hSa6 ?ha6
      case hia6 => (simp only [List.getElem?_toArray, List.getElem?_cons_succ, List.getElem?_cons_zero]; rfl)
      case hsa6 => kernel_rfl
      case hfa6 => kernel_rfl
      case hra6 => kernel_rfl
      case hSa6 => first | assumption | trivial
      case hya6 => refine Or.inl ⟨by kernel_rfl, ?_⟩; (intro w hSw; (try dsimp only at hSw); go_simp; try with_reducible rfl)
      case hQa6 => exact fun _ _ _ h => h
      try simp only [Act.put, List.setIfInBounds_toArray, List.set_cons_zero, List.set_cons_succ]
      refine wpAnyH_ready (rs := [3]) (by kernel_rfl) (by simp) ?_
      refine AllReadyH.cons rfl (fun K hK => ?_) AllReadyH.nil
      go_simp
      refine (Data_Text_any s w0.drew hsl).mono ?_
      rintro e w1 ⟨rfl, hb1⟩
      try dsimp only
      refine hK.out _ _ (⟨_, rfl, HR.out.drew.below hb1⟩) (fun hSa3 => ?_)
      try simp only [Act.put, List.setIfInBounds_toArray, List.set_cons_zero, List.set_cons_succ]
      refine wpAnyH_ready (rs := [7]) (by kernel_rfl) (by simp) ?_
      refine AllReadyH.cons rfl (fun K hK => ?_) AllReadyH.nil
      go_simp
      rw [C.mput, Result.andThen_ok, C.cp]
      go_simp
      have hat1 := (HAT.out.below (Below.refl _ _).drew).below hb1
      refine (C.put (dataText s) 0 hat1.1 (dataText_le s) (by omega) hok).mono ?_
      rintro e w3 ⟨hpr, hstep⟩
      have hpe := PutR.val hpr
      subst hpe
      obtain ⟨F2, hat, hfr, hm⟩ := hat1.step hstep
      have hres := hm.blk (HR.out.drew.below hb1) h1
      have hf1 := hfr _ (HR.out.drew.below hb1).lt h1
      clear hfr
      try dsimp only
      refine hK.out _ _ (⟨_, rfl, hres⟩) (fun hSa7 => ?_)
      try simp only [Act.put, List.setIfInBounds_toArray, List.set_cons_zero, List.set_cons_succ]
      refine wpAnyH_take (i := 8) (oi := ?oia8) (v := ?va8) ?hia8 ?hsa8 ?hfa8 ?hra8 ?hQa8 ?hya8 ?hSa8 ?ha8
      case hia8 => (simp only [List.getElem?_toArray, List.getElem?_cons_succ, List.getElem?_cons_zero]; rfl)
      case hsa8 => kernel_rfl
      case hfa8 => kernel_rfl
      case hra8 => kernel_rfl
      case hSa8 => first | assumption | trivial
      case hya8 => refine Or.inl ⟨by kernel_rfl, ?_⟩; (intro w hSw; (try dsimp only at hSw); go_simp; try with_reducible rfl)
      case hQa8 => exact fun _ _ _ h => h
      try simp only [Act.put, List.setIfInBounds_toArray, List.set_cons_zero, List.set_cons_succ]
      refine wpAnyH_take (i := 9) (oi := ?oia9) (v := ?va9) ?hia9 ?hsa9 ?hfa9 ?hra9 ?hQa9 ?hya9 ?hSa9 ?ha9
      case hia9 => (simp only [List.getElem?_toArray, List.getElem?_cons_succ, List.getElem?_cons_zero]; rfl)
      case hsa9 => kernel_rfl
      case hfa9 => kernel_rfl
      case hra9 => kernel_rfl
      case hSa9 => first | assumption | trivial
      case hya9 => refine Or.inl ⟨by kernel_rfl, ?_⟩; (intro w hSw; (try dsimp only at hSw); go_simp; try with_reducible rfl)
      case hQa9 => exact fun _ _ _ h => h
      try simp only [Act.put, List.setIfInBounds_toArray, List.set_cons_zero, List.set_cons_succ]
      refine wpAnyH_ready (rs := [10]) (by kernel_rfl) (by simp) ?_
      refine AllReadyH.cons rfl (fun K hK => ?_) AllReadyH.nil
      rw [if_pos (by kernel_rfl)]
      refine wp_store_mid 35 (.tmp 10) (.tmp 28) rfl (w.heap.size + 1) (0) (encPtr (ptrV (S.put (dataText s) 0 st).1)).toArray rfl rfl (blk_there hres (Nat.le_refl 12)) iszPt (all_oneCell_toArray (encPtr_ones _)) ?_
      refine hK.out _ _ (⟨_, rfl, hres.put rfl⟩) (fun hSa10 => ?_)
      try simp only [Act.put, List.setIfInBounds_toArray, List.set_cons_zero, List.set_cons_succ]
      refine wpAnyH_take (i := 11) (oi := ?oia11) (v := ?va11) ?hia11 ?hsa11 ?hfa11 ?hra11 ?hQa11 ?hya11 ?hSa11 ?ha11
      case hia11 => (simp only [List.getElem?_toArray, List.getElem?_cons_succ, List.getElem?_cons_zero]; rfl)
      case hsa11 => kernel_rfl
      case hfa11 => kernel_rfl
      case hra11 => kernel_rfl
      case hSa11 => first | assumption | trivial
      case hya11 => refine Or.inl ⟨by kernel_rfl, ?_⟩; (intro w hSw; (try dsimp only at hSw); go_simp; try with_reducible rfl)
      case hQa11 => exact fun _ _ _ h => h
      try simp only [Act.put, List.setIfInBounds_toArray, List.set_cons_zero, List.set_cons_succ]
      refine wpAnyH_done (by kernel_rfl) ?_ _
      go_wp2_with fail
      refine bodyPost_ret (res_cell_tmp rfl _ _ (w.heap.size + 1) 35 _ _ rfl (hres.put (vs := encPtr (ptrV (S.put (dataText s) 0 st).1)) rfl) Tryd.underlying35 rfl iszPt) rfl ?_
      exact ⟨hpr, (hat.put (Nat.le_succ _) hf1).fin⟩
end
end Go.Proofs.YtbhofablndjeoaaDoor
