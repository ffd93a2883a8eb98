/- The walks of tree.put, set. -/
import Derived.Test.YtbhofablndjeoaaDoorTrN
namespace Go.Proofs.YtbhofablndjeoaaDoor
open Go.RowKit
set_option linter.unusedSimpArgs false
set_option linter.unusedVariables false
attribute [local go_sem ↓] wp_loadPt wp_storePt wp_loadA4 wp_storeA4 wp_binA4

theorem range_blk {w : World} {g e : Nat} {cs : List Value} (h : Blk w g e cs) : w.rangeAt g 0 cs := fun j v hv => by rw [Nat.zero_add, h.cell, hv]
theorem build_from : ∀ (cs z pre : List Value), z.length = cs.length → List.foldl (fun cs x => cs.setIfInBounds x.snd x.fst) (pre ++ z).toArray (cs.zipIdx pre.length) = (pre ++ cs).toArray
  | [], z, pre, h => by
    have e : z = [] := List.eq_nil_of_length_eq_zero (by simpa using h)
    subst e
    rfl
  | c :: cs, z, pre, h => by
    cases z with
    | nil => simp at h
    | cons z0 zs =>
      have h2 := build_from cs zs (pre ++ [c]) (by simpa using h)
      rw [List.zipIdx_cons, List.foldl_cons]
      have e1 : (pre ++ z0 :: zs).toArray.setIfInBounds pre.length c = ((pre ++ [c]) ++ zs).toArray := by simp
      rw [show (pre ++ [c]).length = pre.length + 1 by simp] at h2
      rw [e1, h2]
      simp
theorem build_all (cs z : List Value) (h : z.length = cs.length) : List.foldl (fun cs x => cs.setIfInBounds x.snd x.fst) z.toArray cs.zipIdx = cs.toArray := build_from cs z [] h
def ptrV : Except Nat PtrT → PtrT
  | .ok p => p
  | .error _ => pD
def errV {α : Type} : Except Nat α → Nat
  | .ok _ => 0
  | .error n => n
theorem PutR.val {r : Except Nat PtrT} {e : Ending} (h : PutR r e) : e = .returned (.tuple #[.agg (encPtr (ptrV r)).toArray, .int .i64 (errV r : Nat)]) := by
  cases r with
  | ok p => exact h.1
  | error n => exact h.1
theorem indexText_len {l : List PtrT} (h : l.length = 4) : (indexText l).length ≤ 256 := by
  unfold indexText
  split
  · have : ∀ l : List PtrT, (l.flatMap ptrBytes).length = 64 * l.length := fun l => by
      induction l with
      | nil => rfl
      | cons a r ih => rw [List.flatMap_cons, List.length_append, ih, List.length_cons]; simp [ptrBytes, leB_length, zeros]; omega
    rw [this, h]
    omega
  · simp
theorem range_and {w : World} {g e : Nat} {cs : List Value} {X : Prop} (h : Blk w g e cs ∧ X) : w.rangeAt g 0 cs := range_blk h.1
section
variable {σ : Type} {S : StF σ} {ty : TypeId} {a : Addr} {C : StoreC S ty a}
set_option maxHeartbeats 2000000 in
set_option maxRecDepth 100000 in
theorem put_any {w : World} {s : σ} {F : Nat → Prop} (h : C.Is w s F) (l : List PtrT) (hl4 : l.length = 4) (hlw : ∀ p ∈ l, p.wf) (lv : Nat) (hlv : lv ≤ 3) (hok : C.Ok (putM S l lv s).2) :
    Calls Tryd.prog 48 #[.iface ty (.pointer (some a)), .agg (encPs l).toArray, .int .i64 (lv : Nat)] w fun e w' => PutR (putM S l lv s).1 e ∧ C.Step F (putM S l lv s).2 w w' := by
  obtain ⟨w0, hw0⟩ : ∃ w0, w0 = (w.alloc (.cells (encPs l).toArray 108)).alloc (.cells (encPtr pD).toArray 35) := ⟨_, rfl⟩
  have hb : Blk w0 w.heap.size 108 (encPs l) := by rw [hw0]; exact (Blk.new w _ _).alloc _
  have hr : Blk w0 (w.heap.size + 1) 35 (encPtr pD) := by rw [hw0]; exact Blk.newAt (w := w.alloc _) _ _ (by simp)
  have hbel : Below w.heap.size w w0 := by rw [hw0]; exact ((Below.refl _ _).alloc (Nat.le_refl _) _).alloc (by simp) _
  have h0 : ¬ F w.heap.size := fun hf => by have := C.lt h _ hf; omega
  have h1 : ¬ F (w.heap.size + 1) := fun hf => by have := C.lt h _ hf; omega
  have HAT : Hid (C.At F s w w0 F) := Lib.hid ((StoreC.At.start h).below hbel)
  have isz4 : (Tryd.prog.info? 108).map (·.size) = some (encPs l).length := by rw [encPs_length, hl4]; exact iszA4
  have hld := fun op a next Q => loadW_blk (P := Tryd.prog) hb Tryd.underlying108 rfl isz4 op a next Q
  have heq := fun o x y a W next Q => bnW_nilA4 hl4 hlw o x y a W next Q
  have HB := Lib.hid hb
  have HR := Lib.hid hr
  have HL4 := Lib.hid hl4
  clear hb hbel
  by_cases hz : l = zs4
  · have e : putM S l lv = M.ret pD := by unfold putM; rw [if_pos hz]
    rw [e]
    have hz' : decide (l = zs4) = true := by simpa using hz
    have HZ := Lib.hid hz'
    simp only [hz'] at heq
    have hst := fun op a next Q => storeZPt hr rfl op a next Q
    have HB2 := Lib.hid (hr.put (vs := encPtr pD) rfl)
    have HA2 := Lib.hid (HAT.out.put (o := 0) (vs := encPtr pD) (Nat.le_succ _) h1)
    clear hz hz' e hok hr hl4
    go_enter Tryd.func48, Tryd.ntmps48
    go_upto_region 1 with fail
    rw [show (w.alloc (.cells (encPs l).toArray 108)).alloc (.cells #[.int .i64 0, .int .i64 0, .int .i64 0, .int .i64 0, .bool false, .int .i64 0, .int .i64 0, .int .i64 0, .int .u64 0, .int .u64 0, .int .u64 0, .int .u64 0] 35) = w0 from hw0.symm]
    clear hw0
    go_wp2_with fail
    refine bodyPost_ret (res_cell_tmp rfl _ _ (w.heap.size + 1) 35 _ _ rfl HB2.out Tryd.underlying35 rfl iszPt) rfl ?_
    exact ⟨⟨rfl, pD_wf⟩, HA2.out.fin⟩
  · have e : putM S l lv = S.put (indexText l) lv := by unfold putM; rw [if_neg hz]
    rw [e] at hok ⊢
    have hz' : decide (l = zs4) = false := by simpa using hz
    simp only [hz'] at heq
    clear hz hz' e hr hl4
    go_enter Tryd.func48, Tryd.ntmps48
    go_upto_region 1 with fail
    rw [show (w.alloc (.cells (encPs l).toArray 108)).alloc (.cells #[.int .i64 0, .int .i64 0, .int .i64 0, .int .i64 0, .bool false, .int .i64 0, .int .i64 0, .int .i64 0, .int .u64 0, .int .u64 0, .int .u64 0, .int .u64 0] 35) = w0 from hw0.symm]
    clear hw0
    go_wp2_with fail
    have HTX := Lib.hid (Index_Text_any l HL4.out hlw w0.drew)
    refine wp_region_held_drew (S := fun w' => Blk w' w.heap.size 108 (encPs l) ∧ ∃ cs, cs.length = 12 ∧ Blk w' (w.heap.size + 1) 35 cs) (by kernel_rfl) ⟨HB.out.drew, _, rfl, HR.out.drew⟩ (fun hS0 => ?_)
    refine wpAnyH_take (i := 0) (oi := ?oia0) (v := ?va0) ?hia0 ?hsa0 ?hfa0 ?hra0 ?hQa0 ?hya0 ?hSa0 ?ha0
    case hia0 => (simp only [List.getElem?_toArray, List.getElem?_cons_succ, List.getElem?_cons_zero]; rfl)
    case hsa0 => kernel_rfl
    case hfa0 => kernel_rfl
    case hra0 => kernel_rfl
    case hSa0 => assumption
    case hya0 => refine Or.inl ⟨by kernel_rfl, ?_⟩; (intro w hSw; (try dsimp only at hSw); go_simp; try with_reducible rfl)
    case hQa0 => exact fun _ _ _ h => h
    try simp only [Act.put, List.setIfInBounds_toArray, List.set_cons_zero, List.set_cons_succ]
    refine wpAnyH_take (i := 1) (oi := ?oia1) (v := ?va1) ?hia1 ?hsa1 ?hfa1 ?hra1 ?hQa1 ?hya1 ?hSa1 ?ha1
    case hia1 => (simp only [List.getElem?_toArray, List.getElem?_cons_succ, List.getElem?_cons_zero]; rfl)
    case hsa1 => kernel_rfl
    case hfa1 => kernel_rfl
    case hra1 => kernel_rfl
    case hSa1 => assumption
    case hya1 => refine yieldsIf_load_mid (by kernel_rfl) 108 (.tmp 4) ?_ w.heap.size (0) ?_ (encPs l) _ (fun w' hw => range_and hw) Tryd.underlying108 rfl isz4 <;> rfl
    case hQa1 => exact fun _ _ _ h => h
    try simp only [Act.put, List.setIfInBounds_toArray, List.set_cons_zero, List.set_cons_succ]
    refine wpAnyH_take (i := 2) (oi := ?oia2) (v := ?va2) ?hia2 ?hsa2 ?hfa2 ?hra2 ?hQa2 ?hya2 ?hSa2 ?ha2
    case hia2 => (simp only [List.getElem?_toArray, List.getElem?_cons_succ, List.getElem?_cons_zero]; rfl)
    case hsa2 => kernel_rfl
    case hfa2 => kernel_rfl
    case hra2 => kernel_rfl
    case hSa2 => assumption
    case hya2 => refine Or.inl ⟨by kernel_rfl, ?_⟩; (intro w hSw; (try dsimp only at hSw); go_simp; rw [if_neg (by rw [encPs_length, HL4.out]; decide), build_all _ _ (by rw [encPs_length, HL4.out]; rfl)]; rfl)
    case hQa2 => exact fun _ _ _ h => h
    try simp only [Act.put, List.setIfInBounds_toArray, List.set_cons_zero, List.set_cons_succ]
    refine wpAnyH_take (i := 4) (oi := ?oia4) (v := ?va4) ?hia4 ?hsa4 ?hfa4 ?hra4 ?hQa4 ?hya4 ?hSa4 ?ha4
    case hia4 => (simp only [List.getElem?_toArray, List.getElem?_cons_succ, List.getElem?_cons_zero]; rfl)
    case hsa4 => kernel_rfl
    case hfa4 => kernel_rfl
    case hra4 => kernel_rfl
    case hSa4 => assumption
    case hya4 => refine Or.inl ⟨by kernel_rfl, ?_⟩; (intro w hSw; (try dsimp only at hSw); go_simp; try with_reducible rfl)
    case hQa4 => exact fun _ _ _ h => h
    try simp only [Act.put, List.setIfInBounds_toArray, List.set_cons_zero, List.set_cons_succ]
    refine wpAnyH_take (i := 5) (oi := ?oia5) (v := ?va5) ?hia5 ?hsa5 ?hfa5 ?hra5 ?hQa5 ?hya5 ?hSa5 ?ha5
    case hia5 => (simp only [List.getElem?_toArray, List.getElem?_cons_succ, List.getElem?_cons_zero]; rfl)
    case hsa5 => kernel_rfl
    case hfa5 => kernel_rfl
    case hra5 => kernel_rfl
    case hSa5 => assumption
    case hya5 => refine Or.inl ⟨by kernel_rfl, ?_⟩; (intro w hSw; (try dsimp only at hSw); go_simp; try with_reducible rfl)
    case hQa5 => exact fun _ _ _ h => h
    try simp only [Act.put, List.setIfInBounds_toArray, List.set_cons_zero, List.set_cons_succ]
    refine wpAnyH_take (i := 6) (oi := ?oia6) (v := ?va6) ?hia6 ?hsa6 ?hfa6 ?hra6 ?hQa6 ?hya6 ?hSa6 ?ha6
    case hia6 => (simp only [List.getElem?_toArray, List.getElem?_cons_succ, List.getElem?_cons_zero]; rfl)
    case hsa6 => kernel_rfl
    case hfa6 => kernel_rfl
    case hra6 => kernel_rfl
    case hSa6 => assumption
    case hya6 => refine Or.inl ⟨by kernel_rfl, ?_⟩; (intro w hSw; (try dsimp only at hSw); go_simp; rw [C.nput]; rfl)
    case hQa6 => exact fun _ _ _ h => h
    try simp only [Act.put, List.setIfInBounds_toArray, List.set_cons_zero, List.set_cons_succ]
    refine wpAnyH_take (i := 7) (oi := ?oia7) (v := ?va7) ?hia7 ?hsa7 ?hfa7 ?hra7 ?hQa7 ?hya7 ?hSa7 ?ha7
    case hia7 => (simp only [List.getElem?_toArray, List.getElem?_cons_succ, List.getElem?_cons_zero]; rfl)
    case hsa7 => kernel_rfl
    case hfa7 => kernel_rfl
    case hra7 => kernel_rfl
    case hSa7 => assumption
    case hya7 => refine Or.inl ⟨by kernel_rfl, ?_⟩; (intro w hSw; (try dsimp only at hSw); go_simp; try with_reducible rfl)
    case hQa7 => exact fun _ _ _ h => h
    try simp only [Act.put, List.setIfInBounds_toArray, List.set_cons_zero, List.set_cons_succ]
    refine wpAnyH_ready (rs := [3]) (by kernel_rfl) (by simp) ?_
    refine AllReadyH.cons rfl (fun K hK => ?_) AllReadyH.nil
    go_simp
    refine (HTX.out).mono ?_
    rintro e w1 ⟨rfl, hb1⟩
    try dsimp only
    refine hK.out _ _ (⟨hS0.1.below hb1, _, rfl, HR.out.drew.below hb1⟩) (fun hSa3 => ?_)
    try simp only [Act.put, List.setIfInBounds_toArray, List.set_cons_zero, List.set_cons_succ]
    refine wpAnyH_ready (rs := [8]) (by kernel_rfl) (by simp) ?_
    refine AllReadyH.cons rfl (fun K hK => ?_) AllReadyH.nil
    go_simp
    rw [C.mput, Result.andThen_ok, C.cp]
    go_simp
    have hat1 := (HAT.out.below (Below.refl _ _).drew).below hb1
    refine (C.put (indexText l) lv hat1.1 (indexText_len HL4.out) hlv hok).mono ?_
    rintro e w3 ⟨hpr, hstep⟩
    have hpe := PutR.val hpr
    subst hpe
    obtain ⟨F2, hat, hfr, hm⟩ := hat1.step hstep
    have hres := hm.blk (HR.out.drew.below hb1) h1
    have hf1 := hfr _ (HR.out.drew.below hb1).lt h1
    clear hfr
    try dsimp only
    refine hK.out _ _ (⟨hm.blk hSa3.1 h0, _, rfl, hres⟩) (fun hSa8 => ?_)
    try simp only [Act.put, List.setIfInBounds_toArray, List.set_cons_zero, List.set_cons_succ]
    refine wpAnyH_take (i := 9) (oi := ?oia9) (v := ?va9) ?hia9 ?hsa9 ?hfa9 ?hra9 ?hQa9 ?hya9 ?hSa9 ?ha9
    case hia9 => (simp only [List.getElem?_toArray, List.getElem?_cons_succ, List.getElem?_cons_zero]; rfl)
    case hsa9 => kernel_rfl
    case hfa9 => kernel_rfl
    case hra9 => kernel_rfl
    case hSa9 => assumption
    case hya9 => refine Or.inl ⟨by kernel_rfl, ?_⟩; (intro w hSw; (try dsimp only at hSw); go_simp; try with_reducible rfl)
    case hQa9 => exact fun _ _ _ h => h
    try simp only [Act.put, List.setIfInBounds_toArray, List.set_cons_zero, List.set_cons_succ]
    refine wpAnyH_take (i := 10) (oi := ?oia10) (v := ?va10) ?hia10 ?hsa10 ?hfa10 ?hra10 ?hQa10 ?hya10 ?hSa10 ?ha10
    case hia10 => (simp only [List.getElem?_toArray, List.getElem?_cons_succ, List.getElem?_cons_zero]; rfl)
    case hsa10 => kernel_rfl
    case hfa10 => kernel_rfl
    case hra10 => kernel_rfl
    case hSa10 => assumption
    case hya10 => refine Or.inl ⟨by kernel_rfl, ?_⟩; (intro w hSw; (try dsimp only at hSw); go_simp; try with_reducible rfl)
    case hQa10 => exact fun _ _ _ h => h
    try simp only [Act.put, List.setIfInBounds_toArray, List.set_cons_zero, List.set_cons_succ]
    refine wpAnyH_ready (rs := [11]) (by kernel_rfl) (by simp) ?_
    refine AllReadyH.cons rfl (fun K hK => ?_) AllReadyH.nil
    rw [if_pos (by kernel_rfl)]
    refine wp_store_mid 35 (.tmp 6) (.tmp 21) rfl (w.heap.size + 1) (0) (encPtr (ptrV (S.put (indexText l) lv s).1)).toArray rfl rfl (blk_there hres (Nat.le_refl 12)) iszPt (all_oneCell_toArray (encPtr_ones _)) ?_
    refine hK.out _ _ (⟨hSa8.1.away 0 _ (by omega), _, rfl, hres.put rfl⟩) (fun hSa11 => ?_)
    try simp only [Act.put, List.setIfInBounds_toArray, List.set_cons_zero, List.set_cons_succ]
    refine wpAnyH_take (i := 12) (oi := ?oia12) (v := ?va12) ?hia12 ?hsa12 ?hfa12 ?hra12 ?hQa12 ?hya12 ?hSa12 ?ha12
    case hia12 => (simp only [List.getElem?_toArray, List.getElem?_cons_succ, List.getElem?_cons_zero]; rfl)
    case hsa12 => kernel_rfl
    case hfa12 => kernel_rfl
    case hra12 => kernel_rfl
    case hSa12 => assumption
    case hya12 => refine Or.inl ⟨by kernel_rfl, ?_⟩; (intro w hSw; (try dsimp only at hSw); go_simp; try with_reducible rfl)
    case hQa12 => exact fun _ _ _ h => h
    try simp only [Act.put, List.setIfInBounds_toArray, List.set_cons_zero, List.set_cons_succ]
    refine wpAnyH_done (by kernel_rfl) ?_ _
    go_wp2_with fail
    refine bodyPost_ret (res_cell_tmp rfl _ _ (w.heap.size + 1) 35 _ _ rfl (hres.put (vs := encPtr (ptrV (S.put (indexText l) lv s).1)) rfl) Tryd.underlying35 rfl iszPt) rfl ?_
    exact ⟨hpr, (hat.put (Nat.le_succ _) hf1).fin⟩
end
end Go.Proofs.YtbhofablndjeoaaDoor
