/- The law's acts, its Fill and what an act does. -/
import Derived.Test.YtbhofablndjeoaaDoorTmF
import Derived.Test.YtbhofablndjeoaaDoorTrY
import Derived.Test.YtbhofablndjeoaaDoorTrP
namespace Go.Proofs.YtbhofablndjeoaaDoor
open Go.RowKit Go.ChangeShapes Go.WideShapes Go.Deep
set_option linter.unusedSimpArgs false
set_option linter.unusedVariables false
attribute [local go_sem ↓] wp_loadPt wp_storePt wp_loadNd wp_storeNd
def encAc (x : ActA) : List Value := [.int .u8 x.d.toNat, .int .i64 x.off, .int .i64 x.n, .int .u8 x.b.toNat]
theorem range_and1 {w : World} {g e : Nat} {cs : List Value} {P : Prop} (h : Blk w g e cs ∧ P) : w.rangeAt g 0 cs := range_blk h.1
theorem Blk.other2 {w : World} {g e b o : Nat} {cs vs : List Value} (h : Blk w g e cs) (hne : g ≠ b) : Blk (w.setCells b o vs) g e cs := h.away o vs hne
set_option maxHeartbeats 1000000 in
set_option maxRecDepth 100000 in
theorem Fill_any (b : UInt8) (n : Nat) (w : World) (hn : n ≤ 1000000) :
    Calls Tryd.prog 14 #[.int .u8 b.toNat, .int .i64 n] w fun e w' => e = .returned (.string ⟨(List.replicate n b).toArray⟩) ∧ Below w.heap.size w w' := by
  obtain ⟨i0, hi, hz0, hz1, hz2⟩ := info_parts info8
  go_enter Tryd.func14, Tryd.ntmps14
  go_wp2_with fail
  go_loopw [5, 6] (fun v i wr => ∃ k : Nat, k ≤ n ∧ i = .int .i64 k ∧ Hid (wr.ownsRow w.heap.size 5 1 v k (enc8 (List.replicate k b))) ∧ Hid (Below w.heap.size w wr)) (fun _ i _ => n - (intOf i).toNat)
  case atStart => exact ⟨0, by omega, rfl, Lib.hid (World.ownsRow_nil _ _ _ _), Lib.hid (Below.refl _ _)⟩
  case round =>
    obtain ⟨k, hk, rfl, HOW, HBR⟩ := hrel
    have hsr := HBR.out.size
    by_cases hkn : k < n
    · have q1 : (k : Int) < (n : Int) := by omega
      obtain ⟨ao1, cap1, rfl, _⟩ := RSl.of_owns HOW.out
      go_wp2_with (at_builtin; go_must (refine wpList_append_own _ rfl (.tmp 12) (.tmp 14) 86 rfl w.heap.size 5 i0 (.int .u8 0) 1 1 Tryd.underlying86 hi hz0 hz1 hz2 rfl (by decide) (.slice ao1 k cap1) k (enc8 (List.replicate k b)) rfl (HOW.out.alloc _) ⟨wr.heap.size, 0, none⟩ 1 1 [.int .u8 b.toNat] rfl rfl (Blk.news (Blk.newAt (w := wr) 5 [.int .u8 b.toNat] (by simp))) (by simp [Value.oneCell']) (by unfold maxLen; omega) (by omega) (by simp; omega) ?_; intro v1 w1 hown1 hgrow1 _))
      have e1 : enc8 (List.replicate k b) ++ [Value.int .u8 b.toNat] = enc8 (List.replicate (k + 1) b) := by rw [List.replicate_succ']; simp [enc8]
      rw [e1] at hown1
      clear e1
      go_roundw
      case rel => exact ⟨k + 1, by omega, by go_num, Lib.hid hown1, Lib.hid (below_own (HBR.out.alloc (by omega) _) (HOW.out.alloc _) hgrow1 (by simp; omega) (Nat.le_refl _))⟩
      case measure => simp [intOf]; omega
    · obtain rfl : k = n := by omega
      have q1 : ¬ (k : Int) < (k : Int) := by omega
      obtain ⟨ao1, cap1, rfl, _⟩ := RSl.of_owns HOW.out
      have hs : (convert 86 9 (.slice ao1 k cap1)).run Tryd.prog wr = .ok (.string ⟨(List.replicate k b).toArray⟩) wr := by
        have := run_string_of_owns HOW.out 86 5 9 Tryd.underlying86 Tryd.underlying5 Tryd.underlying9
        simpa using this
      go_wp2_with fail
      go_ret
      exact ⟨rfl, HBR.out⟩
set_option maxHeartbeats 2000000 in
set_option maxRecDepth 100000 in
theorem done_any {mb : Nat} {w : World} {s : MemT} {F : Nat → Prop} (h : memIs mb w s F) (n : NodeT) (hn : n.wf) (x : ActA) (hx : x.ok) (hok : memOk (doneM n x s).2) :
    Calls Tryd.prog 12 #[.pointer (some ⟨mb, 0, none⟩), .agg (encN n).toArray, .agg (encAc x).toArray] w fun e w' => NdR (doneM n x s).1 e ∧ (memC mb).Step F (doneM n x s).2 w w' := by
  obtain ⟨w0, hw0⟩ : ∃ w0, w0 = ((w.alloc (.cells (encN n).toArray 37)).alloc (.cells (encAc x).toArray 42)).alloc (.cells (encN nD).toArray 37) := ⟨_, rfl⟩
  have HBN : Hid (Blk w0 w.heap.size 37 (encN n)) := by rw [hw0]; exact Lib.hid (((Blk.new w _ _).alloc _).alloc _)
  have hba : Blk w0 (w.heap.size + 1) 42 (encAc x) := by rw [hw0]; exact (Blk.newAt (w := w.alloc _) _ _ (by simp)).alloc _
  have HBA := Lib.hid hba
  have HBR : Hid (Blk w0 (w.heap.size + 2) 37 (encN nD)) := by rw [hw0]; exact Lib.hid (Blk.newAt (w := (w.alloc _).alloc _) _ _ (by simp))
  have hbel : Below w.heap.size w w0 := by rw [hw0]; exact (((Below.refl _ _).alloc (Nat.le_refl _) _).alloc (by simp) _).alloc (by simp; omega) _
  have HF0 : Hid (¬ F w.heap.size) := Lib.hid (fun hf => by have := (memC mb).lt h _ hf; omega)
  have HF1 : Hid (¬ F (w.heap.size + 1)) := Lib.hid (fun hf => by have := (memC mb).lt h _ hf; omega)
  have HF2 : Hid (¬ F (w.heap.size + 2)) := Lib.hid (fun hf => by have := (memC mb).lt h _ hf; omega)
  have HAT : Hid ((memC mb).At F s w w0 F) := Lib.hid ((StoreC.At.start (C := memC mb) h).below hbel)
  have HATD : Hid ((memC mb).At F s w w0.drew F) := Lib.hid (HAT.out.below (Below.refl _ _).drew)
  have c0 := hba.cell 0
  have c1 := hba.cell 1
  simp only [encAc, List.getElem?_cons_zero, List.getElem?_cons_succ] at c0 c1
  have hdl : x.d.toNat < 256 := x.d.toNat_lt
  clear hbel hba h
  by_cases hd : x.d.toNat % 4 = 2
  · have e : doneM n x = truncM memF n x.off := by unfold doneM; rw [if_pos hd]
    rw [e] at hok ⊢
    have q1 : (x.d.toNat : Int) % 4 = 2 := by omega
    have hld := fun op a next Q => loadW_blk (P := Tryd.prog) HBN.out Tryd.underlying37 rfl iszNd op a next Q
    have HTR := Lib.hid (Trunc_any (C := memC mb) HAT.out.1 n hn x.off hx.off hok)
    clear hok e
    go_enter Tryd.func12, Tryd.ntmps12
    go_upto_region 1 with fail
    rw [show ((w.alloc (.cells (encN n).toArray 37)).alloc (.cells (encAc x).toArray 42)).alloc (.cells #[.int .i64 0, .int .i64 0, .int .i64 0, .int .i64 0, .int .i64 0, .bool false, .int .i64 0, .int .i64 0, .int .i64 0, .int .u64 0, .int .u64 0, .int .u64 0, .int .u64 0] 37) = w0 from hw0.symm]
    clear hw0
    go_wp2_with fail
    refine HTR.out.mono ?_
    rintro e w2 ⟨hpr, hstep⟩
    have hpe := NdR.val hpr
    obtain ⟨F2, hat, hfr2, hm⟩ := HAT.out.step hstep
    subst hpe
    have HPR := Lib.hid hpr
    have hbr := hm.blk HBR.out HF2.out
    have hst := fun op a next Q => storeW_part (P := Tryd.prog) (t := 37) (o := 0) (cs := encN (ndV (truncM memF n x.off s).1)) hbr (Nat.le_refl 13) iszNd (encN_ones _) op a next Q
    have HB2 := Lib.hid hbr
    have HA2 := Lib.hid (hat.put (o := 0) (vs := encN (ndV (truncM memF n x.off s).1)) (by omega : w.heap.size ≤ w.heap.size + 2) (hfr2 _ HBR.out.lt HF2.out))
    clear hat hfr2 hm hbr hstep hld hpr
    go_wp2_with fail
    refine bodyPost_ret (res_cell_tmp rfl _ _ (w.heap.size + 2) 37 _ _ rfl (HB2.out.put (vs := encN (ndV (truncM memF n x.off s).1)) rfl) Tryd.underlying37 rfl iszNd) rfl ?_
    exact ⟨HPR.out, HA2.out.fin⟩
  · have e : doneM n x = writeM memF n x.off (fillS x) := by unfold doneM; rw [if_neg hd]
    have HEQ := Lib.hid e
    have HOK : Hid (memOk (writeM memF n x.off (fillS x) s).2) := by rw [e] at hok; exact Lib.hid hok
    have q1 : ¬ (x.d.toNat : Int) % 4 = 2 := by omega
    obtain ⟨m, hm⟩ : ∃ m : Nat, m = (min (max x.n 0) 1500).toNat := ⟨_, rfl⟩
    have HMN : Hid (min (max x.n 0) 1500 = (m : Int)) := Lib.hid (by omega)
    have HFILL : Hid (∀ W, Calls Tryd.prog 14 #[.int .u8 x.b.toNat, .int .i64 m] W fun e w' => e = .returned (.string ⟨(fillS x).toArray⟩) ∧ Below W.heap.size W w') := Lib.hid (fun W => by
      have := Fill_any x.b m W (by omega)
      unfold fillS; rw [← hm]; exact this)
    have HFL : Hid ((fillS x).length ≤ 1000000) := Lib.hid (by unfold fillS; simp; omega)
    clear hok e hm
    go_enter Tryd.func12, Tryd.ntmps12
    go_upto_region 1 with fail
    rw [show ((w.alloc (.cells (encN n).toArray 37)).alloc (.cells (encAc x).toArray 42)).alloc (.cells #[.int .i64 0, .int .i64 0, .int .i64 0, .int .i64 0, .int .i64 0, .bool false, .int .i64 0, .int .i64 0, .int .i64 0, .int .u64 0, .int .u64 0, .int .u64 0, .int .u64 0] 37) = w0 from hw0.symm]
    clear hw0
    go_wp2_with fail
    refine wp_region_held_drew (S := fun w' => Blk w' w.heap.size 37 (encN n) ∧ Blk w' (w.heap.size + 1) 42 (encAc x)) (by kernel_rfl) ⟨HBN.out.drew, HBA.out.drew⟩ (fun hS0 => ?_)
    refine wpAnyH_take (i := 0) (oi := ?oic0) (v := ?vc0) ?hic0 ?hsc0 ?hfc0 ?hrc0 ?hQc0 ?hyc0 ?hSc0 ?hc0
    case hic0 => (simp only [List.getElem?_toArray, List.getElem?_cons_succ, List.getElem?_cons_zero]; rfl)
    case hsc0 => kernel_rfl
    case hfc0 => kernel_rfl
    case hrc0 => kernel_rfl
    case hSc0 => first | assumption | trivial
    case hyc0 => refine Or.inl ⟨by kernel_rfl, ?_⟩; (intro w hSw; (try dsimp only at hSw); go_simp; try with_reducible rfl)
    case hQc0 => exact fun _ _ _ h => h
    try simp only [Act.put, List.setIfInBounds_toArray, List.set_cons_zero, List.set_cons_succ]
    refine wpAnyH_take (i := 1) (oi := ?oic1) (v := ?vc1) ?hic1 ?hsc1 ?hfc1 ?hrc1 ?hQc1 ?hyc1 ?hSc1 ?hc1
    case hic1 => (simp only [List.getElem?_toArray, List.getElem?_cons_succ, List.getElem?_cons_zero]; rfl)
    case hsc1 => kernel_rfl
    case hfc1 => kernel_rfl
    case hrc1 => kernel_rfl
    case hSc1 => first | assumption | trivial
    case hyc1 => refine Or.inl ⟨by kernel_rfl, ?_⟩; (intro w hSw; (try dsimp only at hSw); go_simp; try with_reducible rfl)
    case hQc1 => exact fun _ _ _ h => h
    try simp only [Act.put, List.setIfInBounds_toArray, List.set_cons_zero, List.set_cons_succ]
    refine wpAnyH_take (i := 2) (oi := ?oic2) (v := ?vc2) ?hic2 ?hsc2 ?hfc2 ?hrc2 ?hQc2 ?hyc2 ?hSc2 ?hc2
    case hic2 => (simp only [List.getElem?_toArray, List.getElem?_cons_succ, List.getElem?_cons_zero]; rfl)
    case hsc2 => kernel_rfl
    case hfc2 => kernel_rfl
    case hrc2 => kernel_rfl
    case hSc2 => first | assumption | trivial
    case hyc2 => refine yieldsIf_load_mid (by kernel_rfl) 37 (.tmp 4) ?_ w.heap.size (0) ?_ (encN n) _ (fun w' hw => range_and1 hw) Tryd.underlying37 rfl iszNd <;> rfl
    case hQc2 => exact fun _ _ _ h => h
    try simp only [Act.put, List.setIfInBounds_toArray, List.set_cons_zero, List.set_cons_succ]
    refine wpAnyH_take (i := 3) (oi := ?oic3) (v := ?vc3) ?hic3 ?hsc3 ?hfc3 ?hrc3 ?hQc3 ?hyc3 ?hSc3 ?hc3
    case hic3 => (simp only [List.getElem?_toArray, List.getElem?_cons_succ, List.getElem?_cons_zero]; rfl)
    case hsc3 => kernel_rfl
    case hfc3 => kernel_rfl
    case hrc3 => kernel_rfl
    case hSc3 => first | assumption | trivial
    case hyc3 => refine Or.inl ⟨by kernel_rfl, ?_⟩; (intro w hSw; (try dsimp only at hSw); go_simp; try with_reducible rfl)
    case hQc3 => exact fun _ _ _ h => h
    try simp only [Act.put, List.setIfInBounds_toArray, List.set_cons_zero, List.set_cons_succ]
    refine wpAnyH_take (i := 4) (oi := ?oic4) (v := ?vc4) ?hic4 ?hsc4 ?hfc4 ?hrc4 ?hQc4 ?hyc4 ?hSc4 ?hc4
    case hic4 => (simp only [List.getElem?_toArray, List.getElem?_cons_succ, List.getElem?_cons_zero]; rfl)
    case hsc4 => kernel_rfl
    case hfc4 => kernel_rfl
    case hrc4 => kernel_rfl
    case hSc4 => first | assumption | trivial
    case hyc4 => refine Or.inl ⟨by kernel_rfl, ?_⟩; (intro w hSw; (try dsimp only at hSw); go_simp; first | with_reducible rfl | (rw [hSw.2.cell 1]; rfl) | rfl)
    case hQc4 => exact fun _ _ _ h => h
    try simp only [Act.put, List.setIfInBounds_toArray, List.set_cons_zero, List.set_cons_succ]
    refine wpAnyH_take (i := 5) (oi := ?oic5) (v := ?vc5) ?hic5 ?hsc5 ?hfc5 ?hrc5 ?hQc5 ?hyc5 ?hSc5 ?hc5
    case hic5 => (simp only [List.getElem?_toArray, List.getElem?_cons_succ, List.getElem?_cons_zero]; rfl)
    case hsc5 => kernel_rfl
    case hfc5 => kernel_rfl
    case hrc5 => kernel_rfl
    case hSc5 => first | assumption | trivial
    case hyc5 => refine Or.inl ⟨by kernel_rfl, ?_⟩; (intro w hSw; (try dsimp only at hSw); go_simp; try with_reducible rfl)
    case hQc5 => exact fun _ _ _ h => h
    try simp only [Act.put, List.setIfInBounds_toArray, List.set_cons_zero, List.set_cons_succ]
    refine wpAnyH_take (i := 6) (oi := ?oic6) (v := ?vc6) ?hic6 ?hsc6 ?hfc6 ?hrc6 ?hQc6 ?hyc6 ?hSc6 ?hc6
    case hic6 => (simp only [List.getElem?_toArray, List.getElem?_cons_succ, List.getElem?_cons_zero]; rfl)
    case hsc6 => kernel_rfl
    case hfc6 => kernel_rfl
    case hrc6 => kernel_rfl
    case hSc6 => first | assumption | trivial
    case hyc6 => refine Or.inl ⟨by kernel_rfl, ?_⟩; (intro w hSw; (try dsimp only at hSw); go_simp; first | with_reducible rfl | (rw [hSw.2.cell 3]; rfl) | rfl)
    case hQc6 => exact fun _ _ _ h => h
    try simp only [Act.put, List.setIfInBounds_toArray, List.set_cons_zero, List.set_cons_succ]
    refine wpAnyH_take (i := 7) (oi := ?oic7) (v := ?vc7) ?hic7 ?hsc7 ?hfc7 ?hrc7 ?hQc7 ?hyc7 ?hSc7 ?hc7
    case hic7 => (simp only [List.getElem?_toArray, List.getElem?_cons_succ, List.getElem?_cons_zero]; rfl)
    case hsc7 => kernel_rfl
    case hfc7 => kernel_rfl
    case hrc7 => kernel_rfl
    case hSc7 => first | assumption | trivial
    case hyc7 => refine Or.inl ⟨by kernel_rfl, ?_⟩; (intro w hSw; (try dsimp only at hSw); go_simp; try with_reducible rfl)
    case hQc7 => exact fun _ _ _ h => h
    try simp only [Act.put, List.setIfInBounds_toArray, List.set_cons_zero, List.set_cons_succ]
    refine wpAnyH_take (i := 8) (oi := ?oic8) (v := ?vc8) ?hic8 ?hsc8 ?hfc8 ?hrc8 ?hQc8 ?hyc8 ?hSc8 ?hc8
    case hic8 => (simp only [List.getElem?_toArray, List.getElem?_cons_succ, List.getElem?_cons_zero]; rfl)
    case hsc8 => kernel_rfl
    case hfc8 => kernel_rfl
    case hrc8 => kernel_rfl
    case hSc8 => first | assumption | trivial
    case hyc8 => refine Or.inl ⟨by kernel_rfl, ?_⟩; (intro w hSw; (try dsimp only at hSw); go_simp; first | with_reducible rfl | (rw [hSw.2.cell 2]; rfl) | rfl)
    case hQc8 => exact fun _ _ _ h => h
    try simp only [Act.put, List.setIfInBounds_toArray, List.set_cons_zero, List.set_cons_succ]
    refine wpAnyH_take (i := 9) (oi := ?oic9) (v := ?vc9) ?hic9 ?hsc9 ?hfc9 ?hrc9 ?hQc9 ?hyc9 ?hSc9 ?hc9
    case hic9 => (simp only [List.getElem?_toArray, List.getElem?_cons_succ, List.getElem?_cons_zero]; rfl)
    case hsc9 => kernel_rfl
    case hfc9 => kernel_rfl
    case hrc9 => kernel_rfl
    case hSc9 => first | assumption | trivial
    case hyc9 => refine Or.inl ⟨by kernel_rfl, ?_⟩; (intro w hSw; (try dsimp only at hSw); go_simp; try with_reducible rfl)
    case hQc9 => exact fun _ _ _ h => h
    try simp only [Act.put, List.setIfInBounds_toArray, List.set_cons_zero, List.set_cons_succ]
    refine wpAnyH_take (i := 10) (oi := ?oic10) (v := ?vc10) ?hic10 ?hsc10 ?hfc10 ?hrc10 ?hQc10 ?hyc10 ?hSc10 ?hc10
    case hic10 => (simp only [List.getElem?_toArray, List.getElem?_cons_succ, List.getElem?_cons_zero]; rfl)
    case hsc10 => kernel_rfl
    case hfc10 => kernel_rfl
    case hrc10 => kernel_rfl
    case hSc10 => first | assumption | trivial
    case hyc10 => refine Or.inl ⟨by kernel_rfl, ?_⟩; (intro w hSw; (try dsimp only at hSw); go_simp; rw [HMN.out])
    case hQc10 => exact fun _ _ _ h => h
    try simp only [Act.put, List.setIfInBounds_toArray, List.set_cons_zero, List.set_cons_succ]
    refine wpAnyH_ready (rs := [11]) (by kernel_rfl) (by simp) ?_
    refine AllReadyH.cons (by simp only [List.getElem?_toArray, List.getElem?_cons_succ, List.getElem?_cons_zero]; rfl) (fun K hK => ?_) AllReadyH.nil
    go_simp
    refine (HFILL.out _).mono ?_
    rintro e w5 ⟨rfl, hb5⟩
    have HBN5 := Lib.hid (HBN.out.drew.below hb5)
    have HBA5 := Lib.hid (HBA.out.drew.below hb5)
    have HBR5 := Lib.hid (HBR.out.drew.below hb5)
    have HAT5 := Lib.hid (HATD.out.below hb5)
    clear hb5
    try dsimp only
    refine hK.out _ _ (⟨HBN5.out, HBA5.out⟩) (fun hSc11 => ?_)
    try simp only [Act.put, List.setIfInBounds_toArray, List.set_cons_zero, List.set_cons_succ]
    refine wpAnyH_ready (rs := [12]) (by kernel_rfl) (by simp) ?_
    refine AllReadyH.cons (by simp only [List.getElem?_toArray, List.getElem?_cons_succ, List.getElem?_cons_zero]; rfl) (fun K hK => ?_) AllReadyH.nil
    go_simp
    refine (Write_any (C := memC mb) HAT5.out.1 n hn x.off hx.off _ HFL.out HOK.out).mono ?_
    rintro e w6 ⟨hpr, hstep6⟩
    have hpe := NdR.val hpr
    obtain ⟨rv, hrv⟩ : ∃ rv, (doneM n x s).1 = rv := ⟨_, rfl⟩
    have hpe' : e = .returned (.tuple #[.agg (encN (ndV rv)).toArray, .int .i64 (errV rv : Nat)]) := by rw [hpe, ← hrv, HEQ.out]
    have hpr' : NdR rv e := by rw [← hrv, HEQ.out]; exact hpr
    rw [show writeM memF n x.off (fillS x) s = doneM n x s from by rw [HEQ.out]] at hstep6
    clear hpe hpr
    obtain ⟨F3, hat6, hfr6, hm6⟩ := HAT5.out.step hstep6
    have HN6 := Lib.hid (hm6.blk HBN5.out HF0.out)
    have HA6 := Lib.hid (hm6.blk HBA5.out HF1.out)
    have HR6 := Lib.hid (hm6.blk HBR5.out HF2.out)
    have HF26 := Lib.hid (hfr6 _ HBR5.out.lt HF2.out)
    have HAT6 := Lib.hid hat6
    have HRV := Lib.hid hrv
    subst hpe'
    have HPR := Lib.hid hpr'
    clear hfr6 hstep6 hm6 hat6 hrv hpr'
    try dsimp only
    refine hK.out _ _ (⟨HN6.out, HA6.out⟩) (fun hSc12 => ?_)
    try simp only [Act.put, List.setIfInBounds_toArray, List.set_cons_zero, List.set_cons_succ]
    refine wpAnyH_take (i := 13) (oi := ?oic13) (v := ?vc13) ?hic13 ?hsc13 ?hfc13 ?hrc13 ?hQc13 ?hyc13 ?hSc13 ?hc13
    case hic13 => (simp only [List.getElem?_toArray, List.getElem?_cons_succ, List.getElem?_cons_zero]; rfl)
    case hsc13 => kernel_rfl
    case hfc13 => kernel_rfl
    case hrc13 => kernel_rfl
    case hSc13 => first | assumption | trivial
    case hyc13 => refine Or.inl ⟨by kernel_rfl, ?_⟩; (intro w hSw; (try dsimp only at hSw); go_simp; try with_reducible rfl)
    case hQc13 => exact fun _ _ _ h => h
    try simp only [Act.put, List.setIfInBounds_toArray, List.set_cons_zero, List.set_cons_succ]
    refine wpAnyH_take (i := 14) (oi := ?oic14) (v := ?vc14) ?hic14 ?hsc14 ?hfc14 ?hrc14 ?hQc14 ?hyc14 ?hSc14 ?hc14
    case hic14 => (simp only [List.getElem?_toArray, List.getElem?_cons_succ, List.getElem?_cons_zero]; rfl)
    case hsc14 => kernel_rfl
    case hfc14 => kernel_rfl
    case hrc14 => kernel_rfl
    case hSc14 => first | assumption | trivial
    case hyc14 => refine Or.inl ⟨by kernel_rfl, ?_⟩; (intro w hSw; (try dsimp only at hSw); go_simp; try with_reducible rfl)
    case hQc14 => exact fun _ _ _ h => h
    try simp only [Act.put, List.setIfInBounds_toArray, List.set_cons_zero, List.set_cons_succ]
    refine wpAnyH_ready (rs := [15]) (by kernel_rfl) (by simp) ?_
    refine AllReadyH.cons (by simp only [List.getElem?_toArray, List.getElem?_cons_succ, List.getElem?_cons_zero]; rfl) (fun K hK => ?_) AllReadyH.nil
    rw [if_pos (by kernel_rfl)]
    refine wp_store_mid 37 (.tmp 6) (.tmp 33) rfl (w.heap.size + 2) (0) (encN (ndV rv)).toArray rfl rfl (blk_there HR6.out (Nat.le_refl 13)) iszNd (all_oneCell_toArray (encN_ones _)) ?_
    refine hK.out _ _ (⟨HN6.out.other2 (by omega), HA6.out.other2 (by omega)⟩) (fun hSc15 => ?_)
    try simp only [Act.put, List.setIfInBounds_toArray, List.set_cons_zero, List.set_cons_succ]
    refine wpAnyH_take (i := 16) (oi := ?oic16) (v := ?vc16) ?hic16 ?hsc16 ?hfc16 ?hrc16 ?hQc16 ?hyc16 ?hSc16 ?hc16
    case hic16 => (simp only [List.getElem?_toArray, List.getElem?_cons_succ, List.getElem?_cons_zero]; rfl)
    case hsc16 => kernel_rfl
    case hfc16 => kernel_rfl
    case hrc16 => kernel_rfl
    case hSc16 => first | assumption | trivial
    case hyc16 => refine Or.inl ⟨by kernel_rfl, ?_⟩; (intro w hSw; (try dsimp only at hSw); go_simp; try with_reducible rfl)
    case hQc16 => exact fun _ _ _ h => h
    try simp only [Act.put, List.setIfInBounds_toArray, List.set_cons_zero, List.set_cons_succ]
    refine wpAnyH_done (by kernel_rfl) ?_ _
    have hset := HR6.out.put (vs := encN (ndV rv)) rfl
    have hat7 := HAT6.out.put (o := 0) (vs := encN (ndV rv)) (by omega : w.heap.size ≤ w.heap.size + 2) HF26.out
    have HSET := Lib.hid hset
    have HAT7 := Lib.hid hat7
    clear hset hat7
    go_wp2_with fail
    refine bodyPost_ret (res_cell_tmp rfl _ _ (w.heap.size + 2) 37 _ _ rfl HSET.out Tryd.underlying37 rfl iszNd) rfl ?_
    rw [HRV.out]
    exact ⟨HPR.out, HAT7.out.fin⟩
end Go.Proofs.YtbhofablndjeoaaDoor
