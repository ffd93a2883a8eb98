/- The walks of dir.Set, Drop, List. -/
import Derived.Test.YtbhofablndjeoaaDoorDrB
namespace Go.Proofs.YtbhofablndjeoaaDoor
open Go.RowKit
set_option linter.unusedSimpArgs false
set_option linter.unusedVariables false
attribute [local go_sem ↓] wp_loadPt wp_storePt wp_loadNd wp_storeNd wp_bldNd
section
variable {σ : Type} {S : StF σ} {ty : TypeId} {a : Addr} {C : StoreC S ty a}
set_option maxHeartbeats 2000000 in
set_option maxRecDepth 100000 in
theorem dset_any {w : World} {st : σ} {F : Nat → Prop} (h : C.Is w st F) (d : NodeT) (hd : d.wf) (id : Int) (n : NodeT) (hn : n.wf) (hok : C.Ok (dsetM S d id n st).2) :
    Calls Tryd.prog 20 #[.iface ty (.pointer (some a)), .agg (encN d).toArray, .int .i64 id, .agg (encN n).toArray] w fun e w' => NdR (dsetM S d id n st).1 e ∧ C.Step F (dsetM S d id n st).2 w w' := by
  obtain ⟨w0, hw0⟩ : ∃ w0, w0 = ((w.alloc (.cells (encN d).toArray 37)).alloc (.cells (encN n).toArray 37)).alloc (.cells (encN nD).toArray 37) := ⟨_, rfl⟩
  have HB0 : Hid (Blk w0 w.heap.size 37 (encN d)) := by rw [hw0]; exact Lib.hid (((Blk.new w _ _).alloc _).alloc _)
  have HN0 : Hid (Blk w0 (w.heap.size + 1) 37 (encN n)) := by rw [hw0]; exact Lib.hid ((Blk.newAt (w := w.alloc _) _ _ (by simp)).alloc _)
  have HR0 : Hid (Blk w0 (w.heap.size + 2) 37 (encN nD)) := by rw [hw0]; exact Lib.hid (Blk.newAt (w := (w.alloc _).alloc _) _ _ (by simp))
  have hbel : Below w.heap.size w w0 := by rw [hw0]; exact (((Below.refl _ _).alloc (Nat.le_refl _) _).alloc (by simp) _).alloc (by simp; omega) _
  have h0 : ¬ F w.heap.size := fun hf => by have := C.lt h _ hf; omega
  have h2 : ¬ F (w.heap.size + 2) := fun hf => by have := C.lt h _ hf; omega
  have HAT : Hid (C.At F st w w0 F) := Lib.hid ((StoreC.At.start h).below hbel)
  have hld := fun op a next Q => loadW_blk (P := Tryd.prog) HB0.out Tryd.underlying37 rfl iszNd op a next Q
  have hln := fun op a next Q => loadW_blk (P := Tryd.prog) HN0.out Tryd.underlying37 rfl iszNd op a next Q
  clear hbel
  by_cases hi : idOk id
  · have HMAY : Hid (∀ W, Calls Tryd.prog 40 #[.int .i64 id] W fun e w' => e = .returned (.bool true) ∧ w' = W) := Lib.hid (fun W => by have := may_any id W; rw [decide_eq_true hi] at this; exact this)
    have HBY := Lib.hid (fun W => node_Bytes_any n hn W)
    rcases hb : nodeBs n with r | s
    · have e : dsetM S d id n = M.err r := by unfold dsetM; rw [if_pos hi, hb]
      have hr : r = 1 := by rcases nodeBs_ok (n := n) with ⟨s, h, _⟩ | ⟨h, _⟩ <;> rw [hb] at h <;> cases h; rfl
      subst hr
      rw [e]
      rw [hb] at HBY
      have hst := fun W (hW : Blk W (w.heap.size + 2) 37 (encN nD)) op a next Q => storeZNd hW rfl op a next Q
      clear e hok hb hi
      go_enter Tryd.func20, Tryd.ntmps20
      go_upto_region 1 with fail
      rw [show ((w.alloc (.cells (encN d).toArray 37)).alloc (.cells (encN n).toArray 37)).alloc (.cells #[.int .i64 0, .int .i64 0, .int .i64 0, .int .i64 0, .int .i64 0, .bool false, .int .i64 0, .int .i64 0, .int .i64 0, .int .u64 0, .int .u64 0, .int .u64 0, .int .u64 0] 37) = w0 from hw0.symm]
      clear hw0
      go_wp2_with fail
      refine (HMAY.out _).mono ?_
      rintro e w1 ⟨rfl, rfl⟩
      go_wp2_with fail
      refine (HBY.out w1).mono ?_
      rintro e w2 ⟨rfl, hb2⟩
      have hst2 := hst w2 (HR0.out.below hb2)
      have HR2 := Lib.hid (HR0.out.below hb2)
      have HA2 := Lib.hid ((HAT.out.below hb2).put (o := 0) (vs := encN nD) (by omega : w.heap.size ≤ w.heap.size + 2) h2)
      clear hb2 hst
      unfold errV bsV
      go_wp2_with fail
      refine bodyPost_ret (res_cell_tmp rfl _ _ (w.heap.size + 2) 37 _ _ rfl (HR2.out.put (vs := encN nD) rfl) Tryd.underlying37 rfl iszNd) rfl ?_
      exact ⟨⟨rfl, by decide⟩, HA2.out.fin⟩
    · have e : dsetM S d id n = writeM S d ((id.toNat * 128 : Nat) : Int) s := by unfold dsetM; rw [if_pos hi, hb]
      have hsl := nodeBs_len hb
      rw [e] at hok ⊢
      obtain ⟨m, rfl⟩ : ∃ m : Nat, id = m := ⟨id.toNat, by have := hi.1; omega⟩
      have em : ((m : Int)).toNat = m := by omega
      have hm32 : m < 32 := by have := hi.2; omega
      rw [em] at hok ⊢
      have HM : Hid (IntKind.i64.wrap ((m : Int) * 128) = ((m * 128 : Nat) : Int)) := Lib.hid (by rw [IntWalk.i64_in _ (by omega)]; omega)
      rw [hb] at HBY
      have HOK := Lib.hid hok
      have HSL := Lib.hid hsl
      obtain ⟨R, hR⟩ : ∃ R, writeM S d ((m * 128 : Nat) : Int) s st = R := ⟨_, rfl⟩
      have HRR := Lib.hid hR
      rw [hR]
      clear e hok hb hi em hsl hR
      go_enter Tryd.func20, Tryd.ntmps20
      go_upto_region 1 with fail
      rw [show ((w.alloc (.cells (encN d).toArray 37)).alloc (.cells (encN n).toArray 37)).alloc (.cells #[.int .i64 0, .int .i64 0, .int .i64 0, .int .i64 0, .int .i64 0, .bool false, .int .i64 0, .int .i64 0, .int .i64 0, .int .u64 0, .int .u64 0, .int .u64 0, .int .u64 0] 37) = w0 from hw0.symm]
      clear hw0
      go_wp2_with fail
      refine (HMAY.out _).mono ?_
      rintro e w1 ⟨rfl, rfl⟩
      go_wp2_with fail
      refine (HBY.out w1).mono ?_
      rintro e w2 ⟨rfl, hb2⟩
      have HB2 := Lib.hid (HB0.out.below hb2)
      have HR2 := Lib.hid (HR0.out.below hb2)
      have HA2 := Lib.hid (HAT.out.below hb2)
      have hl2 := fun op a next Q => loadW_blk (P := Tryd.prog) HB2.out Tryd.underlying37 rfl iszNd op a next Q
      clear hb2 hld hln
      unfold errV bsV
      go_wp2_with fail
      try rw [HM.out]
      refine (Write_any (C := C) HA2.out.1 d hd ((m * 128 : Nat) : Int) (by unfold I64'; omega) s (by rw [HSL.out]; omega) HOK.out).mono ?_
      rintro e w3 ⟨hpr, hstep⟩
      rw [HRR.out] at hpr hstep
      have hpe := NdR.val hpr
      subst hpe
      obtain ⟨F3, hat, hfr, hm⟩ := HA2.out.step hstep
      have hr3 := hm.blk HR2.out h2
      have hst := fun op a next Q => storeW_part (P := Tryd.prog) (t := 37) (o := 0) (cs := encN (ndV R.1)) hr3 (Nat.le_refl 13) iszNd (encN_ones _) op a next Q
      have HR3 := Lib.hid hr3
      have HA3 := Lib.hid (hat.put (o := 0) (vs := encN (ndV R.1)) (by omega : w.heap.size ≤ w.heap.size + 2) (hfr _ HR2.out.lt h2))
      have HPR := Lib.hid hpr
      clear hat hfr hm hstep hr3 hl2 hpr
      go_wp2_with fail
      refine bodyPost_ret (res_cell_tmp rfl _ _ (w.heap.size + 2) 37 _ _ rfl (HR3.out.put (vs := encN (ndV R.1)) rfl) Tryd.underlying37 rfl iszNd) rfl ?_
      exact ⟨HPR.out, HA3.out.fin⟩
  · have e : dsetM S d id n = M.err 1 := by unfold dsetM; rw [if_neg hi]
    rw [e]
    have HMAY : Hid (∀ W, Calls Tryd.prog 40 #[.int .i64 id] W fun e w' => e = .returned (.bool false) ∧ w' = W) := Lib.hid (fun W => by have := may_any id W; rw [decide_eq_false hi] at this; exact this)
    have hst := fun op a next Q => storeZNd HR0.out rfl op a next Q
    have HA2 := Lib.hid (HAT.out.put (o := 0) (vs := encN nD) (by omega : w.heap.size ≤ w.heap.size + 2) h2)
    clear e hok hi
    go_enter Tryd.func20, Tryd.ntmps20
    go_upto_region 1 with fail
    rw [show ((w.alloc (.cells (encN d).toArray 37)).alloc (.cells (encN n).toArray 37)).alloc (.cells #[.int .i64 0, .int .i64 0, .int .i64 0, .int .i64 0, .int .i64 0, .bool false, .int .i64 0, .int .i64 0, .int .i64 0, .int .u64 0, .int .u64 0, .int .u64 0, .int .u64 0] 37) = w0 from hw0.symm]
    clear hw0
    go_wp2_with fail
    refine (HMAY.out _).mono ?_
    rintro e w1 ⟨rfl, rfl⟩
    go_wp2_with fail
    refine bodyPost_ret (res_cell_tmp rfl _ _ (w.heap.size + 2) 37 _ _ rfl (HR0.out.put (vs := encN nD) rfl) Tryd.underlying37 rfl iszNd) rfl ?_
    exact ⟨⟨rfl, by decide⟩, HA2.out.fin⟩
theorem dread_wf {d : NodeT} {id : Nat} {st s1 : σ} {r : NodeT × Bool} (h : dreadM S d id st = (.ok r, s1)) : r.1.wf := by
  rcases M.bind_cases h with ⟨t, s2, h1, h2⟩ | ⟨e, s2, h1, h2⟩
  · injection h2 with h2 _
    have htl : t.length ≤ 128 := readM_len (size := 128) h1
    exact readNd_root (by simp [zeros]; omega) h2
  · injection h2 with h2 _; cases h2
set_option maxHeartbeats 2000000 in
set_option maxRecDepth 100000 in
theorem ddrop_any {w : World} {st : σ} {F : Nat → Prop} (h : C.Is w st F) (d : NodeT) (hd : d.wf) (id : Int) (hok : C.Ok (ddropM S d id st).2) :
    Calls Tryd.prog 24 #[.iface ty (.pointer (some a)), .agg (encN d).toArray, .int .i64 id] w fun e w' => NdR (ddropM S d id st).1 e ∧ C.Step F (ddropM S d id st).2 w w' := by
  obtain ⟨w0, hw0⟩ : ∃ w0, w0 = (w.alloc (.cells (encN d).toArray 37)).alloc (.cells (encN nD).toArray 37) := ⟨_, rfl⟩
  have HB0 : Hid (Blk w0 w.heap.size 37 (encN d)) := by rw [hw0]; exact Lib.hid ((Blk.new w _ _).alloc _)
  have HR0 : Hid (Blk w0 (w.heap.size + 1) 37 (encN nD)) := by rw [hw0]; exact Lib.hid (Blk.newAt (w := w.alloc _) _ _ (by simp))
  have hbel : Below w.heap.size w w0 := by rw [hw0]; exact ((Below.refl _ _).alloc (Nat.le_refl _) _).alloc (by simp) _
  have h0 : ¬ F w.heap.size := fun hf => by have := C.lt h _ hf; omega
  have h1 : ¬ F (w.heap.size + 1) := fun hf => by have := C.lt h _ hf; omega
  have HAT : Hid (C.At F st w w0 F) := Lib.hid ((StoreC.At.start h).below hbel)
  clear hbel
  have hld := fun op a next Q => loadW_blk (P := Tryd.prog) HB0.out Tryd.underlying37 rfl iszNd op a next Q
  have hok1 : C.Ok (dgetM S d id st).2 := back_first (fun r => by
    split
    · exact back_write C.bg C.bp _ _ _
    · exact back_err _) hok
  have HGT := Lib.hid (dget_any (C := C) HAT.out.1 d hd id hok1)
  have HOK := Lib.hid hok
  rcases hg : dgetM S d id st with ⟨r | ⟨x, b⟩, s1⟩
  · have e : ddropM S d id st = (.error r, s1) := M.bind_err hg
    rw [e]
    rw [hg] at HGT
    clear e hok hok1 hg
    go_enter Tryd.func24, Tryd.ntmps24
    go_upto_region 1 with fail
    rw [show (w.alloc (.cells (encN d).toArray 37)).alloc (.cells #[.int .i64 0, .int .i64 0, .int .i64 0, .int .i64 0, .int .i64 0, .bool false, .int .i64 0, .int .i64 0, .int .i64 0, .int .u64 0, .int .u64 0, .int .u64 0, .int .u64 0] 37) = w0 from hw0.symm]
    clear hw0
    go_wp2_with fail
    refine HGT.out.mono ?_
    rintro e w1 ⟨hrd, hre, hstep⟩
    unfold RdR at hrd
    subst hrd
    have hr0 := hre r rfl
    have hr1 : ((r : Int) != 0) = true := by simpa using hr0
    obtain ⟨F2, hat, hfr, hm⟩ := HAT.out.step hstep
    have hst8 := fun op a next Q => store_newNd nD w1 op a next Q
    have hb2 : Below w1.heap.size w1 (w1.alloc (.cells (encN nD).toArray 37)) := (Below.refl _ _).alloc (Nat.le_refl _) _
    have hrb := (hm.blk HR0.out h1).below hb2
    have hst := fun op a next Q => storeZNd hrb rfl op a next Q
    have HRB := Lib.hid hrb
    have HA2 := Lib.hid ((hat.below hb2).put (o := 0) (vs := encN nD) (Nat.le_succ _) (hfr _ HR0.out.lt h1))
    clear hat hfr hm hstep hld hrb hb2 hre
    unfold ndB errV
    go_wp2_with fail
    refine bodyPost_ret (res_cell_tmp rfl _ _ (w.heap.size + 1) 37 _ _ rfl (HRB.out.put (vs := encN nD) rfl) Tryd.underlying37 rfl iszNd) rfl ?_
    exact ⟨⟨rfl, hr0⟩, HA2.out.fin⟩
  · rw [hg] at HGT
    have hid : idOk id := by
      unfold dgetM at hg
      split at hg
      · assumption
      · injection hg with hg _; cases hg
    have hxw : x.wf := by
      unfold dgetM at hg
      rw [if_pos hid] at hg
      exact dread_wf hg
    cases b with
    | false =>
      have e : ddropM S d id st = (.error 7, s1) := (M.bind_ok hg).trans rfl
      rw [e]
      clear e hok hok1 hg
      go_enter Tryd.func24, Tryd.ntmps24
      go_upto_region 1 with fail
      rw [show (w.alloc (.cells (encN d).toArray 37)).alloc (.cells #[.int .i64 0, .int .i64 0, .int .i64 0, .int .i64 0, .int .i64 0, .bool false, .int .i64 0, .int .i64 0, .int .i64 0, .int .u64 0, .int .u64 0, .int .u64 0, .int .u64 0] 37) = w0 from hw0.symm]
      clear hw0
      go_wp2_with fail
      refine HGT.out.mono ?_
      rintro e w1 ⟨hrd, hre, hstep⟩
      unfold RdR at hrd
      subst hrd
      obtain ⟨F2, hat, hfr, hm⟩ := HAT.out.step hstep
      have hst8 := fun op a next Q => store_newNd x w1 op a next Q
      have hb2 : Below w1.heap.size w1 (w1.alloc (.cells (encN x).toArray 37)) := (Below.refl _ _).alloc (Nat.le_refl _) _
      have hrb := (hm.blk HR0.out h1).below hb2
      have hst := fun op a next Q => storeZNd hrb rfl op a next Q
      have HRB := Lib.hid hrb
      have HA2 := Lib.hid ((hat.below hb2).put (o := 0) (vs := encN nD) (Nat.le_succ _) (hfr _ HR0.out.lt h1))
      clear hat hfr hm hstep hld hrb hb2 hre
      unfold ndB errV
      go_wp2_with fail
      refine bodyPost_ret (res_cell_tmp rfl _ _ (w.heap.size + 1) 37 _ _ rfl (HRB.out.put (vs := encN nD) rfl) Tryd.underlying37 rfl iszNd) rfl ?_
      exact ⟨⟨rfl, by decide⟩, HA2.out.fin⟩
    | true =>
      have e : ddropM S d id st = writeM S d ((id.toNat * 128 : Nat) : Int) (zeros 128) s1 := (M.bind_ok hg).trans rfl
      rw [e] at hok ⊢
      clear HOK
      obtain ⟨m, rfl⟩ : ∃ m : Nat, id = m := ⟨id.toNat, by have := hid.1; omega⟩
      have em : ((m : Int)).toNat = m := by omega
      have hm32 : m < 32 := by have := hid.2; omega
      rw [em] at hok ⊢
      have HM : Hid (IntKind.i64.wrap ((m : Int) * 128) = ((m * 128 : Nat) : Int)) := Lib.hid (by rw [IntWalk.i64_in _ (by omega)]; omega)
      obtain ⟨R, hR⟩ : ∃ R, writeM S d ((m * 128 : Nat) : Int) (zeros 128) s1 = R := ⟨_, rfl⟩
      rw [hR] at hok ⊢
      have HOK := Lib.hid hok
      have HE2 := Lib.hid hR
      clear e hok hok1 hg em hR hid
      go_enter Tryd.func24, Tryd.ntmps24
      go_upto_region 1 with fail
      rw [show (w.alloc (.cells (encN d).toArray 37)).alloc (.cells #[.int .i64 0, .int .i64 0, .int .i64 0, .int .i64 0, .int .i64 0, .bool false, .int .i64 0, .int .i64 0, .int .i64 0, .int .u64 0, .int .u64 0, .int .u64 0, .int .u64 0] 37) = w0 from hw0.symm]
      clear hw0
      go_wp2_with fail
      refine HGT.out.mono ?_
      rintro e w1 ⟨hrd, hre, hstep⟩
      unfold RdR at hrd
      subst hrd
      obtain ⟨F2, hat, hfr, hm⟩ := HAT.out.step hstep
      have hst8 := fun op a next Q => store_newNd x w1 op a next Q
      have hb2 : Below w1.heap.size w1 (w1.alloc (.cells (encN x).toArray 37)) := (Below.refl _ _).alloc (Nat.le_refl _) _
      have HBD := Lib.hid (((hm.blk HB0.out h0).below hb2).drew)
      have HRD := Lib.hid (((hm.blk HR0.out h1).below hb2).drew)
      have HAD := Lib.hid ((hat.below hb2).below (Below.refl _ _).drew)
      have HFD := Lib.hid (And.intro (hfr _ HB0.out.lt h0) (hfr _ HR0.out.lt h1))
      clear hat hfr hm hstep hld hb2 hre
      unfold ndB errV
      go_upto_region 6 with fail
      refine wp_region_held_drew (S := fun w' => Blk w' w.heap.size 37 (encN d)) (by kernel_rfl) HBD.out (fun hS0 => ?_)
      refine wpAnyH_take (i := 0) (oi := ?oie0) (v := ?ve0) ?hie0 ?hse0 ?hfe0 ?hre0 ?hQe0 ?hye0 ?hSe0 ?he0
      case hie0 => (simp only [List.getElem?_toArray, List.getElem?_cons_succ, List.getElem?_cons_zero]; rfl)
      case hse0 => kernel_rfl
      case hfe0 => kernel_rfl
      case hre0 => kernel_rfl
      case hSe0 => first | assumption | trivial
      case hye0 => refine Or.inl ⟨by kernel_rfl, ?_⟩; (intro w hSw; (try dsimp only at hSw); go_simp; try with_reducible rfl)
      case hQe0 => exact fun _ _ _ h => h
      try simp only [Act.put, List.setIfInBounds_toArray, List.set_cons_zero, List.set_cons_succ]
      refine wpAnyH_take (i := 1) (oi := ?oie1) (v := ?ve1) ?hie1 ?hse1 ?hfe1 ?hre1 ?hQe1 ?hye1 ?hSe1 ?he1
      case hie1 => (simp only [List.getElem?_toArray, List.getElem?_cons_succ, List.getElem?_cons_zero]; rfl)
      case hse1 => kernel_rfl
      case hfe1 => kernel_rfl
      case hre1 => kernel_rfl
      case hSe1 => first | assumption | trivial
      case hye1 => refine yieldsIf_load_mid (by kernel_rfl) 37 (.tmp 4) ?_ w.heap.size (0) ?_ (encN d) _ (fun w' hw => range_blk hw) Tryd.underlying37 rfl iszNd <;> rfl
      case hQe1 => exact fun _ _ _ h => h
      try simp only [Act.put, List.setIfInBounds_toArray, List.set_cons_zero, List.set_cons_succ]
      refine wpAnyH_take (i := 2) (oi := ?oie2) (v := ?ve2) ?hie2 ?hse2 ?hfe2 ?hre2 ?hQe2 ?hye2 ?hSe2 ?he2
      case hie2 => (simp only [List.getElem?_toArray, List.getElem?_cons_succ, List.getElem?_cons_zero]; rfl)
      case hse2 => kernel_rfl
      case hfe2 => kernel_rfl
      case hre2 => kernel_rfl
      case hSe2 => first | assumption | trivial
      case hye2 => refine Or.inl ⟨by kernel_rfl, ?_⟩; (intro w hSw; (try dsimp only at hSw); go_simp; try with_reducible rfl)
      case hQe2 => exact fun _ _ _ h => h
      try simp only [Act.put, List.setIfInBounds_toArray, List.set_cons_zero, List.set_cons_succ]
      refine wpAnyH_take (i := 3) (oi := ?oie3) (v := ?ve3) ?hie3 ?hse3 ?hfe3 ?hre3 ?hQe3 ?hye3 ?hSe3 ?he3
      case hie3 => (simp only [List.getElem?_toArray, List.getElem?_cons_succ, List.getElem?_cons_zero]; rfl)
      case hse3 => kernel_rfl
      case hfe3 => kernel_rfl
      case hre3 => kernel_rfl
      case hSe3 => first | assumption | trivial
      case hye3 => refine Or.inl ⟨by kernel_rfl, ?_⟩; (intro w hSw; (try dsimp only at hSw); go_simp; try rw [HM.out])
      case hQe3 => exact fun _ _ _ h => h
      try simp only [Act.put, List.setIfInBounds_toArray, List.set_cons_zero, List.set_cons_succ]
      refine wpAnyH_ready (rs := [4]) (by kernel_rfl) (by simp) ?_
      refine AllReadyH.cons (by simp only [List.getElem?_toArray, List.getElem?_cons_succ, List.getElem?_cons_zero]; rfl) (fun K hK => ?_) AllReadyH.nil
      go_simp
      refine (repeat0_any 128 _ (by omega)).mono ?_
      rintro e w5 ⟨rfl, hb5⟩
      have HB5 := Lib.hid (HBD.out.below hb5)
      have HR5 := Lib.hid (HRD.out.below hb5)
      have HA5 := Lib.hid (HAD.out.below hb5)
      clear hb5
      try dsimp only
      refine hK.out _ _ (HB5.out) (fun hSe4 => ?_)
      try simp only [Act.put, List.setIfInBounds_toArray, List.set_cons_zero, List.set_cons_succ]
      refine wpAnyH_ready (rs := [5]) (by kernel_rfl) (by simp) ?_
      refine AllReadyH.cons (by simp only [List.getElem?_toArray, List.getElem?_cons_succ, List.getElem?_cons_zero]; rfl) (fun K hK => ?_) AllReadyH.nil
      go_simp
      try rw [HM.out]
      refine (Write_any (C := C) HA5.out.1 d hd ((m * 128 : Nat) : Int) (by unfold I64'; omega) (zeros 128) (by simp [zeros]) (by rw [HE2.out]; exact HOK.out)).mono ?_
      rw [HE2.out]
      rintro e w6 ⟨hpr, hstep⟩
      have hpe := NdR.val hpr
      subst hpe
      obtain ⟨F6, hat6, hfr6, hm6⟩ := HA5.out.step hstep
      have HB6 := Lib.hid (hm6.blk HB5.out HFD.out.1)
      have HR6 := Lib.hid (hm6.blk HR5.out HFD.out.2)
      have HF6 := Lib.hid (hfr6 _ HR5.out.lt HFD.out.2)
      have HA6 := Lib.hid hat6
      have HPR := Lib.hid hpr
      clear hstep hat6 hfr6 hm6 hpr
      try dsimp only
      refine hK.out _ _ (HB6.out) (fun hSe5 => ?_)
      try simp only [Act.put, List.setIfInBounds_toArray, List.set_cons_zero, List.set_cons_succ]
      refine wpAnyH_take (i := 6) (oi := ?oie6) (v := ?ve6) ?hie6 ?hse6 ?hfe6 ?hre6 ?hQe6 ?hye6 ?hSe6 ?he6
      case hie6 => (simp only [List.getElem?_toArray, List.getElem?_cons_succ, List.getElem?_cons_zero]; rfl)
      case hse6 => kernel_rfl
      case hfe6 => kernel_rfl
      case hre6 => kernel_rfl
      case hSe6 => first | assumption | trivial
      case hye6 => refine Or.inl ⟨by kernel_rfl, ?_⟩; (intro w hSw; (try dsimp only at hSw); go_simp; try with_reducible rfl)
      case hQe6 => exact fun _ _ _ h => h
      try simp only [Act.put, List.setIfInBounds_toArray, List.set_cons_zero, List.set_cons_succ]
      refine wpAnyH_take (i := 7) (oi := ?oie7) (v := ?ve7) ?hie7 ?hse7 ?hfe7 ?hre7 ?hQe7 ?hye7 ?hSe7 ?he7
      case hie7 => (simp only [List.getElem?_toArray, List.getElem?_cons_succ, List.getElem?_cons_zero]; rfl)
      case hse7 => kernel_rfl
      case hfe7 => kernel_rfl
      case hre7 => kernel_rfl
      case hSe7 => first | assumption | trivial
      case hye7 => refine Or.inl ⟨by kernel_rfl, ?_⟩; (intro w hSw; (try dsimp only at hSw); go_simp; try with_reducible rfl)
      case hQe7 => exact fun _ _ _ h => h
      try simp only [Act.put, List.setIfInBounds_toArray, List.set_cons_zero, List.set_cons_succ]
      refine wpAnyH_ready (rs := [8]) (by kernel_rfl) (by simp) ?_
      refine AllReadyH.cons (by simp only [List.getElem?_toArray, List.getElem?_cons_succ, List.getElem?_cons_zero]; rfl) (fun K hK => ?_) AllReadyH.nil
      rw [if_pos (by kernel_rfl)]
      refine wp_store_mid 37 (.tmp 6) (.tmp 34) rfl (w.heap.size + 1) (0) (encN (ndV R.1)).toArray rfl rfl (blk_there HR6.out (Nat.le_refl 13)) iszNd (all_oneCell_toArray (encN_ones _)) ?_
      refine hK.out _ _ (HB6.out.away 0 _ (by omega)) (fun hSe8 => ?_)
      try simp only [Act.put, List.setIfInBounds_toArray, List.set_cons_zero, List.set_cons_succ]
      refine wpAnyH_take (i := 9) (oi := ?oie9) (v := ?ve9) ?hie9 ?hse9 ?hfe9 ?hre9 ?hQe9 ?hye9 ?hSe9 ?he9
      case hie9 => (simp only [List.getElem?_toArray, List.getElem?_cons_succ, List.getElem?_cons_zero]; rfl)
      case hse9 => kernel_rfl
      case hfe9 => kernel_rfl
      case hre9 => kernel_rfl
      case hSe9 => first | assumption | trivial
      case hye9 => refine Or.inl ⟨by kernel_rfl, ?_⟩; (intro w hSw; (try dsimp only at hSw); go_simp; try with_reducible rfl)
      case hQe9 => exact fun _ _ _ h => h
      try simp only [Act.put, List.setIfInBounds_toArray, List.set_cons_zero, List.set_cons_succ]
      refine wpAnyH_done (by kernel_rfl) ?_ _
      have HSET := Lib.hid (HR6.out.put (vs := encN (ndV R.1)) rfl)
      have HA7 := Lib.hid (HA6.out.put (o := 0) (vs := encN (ndV R.1)) (Nat.le_succ _) HF6.out)
      go_wp2_with fail
      refine bodyPost_ret (res_cell_tmp rfl _ _ (w.heap.size + 1) 37 _ _ rfl (HSET.out) Tryd.underlying37 rfl iszNd) rfl ?_
      exact ⟨HPR.out, HA7.out.fin⟩
end
end Go.Proofs.YtbhofablndjeoaaDoor
