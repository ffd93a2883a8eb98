/- The walk of tree.Truncate. -/
import Derived.Test.YtbhofablndjeoaaDoorTrX
import Derived.Test.YtbhofablndjeoaaDoorTrW
import Derived.Deep.DeepCutAuto
namespace Go.Proofs.YtbhofablndjeoaaDoor
open Go.RowKit
set_option linter.unusedSimpArgs false
set_option linter.unusedVariables false
attribute [local go_sem ↓] wp_loadPt wp_storePt wp_loadNd wp_storeNd wp_bldNd

theorem lvl_mono {a b : Int} (h : a ≤ b) : lvl a ≤ lvl b := by
  unfold lvl
  split <;> split <;> (try split) <;> (try split) <;> (try split) <;> (try split) <;> omega
section
variable {σ : Type} {S : StF σ} {ty : TypeId} {a : Addr} {C : StoreC S ty a}
/-- where Truncate stands behind lowered, and behind cut -/
structure TruI (C : StoreC S ty a) (F : Nat → Prop) (w wx : World) (g9 : Nat) (p : PtrT) (s3 : σ) (F3 : Nat → Prop) : Prop where
  at_ : C.At F s3 w wx F3
  bp : Blk wx g9 35 (encPtr p)
  br : Blk wx (w.heap.size + 1) 37 (encN nD)
  f9 : ¬ F3 g9
  f1 : ¬ F3 (w.heap.size + 1)
  ge : w.heap.size + 2 ≤ g9
set_option maxHeartbeats 2000000 in
set_option maxRecDepth 100000 in
theorem Trunc_any {w : World} {st : σ} {F : Nat → Prop} (h : C.Is w st F) (n : NodeT) (hn : n.wf) (size : Int) (hs : I64' size) (hok : C.Ok (truncM S n size st).2) :
    Calls Tryd.prog 18 #[.iface ty (.pointer (some a)), .agg (encN n).toArray, .int .i64 size] w fun e w' => NdR (truncM S n size st).1 e ∧ C.Step F (truncM S n size st).2 w w' := by
  obtain ⟨w0, hw0⟩ : ∃ w0, w0 = (w.alloc (.cells (encN n).toArray 37)).alloc (.cells (encN nD).toArray 37) := ⟨_, rfl⟩
  have hb : Blk w0 w.heap.size 37 (encN n) := by rw [hw0]; exact (Blk.new w _ _).alloc _
  have hr : Blk w0 (w.heap.size + 1) 37 (encN nD) := by rw [hw0]; exact Blk.newAt (w := w.alloc _) _ _ (by simp)
  have hbel : Below w.heap.size w w0 := by rw [hw0]; exact ((Below.refl _ _).alloc (Nat.le_refl _) _).alloc (by simp) _
  have h0 : ¬ F w.heap.size := fun hf => by have := C.lt h _ hf; omega
  have h1 : ¬ F (w.heap.size + 1) := fun hf => by have := C.lt h _ hf; omega
  have HAT : Hid (C.At F st w w0 F) := Lib.hid ((StoreC.At.start h).below hbel)
  have HB0 := Lib.hid hb
  have HR0 := Lib.hid hr
  have hld := fun op a next Q => loadW_blk (P := Tryd.prog) hb Tryd.underlying37 rfl iszNd op a next Q
  have hcs : w0.cell? ⟨w.heap.size, 0, none⟩ = some (.int .i64 n.size) := hb.cell 0
  clear hbel hr hb
  by_cases hbad : size < 0 ∨ 16384 < size
  · have e : truncM S n size = M.err 1 := by unfold truncM; rw [if_pos hbad]
    rw [e]
    by_cases c1 : size < 0
    · have hst := fun op a next Q => storeZNd HR0.out rfl op a next Q
      have HA2 := Lib.hid (HAT.out.put (o := 0) (vs := encN nD) (Nat.le_succ _) h1)
      clear hok hbad e
      go_enter Tryd.func18, Tryd.ntmps18
      go_upto_region 1 with fail
      rw [show (w.alloc (.cells (encN n).toArray 37)).alloc (.cells #[.int .i64 0, .int .i64 0, .int .i64 0, .int .i64 0, .int .i64 0, .bool false, .int .i64 0, .int .i64 0, .int .i64 0, .int .u64 0, .int .u64 0, .int .u64 0, .int .u64 0] 37) = w0 from hw0.symm]
      clear hw0
      go_wp2_with fail
      refine bodyPost_ret (res_cell_tmp rfl _ _ (w.heap.size + 1) 37 _ _ rfl (HR0.out.put (vs := encN nD) rfl) Tryd.underlying37 rfl iszNd) rfl ?_
      exact ⟨⟨rfl, by decide⟩, HA2.out.fin⟩
    · have c2 : 16384 < size := by omega
      have hst := fun op a next Q => storeZNd HR0.out rfl op a next Q
      have HA2 := Lib.hid (HAT.out.put (o := 0) (vs := encN nD) (Nat.le_succ _) h1)
      clear hok hbad e
      go_enter Tryd.func18, Tryd.ntmps18
      go_upto_region 1 with fail
      rw [show (w.alloc (.cells (encN n).toArray 37)).alloc (.cells #[.int .i64 0, .int .i64 0, .int .i64 0, .int .i64 0, .int .i64 0, .bool false, .int .i64 0, .int .i64 0, .int .i64 0, .int .u64 0, .int .u64 0, .int .u64 0, .int .u64 0] 37) = w0 from hw0.symm]
      clear hw0
      go_wp2_with fail
      refine bodyPost_ret (res_cell_tmp rfl _ _ (w.heap.size + 1) 37 _ _ rfl (HR0.out.put (vs := encN nD) rfl) Tryd.underlying37 rfl iszNd) rfl ?_
      exact ⟨⟨rfl, by decide⟩, HA2.out.fin⟩
  · have c1 : ¬ size < 0 := by omega
    have c2 : ¬ 16384 < size := by omega
    by_cases hle : n.size ≤ size
    · have e : truncM S n size = grownM S n size := by unfold truncM; rw [if_neg hbad, if_pos hle]
      rw [e] at hok ⊢
      have HGR := Lib.hid (grown_any HAT.out.1 n hn size hs hok)
      clear hok e hbad
      go_enter Tryd.func18, Tryd.ntmps18
      go_upto_region 1 with fail
      rw [show (w.alloc (.cells (encN n).toArray 37)).alloc (.cells #[.int .i64 0, .int .i64 0, .int .i64 0, .int .i64 0, .int .i64 0, .bool false, .int .i64 0, .int .i64 0, .int .i64 0, .int .u64 0, .int .u64 0, .int .u64 0, .int .u64 0] 37) = w0 from hw0.symm]
      clear hw0
      go_wp2_with fail
      refine HGR.out.mono ?_
      rintro e w2 ⟨hpr, hstep⟩
      have hpe := NdR.val hpr
      obtain ⟨F2, hat, hfr2, hm⟩ := HAT.out.step hstep
      subst hpe
      have HPR := Lib.hid hpr
      have hbr := hm.blk HR0.out h1
      have hst := fun op a next Q => storeW_part (P := Tryd.prog) (t := 37) (o := 0) (cs := encN (ndV (grownM S n size st).1)) hbr (Nat.le_refl 13) iszNd (encN_ones _) op a next Q
      have HB2 := Lib.hid hbr
      have HA2 := Lib.hid (hat.put (o := 0) (vs := encN (ndV (grownM S n size st).1)) (Nat.le_succ _) (hfr2 _ HR0.out.lt h1))
      clear hat hfr2 hm hbr hstep hld hpr
      go_wp2_with fail
      refine bodyPost_ret (res_cell_tmp rfl _ _ (w.heap.size + 1) 37 _ _ rfl (HB2.out.put (vs := encN (ndV (grownM S n size st).1)) rfl) Tryd.underlying37 rfl iszNd) rfl ?_
      exact ⟨HPR.out, HA2.out.fin⟩
    · have e : truncM S n size = M.bind (loweredM S (lvl n.size - lvl size) n.root) fun p => M.bind (cutM S (lvl size) p ((size + 255) / 256)) fun q => trimmedM S ⟨size, q⟩ := by unfold truncM; rw [if_neg hbad, if_neg hle]
      rw [e] at hok ⊢
      obtain ⟨m, rfl⟩ : ∃ m : Nat, size = m := ⟨size.toNat, by omega⟩
      obtain ⟨bb, hbb⟩ : ∃ bb, bb = ((m : Int) + 255) / 256 := ⟨_, rfl⟩
      rw [← hbb] at hok ⊢
      have hmono : lvl (m : Int) ≤ lvl n.size := lvl_mono (by omega)
      obtain ⟨tt, htt⟩ : ∃ tt, tt = lvl (m : Int) := ⟨_, rfl⟩
      obtain ⟨kk, hkk⟩ : ∃ kk, kk = lvl n.size - lvl (m : Int) := ⟨_, rfl⟩
      have hlv : lvl n.size = kk + tt := by omega
      have hl3 : kk + tt ≤ 3 := by rw [← hlv]; exact lvl_le _
      rw [← hkk, ← htt] at hok ⊢
      have HL1 : Hid (∀ W, Calls Tryd.prog 36 #[.int .i64 n.size] W fun e w' => e = .returned (.int .i64 ((kk + tt : Nat) : Int)) ∧ w' = W) := Lib.hid (fun W => by rw [← hlv]; exact Level_any n.size W hn.size)
      have HL2 : Hid (∀ W, Calls Tryd.prog 36 #[.int .i64 (m : Int)] W fun e w' => e = .returned (.int .i64 (tt : Nat)) ∧ w' = W) := Lib.hid (fun W => by rw [htt]; exact Level_any _ W hs)
      have hle' : n.size > (m : Int) := by omega
      obtain ⟨R, hR⟩ : ∃ R, M.bind (loweredM S kk n.root) (fun p => M.bind (cutM S tt p bb) fun q => trimmedM S ⟨m, q⟩) st = R := ⟨_, rfl⟩
      have hokl : C.Ok (loweredM S kk n.root st).2 := back_first (fun p => back_bind (back_cut C.bg C.bp tt p bb) (fun q => back_trimmed C.bg C.bp _)) hok
      rw [hR] at hok ⊢
      have HOK := Lib.hid hok
      have HOKL := Lib.hid hokl
      have HRE0 := Lib.hid hR
      have HBB := Lib.hid hbb
      clear hok e hbad hR hokl hbb hkk htt hlv hmono
      go_enter Tryd.func18, Tryd.ntmps18
      go_upto_region 1 with fail
      rw [show (w.alloc (.cells (encN n).toArray 37)).alloc (.cells #[.int .i64 0, .int .i64 0, .int .i64 0, .int .i64 0, .int .i64 0, .bool false, .int .i64 0, .int .i64 0, .int .i64 0, .int .u64 0, .int .u64 0, .int .u64 0, .int .u64 0] 37) = w0 from hw0.symm]
      clear hw0
      go_wp2_with fail
      refine (HL1.out _).mono ?_
      rintro e w5 ⟨rfl, rfl⟩
      go_wp2_with fail
      obtain ⟨rv, s3, hRS⟩ : ∃ rv s3, loweredM S kk n.root st = (rv, s3) := ⟨_, _, rfl⟩
      have HRS := Lib.hid hRS
      clear hRS hcs hld
      go_cut [9, 10] (fun v9 v10 wx => ∃ g9 F3, v9 = .pointer (some ⟨g9, 0, none⟩) ∧ v10 = .int .i64 (errV rv : Nat) ∧ Hid ((∃ n, rv = .error n ∧ n ≠ 0) ∨ ∃ q, rv = .ok q ∧ q.wf) ∧ Hid (TruI C F w wx g9 (ptrV rv) s3 F3))
      case first =>
        refine wp_region_held_drew (S := fun w' => Blk w' w.heap.size 37 (encN n)) (by kernel_rfl) HB0.out.drew (fun hS0 => ?_)
        refine wpAnyH_take (i := 0) (oi := ?oid0) (v := ?vd0) ?hid0 ?hsd0 ?hfd0 ?hrd0 ?hQd0 ?hyd0 ?hSd0 ?hd0
        case hid0 => (simp only [List.getElem?_toArray, List.getElem?_cons_succ, List.getElem?_cons_zero]; rfl)
        case hsd0 => kernel_rfl
        case hfd0 => kernel_rfl
        case hrd0 => kernel_rfl
        case hSd0 => first | assumption | trivial
        case hyd0 => refine Or.inl ⟨by kernel_rfl, ?_⟩; (intro w hSw; (try dsimp only at hSw); go_simp; try with_reducible rfl)
        case hQd0 => exact fun _ _ _ h => h
        try simp only [Act.put, List.setIfInBounds_toArray, List.set_cons_zero, List.set_cons_succ]
        refine wpAnyH_take (i := 1) (oi := ?oid1) (v := ?vd1) ?hid1 ?hsd1 ?hfd1 ?hrd1 ?hQd1 ?hyd1 ?hSd1 ?hd1
        case hid1 => (simp only [List.getElem?_toArray, List.getElem?_cons_succ, List.getElem?_cons_zero]; rfl)
        case hsd1 => kernel_rfl
        case hfd1 => kernel_rfl
        case hrd1 => kernel_rfl
        case hSd1 => first | assumption | trivial
        case hyd1 => refine Or.inl ⟨by kernel_rfl, ?_⟩; (intro w hSw; (try dsimp only at hSw); go_simp; try with_reducible rfl)
        case hQd1 => exact fun _ _ _ h => h
        try simp only [Act.put, List.setIfInBounds_toArray, List.set_cons_zero, List.set_cons_succ]
        refine wpAnyH_take (i := 2) (oi := ?oid2) (v := ?vd2) ?hid2 ?hsd2 ?hfd2 ?hrd2 ?hQd2 ?hyd2 ?hSd2 ?hd2
        case hid2 => (simp only [List.getElem?_toArray, List.getElem?_cons_succ, List.getElem?_cons_zero]; rfl)
        case hsd2 => kernel_rfl
        case hfd2 => kernel_rfl
        case hrd2 => kernel_rfl
        case hSd2 => first | assumption | trivial
        case hyd2 => refine yieldsIf_load_mid (by kernel_rfl) 35 (.tmp 35) ?_ w.heap.size (1) ?_ (encPtr n.root) _ (fun w' hw => range_root hw) Tryd.underlying35 rfl iszPt <;> rfl
        case hQd2 => exact fun _ _ _ h => h
        try simp only [Act.put, List.setIfInBounds_toArray, List.set_cons_zero, List.set_cons_succ]
        refine wpAnyH_take (i := 3) (oi := ?oid3) (v := ?vd3) ?hid3 ?hsd3 ?hfd3 ?hrd3 ?hQd3 ?hyd3 ?hSd3 ?hd3
        case hid3 => (simp only [List.getElem?_toArray, List.getElem?_cons_succ, List.getElem?_cons_zero]; rfl)
        case hsd3 => kernel_rfl
        case hfd3 => kernel_rfl
        case hrd3 => kernel_rfl
        case hSd3 => first | assumption | trivial
        case hyd3 => refine Or.inl ⟨by kernel_rfl, ?_⟩; (intro w hSw; (try dsimp only at hSw); go_simp; try with_reducible rfl)
        case hQd3 => exact fun _ _ _ h => h
        try simp only [Act.put, List.setIfInBounds_toArray, List.set_cons_zero, List.set_cons_succ]
        refine wpAnyH_take (i := 4) (oi := ?oid4) (v := ?vd4) ?hid4 ?hsd4 ?hfd4 ?hrd4 ?hQd4 ?hyd4 ?hSd4 ?hd4
        case hid4 => (simp only [List.getElem?_toArray, List.getElem?_cons_succ, List.getElem?_cons_zero]; rfl)
        case hsd4 => kernel_rfl
        case hfd4 => kernel_rfl
        case hrd4 => kernel_rfl
        case hSd4 => first | assumption | trivial
        case hyd4 => refine Or.inl ⟨by kernel_rfl, ?_⟩; (intro w hSw; (try dsimp only at hSw); go_simp; try with_reducible rfl)
        case hQd4 => exact fun _ _ _ h => h
        try simp only [Act.put, List.setIfInBounds_toArray, List.set_cons_zero, List.set_cons_succ]
        refine wpAnyH_ready (rs := [5, 10]) (by kernel_rfl) (by simp) ?_
        refine AllReadyH.cons (by simp only [List.getElem?_toArray, List.getElem?_cons_succ, List.getElem?_cons_zero]; rfl) (fun K hK => ?_) (AllReadyH.cons (by simp only [List.getElem?_toArray, List.getElem?_cons_succ, List.getElem?_cons_zero]; rfl) (fun K hK => ?_) AllReadyH.nil)
        · go_simp
          refine (HL2.out _).mono ?_
          rintro e w7 ⟨rfl, rfl⟩
          try dsimp only
          refine hK.out _ _ (by assumption) (fun hSdp5 => ?_)
          try simp only [Act.put, List.setIfInBounds_toArray, List.set_cons_zero, List.set_cons_succ]
          refine wpAnyH_ready (rs := [6, 10]) (by kernel_rfl) (by simp) ?_
          refine AllReadyH.cons (by simp only [List.getElem?_toArray, List.getElem?_cons_succ, List.getElem?_cons_zero]; rfl) (fun K hK => ?_) (AllReadyH.cons (by simp only [List.getElem?_toArray, List.getElem?_cons_succ, List.getElem?_cons_zero]; rfl) (fun K hK => ?_) AllReadyH.nil)
          · go_simp
            have HATD := Lib.hid ((HAT.out.below (Below.refl _ _).drew) : C.At F st w w5.drew F)
            refine (lowered_any HATD.out.1 n.root hn.root kk tt hl3 HOKL.out).mono ?_
            rintro e w6 ⟨hpr, hstep6⟩
            have hpe := PutR.val hpr
            rw [HRS.out] at hpr hpe hstep6
            subst hpe
            obtain ⟨F3, hat6, hfr6, hm6⟩ := HATD.out.step hstep6
            have hbn6 := hm6.blk (HB0.out.drew) h0
            have hbr6 := hm6.blk (HR0.out.drew) h1
            have hf16 := hfr6 _ (HR0.out.drew).lt h1
            clear hfr6 hstep6 hm6
            try dsimp only
            refine hK.out _ _ (hbn6) (fun hSdpp6 => ?_)
            try simp only [Act.put, List.setIfInBounds_toArray, List.set_cons_zero, List.set_cons_succ]
            refine wpAnyH_take (i := 7) (oi := ?oidpp7) (v := ?vdpp7) ?hidpp7 ?hsdpp7 ?hfdpp7 ?hrdpp7 ?hQdpp7 ?hydpp7 ?hSdpp7 ?hdpp7
            case hidpp7 => (simp only [List.getElem?_toArray, List.getElem?_cons_succ, List.getElem?_cons_zero]; rfl)
            case hsdpp7 => kernel_rfl
            case hfdpp7 => kernel_rfl
            case hrdpp7 => kernel_rfl
            case hSdpp7 => first | assumption | trivial
            case hydpp7 => refine Or.inl ⟨by kernel_rfl, ?_⟩; (intro w hSw; (try dsimp only at hSw); go_simp; try with_reducible rfl)
            case hQdpp7 => exact fun _ _ _ h => h
            try simp only [Act.put, List.setIfInBounds_toArray, List.set_cons_zero, List.set_cons_succ]
            refine wpAnyH_take (i := 8) (oi := ?oidpp8) (v := ?vdpp8) ?hidpp8 ?hsdpp8 ?hfdpp8 ?hrdpp8 ?hQdpp8 ?hydpp8 ?hSdpp8 ?hdpp8
            case hidpp8 => (simp only [List.getElem?_toArray, List.getElem?_cons_succ, List.getElem?_cons_zero]; rfl)
            case hsdpp8 => kernel_rfl
            case hfdpp8 => kernel_rfl
            case hrdpp8 => kernel_rfl
            case hSdpp8 => first | assumption | trivial
            case hydpp8 => refine Or.inl ⟨by kernel_rfl, ?_⟩; (intro w hSw; (try dsimp only at hSw); go_simp; try with_reducible rfl)
            case hQdpp8 => exact fun _ _ _ h => h
            try simp only [Act.put, List.setIfInBounds_toArray, List.set_cons_zero, List.set_cons_succ]
            refine wpAnyH_take (i := 9) (oi := ?oidpp9) (v := ?vdpp9) ?hidpp9 ?hsdpp9 ?hfdpp9 ?hrdpp9 ?hQdpp9 ?hydpp9 ?hSdpp9 ?hdpp9
            case hidpp9 => (simp only [List.getElem?_toArray, List.getElem?_cons_succ, List.getElem?_cons_zero]; rfl)
            case hsdpp9 => kernel_rfl
            case hfdpp9 => kernel_rfl
            case hrdpp9 => kernel_rfl
            case hSdpp9 => first | assumption | trivial
            case hydpp9 => refine Or.inl ⟨by kernel_rfl, ?_⟩; (intro w hSw; (try dsimp only at hSw); go_simp; try with_reducible rfl)
            case hQdpp9 => exact fun _ _ _ h => h
            try simp only [Act.put, List.setIfInBounds_toArray, List.set_cons_zero, List.set_cons_succ]
            refine wpAnyH_ready (rs := [10]) (by kernel_rfl) (by simp) ?_
            refine AllReadyH.cons (by simp only [List.getElem?_toArray, List.getElem?_cons_succ, List.getElem?_cons_zero]; rfl) (fun K hK => ?_) AllReadyH.nil
            go_simp
            skip
            refine hK.out _ _ (hbn6.alloc _) (fun hSdpp10 => ?_)
            try simp only [Act.put, List.setIfInBounds_toArray, List.set_cons_zero, List.set_cons_succ]
            refine wpAnyH_ready (rs := [11]) (by kernel_rfl) (by simp) ?_
            refine AllReadyH.cons (by simp only [List.getElem?_toArray, List.getElem?_cons_succ, List.getElem?_cons_zero]; rfl) (fun K hK => ?_) AllReadyH.nil
            rw [if_pos (by kernel_rfl)]
            refine wp_store_mid 35 (.tmp 9) (.tmp 41) rfl w6.heap.size (0) (encPtr (ptrV rv)).toArray rfl rfl (blk_there (Blk.new w6 35 (encPtr pD)) (Nat.le_refl 12)) iszPt (all_oneCell_toArray (encPtr_ones _)) ?_
            refine hK.out _ _ ((hbn6.alloc _).away 0 _ (by have := hbn6.lt; omega)) (fun hSdpp11 => ?_)
            try simp only [Act.put, List.setIfInBounds_toArray, List.set_cons_zero, List.set_cons_succ]
            refine wpAnyH_take (i := 12) (oi := ?oidpp12) (v := ?vdpp12) ?hidpp12 ?hsdpp12 ?hfdpp12 ?hrdpp12 ?hQdpp12 ?hydpp12 ?hSdpp12 ?hdpp12
            case hidpp12 => (simp only [List.getElem?_toArray, List.getElem?_cons_succ, List.getElem?_cons_zero]; rfl)
            case hsdpp12 => kernel_rfl
            case hfdpp12 => kernel_rfl
            case hrdpp12 => kernel_rfl
            case hSdpp12 => first | assumption | trivial
            case hydpp12 => refine Or.inl ⟨by kernel_rfl, ?_⟩; (intro w hSw; (try dsimp only at hSw); go_simp; try with_reducible rfl)
            case hQdpp12 => exact fun _ _ _ h => h
            try simp only [Act.put, List.setIfInBounds_toArray, List.set_cons_zero, List.set_cons_succ]
            have HT : Hid (TruI C F w ((w6.alloc (.cells (encPtr pD).toArray 35)).setCells w6.heap.size 0 (encPtr (ptrV rv))) w6.heap.size (ptrV rv) s3 F3) := Lib.hid ⟨(hat6.below ((Below.refl _ _).alloc (Nat.le_refl _) _)).put (by have := hbr6.lt; omega) (hat6.fresh (Nat.le_refl _)), (Blk.new w6 35 (encPtr pD)).put rfl, (hbr6.alloc _).away 0 _ (by have := hbr6.lt; omega), hat6.fresh (Nat.le_refl _), hf16, by have := hbr6.lt; omega⟩
            have HPR := Lib.hid (PutR.two hpr)
            refine wpAnyH_done (by kernel_rfl) ?_ _
            go_wp2_with fail
            go_meet
            exact ⟨_, F3, rfl, rfl, HPR, HT⟩
          · go_simp
            skip
            refine hK.out _ _ (HB0.out.drew.alloc _) (fun hSdpq10 => ?_)
            try simp only [Act.put, List.setIfInBounds_toArray, List.set_cons_zero, List.set_cons_succ]
            refine wpAnyH_ready (rs := [6]) (by kernel_rfl) (by simp) ?_
            refine AllReadyH.cons (by simp only [List.getElem?_toArray, List.getElem?_cons_succ, List.getElem?_cons_zero]; rfl) (fun K hK => ?_) AllReadyH.nil
            go_simp
            have HATD := Lib.hid (((HAT.out.below (Below.refl _ _).drew).below ((Below.refl _ _).alloc (Nat.le_refl _) _)) : C.At F st w (w5.drew.alloc (.cells (encPtr pD).toArray 35)) F)
            refine (lowered_any HATD.out.1 n.root hn.root kk tt hl3 HOKL.out).mono ?_
            rintro e w6 ⟨hpr, hstep6⟩
            have hpe := PutR.val hpr
            rw [HRS.out] at hpr hpe hstep6
            subst hpe
            obtain ⟨F3, hat6, hfr6, hm6⟩ := HATD.out.step hstep6
            have hbn6 := hm6.blk (HB0.out.drew.alloc (.cells (encPtr pD).toArray 35)) h0
            have hbr6 := hm6.blk (HR0.out.drew.alloc (.cells (encPtr pD).toArray 35)) h1
            have hf16 := hfr6 _ (HR0.out.drew.alloc (.cells (encPtr pD).toArray 35)).lt h1
            have hbp6 : Blk w6 w5.heap.size 35 (encPtr pD) := hm6.blk (Blk.new w5.drew _ _) (HAT.out.fresh (Nat.le_refl _))
            have hf96 : ¬ F3 w5.heap.size := hfr6 _ (Blk.new w5.drew 35 (encPtr pD)).lt (HAT.out.fresh (Nat.le_refl _))
            clear hfr6 hstep6 hm6
            try dsimp only
            refine hK.out _ _ (hbn6) (fun hSdpq6 => ?_)
            try simp only [Act.put, List.setIfInBounds_toArray, List.set_cons_zero, List.set_cons_succ]
            refine wpAnyH_take (i := 7) (oi := ?oidpq7) (v := ?vdpq7) ?hidpq7 ?hsdpq7 ?hfdpq7 ?hrdpq7 ?hQdpq7 ?hydpq7 ?hSdpq7 ?hdpq7
            case hidpq7 => (simp only [List.getElem?_toArray, List.getElem?_cons_succ, List.getElem?_cons_zero]; rfl)
            case hsdpq7 => kernel_rfl
            case hfdpq7 => kernel_rfl
            case hrdpq7 => kernel_rfl
            case hSdpq7 => first | assumption | trivial
            case hydpq7 => refine Or.inl ⟨by kernel_rfl, ?_⟩; (intro w hSw; (try dsimp only at hSw); go_simp; try with_reducible rfl)
            case hQdpq7 => exact fun _ _ _ h => h
            try simp only [Act.put, List.setIfInBounds_toArray, List.set_cons_zero, List.set_cons_succ]
            refine wpAnyH_take (i := 8) (oi := ?oidpq8) (v := ?vdpq8) ?hidpq8 ?hsdpq8 ?hfdpq8 ?hrdpq8 ?hQdpq8 ?hydpq8 ?hSdpq8 ?hdpq8
            case hidpq8 => (simp only [List.getElem?_toArray, List.getElem?_cons_succ, List.getElem?_cons_zero]; rfl)
            case hsdpq8 => kernel_rfl
            case hfdpq8 => kernel_rfl
            case hrdpq8 => kernel_rfl
            case hSdpq8 => first | assumption | trivial
            case hydpq8 => refine Or.inl ⟨by kernel_rfl, ?_⟩; (intro w hSw; (try dsimp only at hSw); go_simp; try with_reducible rfl)
            case hQdpq8 => exact fun _ _ _ h => h
            try simp only [Act.put, List.setIfInBounds_toArray, List.set_cons_zero, List.set_cons_succ]
            refine wpAnyH_take (i := 9) (oi := ?oidpq9) (v := ?vdpq9) ?hidpq9 ?hsdpq9 ?hfdpq9 ?hrdpq9 ?hQdpq9 ?hydpq9 ?hSdpq9 ?hdpq9
            case hidpq9 => (simp only [List.getElem?_toArray, List.getElem?_cons_succ, List.getElem?_cons_zero]; rfl)
            case hsdpq9 => kernel_rfl
            case hfdpq9 => kernel_rfl
            case hrdpq9 => kernel_rfl
            case hSdpq9 => first | assumption | trivial
            case hydpq9 => refine Or.inl ⟨by kernel_rfl, ?_⟩; (intro w hSw; (try dsimp only at hSw); go_simp; try with_reducible rfl)
            case hQdpq9 => exact fun _ _ _ h => h
            try simp only [Act.put, List.setIfInBounds_toArray, List.set_cons_zero, List.set_cons_succ]
            refine wpAnyH_ready (rs := [11]) (by kernel_rfl) (by simp) ?_
            refine AllReadyH.cons (by simp only [List.getElem?_toArray, List.getElem?_cons_succ, List.getElem?_cons_zero]; rfl) (fun K hK => ?_) AllReadyH.nil
            rw [if_pos (by kernel_rfl)]
            refine wp_store_mid 35 (.tmp 9) (.tmp 41) rfl w5.heap.size (0) (encPtr (ptrV rv)).toArray rfl rfl (blk_there hbp6 (Nat.le_refl 12)) iszPt (all_oneCell_toArray (encPtr_ones _)) ?_
            refine hK.out _ _ (hbn6.away 0 _ (by have := HR0.out.lt; omega)) (fun hSdpq11 => ?_)
            try simp only [Act.put, List.setIfInBounds_toArray, List.set_cons_zero, List.set_cons_succ]
            refine wpAnyH_take (i := 12) (oi := ?oidpq12) (v := ?vdpq12) ?hidpq12 ?hsdpq12 ?hfdpq12 ?hrdpq12 ?hQdpq12 ?hydpq12 ?hSdpq12 ?hdpq12
            case hidpq12 => (simp only [List.getElem?_toArray, List.getElem?_cons_succ, List.getElem?_cons_zero]; rfl)
            case hsdpq12 => kernel_rfl
            case hfdpq12 => kernel_rfl
            case hrdpq12 => kernel_rfl
            case hSdpq12 => first | assumption | trivial
            case hydpq12 => refine Or.inl ⟨by kernel_rfl, ?_⟩; (intro w hSw; (try dsimp only at hSw); go_simp; try with_reducible rfl)
            case hQdpq12 => exact fun _ _ _ h => h
            try simp only [Act.put, List.setIfInBounds_toArray, List.set_cons_zero, List.set_cons_succ]
            have HT : Hid (TruI C F w (w6.setCells w5.heap.size 0 (encPtr (ptrV rv))) w5.heap.size (ptrV rv) s3 F3) := Lib.hid ⟨hat6.put (by have := HR0.out.lt; omega) hf96, hbp6.put rfl, hbr6.away 0 _ (by have := HR0.out.lt; omega), hf96, hf16, by have := HR0.out.lt; omega⟩
            have HPR := Lib.hid (PutR.two hpr)
            refine wpAnyH_done (by kernel_rfl) ?_ _
            go_wp2_with fail
            go_meet
            exact ⟨_, F3, rfl, rfl, HPR, HT⟩
        · go_simp
          skip
          refine hK.out _ _ (HB0.out.drew.alloc _) (fun hSdq10 => ?_)
          try simp only [Act.put, List.setIfInBounds_toArray, List.set_cons_zero, List.set_cons_succ]
          refine wpAnyH_ready (rs := [5]) (by kernel_rfl) (by simp) ?_
          refine AllReadyH.cons (by simp only [List.getElem?_toArray, List.getElem?_cons_succ, List.getElem?_cons_zero]; rfl) (fun K hK => ?_) AllReadyH.nil
          go_simp
          refine (HL2.out _).mono ?_
          rintro e w7 ⟨rfl, rfl⟩
          try dsimp only
          refine hK.out _ _ (by assumption) (fun hSdq5 => ?_)
          try simp only [Act.put, List.setIfInBounds_toArray, List.set_cons_zero, List.set_cons_succ]
          refine wpAnyH_ready (rs := [6]) (by kernel_rfl) (by simp) ?_
          refine AllReadyH.cons (by simp only [List.getElem?_toArray, List.getElem?_cons_succ, List.getElem?_cons_zero]; rfl) (fun K hK => ?_) AllReadyH.nil
          go_simp
          have HATD := Lib.hid (((HAT.out.below (Below.refl _ _).drew).below ((Below.refl _ _).alloc (Nat.le_refl _) _)) : C.At F st w (w5.drew.alloc (.cells (encPtr pD).toArray 35)) F)
          refine (lowered_any HATD.out.1 n.root hn.root kk tt hl3 HOKL.out).mono ?_
          rintro e w6 ⟨hpr, hstep6⟩
          have hpe := PutR.val hpr
          rw [HRS.out] at hpr hpe hstep6
          subst hpe
          obtain ⟨F3, hat6, hfr6, hm6⟩ := HATD.out.step hstep6
          have hbn6 := hm6.blk (HB0.out.drew.alloc (.cells (encPtr pD).toArray 35)) h0
          have hbr6 := hm6.blk (HR0.out.drew.alloc (.cells (encPtr pD).toArray 35)) h1
          have hf16 := hfr6 _ (HR0.out.drew.alloc (.cells (encPtr pD).toArray 35)).lt h1
          have hbp6 : Blk w6 w5.heap.size 35 (encPtr pD) := hm6.blk (Blk.new w5.drew _ _) (HAT.out.fresh (Nat.le_refl _))
          have hf96 : ¬ F3 w5.heap.size := hfr6 _ (Blk.new w5.drew 35 (encPtr pD)).lt (HAT.out.fresh (Nat.le_refl _))
          clear hfr6 hstep6 hm6
          try dsimp only
          refine hK.out _ _ (hbn6) (fun hSdq6 => ?_)
          try simp only [Act.put, List.setIfInBounds_toArray, List.set_cons_zero, List.set_cons_succ]
          refine wpAnyH_take (i := 7) (oi := ?oidq7) (v := ?vdq7) ?hidq7 ?hsdq7 ?hfdq7 ?hrdq7 ?hQdq7 ?hydq7 ?hSdq7 ?hdq7
          case hidq7 => (simp only [List.getElem?_toArray, List.getElem?_cons_succ, List.getElem?_cons_zero]; rfl)
          case hsdq7 => kernel_rfl
          case hfdq7 => kernel_rfl
          case hrdq7 => kernel_rfl
          case hSdq7 => first | assumption | trivial
          case hydq7 => refine Or.inl ⟨by kernel_rfl, ?_⟩; (intro w hSw; (try dsimp only at hSw); go_simp; try with_reducible rfl)
          case hQdq7 => exact fun _ _ _ h => h
          try simp only [Act.put, List.setIfInBounds_toArray, List.set_cons_zero, List.set_cons_succ]
          refine wpAnyH_take (i := 8) (oi := ?oidq8) (v := ?vdq8) ?hidq8 ?hsdq8 ?hfdq8 ?hrdq8 ?hQdq8 ?hydq8 ?hSdq8 ?hdq8
          case hidq8 => (simp only [List.getElem?_toArray, List.getElem?_cons_succ, List.getElem?_cons_zero]; rfl)
          case hsdq8 => kernel_rfl
          case hfdq8 => kernel_rfl
          case hrdq8 => kernel_rfl
          case hSdq8 => first | assumption | trivial
          case hydq8 => refine Or.inl ⟨by kernel_rfl, ?_⟩; (intro w hSw; (try dsimp only at hSw); go_simp; try with_reducible rfl)
          case hQdq8 => exact fun _ _ _ h => h
          try simp only [Act.put, List.setIfInBounds_toArray, List.set_cons_zero, List.set_cons_succ]
          refine wpAnyH_take (i := 9) (oi := ?oidq9) (v := ?vdq9) ?hidq9 ?hsdq9 ?hfdq9 ?hrdq9 ?hQdq9 ?hydq9 ?hSdq9 ?hdq9
          case hidq9 => (simp only [List.getElem?_toArray, List.getElem?_cons_succ, List.getElem?_cons_zero]; rfl)
          case hsdq9 => kernel_rfl
          case hfdq9 => kernel_rfl
          case hrdq9 => kernel_rfl
          case hSdq9 => first | assumption | trivial
          case hydq9 => refine Or.inl ⟨by kernel_rfl, ?_⟩; (intro w hSw; (try dsimp only at hSw); go_simp; try with_reducible rfl)
          case hQdq9 => exact fun _ _ _ h => h
          try simp only [Act.put, List.setIfInBounds_toArray, List.set_cons_zero, List.set_cons_succ]
          refine wpAnyH_ready (rs := [11]) (by kernel_rfl) (by simp) ?_
          refine AllReadyH.cons (by simp only [List.getElem?_toArray, List.getElem?_cons_succ, List.getElem?_cons_zero]; rfl) (fun K hK => ?_) AllReadyH.nil
          rw [if_pos (by kernel_rfl)]
          refine wp_store_mid 35 (.tmp 9) (.tmp 41) rfl w5.heap.size (0) (encPtr (ptrV rv)).toArray rfl rfl (blk_there hbp6 (Nat.le_refl 12)) iszPt (all_oneCell_toArray (encPtr_ones _)) ?_
          refine hK.out _ _ (hbn6.away 0 _ (by have := HR0.out.lt; omega)) (fun hSdq11 => ?_)
          try simp only [Act.put, List.setIfInBounds_toArray, List.set_cons_zero, List.set_cons_succ]
          refine wpAnyH_take (i := 12) (oi := ?oidq12) (v := ?vdq12) ?hidq12 ?hsdq12 ?hfdq12 ?hrdq12 ?hQdq12 ?hydq12 ?hSdq12 ?hdq12
          case hidq12 => (simp only [List.getElem?_toArray, List.getElem?_cons_succ, List.getElem?_cons_zero]; rfl)
          case hsdq12 => kernel_rfl
          case hfdq12 => kernel_rfl
          case hrdq12 => kernel_rfl
          case hSdq12 => first | assumption | trivial
          case hydq12 => refine Or.inl ⟨by kernel_rfl, ?_⟩; (intro w hSw; (try dsimp only at hSw); go_simp; try with_reducible rfl)
          case hQdq12 => exact fun _ _ _ h => h
          try simp only [Act.put, List.setIfInBounds_toArray, List.set_cons_zero, List.set_cons_succ]
          have HT : Hid (TruI C F w (w6.setCells w5.heap.size 0 (encPtr (ptrV rv))) w5.heap.size (ptrV rv) s3 F3) := Lib.hid ⟨hat6.put (by have := HR0.out.lt; omega) hf96, hbp6.put rfl, hbr6.away 0 _ (by have := HR0.out.lt; omega), hf96, hf16, by have := HR0.out.lt; omega⟩
          have HPR := Lib.hid (PutR.two hpr)
          refine wpAnyH_done (by kernel_rfl) ?_ _
          go_wp2_with fail
          go_meet
          exact ⟨_, F3, rfl, rfl, HPR, HT⟩
      case rest =>
        obtain ⟨g9, F3, rfl, rfl, HPR, HT⟩ := hcut
        rcases HPR.out with ⟨r, rfl, hr0⟩ | ⟨q1, rfl, hqw⟩
        · have hRe := HRE0.out
          rw [M.bind_err HRS.out] at hRe
          have HRE : Hid ((Except.error r, s3) = R) := Lib.hid hRe
          have hr1 : ((r : Int) != 0) = true := by simpa using hr0
          unfold errV
          have hst := fun op a next Q => storeZNd HT.out.br rfl op a next Q
          have HA2 := Lib.hid (HT.out.at_.put (o := 0) (vs := encN nD) (Nat.le_succ _) HT.out.f1)
          clear hRe
          go_wp2_with fail
          refine bodyPost_ret (res_cell_tmp rfl _ _ (w.heap.size + 1) 37 _ _ rfl (HT.out.br.put (vs := encN nD) rfl) Tryd.underlying37 rfl iszNd) rfl ?_
          rw [← HRE.out]
          exact ⟨⟨rfl, hr0⟩, HA2.out.fin⟩
        · have hRe := HRE0.out
          rw [M.bind_ok HRS.out] at hRe
          obtain ⟨rv2, s4, hRS2⟩ : ∃ rv s, cutM S tt q1 bb s3 = (rv, s) := ⟨_, _, rfl⟩
          have hokC : C.Ok (cutM S tt q1 bb s3).2 := back_first (f := fun q => trimmedM S ⟨m, q⟩) (fun q => back_trimmed C.bg C.bp _) (by rw [hRe]; exact HOK.out)
          have HATD := Lib.hid (HT.out.at_.below (Below.refl _ _).drew)
          have hb0 : 0 ≤ bb := by rw [HBB.out]; omega
          have hb9 : bb ≤ 100 := by rw [HBB.out]; omega
          have HCUT := Lib.hid (cut_any tt HATD.out.1 q1 hqw bb (by omega) (by omega) (by omega) hokC)
          rw [hRS2] at HCUT
          have HRS2 := Lib.hid hRS2
          have HRE1 := Lib.hid hRe
          have HT2 : Hid (TruI C F w wc g9 q1 s3 F3) := HT
          have HWB : Hid (IntKind.i64.wrap ((IntKind.i64.wrap (IntKind.i64.wrap ((m : Int) + 256) - 1)).tdiv 256) = bb) := Lib.hid (by
            rw [IntWalk.i64_in ((m : Int) + 256) (by omega), IntWalk.i64_in ((m : Int) + 256 - 1) (by omega), Int.tdiv_eq_ediv_of_nonneg (by omega), IntWalk.i64_in _ (by omega), HBB.out]; omega)
          unfold errV
          clear hRe hRS2 hokC
          go_wp2_with fail
          refine wp_region_held_drew (S := fun _ => True) (by kernel_rfl) trivial (fun hS0 => ?_)
          refine wpAnyH_take (i := 0) (oi := ?oie0) (v := ?ve0) ?hie0 ?hse0 ?hfe0 ?hre0 ?hQe0 ?hye0 ?hSe0 ?he0
          case hie0 => (simp only [List.getElem?_toArray, List.getElem?_cons_succ, List.getElem?_cons_zero]; rfl)
          case hse0 => kernel_rfl
          case hfe0 => kernel_rfl
          case hre0 => kernel_rfl
          case hSe0 => first | assumption | trivial
          case hye0 => refine Or.inl ⟨by kernel_rfl, ?_⟩; (intro w hSw; (try dsimp only at hSw); go_simp; try with_reducible rfl)
          case hQe0 => exact fun _ _ _ h => h
          try simp only [Act.put, List.setIfInBounds_toArray, List.set_cons_zero, List.set_cons_succ]
          refine wpAnyH_take (i := 2) (oi := ?oie2) (v := ?ve2) ?hie2 ?hse2 ?hfe2 ?hre2 ?hQe2 ?hye2 ?hSe2 ?he2
          case hie2 => (simp only [List.getElem?_toArray, List.getElem?_cons_succ, List.getElem?_cons_zero]; rfl)
          case hse2 => kernel_rfl
          case hfe2 => kernel_rfl
          case hre2 => kernel_rfl
          case hSe2 => first | assumption | trivial
          case hye2 => refine Or.inl ⟨by kernel_rfl, ?_⟩; (intro w hSw; (try dsimp only at hSw); go_simp; try with_reducible rfl)
          case hQe2 => exact fun _ _ _ h => h
          try simp only [Act.put, List.setIfInBounds_toArray, List.set_cons_zero, List.set_cons_succ]
          refine wpAnyH_take (i := 4) (oi := ?oie4) (v := ?ve4) ?hie4 ?hse4 ?hfe4 ?hre4 ?hQe4 ?hye4 ?hSe4 ?he4
          case hie4 => (simp only [List.getElem?_toArray, List.getElem?_cons_succ, List.getElem?_cons_zero]; rfl)
          case hse4 => kernel_rfl
          case hfe4 => kernel_rfl
          case hre4 => kernel_rfl
          case hSe4 => first | assumption | trivial
          case hye4 => refine Or.inl ⟨by kernel_rfl, ?_⟩; (intro w hSw; (try dsimp only at hSw); go_simp; try with_reducible rfl)
          case hQe4 => exact fun _ _ _ h => h
          try simp only [Act.put, List.setIfInBounds_toArray, List.set_cons_zero, List.set_cons_succ]
          refine wpAnyH_take (i := 5) (oi := ?oie5) (v := ?ve5) ?hie5 ?hse5 ?hfe5 ?hre5 ?hQe5 ?hye5 ?hSe5 ?he5
          case hie5 => (simp only [List.getElem?_toArray, List.getElem?_cons_succ, List.getElem?_cons_zero]; rfl)
          case hse5 => kernel_rfl
          case hfe5 => kernel_rfl
          case hre5 => kernel_rfl
          case hSe5 => first | assumption | trivial
          case hye5 => refine Or.inl ⟨by kernel_rfl, ?_⟩; (intro w hSw; (try dsimp only at hSw); go_simp; try with_reducible rfl)
          case hQe5 => exact fun _ _ _ h => h
          try simp only [Act.put, List.setIfInBounds_toArray, List.set_cons_zero, List.set_cons_succ]
          refine wpAnyH_take (i := 6) (oi := ?oie6) (v := ?ve6) ?hie6 ?hse6 ?hfe6 ?hre6 ?hQe6 ?hye6 ?hSe6 ?he6
          case hie6 => (simp only [List.getElem?_toArray, List.getElem?_cons_succ, List.getElem?_cons_zero]; rfl)
          case hse6 => kernel_rfl
          case hfe6 => kernel_rfl
          case hre6 => kernel_rfl
          case hSe6 => first | assumption | trivial
          case hye6 => refine Or.inl ⟨by kernel_rfl, ?_⟩; (intro w hSw; (try dsimp only at hSw); go_simp; try with_reducible rfl)
          case hQe6 => exact fun _ _ _ h => h
          try simp only [Act.put, List.setIfInBounds_toArray, List.set_cons_zero, List.set_cons_succ]
          refine wpAnyH_take (i := 7) (oi := ?oie7) (v := ?ve7) ?hie7 ?hse7 ?hfe7 ?hre7 ?hQe7 ?hye7 ?hSe7 ?he7
          case hie7 => (simp only [List.getElem?_toArray, List.getElem?_cons_succ, List.getElem?_cons_zero]; rfl)
          case hse7 => kernel_rfl
          case hfe7 => kernel_rfl
          case hre7 => kernel_rfl
          case hSe7 => first | assumption | trivial
          case hye7 => refine Or.inl ⟨by kernel_rfl, ?_⟩; (intro w hSw; (try dsimp only at hSw); go_simp; try with_reducible rfl)
          case hQe7 => exact fun _ _ _ h => h
          try simp only [Act.put, List.setIfInBounds_toArray, List.set_cons_zero, List.set_cons_succ]
          refine wpAnyH_ready (rs := [1, 3]) (by kernel_rfl) (by simp) ?_
          refine AllReadyH.cons (by simp only [List.getElem?_toArray, List.getElem?_cons_succ, List.getElem?_cons_zero]; rfl) (fun K hK => ?_) (AllReadyH.cons (by simp only [List.getElem?_toArray, List.getElem?_cons_succ, List.getElem?_cons_zero]; rfl) (fun K hK => ?_) AllReadyH.nil)
          · rw [if_pos (by kernel_rfl)]
            refine wp_load_mid 35 (.tmp 9) rfl g9 (0) rfl (encPtr q1) _ (range_blk HT2.out.bp.drew) Tryd.underlying35 rfl iszPt ?_
            refine hK.out _ _ (trivial) (fun hSep1 => ?_)
            try simp only [Act.put, List.setIfInBounds_toArray, List.set_cons_zero, List.set_cons_succ]
            refine wpAnyH_ready (rs := [3]) (by kernel_rfl) (by simp) ?_
            refine AllReadyH.cons (by simp only [List.getElem?_toArray, List.getElem?_cons_succ, List.getElem?_cons_zero]; rfl) (fun K hK => ?_) AllReadyH.nil
            go_simp
            refine (HL2.out _).mono ?_
            rintro e w7 ⟨rfl, rfl⟩
            try dsimp only
            refine hK.out _ _ (trivial) (fun hSep3 => ?_)
            try simp only [Act.put, List.setIfInBounds_toArray, List.set_cons_zero, List.set_cons_succ]
            refine wpAnyH_ready (rs := [8]) (by kernel_rfl) (by simp) ?_
            refine AllReadyH.cons (by simp only [List.getElem?_toArray, List.getElem?_cons_succ, List.getElem?_cons_zero]; rfl) (fun K hK => ?_) AllReadyH.nil
            go_simp
            rw [HWB.out]
            refine HCUT.out.mono ?_
            rintro e w6 ⟨hpr, hstep6⟩
            have hpe := PutR.val hpr
            obtain ⟨q, hq⟩ : ∃ q, ptrV rv2 = q := ⟨_, rfl⟩
            obtain ⟨E, hE⟩ : ∃ E, errV rv2 = E := ⟨_, rfl⟩
            rw [hq, hE] at hpe
            subst hpe
            have HQV := Lib.hid hq
            have HEE := Lib.hid hE
            have HPR9 := Lib.hid (PutR.two hpr)
            clear hq hE hpr
            obtain ⟨F4, hat6, hfr6, hm6⟩ := HATD.out.step hstep6
            have hbp6 := hm6.blk HT2.out.bp.drew HT2.out.f9
            have hbr6 := hm6.blk HT2.out.br.drew HT2.out.f1
            have hf96 := hfr6 _ HT2.out.bp.lt HT2.out.f9
            have hf16 := hfr6 _ HT2.out.br.lt HT2.out.f1
            clear hfr6 hstep6 hm6
            try dsimp only
            refine hK.out _ _ (trivial) (fun hSep8 => ?_)
            try simp only [Act.put, List.setIfInBounds_toArray, List.set_cons_zero, List.set_cons_succ]
            refine wpAnyH_take (i := 9) (oi := ?oiep9) (v := ?vep9) ?hiep9 ?hsep9 ?hfep9 ?hrep9 ?hQep9 ?hyep9 ?hSep9 ?hep9
            case hiep9 => (simp only [List.getElem?_toArray, List.getElem?_cons_succ, List.getElem?_cons_zero]; rfl)
            case hsep9 => kernel_rfl
            case hfep9 => kernel_rfl
            case hrep9 => kernel_rfl
            case hSep9 => first | assumption | trivial
            case hyep9 => refine Or.inl ⟨by kernel_rfl, ?_⟩; (intro w hSw; (try dsimp only at hSw); go_simp; try with_reducible rfl)
            case hQep9 => exact fun _ _ _ h => h
            try simp only [Act.put, List.setIfInBounds_toArray, List.set_cons_zero, List.set_cons_succ]
            refine wpAnyH_take (i := 10) (oi := ?oiep10) (v := ?vep10) ?hiep10 ?hsep10 ?hfep10 ?hrep10 ?hQep10 ?hyep10 ?hSep10 ?hep10
            case hiep10 => (simp only [List.getElem?_toArray, List.getElem?_cons_succ, List.getElem?_cons_zero]; rfl)
            case hsep10 => kernel_rfl
            case hfep10 => kernel_rfl
            case hrep10 => kernel_rfl
            case hSep10 => first | assumption | trivial
            case hyep10 => refine Or.inl ⟨by kernel_rfl, ?_⟩; (intro w hSw; (try dsimp only at hSw); go_simp; try with_reducible rfl)
            case hQep10 => exact fun _ _ _ h => h
            try simp only [Act.put, List.setIfInBounds_toArray, List.set_cons_zero, List.set_cons_succ]
            refine wpAnyH_take (i := 11) (oi := ?oiep11) (v := ?vep11) ?hiep11 ?hsep11 ?hfep11 ?hrep11 ?hQep11 ?hyep11 ?hSep11 ?hep11
            case hiep11 => (simp only [List.getElem?_toArray, List.getElem?_cons_succ, List.getElem?_cons_zero]; rfl)
            case hsep11 => kernel_rfl
            case hfep11 => kernel_rfl
            case hrep11 => kernel_rfl
            case hSep11 => first | assumption | trivial
            case hyep11 => refine Or.inl ⟨by kernel_rfl, ?_⟩; (intro w hSw; (try dsimp only at hSw); go_simp; try with_reducible rfl)
            case hQep11 => exact fun _ _ _ h => h
            try simp only [Act.put, List.setIfInBounds_toArray, List.set_cons_zero, List.set_cons_succ]
            refine wpAnyH_ready (rs := [12]) (by kernel_rfl) (by simp) ?_
            refine AllReadyH.cons (by simp only [List.getElem?_toArray, List.getElem?_cons_succ, List.getElem?_cons_zero]; rfl) (fun K hK => ?_) AllReadyH.nil
            rw [if_pos (by kernel_rfl)]
            refine wp_store_mid 35 (.tmp 9) (.tmp 57) rfl g9 (0) (encPtr q).toArray rfl rfl (blk_there hbp6 (Nat.le_refl 12)) iszPt (all_oneCell_toArray (encPtr_ones _)) ?_
            refine hK.out _ _ (trivial) (fun hSep12 => ?_)
            try simp only [Act.put, List.setIfInBounds_toArray, List.set_cons_zero, List.set_cons_succ]
            refine wpAnyH_take (i := 13) (oi := ?oiep13) (v := ?vep13) ?hiep13 ?hsep13 ?hfep13 ?hrep13 ?hQep13 ?hyep13 ?hSep13 ?hep13
            case hiep13 => (simp only [List.getElem?_toArray, List.getElem?_cons_succ, List.getElem?_cons_zero]; rfl)
            case hsep13 => kernel_rfl
            case hfep13 => kernel_rfl
            case hrep13 => kernel_rfl
            case hSep13 => first | assumption | trivial
            case hyep13 => refine Or.inl ⟨by kernel_rfl, ?_⟩; (intro w hSw; (try dsimp only at hSw); go_simp; try with_reducible rfl)
            case hQep13 => exact fun _ _ _ h => h
            try simp only [Act.put, List.setIfInBounds_toArray, List.set_cons_zero, List.set_cons_succ]
            refine wpAnyH_done (by kernel_rfl) ?_ _
            have hset := hbp6.put (vs := encPtr q) rfl
            have hbr7 := hbr6.away 0 (encPtr q) (by have := HT2.out.ge; omega : w.heap.size + 1 ≠ g9)
            have hat7 := hat6.put (o := 0) (vs := encPtr q) (by have := HT2.out.ge; omega : w.heap.size ≤ g9) hf96
            rcases HPR9.out with ⟨r, rfl, hr0⟩ | ⟨q', rfl, hqw2⟩
            · have hRe := HRE1.out
              rw [M.bind_err HRS2.out] at hRe
              obtain rfl := HQV.out
              obtain rfl := HEE.out
              have hr1 : ((r : Int) != 0) = true := by simpa using hr0
              have HRE3 := Lib.hid hRe
              unfold ptrV errV at *
              have hst := fun op a next Q => storeZNd hbr7 rfl op a next Q
              have HB7 := Lib.hid hbr7
              have HA2 := Lib.hid (hat7.put (o := 0) (vs := encN nD) (Nat.le_succ _) hf16)
              clear hset hbr7 hat7 hat6 hbr6 hRe HQV HEE hbp6
              go_wp2_with fail
              refine bodyPost_ret (res_cell_tmp rfl _ _ (w.heap.size + 1) 37 _ _ rfl (HB7.out.put (vs := encN nD) rfl) Tryd.underlying37 rfl iszNd) rfl ?_
              rw [← HRE3.out]
              exact ⟨⟨rfl, hr0⟩, HA2.out.fin⟩
            · have hRe := HRE1.out
              rw [M.bind_ok HRS2.out] at hRe
              obtain rfl : q' = q := HQV.out
              obtain rfl : E = 0 := HEE.out.symm
              have hl9 := fun op a next Q => loadW_blk (P := Tryd.prog) (t := 35) hset Tryd.underlying35 rfl iszPt op a next Q
              have hbn := fun o a w next Q => bld_nd (m : Int) q' o a w next Q
              have HTR := Lib.hid (trimmed_any hat7.1 ⟨m, q'⟩ ⟨hs, hqw2⟩ m rfl (by omega) (by rw [hRe]; exact HOK.out))
              rw [hRe] at HTR
              have HAT7 := Lib.hid hat7
              have HBR7 := Lib.hid hbr7
              clear hset hbr7 hat7 hat6 hbr6 hRe hbp6
              go_wp2_with fail
              refine HTR.out.mono ?_
              rintro e w8 ⟨hpr8, hstep8⟩
              have hpe8 := NdR.val hpr8
              subst hpe8
              obtain ⟨F5, hat8, hfr8, hm8⟩ := HAT7.out.step hstep8
              have hbr8 := hm8.blk HBR7.out hf16
              have hst := fun op a next Q => storeW_part (P := Tryd.prog) (t := 37) (o := 0) (cs := encN (ndV R.1)) hbr8 (Nat.le_refl 13) iszNd (encN_ones _) op a next Q
              have HB8 := Lib.hid hbr8
              have HA2 := Lib.hid (hat8.put (o := 0) (vs := encN (ndV R.1)) (Nat.le_succ _) (hfr8 _ HBR7.out.lt hf16))
              have HPR8 := Lib.hid hpr8
              clear hpr8 hat8 hfr8 hm8 hbr8 hstep8
              go_wp2_with fail
              refine bodyPost_ret (res_cell_tmp rfl _ _ (w.heap.size + 1) 37 _ _ rfl (HB8.out.put (vs := encN (ndV R.1)) rfl) Tryd.underlying37 rfl iszNd) rfl ?_
              exact ⟨HPR8.out, HA2.out.fin⟩
          · go_simp
            refine (HL2.out _).mono ?_
            rintro e w7 ⟨rfl, rfl⟩
            try dsimp only
            refine hK.out _ _ (trivial) (fun hSeq3 => ?_)
            try simp only [Act.put, List.setIfInBounds_toArray, List.set_cons_zero, List.set_cons_succ]
            refine wpAnyH_ready (rs := [1]) (by kernel_rfl) (by simp) ?_
            refine AllReadyH.cons (by simp only [List.getElem?_toArray, List.getElem?_cons_succ, List.getElem?_cons_zero]; rfl) (fun K hK => ?_) AllReadyH.nil
            rw [if_pos (by kernel_rfl)]
            refine wp_load_mid 35 (.tmp 9) rfl g9 (0) rfl (encPtr q1) _ (range_blk HT2.out.bp.drew) Tryd.underlying35 rfl iszPt ?_
            refine hK.out _ _ (trivial) (fun hSeq1 => ?_)
            try simp only [Act.put, List.setIfInBounds_toArray, List.set_cons_zero, List.set_cons_succ]
            refine wpAnyH_ready (rs := [8]) (by kernel_rfl) (by simp) ?_
            refine AllReadyH.cons (by simp only [List.getElem?_toArray, List.getElem?_cons_succ, List.getElem?_cons_zero]; rfl) (fun K hK => ?_) AllReadyH.nil
            go_simp
            rw [HWB.out]
            refine HCUT.out.mono ?_
            rintro e w6 ⟨hpr, hstep6⟩
            have hpe := PutR.val hpr
            obtain ⟨q, hq⟩ : ∃ q, ptrV rv2 = q := ⟨_, rfl⟩
            obtain ⟨E, hE⟩ : ∃ E, errV rv2 = E := ⟨_, rfl⟩
            rw [hq, hE] at hpe
            subst hpe
            have HQV := Lib.hid hq
            have HEE := Lib.hid hE
            have HPR9 := Lib.hid (PutR.two hpr)
            clear hq hE hpr
            obtain ⟨F4, hat6, hfr6, hm6⟩ := HATD.out.step hstep6
            have hbp6 := hm6.blk HT2.out.bp.drew HT2.out.f9
            have hbr6 := hm6.blk HT2.out.br.drew HT2.out.f1
            have hf96 := hfr6 _ HT2.out.bp.lt HT2.out.f9
            have hf16 := hfr6 _ HT2.out.br.lt HT2.out.f1
            clear hfr6 hstep6 hm6
            try dsimp only
            refine hK.out _ _ (trivial) (fun hSeq8 => ?_)
            try simp only [Act.put, List.setIfInBounds_toArray, List.set_cons_zero, List.set_cons_succ]
            refine wpAnyH_take (i := 9) (oi := ?oieq9) (v := ?veq9) ?hieq9 ?hseq9 ?hfeq9 ?hreq9 ?hQeq9 ?hyeq9 ?hSeq9 ?heq9
            case hieq9 => (simp only [List.getElem?_toArray, List.getElem?_cons_succ, List.getElem?_cons_zero]; rfl)
            case hseq9 => kernel_rfl
            case hfeq9 => kernel_rfl
            case hreq9 => kernel_rfl
            case hSeq9 => first | assumption | trivial
            case hyeq9 => refine Or.inl ⟨by kernel_rfl, ?_⟩; (intro w hSw; (try dsimp only at hSw); go_simp; try with_reducible rfl)
            case hQeq9 => exact fun _ _ _ h => h
            try simp only [Act.put, List.setIfInBounds_toArray, List.set_cons_zero, List.set_cons_succ]
            refine wpAnyH_take (i := 10) (oi := ?oieq10) (v := ?veq10) ?hieq10 ?hseq10 ?hfeq10 ?hreq10 ?hQeq10 ?hyeq10 ?hSeq10 ?heq10
            case hieq10 => (simp only [List.getElem?_toArray, List.getElem?_cons_succ, List.getElem?_cons_zero]; rfl)
            case hseq10 => kernel_rfl
            case hfeq10 => kernel_rfl
            case hreq10 => kernel_rfl
            case hSeq10 => first | assumption | trivial
            case hyeq10 => refine Or.inl ⟨by kernel_rfl, ?_⟩; (intro w hSw; (try dsimp only at hSw); go_simp; try with_reducible rfl)
            case hQeq10 => exact fun _ _ _ h => h
            try simp only [Act.put, List.setIfInBounds_toArray, List.set_cons_zero, List.set_cons_succ]
            refine wpAnyH_take (i := 11) (oi := ?oieq11) (v := ?veq11) ?hieq11 ?hseq11 ?hfeq11 ?hreq11 ?hQeq11 ?hyeq11 ?hSeq11 ?heq11
            case hieq11 => (simp only [List.getElem?_toArray, List.getElem?_cons_succ, List.getElem?_cons_zero]; rfl)
            case hseq11 => kernel_rfl
            case hfeq11 => kernel_rfl
            case hreq11 => kernel_rfl
            case hSeq11 => first | assumption | trivial
            case hyeq11 => refine Or.inl ⟨by kernel_rfl, ?_⟩; (intro w hSw; (try dsimp only at hSw); go_simp; try with_reducible rfl)
            case hQeq11 => exact fun _ _ _ h => h
            try simp only [Act.put, List.setIfInBounds_toArray, List.set_cons_zero, List.set_cons_succ]
            refine wpAnyH_ready (rs := [12]) (by kernel_rfl) (by simp) ?_
            refine AllReadyH.cons (by simp only [List.getElem?_toArray, List.getElem?_cons_succ, List.getElem?_cons_zero]; rfl) (fun K hK => ?_) AllReadyH.nil
            rw [if_pos (by kernel_rfl)]
            refine wp_store_mid 35 (.tmp 9) (.tmp 57) rfl g9 (0) (encPtr q).toArray rfl rfl (blk_there hbp6 (Nat.le_refl 12)) iszPt (all_oneCell_toArray (encPtr_ones _)) ?_
            refine hK.out _ _ (trivial) (fun hSeq12 => ?_)
            try simp only [Act.put, List.setIfInBounds_toArray, List.set_cons_zero, List.set_cons_succ]
            refine wpAnyH_take (i := 13) (oi := ?oieq13) (v := ?veq13) ?hieq13 ?hseq13 ?hfeq13 ?hreq13 ?hQeq13 ?hyeq13 ?hSeq13 ?heq13
            case hieq13 => (simp only [List.getElem?_toArray, List.getElem?_cons_succ, List.getElem?_cons_zero]; rfl)
            case hseq13 => kernel_rfl
            case hfeq13 => kernel_rfl
            case hreq13 => kernel_rfl
            case hSeq13 => first | assumption | trivial
            case hyeq13 => refine Or.inl ⟨by kernel_rfl, ?_⟩; (intro w hSw; (try dsimp only at hSw); go_simp; try with_reducible rfl)
            case hQeq13 => exact fun _ _ _ h => h
            try simp only [Act.put, List.setIfInBounds_toArray, List.set_cons_zero, List.set_cons_succ]
            refine wpAnyH_done (by kernel_rfl) ?_ _
            have hset := hbp6.put (vs := encPtr q) rfl
            have hbr7 := hbr6.away 0 (encPtr q) (by have := HT2.out.ge; omega : w.heap.size + 1 ≠ g9)
            have hat7 := hat6.put (o := 0) (vs := encPtr q) (by have := HT2.out.ge; omega : w.heap.size ≤ g9) hf96
            rcases HPR9.out with ⟨r, rfl, hr0⟩ | ⟨q', rfl, hqw2⟩
            · have hRe := HRE1.out
              rw [M.bind_err HRS2.out] at hRe
              obtain rfl := HQV.out
              obtain rfl := HEE.out
              have hr1 : ((r : Int) != 0) = true := by simpa using hr0
              have HRE3 := Lib.hid hRe
              unfold ptrV errV at *
              have hst := fun op a next Q => storeZNd hbr7 rfl op a next Q
              have HB7 := Lib.hid hbr7
              have HA2 := Lib.hid (hat7.put (o := 0) (vs := encN nD) (Nat.le_succ _) hf16)
              clear hset hbr7 hat7 hat6 hbr6 hRe HQV HEE hbp6
              go_wp2_with fail
              refine bodyPost_ret (res_cell_tmp rfl _ _ (w.heap.size + 1) 37 _ _ rfl (HB7.out.put (vs := encN nD) rfl) Tryd.underlying37 rfl iszNd) rfl ?_
              rw [← HRE3.out]
              exact ⟨⟨rfl, hr0⟩, HA2.out.fin⟩
            · have hRe := HRE1.out
              rw [M.bind_ok HRS2.out] at hRe
              obtain rfl : q' = q := HQV.out
              obtain rfl : E = 0 := HEE.out.symm
              have hl9 := fun op a next Q => loadW_blk (P := Tryd.prog) (t := 35) hset Tryd.underlying35 rfl iszPt op a next Q
              have hbn := fun o a w next Q => bld_nd (m : Int) q' o a w next Q
              have HTR := Lib.hid (trimmed_any hat7.1 ⟨m, q'⟩ ⟨hs, hqw2⟩ m rfl (by omega) (by rw [hRe]; exact HOK.out))
              rw [hRe] at HTR
              have HAT7 := Lib.hid hat7
              have HBR7 := Lib.hid hbr7
              clear hset hbr7 hat7 hat6 hbr6 hRe hbp6
              go_wp2_with fail
              refine HTR.out.mono ?_
              rintro e w8 ⟨hpr8, hstep8⟩
              have hpe8 := NdR.val hpr8
              subst hpe8
              obtain ⟨F5, hat8, hfr8, hm8⟩ := HAT7.out.step hstep8
              have hbr8 := hm8.blk HBR7.out hf16
              have hst := fun op a next Q => storeW_part (P := Tryd.prog) (t := 37) (o := 0) (cs := encN (ndV R.1)) hbr8 (Nat.le_refl 13) iszNd (encN_ones _) op a next Q
              have HB8 := Lib.hid hbr8
              have HA2 := Lib.hid (hat8.put (o := 0) (vs := encN (ndV R.1)) (Nat.le_succ _) (hfr8 _ HBR7.out.lt hf16))
              have HPR8 := Lib.hid hpr8
              clear hpr8 hat8 hfr8 hm8 hbr8 hstep8
              go_wp2_with fail
              refine bodyPost_ret (res_cell_tmp rfl _ _ (w.heap.size + 1) 37 _ _ rfl (HB8.out.put (vs := encN (ndV R.1)) rfl) Tryd.underlying37 rfl iszNd) rfl ?_
              exact ⟨HPR8.out, HA2.out.fin⟩
end
end Go.Proofs.YtbhofablndjeoaaDoor
