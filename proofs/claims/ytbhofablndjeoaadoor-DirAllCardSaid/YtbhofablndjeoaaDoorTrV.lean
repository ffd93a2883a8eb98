/- The walk of tree.Write. -/
import Derived.Test.YtbhofablndjeoaaDoorTrU
namespace Go.Proofs.YtbhofablndjeoaaDoor
open Go.RowKit
set_option linter.unusedSimpArgs false
set_option linter.unusedVariables false
attribute [local go_sem ↓] wp_loadPt wp_storePt wp_loadNd wp_storeNd wp_bldNd

theorem lvl_idx {size : Int} {off : Nat} (h1 : (off : Int) < size) (h2 : off < 16384) : off / 256 < 4 ^ lvl size := by
  unfold lvl
  split
  · omega
  · split
    · omega
    · split <;> omega
section
variable {σ : Type} {S : StF σ} {ty : TypeId} {a : Addr} {C : StoreC S ty a}
theorem laid_size {n n' : NodeT} {i frm : Nat} {s : Bs} {st s1 : σ} (h : laidM S n i frm s st = (.ok n', s1)) : n'.size = n.size := by
  rcases M.bind_cases h with ⟨x, s2, h1, h2⟩ | ⟨e, s2, h1, h2⟩
  · rcases M.bind_cases h2 with ⟨r, s3, h3, h4⟩ | ⟨e, s3, h3, h4⟩
    · simp only [M.ret, Prod.mk.injEq, Except.ok.injEq] at h4
      rw [← h4.1]
    · simp at h4
  · simp at h2
theorem grown_size {n n' : NodeT} {size : Int} {st s1 : σ} (h : grownM S n size st = (.ok n', s1)) : n'.size = max n.size size := by
  rcases M.bind_cases h with ⟨x, s2, h1, h2⟩ | ⟨e, s2, h1, h2⟩
  · simp only [M.ret, Prod.mk.injEq, Except.ok.injEq] at h2
    rw [← h2.1]
  · simp at h2
def strLen : Value → Nat
  | .string b => b.size
  | _ => 0
/-- where a walk of Write stands -/
structure WriI (C : StoreC S ty a) (F : Nat → Prop) (w wr : World) (f : Nat) (n : NodeT) (off : Nat) (s : Bs) (s1 : σ) (R : Except Nat NodeT × σ) (F1 : Nat → Prop) : Prop where
  fuel : s.length < f
  wf : n.wf
  lt : (off : Int) + s.length ≤ n.size
  most : off + s.length ≤ 16384
  eq : writeTo S f n off s s1 = R
  at_ : C.At F s1 w wr F1
  bn : Blk wr w.heap.size 37 (encN n)
  br : Blk wr (w.heap.size + 1) 37 (encN nD)
  f0 : ¬ F1 w.heap.size
  f1 : ¬ F1 (w.heap.size + 1)
set_option maxHeartbeats 2000000 in
set_option maxRecDepth 100000 in
theorem Write_any {w : World} {st : σ} {F : Nat → Prop} (h : C.Is w st F) (n : NodeT) (hn : n.wf) (off : Int) (ho : I64' off) (s : Bs) (hsl : s.length ≤ 1000000) (hok : C.Ok (writeM S n off s st).2) :
    Calls Tryd.prog 15 #[.iface ty (.pointer (some a)), .agg (encN n).toArray, .int .i64 off, .string ⟨s.toArray⟩] w fun e w' => NdR (writeM S n off s st).1 e ∧ C.Step F (writeM S n off s st).2 w w' := by
  obtain ⟨w0, hw0⟩ : ∃ w0, w0 = (w.alloc (.cells (encN n).toArray 37)).alloc (.cells (encN nD).toArray 37) := ⟨_, rfl⟩
  have hb : Blk w0 w.heap.size 37 (encN n) := by rw [hw0]; exact (Blk.new w _ _).alloc _
  have hr : Blk w0 (w.heap.size + 1) 37 (encN nD) := by rw [hw0]; exact Blk.newAt (w := w.alloc _) _ _ (by simp)
  have hbel : Below w.heap.size w w0 := by rw [hw0]; exact ((Below.refl _ _).alloc (Nat.le_refl _) _).alloc (by simp) _
  have h0 : ¬ F w.heap.size := fun hf => by have := C.lt h _ hf; omega
  have h1 : ¬ F (w.heap.size + 1) := fun hf => by have := C.lt h _ hf; omega
  have HAT : Hid (C.At F st w w0 F) := Lib.hid ((StoreC.At.start h).below hbel)
  have hld := fun op a next Q => loadW_blk (P := Tryd.prog) hb Tryd.underlying37 rfl iszNd op a next Q
  have HB0 := Lib.hid hb
  have HR0 := Lib.hid hr
  unfold I64' at ho
  obtain ⟨ho1, ho2⟩ := ho
  clear hbel
  by_cases hbad : off < 0 ∨ 16384 < off ∨ 16384 - off < s.length
  · have e : writeM S n off s = M.err 1 := by unfold writeM; rw [if_pos hbad]
    rw [e]
    have hst := fun op a next Q => storeZNd hr rfl op a next Q
    have HA2 := Lib.hid (HAT.out.put (o := 0) (vs := encN nD) (Nat.le_succ _) h1)
    clear e hok hr hb
    by_cases c1 : off < 0
    · go_enter Tryd.func15, Tryd.ntmps15
      go_upto_region 1 with fail
      rw [show (w.alloc (.cells (encN n).toArray 37)).alloc (.cells #[.int .i64 0, .int .i64 0, .int .i64 0, .int .i64 0, .int .i64 0, .bool false, .int .i64 0, .int .i64 0, .int .i64 0, .int .u64 0, .int .u64 0, .int .u64 0, .int .u64 0] 37) = w0 from hw0.symm]
      clear hw0
      go_wp2_with fail
      refine bodyPost_ret (res_cell_tmp rfl _ _ (w.heap.size + 1) 37 _ _ rfl (HR0.out.put (vs := encN nD) rfl) Tryd.underlying37 rfl iszNd) rfl ?_
      exact ⟨⟨rfl, by decide⟩, HA2.out.fin⟩
    · by_cases c2 : 16384 < off
      · go_enter Tryd.func15, Tryd.ntmps15
        go_upto_region 1 with fail
        rw [show (w.alloc (.cells (encN n).toArray 37)).alloc (.cells #[.int .i64 0, .int .i64 0, .int .i64 0, .int .i64 0, .int .i64 0, .bool false, .int .i64 0, .int .i64 0, .int .i64 0, .int .u64 0, .int .u64 0, .int .u64 0, .int .u64 0] 37) = w0 from hw0.symm]
        clear hw0
        go_wp2_with fail
        refine bodyPost_ret (res_cell_tmp rfl _ _ (w.heap.size + 1) 37 _ _ rfl (HR0.out.put (vs := encN nD) rfl) Tryd.underlying37 rfl iszNd) rfl ?_
        exact ⟨⟨rfl, by decide⟩, HA2.out.fin⟩
      · have c3 : 16384 - off < (s.length : Int) := by omega
        go_enter Tryd.func15, Tryd.ntmps15
        go_upto_region 1 with fail
        rw [show (w.alloc (.cells (encN n).toArray 37)).alloc (.cells #[.int .i64 0, .int .i64 0, .int .i64 0, .int .i64 0, .int .i64 0, .bool false, .int .i64 0, .int .i64 0, .int .i64 0, .int .u64 0, .int .u64 0, .int .u64 0, .int .u64 0] 37) = w0 from hw0.symm]
        clear hw0
        go_wp2_with fail
        refine bodyPost_ret (res_cell_tmp rfl _ _ (w.heap.size + 1) 37 _ _ rfl (HR0.out.put (vs := encN nD) rfl) Tryd.underlying37 rfl iszNd) rfl ?_
        exact ⟨⟨rfl, by decide⟩, HA2.out.fin⟩
  · have c1 : ¬ off < 0 := by omega
    have c2 : ¬ 16384 < off := by omega
    have c3 : ¬ 16384 - off < (s.length : Int) := by omega
    by_cases hz : s = []
    · have e : writeM S n off s = M.ret n := by unfold writeM; rw [if_neg hbad, if_pos hz]
      rw [e]
      have qs : s.isEmpty = true := by simp [hz]
      have hst := fun op a next Q => storeW_part (P := Tryd.prog) (t := 37) (o := 0) (cs := encN n) hr (Nat.le_refl 13) iszNd (encN_ones _) op a next Q
      have HA2 := Lib.hid (HAT.out.put (o := 0) (vs := encN n) (Nat.le_succ _) h1)
      clear e hok hr hb hz hbad
      go_enter Tryd.func15, Tryd.ntmps15
      go_upto_region 1 with fail
      rw [show (w.alloc (.cells (encN n).toArray 37)).alloc (.cells #[.int .i64 0, .int .i64 0, .int .i64 0, .int .i64 0, .int .i64 0, .bool false, .int .i64 0, .int .i64 0, .int .i64 0, .int .u64 0, .int .u64 0, .int .u64 0, .int .u64 0] 37) = w0 from hw0.symm]
      clear hw0
      go_wp2_with fail
      refine bodyPost_ret (res_cell_tmp rfl _ _ (w.heap.size + 1) 37 _ _ rfl (HR0.out.put (vs := encN n) rfl) Tryd.underlying37 rfl iszNd) rfl ?_
      exact ⟨⟨rfl, hn⟩, HA2.out.fin⟩
    · have e : writeM S n off s = M.bind (grownM S n (off + s.length)) fun n' => writeTo S (s.length + 1) n' off.toNat s := by unfold writeM; rw [if_neg hbad, if_neg hz]
      rw [e] at hok ⊢
      have qs : s.isEmpty = false := by cases s <;> simp_all
      obtain ⟨o, rfl⟩ : ∃ o : Nat, off = o := ⟨off.toNat, by omega⟩
      rw [Int.toNat_natCast] at hok ⊢
      have hokG : C.Ok (grownM S n ((o : Int) + s.length) st).2 := back_first (fun n' => back_writeTo C.bg C.bp _ _ _ _) hok
      have HGR := Lib.hid (grown_any HAT.out.1 n hn ((o : Int) + s.length) (by unfold I64'; omega) hokG)
      rcases hgm : grownM S n ((o : Int) + s.length) st with ⟨r | n1, s1⟩
      · rw [M.bind_err hgm]
        rw [hgm] at HGR
        clear e hok hr hb hz hbad hokG hgm
        go_enter Tryd.func15, Tryd.ntmps15
        go_upto_region 1 with fail
        rw [show (w.alloc (.cells (encN n).toArray 37)).alloc (.cells #[.int .i64 0, .int .i64 0, .int .i64 0, .int .i64 0, .int .i64 0, .bool false, .int .i64 0, .int .i64 0, .int .i64 0, .int .u64 0, .int .u64 0, .int .u64 0, .int .u64 0] 37) = w0 from hw0.symm]
        clear hw0
        go_wp2_with fail
        refine HGR.out.mono ?_
        rintro e w2 ⟨⟨rfl, hr0⟩, hstep⟩
        have hr1 : ((r : Int) != 0) = true := by simpa using hr0
        obtain ⟨F2, hat, hfr2, hm⟩ := HAT.out.step hstep
        have hst1 := fun op a next Q => storeZNd (hm.blk HB0.out h0) rfl op a next Q
        have hbr := (hm.blk HR0.out h1).away 0 (encN nD) (by omega : w.heap.size + 1 ≠ w.heap.size)
        have hst := fun op a next Q => storeW_part (P := Tryd.prog) (t := 37) (o := 0) (cs := encN nD) hbr (Nat.le_refl 13) iszNd (encN_ones _) op a next Q
        have hst' := fun op a next Q => storeZNd hbr rfl op a next Q
        have HB2 := Lib.hid hbr
        have HA2 := Lib.hid ((hat.put (o := 0) (vs := encN nD) (Nat.le_refl _) (hfr2 _ HB0.out.lt h0)).put (o := 0) (vs := encN nD) (Nat.le_succ _) (hfr2 _ HR0.out.lt h1))
        have hst2 := fun op a next Q => storeW_part (P := Tryd.prog) (t := 37) (o := 0) (cs := encN nD) (hm.blk HB0.out h0) (Nat.le_refl 13) iszNd (encN_ones _) op a next Q
        clear hat hfr2 hm hbr hstep hld
        go_wp2_with fail
        refine bodyPost_ret (res_cell_tmp rfl _ _ (w.heap.size + 1) 37 _ _ rfl (HB2.out.put (vs := encN nD) rfl) Tryd.underlying37 rfl iszNd) rfl ?_
        exact ⟨⟨rfl, hr0⟩, HA2.out.fin⟩
      · rw [M.bind_ok hgm] at hok ⊢
        rw [hgm] at HGR
        have hns := grown_size hgm
        obtain ⟨R, hR⟩ : ∃ R, writeTo S (s.length + 1) n1 o s s1 = R := ⟨_, rfl⟩
        rw [hR] at hok ⊢
        have HOK := Lib.hid hok
        have HR1 := Lib.hid hR
        have HNS := Lib.hid hns
        clear e hok hr hb hz hbad hokG hgm hR hns
        go_enter Tryd.func15, Tryd.ntmps15
        go_upto_region 1 with fail
        rw [show (w.alloc (.cells (encN n).toArray 37)).alloc (.cells #[.int .i64 0, .int .i64 0, .int .i64 0, .int .i64 0, .int .i64 0, .bool false, .int .i64 0, .int .i64 0, .int .i64 0, .int .u64 0, .int .u64 0, .int .u64 0, .int .u64 0] 37) = w0 from hw0.symm]
        clear hw0
        go_wp2_with fail
        refine HGR.out.mono ?_
        rintro e w2 ⟨⟨rfl, hnw⟩, hstep⟩
        obtain ⟨F2, hat, hfr2, hm⟩ := HAT.out.step hstep
        have hst1 := fun op a next Q => storeW_part (P := Tryd.prog) (t := 37) (o := 0) (cs := encN n1) (hm.blk HB0.out h0) (Nat.le_refl 13) iszNd (encN_ones _) op a next Q
        have HI : Hid (WriI C F w (w2.setCells w.heap.size 0 (encN n1)) (s.length + 1) n1 o s s1 R F2) := Lib.hid ⟨Nat.lt_succ_self _, hnw, by rw [HNS.out]; omega, by omega, HR1.out, hat.put (o := 0) (vs := encN n1) (Nat.le_refl _) (hfr2 _ HB0.out.lt h0), (hm.blk HB0.out h0).put rfl, (hm.blk HR0.out h1).away 0 (encN n1) (by omega : w.heap.size + 1 ≠ w.heap.size), hfr2 _ HB0.out.lt h0, hfr2 _ HR0.out.lt h1⟩
        clear hat hfr2 hm hstep hld
        go_wp2_with fail
        go_loopw [2, 3] (fun ov sv wr => ∃ (f : Nat) (n' : NodeT) (off : Nat) (s : Bs) (s1 : σ) (F1 : Nat → Prop), ov = .int .i64 (off : Nat) ∧ sv = .string ⟨s.toArray⟩ ∧ off ≤ 16384 ∧ s.length ≤ 16384 ∧ Hid (WriI C F w wr f n' off s s1 R F1)) (fun _ sv _ => strLen sv)
        case atStart => exact ⟨_, n1, o, s, s1, F2, rfl, rfl, by omega, by omega, HI⟩
        case round =>
          clear HI qs
          obtain ⟨f, n', off, s, s1, F1, rfl, rfl, hoff, hsl2, HI⟩ := hrel
          have hnw' := HI.out.wf
          by_cases hz : s = []
          · have qs : s.isEmpty = true := by simp [hz]
            have hfu := HI.out.fuel
            obtain ⟨f', rfl⟩ : ∃ f', f = f' + 1 := ⟨f - 1, by omega⟩
            have hRe := HI.out.eq
            rw [writeTo, if_pos hz] at hRe
            have HRE : Hid ((Except.ok n', s1) = R) := Lib.hid hRe
            have hln := fun op a next Q => loadW_blk (P := Tryd.prog) HI.out.bn Tryd.underlying37 rfl iszNd op a next Q
            have hst := fun op a next Q => storeW_part (P := Tryd.prog) (t := 37) (o := 0) (cs := encN n') HI.out.br (Nat.le_refl 13) iszNd (encN_ones _) op a next Q
            have HA2 := Lib.hid (HI.out.at_.put (o := 0) (vs := encN n') (Nat.le_succ _) HI.out.f1)
            clear hz hRe
            go_wp2_with fail
            refine bodyPost_ret (res_cell_tmp rfl _ _ (w.heap.size + 1) 37 _ _ rfl (HI.out.br.put (vs := encN n') rfl) Tryd.underlying37 rfl iszNd) rfl ?_
            rw [← HRE.out]
            exact ⟨⟨rfl, hnw'⟩, HA2.out.fin⟩
          · have qs : s.isEmpty = false := by cases s <;> simp_all
            have hpos : 0 < s.length := List.length_pos_iff.2 hz
            have hfu := HI.out.fuel
            obtain ⟨f', rfl⟩ : ∃ f', f = f' + 1 := ⟨f - 1, by omega⟩
            have hRe := HI.out.eq
            rw [writeTo, if_neg hz] at hRe
            obtain ⟨fr, hfr⟩ : ∃ fr, fr = off % 256 := ⟨_, rfl⟩
            obtain ⟨kk, hkk⟩ : ∃ kk, kk = min s.length (256 - fr) := ⟨_, rfl⟩
            rw [← hfr, ← hkk] at hRe
            have hfr2 : fr < 256 := by omega
            have hk1 : 0 < kk := by omega
            have hk2 : kk ≤ s.length := by omega
            have hk3 : kk ≤ 256 := by omega
            have e1 : (off : Int) % 256 = (fr : Int) := by omega
            have e2 : min (s.length : Int) (256 - (fr : Int)) = (kk : Int) := by omega
            have HOQ : Hid ((off : Int) / 256 = ((off / 256 : Nat) : Int)) := Lib.hid (by omega)
            have WOQ : Hid (IntKind.i64.wrap ((off : Int) / 256) = ((off / 256 : Nat) : Int)) := Lib.hid (by rw [HOQ.out]; exact IntWalk.i64_in _ (by omega))
            obtain ⟨rv, s3, hRS⟩ : ∃ rv s3, laidM S n' (off / 256) fr (s.take kk) s1 = (rv, s3) := ⟨_, _, rfl⟩
            have hokL : C.Ok (laidM S n' (off / 256) fr (s.take kk) s1).2 := back_first (fun q => back_writeTo C.bg C.bp _ _ _ _) (by rw [hRe]; exact HOK.out)
            have HATD := Lib.hid (HI.out.at_.below (Below.refl _ _).drew)
            have HLAID := Lib.hid (tlaid_any HATD.out.1 n' hnw' (off / 256) fr (s.take kk) (lvl_idx (by have := HI.out.lt; omega) (by have := HI.out.most; omega)) (by omega) (by simp; omega) hokL)
            rw [hRS] at HLAID
            have HRS := Lib.hid hRS
            have HRE := Lib.hid hRe
            clear hz hRe hRS hokL hfr hkk
            go_wp2_with fail
            have E1 := Lib.hid e1
            have E2 := Lib.hid e2
            clear e1 e2
            refine wp_region_held_drew (S := fun _ => True) (by kernel_rfl) trivial (fun hS0 => ?_)
            refine wpAnyH_take (i := 0) (oi := ?oid0) (v := ?vd0) ?hid0 ?hsd0 ?hfd0 ?hrd0 ?hQd0 ?hyd0 ?hSd0 ?hd0
            case hid0 => (simp only [List.getElem?_toArray, List.getElem?_cons_succ, List.getElem?_cons_zero]; rfl)
            case hsd0 => kernel_rfl
            case hfd0 => kernel_rfl
            case hrd0 => kernel_rfl
            case hSd0 => first | assumption | trivial
            case hyd0 => refine Or.inl ⟨by kernel_rfl, ?_⟩; (intro w hSw; (try dsimp only at hSw); go_simp; try with_reducible rfl)
            case hQd0 => exact fun _ _ _ h => h
            try simp only [Act.put, List.setIfInBounds_toArray, List.set_cons_zero, List.set_cons_succ]
            refine wpAnyH_take (i := 2) (oi := ?oid2) (v := ?vd2) ?hid2 ?hsd2 ?hfd2 ?hrd2 ?hQd2 ?hyd2 ?hSd2 ?hd2
            case hid2 => (simp only [List.getElem?_toArray, List.getElem?_cons_succ, List.getElem?_cons_zero]; rfl)
            case hsd2 => kernel_rfl
            case hfd2 => kernel_rfl
            case hrd2 => kernel_rfl
            case hSd2 => first | assumption | trivial
            case hyd2 => refine Or.inl ⟨by kernel_rfl, ?_⟩; (intro w hSw; (try dsimp only at hSw); go_simp; try with_reducible rfl)
            case hQd2 => exact fun _ _ _ h => h
            try simp only [Act.put, List.setIfInBounds_toArray, List.set_cons_zero, List.set_cons_succ]
            refine wpAnyH_take (i := 3) (oi := ?oid3) (v := ?vd3) ?hid3 ?hsd3 ?hfd3 ?hrd3 ?hQd3 ?hyd3 ?hSd3 ?hd3
            case hid3 => (simp only [List.getElem?_toArray, List.getElem?_cons_succ, List.getElem?_cons_zero]; rfl)
            case hsd3 => kernel_rfl
            case hfd3 => kernel_rfl
            case hrd3 => kernel_rfl
            case hSd3 => first | assumption | trivial
            case hyd3 => refine Or.inl ⟨by kernel_rfl, ?_⟩; (intro w hSw; (try dsimp only at hSw); go_simp; rw [HOQ.out])
            case hQd3 => exact fun _ _ _ h => h
            try simp only [Act.put, List.setIfInBounds_toArray, List.set_cons_zero, List.set_cons_succ]
            refine wpAnyH_take (i := 4) (oi := ?oid4) (v := ?vd4) ?hid4 ?hsd4 ?hfd4 ?hrd4 ?hQd4 ?hyd4 ?hSd4 ?hd4
            case hid4 => (simp only [List.getElem?_toArray, List.getElem?_cons_succ, List.getElem?_cons_zero]; rfl)
            case hsd4 => kernel_rfl
            case hfd4 => kernel_rfl
            case hrd4 => kernel_rfl
            case hSd4 => first | assumption | trivial
            case hyd4 => refine Or.inl ⟨by kernel_rfl, ?_⟩; (intro w hSw; (try dsimp only at hSw); go_simp; try with_reducible rfl)
            case hQd4 => exact fun _ _ _ h => h
            try simp only [Act.put, List.setIfInBounds_toArray, List.set_cons_zero, List.set_cons_succ]
            refine wpAnyH_take (i := 5) (oi := ?oid5) (v := ?vd5) ?hid5 ?hsd5 ?hfd5 ?hrd5 ?hQd5 ?hyd5 ?hSd5 ?hd5
            case hid5 => (simp only [List.getElem?_toArray, List.getElem?_cons_succ, List.getElem?_cons_zero]; rfl)
            case hsd5 => kernel_rfl
            case hfd5 => kernel_rfl
            case hrd5 => kernel_rfl
            case hSd5 => first | assumption | trivial
            case hyd5 => refine Or.inl ⟨by kernel_rfl, ?_⟩; (intro w hSw; (try dsimp only at hSw); go_simp; try with_reducible rfl)
            case hQd5 => exact fun _ _ _ h => h
            try simp only [Act.put, List.setIfInBounds_toArray, List.set_cons_zero, List.set_cons_succ]
            refine wpAnyH_take (i := 6) (oi := ?oid6) (v := ?vd6) ?hid6 ?hsd6 ?hfd6 ?hrd6 ?hQd6 ?hyd6 ?hSd6 ?hd6
            case hid6 => (simp only [List.getElem?_toArray, List.getElem?_cons_succ, List.getElem?_cons_zero]; rfl)
            case hsd6 => kernel_rfl
            case hfd6 => kernel_rfl
            case hrd6 => kernel_rfl
            case hSd6 => first | assumption | trivial
            case hyd6 => refine Or.inl ⟨by kernel_rfl, ?_⟩; (intro w hSw; (try dsimp only at hSw); go_simp; try with_reducible rfl)
            case hQd6 => exact fun _ _ _ h => h
            try simp only [Act.put, List.setIfInBounds_toArray, List.set_cons_zero, List.set_cons_succ]
            refine wpAnyH_take (i := 7) (oi := ?oid7) (v := ?vd7) ?hid7 ?hsd7 ?hfd7 ?hrd7 ?hQd7 ?hyd7 ?hSd7 ?hd7
            case hid7 => (simp only [List.getElem?_toArray, List.getElem?_cons_succ, List.getElem?_cons_zero]; rfl)
            case hsd7 => kernel_rfl
            case hfd7 => kernel_rfl
            case hrd7 => kernel_rfl
            case hSd7 => first | assumption | trivial
            case hyd7 => refine Or.inl ⟨by kernel_rfl, ?_⟩; (intro w hSw; (try dsimp only at hSw); go_simp; rw [str_extract, List.drop_zero])
            case hQd7 => exact fun _ _ _ h => h
            try simp only [Act.put, List.setIfInBounds_toArray, List.set_cons_zero, List.set_cons_succ]
            refine wpAnyH_ready (rs := [1]) (by kernel_rfl) (by simp) ?_
            refine AllReadyH.cons (by simp only [List.getElem?_toArray, List.getElem?_cons_succ, List.getElem?_cons_zero]; rfl) (fun K hK => ?_) AllReadyH.nil
            rw [if_pos (by kernel_rfl)]
            refine wp_load_mid 37 (.tmp 5) rfl w.heap.size (0) rfl (encN n') _ (range_blk HI.out.bn.drew) Tryd.underlying37 rfl iszNd ?_
            refine hK.out _ _ (trivial) (fun hSd1 => ?_)
            try simp only [Act.put, List.setIfInBounds_toArray, List.set_cons_zero, List.set_cons_succ]
            refine wpAnyH_ready (rs := [8]) (by kernel_rfl) (by simp) ?_
            refine AllReadyH.cons (by simp only [List.getElem?_toArray, List.getElem?_cons_succ, List.getElem?_cons_zero]; rfl) (fun K hK => ?_) AllReadyH.nil
            go_simp
            first | rw [WOQ.out] | rw [HOQ.out, IntWalk.i64_in _ (by omega)]
            refine HLAID.out.mono ?_
            rintro e w6 ⟨hpr, hstep6⟩
            have hpe := NdR.val hpr
            obtain ⟨q, hq⟩ : ∃ q, ndV rv = q := ⟨_, rfl⟩
            obtain ⟨E, hE⟩ : ∃ E, errV rv = E := ⟨_, rfl⟩
            rw [hq, hE] at hpe
            subst hpe
            have HQV := Lib.hid hq
            have HEE := Lib.hid hE
            have HPR := Lib.hid (NdR.two hpr)
            clear hq hE hpr
            obtain ⟨F3, hat6, hfr6, hm6⟩ := HATD.out.step hstep6
            have hbn6 := hm6.blk HI.out.bn.drew HI.out.f0
            have hbr6 := hm6.blk HI.out.br.drew HI.out.f1
            have hf06 := hfr6 _ HI.out.bn.lt HI.out.f0
            have hf16 := hfr6 _ HI.out.br.lt HI.out.f1
            clear hfr6 hstep6 hm6
            try dsimp only
            refine hK.out _ _ (trivial) (fun hSd8 => ?_)
            try simp only [Act.put, List.setIfInBounds_toArray, List.set_cons_zero, List.set_cons_succ]
            refine wpAnyH_take (i := 9) (oi := ?oid9) (v := ?vd9) ?hid9 ?hsd9 ?hfd9 ?hrd9 ?hQd9 ?hyd9 ?hSd9 ?hd9
            case hid9 => (simp only [List.getElem?_toArray, List.getElem?_cons_succ, List.getElem?_cons_zero]; rfl)
            case hsd9 => kernel_rfl
            case hfd9 => kernel_rfl
            case hrd9 => kernel_rfl
            case hSd9 => first | assumption | trivial
            case hyd9 => refine Or.inl ⟨by kernel_rfl, ?_⟩; (intro w hSw; (try dsimp only at hSw); go_simp; try with_reducible rfl)
            case hQd9 => exact fun _ _ _ h => h
            try simp only [Act.put, List.setIfInBounds_toArray, List.set_cons_zero, List.set_cons_succ]
            refine wpAnyH_take (i := 10) (oi := ?oid10) (v := ?vd10) ?hid10 ?hsd10 ?hfd10 ?hrd10 ?hQd10 ?hyd10 ?hSd10 ?hd10
            case hid10 => (simp only [List.getElem?_toArray, List.getElem?_cons_succ, List.getElem?_cons_zero]; rfl)
            case hsd10 => kernel_rfl
            case hfd10 => kernel_rfl
            case hrd10 => kernel_rfl
            case hSd10 => first | assumption | trivial
            case hyd10 => refine Or.inl ⟨by kernel_rfl, ?_⟩; (intro w hSw; (try dsimp only at hSw); go_simp; try with_reducible rfl)
            case hQd10 => exact fun _ _ _ h => h
            try simp only [Act.put, List.setIfInBounds_toArray, List.set_cons_zero, List.set_cons_succ]
            refine wpAnyH_take (i := 11) (oi := ?oid11) (v := ?vd11) ?hid11 ?hsd11 ?hfd11 ?hrd11 ?hQd11 ?hyd11 ?hSd11 ?hd11
            case hid11 => (simp only [List.getElem?_toArray, List.getElem?_cons_succ, List.getElem?_cons_zero]; rfl)
            case hsd11 => kernel_rfl
            case hfd11 => kernel_rfl
            case hrd11 => kernel_rfl
            case hSd11 => first | assumption | trivial
            case hyd11 => refine Or.inl ⟨by kernel_rfl, ?_⟩; (intro w hSw; (try dsimp only at hSw); go_simp; try with_reducible rfl)
            case hQd11 => exact fun _ _ _ h => h
            try simp only [Act.put, List.setIfInBounds_toArray, List.set_cons_zero, List.set_cons_succ]
            refine wpAnyH_ready (rs := [12]) (by kernel_rfl) (by simp) ?_
            refine AllReadyH.cons (by simp only [List.getElem?_toArray, List.getElem?_cons_succ, List.getElem?_cons_zero]; rfl) (fun K hK => ?_) AllReadyH.nil
            rw [if_pos (by kernel_rfl)]
            refine wp_store_mid 37 (.tmp 5) (.tmp 63) rfl w.heap.size (0) (encN q).toArray rfl rfl (blk_there hbn6 (Nat.le_refl 13)) iszNd (all_oneCell_toArray (encN_ones _)) ?_
            refine hK.out _ _ (trivial) (fun hSd12 => ?_)
            try simp only [Act.put, List.setIfInBounds_toArray, List.set_cons_zero, List.set_cons_succ]
            refine wpAnyH_take (i := 13) (oi := ?oid13) (v := ?vd13) ?hid13 ?hsd13 ?hfd13 ?hrd13 ?hQd13 ?hyd13 ?hSd13 ?hd13
            case hid13 => (simp only [List.getElem?_toArray, List.getElem?_cons_succ, List.getElem?_cons_zero]; rfl)
            case hsd13 => kernel_rfl
            case hfd13 => kernel_rfl
            case hrd13 => kernel_rfl
            case hSd13 => first | assumption | trivial
            case hyd13 => refine Or.inl ⟨by kernel_rfl, ?_⟩; (intro w hSw; (try dsimp only at hSw); go_simp; try with_reducible rfl)
            case hQd13 => exact fun _ _ _ h => h
            try simp only [Act.put, List.setIfInBounds_toArray, List.set_cons_zero, List.set_cons_succ]
            refine wpAnyH_done (by kernel_rfl) ?_ _
            have hset := hbn6.put (vs := encN q) rfl
            have hbr7 := hbr6.away 0 (encN q) (by omega : w.heap.size + 1 ≠ w.heap.size)
            have hat7 := hat6.put (o := 0) (vs := encN q) (Nat.le_refl _) hf06
            rcases HPR.out with ⟨r, rfl, hr0⟩ | ⟨q', rfl, hqw⟩
            · have hRe := HRE.out
              rw [M.bind_err HRS.out] at hRe
              obtain rfl := HQV.out
              obtain rfl := HEE.out
              have hr1 : ((r : Int) != 0) = true := by simpa using hr0
              have HRE3 := Lib.hid hRe
              unfold ndV errV at *
              have hst := fun op a next Q => storeZNd hbr7 rfl op a next Q
              have HB7 := Lib.hid hbr7
              have HA2 := Lib.hid (hat7.put (o := 0) (vs := encN nD) (Nat.le_succ _) hf16)
              clear hset hbr7 hat7 hat6 hbr6 hRe HQV HEE
              go_wp2_with fail
              refine bodyPost_ret (res_cell_tmp rfl _ _ (w.heap.size + 1) 37 _ _ rfl (HB7.out.put (vs := encN nD) rfl) Tryd.underlying37 rfl iszNd) rfl ?_
              rw [← HRE3.out]
              exact ⟨⟨rfl, hr0⟩, HA2.out.fin⟩
            · have hRe := HRE.out
              rw [M.bind_ok HRS.out] at hRe
              obtain rfl : q' = q := HQV.out
              obtain rfl : E = 0 := HEE.out.symm
              have hqs := laid_size HRS.out
              have HI3 : ∀ nd : Nat, Hid (WriI C F w ((w6.setCells w.heap.size 0 (encN q')).drewN nd) f' q' (off + kk) (s.drop kk) s3 R F3) := fun nd => Lib.hid ⟨by have := HI.out.fuel; rw [List.length_drop]; omega, hqw, by rw [hqs, List.length_drop]; have := HI.out.lt; omega, by rw [List.length_drop]; have := HI.out.most; omega, hRe, hat7.below (below_drewN' (Below.refl _ _) nd), hset.drewN, hbr7.drewN, hf06, hf16⟩
              have HI4 := Lib.hid HI3
              have hoff2 : off + kk ≤ 16384 := by have := HI.out.most; omega
              clear hset hbr7 hat7 hat6 hbr6 hRe hqs HI3
              go_wp2_with fail
              have p1 : IntKind.i64.wrap ((off : Int) + (kk : Int)) = (off : Int) + (kk : Int) := IntWalk.i64_in _ (by omega)
              have p2 : 0 ≤ (kk : Int) := by omega
              have p3 : (kk : Int) ≤ (s.length : Int) := by omega
              go_quiet (fail)
              go_wp2_with fail
              refine ⟨⟨f', q', off + kk, s.drop kk, s3, F3, by rw [Int.natCast_add], by rw [str_extract, List.take_length], hoff2, by rw [List.length_drop]; omega, HI4.out _⟩, ?_⟩
              rw [str_extract, List.take_length]
              show (s.drop kk).toArray.size < s.toArray.size
              simp only [List.size_toArray, List.length_drop]
              omega
end
end Go.Proofs.YtbhofablndjeoaaDoor
