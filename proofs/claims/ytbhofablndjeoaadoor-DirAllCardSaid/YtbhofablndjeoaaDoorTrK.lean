/- The walks of tree.leaf, Block, bytes. -/
import Derived.Test.YtbhofablndjeoaaDoorTrJ
import Derived.Test.YtbhofablndjeoaaDoorTrP
import Derived.StillTailTactics
namespace Go.Proofs.YtbhofablndjeoaaDoor
open Go.RowKit
set_option linter.unusedSimpArgs false
set_option linter.unusedVariables false
attribute [local go_sem ↓] wp_loadPt wp_storePt wp_loadA4 wp_storeA4

theorem range_ps {w : World} {g e m : Nat} {l : List PtrT} (h : Blk w g e (encPs l)) (hm : m < l.length) : w.rangeAt g (m * 12) (encPtr l[m]) := fun j v hv => by
  have hj : j < 12 := (List.getElem?_eq_some_iff.1 hv).1
  rw [h.cell, ← List.getElem?_drop, ← hv, ← encPs_sub l m hm, List.getElem?_take, if_pos hj]
section
variable {σ : Type} {S : StF σ} {ty : TypeId} {a : Addr} {C : StoreC S ty a}
theorem StoreC.bg (C : StoreC S ty a) (p : PtrT) : Back C.Ok (S.get p) := C.okget p
theorem StoreC.bp (C : StoreC S ty a) (t : Bs) (l : Nat) : Back C.Ok (S.put t l) := C.okput t l
/-- where a walk of leaf stands -/
structure LeafI (C : StoreC S ty a) (F : Nat → Prop) (w wr : World) (k j : Nat) (p : PtrT) (s1 : σ) (R : Except Nat PtrT × σ) (F1 : Nat → Prop) : Prop where
  le : k ≤ 3
  lt : j < 4 ^ k
  wf : p.wf
  eq : leafM S k p j s1 = R
  at_ : C.At F s1 w wr F1
  bp : Blk wr w.heap.size 35 (encPtr p)
  br : Blk wr (w.heap.size + 1) 35 (encPtr pD)
  f0 : ¬ F1 w.heap.size
  f1 : ¬ F1 (w.heap.size + 1)
set_option maxHeartbeats 2000000 in
set_option maxRecDepth 100000 in
theorem leaf_any {w : World} {s : σ} {F : Nat → Prop} (h : C.Is w s F) (p : PtrT) (hp : p.wf) (k i : Nat) (hk : k ≤ 3) (hi : i < 4 ^ k) (hok : C.Ok (leafM S k p i s).2) :
    Calls Tryd.prog 45 #[.iface ty (.pointer (some a)), .agg (encPtr p).toArray, .int .i64 (k : Nat), .int .i64 (i : Nat)] w fun e w' => PutR (leafM S k p i s).1 e ∧ C.Step F (leafM S k p i s).2 w w' := by
  obtain ⟨w0, hw0⟩ : ∃ w0, w0 = (w.alloc (.cells (encPtr p).toArray 35)).alloc (.cells (encPtr pD).toArray 35) := ⟨_, rfl⟩
  have hb : Blk w0 w.heap.size 35 (encPtr p) := by rw [hw0]; exact (Blk.new w _ _).alloc _
  have hr : Blk w0 (w.heap.size + 1) 35 (encPtr pD) := by rw [hw0]; exact Blk.newAt (w := w.alloc _) _ _ (by simp)
  have hbel : Below w.heap.size w w0 := by rw [hw0]; exact ((Below.refl _ _).alloc (Nat.le_refl _) _).alloc (by simp) _
  have h0 : ¬ F w.heap.size := fun hf => by have := C.lt h _ hf; omega
  have h1 : ¬ F (w.heap.size + 1) := fun hf => by have := C.lt h _ hf; omega
  obtain ⟨R, hR⟩ : ∃ R, leafM S k p i s = R := ⟨_, rfl⟩
  have HI : Hid (LeafI C F w w0 k i p s R F) := Lib.hid ⟨hk, hi, hp, hR, (StoreC.At.start h).below hbel, hb, hr, h0, h1⟩
  rw [hR] at hok ⊢
  have HOK := Lib.hid hok
  clear hb hr hbel h0 h1 hok hR hp hi
  go_enter Tryd.func45, Tryd.ntmps45
  go_upto_block 0 with fail
  rw [show (w.alloc (.cells (encPtr p).toArray 35)).alloc (.cells #[.int .i64 0, .int .i64 0, .int .i64 0, .int .i64 0, .bool false, .int .i64 0, .int .i64 0, .int .i64 0, .int .u64 0, .int .u64 0, .int .u64 0, .int .u64 0] 35) = w0 from hw0.symm]
  clear hw0
  go_wp2_with fail
  go_loopw [2, 3] (fun lv iv wr => ∃ (k j : Nat) (p : PtrT) (s1 : σ) (F1 : Nat → Prop), lv = .int .i64 (k : Nat) ∧ iv = .int .i64 (j : Nat) ∧ k ≤ 3 ∧ Hid (LeafI C F w wr k j p s1 R F1)) (fun lv _ _ => (intOf lv).toNat)
  case atStart => exact ⟨k, i, p, s, F, rfl, rfl, hk, HI⟩
  case round =>
    clear HI
    obtain ⟨k, j, p, s1, F1, rfl, rfl, hk3, HI⟩ := hrel
    have hpw := HI.out.wf
    have hld := fun op a next Q => loadW_blk (P := Tryd.prog) HI.out.bp Tryd.underlying35 rfl iszPt op a next Q
    cases k with
    | zero =>
      have hst := fun op a next Q => storeW_part (P := Tryd.prog) (t := 35) (o := 0) (cs := encPtr p) HI.out.br (Nat.le_refl 12) iszPt (encPtr_ones p) op a next Q
      have HB2 := Lib.hid (HI.out.br.put (vs := encPtr p) rfl)
      have HA2 := Lib.hid (HI.out.at_.put (o := 0) (vs := encPtr p) (Nat.le_succ _) HI.out.f1)
      have hRe := HI.out.eq
      have HRE : Hid ((.ok p, s1) = R) := Lib.hid hRe
      clear hRe
      go_wp2_with fail
      refine bodyPost_ret (res_cell_tmp rfl _ _ (w.heap.size + 1) 35 _ _ rfl HB2.out Tryd.underlying35 rfl iszPt) rfl ?_
      rw [← HRE.out]
      exact ⟨⟨rfl, hpw⟩, HA2.out.fin⟩
    | succ k =>
      by_cases hn : isNone p = true
      · have hRe := HI.out.eq
        rw [leafM, if_pos hn] at hRe
        have HRE : Hid ((.ok p, s1) = R) := Lib.hid hRe
        have HN := Lib.hid hn
        clear hRe hn
        go_wp2_with fail
        refine (None_any p hpw wr).mono ?_
        rintro e w1 ⟨rfl, hb1⟩
        rw [HN.out]
        have hbp := HI.out.bp.below hb1
        have hbr := HI.out.br.below hb1
        have hat := HI.out.at_.below hb1
        have hld1 := fun op a next Q => loadW_blk (P := Tryd.prog) hbp Tryd.underlying35 rfl iszPt op a next Q
        have hst := fun op a next Q => storeW_part (P := Tryd.prog) (t := 35) (o := 0) (cs := encPtr p) hbr (Nat.le_refl 12) iszPt (encPtr_ones p) op a next Q
        have HB2 := Lib.hid (hbr.put (vs := encPtr p) rfl)
        have HA2 := Lib.hid (hat.put (o := 0) (vs := encPtr p) (Nat.le_succ _) HI.out.f1)
        clear hbp hbr hat hb1 hld
        go_wp2_with fail
        refine bodyPost_ret (res_cell_tmp rfl _ _ (w.heap.size + 1) 35 _ _ rfl HB2.out Tryd.underlying35 rfl iszPt) rfl ?_
        rw [← HRE.out]
        exact ⟨⟨rfl, hpw⟩, HA2.out.fin⟩
      · have hn' : isNone p = false := by simpa using hn
        have hRe := HI.out.eq
        rw [leafM, if_neg hn] at hRe
        have hokl : C.Ok (linksM S p s1).2 := back_first (fun l => back_leaf C.bg k _ _) (by rw [hRe]; exact HOK.out)
        have HN := Lib.hid hn'
        have HOKL := Lib.hid hokl
        have HRE := Lib.hid hRe
        clear hRe hn hn' hokl
        go_wp2_with fail
        refine (None_any p hpw wr).mono ?_
        rintro e w1 ⟨rfl, hb1⟩
        rw [HN.out]
        have HBP := Lib.hid (HI.out.bp.below hb1)
        have HBR := Lib.hid (HI.out.br.below hb1)
        have HAT := Lib.hid (HI.out.at_.below hb1)
        have hld1 := fun op a next Q => loadW_blk (P := Tryd.prog) HBP.out Tryd.underlying35 rfl iszPt op a next Q
        have HL := Lib.hid (links_any HAT.out.1 p hpw HOKL.out)
        clear hb1 hld
        rcases hlm : linksM S p s1 with ⟨r | l, s2⟩
        · have hRe := HRE.out
          rw [M.bind_err hlm] at hRe
          rw [hlm] at HL
          have HRE2 := Lib.hid hRe
          clear hRe hlm
          go_wp2_with fail
          refine HL.out.mono ?_
          rintro e w2 ⟨⟨rfl, hr0⟩, hstep⟩
          have hr1 : ((r : Int) != 0) = true := by simpa using hr0
          obtain ⟨F2, hat, hfr, hm⟩ := HAT.out.step hstep
          have hsn := store_newA4 zs4 rfl w2
          have hbr := (hm.blk HBR.out HI.out.f1).alloc (.cells (encPs zs4).toArray 108)
          have hst := fun op a next Q => storeZPt hbr rfl op a next Q
          have HB2 := Lib.hid (hbr.put (vs := encPtr pD) rfl)
          have HA2 := Lib.hid ((hat.below ((Below.refl _ _).alloc (Nat.le_refl _) (.cells (encPs zs4).toArray 108))).put (o := 0) (vs := encPtr pD) (Nat.le_succ _) (hfr _ HBR.out.lt HI.out.f1))
          clear hat hfr hm hbr hstep hld1
          go_wp2_with fail
          refine bodyPost_ret (res_cell_tmp rfl _ _ (w.heap.size + 1) 35 _ _ rfl HB2.out Tryd.underlying35 rfl iszPt) rfl ?_
          rw [← HRE2.out]
          exact ⟨⟨rfl, hr0⟩, HA2.out.fin⟩
        · have hRe := HRE.out
          rw [M.bind_ok hlm] at hRe
          rw [hlm] at HL
          have HRE2 := Lib.hid hRe
          clear hRe hlm
          obtain ⟨g, m, r, hg, hm1, hr1, hg1, hg2, hm4, hrl⟩ : ∃ g m r : Nat, g = 4 ^ k ∧ m = j / 4 ^ k ∧ r = j % 4 ^ k ∧ 1 ≤ g ∧ g ≤ 64 ∧ m < 4 ∧ r < 4 ^ k := by
            have hlt := HI.out.lt
            rw [Nat.pow_succ] at hlt
            have hp2 : 4 ^ k ≤ 4 ^ 3 := Nat.pow_le_pow_right (by omega) (by omega)
            have hp1 : 0 < 4 ^ k := Nat.pow_pos (by omega)
            exact ⟨4 ^ k, j / 4 ^ k, j % 4 ^ k, rfl, rfl, rfl, hp1, by omega, Nat.div_lt_of_lt_mul (by omega), Nat.mod_lt _ hp1⟩
          have hq1 : ((j : Int) / (g : Int)) = (m : Int) := by rw [hm1, hg]; simp
          have hq2 : ((j : Int) % (g : Int)) = (r : Int) := by rw [hr1, hg]; simp
          have HG := Lib.hid hg
          have HM := Lib.hid hm1
          have HRR := Lib.hid hr1
          have HQ1 := Lib.hid hq1
          have HQ2 := Lib.hid hq2
          have HBE : Hid (∀ W, Calls Tryd.prog 44 #[.int .i64 ((k : Int) + 1)] W fun e w' => e = .returned (.int .i64 (g : Nat)) ∧ w' = W) := Lib.hid (fun W => by
            have := below_any (k + 1) W (by omega)
            rw [show k + 1 - 1 = k from rfl, ← hg, show (((k + 1 : Nat)) : Int) = (k : Int) + 1 by omega] at this
            exact this)
          have hj64 : j ≤ 256 := by
            have := HI.out.lt
            rw [Nat.pow_succ] at this
            omega
          clear hg hm1 hr1 hq1 hq2
          go_wp2_with fail
          refine HL.out.mono ?_
          rintro e w2 ⟨⟨rfl, hl4, hlw⟩, hstep⟩
          obtain ⟨F2, hat, hfr, hm⟩ := HAT.out.step hstep
          have hsn := store_newA4 l hl4 w2
          obtain ⟨w3, hw3⟩ : ∃ w3, w3 = w2.alloc (.cells (encPs l).toArray 108) := ⟨_, rfl⟩
          have hb23 : Below w2.heap.size w2 w3 := by rw [hw3]; exact (Below.refl _ _).alloc (Nat.le_refl _) _
          have hbl : Blk w3 w2.heap.size 108 (encPs l) := by rw [hw3]; exact Blk.new w2 _ _
          rw [← hw3] at hsn
          have hbp := (hm.blk HBP.out HI.out.f0).below hb23
          have hbr := (hm.blk HBR.out HI.out.f1).below hb23
          have hat3 := hat.below hb23
          have hf0 := hfr _ HBP.out.lt HI.out.f0
          have hf1 := hfr _ HBR.out.lt HI.out.f1
          have hmsz := Lib.hid hm.size
          have hmsz := Lib.hid hm.size
          have hmsz := Lib.hid hm.size
          have hmsz := Lib.hid hm.size
          have hmsz := Lib.hid hm.size
          clear hat hfr hm hstep hld1 hw3 hb23
          have HL4 := Lib.hid hl4
          have hml : m < l.length := by rw [hl4]; exact hm4
          have HML := Lib.hid hml
          have HS3 := Lib.hid hsn
          clear hl4 hml
          go_wp2_with fail
          have hw2 : w.heap.size ≠ w2.heap.size := by have := HBP.out.lt; have := hat3.size; have := hmsz.out; omega
          have HST := Lib.hid fun op a next Q => storeW_part (P := Tryd.prog) (t := 35) (o := 0) (cs := encPtr (l[m]'HML.out)) (hbp.drew) (Nat.le_refl 12) iszPt (encPtr_ones _) op a next Q
          have hw2 : w.heap.size ≠ w2.heap.size := by have := HBP.out.lt; have := hat3.size; have := hmsz.out; omega
          have HST := Lib.hid fun op a next Q => storeW_part (P := Tryd.prog) (t := 35) (o := 0) (cs := encPtr (l[m]'HML.out)) (hbp.drew) (Nat.le_refl 12) iszPt (encPtr_ones _) op a next Q
          have hw2 : w.heap.size ≠ w2.heap.size := by have := HBP.out.lt; have := hat3.size; have := hmsz.out; omega
          have HST := Lib.hid fun op a next Q => storeW_part (P := Tryd.prog) (t := 35) (o := 0) (cs := encPtr (l[m]'HML.out)) (hbp.drew) (Nat.le_refl 12) iszPt (encPtr_ones _) op a next Q
          have hw2 : w.heap.size ≠ w2.heap.size := by have := HBP.out.lt; have := hat3.size; have := hmsz.out; omega
          have HST := Lib.hid fun op a next Q => storeW_part (P := Tryd.prog) (t := 35) (o := 0) (cs := encPtr (l[m]'HML.out)) (hbp.drew) (Nat.le_refl 12) iszPt (encPtr_ones _) op a next Q
          have hw2 : w.heap.size ≠ w2.heap.size := by have := HBP.out.lt; have := hat3.size; have := hmsz.out; omega
          refine wp_region_held_drew (S := fun w' => Blk w' w2.heap.size 108 (encPs l)) (by kernel_rfl) hbl.drew (fun hS0 => ?_)
          refine wpAnyH_take (i := 0) (oi := ?oia0) (v := ?va0) ?hia0 ?hsa0 ?hfa0 ?hra0 ?hQa0 ?hya0 ?hSa0 ?ha0
          case hia0 => (simp only [List.getElem?_toArray, List.getElem?_cons_succ, List.getElem?_cons_zero]; rfl)
          case hsa0 => kernel_rfl
          case hfa0 => kernel_rfl
          case hra0 => kernel_rfl
          case hSa0 => assumption
          case hya0 => refine Or.inl ⟨by kernel_rfl, ?_⟩; (intro w hSw; (try dsimp only at hSw); go_simp; try with_reducible rfl)
          case hQa0 => exact fun _ _ _ h => h
          try simp only [Act.put, List.setIfInBounds_toArray, List.set_cons_zero, List.set_cons_succ]
          refine wpAnyH_take (i := 1) (oi := ?oia1) (v := ?va1) ?hia1 ?hsa1 ?hfa1 ?hra1 ?hQa1 ?hya1 ?hSa1 ?ha1
          case hia1 => (simp only [List.getElem?_toArray, List.getElem?_cons_succ, List.getElem?_cons_zero]; rfl)
          case hsa1 => kernel_rfl
          case hfa1 => kernel_rfl
          case hra1 => kernel_rfl
          case hSa1 => assumption
          case hya1 => refine Or.inl ⟨by kernel_rfl, ?_⟩; (intro w hSw; (try dsimp only at hSw); go_simp; try with_reducible rfl)
          case hQa1 => exact fun _ _ _ h => h
          try simp only [Act.put, List.setIfInBounds_toArray, List.set_cons_zero, List.set_cons_succ]
          refine wpAnyH_take (i := 6) (oi := ?oia6) (v := ?va6) ?hia6 ?hsa6 ?hfa6 ?hra6 ?hQa6 ?hya6 ?hSa6 ?ha6
          case hia6 => (simp only [List.getElem?_toArray, List.getElem?_cons_succ, List.getElem?_cons_zero]; rfl)
          case hsa6 => kernel_rfl
          case hfa6 => kernel_rfl
          case hra6 => kernel_rfl
          case hSa6 => assumption
          case hya6 => refine Or.inl ⟨by kernel_rfl, ?_⟩; (intro w hSw; (try dsimp only at hSw); go_simp; try with_reducible rfl)
          case hQa6 => exact fun _ _ _ h => h
          try simp only [Act.put, List.setIfInBounds_toArray, List.set_cons_zero, List.set_cons_succ]
          refine wpAnyH_take (i := 7) (oi := ?oia7) (v := ?va7) ?hia7 ?hsa7 ?hfa7 ?hra7 ?hQa7 ?hya7 ?hSa7 ?ha7
          case hia7 => (simp only [List.getElem?_toArray, List.getElem?_cons_succ, List.getElem?_cons_zero]; rfl)
          case hsa7 => kernel_rfl
          case hfa7 => kernel_rfl
          case hra7 => kernel_rfl
          case hSa7 => assumption
          case hya7 => refine Or.inl ⟨by kernel_rfl, ?_⟩; (intro w hSw; (try dsimp only at hSw); go_simp; try with_reducible rfl)
          case hQa7 => exact fun _ _ _ h => h
          try simp only [Act.put, List.setIfInBounds_toArray, List.set_cons_zero, List.set_cons_succ]
          refine wpAnyH_ready (rs := [2]) (by kernel_rfl) (by simp) ?_
          refine AllReadyH.cons rfl (fun K hK => ?_) AllReadyH.nil
          go_simp
          refine (HBE.out _).mono ?_
          rintro e w5 ⟨rfl, rfl⟩
          try dsimp only
          refine hK.out _ _ (by assumption) (fun hSa2 => ?_)
          try simp only [Act.put, List.setIfInBounds_toArray, List.set_cons_zero, List.set_cons_succ]
          refine wpAnyH_take (i := 3) (oi := ?oia3) (v := ?va3) ?hia3 ?hsa3 ?hfa3 ?hra3 ?hQa3 ?hya3 ?hSa3 ?ha3
          case hia3 => (simp only [List.getElem?_toArray, List.getElem?_cons_succ, List.getElem?_cons_zero]; rfl)
          case hsa3 => kernel_rfl
          case hfa3 => kernel_rfl
          case hra3 => kernel_rfl
          case hSa3 => assumption
          case hya3 => refine Or.inl ⟨by kernel_rfl, ?_⟩; (intro w hSw; (try dsimp only at hSw); go_simp; rw [HQ1.out, if_neg (by omega), IntWalk.i64_in _ (by omega)])
          case hQa3 => exact fun _ _ _ h => h
          try simp only [Act.put, List.setIfInBounds_toArray, List.set_cons_zero, List.set_cons_succ]
          refine wpAnyH_take (i := 4) (oi := ?oia4) (v := ?va4) ?hia4 ?hsa4 ?hfa4 ?hra4 ?hQa4 ?hya4 ?hSa4 ?ha4
          case hia4 => (simp only [List.getElem?_toArray, List.getElem?_cons_succ, List.getElem?_cons_zero]; rfl)
          case hsa4 => kernel_rfl
          case hfa4 => kernel_rfl
          case hra4 => kernel_rfl
          case hSa4 => assumption
          case hya4 => refine Or.inl ⟨by kernel_rfl, ?_⟩; (intro w hSw; (try dsimp only at hSw); go_simp; rw [if_pos (by omega)])
          case hQa4 => exact fun _ _ _ h => h
          try simp only [Act.put, List.setIfInBounds_toArray, List.set_cons_zero, List.set_cons_succ]
          refine wpAnyH_take (i := 5) (oi := ?oia5) (v := ?va5) ?hia5 ?hsa5 ?hfa5 ?hra5 ?hQa5 ?hya5 ?hSa5 ?ha5
          case hia5 => (simp only [List.getElem?_toArray, List.getElem?_cons_succ, List.getElem?_cons_zero]; rfl)
          case hsa5 => kernel_rfl
          case hfa5 => kernel_rfl
          case hra5 => kernel_rfl
          case hSa5 => assumption
          case hya5 => refine yieldsIf_load_mid (by kernel_rfl) 35 (.tmp 35) ?_ w2.heap.size (m * 12) ?_ (encPtr (l[m]'HML.out)) _ (fun w hw => range_ps hw HML.out) Tryd.underlying35 rfl iszPt <;> rfl
          case hQa5 => exact fun _ _ _ h => h
          try simp only [Act.put, List.setIfInBounds_toArray, List.set_cons_zero, List.set_cons_succ]
          refine wpAnyH_ready (rs := [8]) (by kernel_rfl) (by simp) ?_
          refine AllReadyH.cons rfl (fun K hK => ?_) AllReadyH.nil
          go_simp
          refine (HBE.out _).mono ?_
          rintro e w5 ⟨rfl, rfl⟩
          try dsimp only
          refine hK.out _ _ (by assumption) (fun hSa8 => ?_)
          try simp only [Act.put, List.setIfInBounds_toArray, List.set_cons_zero, List.set_cons_succ]
          refine wpAnyH_take (i := 9) (oi := ?oia9) (v := ?va9) ?hia9 ?hsa9 ?hfa9 ?hra9 ?hQa9 ?hya9 ?hSa9 ?ha9
          case hia9 => (simp only [List.getElem?_toArray, List.getElem?_cons_succ, List.getElem?_cons_zero]; rfl)
          case hsa9 => kernel_rfl
          case hfa9 => kernel_rfl
          case hra9 => kernel_rfl
          case hSa9 => assumption
          case hya9 => refine Or.inl ⟨by kernel_rfl, ?_⟩; (intro w hSw; (try dsimp only at hSw); go_simp; rw [if_neg (by omega), IntWalk.rem_in _ _ (by omega), HQ2.out])
          case hQa9 => exact fun _ _ _ h => h
          try simp only [Act.put, List.setIfInBounds_toArray, List.set_cons_zero, List.set_cons_succ]
          refine wpAnyH_ready (rs := [10]) (by kernel_rfl) (by simp) ?_
          refine AllReadyH.cons rfl (fun K hK => ?_) AllReadyH.nil
          rw [if_pos (by kernel_rfl)]
          refine wp_store_mid 35 (.tmp 5) (.tmp 36) rfl w.heap.size (0) (encPtr (l[m]'HML.out)).toArray rfl rfl (blk_there hbp.drew (Nat.le_refl 12)) iszPt (all_oneCell_toArray (encPtr_ones _)) ?_
          refine hK.out _ _ (Blk.away hS0 0 _ hw2.symm) (fun hSa10 => ?_)
          try simp only [Act.put, List.setIfInBounds_toArray, List.set_cons_zero, List.set_cons_succ]
          refine wpAnyH_take (i := 11) (oi := ?oia11) (v := ?va11) ?hia11 ?hsa11 ?hfa11 ?hra11 ?hQa11 ?hya11 ?hSa11 ?ha11
          case hia11 => (simp only [List.getElem?_toArray, List.getElem?_cons_succ, List.getElem?_cons_zero]; rfl)
          case hsa11 => kernel_rfl
          case hfa11 => kernel_rfl
          case hra11 => kernel_rfl
          case hSa11 => assumption
          case hya11 => refine Or.inl ⟨by kernel_rfl, ?_⟩; (intro w hSw; (try dsimp only at hSw); go_simp; try with_reducible rfl)
          case hQa11 => exact fun _ _ _ h => h
          try simp only [Act.put, List.setIfInBounds_toArray, List.set_cons_zero, List.set_cons_succ]
          refine wpAnyH_done (by kernel_rfl) ?_ _
          go_wp2_with fail
          go_roundw
          case rel =>
            have hRe := HRE2.out
            rw [← HM.out, ← HRR.out, List.getD_eq_getElem?_getD, List.getElem?_eq_getElem HML.out] at hRe
            exact ⟨k, r, _, s2, F2, rfl, rfl, by omega, Lib.hid ⟨by omega, hrl, hlw _ (List.getElem_mem HML.out), hRe, (hat3.below (Below.refl _ _).drew).put (Nat.le_refl _) hf0, hbp.drew.put rfl, hbr.drew.away 0 _ (by omega), hf0, hf1⟩⟩
          case measure => simp [intOf]
end
end Go.Proofs.YtbhofablndjeoaaDoor
