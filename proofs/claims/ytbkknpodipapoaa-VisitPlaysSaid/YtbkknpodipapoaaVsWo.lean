/- The walks of visit.Without and visit.Dead. -/
import Derived.Test.YtbkknpodipapoaaVsMp
import Derived.Test.YtbkknpodipapoaaVsN
namespace Go.Proofs.Ytbkknpodipapoaa
open Go.RowKit
set_option linter.unusedSimpArgs false
attribute [local go_sem ↓] Go.wp_at_zero Go.wp_at_succ
attribute [local go_sem ↓] wp_loadP wp_storeP quiet_loadP quiet_lookM

/-- is a mark among blocks? -/
def memM (lo : List PtrT) (m : MarkT) : Bool := lo.any fun q => decide (markOf q = m)
/-- blocks in order that aren't among others -/
def withoutL (l lo : List PtrT) : List PtrT := (ordL l).filter fun p => !memM lo (markOf p)
theorem memM_iff (lo : List PtrT) (m : MarkT) : memM lo m = true ↔ ∃ q ∈ lo, markOf q = m := by simp [memM]
theorem map_getD_range (L : List PtrT) : (List.range L.length).map (fun k => L.getD k pD) = L := by
  apply List.ext_getElem?
  intro t
  by_cases ht : t < L.length
  · rw [List.getElem?_map, List.getElem?_range ht]
    simp [ht]
  · rw [List.getElem?_eq_none (by simp; omega), List.getElem?_eq_none (by omega)]
theorem keepL_filter (L : List PtrT) (f : PtrT → Bool) : keepL (fun k => L.getD k pD) (fun j => f (L.getD j pD)) L.length = L.filter fun x => !f x := by
  unfold keepL keepI
  show List.map _ (List.filter ((fun x => !f x) ∘ fun k => L.getD k pD) _) = _
  rw [← List.filter_map, map_getD_range]
theorem keepL_congr {E : Nat → PtrT} {p q : Nat → Bool} {n : Nat} (h : ∀ j, j < n → p j = q j) : keepL E p n = keepL E q n ∧ cntK p n = cntK q n := by
  have e : keepI p n = keepI q n := by
    unfold keepI
    refine List.filter_congr fun j hj => ?_
    rw [h j (List.mem_range.1 hj)]
  exact ⟨by unfold keepL; rw [e], by rw [← keepI_len, ← keepI_len, e]⟩
def zeroL : List Value := [.int .i64 0, .int .i64 0, .int .i64 0, .int .i64 0, .bool false, .int .i64 0, .int .i64 0, .int .i64 0, .int .u64 0, .int .u64 0, .int .u64 0, .int .u64 0]
/-- a new variable, to which a pointer is stored -/
theorem store_new (W : World) (p : PtrT) (op : Oper) (a : Act) (next : Act → World → Prop) (Q : Exit → Act → World → Prop) :
    StoreW Try.prog op 30 (.pointer (some ⟨W.heap.size, 0, none⟩)) (.agg (encPtr p).toArray) a (W.alloc (.cells #[.int .i64 0, .int .i64 0, .int .i64 0, .int .i64 0, .bool false, .int .i64 0, .int .i64 0, .int .i64 0, .int .u64 0, .int .u64 0, .int .u64 0, .int .u64 0] 30)) next Q =
      next (a.put op.dst undef) (W.alloc (.cells (encPtr p).toArray 30)) := by
  have s1 := store_ptr (w := W.alloc (.cells zeroL.toArray 30)) (g := W.heap.size) (o := 0) p (fun i hi => by
    have hb := Blk.new W 30 zeroL
    refine ⟨?_, hb.frozen _⟩
    rw [hb.cell, Nat.zero_add]
    match i, hi with
    | 0, _ => rfl
    | 1, _ => rfl
    | 2, _ => rfl
    | 3, _ => rfl
    | 4, _ => rfl
    | 5, _ => rfl
    | 6, _ => rfl
    | 7, _ => rfl
    | 8, _ => rfl
    | 9, _ => rfl
    | 10, _ => rfl
    | 11, _ => rfl) op a next Q
  rw [setCells_alloc W _ _ _ (by rw [encPtr_length]; rfl)] at s1
  exact s1
theorem index_nil (fv : Value) (w : World) : Calls Try.prog 40 #[.slice none 0 0, fv] w fun e w' => e = .returned (.int .i64 (-1)) ∧ w' = w := by
  go_enter Try.func40, Try.ntmps40
  go_wp2_with fail
  refine wp_loop_rounds 1 ?_
  rw [rounds_succ]
  go_wp2_with fail
  go_ret
  exact ⟨rfl, rfl⟩
theorem delete_nil (fv : Value) (w : World) : Calls Try.prog 29 #[.slice none 0 0, fv] w fun e w' => e = .returned (.slice none 0 0) ∧ w' = w := by
  have HI := Lib.hid (index_nil fv w)
  go_enter Try.func29, Try.ntmps29
  go_wp2_with fail
  refine HI.out.mono ?_
  rintro e w1 ⟨rfl, rfl⟩
  go_wp2_with fail
  go_ret
  exact ⟨rfl, rfl⟩
/-- DeleteFunc at a row of one's own, nil or not -/
theorem deleteRow_any (F : Nat) (capt : Array Value) (f : PtrT → Bool) (L : List PtrT) (v : Value) (base : Nat) (w : World) (h : PRow w base v L) (hm : L.length ≤ 1000) (hF : ∀ args W, (callFunc F args).run Try.prog W = .ok (.enter F args) W)
    (hf : ∀ p W, w.grownBy W v.ownBlock → Calls Try.prog F (#[.agg (encPtr p).toArray] ++ capt) W fun e W' => e = .returned (.bool (f p)) ∧ Below W.heap.size W W') :
    Calls Try.prog 29 #[v, .func (.func F) #[] capt] w fun e w' => ∃ v', e = .returned v' ∧ PRow w' base v' (L.filter fun x => !f x) ∧ w.grownBy w' v.ownBlock := by
  rcases h.2 with ⟨rfl, h0⟩ | ⟨g, cap, cur, rfl, _⟩
  · have hl : L = [] := List.eq_nil_of_length_eq_zero h0
    subst hl
    refine (delete_nil _ w).mono ?_
    rintro e w' ⟨rfl, rfl⟩
    exact ⟨_, rfl, World.ownsRow_nil _ _ _ _, World.grownBy.refl _ _⟩
  · refine (deleteP_any F capt (fun j => f (L.getD j pD)) (fun k => L.getD k pD) base g L.length cap w (row_vrow rfl h) hm ⟨hF, fun j _ W hW => hf _ W hW⟩).mono ?_
    rintro e w' ⟨rfl, k1, k2⟩
    have hl := keepL_length (fun k => L.getD k pD) (fun j => f (L.getD j pD)) L.length
    rw [keepL_filter] at k1 hl
    rw [← hl] at k1 ⊢
    exact ⟨_, rfl, k1, k2⟩
set_option maxHeartbeats 800000 in
theorem wo1_any (p : PtrT) (cb g : Nat) (ks : List MarkT) (w : World) (hc : Blk w cb 63 [.map (some g)]) (hg : MapM w g ks) :
    Calls Try.prog 31 #[.agg (encPtr p).toArray, .pointer (some ⟨cb, 0, none⟩)] w fun e w' => e = .returned (.bool (decide (markOf p ∈ ks))) ∧ Below w.heap.size w w' := by
  have HOF := Lib.hid (fun W => of_any p W)
  have BA := Lib.hid ((Below.refl w.heap.size w).alloc (Nat.le_refl _) (.cells (encPtr p).toArray 30))
  have hX := Blk.new w 30 (encPtr p)
  have hC := hc.alloc (.cells (encPtr p).toArray 30)
  have hG := hg.below BA.out
  obtain ⟨w1, hw1⟩ : ∃ w1, w1 = w.alloc (.cells (encPtr p).toArray 30) := ⟨_, rfl⟩
  rw [← hw1] at hX hC hG BA
  have lx := box_read hX
  have lc : ∀ q : BW w1, q.w.cell? ⟨cb, 0, none⟩ = some (.map (some g)) := fun q => q.cell (hC.cell 0)
  have lk := fun (C : World → Prop) (q : BW w1) v => lookQ_mark hG (markOf p) C q v
  have HW1 := Lib.hid hw1
  clear hX hC hG hc hg hw1
  obtain ⟨d, hd⟩ : ∃ d, d = decide (markOf p ∈ ks) := ⟨_, rfl⟩
  rw [← hd] at lk ⊢
  clear hd
  go_enter Try.func31, Try.ntmps31
  go_wp2_with fail
  rw [← HW1.out]
  refine wp_region_below (by kernel_rfl) (by kernel_rfl) ?_
  repeat (go_big_quiet_step (refine Calls.bw_of (HOF.out _)))
  refine wpQuiet_nil ?_
  rintro _ ⟨q, rfl⟩
  have B1 := Lib.hid (BA.out.trans (q.bel.mono BA.out.size))
  go_wp2_with fail
  go_ret
  exact ⟨rfl, B1.out⟩
/-- the marks met so far -/
def metTo (lo : List PtrT) (k : Nat) (ks : List MarkT) : Prop := ∀ m, m ∈ ks ↔ ∃ j, j < k ∧ markOf (lo.getD j pD) = m
theorem metTo.step {lo : List PtrT} {k : Nat} {ks : List MarkT} (h : metTo lo k ks) : metTo lo (k + 1) (addM ks (markOf (lo.getD k pD))) := fun m => by
  rw [mem_addM, h m]
  constructor
  · rintro (⟨j, hj, e⟩ | e)
    · exact ⟨j, by omega, e⟩
    · exact ⟨k, by omega, e.symm⟩
  · rintro ⟨j, hj, e⟩
    by_cases hjk : j = k
    · right; rw [← e, hjk]
    · exact .inl ⟨j, by omega, e⟩
theorem metTo.all {lo : List PtrT} {ks : List MarkT} (h : metTo lo lo.length ks) (m : MarkT) : decide (m ∈ ks) = memM lo m := by
  rw [Bool.eq_iff_iff, decide_eq_true_eq, memM_iff, h m]
  constructor
  · rintro ⟨j, hj, e⟩
    refine ⟨lo.getD j pD, ?_, e⟩
    rw [List.getD_eq_getElem?_getD, List.getElem?_eq_getElem hj]
    exact List.getElem_mem hj
  · rintro ⟨q, hq, e⟩
    obtain ⟨j, hj, rfl⟩ := List.getElem_of_mem hq
    refine ⟨j, hj, ?_⟩
    rw [List.getD_eq_getElem?_getD, List.getElem?_eq_getElem hj]
    exact e
set_option maxRecDepth 100000 in
set_option maxHeartbeats 3200000 in
theorem without_any (ao bo : Option Addr) (n m cap cap' : Nat) (l lo : List PtrT) (w : World) (h : PSl w ao n cap l) (h' : PSl w bo m cap' lo) (hn : n ≤ 500) :
    Calls Try.prog 14 #[.slice ao n cap, .slice bo m cap'] w fun e w' => ∃ v, e = .returned v ∧ PRow w' w.heap.size v (withoutL l lo) ∧ Below w.heap.size w w' := by
  have hmx := BW.mx h'
  have HOF := Lib.hid (fun p W => of_any p W)
  have H := Lib.hid h
  have H' := Lib.hid h'
  have HL' := Lib.hid h'.len
  have M0 : Hid (MapM ((w.alloc (.map #[] 0)).alloc (.cells #[.map (some w.heap.size)] 63)) w.heap.size []) := Lib.hid ((MapM.new w).below ((Below.refl _ _).alloc (Nat.le_refl _) _))
  have C0 : Hid (Blk ((w.alloc (.map #[] 0)).alloc (.cells #[.map (some w.heap.size)] 63)) (w.heap.size + 1) 63 [.map (some w.heap.size)]) := Lib.hid (Blk.newAt _ _ (by simp))
  have B0 : Hid (Below w.heap.size w ((w.alloc (.map #[] 0)).alloc (.cells #[.map (some w.heap.size)] 63))) := Lib.hid (((Below.refl _ _).alloc (Nat.le_refl _) _).alloc (by simp) _)
  have S0 : Hid (w.heap.size + 2 ≤ ((w.alloc (.map #[] 0)).alloc (.cells #[.map (some w.heap.size)] 63)).heap.size) := Lib.hid (by simp)
  clear h h'
  have hmm := @run_makeMap Try.prog
  go_enter Try.func14, Try.ntmps14
  go_wp2_with fail
  go_loopw [11] (fun i wr => ∃ (k : Nat) (ks : List MarkT), k ≤ m ∧ i = .int .i64 (k : Nat) ∧ Hid (metTo lo k ks) ∧ Hid (MapM wr w.heap.size ks) ∧ Hid (Blk wr (w.heap.size + 1) 63 [.map (some w.heap.size)]) ∧ Hid (Below w.heap.size w wr) ∧ Hid (w.heap.size + 2 ≤ wr.heap.size)) (fun i _ => m - (intOf i).toNat)
  case atStart => exact ⟨0, [], by omega, rfl, Lib.hid (fun m => by simp), M0, C0, B0, S0⟩
  case round =>
    obtain ⟨k, ks, hk, rfl, HT, HM, HC, HB, HS⟩ := hrel
    clear M0 C0 B0 S0
    by_cases hkm : k < m
    · obtain ⟨b, off, rfl, hb, hr⟩ := (H'.out.below HB.out).read (by omega)
      have l1 := load_ptr (hr k hkm)
      have HT2 := Lib.hid HT.out.step
      obtain ⟨x, hx⟩ : ∃ x, x = lo.getD k pD := ⟨_, rfl⟩
      rw [← hx] at l1 HT2
      have s1 := store_new wr x
      have BA := Lib.hid ((Below.refl wr.heap.size wr).alloc (Nat.le_refl _) (.cells (encPtr x).toArray 30))
      have HMA := Lib.hid (HM.out.below BA.out)
      have HCA := Lib.hid (HC.out.below BA.out)
      have HX : Hid (Blk (wr.alloc (.cells (encPtr x).toArray 30)) wr.heap.size 30 (encPtr x)) := Lib.hid (Blk.new _ _ _)
      have HBA := Lib.hid (HB.out.trans (BA.out.mono HB.out.size))
      have HSA : Hid (w.heap.size + 2 ≤ wr.heap.size) := HS
      have hlt1 := HS.out
      clear hr hb hx
      go_wp2_with fail
      obtain ⟨wa, hwa⟩ : ∃ wa, wa = wr.alloc (.cells (encPtr x).toArray 30) := ⟨_, rfl⟩
      have hsz : wa.heap.size = wr.heap.size + 1 := by rw [hwa]; simp
      rw [← hwa] at HMA HCA HX HBA BA ⊢
      have HSZ := Lib.hid hsz
      have hne : some wr.heap.size ≠ some w.heap.size := fun e => by have := Option.some.inj e; omega
      clear hwa l1 s1 hsz
      refine wp_region_held_drew (S := fun w' => wa.grownBy w' (some w.heap.size)) (by kernel_rfl) (grown_drew _ _) (fun hS0 => ?_)
      refine wpAnyH_take (i := 0) (oi := ?oia0) (v := ?va0) ?hia0 ?hsa0 ?hfa0 ?hra0 ?hQa0 ?hya0 ?hSa0 ?ha0
      case hia0 => (simp only [List.getElem?_toArray, List.getElem?_cons_succ, List.getElem?_cons_zero]; rfl)
      case hsa0 => kernel_rfl
      case hfa0 => kernel_rfl
      case hra0 => kernel_rfl
      case hSa0 => assumption
      case hya0 => refine Or.inl ⟨by kernel_rfl, ?_⟩; (intro w' hSw; have c0 := World.grownBy.cell hSw (HCA.out.cell 0) (by simp); go_simp; try with_reducible rfl)
      case hQa0 => exact fun _ _ _ h => h
      try simp only [Act.put, List.setIfInBounds_toArray, List.set_cons_zero, List.set_cons_succ]
      refine wpAnyH_take (i := 1) (oi := ?oia1) (v := .agg (encPtr x).toArray) ?hia1 ?hsa1 ?hfa1 ?hra1 ?hQa1 ?hya1 ?hSa1 ?ha1
      case hia1 => (simp only [List.getElem?_toArray, List.getElem?_cons_succ, List.getElem?_cons_zero]; rfl)
      case hsa1 => kernel_rfl
      case hfa1 => kernel_rfl
      case hra1 => kernel_rfl
      case hSa1 => assumption
      case hya1 => exact yieldsIf_load_mid (by kernel_rfl) 30 (.tmp 7) rfl wr.heap.size 0 rfl (encPtr x) _ (fun w' hS j v hv => by rw [Nat.zero_add]; exact World.grownBy.cell hS ((HX.out.cell j).trans hv) hne) Try.underlying30 rfl infoSz
      case hQa1 => exact fun _ _ _ h => h
      try simp only [Act.put, List.setIfInBounds_toArray, List.set_cons_zero, List.set_cons_succ]
      refine wpAnyH_ready (rs := [2]) (by kernel_rfl) (by simp) ?_
      refine AllReadyH.cons (o := ?zo2) ?zh2 ?zk2 AllReadyH.nil
      case zh2 => (simp only [List.getElem?_toArray, List.getElem?_cons_succ, List.getElem?_cons_zero]; rfl)
      intro K hK
      go_simp
      refine (HOF.out x _).mono ?_
      rintro e w2 ⟨rfl, hb2⟩
      dsimp only
      have hg2 : wa.grownBy w2 (some w.heap.size) := grown_trans (grown_drew _ _) (grown_of_below hb2)
      refine hK.out _ _ hg2 (fun _ => ?_)
      try simp only [Act.put, List.setIfInBounds_toArray, List.set_cons_zero, List.set_cons_succ]
      clear hK
      clear K
      have HM2 := Lib.hid (HMA.out.below ((Below.refl _ _).drew.trans hb2))
      have HG2 := Lib.hid hg2
      have hsz2 := hb2.size
      clear hb2
      refine wpAnyH_ready (rs := [3]) (by kernel_rfl) (by simp) ?_
      refine AllReadyH.cons (o := ?zo3) ?zh3 ?zk3 AllReadyH.nil
      case zh3 => (simp only [List.getElem?_toArray, List.getElem?_cons_succ, List.getElem?_cons_zero]; rfl)
      intro K hK
      rw [if_pos (by kernel_rfl)]
      refine wp_addM (.tmp 15) (.tmp 17) (.const (.bool true)) rfl w.heap.size rfl (markOf x) rfl rfl ks HM2.out ?_
      refine hK.out _ _ (grown_trans HG2.out (putM_grown _ _ _)) (fun _ => ?_)
      try simp only [Act.put, List.setIfInBounds_toArray, List.set_cons_zero, List.set_cons_succ]
      clear hK
      clear K
      refine wpAnyH_done (by kernel_rfl) ?_ _
      have HG3 := Lib.hid (grown_trans HG2.out (putM_grown w2 w.heap.size (addM ks (markOf x))))
      have HM3 := Lib.hid (putM_is (ks' := addM ks (markOf x)) HM2.out)
      have HC3 : Hid (Blk (putM w2 w.heap.size (addM ks (markOf x))) (w.heap.size + 1) 63 [.map (some w.heap.size)]) := Lib.hid (by unfold Blk; rw [HG3.out.block _ HCA.out.lt (by simp)]; exact HCA.out)
      have HB3 := Lib.hid (Below.grown HBA.out HG3.out HBA.out.size (fun k hk => by cases hk; exact Nat.le_refl _))
      have HS3 : Hid (w.heap.size + 2 ≤ (putM w2 w.heap.size (addM ks (markOf x))).heap.size) := Lib.hid (by have := HG3.out.size; have := HSZ.out; omega)
      clear hS0
      go_wp2_with fail
      go_roundw
      case rel => exact ⟨k + 1, _, by omega, by go_num, HT2, HM3, HC3, HB3, HS3⟩
      case measure => simp [intOf]; omega
    · obtain rfl : k = m := by omega
      have HO := Lib.hid (vorder_any ao n cap l wr (H.out.below HB.out) hn)
      rw [← HL'.out] at HT
      have HT3 := Lib.hid HT.out.all
      go_wp2_with fail
      refine HO.out.mono ?_
      rintro e w1 ⟨v, rfl, hp, hb1⟩
      have HB1 := Lib.hid (HB.out.trans (hb1.mono HB.out.size))
      have HM1 := Lib.hid (HM.out.below hb1)
      have HC1 := Lib.hid (HC.out.below hb1)
      have hle : (ordL l).length ≤ 1000 := by have := ordL_length l; have := H.out.len; omega
      have hvl : ∀ g, v.ownBlock = some g → wr.heap.size ≤ g := fun g hg => (hp.lt g hg).1
      have hS := HS.out
      have hHC := HC.out.lt
      have HD := Lib.hid (deleteRow_any 31 #[.pointer (some ⟨w.heap.size + 1, 0, none⟩)] (fun x => memM lo (markOf x)) (ordL l) v wr.heap.size w1 hp hle (fun args W => by go_simp) (fun x W hW => by
        have hM : MapM W w.heap.size ks := by
          unfold MapM
          rw [hW.block _ HM1.out.lt (fun e => by have := hvl _ e.symm; omega)]
          exact HM1.out
        have hC : Blk W (w.heap.size + 1) 63 [.map (some w.heap.size)] := by
          unfold Blk
          rw [hW.block _ HC1.out.lt (fun e => by have := hvl _ e.symm; omega)]
          exact HC1.out
        have := wo1_any x (w.heap.size + 1) w.heap.size ks W hC hM
        rw [HT3.out] at this
        exact this))
      have HBF := Lib.hid (fun w' (hg : w1.grownBy w' v.ownBlock) => below_own (base := wr.heap.size) HB1.out hp hg HB1.out.size HB.out.size)
      clear hp hb1 HO hvl hHC hS
      go_wp2_with fail
      refine HD.out.mono ?_
      rintro e w2 ⟨v', rfl, hp2, hg2⟩
      have HP2 := Lib.hid (owns_weaken hp2 HB.out.size)
      have HB2 := Lib.hid (HBF.out w2 hg2)
      clear hp2 hg2
      go_wp2_with fail
      go_ret
      exact ⟨_, rfl, HP2.out, HB2.out⟩
end Go.Proofs.Ytbkknpodipapoaa
