/- The walk of the statement VisitMeets. -/
import Derived.Test.YtbkknpodipapoaaVsNx
import Derived.Test.YtbkknpodipapoaaVsWl
import Derived.Deep.RegionWith
namespace Go.Proofs.Ytbkknpodipapoaa
open Go.RowKit
set_option linter.unusedSimpArgs false
attribute [local go_sem ↓] Go.wp_at_zero Go.wp_at_succ
attribute [local go_sem ↓] wp_loadP wp_storeP quiet_loadP

/-- the mark behind which the k-th step asks -/
def mkL (T : List PtrT) : Nat → MarkT
  | 0 => ⟨0, 0, 0⟩
  | k + 1 => markOf (T.getD k pD)
theorem filter_gt : ∀ (T : List PtrT) (k : Nat), T.Pairwise (fun p q => ltM (markOf p) (markOf q)) → k < T.length → T.filter (fun p => decide (ltM (markOf (T.getD k pD)) (markOf p))) = T.drop (k + 1)
  | [], k, _, h => by simp at h
  | a :: r, 0, hp, _ => by
    have h := List.pairwise_cons.1 hp
    show List.filter (fun p => decide (ltM (markOf a) (markOf p))) (a :: r) = r
    rw [List.filter_cons_of_neg (by simpa using ltM_irrefl _)]
    exact List.filter_eq_self.2 fun x hx => by simpa using h.1 x hx
  | a :: r, k + 1, hp, hk => by
    have h := List.pairwise_cons.1 hp
    have hk' : k < r.length := by simpa using hk
    have hm : r.getD k pD ∈ r := by rw [List.getD_eq_getElem?_getD, List.getElem?_eq_getElem hk']; exact List.getElem_mem hk'
    show List.filter (fun p => decide (ltM (markOf (r.getD k pD)) (markOf p))) (a :: r) = r.drop (k + 1)
    rw [List.filter_cons_of_neg (by simpa using ltM_asymm (h.1 _ hm))]
    exact filter_gt r k h.2 hk'
theorem rangeL_sorted (l : List PtrT) (f t : Int) : (rangeL l f t).Pairwise (fun p q => ltM (markOf p) (markOf q)) := (ordL_is l).sorted.filter _
theorem rangeL_len (l : List PtrT) (f t : Int) : (rangeL l f t).length ≤ l.length := Nat.le_trans (List.length_filter_le _ _) (ordL_length l)
theorem thrL_drop (l : List PtrT) (f t : Int) : ∀ k : Nat, k ≤ (rangeL l f t).length → thrL l (mkL (rangeL l f t) k) f t = (rangeL l f t).drop k
  | 0, _ => by
    show thrL l ⟨0, 0, 0⟩ f t = rangeL l f t
    refine List.filter_congr fun p _ => ?_
    cases hh : hasR f t p.birth with
    | false => simp
    | true =>
      have h1 : ltM ⟨0, 0, 0⟩ (markOf p) := by
        unfold hasR at hh
        simp only [decide_eq_true_eq] at hh
        exact .inl (by show (0 : Int) < p.birth; omega)
      simp [h1]
  | k + 1, hk => by
    rw [← filter_gt _ k (rangeL_sorted l f t) hk]
    unfold thrL rangeL
    rw [List.filter_filter]
    rfl
theorem nextL_k (l : List PtrT) (f t : Int) {k : Nat} (hk : k ≤ (rangeL l f t).length) : nextL l (mkL (rangeL l f t) k) f t = ((rangeL l f t).getD k pD, decide (k < (rangeL l f t).length)) := by
  unfold nextL
  rw [thrL_drop l f t k hk]
  by_cases h : k < (rangeL l f t).length
  · rw [List.drop_eq_getElem_cons h, List.getD_eq_getElem?_getD, List.getElem?_eq_getElem h, decide_eq_true h]
    rfl
  · rw [List.drop_eq_nil_of_le (by omega), List.getD_eq_getElem?_getD, List.getElem?_eq_none (by omega), decide_eq_false h]
    rfl
theorem step_k (l : List PtrT) (f t : Int) {k : Nat} (hk : k < (rangeL l f t).length) : ltM (mkL (rangeL l f t) k) (markOf ((rangeL l f t).getD k pD)) ∧ hasR f t ((rangeL l f t).getD k pD).birth = true := by
  have hm : (rangeL l f t).getD k pD ∈ thrL l (mkL (rangeL l f t) k) f t := by
    rw [thrL_drop l f t k (by omega), List.drop_eq_getElem_cons hk, List.getD_eq_getElem?_getD, List.getElem?_eq_getElem hk]
    exact List.mem_cons_self ..
  have h := (List.mem_filter.1 hm).2
  simpa using h
set_option maxRecDepth 100000 in
set_option maxHeartbeats 3200000 in
theorem visitmeets_any (ao : Option Addr) (n cap : Nat) (l : List PtrT) (f t : Int) (w : World) (h : QSl w ao n cap l) :
    Calls Try.prog 6 #[.slice ao n cap, .agg #[.int .i64 f, .int .i64 t]] w fun e w' => e = .returned (.bool true) ∧ Below w.heap.size w w' := by
  have hmx := BW.mx h.1
  have H := Lib.hid h.1
  have HL := Lib.hid h.1.len
  have HA := Lib.hid (fun W => awake22_any W)
  have B0 := Lib.hid ((Below.refl w.heap.size w).alloc (Nat.le_refl _) (.cells #[.int .i64 f, .int .i64 t] 42))
  have K0 : Hid (Blk (w.alloc (.cells #[.int .i64 f, .int .i64 t] 42)) w.heap.size 42 [.int .i64 f, .int .i64 t]) := Lib.hid (Blk.new _ _ _)
  clear h
  by_cases hn60 : 60 < n
  · have hd1 : decide ((60 : Int) < (n : Int)) = true := by simp; omega
    go_enter Try.func6, Try.ntmps6
    go_wp2_with fail
    refine (HA.out _).mono ?_
    rintro e w1 ⟨rfl, hb1⟩
    have B1 := Lib.hid (B0.out.trans (hb1.mono B0.out.size))
    clear hb1
    go_wp2_with fail
    refine (HA.out _).mono ?_
    rintro e w2 ⟨rfl, hb2⟩
    have B2 := Lib.hid (B1.out.trans (hb2.mono B1.out.size))
    clear hb2
    go_wp2_with fail
    go_ret
    exact ⟨rfl, B2.out⟩
  · have hd1 : decide ((60 : Int) < (n : Int)) = false := by simp; omega
    have hn : n ≤ 60 := by omega
    clear hn60
    obtain ⟨T, hT⟩ : ∃ T, T = rangeL l f t := ⟨_, rfl⟩
    have HTL : Hid (T.length ≤ n) := Lib.hid (by rw [hT, ← HL.out]; exact rangeL_len l f t)
    have HNK : Hid (∀ k, k ≤ T.length → nextL l (mkL T k) f t = (T.getD k pD, decide (k < T.length))) := Lib.hid (by rw [hT]; exact fun k hk => nextL_k l f t hk)
    have HSK : Hid (∀ k, k < T.length → ltM (mkL T k) (markOf (T.getD k pD)) ∧ hasR f t (T.getD k pD).birth = true) := Lib.hid (by rw [hT]; exact fun k hk => step_k l f t hk)
    have HCT : Hid (∀ W, PSl W ao n cap l → Calls Try.prog 17 #[.slice ao n cap, .agg #[.int .i64 f, .int .i64 t]] W fun e w' => e = .returned (.int .i64 (T.length : Nat)) ∧ Below W.heap.size W w') := Lib.hid (by rw [hT]; exact fun W hp => count_any ao n cap l f t W hp (by omega))
    have HNX : Hid (∀ mb mg ma W, PSl W ao n cap l → Calls Try.prog 15 #[.slice ao n cap, .agg #[.int .i64 mb, .int .i64 mg, .int .i64 ma], .agg #[.int .i64 f, .int .i64 t]] W fun e w' => e = .returned (.tuple #[.agg (encPtr (nextL l ⟨mb, mg, ma⟩ f t).1).toArray, .bool (nextL l ⟨mb, mg, ma⟩ f t).2]) ∧ Below W.heap.size W w') := Lib.hid (fun mb mg ma W hp => next_any ao n cap l ⟨mb, mg, ma⟩ f t W hp (by omega))
    clear hT
    go_enter Try.func6, Try.ntmps6
    go_wp2_with fail
    refine (HA.out _).mono ?_
    rintro e w1 ⟨rfl, hb1⟩
    have B1 := Lib.hid (B0.out.trans (hb1.mono B0.out.size))
    have K1 := Lib.hid (K0.out.below hb1)
    have M0 : Hid (Blk (w1.alloc (.cells #[.int .i64 0, .int .i64 0, .int .i64 0] 34)) w1.heap.size 34 (encM (mkL T 0))) := Lib.hid (Blk.new _ _ _)
    have BA := Lib.hid ((Below.refl w1.heap.size w1).alloc (Nat.le_refl _) (.cells #[.int .i64 0, .int .i64 0, .int .i64 0] 34))
    have B2 := Lib.hid (B1.out.trans (BA.out.mono B1.out.size))
    have K2 := Lib.hid (K1.out.below BA.out)
    have hlt1 := B1.out.size
    have HC := Lib.hid K1.out.lt
    clear hb1
    go_wp2_with fail
    go_loopw [6, 7, 8] (fun un ul i wr => ∃ k : Nat, k ≤ T.length ∧ un = .int .i64 (k : Nat) ∧ ul = .int .i64 (mkL T k).b ∧ i = .int .i64 (k : Nat) ∧ Hid (Blk wr w1.heap.size 34 (encM (mkL T k))) ∧ Hid (Blk wr w.heap.size 42 [.int .i64 f, .int .i64 t]) ∧ Hid (Below w.heap.size w wr)) (fun _ _ i _ => n + 1 - (intOf i).toNat)
    case atStart => exact ⟨0, by omega, rfl, rfl, rfl, M0, K2, B2⟩
    case round =>
      obtain ⟨k, hk, rfl, rfl, rfl, HM, HK, HB⟩ := hrel
      clear M0 K2 B2 K1 B0 K0 BA hlt1
      have hkn : k ≤ n := Nat.le_trans hk HTL.out
      obtain ⟨⟨mb, mg, ma⟩, hM⟩ : ∃ M, M = mkL T k := ⟨_, rfl⟩
      have HME := Lib.hid hM
      rw [← hM] at HM ⊢
      have hN := HNK.out k hk
      rw [← hM] at hN
      have HX := Lib.hid (HNX.out mb mg ma)
      rw [hN] at HX
      clear hN hM
      have m0 : wr.cell? ⟨w1.heap.size, 0, none⟩ = some (.int .i64 mb) := HM.out.cell 0
      have m1 : wr.cell? ⟨w1.heap.size, 1, none⟩ = some (.int .i64 mg) := HM.out.cell 1
      have m2 : wr.cell? ⟨w1.heap.size, 2, none⟩ = some (.int .i64 ma) := HM.out.cell 2
      have r0 : wr.cell? ⟨w.heap.size, 0, none⟩ = some (.int .i64 f) := HK.out.cell 0
      have r1 : wr.cell? ⟨w.heap.size, 1, none⟩ = some (.int .i64 t) := HK.out.cell 1
      have hmlt := Lib.hid HM.out.lt
      by_cases hkT : k < T.length
      · rw [decide_eq_true hkT] at HX
        obtain ⟨x, hx⟩ : ∃ x, x = T.getD k pD := ⟨_, rfl⟩
        have HS := Lib.hid (HSK.out k hkT)
        have HXE := Lib.hid hx
        rw [← hx, ← HME.out] at HS
        rw [← hx] at HX
        clear hx
        go_wp2_with fail
        refine (HX.out _ (H.out.below HB.out)).mono ?_
        rintro e wn ⟨rfl, hbn⟩
        have s1 := store_new wn x
        obtain ⟨wa, hwa⟩ : ∃ wa, wa = wn.alloc (.cells (encPtr x).toArray 30) := ⟨_, rfl⟩
        have BA := Lib.hid ((Below.refl wn.heap.size wn).alloc (Nat.le_refl _) (.cells (encPtr x).toArray 30))
        have BX : Hid (Blk (wn.alloc (.cells (encPtr x).toArray 30)) wn.heap.size 30 (encPtr x)) := Lib.hid (Blk.new _ _ _)
        have BM := Lib.hid ((HM.out.below hbn).below BA.out)
        have BK := Lib.hid ((HK.out.below hbn).below BA.out)
        have BB := Lib.hid ((HB.out.trans (hbn.mono HB.out.size)).trans (BA.out.mono (HB.out.trans (hbn.mono HB.out.size)).size))
        rw [← hwa] at BA BX BM BK BB
        have HWA := Lib.hid hwa
        clear hwa m0 m1 m2 r0 r1 HX HM HK HB hbn
        go_wp2_with fail
        rw [← HWA.out]
        clear s1
        have HOF := Lib.hid (fun W => of_any x W)
        have HBH := Lib.hid (fun W => behind_any (markOf x) ⟨mb, mg, ma⟩ W)
        have HHS : Hid (∀ W, Calls Try.prog 16 #[.int .i64 f, .int .i64 t, .int .i64 x.birth] W fun e w' => e = .returned (.bool true) ∧ Below W.heap.size W w') := Lib.hid (fun W => (r19has_any f t x.birth W).mono fun e w' ⟨h1, h2⟩ => ⟨by rw [h1, HS.out.2], by rw [h2]; exact Below.refl _ _⟩)
        rw [decide_eq_true HS.out.1] at HBH
        have hnb : decide (x.birth < mb) = false := decide_eq_false (fun hc => by
          rcases HS.out.1 with h1 | ⟨h1, _⟩
          · have : mb < x.birth := h1
            omega
          · have : mb = x.birth := h1
            omega)
        have lx := box_read BX.out
        have x7 : ∀ q : BW wa, q.w.cell? ⟨wn.heap.size, 7, none⟩ = some (.int .i64 x.birth) := fun q => q.cell (BX.out.cell 7)
        have m0 : ∀ q : BW wa, q.w.cell? ⟨w1.heap.size, 0, none⟩ = some (.int .i64 mb) := fun q => q.cell (BM.out.cell 0)
        have m1 : ∀ q : BW wa, q.w.cell? ⟨w1.heap.size, 1, none⟩ = some (.int .i64 mg) := fun q => q.cell (BM.out.cell 1)
        have m2 : ∀ q : BW wa, q.w.cell? ⟨w1.heap.size, 2, none⟩ = some (.int .i64 ma) := fun q => q.cell (BM.out.cell 2)
        have r0 : ∀ q : BW wa, q.w.cell? ⟨w.heap.size, 0, none⟩ = some (.int .i64 f) := fun q => q.cell (BK.out.cell 0)
        have r1 : ∀ q : BW wa, q.w.cell? ⟨w.heap.size, 1, none⟩ = some (.int .i64 t) := fun q => q.cell (BK.out.cell 1)
        refine wp_region_below (by kernel_rfl) (by kernel_rfl) ?_
        repeat (go_big_quiet_step (first | (go_at_call_of 11 x; refine Calls.bw_of (HOF.out _)) | (go_at_call_of 12 x; refine Calls.bw_of (HBH.out _)) | (go_at_call_of 16 f; refine Calls.bw_of (HHS.out _))))
        refine wpQuiet_nil ?_
        rintro _ ⟨q, rfl⟩
        have BX2 := Lib.hid (BX.out.below q.bel)
        have BM2 := Lib.hid (BM.out.below q.bel)
        have BK2 := Lib.hid (BK.out.below q.bel)
        have BB2 := Lib.hid (BB.out.trans (q.bel.mono BB.out.size))
        obtain ⟨wq, hwq⟩ : ∃ wq, wq = q.w := ⟨_, rfl⟩
        have l2 := load_ptr (range0 BX2.out)
        have y7 : wq.cell? ⟨wn.heap.size, 7, none⟩ = some (.int .i64 x.birth) := by rw [hwq]; exact x7 q
        rw [← hwq] at BM2 BK2 BB2 l2
        rw [← hwq]
        have HO2 : Hid (∀ W, Calls Try.prog 11 #[.agg (encPtr x).toArray] W fun e w' => e = .returned (.agg #[.int .i64 x.birth, .int .i64 x.ag, .int .i64 x.aa]) ∧ Below W.heap.size W w') := HOF
        have HTL2 := HTL.out
        clear lx x7 m0 m1 m2 r0 r1 HOF HBH HHS BX2 hwq BX BM BK BB BA
        go_wp2_with fail
        refine (HO2.out _).mono ?_
        rintro e w3 ⟨rfl, hb3⟩
        have M3 := BM2.out.below hb3
        have K3 := Lib.hid (BK2.out.below hb3)
        have B3 := Lib.hid (BB2.out.trans (hb3.mono BB2.out.size))
        have c0 : w3.cell? ⟨w1.heap.size, 0, none⟩ = some (.int .i64 mb) := M3.cell 0
        have c1 : w3.cell? ⟨w1.heap.size, 1, none⟩ = some (.int .i64 mg) := M3.cell 1
        have c2 : w3.cell? ⟨w1.heap.size, 2, none⟩ = some (.int .i64 ma) := M3.cell 2
        have f0 := M3.frozen 0
        have f1 := M3.frozen 1
        have f2 := M3.frozen 2
        have HM3 := Lib.hid M3
        clear hb3 l2 y7 M3
        go_wp2_with fail
        go_roundw
        case rel =>
          have hx1 := HXE.out
          refine ⟨k + 1, by omega, by go_num, ?_, by go_num, ?_, ?_, ?_⟩
          · show _ = Value.int .i64 (T.getD k pD).birth
            rw [← hx1]
          · show Hid (Blk _ _ _ (encM (markOf (T.getD k pD))))
            rw [← hx1]
            exact Lib.hid (((HM3.out.setCell 0 _).setCell 1 _).setCell 2 _)
          · exact Lib.hid (((K3.out.other (a := ⟨w1.heap.size, 0, none⟩) (Nat.ne_of_lt HC.out) _).other (a := ⟨w1.heap.size, 1, none⟩) (Nat.ne_of_lt HC.out) _).other (a := ⟨w1.heap.size, 2, none⟩) (Nat.ne_of_lt HC.out) _)
          · exact Lib.hid (((B3.out.setCell (p := ⟨w1.heap.size, 0, none⟩) (Nat.le_of_lt HC.out) _).setCell (p := ⟨w1.heap.size, 1, none⟩) (Nat.le_of_lt HC.out) _).setCell (p := ⟨w1.heap.size, 2, none⟩) (Nat.le_of_lt HC.out) _)
        case measure => simp [intOf]; omega
      · rw [decide_eq_false hkT] at HX
        obtain rfl : k = T.length := by omega
        go_wp2_with fail
        refine (HX.out _ (H.out.below HB.out)).mono ?_
        rintro e wn ⟨rfl, hbn⟩
        have hgd : T.getD T.length pD = pD := by rw [List.getD_eq_getElem?_getD, List.getElem?_eq_none (Nat.le_refl _)]; rfl
        rw [hgd]
        have s1 := store_new wn pD
        have BA := Lib.hid ((Below.refl wn.heap.size wn).alloc (Nat.le_refl _) (.cells (encPtr pD).toArray 30))
        have BM := Lib.hid ((HM.out.below hbn).below BA.out)
        have BK := Lib.hid ((HK.out.below hbn).below BA.out)
        have BN := Lib.hid (HB.out.trans (hbn.mono HB.out.size))
        have BB := Lib.hid (BN.out.trans (BA.out.mono BN.out.size))
        obtain ⟨wa, hwa⟩ : ∃ wa, wa = wn.alloc (.cells (encPtr pD).toArray 30) := ⟨_, rfl⟩
        rw [← hwa] at BM BK BB s1
        have m0 : wa.cell? ⟨w1.heap.size, 0, none⟩ = some (.int .i64 mb) := BM.out.cell 0
        have m1 : wa.cell? ⟨w1.heap.size, 1, none⟩ = some (.int .i64 mg) := BM.out.cell 1
        have m2 : wa.cell? ⟨w1.heap.size, 2, none⟩ = some (.int .i64 ma) := BM.out.cell 2
        have r0 : wa.cell? ⟨w.heap.size, 0, none⟩ = some (.int .i64 f) := BK.out.cell 0
        have r1 : wa.cell? ⟨w.heap.size, 1, none⟩ = some (.int .i64 t) := BK.out.cell 1
        clear HM HK HB hbn BA hwa
        go_wp2_with fail
        refine (HX.out _ (H.out.below BB.out)).mono ?_
        rintro e wn2 ⟨rfl, hbn⟩
        rw [hgd]
        have s2 := store_new wn2 pD
        have BA := Lib.hid ((Below.refl wn2.heap.size wn2).alloc (Nat.le_refl _) (.cells (encPtr pD).toArray 30))
        have BK2 := Lib.hid ((BK.out.below hbn).below BA.out)
        have BN2 := Lib.hid (BB.out.trans (hbn.mono BB.out.size))
        have BB2 := Lib.hid (BN2.out.trans (BA.out.mono BN2.out.size))
        obtain ⟨wa2, hwa⟩ : ∃ wa, wa = wn2.alloc (.cells (encPtr pD).toArray 30) := ⟨_, rfl⟩
        rw [← hwa] at BK2 BB2 s2
        have q0 : wa2.cell? ⟨w.heap.size, 0, none⟩ = some (.int .i64 f) := BK2.out.cell 0
        have q1 : wa2.cell? ⟨w.heap.size, 1, none⟩ = some (.int .i64 t) := BK2.out.cell 1
        clear hbn BA hwa s1 m0 m1 m2 r0 r1
        go_wp2_with fail
        refine (HCT.out _ (H.out.below BB2.out)).mono ?_
        rintro e w5 ⟨rfl, hb5⟩
        have B5 := Lib.hid (BB2.out.trans (hb5.mono BB2.out.size))
        clear hb5
        go_wp2_with fail
        go_ret
        exact ⟨rfl, B5.out⟩
end Go.Proofs.Ytbkknpodipapoaa
