/- polderref22.Order. -/
import Derived.Test.YtbkknpodipapoaaVsPb
import Derived.Test.YtbkknpodipapoaaVsDl
namespace Go.Proofs.Ytbkknpodipapoaa
open Go.RowKit
set_option linter.unusedSimpArgs false
attribute [local go_sem ↓] Go.wp_at_zero Go.wp_at_succ
attribute [local go_sem ↓] wp_loadP wp_storeP quiet_loadP wp_buildP

theorem headP_drop (T : List PtrT) (k : Nat) : headP (T.drop k) = (T.getD k pD, decide (k < T.length)) := by
  by_cases h : k < T.length
  · rw [List.drop_eq_getElem_cons h, List.getD_eq_getElem?_getD, List.getElem?_eq_getElem h, decide_eq_true h]
    rfl
  · rw [List.drop_eq_nil_of_le (by omega), List.getD_eq_getElem?_getD, List.getElem?_eq_none (by omega), decide_eq_false h]
    rfl
theorem cand_all (l : List PtrT) (m : MarkT) : headP ((ordL l).filter (candN true m)) = ((ordL l).getD 0 pD, decide (0 < (ordL l).length)) := by
  rw [← headP_drop, show (ordL l).filter (candN true m) = ordL l from List.filter_eq_self.2 (fun _ _ => rfl)]
  rfl
theorem cand_at (l : List PtrT) {k : Nat} (hk : k < (ordL l).length) : headP ((ordL l).filter (candN false (markOf ((ordL l).getD k pD)))) = ((ordL l).getD (k + 1) pD, decide (k + 1 < (ordL l).length)) := by
  rw [← headP_drop, ← filter_gt _ k (ordL_is l).sorted hk]
  congr 1
set_option maxRecDepth 100000 in
set_option maxHeartbeats 3200000 in
theorem rorder_any (ao : Option Addr) (n cap : Nat) (l : List PtrT) (w : World) (h : PSl w ao n cap l) (hn : n ≤ 500) :
    Calls Try.prog 18 #[.slice ao n cap] w fun e w' => ∃ v, e = .returned v ∧ PRow w' w.heap.size v (ordL l) ∧ Below w.heap.size w w' := by
  have HL := Lib.hid h.len
  have H := Lib.hid h
  clear h
  have HOF := Lib.hid (fun p W => rof_any p W)
  obtain ⟨T, hT⟩ : ∃ T, T = ordL l := ⟨_, rfl⟩
  have HN0 : Hid (∀ W, PSl W ao n cap l → Calls Try.prog 35 #[.slice ao n cap, .agg #[.int .i64 0, .int .i64 0, .int .i64 0], .bool true] W fun e w' => e = .returned (.tuple #[.agg (encPtr (T.getD 0 pD)).toArray, .bool (decide (0 < T.length))]) ∧ Below W.heap.size W w') := Lib.hid (fun W hp => (rnext_any ao n cap l ⟨0, 0, 0⟩ true W hp).mono fun e w' ⟨h1, h2⟩ => ⟨by rw [h1, cand_all, hT], h2⟩)
  have HNK : Hid (∀ k W, k < T.length → PSl W ao n cap l → Calls Try.prog 35 #[.slice ao n cap, .agg (encM (markOf (T.getD k pD))).toArray, .bool false] W fun e w' => e = .returned (.tuple #[.agg (encPtr (T.getD (k + 1) pD)).toArray, .bool (decide (k + 1 < T.length))]) ∧ Below W.heap.size W w') := Lib.hid (fun k W hk hp => by
    rw [hT] at hk ⊢
    exact (rnext_any ao n cap l (markOf ((ordL l).getD k pD)) false W hp).mono fun e w' ⟨h1, h2⟩ => ⟨by rw [h1, cand_at l hk], h2⟩)
  have HTL : Hid (T.length ≤ n) := Lib.hid (by rw [hT, ← HL.out]; exact ordL_length l)
  rw [← hT]
  clear hT
  go_enter Try.func18, Try.ntmps18
  go_wp2_with fail
  refine (HN0.out _ H.out).mono ?_
  rintro e w1 ⟨rfl, hb1⟩
  obtain ⟨x0, hx0⟩ : ∃ x, x = T.getD 0 pD := ⟨_, rfl⟩
  rw [← hx0]
  have s1 := store_new w1 x0
  have BA := Lib.hid ((Below.refl w1.heap.size w1).alloc (Nat.le_refl _) (.cells (encPtr x0).toArray 30))
  have B0 := Lib.hid (hb1.trans (BA.out.mono hb1.size))
  have X0 : Hid (Blk (w1.alloc (.cells (encPtr x0).toArray 30)) w1.heap.size 30 (encPtr (T.getD 0 pD))) := Lib.hid (by rw [← hx0]; exact Blk.new _ _ _)
  have R0 : Hid (PRow (w1.alloc (.cells (encPtr x0).toArray 30)) (w1.heap.size + 1) (.slice none 0 0) (T.take 0)) := Lib.hid (World.ownsRow_nil _ _ _ _)
  have S0 : Hid (w1.heap.size + 1 ≤ (w1.alloc (.cells (encPtr x0).toArray 30)).heap.size) := Lib.hid (by simp)
  have HW1 := Lib.hid hb1.size
  clear hb1 hx0 BA
  go_wp2_with fail
  clear s1
  go_loopw [3, 5, 6] (fun u ok i wr => ∃ (k : Nat) (v : Value) (d : Bool), k ≤ T.length ∧ Hid (i = .int .i64 (k : Nat)) ∧ Hid (v = u) ∧ Hid (ok = .bool d) ∧ Hid (d = decide (k < T.length)) ∧ Hid (PRow wr (w1.heap.size + 1) v (T.take k)) ∧ Hid (Blk wr w1.heap.size 30 (encPtr (T.getD k pD))) ∧ Hid (Below w.heap.size w wr) ∧ Hid (w1.heap.size + 1 ≤ wr.heap.size)) (fun _ _ i _ => n - (intOf i).toNat)
  case atStart => exact ⟨0, _, _, by omega, Lib.hid rfl, Lib.hid rfl, Lib.hid rfl, Lib.hid rfl, R0, X0, B0, S0⟩
  case round =>
    obtain ⟨k, v, d, hk, e1, e2, e3, HD, HR, HX, HB, HS⟩ := hrel
    obtain rfl := e1.out
    obtain rfl := e2.out
    obtain rfl := e3.out
    clear e1 e2 e3 R0 X0 B0 S0
    by_cases hkT : k < T.length
    · obtain rfl : d = true := by rw [HD.out]; exact decide_eq_true hkT
      have hkn : (k : Int) < (n : Int) := by have := HTL.out; omega
      obtain ⟨x, hx⟩ : ∃ x, x = T.getD k pD := ⟨_, rfl⟩
      have HXT := Lib.hid hx
      have HTK : Hid (T.take (k + 1) = T.take k ++ [x]) := Lib.hid (by rw [hx]; exact take_getD hkT)
      rw [← hx] at HX
      have l1 := load_ptr (range0 HX.out)
      have s1 := build_ptr wr x
      have hsz : (T.take k).length + [x].length ≤ 1000000 := by have := HTL.out; rw [List.length_take]; simp; omega
      have BA := Lib.hid ((Below.refl wr.heap.size wr).alloc (Nat.le_refl _) (.cells (encPtr x).toArray 30))
      have RA := Lib.hid (owns_below HR.out BA.out)
      have HBA := Lib.hid (HB.out.trans (BA.out.mono HB.out.size))
      have XA := Lib.hid (HX.out.below BA.out)
      have HNW := Lib.hid (rangeAt_single (Blk.new wr 30 (encPtr x)))
      have m3 := Nat.le_trans HS.out BA.out.size
      clear hx
      have HF := Lib.hid (fun w2 (hg : (wr.alloc (.cells (encPtr x).toArray 30)).grownBy w2 v.ownBlock) =>
        show Below w.heap.size w w2 ∧ Blk w2 w1.heap.size 30 (encPtr x) ∧ w1.heap.size + 1 ≤ w2.heap.size from
          ⟨below_own (base := w1.heap.size + 1) HBA.out RA.out hg (Nat.le_trans (Nat.le_trans HW1.out (by omega)) m3) (Nat.le_trans HW1.out (by omega)), (by
            unfold Blk
            rw [hg.block _ XA.out.lt (fun e => by have := (RA.out.lt _ e.symm).1; omega)]
            exact XA.out), Nat.le_trans m3 hg.size⟩)
      go_wp2_with (at_builtin; go_must (refine wpList_app_at rfl (.tmp 22) (.tmp 24) rfl (w1.heap.size + 1) v (T.take k) [x] rfl RA.out wr.heap.size 0 1 rfl HNW.out hsz m3 ?_; intro v3 w2 hown hgrow hloc; have l2 := load_ptr (range0 (HF.out w2 hgrow).2.1)))
      obtain ⟨hb2, hx2, hs2⟩ := HF.out w2 hgrow
      have R2 := Lib.hid hown
      have B2 := Lib.hid hb2
      have X2 := Lib.hid hx2
      have S2 := Lib.hid hs2
      rw [← HTK.out] at R2
      clear hown hgrow hloc l2 hb2 hx2 hs2 HF l1 s1 hsz RA XA HNW BA HBA
      refine (HOF.out x _).mono ?_
      rintro e w3 ⟨rfl, hb3⟩
      have B3 := Lib.hid (B2.out.trans (hb3.mono B2.out.size))
      have R3 := Lib.hid (owns_below R2.out hb3)
      have X3 := Lib.hid (X2.out.below hb3)
      have S3 := Lib.hid (Nat.le_trans S2.out hb3.size)
      have HNX := Lib.hid (HNK.out k w3 hkT (H.out.below B3.out))
      rw [← HXT.out] at HNX
      clear hb3 B2 R2 X2 S2
      go_wp2_with fail
      refine HNX.out.mono ?_
      rintro e w4 ⟨rfl, hb4⟩
      have B4 := Lib.hid (B3.out.trans (hb4.mono B3.out.size))
      have R4 := Lib.hid (owns_below R3.out hb4)
      have X4 := Lib.hid (X3.out.below hb4)
      have S4 := Lib.hid (Nat.le_trans S3.out hb4.size)
      obtain ⟨y, hy⟩ : ∃ y, y = T.getD (k + 1) pD := ⟨_, rfl⟩
      have HY := Lib.hid hy
      rw [← hy]
      have s2 := store_ptr y (X4.out.there rfl)
      obtain ⟨d2, hd2⟩ : ∃ d, d = decide (k + 1 < T.length) := ⟨_, rfl⟩
      have HD2 := Lib.hid hd2
      rw [← hd2]
      have X5 : Hid (Blk (w4.setCells w1.heap.size 0 (encPtr y)) w1.heap.size 30 (encPtr (T.getD (k + 1) pD))) := Lib.hid (by rw [← hy]; exact X4.out.setAll (vs := encPtr y) rfl)
      have hgr := setCells_grown w1.heap.size (encPtr y) w4 0
      have B5 := Lib.hid (B4.out.grown hgr B4.out.size (fun k e => by have := Option.some.inj e; have := HW1.out; omega))
      have R5 := Lib.hid (R4.out.kept hgr (by
        cases e : v3.ownBlock with
        | none => exact .inl rfl
        | some g => exact .inr (fun e2 => by have := (R4.out.lt g e).1; have := Option.some.inj e2; omega)))
      have S5 := Lib.hid (Nat.le_trans S4.out hgr.size)
      clear hb4 hy hd2 B3 R3 X3 S3 hgr R4 X4
      go_wp2_with fail
      go_roundw
      case rel => exact ⟨k + 1, v3, d2, by omega, Lib.hid (by go_num), Lib.hid rfl, Lib.hid rfl, HD2, R5, X5, B5, S5⟩
      case measure => simp [intOf]; omega
    · obtain rfl : d = false := by rw [HD.out]; exact decide_eq_false hkT
      have HRT : Hid (PRow wr w.heap.size v T) := Lib.hid (by
        have h := HR.out
        rw [List.take_of_length_le (by omega)] at h
        exact owns_weaken h (by have := HW1.out; omega))
      by_cases hkn : (k : Int) < (n : Int)
      · go_wp2_with fail
        go_ret
        exact ⟨_, rfl, HRT.out, HB.out⟩
      · go_wp2_with fail
        go_ret
        exact ⟨_, rfl, HRT.out, HB.out⟩
end Go.Proofs.Ytbkknpodipapoaa
