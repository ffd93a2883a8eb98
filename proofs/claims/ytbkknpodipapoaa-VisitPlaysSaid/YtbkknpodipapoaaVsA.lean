/- polderref22.Same, visit.Behind, awake. -/
import Derived.Test.YtbkknpodipapoaaBigE
namespace Go.Proofs.Ytbkknpodipapoaa
open Go.RowKit
set_option linter.unusedSimpArgs false
attribute [local go_sem ↓] Go.wp_at_zero Go.wp_at_succ
attribute [local go_sem ↓] wp_loadP wp_storeP quiet_loadP quiet_binP

theorem psl_of_row {w : World} {base : Nat} {v : Value} {l : List PtrT} (h : PRow w base v l) : ∃ ao cap, v = .slice ao l.length cap ∧ PSl w ao l.length cap l := by
  rcases h.2 with ⟨rfl, h0⟩ | ⟨g, cap, cur, rfl, _⟩
  · have hl : l = [] := List.eq_nil_of_length_eq_zero h0
    subst hl
    exact ⟨none, 0, rfl, RSl.nil w 12⟩
  · exact ⟨some ⟨g, 0, none⟩, cap, rfl, rsl_of_owns h⟩
theorem vorder_psl (ao : Option Addr) (n cap : Nat) (l : List PtrT) (w : World) (h : PSl w ao n cap l) (hm : n ≤ 500) :
    Calls Try.prog 9 #[.slice ao n cap] w fun e w' => ∃ ao' cap', e = .returned (.slice ao' (ordL l).length cap') ∧ PSl w' ao' (ordL l).length cap' (ordL l) ∧ Below w.heap.size w w' :=
  (vorder_any ao n cap l w h hm).mono fun e w' ⟨v, he, hr, hb⟩ => by
    obtain ⟨ao', cap', rfl, hp⟩ := psl_of_row hr
    exact ⟨ao', cap', he, hp, hb⟩
theorem PSl.read {w : World} {ao : Option Addr} {n cap : Nat} {l : List PtrT} (h : PSl w ao n cap l) (hn : 0 < n) : ∃ b off, ao = some ⟨b, off, none⟩ ∧ b < w.heap.size ∧ ∀ k, k < n → w.rangeAt b (off + k * 12) (encPtr (l.getD k pD)) := by
  obtain ⟨b, off, e, hb, hc⟩ := h.2.2.2.2 hn
  have hl := h.len
  refine ⟨b, off, e, hb, fun k hk j v hv => ?_⟩
  have hj : j < 12 := by have := (List.getElem?_eq_some_iff.1 hv).1; rwa [encPtr_length] at this
  rw [Nat.add_assoc, hc _ (by omega), encPs_get l k j (by omega) hj, hv]
theorem rangeAt_below {w w' : World} {b o : Nat} {cs : List Value} (h : w.rangeAt b o cs) (hb : b < w.heap.size) (hl : Below w.heap.size w w') : w'.rangeAt b o cs := fun j v hv => (hl.cell (p := ⟨b, o + j, none⟩) hb).trans (h j v hv)
theorem read_at {W : World} {b o : Nat} {p : PtrT} (h : W.rangeAt b o (encPtr p)) (hb : b < W.heap.size) (q : BW W) (C : World → Prop) (v : Value) : LoadQ Try.prog C 30 (.pointer (some ⟨b, o, none⟩)) q.w v = (Value.agg (encPtr p).toArray = v) :=
  loadQ_mid (rangeAt_below h hb q.bel) Try.underlying30 rfl infoSz C v
theorem BW.mx {w : World} {ao : Option Addr} {n cap : Nat} {l : List PtrT} (h : PSl w ao n cap l) : n ≤ 9223372036854775807 := by
  have h1 := h.2.1
  have h2 := h.2.2.1
  unfold maxLen at h2
  omega
set_option maxRecDepth 100000 in
set_option maxHeartbeats 1600000 in
theorem same_ps (ao bo : Option Addr) (n m cap cap' : Nat) (l l' : List PtrT) (w : World) (h : PSl w ao n cap l) (h' : PSl w bo m cap' l') :
    Calls Try.prog 10 #[.slice ao n cap, .slice bo m cap'] w fun e w' => e = .returned (.bool (decide (l = l'))) ∧ Below w.heap.size w w' := by
  have hmx := BW.mx h
  have hl := h.len
  have hl' := h'.len
  have H := Lib.hid h
  have H' := Lib.hid h'
  clear h h'
  by_cases hnm : n = m
  · subst hnm
    have HL := Lib.hid hl
    have HL' := Lib.hid hl'
    clear hl hl'
    go_enter Try.func10, Try.ntmps10
    go_wp2_with fail
    go_loopw [5] (fun i wr => ∃ k : Nat, k ≤ n ∧ i = .int .i64 (k : Nat) ∧ Hid (∀ j, j < k → l.getD j pD = l'.getD j pD) ∧ Hid (Below w.heap.size w wr)) (fun i _ => n - (intOf i).toNat)
    case atStart => exact ⟨0, by omega, rfl, Lib.hid fun j hj => absurd hj (by omega), Lib.hid (Below.refl _ _)⟩
    case round =>
      obtain ⟨k, hk, rfl, HN, HB⟩ := hrel
      by_cases hkn : k < n
      · obtain ⟨b, off, rfl, hb, hr⟩ := (H.out.below HB.out).read (by omega)
        obtain ⟨b', off', rfl, hb', hr'⟩ := (H'.out.below HB.out).read (by omega)
        have lx := read_at (hr k hkn) hb
        have ly := read_at (hr' k hkn) hb'
        have q0 := fun (C : World → Prop) x y (q : BW wr) v => binQ_neqP (l.getD k pD) (l'.getD k pD) C x y q.w v
        have HE : Hid (∀ d, d = decide (l.getD k pD = l'.getD k pD) → (d = true ↔ l.getD k pD = l'.getD k pD)) := Lib.hid (fun d hd => by rw [hd]; simp)
        obtain ⟨d, hd⟩ : ∃ d, d = decide (l.getD k pD = l'.getD k pD) := ⟨_, rfl⟩
        have HD := Lib.hid (HE.out d hd)
        rw [← hd] at q0
        obtain ⟨px, hpx⟩ : ∃ p, p = l.getD k pD := ⟨_, rfl⟩
        obtain ⟨py, hpy⟩ : ∃ p, p = l'.getD k pD := ⟨_, rfl⟩
        rw [← hpx] at lx q0
        rw [← hpy] at ly q0
        clear HE hd hr hr' hb hb' hpx hpy
        cases d with
        | true =>
          go_wp2_with fail
          refine wp_region_below (by kernel_rfl) (by kernel_rfl) ?_
          repeat (go_big_quiet_step (fail))
          refine wpQuiet_nil ?_
          rintro _ ⟨q, rfl⟩
          have B1 := Lib.hid (HB.out.trans (q.bel.mono HB.out.size))
          go_wp2_with fail
          go_roundw
          case rel => exact ⟨k + 1, by omega, by go_num, Lib.hid (fun j hj => by
            by_cases e : j = k
            · rw [e]; exact HD.out.1 (by simp)
            · exact HN.out j (by omega)), B1⟩
          case measure => simp [intOf]; omega
        | false =>
          have HV : Hid (false = decide (l = l')) := Lib.hid (by
            symm
            rw [decide_eq_false_iff_not]
            rintro rfl
            have := HD.out.2 rfl
            cases this)
          go_wp2_with fail
          refine wp_region_below (by kernel_rfl) (by kernel_rfl) ?_
          repeat (go_big_quiet_step (fail))
          refine wpQuiet_nil ?_
          rintro _ ⟨q, rfl⟩
          have B1 := Lib.hid (HB.out.trans (q.bel.mono HB.out.size))
          go_wp2_with fail
          go_ret
          exact ⟨ret_bool HV.out, B1.out⟩
      · obtain rfl : k = n := by omega
        have HV : Hid (true = decide (l = l')) := Lib.hid (by
          symm
          rw [decide_eq_true_eq]
          apply List.ext_getElem?
          intro j
          by_cases hj : j < k
          · have := HN.out j hj
            rw [List.getD_eq_getElem?_getD, List.getD_eq_getElem?_getD, List.getElem?_eq_getElem (by rw [HL.out]; exact hj), List.getElem?_eq_getElem (by rw [HL'.out]; exact hj)] at this
            rw [List.getElem?_eq_getElem (by rw [HL.out]; exact hj), List.getElem?_eq_getElem (by rw [HL'.out]; exact hj)]
            simpa using this
          · rw [List.getElem?_eq_none (by rw [HL.out]; omega), List.getElem?_eq_none (by rw [HL'.out]; omega)])
        go_wp2_with fail
        go_ret
        exact ⟨ret_bool HV.out, HB.out⟩
  · have HV : Hid (false = decide (l = l')) := Lib.hid (by
      symm
      rw [decide_eq_false_iff_not]
      rintro rfl
      omega)
    have hne : ¬ (n : Int) = (m : Int) := by omega
    clear hl hl'
    go_enter Try.func10, Try.ntmps10
    go_wp2_with fail
    go_ret
    exact ⟨ret_bool HV.out, Below.refl _ _⟩
theorem behind_any (m n : MarkT) (w : World) : Calls Try.prog 12 #[.agg (encM m).toArray, .agg (encM n).toArray] w fun e w' => e = .returned (.bool (decide (ltM n m))) ∧ Below w.heap.size w w' := by
  have HO := Lib.hid (fun W => order_any m n W)
  have HV : Hid (decide (0 < ordM m n) = decide (ltM n m)) := Lib.hid (by rw [decide_eq_decide]; exact ordM_pos)
  obtain ⟨r, hr⟩ : ∃ r, r = ordM m n := ⟨_, rfl⟩
  rw [← hr] at HO HV
  rw [← HV.out]
  clear HV hr
  obtain ⟨mb, mg, ma⟩ := m
  obtain ⟨nb, ng, na⟩ := n
  have HB : Hid (Below w.heap.size w ((w.alloc (.cells #[.int .i64 mb, .int .i64 mg, .int .i64 ma] 34)).alloc (.cells #[.int .i64 nb, .int .i64 ng, .int .i64 na] 34))) := Lib.hid (((Below.refl _ _).alloc (Nat.le_refl _) _).alloc (by simp) _)
  show Calls _ _ #[.agg #[.int .i64 mb, .int .i64 mg, .int .i64 ma], .agg #[.int .i64 nb, .int .i64 ng, .int .i64 na]] _ _
  go_enter Try.func12, Try.ntmps12
  go_wp2_with fail
  refine (HO.out _).mono ?_
  rintro e w1 ⟨rfl, hb⟩
  have B1 := Lib.hid (HB.out.trans (hb.mono HB.out.size))
  clear hb
  go_wp2_with fail
  go_ret
  exact ⟨rfl, B1.out⟩
end Go.Proofs.Ytbkknpodipapoaa
