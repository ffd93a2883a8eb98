/- polderref22.Of, Less. -/
import Derived.Test.YtbkknpodipapoaaVsRg
namespace Go.Proofs.Ytbkknpodipapoaa
open Go.RowKit
set_option linter.unusedSimpArgs false
attribute [local go_sem ↓] Go.wp_at_zero Go.wp_at_succ
attribute [local go_sem ↓] wp_loadP wp_storeP quiet_loadP

set_option maxHeartbeats 800000 in
theorem rof_any (p : PtrT) (w : World) : Calls Try.prog 20 #[.agg (encPtr p).toArray] w fun e w' => e = .returned (.agg (encM (markOf p)).toArray) ∧ Below w.heap.size w w' := by
  obtain ⟨p0, p1, p2, p3, p4, p5, p6, p7, p8, p9, p10, p11⟩ := p
  show Calls _ _ #[.agg #[.int .i64 p0, .int .i64 p1, .int .i64 p2, .int .i64 p3, .bool p4, .int .i64 p5, .int .i64 p6, .int .i64 p7, .int .u64 p8, .int .u64 p9, .int .u64 p10, .int .u64 p11]] _ _
  go_enter Try.func20, Try.ntmps20
  go_wp2_with fail
  refine bodyPost_ret (results_cell1 rfl _ _ (w.heap.size + 1) 48 #[.int .i64 p7, .int .i64 p0, .int .i64 p1] (0, 0) _ rfl (Blk.newAt (w := w.alloc _) 48 [.int .i64 p7, .int .i64 p0, .int .i64 p1] (by simp)) Try.underlying48 rfl rfl) rfl ?_
  exact ⟨rfl, ((Below.refl _ _).alloc (Nat.le_refl _) _).alloc (by simp) _⟩
def nthM (m : MarkT) (k : Nat) : Int := if k = 0 then m.b else if k = 1 then m.g else m.a
set_option maxHeartbeats 1600000 in
theorem rless_any (m n : MarkT) (w : World) : Calls Try.prog 19 #[.agg (encM m).toArray, .agg (encM n).toArray] w fun e w' => e = .returned (.bool (decide (ltM m n))) ∧ Below w.heap.size w w' := by
  have B0 := Lib.hid (((Below.refl w.heap.size w).alloc (Nat.le_refl _) (.cells (encM m).toArray 48)).alloc (by simp) (.cells (encM n).toArray 48))
  have X0 : Hid (Blk ((w.alloc (.cells (encM m).toArray 48)).alloc (.cells (encM n).toArray 48)) w.heap.size 48 (encM m)) := Lib.hid ((Blk.new _ _ _).alloc _)
  have Y0 : Hid (Blk ((w.alloc (.cells (encM m).toArray 48)).alloc (.cells (encM n).toArray 48)) (w.heap.size + 1) 48 (encM n)) := Lib.hid (Blk.newAt (w := w.alloc _) 48 (encM n) (by simp))
  have HL : Hid (∀ k, k < 3 → (∀ j, j < k → nthM m j = nthM n j) → nthM m k ≠ nthM n k → (decide (nthM m k < nthM n k)) = decide (ltM m n)) := Lib.hid (fun k hk he hne => by
    rw [decide_eq_decide]
    unfold ltM
    match k, hk with
    | 0, _ => simp [nthM] at hne ⊢; omega
    | 1, _ => have h0 := he 0 (by omega); simp [nthM] at hne h0 ⊢; omega
    | 2, _ => have h0 := he 0 (by omega); have h1 := he 1 (by omega); simp [nthM] at hne h0 h1 ⊢; omega)
  have HE : Hid ((∀ j, j < 3 → nthM m j = nthM n j) → false = decide (ltM m n)) := Lib.hid (fun he => by
    have h0 := he 0 (by omega); have h1 := he 1 (by omega); have h2 := he 2 (by omega)
    symm
    rw [decide_eq_false_iff_not]
    unfold ltM
    simp [nthM] at h0 h1 h2 ⊢
    omega)
  have CX : Hid (∀ k, k < 3 → (encM m)[k]? = some (.int .i64 (nthM m k))) := Lib.hid (fun k hk => by match k, hk with | 0, _ => rfl | 1, _ => rfl | 2, _ => rfl)
  have CY : Hid (∀ k, k < 3 → (encM n)[k]? = some (.int .i64 (nthM n k))) := Lib.hid (fun k hk => by match k, hk with | 0, _ => rfl | 1, _ => rfl | 2, _ => rfl)
  obtain ⟨mb, mg, ma⟩ := m
  obtain ⟨nb, ng, na⟩ := n
  show Calls _ _ #[.agg #[.int .i64 mb, .int .i64 mg, .int .i64 ma], .agg #[.int .i64 nb, .int .i64 ng, .int .i64 na]] _ _
  go_enter Try.func19, Try.ntmps19
  go_wp2_with fail
  go_loopw [5] (fun i wr => ∃ k : Nat, k ≤ 3 ∧ i = .int .i64 (k : Nat) ∧ Hid (∀ j, j < k → nthM ⟨mb, mg, ma⟩ j = nthM ⟨nb, ng, na⟩ j) ∧ Hid (Blk wr w.heap.size 48 (encM ⟨mb, mg, ma⟩)) ∧ Hid (Blk wr (w.heap.size + 1) 48 (encM ⟨nb, ng, na⟩)) ∧ Hid (Below w.heap.size w wr)) (fun i _ => 3 - (intOf i).toNat)
  case atStart => exact ⟨0, by omega, rfl, Lib.hid (fun j hj => by omega), X0, Y0, B0⟩
  case round =>
    obtain ⟨k, hk, rfl, HP, HX, HY, HB⟩ := hrel
    clear X0 Y0 B0
    by_cases hk3 : k < 3
    · have kz : (k : Int) < 3 := by omega
      obtain ⟨u, hu⟩ : ∃ u, u = nthM ⟨mb, mg, ma⟩ k := ⟨_, rfl⟩
      obtain ⟨v, hv⟩ : ∃ v, v = nthM ⟨nb, ng, na⟩ k := ⟨_, rfl⟩
      have HLK := Lib.hid (HL.out k hk3 HP.out)
      have cx : ∀ q : BW wr, q.w.cell? ⟨w.heap.size, k, none⟩ = some (.int .i64 u) := fun q => q.cell (by rw [HX.out.cell, CX.out k hk3, hu])
      have cy : ∀ q : BW wr, q.w.cell? ⟨w.heap.size + 1, k, none⟩ = some (.int .i64 v) := fun q => q.cell (by rw [HY.out.cell, CY.out k hk3, hv])
      by_cases huv : u = v
      · have HPK : Hid (∀ j, j < k + 1 → nthM ⟨mb, mg, ma⟩ j = nthM ⟨nb, ng, na⟩ j) := Lib.hid (fun j hj => by
          by_cases hjk : j < k
          · exact HP.out j hjk
          · obtain rfl : j = k := by omega
            rw [← hu, ← hv, huv])
        subst huv
        clear hu hv HLK
        go_wp2_with fail
        refine wp_region_below (by kernel_rfl) (by kernel_rfl) ?_
        repeat (go_big_quiet_step (fail))
        refine wpQuiet_nil ?_
        rintro _ ⟨q, rfl⟩
        have X1 := Lib.hid (HX.out.below q.bel)
        have Y1 := Lib.hid (HY.out.below q.bel)
        have B1 := Lib.hid (HB.out.trans (q.bel.mono HB.out.size))
        go_wp2_with fail
        go_roundw
        case rel => exact ⟨k + 1, by omega, by go_num, HPK, X1, Y1, B1⟩
        case measure => simp [intOf]; omega
      · have hne : (u == v) = false := by simpa using huv
        have HV : Hid (decide (u < v) = decide (ltM ⟨mb, mg, ma⟩ ⟨nb, ng, na⟩)) := Lib.hid (by rw [hu, hv]; exact HLK.out (by rw [← hu, ← hv]; exact huv))
        clear hu hv HLK
        go_wp2_with fail
        refine wp_region_below (by kernel_rfl) (by kernel_rfl) ?_
        repeat (go_big_quiet_step (fail))
        refine wpQuiet_nil ?_
        rintro _ ⟨q, rfl⟩
        have B1 := Lib.hid (HB.out.trans (q.bel.mono HB.out.size))
        have cx2 : ∀ q2 : BW q.w, q2.w.cell? ⟨w.heap.size, k, none⟩ = some (.int .i64 u) := fun q2 => q2.cell (cx q)
        have cy2 : ∀ q2 : BW q.w, q2.w.cell? ⟨w.heap.size + 1, k, none⟩ = some (.int .i64 v) := fun q2 => q2.cell (cy q)
        go_wp2_with fail
        refine wp_region_below (by kernel_rfl) (by kernel_rfl) ?_
        repeat (go_big_quiet_step (fail))
        refine wpQuiet_nil ?_
        rintro _ ⟨q2, rfl⟩
        have B2 := Lib.hid (B1.out.trans (q2.bel.mono B1.out.size))
        go_wp2_with fail
        go_ret
        exact ⟨ret_bool HV.out, B2.out⟩
    · obtain rfl : k = 3 := by omega
      have HV := Lib.hid (HE.out HP.out)
      go_wp2_with fail
      go_ret
      exact ⟨ret_bool HV.out, HB.out⟩

theorem infoInt : (Try.prog.info? 3).isSome = true := by kernel_rfl
theorem run_eq_arr (a0 a1 a2 b0 b1 b2 : Int) (W : World) : (Op.equalIn 10000 48 (.agg #[.int .i64 a0, .int .i64 a1, .int .i64 a2]) (.agg #[.int .i64 b0, .int .i64 b1, .int .i64 b2])).run Try.prog W = .ok (decide (a0 = b0 ∧ a1 = b1 ∧ a2 = b2)) W := by
  obtain ⟨i, hi⟩ := Option.isSome_iff_exists.1 infoInt
  have hc : Try.prog.cellsOf 3 = 1 := by kernel_rfl
  rw [show (10000 : Nat) = 9999 + 1 from rfl, run_equalIn_array (w := W) 9999 _ _ Try.underlying48 hi, hc]
  by_cases h0 : a0 = b0
  · by_cases h1 : a1 = b1
    · by_cases h2 : a2 = b2
      · subst h0 h1 h2
        simp [Op.eqItems, List.range, List.range.loop, go_sem]
      · have e : (a2 == b2) = false := by simpa using h2
        subst h0 h1
        simp [Op.eqItems, List.range, List.range.loop, go_sem, e, h2]
    · have e : (a1 == b1) = false := by simpa using h1
      subst h0
      simp [Op.eqItems, List.range, List.range.loop, go_sem, e, h1]
  · have e : (a0 == b0) = false := by simpa using h0
    simp [Op.eqItems, List.range, List.range.loop, go_sem, e, h0]
theorem run_eql_arr (m n : MarkT) (x y : Operand) (W : World) :
    (do eqGuard .eql 48 x y (.agg (encM m).toArray) (.agg (encM n).toArray); binOp .eql 48 (.agg (encM m).toArray) (.agg (encM n).toArray) : Sem Value).run Try.prog W = .ok (.bool (decide (m = n))) W := by
  obtain ⟨xb, xg, xa⟩ := m
  obtain ⟨yb, yg, ya⟩ := n
  have hs := run_eq_arr xb xg xa yb yg ya W
  simp only [MarkT.mk.injEq, encM]
  go_simp
theorem quiet_binA {C : World → Prop} {dst : Option Tmp} {op : BinOp} {x y : Operand} {t' ty : TypeId} {pos : String} {after : Array Edge} {guard : Option (Nat × Bool)} {a : Act} {w : World} {v : Value} :
    Oper.quietAt Try.prog ⟨dst, .binOp op 48 x y t', ty, pos, after, guard⟩ a C w v = BinQ Try.prog C op 48 x y (a.eval x) (a.eval y) w v := rfl
theorem binQ_eqA (m n : MarkT) (C : World → Prop) (x y : Operand) (W : World) (v : Value) : BinQ Try.prog C .eql 48 x y (.agg (encM m).toArray) (.agg (encM n).toArray) W v = (Value.bool (decide (m = n)) = v) := by
  unfold BinQ
  rw [Sem.run_bind, run_eql_arr m n x y W]
  show (W = W ∧ _) = _
  simp
attribute [local go_sem ↓] quiet_binA
set_option maxHeartbeats 1600000 in
theorem rhas_any (ao : Option Addr) (n cap : Nat) (l : List PtrT) (m : MarkT) (w : World) (h : PSl w ao n cap l) :
    Calls Try.prog 21 #[.slice ao n cap, .agg (encM m).toArray] w fun e w' => e = .returned (.bool (memM l m)) ∧ Below w.heap.size w w' := by
  have hmx := BW.mx h
  have HL := Lib.hid h.len
  have H := Lib.hid h
  clear h
  have HOF := Lib.hid (fun p W => rof_any p W)
  have B0 := Lib.hid ((Below.refl w.heap.size w).alloc (Nat.le_refl _) (.cells (encM m).toArray 48))
  have M0 : Hid (Blk (w.alloc (.cells (encM m).toArray 48)) w.heap.size 48 (encM m)) := Lib.hid (Blk.new _ _ _)
  have HN0 : Hid ((∀ j, j < n → markOf (l.getD j pD) ≠ m) → false = memM l m) := Lib.hid (fun hj => by
    symm
    rw [Bool.eq_false_iff]
    intro hm
    obtain ⟨q, hq, e⟩ := (memM_iff l m).1 hm
    obtain ⟨j, hjl, rfl⟩ := List.getElem_of_mem hq
    refine hj j (by rw [← HL.out]; exact hjl) ?_
    rw [List.getD_eq_getElem?_getD, List.getElem?_eq_getElem hjl]
    exact e)
  have HY0 : Hid (∀ j, j < n → markOf (l.getD j pD) = m → true = memM l m) := Lib.hid (fun j hj e => by
    have hjl : j < l.length := by rw [HL.out]; exact hj
    symm
    rw [memM_iff]
    refine ⟨l.getD j pD, ?_, e⟩
    rw [List.getD_eq_getElem?_getD, List.getElem?_eq_getElem hjl]
    exact List.getElem_mem hjl)
  obtain ⟨mb, mg, ma⟩ := m
  show Calls _ _ #[_, .agg #[.int .i64 mb, .int .i64 mg, .int .i64 ma]] _ _
  go_enter Try.func21, Try.ntmps21
  go_wp2_with fail
  go_loopw [5] (fun i wr => ∃ k : Nat, k ≤ n ∧ i = .int .i64 (k : Nat) ∧ Hid (∀ j, j < k → markOf (l.getD j pD) ≠ ⟨mb, mg, ma⟩) ∧ Hid (Blk wr w.heap.size 48 (encM ⟨mb, mg, ma⟩)) ∧ Hid (Below w.heap.size w wr)) (fun i _ => n - (intOf i).toNat)
  case atStart => exact ⟨0, by omega, rfl, Lib.hid fun j hj => absurd hj (by omega), M0, B0⟩
  case round =>
    obtain ⟨k, hk, rfl, HN, HM, HB⟩ := hrel
    clear M0 B0
    by_cases hkn : k < n
    · obtain ⟨b, off, rfl, hb, hr⟩ := (H.out.below HB.out).read (by omega)
      have lx := read_at (hr k hkn) hb
      obtain ⟨px, hpx⟩ : ∃ p, p = l.getD k pD := ⟨_, rfl⟩
      have m0 : ∀ q : BW wr, q.w.cell? ⟨w.heap.size, 0, none⟩ = some (.int .i64 mb) := fun q => q.cell (HM.out.cell 0)
      have m1 : ∀ q : BW wr, q.w.cell? ⟨w.heap.size, 1, none⟩ = some (.int .i64 mg) := fun q => q.cell (HM.out.cell 1)
      have m2 : ∀ q : BW wr, q.w.cell? ⟨w.heap.size, 2, none⟩ = some (.int .i64 ma) := fun q => q.cell (HM.out.cell 2)
      have q0 : ∀ (C : World → Prop) x y (q : BW wr) v, BinQ Try.prog C .eql 48 x y (.agg (encM (markOf px)).toArray) (.agg #[.int .i64 mb, .int .i64 mg, .int .i64 ma]) q.w v = (Value.bool (decide (markOf px = ⟨mb, mg, ma⟩)) = v) := fun C x y q v => binQ_eqA (markOf px) ⟨mb, mg, ma⟩ C x y q.w v
      have HE : Hid (∀ d, d = decide (markOf px = ⟨mb, mg, ma⟩) → (d = true ↔ markOf px = ⟨mb, mg, ma⟩)) := Lib.hid (fun d hd => by rw [hd]; simp)
      obtain ⟨d, hd⟩ : ∃ d, d = decide (markOf px = ⟨mb, mg, ma⟩) := ⟨_, rfl⟩
      have HD := Lib.hid (HE.out d hd)
      have HPX := Lib.hid hpx
      rw [← hd] at q0
      rw [← hpx] at lx
      clear HE hd hr hb hpx
      cases d with
      | false =>
        go_wp2_with fail
        refine wp_region_below (by kernel_rfl) (by kernel_rfl) ?_
        repeat (go_big_quiet_step (first | (go_at_call_of 20 px; refine Calls.bw_of (HOF.out px _))))
        refine wpQuiet_nil ?_
        rintro _ ⟨q, rfl⟩
        have B1 := Lib.hid (HB.out.trans (q.bel.mono HB.out.size))
        have M1 := Lib.hid (HM.out.below q.bel)
        go_wp2_with fail
        go_roundw
        case rel => exact ⟨k + 1, by omega, by go_num, Lib.hid (fun j hj => by
          by_cases e : j = k
          · rw [e, ← HPX.out]; exact fun h => by have := HD.out.2 h; cases this
          · exact HN.out j (by omega)), M1, B1⟩
        case measure => simp [intOf]; omega
      | true =>
        have HV := Lib.hid (HY0.out k hkn (by rw [← HPX.out]; exact HD.out.1 rfl))
        go_wp2_with fail
        refine wp_region_below (by kernel_rfl) (by kernel_rfl) ?_
        repeat (go_big_quiet_step (first | (go_at_call_of 20 px; refine Calls.bw_of (HOF.out px _))))
        refine wpQuiet_nil ?_
        rintro _ ⟨q, rfl⟩
        have B1 := Lib.hid (HB.out.trans (q.bel.mono HB.out.size))
        go_wp2_with fail
        go_ret
        exact ⟨ret_bool HV.out, B1.out⟩
    · obtain rfl : k = n := by omega
      have HV := Lib.hid (HN0.out HN.out)
      go_wp2_with fail
      go_ret
      exact ⟨ret_bool HV.out, HB.out⟩
end Go.Proofs.Ytbkknpodipapoaa
