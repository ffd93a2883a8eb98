/- The walk of the statement VisitOrder. -/
import Derived.Test.YtbkknpodipapoaaVsN
namespace Go.Proofs.Ytbkknpodipapoaa
open Go.RowKit
set_option linter.unusedSimpArgs false
attribute [local go_sem ↓] Go.wp_at_zero Go.wp_at_succ
/-- a slice of one thing that is built, kept whole -/
def BuildW (P : Program) (o : Oper) (t : TypeId) (v : Value) (a : Act) (w : World) (next : Act → World → Prop) (Q : Exit → Act → World → Prop) : Prop :=
  o.upon P a next Q ((do let r ← Instr.buildSlice t 1 #[(0, v)]; pure (Next.value r) : Sem Next).run P w)
theorem wp_buildP {dst : Option Tmp} {x : Operand} {ty : TypeId} {pos : String} {after : Array Edge} {guard : Option (Nat × Bool)} {a : Act} {w : World} {next : Act → World → Prop} {Q : Exit → Act → World → Prop} :
    Oper.wp Try.prog ⟨dst, .buildSlice 22 1 #[(0, x)], ty, pos, after, guard⟩ a w next Q = BuildW Try.prog ⟨dst, .buildSlice 22 1 #[(0, x)], ty, pos, after, guard⟩ 22 (a.eval x) a w next Q := by
  unfold Oper.wp BuildW execOp
  simp
theorem build_ptr (w : World) (p : PtrT) (o : Oper) (a : Act) (next : Act → World → Prop) (Q : Exit → Act → World → Prop) :
    BuildW Try.prog o 22 (.agg (encPtr p).toArray) a w next Q = next (a.put o.dst (.slice (some ⟨w.heap.size, 0, none⟩) 1 1)) (w.alloc (.cells (encPtr p).toArray 30)) := by
  unfold BuildW
  obtain ⟨p0, p1, p2, p3, p4, p5, p6, p7, p8, p9, p10, p11⟩ := p
  have h : (do let r ← Instr.buildSlice 22 1 #[(0, .agg #[.int .i64 p0, .int .i64 p1, .int .i64 p2, .int .i64 p3, .bool p4, .int .i64 p5, .int .i64 p6, .int .i64 p7, .int .u64 p8, .int .u64 p9, .int .u64 p10, .int .u64 p11])]; pure (Next.value r) : Sem Next).run Try.prog w = .ok (.value (.slice (some ⟨w.heap.size, 0, none⟩) 1 1)) (w.alloc (.cells #[.int .i64 p0, .int .i64 p1, .int .i64 p2, .int .i64 p3, .bool p4, .int .i64 p5, .int .i64 p6, .int .i64 p7, .int .u64 p8, .int .u64 p9, .int .u64 p10, .int .u64 p11] 30)) := by
    go_simp
  exact congrArg (fun r => o.upon Try.prog a next Q r) h
attribute [local go_sem ↓] wp_loadP wp_storeP quiet_loadP quiet_binM wp_buildP

/-- the list turned -/
def turnL (l : List PtrT) (t k : Nat) : List PtrT := (List.range k).map fun i => l.getD ((i + t) % l.length) pD
theorem turnL_succ (l : List PtrT) (t k : Nat) : turnL l t (k + 1) = turnL l t k ++ [l.getD ((k + t) % l.length) pD] := by simp [turnL, List.range_succ]
theorem turnL_length (l : List PtrT) (t k : Nat) : (turnL l t k).length = k := by simp [turnL]
/-- append at a row of pointers of one's own -/
theorem wpList_app_ptr {ops : Array Oper} {rest : List Oper} {o : Oper} {a : Act} {Q : Exit → Act → World → Prop} {w : World} (hgd : o.guard = none) (s x : Operand)
    (ho : o.op = .call { callee := .builtin .append, args := #[s, x], argTypes := #[22, 22] }) (base : Nat) (v : Value) (got xs : List PtrT) (hs : a.eval s = v) (hown : PRow w base v got)
    (b off c : Nat) (hx : a.eval x = .slice (some ⟨b, off, none⟩) xs.length c) (hn : w.rangeAt b off (encPs xs)) (hm : got.length + xs.length ≤ 1000000) (hbase : base ≤ w.heap.size)
    (h : ∀ v' w', PRow w' base v' (got ++ xs) → w.grownBy w' v.ownBlock → wpList Try.prog ops Q rest (a.put o.dst v') w') : wpList Try.prog ops Q (o :: rest) a w := by
  obtain ⟨i0, hi, hi0, hi1, hi2⟩ := info_parts infoPt
  refine wpList_append_own w hgd s x 22 ho base 30 i0 (.agg #[.int .i64 0, .int .i64 0, .int .i64 0, .int .i64 0, .bool false, .int .i64 0, .int .i64 0, .int .i64 0, .int .u64 0, .int .u64 0, .int .u64 0, .int .u64 0]) 12 96 Try.underlying22 hi hi0 hi1 hi2 rfl (Nat.succ_pos 11)
    v got.length (encPs got) hs hown ⟨b, off, none⟩ xs.length c (encPs xs) hx (encPs_length xs) (fun j u hj => by rw [Addr.add_mid]; exact hn j u hj) (encPs_one xs) (by unfold maxLen; omega) (by omega) hbase (fun v' w' h1 h2 _ => h v' w' (by rw [← encPs_append, ← List.length_append] at h1; exact h1) h2)
theorem encPs_single (p : PtrT) : encPs [p] = encPtr p := by simp [encPs]
set_option maxRecDepth 100000 in
set_option maxHeartbeats 1600000 in
theorem vorderL_any (ao : Option Addr) (n cap : Nat) (l : List PtrT) (t : Nat) (w : World) (h : PSl w ao n cap l) (ht : t ≤ 255) :
    Calls Try.prog 3 #[.slice ao n cap, .int .u8 (t : Nat)] w fun e w' => e = .returned (.bool true) ∧ Below w.heap.size w w' := by
  have hmx := BW.mx h
  have hl := h.len
  have H := Lib.hid h
  have HA := Lib.hid (fun W => awake22_any W)
  clear h
  by_cases hn60 : 60 < n
  · have hnz : (60 : Int) < (n : Int) := by omega
    go_enter Try.func3, Try.ntmps3
    go_wp2_with fail
    refine (HA.out _).mono ?_
    rintro e w1 ⟨rfl, hb1⟩
    have B1 := Lib.hid hb1
    clear hb1
    go_wp2_with fail
    refine (HA.out _).mono ?_
    rintro e w2 ⟨rfl, hb2⟩
    have B2 := Lib.hid (B1.out.trans (hb2.mono B1.out.size))
    clear hb2
    go_wp2_with fail
    go_ret
    exact ⟨rfl, B2.out⟩
  · have hnz : ¬ (60 : Int) < (n : Int) := by omega
    by_cases hn0 : n = 0
    · subst hn0
      go_enter Try.func3, Try.ntmps3
      go_wp2_with fail
      refine (HA.out _).mono ?_
      rintro e w1 ⟨rfl, hb1⟩
      have B1 := Lib.hid hb1
      clear hb1
      go_wp2_with fail
      refine (HA.out _).mono ?_
      rintro e w2 ⟨rfl, hb2⟩
      have B2 := Lib.hid (B1.out.trans (hb2.mono B1.out.size))
      clear hb2
      go_wp2_with fail
      go_ret
      exact ⟨rfl, B2.out⟩
    · have hd1 : decide ((60 : Int) < (n : Int)) = false := by simp; omega
      have hd2 : ((n : Int) == 0) = false := by simp; omega
      clear hnz
      have HL := Lib.hid hl
      clear hl
      go_enter Try.func3, Try.ntmps3
      go_wp2_with fail
      refine (HA.out _).mono ?_
      rintro e w1 ⟨rfl, hb1⟩
      have B1 := Lib.hid hb1
      clear hb1
      go_wp2_with fail
      go_loopw [5, 6] (fun v i wr => ∃ (k : Nat) (v' : Value), k ≤ n ∧ Hid (i = .int .i64 (k : Nat)) ∧ Hid (v' = v) ∧ Hid (PRow wr w.heap.size v' (turnL l t k)) ∧ Hid (Below w.heap.size w wr)) (fun _ i _ => n - (intOf i).toNat)
      case atStart => exact ⟨0, _, by omega, Lib.hid rfl, Lib.hid rfl, Lib.hid (World.ownsRow_nil _ _ _ _), B1⟩
      case round =>
        obtain ⟨k, v', hk, hi, hv, HR, HB⟩ := hrel
        obtain rfl := hi.out
        obtain rfl := hv.out
        clear hi hv B1
        by_cases hkn : k < n
        · obtain ⟨q, hq⟩ : ∃ q, q = (k + t) % n := ⟨_, rfl⟩
          have hqn : q < n := by rw [hq]; exact Nat.mod_lt _ (by omega)
          have r1 : IntKind.i64.wrap ((k : Int) + (t : Int)) = (k : Int) + (t : Int) := IntWalk.i64_in _ (by omega)
          have r2 : Int.tmod ((k : Int) + (t : Int)) (n : Int) = (q : Int) := by
            rw [hq, show (k : Int) + (t : Int) = ((k + t : Nat) : Int) by omega, Int.tmod_eq_emod_of_nonneg (by omega)]
            rfl
          have r3 : (q : Int) < (n : Int) := by omega
          obtain ⟨b, off, rfl, hb, hr⟩ := (H.out.below HB.out).read (by omega)
          have l1 := load_ptr (hr q hqn)
          have HT : Hid (turnL l t (k + 1) = turnL l t k ++ [l.getD q pD]) := Lib.hid (by rw [turnL_succ, HL.out, hq])
          obtain ⟨x, hx⟩ : ∃ x, x = l.getD q pD := ⟨_, rfl⟩
          rw [← hx] at l1 HT
          have s1 := build_ptr wr x
          have BA := Lib.hid (Below.alloc (Below.refl wr.heap.size wr) (Nat.le_refl _) (.cells (encPtr x).toArray 30))
          have HROW := Lib.hid (owns_below HR.out BA.out)
          have HNW : Hid ((wr.alloc (.cells (encPtr x).toArray 30)).rangeAt wr.heap.size 0 (encPs [x])) := Lib.hid (fun j u hj => by rw [Nat.zero_add, (Blk.new wr 30 (encPtr x)).cell, ← encPs_single, hj])
          have m1 : (turnL l t k).length + [x].length ≤ 1000000 := by rw [turnL_length]; simp; omega
          have m3 : w.heap.size ≤ (wr.alloc (.cells (encPtr x).toArray 30)).heap.size := Nat.le_trans HB.out.size BA.out.size
          clear hq hr hb hx
          go_wp2_with (at_builtin; go_must (refine wpList_app_ptr rfl (.tmp 29) (.tmp 40) rfl w.heap.size _ (turnL l t k) [x] rfl HROW.out wr.heap.size 0 1 rfl HNW.out m1 m3 ?_; intro v1 w2 hown hgrow))
          have HB2 := Lib.hid (below_own (base := w.heap.size) (HB.out.trans (BA.out.mono HB.out.size)) HROW.out hgrow m3 (Nat.le_refl _))
          rw [← HT.out] at hown
          have HRN := Lib.hid hown
          clear hown hgrow
          go_roundw
          case rel => exact ⟨k + 1, v1, by omega, Lib.hid (by go_num), Lib.hid rfl, HRN, HB2⟩
          case measure => simp [intOf]; omega
        · obtain rfl : k = n := by omega
          obtain ⟨mo, mcap, rfl, hpm⟩ := psl_of_row HR.out
          have HPM := Lib.hid hpm
          have HML : Hid ((turnL l t k).length = k) := Lib.hid (turnL_length l t k)
          have HO1 := Lib.hid (vorder_psl _ _ _ l _ (H.out.below HB.out) (by omega))
          have HMM : Hid ((ordL l).map markOf = (ordL (turnL l t k)).map markOf) := Lib.hid (ordL_same fun p => by
            unfold turnL
            rw [List.mem_map, HL.out]
            constructor
            · intro hp
              obtain ⟨i, hi, rfl⟩ := List.getElem_of_mem hp
              rw [HL.out] at hi
              refine ⟨(i + (k - t % k)) % k, by rw [List.mem_range]; exact Nat.mod_lt _ (by omega), ?_⟩
              have e : ((i + (k - t % k)) % k + t) % k = i := by
                rw [Nat.mod_add_mod, show i + (k - t % k) + t = i + (k - t % k + t) by omega]
                have h2 : t % k < k := Nat.mod_lt _ (by omega)
                have h1 : k - t % k + t = k * (t / k + 1) := by
                  have := Nat.div_add_mod t k
                  rw [Nat.mul_add, Nat.mul_one]
                  omega
                rw [h1, Nat.add_mul_mod_self_left, Nat.mod_eq_of_lt hi]
              rw [e, List.getD_eq_getElem?_getD, List.getElem?_eq_getElem (by rw [HL.out]; exact hi)]
              rfl
            · rintro ⟨i, _, rfl⟩
              have h2 : (i + t) % k < l.length := by rw [HL.out]; exact Nat.mod_lt _ (by omega)
              rw [List.getD_eq_getElem?_getD, List.getElem?_eq_getElem h2]
              exact List.getElem_mem h2)
          clear hpm
          go_wp2_with fail
          refine HO1.out.mono ?_
          rintro e w2 ⟨ao', acap, rfl, hpa, hb2⟩
          have HO2 := Lib.hid (vorder_psl _ _ _ (turnL l t k) _ (HPM.out.below hb2) (by rw [HML.out]; omega))
          have HPA := Lib.hid hpa
          have B2 := Lib.hid (HB.out.trans (hb2.mono HB.out.size))
          clear hpa hb2 HO1
          go_wp2_with fail
          refine HO2.out.mono ?_
          rintro e w3 ⟨bo', bcap, rfl, hpb, hb3⟩
          have HPA2 := Lib.hid (HPA.out.below hb3)
          have HPB := Lib.hid hpb
          have B3 := Lib.hid (B2.out.trans (hb3.mono B2.out.size))
          have hll : (ordL l).length = (ordL (turnL l t k)).length := by
            have := congrArg List.length HMM.out
            simpa using this
          have HLE : Hid ((ordL l).length ≤ k) := Lib.hid (by have := ordL_length l; rw [HL.out] at this; exact this)
          have HSO := Lib.hid (ordL_is l).sorted
          clear hpb hb3 HO2 HPA B2 HPM HML HB HR
          obtain ⟨L, hL⟩ : ∃ L, L = ordL l := ⟨_, rfl⟩
          obtain ⟨M, hM⟩ : ∃ M, M = ordL (turnL l t k) := ⟨_, rfl⟩
          rw [← hL] at HPA2 hll HLE HSO HMM ⊢
          rw [← hM] at HPB hll HMM ⊢
          clear hL hM
          rw [← hll] at HPB ⊢
          clear hll
          obtain ⟨s, hs⟩ : ∃ s, s = L.length := ⟨_, rfl⟩
          rw [← hs] at HPA2 HPB HLE ⊢
          have HSL := Lib.hid hs
          clear hs
          have hsk := HLE.out
          have HO3 := Lib.hid (vorder_psl _ _ _ L _ HPA2.out (by omega))
          go_wp2_with fail
          refine HO3.out.mono ?_
          rintro e w4 ⟨co, ccap, rfl, hpc, hb4⟩
          have HPA4 := Lib.hid (HPA2.out.below hb4)
          have HPB4 := Lib.hid (HPB.out.below hb4)
          have B4 := Lib.hid (B3.out.trans (hb4.mono B3.out.size))
          rw [ordL_idem HSO.out] at hpc
          have HSM := Lib.hid (same_ps _ _ _ _ _ _ _ _ _ hpc HPA4.out)
          rw [decide_eq_true rfl, ← HSL.out] at HSM
          rw [ordL_idem HSO.out, ← HSL.out]
          clear hpc hb4 HO3 HPA2 HPB B3
          go_wp2_with fail
          refine HSM.out.mono ?_
          rintro e w5 ⟨rfl, hb5⟩
          have HPA5 := Lib.hid (HPA4.out.below hb5)
          have HPB5 := Lib.hid (HPB4.out.below hb5)
          have B5 := Lib.hid (B4.out.trans (hb5.mono B4.out.size))
          clear hb5 HSM HPA4 HPB4 B4
          obtain ⟨wo, hwo⟩ : ∃ wo, wo = w5 := ⟨_, rfl⟩
          rw [← hwo] at HPA5 HPB5 B5 ⊢
          clear hwo
          go_wp2_with fail
          go_loopw [9] (fun i wr => ∃ (j : Nat), j ≤ s ∧ i = .int .i64 (j : Nat) ∧ Hid (Below wo.heap.size wo wr)) (fun i _ => s - (intOf i).toNat)
          case atStart => exact ⟨0, by omega, rfl, Lib.hid (Below.refl _ _)⟩
          case round =>
            obtain ⟨j, hj, rfl, HB⟩ := hrel
            by_cases hjs : j < s
            · have HOF := Lib.hid (fun p W => of_any p W)
              obtain ⟨b1, o1, rfl, hb1, hr1⟩ := (HPA5.out.below HB.out).read (by omega)
              obtain ⟨b2, o2, rfl, hb2, hr2⟩ := (HPB5.out.below HB.out).read (by omega)
              have lx := read_at (hr1 j hjs) hb1
              have ly := read_at (hr2 j hjs) hb2
              have hme : markOf (L.getD j pD) = markOf (M.getD j pD) := by
                have h1 := congrArg (fun z => z[j]?) HMM.out
                have hjm : j < M.length := by
                  have := congrArg List.length HMM.out
                  simp at this
                  have := HSL.out
                  omega
                have hjl : j < L.length := by rw [← HSL.out]; exact hjs
                simp only [List.getElem?_map, List.getElem?_eq_getElem hjm, List.getElem?_eq_getElem hjl, Option.map_some, Option.some.injEq] at h1
                rw [List.getD_eq_getElem?_getD, List.getD_eq_getElem?_getD, List.getElem?_eq_getElem hjl, List.getElem?_eq_getElem hjm]
                exact h1
              have q0 := fun (C : World → Prop) x y (q : BW wr) v => binQ_neqM (markOf (L.getD j pD)) (markOf (M.getD j pD)) C x y q.w v
              rw [decide_eq_true hme, Bool.not_true] at q0
              have hjz : (j : Int) < (s : Int) := by omega
              by_cases hj0 : j = 0
              · have hd3 : decide (0 < j) = false := by simp; omega
                obtain ⟨px, hpx⟩ : ∃ p, p = L.getD j pD := ⟨_, rfl⟩
                obtain ⟨py, hpy⟩ : ∃ p, p = M.getD j pD := ⟨_, rfl⟩
                rw [← hpx] at lx q0
                rw [← hpy] at ly q0
                clear hpx hpy hr1 hr2 hb1 hb2 hme hj0
                go_wp2_with fail
                refine wp_region_below (by kernel_rfl) (by kernel_rfl) ?_
                repeat (go_big_quiet_step (first | (go_at_call_of 11 px; refine Calls.bw_of (HOF.out px _)) | (go_at_call_of 11 py; refine Calls.bw_of (HOF.out py _))))
                refine wpQuiet_nil ?_
                rintro _ ⟨q, rfl⟩
                have B6 := Lib.hid (HB.out.trans (q.bel.mono HB.out.size))
                go_wp2_with fail
                go_roundw
                case rel => exact ⟨j + 1, by omega, by go_num, B6⟩
                case measure => simp [intOf]; omega
              · obtain ⟨j1, rfl⟩ : ∃ j1, j = j1 + 1 := ⟨j - 1, by omega⟩
                have hwp : IntKind.i64.wrap (j1 : Int) = (j1 : Int) := IntWalk.i64_in _ (by omega)
                have j0 : (0 : Int) ≤ (j1 : Int) + 1 := by omega
                have jp : (0 : Int) < (j1 : Int) + 1 := by omega
                have e0 : ((j1 : Int) + 1).toNat = j1 + 1 := by omega
                have jz : (j1 : Int) + 1 < (s : Int) := by omega
                have jz1 : (j1 : Int) < (s : Int) := by omega
                have lz := read_at (hr1 j1 (by omega)) hb1
                have hlt : ltM (markOf (L.getD j1 pD)) (markOf (L.getD (j1 + 1) pD)) := by
                  have hl1 : j1 + 1 < L.length := by rw [← HSL.out]; exact hjs
                  have := (List.pairwise_iff_getElem.1 HSO.out) j1 (j1 + 1) (by omega) hl1 (by omega)
                  rw [List.getD_eq_getElem?_getD, List.getD_eq_getElem?_getD, List.getElem?_eq_getElem hl1, List.getElem?_eq_getElem (show j1 < L.length by omega)]
                  exact this
                have HBH := Lib.hid (fun W => behind_any (markOf (L.getD (j1 + 1) pD)) (markOf (L.getD j1 pD)) W)
                rw [decide_eq_true hlt] at HBH
                obtain ⟨px, hpx⟩ : ∃ p, p = L.getD (j1 + 1) pD := ⟨_, rfl⟩
                obtain ⟨py, hpy⟩ : ∃ p, p = M.getD (j1 + 1) pD := ⟨_, rfl⟩
                obtain ⟨pz, hpz⟩ : ∃ p, p = L.getD j1 pD := ⟨_, rfl⟩
                rw [← hpx] at lx q0 HBH
                rw [← hpy] at ly q0
                rw [← hpz] at lz HBH
                clear hpx hpy hpz hr1 hr2 hb1 hb2 hme hj0 hlt
                go_wp2_with fail
                refine wp_region_below (by kernel_rfl) (by kernel_rfl) ?_
                repeat (go_big_quiet_step (first | (go_at_call_of 12 pz; refine Calls.bw_of (HBH.out _)) | (go_at_call_of 11 px; refine Calls.bw_of (HOF.out px _)) | (go_at_call_of 11 py; refine Calls.bw_of (HOF.out py _)) | (go_at_call_of 11 pz; refine Calls.bw_of (HOF.out pz _))))
                refine wpQuiet_nil ?_
                rintro _ ⟨q, rfl⟩
                have B6 := Lib.hid (HB.out.trans (q.bel.mono HB.out.size))
                go_wp2_with fail
                go_roundw
                case rel => exact ⟨j1 + 1 + 1, by omega, by go_num, B6⟩
                case measure => simp [intOf]; omega
            · obtain rfl : j = s := by omega
              have B6 := Lib.hid (B5.out.trans (HB.out.mono B5.out.size))
              go_wp2_with fail
              go_ret
              exact ⟨rfl, B6.out⟩
end Go.Proofs.Ytbkknpodipapoaa
