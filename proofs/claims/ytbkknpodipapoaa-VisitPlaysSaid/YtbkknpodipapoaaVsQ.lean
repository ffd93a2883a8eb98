/- visit.Of and the closures of visit.Order. -/
import Derived.Test.YtbkknpodipapoaaVsO
import Derived.Deep.RegionWith
namespace Go.Proofs.Ytbkknpodipapoaa
open Go.RowKit
set_option linter.unusedSimpArgs false
attribute [local go_sem ↓] Go.wp_at_zero Go.wp_at_succ
attribute [local go_sem ↓] wp_loadP wp_storeP quiet_loadP

theorem results_cell1 {P : Program} {fn : Func} {p : Tmp} {ty : TypeId} (h : fn.results = #[.cell p ty]) (tmps : Array Value) (w : World) (g : Nat) (t : TypeId) (cs : Array Value) (fr : Nat × Nat) (d : TypeDesc)
    (hp : tmps.getD p undef = .pointer (some ⟨g, 0, none⟩)) (hg : w.heap[g]? = some (.cells cs t fr))
    (hu : P.underlying ty = some d) (hd : (match d with | .struct _ | .array _ _ => true | _ => false) = true) (hi : (P.info? ty).map (·.size) = some cs.size) :
    (results fn tmps).run P w = .ok (.agg cs) w := by
  have hp' : tmps[p]?.getD undef = .pointer (some ⟨g, 0, none⟩) := by simpa using hp
  simp [results, h, hp', asAddr, run_loadVar_row w g t ty cs fr d hg hu hd hi]

set_option maxHeartbeats 800000 in
theorem of_any (p : PtrT) (w : World) : Calls Try.prog 11 #[.agg (encPtr p).toArray] w fun e w' => e = .returned (.agg (encM (markOf p)).toArray) ∧ Below w.heap.size w w' := by
  obtain ⟨p0, p1, p2, p3, p4, p5, p6, p7, p8, p9, p10, p11⟩ := p
  show Calls _ _ #[.agg #[.int .i64 p0, .int .i64 p1, .int .i64 p2, .int .i64 p3, .bool p4, .int .i64 p5, .int .i64 p6, .int .i64 p7, .int .u64 p8, .int .u64 p9, .int .u64 p10, .int .u64 p11]] _ _
  go_enter Try.func11, Try.ntmps11
  go_wp2_with fail
  refine bodyPost_ret (results_cell1 rfl _ _ (w.heap.size + 1) 34 #[.int .i64 p7, .int .i64 p0, .int .i64 p1] (0, 0) _ rfl (Blk.newAt (w := w.alloc _) 34 [.int .i64 p7, .int .i64 p0, .int .i64 p1] (by simp)) Try.underlying34 rfl rfl) rfl ?_
  exact ⟨rfl, ((Below.refl _ _).alloc (Nat.le_refl _) _).alloc (by simp) _⟩
theorem box_read {W : World} {g e : Nat} {p : PtrT} (h : Blk W g e (encPtr p)) (b : BW W) (C : World → Prop) (v : Value) :
    LoadQ Try.prog C 30 (.pointer (some ⟨g, 0, none⟩)) b.w v = (Value.agg (encPtr p).toArray = v) :=
  loadQ_mid (cs := encPtr p) (fun j u hj => by rw [Nat.zero_add, (h.below b.bel).cell, hj]) Try.underlying30 rfl infoSz C v
set_option maxHeartbeats 1600000 in
theorem ord1_any (x y : PtrT) (w : World) : Calls Try.prog 25 #[.agg (encPtr x).toArray, .agg (encPtr y).toArray] w fun e w' => e = .returned (.int .i64 (ordM (markOf x) (markOf y))) ∧ Below w.heap.size w w' := by
  have HOF := Lib.hid (fun p W => of_any p W)
  have HOR := Lib.hid (fun m n W => order_any m n W)
  have hX := Blk.new w 30 (encPtr x)
  have hX2 := hX.alloc (.cells (encPtr y).toArray 30)
  have hY : Blk ((w.alloc (.cells (encPtr x).toArray 30)).alloc (.cells (encPtr y).toArray 30)) (w.heap.size + 1) 30 (encPtr y) := Blk.newAt _ _ (by simp)
  have B0 : Hid (Below w.heap.size w ((w.alloc (.cells (encPtr x).toArray 30)).alloc (.cells (encPtr y).toArray 30))) := Lib.hid (((Below.refl _ _).alloc (Nat.le_refl _) _).alloc (by simp) _)
  obtain ⟨w1, hw1⟩ : ∃ w1, w1 = (w.alloc (.cells (encPtr x).toArray 30)).alloc (.cells (encPtr y).toArray 30) := ⟨_, rfl⟩
  rw [← hw1] at hX2 hY B0
  have lx := box_read hX2
  have ly := box_read hY
  have HW1 := Lib.hid hw1
  clear hX hX2 hY hw1
  go_enter Try.func25, Try.ntmps25
  go_wp2_with fail
  rw [← HW1.out]
  refine wp_region_below (by kernel_rfl) (by kernel_rfl) ?_
  repeat (go_big_quiet_step (first | (go_at_call_of 11 x; refine Calls.bw_of (HOF.out x _)) | (go_at_call_of 11 y; refine Calls.bw_of (HOF.out y _)) | (go_at_call_of 26 x; refine Calls.bw_of (HOR.out _ _ _))))
  refine wpQuiet_nil ?_
  rintro _ ⟨q, rfl⟩
  have B1 := Lib.hid (B0.out.trans (q.bel.mono B0.out.size))
  go_wp2_with fail
  go_ret
  exact ⟨rfl, B1.out⟩
theorem cmpOk (el : Nat → PtrT) : CmpOk 25 el (cmpP el) := ⟨fun args W => by go_simp, fun x y W => ord1_any (el x) (el y) W⟩
/-- are two marks the same? -/
def eqM (x y : PtrT) : Bool := decide (markOf x = markOf y)
set_option maxHeartbeats 1600000 in
theorem ord2_any (x y : PtrT) (w : World) : Calls Try.prog 28 #[.agg (encPtr x).toArray, .agg (encPtr y).toArray] w fun e w' => e = .returned (.bool (eqM x y)) ∧ Below w.heap.size w w' := by
  have HOF := Lib.hid (fun p W => show Calls Try.prog 11 #[.agg (encPtr p).toArray] W fun e w' => e = .returned (.agg #[.int .i64 (markOf p).b, .int .i64 (markOf p).g, .int .i64 (markOf p).a]) ∧ Below W.heap.size W w' from of_any p W)
  have hX := Blk.new w 30 (encPtr x)
  have hX2 := hX.alloc (.cells (encPtr y).toArray 30)
  have hY : Blk ((w.alloc (.cells (encPtr x).toArray 30)).alloc (.cells (encPtr y).toArray 30)) (w.heap.size + 1) 30 (encPtr y) := Blk.newAt _ _ (by simp)
  have B0 : Hid (Below w.heap.size w ((w.alloc (.cells (encPtr x).toArray 30)).alloc (.cells (encPtr y).toArray 30))) := Lib.hid (((Below.refl _ _).alloc (Nat.le_refl _) _).alloc (by simp) _)
  obtain ⟨w1, hw1⟩ : ∃ w1, w1 = (w.alloc (.cells (encPtr x).toArray 30)).alloc (.cells (encPtr y).toArray 30) := ⟨_, rfl⟩
  rw [← hw1] at hX2 hY B0
  have lx := box_read hX2
  have ly := box_read hY
  have HW1 := Lib.hid hw1
  clear hX hX2 hY hw1
  have HEQ : ∀ m n : MarkT, decide (m = n) = (decide (m.b = n.b) && (decide (m.g = n.g) && decide (m.a = n.a))) := fun m n => by
    cases m; cases n; simp only [MarkT.mk.injEq, Bool.decide_and]
  have HE := Lib.hid (show eqM x y = (decide ((markOf x).b = (markOf y).b) && (decide ((markOf x).g = (markOf y).g) && decide ((markOf x).a = (markOf y).a))) from HEQ _ _)
  clear HEQ
  by_cases h1 : (markOf x).b = (markOf y).b
  · have e1 : ((markOf x).b == (markOf y).b) = true := by simpa using h1
    by_cases h2 : (markOf x).g = (markOf y).g
    · have e2 : ((markOf x).g == (markOf y).g) = true := by simpa using h2
      by_cases h3 : (markOf x).a = (markOf y).a
      · have e3 : ((markOf x).a == (markOf y).a) = true := by simpa using h3
        have HV : Hid (true = eqM x y) := Lib.hid (by rw [HE.out]; simp [h1, h2, h3])
        clear h1 h2 h3
        go_enter Try.func28, Try.ntmps28
        go_wp2_with fail
        rw [← HW1.out]
        refine wp_region_below (by kernel_rfl) (by kernel_rfl) ?_
        repeat (go_big_quiet_step (first | (go_at_call_of 11 x; refine Calls.bw_of (HOF.out x _)) | (go_at_call_of 11 y; refine Calls.bw_of (HOF.out y _))))
        refine wpQuiet_nil ?_
        rintro _ ⟨q, rfl⟩
        have B1 := Lib.hid (B0.out.trans (q.bel.mono B0.out.size))
        go_wp2_with fail
        go_ret
        exact ⟨ret_bool HV.out, B1.out⟩
      · have e3 : ((markOf x).a == (markOf y).a) = false := by simpa using h3
        have HV : Hid (false = eqM x y) := Lib.hid (by rw [HE.out]; simp [h3])
        clear h1 h2 h3
        go_enter Try.func28, Try.ntmps28
        go_wp2_with fail
        rw [← HW1.out]
        refine wp_region_below (by kernel_rfl) (by kernel_rfl) ?_
        repeat (go_big_quiet_step (first | (go_at_call_of 11 x; refine Calls.bw_of (HOF.out x _)) | (go_at_call_of 11 y; refine Calls.bw_of (HOF.out y _))))
        refine wpQuiet_nil ?_
        rintro _ ⟨q, rfl⟩
        have B1 := Lib.hid (B0.out.trans (q.bel.mono B0.out.size))
        go_wp2_with fail
        go_ret
        exact ⟨ret_bool HV.out, B1.out⟩
    · have e2 : ((markOf x).g == (markOf y).g) = false := by simpa using h2
      have HV : Hid (false = eqM x y) := Lib.hid (by rw [HE.out]; simp [h2])
      clear h1 h2
      go_enter Try.func28, Try.ntmps28
      go_wp2_with fail
      rw [← HW1.out]
      refine wp_region_below (by kernel_rfl) (by kernel_rfl) ?_
      repeat (go_big_quiet_step (first | (go_at_call_of 11 x; refine Calls.bw_of (HOF.out x _)) | (go_at_call_of 11 y; refine Calls.bw_of (HOF.out y _))))
      refine wpQuiet_nil ?_
      rintro _ ⟨q, rfl⟩
      have B1 := Lib.hid (B0.out.trans (q.bel.mono B0.out.size))
      go_wp2_with fail
      go_ret
      exact ⟨ret_bool HV.out, B1.out⟩
  · have e1 : ((markOf x).b == (markOf y).b) = false := by simpa using h1
    have HV : Hid (false = eqM x y) := Lib.hid (by rw [HE.out]; simp [h1])
    clear h1
    go_enter Try.func28, Try.ntmps28
    go_wp2_with fail
    rw [← HW1.out]
    refine wp_region_below (by kernel_rfl) (by kernel_rfl) ?_
    repeat (go_big_quiet_step (first | (go_at_call_of 11 x; refine Calls.bw_of (HOF.out x _)) | (go_at_call_of 11 y; refine Calls.bw_of (HOF.out y _))))
    refine wpQuiet_nil ?_
    rintro _ ⟨q, rfl⟩
    have B1 := Lib.hid (B0.out.trans (q.bel.mono B0.out.size))
    go_wp2_with fail
    go_ret
    exact ⟨ret_bool HV.out, B1.out⟩
end Go.Proofs.Ytbkknpodipapoaa
