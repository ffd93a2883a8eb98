/- The walk of tree.all and tree.All. -/
import Derived.Test.YtbhofablndjeoaaDoorTrY
namespace Go.Proofs.YtbhofablndjeoaaDoor
open Go.RowKit
set_option linter.unusedSimpArgs false
set_option linter.unusedVariables false
/-- a slice of one pointer that is built, kept whole -/
def BuildW (P : Program) (o : Oper) (t : TypeId) (v : Value) (a : Act) (w : World) (next : Act → World → Prop) (Q : Exit → Act → World → Prop) : Prop :=
  o.upon P a next Q ((do let r ← Instr.buildSlice t 1 #[(0, v)]; pure (Next.value r) : Sem Next).run P w)
theorem wp_buildP {dst : Option Tmp} {x : Operand} {ty : TypeId} {pos : String} {after : Array Edge} {guard : Option (Nat × Bool)} {a : Act} {w : World} {next : Act → World → Prop} {Q : Exit → Act → World → Prop} :
    Oper.wp Tryd.prog ⟨dst, .buildSlice 52 1 #[(0, x)], ty, pos, after, guard⟩ a w next Q = BuildW Tryd.prog ⟨dst, .buildSlice 52 1 #[(0, x)], ty, pos, after, guard⟩ 52 (a.eval x) a w next Q := by
  unfold Oper.wp BuildW execOp
  simp
theorem build_ptr (w : World) (p : PtrT) (o : Oper) (a : Act) (next : Act → World → Prop) (Q : Exit → Act → World → Prop) :
    BuildW Tryd.prog o 52 (.agg (encPtr p).toArray) a w next Q = next (a.put o.dst (.slice (some ⟨w.heap.size, 0, none⟩) 1 1)) (w.alloc (.cells (encPtr p).toArray 35)) := by
  unfold BuildW
  obtain ⟨p0, p1, p2, p3, p4, p5, p6, p7, p8, p9, p10, p11⟩ := p
  have h : (do let r ← Instr.buildSlice 52 1 #[(0, .agg #[.int .i64 p0, .int .i64 p1, .int .i64 p2, .int .i64 p3, .bool p4, .int .i64 p5, .int .i64 p6, .int .i64 p7, .int .u64 p8, .int .u64 p9, .int .u64 p10, .int .u64 p11])]; pure (Next.value r) : Sem Next).run Tryd.prog w = .ok (.value (.slice (some ⟨w.heap.size, 0, none⟩) 1 1)) (w.alloc (.cells #[.int .i64 p0, .int .i64 p1, .int .i64 p2, .int .i64 p3, .bool p4, .int .i64 p5, .int .i64 p6, .int .i64 p7, .int .u64 p8, .int .u64 p9, .int .u64 p10, .int .u64 p11] 35)) := by
    go_simp
  exact congrArg (fun r => o.upon Tryd.prog a next Q r) h
attribute [local go_sem ↓] wp_loadPt wp_storePt wp_loadA4 wp_storeA4 wp_buildP
theorem alloc_size' (w : World) (o : Obj) : (w.alloc o).heap.size = w.heap.size + 1 := by simp
theorem Mod.grownO {F : Nat → Prop} {w w' : World} {r : Option Nat} (h : w.grownBy w' r) (hr : ∀ g, r = some g → F g) : Mod F w w' :=
  ⟨h.os, h.tape, h.output, h.size, fun k hk hn => h.block k hk (fun e => hn (hr k e.symm))⟩
theorem Mod.row {F : Nat → Prop} {w w' : World} {b n e : Nat} {v : Value} {xs : List Value} (h : Mod F w w') (hr : w.ownsRow b e 12 v n xs) (hd : ∀ g, v.ownBlock = some g → ¬ F g) : w'.ownsRow b e 12 v n xs := by
  obtain ⟨h1, h2⟩ := hr
  refine ⟨h1, ?_⟩
  rcases h2 with h2 | ⟨g, cap, cur, rfl, hbg, hg, hx⟩
  · exact .inl h2
  · refine .inr ⟨g, cap, cur, rfl, hbg, ?_, hx⟩
    rw [h.block g (Array.getElem?_eq_some_iff.1 hg).1 (hd g rfl)]
    exact hg

section
variable {σ : Type} {S : StF σ} {ty : TypeId} {a : Addr} {C : StoreC S ty a}
/-- a store beside a growing row of pointers -/
structure AllSt (C : StoreC S ty a) (F0 : Nat → Prop) (wB w : World) (st : σ) (F : Nat → Prop) (v : Value) (out : List PtrT) : Prop where
  at_ : C.At F0 st wB w F
  row : w.ownsRow wB.heap.size 35 12 v out.length (encPs out)
  dis : ∀ g, v.ownBlock = some g → ¬ F g
theorem AllSt.below {F0 F : Nat → Prop} {wB w w' : World} {st : σ} {v : Value} {out : List PtrT} (h : AllSt C F0 wB w st F v out) (hb : Below w.heap.size w w') : AllSt C F0 wB w' st F v out :=
  ⟨h.at_.below hb, owns_below h.row hb, h.dis⟩
theorem AllSt.step {F0 F : Nat → Prop} {wB w w' : World} {st s2 : σ} {v : Value} {out : List PtrT} (h : AllSt C F0 wB w st F v out) (hs : C.Step F s2 w w') : ∃ F2, AllSt C F0 wB w' s2 F2 v out ∧ (∀ x, x < w.heap.size → ¬ F x → ¬ F2 x) ∧ Mod F w w' := by
  obtain ⟨F2, h1, h2, h3⟩ := h.at_.step hs
  exact ⟨F2, ⟨h1, h3.row h.row h.dis, fun g hg => h2 g (h.row.lt g hg).2 (h.dis g hg)⟩, h2, h3⟩
/-- the row grows -/
theorem AllSt.grow {F0 F : Nat → Prop} {wB w w' : World} {st : σ} {v v' : Value} {out : List PtrT} {x : PtrT} (h : AllSt C F0 wB w st F v out) (hown : w'.ownsRow wB.heap.size 35 12 v' (out.length + 1) (encPs out ++ encPtr x)) (hg : w.grownBy w' v.ownBlock) (hat : v'.ownBlock = v.ownBlock ∨ v'.ownBlock = some w.heap.size) : AllSt C F0 wB w' st F v' (out ++ [x]) := by
  refine ⟨⟨C.keep h.at_.1 hg.size (fun x hx => hg.block x (h.at_.lt x hx) (fun e => h.dis x e.symm hx)), ?_, h.at_.2.2⟩, ?_, ?_⟩
  · refine h.at_.2.1.trans (Mod.grownO (F := fun k => v.ownBlock = some k) hg (fun g hg => hg)) (fun x hx hv => ?_)
    have := (h.row.lt x hv).1
    omega
  · rw [List.length_append, encPs_append]
    have e : encPs [x] = encPtr x := by simp [encPs]
    rw [e]
    exact hown
  · intro g hgg hF
    rcases hat with e | e
    · exact h.dis g (by rw [← e]; exact hgg) hF
    · rw [e] at hgg
      have := h.at_.lt g hF
      simp only [Option.some.injEq] at hgg
      omega
/-- how many pointers a tree of a level has at most -/
def tn : Nat → Nat
  | 0 => 1
  | k + 1 => 1 + 4 * tn k
/-- what all answers -/
def AllR (C : StoreC S ty a) (F0 : Nat → Prop) (wB w : World) (F : Nat → Prop) (v : Value) (N : Nat) : Except Nat (List PtrT) × σ → Ending → World → Prop
  | (.ok out, st), e, w' => ∃ v' F', e = .returned (.tuple #[v', .int .i64 0]) ∧ AllSt C F0 wB w' st F' v' out ∧ Mod (fun k => F k ∨ v.ownBlock = some k) w w' ∧ (∀ k, F' k → F k ∨ w.heap.size ≤ k) ∧ (∀ k, v'.ownBlock = some k → v.ownBlock = some k ∨ w.heap.size ≤ k) ∧ out.length ≤ N
  | (.error n, st), e, w' => ∃ F', e = .returned (.tuple #[.slice none 0 0, .int .i64 (n : Nat)]) ∧ n ≠ 0 ∧ C.At F0 st wB w' F' ∧ Mod (fun k => F k ∨ v.ownBlock = some k) w w' ∧ (∀ k, F' k → F k ∨ w.heap.size ≤ k)
set_option maxHeartbeats 1000000 in
set_option maxRecDepth 100000 in
theorem all_none {wB w : World} {st : σ} {F0 F : Nat → Prop} {v : Value} {out : List PtrT} (hS : AllSt C F0 wB w st F v out) (p : PtrT) (hp : p.wf) (hn : isNone p = true) (N : Nat) (hN : out.length ≤ N) :
    Calls Tryd.prog 35 #[.iface ty (.pointer (some a)), .agg (encPtr p).toArray, v] w (AllR C F0 wB w F v N (.ok out, st)) := by
  obtain ⟨w0, hw0⟩ : ∃ w0, w0 = w.alloc (.cells (encPtr p).toArray 35) := ⟨_, rfl⟩
  have hb : Blk w0 w.heap.size 35 (encPtr p) := by rw [hw0]; exact Blk.new w _ _
  have HS0 : Hid (AllSt C F0 wB w0 st F v out) := Lib.hid (by rw [hw0]; exact hS.below ((Below.refl _ _).alloc (Nat.le_refl _) _))
  have HM0 : Hid (Below w.heap.size w w0) := Lib.hid (by rw [hw0]; exact (Below.refl _ _).alloc (Nat.le_refl _) _)
  have hld := fun op a next Q => loadW_blk (P := Tryd.prog) hb Tryd.underlying35 rfl iszPt op a next Q
  have HB := Lib.hid hb
  have HSI := Lib.hid hS
  clear hb
  have HN := Lib.hid hn
  go_enter Tryd.func35, Tryd.ntmps35
  go_upto_region 1 with fail
  rw [show w.alloc (.cells (encPtr p).toArray 35) = w0 from hw0.symm]
  clear hw0
  go_wp2_with fail
  refine (None_any p hp w0).mono ?_
  rintro e w1 ⟨rfl, hb1⟩
  rw [HN.out]
  have HS1 := Lib.hid (HS0.out.below hb1)
  have HM1 := Lib.hid (HM0.out.trans (hb1.mono HM0.out.size))
  clear hb1 hld
  go_wp2_with fail
  go_ret2
  exact ⟨v, F, rfl, HS1.out, Mod.below HM1.out, fun k hk => .inl hk, fun k hk => .inl hk, by omega⟩
set_option maxHeartbeats 1000000 in
set_option maxRecDepth 100000 in
theorem all_zero {wB w : World} {st : σ} {F0 F : Nat → Prop} {v : Value} {out : List PtrT} (hS : AllSt C F0 wB w st F v out) (p : PtrT) (hp : p.wf) (hn : isNone p = false) (hl : p.level = 0) (N : Nat) (hN : out.length + 1 ≤ N) (hN2 : N ≤ 100000) :
    Calls Tryd.prog 35 #[.iface ty (.pointer (some a)), .agg (encPtr p).toArray, v] w (AllR C F0 wB w F v N (.ok (out ++ [p]), st)) := by
  obtain ⟨w0, hw0⟩ : ∃ w0, w0 = w.alloc (.cells (encPtr p).toArray 35) := ⟨_, rfl⟩
  have hb : Blk w0 w.heap.size 35 (encPtr p) := by rw [hw0]; exact Blk.new w _ _
  have HS0 : Hid (AllSt C F0 wB w0 st F v out) := Lib.hid (by rw [hw0]; exact hS.below ((Below.refl _ _).alloc (Nat.le_refl _) _))
  have HM0 : Hid (Below w.heap.size w w0) := Lib.hid (by rw [hw0]; exact (Below.refl _ _).alloc (Nat.le_refl _) _)
  have hld := fun op a next Q => loadW_blk (P := Tryd.prog) hb Tryd.underlying35 rfl iszPt op a next Q
  have HB := Lib.hid hb
  have HSI := Lib.hid hS
  clear hb
  have HN := Lib.hid hn
  go_enter Tryd.func35, Tryd.ntmps35
  go_upto_region 1 with fail
  rw [show w.alloc (.cells (encPtr p).toArray 35) = w0 from hw0.symm]
  clear hw0
  go_wp2_with fail
  refine (None_any p hp w0).mono ?_
  rintro e w1 ⟨rfl, hb1⟩
  rw [HN.out]
  have HS1 := Lib.hid (HS0.out.below hb1)
  have HM1 := Lib.hid (HM0.out.trans (hb1.mono HM0.out.size))
  have HB1 := Lib.hid (HB.out.below hb1)
  have hld1 := fun op a next Q => loadW_blk (P := Tryd.prog) HB1.out Tryd.underlying35 rfl iszPt op a next Q
  obtain ⟨i0, hi, hi0, hi1, hi2⟩ := info_parts infoPt
  have m1 : out.length + 1 ≤ maxLen := by unfold maxLen; omega
  have m2 : (out.length + 1) * 96 ≤ 140737488355328 := by omega
  have m3 : wB.heap.size ≤ (w1.alloc (.cells (encPtr p).toArray 35)).heap.size := by have := HS1.out.at_.size; simp; omega
  have HNW := Lib.hid (Blk.news (Blk.newAt (w := w1) 35 (encPtr p) rfl))
  have hbs := build_ptr w1 p
  clear hb1 hld
  go_upto_region 4 with (at_builtin; go_must (refine wpList_append_own_at _ rfl (.tmp 15) (.tmp 17) 52 rfl wB.heap.size 35 i0 (.agg #[.int .i64 0, .int .i64 0, .int .i64 0, .int .i64 0, .bool false, .int .i64 0, .int .i64 0, .int .i64 0, .int .u64 0, .int .u64 0, .int .u64 0, .int .u64 0]) 12 96 Tryd.underlying52 hi hi0 hi1 hi2 rfl (Nat.succ_pos 11) v out.length (encPs out) rfl (HS1.out.row.alloc _) ⟨w1.heap.size, 0, none⟩ 1 1 (encPtr p) rfl rfl HNW.out (encPtr_ones _) m1 m2 m3 ?_; intro v2 w2 hown hgrow _ hat2))
  have HS2 : Hid (AllSt C F0 wB w2 st F v2 (out ++ [p])) := Lib.hid ((HS1.out.below ((Below.refl _ _).alloc (Nat.le_refl _) _)).grow hown hgrow hat2)
  have HB2 : Hid (Blk w2 w.heap.size 35 (encPtr p)) := Lib.hid ((Mod.grownO (F := fun k => v.ownBlock = some k) hgrow (fun g hg => hg)).blk (HB1.out.alloc _) (fun hv => by have := (HSI.out.row.lt _ hv).2; omega))
  have HM2 : Hid (Mod (fun k => F k ∨ v.ownBlock = some k) w w2) := Lib.hid (((Mod.below HM1.out).alloc _).self (Mod.grownO (F := fun k => F k ∨ v.ownBlock = some k) hgrow (fun g hg => .inr hg)))
  have HNB : Hid (¬ v2.ownBlock = some w.heap.size) := Lib.hid (fun e => hat2.elim (fun e2 => by rw [e2] at e; have := (HSI.out.row.lt _ e).2; omega) (fun e2 => by rw [e2] at e; simp only [Option.some.injEq, alloc_size'] at e; have := HM1.out.size; have := HB1.out.lt; omega))
  have HV2 : Hid (∀ k, v2.ownBlock = some k → v.ownBlock = some k ∨ w.heap.size ≤ k) := Lib.hid (fun k hk => hat2.elim (fun e => .inl (by rw [← e]; exact hk)) (fun e => by rw [e] at hk; simp only [Option.some.injEq] at hk; right; have := HM1.out.size; simp only [alloc_size'] at hk; omega))
  have hld2 := fun op a next Q => loadW_blk (P := Tryd.prog) HB2.out Tryd.underlying35 rfl iszPt op a next Q
  have hc6 : w2.cell? ⟨w.heap.size, 6, none⟩ = some (.int .i64 p.level) := HB2.out.cell 6
  clear hown hgrow hat2 hld1 hbs
  rw [hl] at hc6
  go_wp2_with fail
  go_ret2
  exact ⟨v2, F, rfl, HS2.out, HM2.out, fun k hk => .inl hk, HV2.out, by rw [List.length_append]; exact hN⟩
/-- where a walk of all stands -/
structure AllI (C : StoreC S ty a) (F0 F : Nat → Prop) (wB w wr : World) (v : Value) (N : Nat) (l : List PtrT) (k : Nat) (p : PtrT) (j : Nat) (o1 : List PtrT) (s1 : σ) (R : Except Nat (List PtrT) × σ) (F1 : Nat → Prop) (v1 : Value) : Prop where
  jle : j ≤ 4
  eq : allL (allM S (k + 1)) p.level (l.drop j) o1 s1 = R
  st : AllSt C F0 wB wr s1 F1 v1 o1
  bb : Blk wr w.heap.size 35 (encPtr p)
  nf : ¬ F1 w.heap.size
  nv : ¬ v1.ownBlock = some w.heap.size
  md : Mod (fun k => F k ∨ v.ownBlock = some k) w wr
  fF : ∀ k, F1 k → F k ∨ w.heap.size ≤ k
  fv : ∀ k, v1.ownBlock = some k → v.ownBlock = some k ∨ w.heap.size ≤ k
  len : o1.length + (4 - j) * tn k ≤ N
set_option maxHeartbeats 2000000 in
set_option maxRecDepth 100000 in
theorem all_succ (k : Nat) (hk : k ≤ 2) {wB w : World} {st : σ} {F0 F : Nat → Prop} {v : Value} {out : List PtrT} (hS : AllSt C F0 wB w st F v out) (p : PtrT) (hp : p.wf) (hn : isNone p = false) (hl : p.level = (k : Int) + 1) (N : Nat) (hN : out.length + tn (k + 1) ≤ N) (hN2 : N ≤ 100000) (hok : C.Ok (allM S (k + 2) p out st).2)
    (ih : ∀ {w : World} {st : σ} {F : Nat → Prop} {v : Value} {out : List PtrT} (hS : AllSt C F0 wB w st F v out) (p : PtrT) (hp : p.wf) (hl : isNone p = true ∨ p.level = (k : Int)) (N : Nat) (hN : out.length + tn k ≤ N) (hN2 : N ≤ 100000) (hok : C.Ok (allM S (k + 1) p out st).2), Calls Tryd.prog 35 #[.iface ty (.pointer (some a)), .agg (encPtr p).toArray, v] w (AllR C F0 wB w F v N (allM S (k + 1) p out st))) :
    Calls Tryd.prog 35 #[.iface ty (.pointer (some a)), .agg (encPtr p).toArray, v] w (AllR C F0 wB w F v N (allM S (k + 2) p out st)) := by
  have hne : ¬ p.level = 0 := by omega
  have e0 : allM S (k + 2) p out = M.bind (linksM S p) fun l => allL (allM S (k + 1)) p.level l (out ++ [p]) := by rw [allM, if_neg (by rw [hn]; decide), if_neg hne]
  rw [e0] at hok ⊢
  have hokl : C.Ok (linksM S p st).2 := back_first (f := fun l => allL (allM S (k + 1)) p.level l (out ++ [p])) (fun l => back_allL (fun x o => back_all C.bg (k + 1) x o) _ _ _) hok
  obtain ⟨R, hRR⟩ : ∃ R, M.bind (linksM S p) (fun l => allL (allM S (k + 1)) p.level l (out ++ [p])) st = R := ⟨_, rfl⟩
  rw [hRR] at hok ⊢
  obtain ⟨w0, hw0⟩ : ∃ w0, w0 = w.alloc (.cells (encPtr p).toArray 35) := ⟨_, rfl⟩
  have hb : Blk w0 w.heap.size 35 (encPtr p) := by rw [hw0]; exact Blk.new w _ _
  have HS0 : Hid (AllSt C F0 wB w0 st F v out) := Lib.hid (by rw [hw0]; exact hS.below ((Below.refl _ _).alloc (Nat.le_refl _) _))
  have HM0 : Hid (Below w.heap.size w w0) := Lib.hid (by rw [hw0]; exact (Below.refl _ _).alloc (Nat.le_refl _) _)
  have hld := fun op a next Q => loadW_blk (P := Tryd.prog) hb Tryd.underlying35 rfl iszPt op a next Q
  have HB := Lib.hid hb
  have HSI := Lib.hid hS
  clear hb
  have HN := Lib.hid hn
  have HOK := Lib.hid hok
  have HOKL := Lib.hid hokl
  have HRR := Lib.hid hRR
  clear hok hokl hRR e0 hne hn
  go_enter Tryd.func35, Tryd.ntmps35
  go_upto_region 1 with fail
  rw [show w.alloc (.cells (encPtr p).toArray 35) = w0 from hw0.symm]
  clear hw0
  go_wp2_with fail
  refine (None_any p hp w0).mono ?_
  rintro e w1 ⟨rfl, hb1⟩
  rw [HN.out]
  have HS1 := Lib.hid (HS0.out.below hb1)
  have HM1 := Lib.hid (HM0.out.trans (hb1.mono HM0.out.size))
  have HB1 := Lib.hid (HB.out.below hb1)
  have hld1 := fun op a next Q => loadW_blk (P := Tryd.prog) HB1.out Tryd.underlying35 rfl iszPt op a next Q
  obtain ⟨i0, hi, hi0, hi1, hi2⟩ := info_parts infoPt
  have m1 : out.length + 1 ≤ maxLen := by unfold maxLen; omega
  have m2 : (out.length + 1) * 96 ≤ 140737488355328 := by omega
  have m3 : wB.heap.size ≤ (w1.alloc (.cells (encPtr p).toArray 35)).heap.size := by have := HS1.out.at_.size; simp; omega
  have HNW := Lib.hid (Blk.news (Blk.newAt (w := w1) 35 (encPtr p) rfl))
  have hbs := build_ptr w1 p
  clear hb1 hld
  go_upto_region 4 with (at_builtin; go_must (refine wpList_append_own_at _ rfl (.tmp 15) (.tmp 17) 52 rfl wB.heap.size 35 i0 (.agg #[.int .i64 0, .int .i64 0, .int .i64 0, .int .i64 0, .bool false, .int .i64 0, .int .i64 0, .int .i64 0, .int .u64 0, .int .u64 0, .int .u64 0, .int .u64 0]) 12 96 Tryd.underlying52 hi hi0 hi1 hi2 rfl (Nat.succ_pos 11) v out.length (encPs out) rfl (HS1.out.row.alloc _) ⟨w1.heap.size, 0, none⟩ 1 1 (encPtr p) rfl rfl HNW.out (encPtr_ones _) m1 m2 m3 ?_; intro v2 w2 hown hgrow _ hat2))
  have HS2 : Hid (AllSt C F0 wB w2 st F v2 (out ++ [p])) := Lib.hid ((HS1.out.below ((Below.refl _ _).alloc (Nat.le_refl _) _)).grow hown hgrow hat2)
  have HB2 : Hid (Blk w2 w.heap.size 35 (encPtr p)) := Lib.hid ((Mod.grownO (F := fun k => v.ownBlock = some k) hgrow (fun g hg => hg)).blk (HB1.out.alloc _) (fun hv => by have := (HSI.out.row.lt _ hv).2; omega))
  have HM2 : Hid (Mod (fun k => F k ∨ v.ownBlock = some k) w w2) := Lib.hid (((Mod.below HM1.out).alloc _).self (Mod.grownO (F := fun k => F k ∨ v.ownBlock = some k) hgrow (fun g hg => .inr hg)))
  have HNB : Hid (¬ v2.ownBlock = some w.heap.size) := Lib.hid (fun e => hat2.elim (fun e2 => by rw [e2] at e; have := (HSI.out.row.lt _ e).2; omega) (fun e2 => by rw [e2] at e; simp only [Option.some.injEq, alloc_size'] at e; have := HM1.out.size; have := HB1.out.lt; omega))
  have HV2 : Hid (∀ k, v2.ownBlock = some k → v.ownBlock = some k ∨ w.heap.size ≤ k) := Lib.hid (fun k hk => hat2.elim (fun e => .inl (by rw [← e]; exact hk)) (fun e => by rw [e] at hk; simp only [Option.some.injEq] at hk; right; have := HM1.out.size; simp only [alloc_size'] at hk; omega))
  have hld2 := fun op a next Q => loadW_blk (P := Tryd.prog) HB2.out Tryd.underlying35 rfl iszPt op a next Q
  have hc6 : w2.cell? ⟨w.heap.size, 6, none⟩ = some (.int .i64 p.level) := HB2.out.cell 6
  clear hown hgrow hat2 hld1 hbs
  rw [hl] at hc6
  have HL := Lib.hid (links_any HS2.out.at_.1 p hp HOKL.out)
  have HLEV := Lib.hid hl
  have hk1 : ((k : Int) + 1 == 0) = false := by simp; omega
  have hk2 : ¬ ((k : Int) + 1 = 0) := by omega
  rcases hlm : linksM S p st with ⟨r | l, s2⟩
  · have hRe := HRR.out
    rw [M.bind_err hlm] at hRe
    rw [hlm] at HL
    have HRE : Hid ((Except.error r, s2) = R) := Lib.hid hRe
    clear hRe hlm
    go_wp2_with fail
    refine HL.out.mono ?_
    rintro e w3 ⟨⟨rfl, hr0⟩, hstep⟩
    have hr1 : ((r : Int) != 0) = true := by simpa using hr0
    obtain ⟨F2, hs3, hfr, hm⟩ := HS2.out.step hstep
    have HS3 := Lib.hid hs3
    have hsn := store_newA4 zs4 rfl w3
    have HM3 : Hid (Mod (fun k => F k ∨ v.ownBlock = some k) w w3) := Lib.hid (HM2.out.self (hm.mono (fun x _ hx => .inl hx)))
    have HF3 : Hid (∀ k, F2 k → F k ∨ w.heap.size ≤ k) := Lib.hid (fun x hx => by
      by_cases hlt : w.heap.size ≤ x
      · exact .inr hlt
      · by_cases hF : F x
        · exact .inl hF
        · exact absurd hx (hfr x (by have := HM2.out.size; omega) hF))
    clear hs3 hfr hm hstep hld2
    go_wp2_with fail
    go_ret2
    rw [← HRE.out]
    exact ⟨F2, rfl, hr0, HS3.out.at_.below ((Below.refl _ _).alloc (Nat.le_refl _) _), HM3.out.alloc _, HF3.out⟩
  · have hRe := HRR.out
    rw [M.bind_ok hlm] at hRe
    rw [hlm] at HL
    have HRL := Lib.hid hRe
    clear hRe hlm
    go_wp2_with fail
    refine HL.out.mono ?_
    rintro e w3 ⟨⟨rfl, hl4, hlw⟩, hstep⟩
    obtain ⟨F2, hs3, hfr, hm⟩ := HS2.out.step hstep
    have hsn := store_newA4 l hl4 w3
    obtain ⟨w4, hw4⟩ : ∃ w4, w4 = w3.alloc (.cells (encPs l).toArray 108) := ⟨_, rfl⟩
    have hb34 : Below w3.heap.size w3 w4 := by rw [hw4]; exact (Below.refl _ _).alloc (Nat.le_refl _) _
    have hbl4 : Blk w4 w3.heap.size 108 (encPs l) := by rw [hw4]; exact Blk.new w3 _ _
    rw [← hw4] at hsn
    have hlA := fun op a next Q => loadW_blk (P := Tryd.prog) (t := 108) hbl4 Tryd.underlying108 rfl (by rw [encPs_length]; exact hl4 ▸ iszA4) op a next Q
    have hnF : ¬ F w.heap.size := fun hf => by have := HSI.out.at_.lt _ hf; omega
    have HM3 : Hid (Mod (fun k => F k ∨ v.ownBlock = some k) w w4) := Lib.hid ((HM2.out.self (hm.mono (fun x _ hx => .inl hx))).trans' hb34)
    have HF3 : Hid (∀ k, F2 k → F k ∨ w.heap.size ≤ k) := Lib.hid (fun x hx => by
      by_cases hlt : w.heap.size ≤ x
      · exact .inr hlt
      · by_cases hF : F x
        · exact .inl hF
        · exact absurd hx (hfr x (by have := HM2.out.size; omega) hF))
    have HI : Hid (AllI C F0 F wB w w4 v N l k p 0 (out ++ [p]) s2 R F2 v2) := Lib.hid ⟨by omega, HRL.out, hs3.below hb34, (hm.blk HB2.out hnF).below hb34, hfr _ HB2.out.lt hnF, fun hv => by
        rcases hv2 : v2.ownBlock with _ | g
        · rw [hv2] at hv; cases hv
        · rw [hv2] at hv
          simp only [Option.some.injEq] at hv
          rcases HV2.out g hv2 with h1 | h1
          · have := (HSI.out.row.lt _ h1).2; omega
          · exact HNB.out (by rw [hv2, hv]), HM3.out, HF3.out, HV2.out, by rw [List.length_append]; simp only [tn] at hN; show out.length + 1 + (4 - 0) * tn k ≤ N; omega⟩
    have HLW := Lib.hid hlw
    have HL4 := Lib.hid hl4
    clear hs3 hfr hm hstep hld2 hc6 hw4 hb34 hbl4 hlw hl4 HL
    go_wp2_with fail
    go_loopw [2, 33] (fun vv iv wr => ∃ (j : Nat) (o1 : List PtrT) (s1 : σ) (F1 : Nat → Prop) (v1 : Value), v1 = vv ∧ iv = .int .i64 (j : Nat) ∧ j ≤ 4 ∧ Hid (AllI C F0 F wB w wr v N l k p j o1 s1 R F1 v1)) (fun _ iv _ => 4 - (intOf iv).toNat)
    case atStart => exact ⟨0, out ++ [p], s2, F2, v2, rfl, rfl, by omega, HI⟩
    case round =>
      clear HI hsn hlA
      obtain ⟨j, o1, s1, F1, v1, hv1, rfl, hj4, HI⟩ := hrel
      subst hv1
      by_cases hj : j = 4
      · have hj' : ¬ ((j : Int) < 4) := by omega
        have hRe := HI.out.eq
        rw [hj, List.drop_eq_nil_of_le (by rw [HL4.out]; exact Nat.le_refl _)] at hRe
        have HRE : Hid ((Except.ok o1, s1) = R) := Lib.hid hRe
        clear hRe hj
        go_wp2_with fail
        go_ret2
        rw [← HRE.out]
        exact ⟨v1, F1, rfl, HI.out.st, HI.out.md, HI.out.fF, HI.out.fv, by have := HI.out.len; omega⟩
      · have hj' : ((j : Int) < 4) := by omega
        have hjl : j < l.length := by rw [HL4.out]; omega
        have hdr : l.drop j = l[j] :: l.drop (j + 1) := List.drop_eq_getElem_cons hjl
        have hRe := HI.out.eq
        rw [hdr, allL] at hRe
        have hix := index_A4 l j hjl HL4.out wr
        have hst := store_newPt l[j] wr
        have hxw := HLW.out l[j] (List.getElem_mem hjl)
        obtain ⟨x, hx⟩ : ∃ x, x = l[j]'hjl := ⟨_, rfl⟩
        rw [← hx] at hix hst hxw hRe
        obtain ⟨wx, hwx⟩ : ∃ wx, wx = wr.alloc (.cells (encPtr x).toArray 35) := ⟨_, rfl⟩
        have hbx : Blk wx wr.heap.size 35 (encPtr x) := by rw [hwx]; exact Blk.new wr _ _
        have HBB : Hid (Below wr.heap.size wr wx) := by rw [hwx]; exact Lib.hid ((Below.refl _ _).alloc (Nat.le_refl _) _)
        rw [← hwx] at hst
        have hldx := fun op a next Q => loadW_blk (P := Tryd.prog) hbx Tryd.underlying35 rfl iszPt op a next Q
        have HBX := Lib.hid hbx
        have HRA := Lib.hid hRe
        have HMUL : Hid (tn k + (4 - (j + 1)) * tn k = (4 - j) * tn k) := Lib.hid (by rw [show 4 - j = (4 - (j + 1)) + 1 by omega, Nat.succ_mul, Nat.add_comm])
        have HSUB : Hid (∀ y, y < w.heap.size → (F1 y ∨ v1.ownBlock = some y) → (F y ∨ v.ownBlock = some y)) := Lib.hid (fun y hy h => h.elim (fun h => (HI.out.fF y h).elim .inl (fun h => by omega)) (fun h => (HI.out.fv y h).elim .inr (fun h => by omega)))
        clear hdr hx hwx hbx hRe hj
        go_wp2_with fail
        refine (None_any x hxw wx).mono ?_
        rintro e w5 ⟨rfl, hb5⟩
        have HB5 := Lib.hid (HBB.out.trans (hb5.mono HBB.out.size))
        have hcx : w5.cell? ⟨wr.heap.size, 6, none⟩ = some (.int .i64 x.level) := (HBX.out.below hb5).cell 6
        have hcp : w5.cell? ⟨w.heap.size, 6, none⟩ = some (.int .i64 ((k : Int) + 1)) := by rw [← HLEV.out]; exact (HI.out.bb.below HB5.out).cell 6
        have hldx5 := fun op a next Q => loadW_blk (P := Tryd.prog) (HBX.out.below hb5) Tryd.underlying35 rfl iszPt op a next Q
        have HS5 := Lib.hid (HI.out.st.below HB5.out)
        have HMD5 := Lib.hid (HI.out.md.trans' HB5.out)
        clear hb5 hldx
        have hRe := HRA.out
        by_cases hn : isNone x = true
        · rw [hn]
          rw [if_neg (fun h => h.1 hn)] at hRe
          have hside : isNone x = true ∨ x.level = (k : Int) := .inl hn
          clear hn
          have HRB := Lib.hid hRe
          have hokA : C.Ok (allM S (k + 1) x o1 s1).2 := back_first (f := fun o => allL (allM S (k + 1)) p.level (l.drop (j + 1)) o) (fun o => back_allL (fun x o => back_all C.bg (k + 1) x o) _ _ _) (by rw [hRe]; exact HOK.out)
          have HALL := Lib.hid (ih HS5.out x hxw hside (o1.length + tn k) (Nat.le_refl _) (by have := HI.out.len; have := HMUL.out; omega) hokA)
          clear hRe hokA
          rcases hA : allM S (k + 1) x o1 s1 with ⟨r | o2, s6⟩
          · rw [hA] at HALL
            have hRe := HRB.out
            rw [M.bind_err hA] at hRe
            have HRE : Hid ((Except.error r, s6) = R) := Lib.hid hRe
            clear hRe hA
            go_wp2_with fail
            refine HALL.out.mono ?_
            rintro e w6 ⟨F6, rfl, hr0, hat6, hm6, hf6⟩
            have hr1 : ((r : Int) != 0) = true := by simpa using hr0
            have HAT6 := Lib.hid hat6
            have HM6 := Lib.hid (HMD5.out.trans hm6 HSUB.out)
            have HF6 : Hid (∀ k, F6 k → F k ∨ w.heap.size ≤ k) := Lib.hid (fun y hy => (hf6 y hy).elim (HI.out.fF y) (fun h => .inr (by have := HMD5.out.size; omega)))
            clear hat6 hm6 hf6
            go_wp2_with fail
            go_ret2
            rw [← HRE.out]
            exact ⟨F6, rfl, hr0, HAT6.out, HM6.out, HF6.out⟩
          · rw [hA] at HALL
            have hRe := HRB.out
            rw [M.bind_ok hA] at hRe
            have HRE := Lib.hid hRe
            clear hRe hA
            go_wp2_with fail
            refine HALL.out.mono ?_
            rintro e w6 ⟨v6, F6, rfl, hs6, hm6, hf6, hv6, hlen6⟩
            have hwlt : w.heap.size < w5.heap.size := (HI.out.bb.below HB5.out).lt
            have HI6 : Hid (AllI C F0 F wB w w6 v N l k p (j + 1) o2 s6 R F6 v6) := Lib.hid ⟨by omega, HRE.out, hs6, hm6.blk (HI.out.bb.below HB5.out) (fun h => h.elim HI.out.nf HI.out.nv), fun h => (hf6 _ h).elim HI.out.nf (fun h => by omega), fun h => (hv6 _ h).elim HI.out.nv (fun h => by omega), HMD5.out.trans hm6 HSUB.out, fun y hy => (hf6 y hy).elim (HI.out.fF y) (fun h => .inr (by omega)), fun y hy => (hv6 y hy).elim (HI.out.fv y) (fun h => .inr (by omega)), by have := HI.out.len; have := HMUL.out; omega⟩
            clear hs6 hm6 hf6 hv6
            go_wp2_with fail
            refine ⟨⟨j + 1, o2, s6, F6, v6, rfl, by rw [Int.natCast_add]; rfl, by omega, HI6⟩, ?_⟩
            simp [intOf]; omega
        · have hnf : isNone x = false := by simpa using hn
          rw [hnf]
          by_cases hlv : x.level = (k : Int)
          · rw [if_neg (fun h => h.2 (by rw [HLEV.out, hlv]; omega))] at hRe
            have hside : isNone x = true ∨ x.level = (k : Int) := .inr hlv
            rw [hlv] at hcx
            clear hn hnf hlv
            have HRB := Lib.hid hRe
            have hokA : C.Ok (allM S (k + 1) x o1 s1).2 := back_first (f := fun o => allL (allM S (k + 1)) p.level (l.drop (j + 1)) o) (fun o => back_allL (fun x o => back_all C.bg (k + 1) x o) _ _ _) (by rw [hRe]; exact HOK.out)
            have HALL := Lib.hid (ih HS5.out x hxw hside (o1.length + tn k) (Nat.le_refl _) (by have := HI.out.len; have := HMUL.out; omega) hokA)
            clear hRe hokA
            rcases hA : allM S (k + 1) x o1 s1 with ⟨r | o2, s6⟩
            · rw [hA] at HALL
              have hRe := HRB.out
              rw [M.bind_err hA] at hRe
              have HRE : Hid ((Except.error r, s6) = R) := Lib.hid hRe
              clear hRe hA
              go_wp2_with fail
              refine HALL.out.mono ?_
              rintro e w6 ⟨F6, rfl, hr0, hat6, hm6, hf6⟩
              have hr1 : ((r : Int) != 0) = true := by simpa using hr0
              have HAT6 := Lib.hid hat6
              have HM6 := Lib.hid (HMD5.out.trans hm6 HSUB.out)
              have HF6 : Hid (∀ k, F6 k → F k ∨ w.heap.size ≤ k) := Lib.hid (fun y hy => (hf6 y hy).elim (HI.out.fF y) (fun h => .inr (by have := HMD5.out.size; omega)))
              clear hat6 hm6 hf6
              go_wp2_with fail
              go_ret2
              rw [← HRE.out]
              exact ⟨F6, rfl, hr0, HAT6.out, HM6.out, HF6.out⟩
            · rw [hA] at HALL
              have hRe := HRB.out
              rw [M.bind_ok hA] at hRe
              have HRE := Lib.hid hRe
              clear hRe hA
              go_wp2_with fail
              refine HALL.out.mono ?_
              rintro e w6 ⟨v6, F6, rfl, hs6, hm6, hf6, hv6, hlen6⟩
              have hwlt : w.heap.size < w5.heap.size := (HI.out.bb.below HB5.out).lt
              have HI6 : Hid (AllI C F0 F wB w w6 v N l k p (j + 1) o2 s6 R F6 v6) := Lib.hid ⟨by omega, HRE.out, hs6, hm6.blk (HI.out.bb.below HB5.out) (fun h => h.elim HI.out.nf HI.out.nv), fun h => (hf6 _ h).elim HI.out.nf (fun h => by omega), fun h => (hv6 _ h).elim HI.out.nv (fun h => by omega), HMD5.out.trans hm6 HSUB.out, fun y hy => (hf6 y hy).elim (HI.out.fF y) (fun h => .inr (by omega)), fun y hy => (hv6 y hy).elim (HI.out.fv y) (fun h => .inr (by omega)), by have := HI.out.len; have := HMUL.out; omega⟩
              clear hs6 hm6 hf6 hv6
              go_wp2_with fail
              refine ⟨⟨j + 1, o2, s6, F6, v6, rfl, by rw [Int.natCast_add]; rfl, by omega, HI6⟩, ?_⟩
              simp [intOf]; omega
          · rw [if_pos ⟨hn, by rw [HLEV.out]; omega⟩] at hRe
            have HRE : Hid ((Except.error 3, s1) = R) := Lib.hid hRe
            have hq : (x.level != (k : Int)) = true := by simpa using hlv
            clear hRe hn hnf
            go_wp2_with fail
            go_ret2
            rw [← HRE.out]
            exact ⟨F1, rfl, by decide, HS5.out.at_, HMD5.out, HI.out.fF⟩
theorem all_any : ∀ (k : Nat) (hk : k ≤ 3) {wB w : World} {st : σ} {F0 F : Nat → Prop} {v : Value} {out : List PtrT} (hS : AllSt C F0 wB w st F v out) (p : PtrT) (hp : p.wf) (hl : isNone p = true ∨ p.level = (k : Int)) (N : Nat) (hN : out.length + tn k ≤ N) (hN2 : N ≤ 100000) (hok : C.Ok (allM S (k + 1) p out st).2),
    Calls Tryd.prog 35 #[.iface ty (.pointer (some a)), .agg (encPtr p).toArray, v] w (AllR C F0 wB w F v N (allM S (k + 1) p out st)) := by
  intro k
  induction k with
  | zero =>
    intro hk wB w st F0 F v out hS p hp hl N hN hN2 hok
    by_cases hn : isNone p = true
    · have e : allM S (0 + 1) p out = M.ret out := by rw [allM, if_pos hn]
      rw [e]
      exact all_none hS p hp hn N (by omega)
    · have hl0 : p.level = 0 := hl.resolve_left hn
      have e : allM S (0 + 1) p out = M.ret (out ++ [p]) := by rw [allM, if_neg hn, if_pos hl0]
      rw [e]
      exact all_zero hS p hp (by simpa using hn) hl0 N hN hN2
  | succ k ih =>
    intro hk wB w st F0 F v out hS p hp hl N hN hN2 hok
    by_cases hn : isNone p = true
    · have e : allM S (k + 1 + 1) p out = M.ret out := by rw [allM, if_pos hn]
      rw [e]
      exact all_none hS p hp hn N (by omega)
    · exact all_succ k (by omega) hS p hp (by simpa using hn) (by have := hl.resolve_left hn; omega) N hN hN2 hok (fun hS p hp hl N hN hN2 hok => ih (by omega) hS p hp hl N hN hN2 hok)
/-- what All answers -/
def AllsR (C : StoreC S ty a) (w : World) (F : Nat → Prop) : Except Nat (List PtrT) × σ → Ending → World → Prop
  | (.ok out, st), e, w' => ∃ v' F', e = .returned (.tuple #[v', .int .i64 0]) ∧ AllSt C F w w' st F' v' out
  | (.error n, st), e, w' => e = .returned (.tuple #[.slice none 0 0, .int .i64 (n : Nat)]) ∧ n ≠ 0 ∧ C.Step F st w w'
theorem tn_le (k : Nat) (h : k ≤ 3) : tn k ≤ 85 := by
  have : k = 0 ∨ k = 1 ∨ k = 2 ∨ k = 3 := by omega
  rcases this with rfl | rfl | rfl | rfl <;> decide
set_option maxHeartbeats 1000000 in
set_option maxRecDepth 100000 in
theorem All_any {w : World} {st : σ} {F : Nat → Prop} (h : C.Is w st F) (n : NodeT) (hn : n.wf) (k : Nat) (hk : k ≤ 3) (hl : isNone n.root = true ∨ n.root.level = (k : Int)) (hok : C.Ok (allM S (k + 1) n.root [] st).2) :
    Calls Tryd.prog 17 #[.iface ty (.pointer (some a)), .agg (encN n).toArray] w (AllsR C w F (allM S (k + 1) n.root [] st)) := by
  obtain ⟨w0, hw0⟩ : ∃ w0, w0 = w.alloc (.cells (encN n).toArray 37) := ⟨_, rfl⟩
  have hb : Blk w0 w.heap.size 37 (encN n) := by rw [hw0]; exact Blk.new w _ _
  have hbel : Below w.heap.size w w0 := by rw [hw0]; exact (Below.refl _ _).alloc (Nat.le_refl _) _
  have hat : C.At F st w w0 F := (StoreC.At.start h).below hbel
  have HA := Lib.hid (all_any (C := C) k hk (F0 := F) (wB := w) (w := w0) (st := st) (F := F) (v := .slice none 0 0) (out := []) ⟨hat, ⟨rfl, .inl ⟨rfl, rfl⟩⟩, fun g hg => by cases hg⟩ n.root hn.root hl (tn k) (by simp) (by have := tn_le k hk; omega) hok)
  have hl1 := fun op a next Q => loadW_mid (P := Tryd.prog) (t := 35) (range_root hb) Tryd.underlying35 rfl iszPt op a next Q
  have HBEL := Lib.hid hbel
  have HB := Lib.hid hb
  have HH := Lib.hid h
  obtain ⟨R, hR⟩ : ∃ R, allM S (k + 1) n.root [] st = R := ⟨_, rfl⟩
  rw [hR] at HA ⊢
  clear hb hbel hat hok hR hl
  go_enter Tryd.func17, Tryd.ntmps17
  go_upto_region 1 with fail
  rw [show w.alloc (.cells (encN n).toArray 37) = w0 from hw0.symm]
  clear hw0
  go_wp2_with fail
  refine HA.out.mono ?_
  rcases R with ⟨r | out, s1⟩
  · rintro e w1 ⟨F1, rfl, hr0, hat1, hm1, hf1⟩
    have HAT := Lib.hid hat1
    clear hat1 hm1 hf1
    go_wp2_with fail
    go_ret2
    exact ⟨rfl, hr0, HAT.out.fin⟩
  · rintro e w1 ⟨v1, F1, rfl, hs1, hm1, hf1, hv1, hlen⟩
    have HS := Lib.hid hs1
    clear hs1 hm1 hf1 hv1 hlen
    go_wp2_with fail
    go_ret2
    exact ⟨v1, F1, rfl, HS.out⟩
end
end Go.Proofs.YtbhofablndjeoaaDoor
