/- Parts of the proof of the statement that the last file of this claim proves: lemmas, without any condition of their own beyond those that each states. -/
import Derived.Test.YtfaemcfjbbbbdaaGreatYB6
import Derived.Deep.CutBlock
import Derived.Maps.AppendAt
set_option linter.unusedVariables false
set_option linter.unusedSimpArgs false
set_option linter.unnecessarySimpa false
namespace Go.Proofs.YtfaemcfjbbbbdaaGreat
open Go.RowKit
attribute [local go_sem ↓] Go.wp_at_zero Go.wp_at_succ
theorem IsSto.fix {w : World} {sb : Nat} {S : StoT} {V : DvV} {bb d : Nat} {T : Nat → Prop} (h : IsSto w sb S V bb (some d) T) (n : Nat) : T d ∧ StoStep { S with fixed := n } V sb bb (some d) T w (w.setCell ⟨d, 0, none⟩ (.int .i64 (n : Nat))) := by
 obtain ⟨eb, ms, bv, F, h, hT⟩ := h
 obtain ⟨hd, hrow⟩ := h.don
 have hTd : T d := (hT d).2 (.inr (.inr (.inr (.inl rfl))))
 have set1 : ∀ {k : Nat}, k ≠ d → (w.setCell ⟨d, 0, none⟩ (.int .i64 (n : Nat))).heap[k]? = w.heap[k]? := fun {k} hk => Below.heap_setCell _ _ _ _ hk
 have hnd : ∀ {k : Nat} {cs : Array Value} {e : Nat} {fr : Nat × Nat}, w.heap[k]? = some (Obj.cells cs e fr) → e ≠ 102 → k ≠ d := fun {k cs e fr} hk he e2 => by
  subst e2
  have h2 := hd
  unfold Blk at h2
  rw [hk] at h2
  simp only [Option.some.injEq, Obj.cells.injEq] at h2
  exact he h2.2.1
 refine ⟨hTd, T, ⟨eb, ms, bv, F, ⟨?_, ?_, ?_, h.sn, ?_, ?_⟩, hT⟩, (Mod.refl _ _).setCell (.inl hTd), fun g hg => .inl hg⟩
 ·have hb := h.blk
  exact hb.other (a := ⟨d, 0, none⟩) (hnd hb (by decide)) _
 ·exact h.dvs.keep (fun g hf => set1 (fun e => by
   subst e
   rcases h.dvs.type g hf _ _ _ hd with e1 | e1 | e1 | e1 | e1 <;> exact absurd e1 (by decide)))
 ·refine h.bok.typed (fun g cs e fr hg2 he => ?_)
  have e2 : e ≠ 102 := by rcases he with e3 | e3 | e3 | e3 | e3 | e3 <;> rw [e3] <;> decide
  rw [set1 (hnd hg2 e2)]
  exact hg2
 ·exact hd.setCell 0 _
 ·exact own_keep hrow (fun g hg2 => by
   obtain ⟨c2, f2, h2⟩ := own_type hrow hg2
   exact set1 (hnd h2 (by decide)))
theorem encCm_ones (s : Bs) (a b c : Int) : ∀ u ∈ encCm s a b c, u.oneCell' = true := by
 intro u hu
 simp only [encCm, List.mem_cons, List.not_mem_nil, or_false] at hu
 rcases hu with rfl | rfl | rfl | rfl <;> rfl
structure GeS (sb g3 : Nat) (sc : List Value) (p : PtrT) (w : World) : Prop where
 b : Blk w sb 41 sc
 p : Blk w g3 49 (encPtr p)
set_option maxRecDepth 100000 in
set_option maxHeartbeats 2000000 in
theorem get_yes {w : World} {sb : Nat} {S : StoT} {V : DvV} {bb : Nat} {dn : Option Nat} {T : Nat → Prop} (h : IsSto w sb S V bb dn T) (p : PtrT) (hr : S.x.right = true) (hp : p.ok) (hpr : ptrRight S.x.gs S.x.secs p = true) (hf : S.x.fits) {i : Nat} {d : Int} {s : Bs} (hl : lookX S.x p = some (i, d, s)) (hs : blkOk s = true) (hsz : p.size = ((s.length / 64 : Nat) : Int)) (hil : i + 1 ≤ (plL p).length) (K : Nat) (hK : S.x.deep K) (hK2 : K + 200 ≤ 1000000000)
  (hfx : S.fixed ≤ 1000000) (hmn : (mendedL s ((plL p).take (i + 1)) S.x 0).1 ≤ 1000) (hkp : Kept S.x (mendedL s ((plL p).take (i + 1)) S.x 0).2) :
  Calls Tryz.prog 13 #[.pointer (some ⟨sb, 0, none⟩), .agg (encPtr p).toArray] w fun e w' => e = .returned (.tuple #[.string ⟨s.toArray⟩, .int .i64 0]) ∧ ∃ dn', (∀ d, dn = some d → dn' = some d) ∧ StoStep { S with x := (mendedL s ((plL p).take (i + 1)) S.x 0).2, fixed := S.fixed + (mendedL s ((plL p).take (i + 1)) S.x 0).1 } V sb bb dn' T w w' := by
 obtain ⟨ga, gc, la, lc, wa, acp, rfl⟩ := h.form
 obtain ⟨mn, hmn2⟩ : ∃ mn, mn = (mendedL s ((plL p).take (i + 1)) S.x 0).1 := ⟨_, rfl⟩
 obtain ⟨x2, hx2⟩ : ∃ x2, x2 = (mendedL s ((plL p).take (i + 1)) S.x 0).2 := ⟨_, rfl⟩
 have HRD : Hid (∀ W T1, IsSto W sb S ⟨.slice ga S.x.gs.length gc, .slice la S.x.ds.length lc, .slice wa S.x.ds.length acp⟩ bb dn T1 → Calls Tryz.prog 38 #[.agg ([.slice ga S.x.gs.length gc, .int .i64 S.x.secs, .slice la S.x.ds.length lc, .slice wa S.x.ds.length acp]).toArray, .agg (encPtr p).toArray] W fun e w' => e = .returned (.tuple #[.agg (encCm s i d (mn : Nat)).toArray, .int .i64 0]) ∧ StoStep { S with x := x2 } ⟨.slice ga S.x.gs.length gc, .slice la S.x.ds.length lc, .slice wa S.x.ds.length acp⟩ sb bb dn T1 W w') := Lib.hid (fun W T1 hW => by
  obtain ⟨F, hd, _, hstp⟩ := hW.dvs
  have h1 := hread_any hd hr p hp hpr hf hl hs hsz hil K hK hK2
  rw [← hmn2, ← hx2] at h1
  exact h1.mono (fun e w' h2 => ⟨h2.1, (hstp _ _ h2.2 (by rw [hx2]; exact hkp.gs) (by rw [hx2]; exact hkp.secs)).1⟩))
 have HSC : Hid (x2.secs = S.x.secs) := Lib.hid (by rw [hx2]; exact hkp.secs)
 rw [← hmn2] at hmn ⊢
 rw [← hx2]
 have hbA : Below w.heap.size w (w.alloc (.cells (encPtr p).toArray 49)).drew := ((Below.refl _ _).alloc (Nat.le_refl _) _).drew
 have HAT := Lib.hid ((StoAt.start h).below hbA)
 have HATb := Lib.hid (HAT.out.alloc (.cells (encCm [] 0 0 0).toArray 105))
 have HSW : Hid (sb < w.heap.size) := Lib.hid h.cells.lt
 have hS0 : GeS sb w.heap.size (stoC ⟨.slice ga S.x.gs.length gc, .slice la S.x.ds.length lc, .slice wa S.x.ds.length acp⟩ S bb dn) p (w.alloc (.cells (encPtr p).toArray 49)).drew := ⟨HAT.out.is.cells, Blk.new w _ (encPtr p)⟩
 have HNT : Hid (¬ T w.heap.size) := Lib.hid (fun hf => by have := h.lt _ hf; omega)
 have HFX := Lib.hid hfx
 have HMN := Lib.hid hmn
 clear h hr hp hpr hf hl hs hsz hil hK hK2 hfx hmn hkp hmn2 hx2 hbA
 obtain ⟨fx, hfe⟩ : ∃ fx, fx = S.fixed + mn := ⟨_, rfl⟩
 rw [← hfe]
 have HFE := Lib.hid hfe
 clear hfe
 go_enter Tryz.func13, Tryz.ntmps13
 go_upto_region 3 with fail
 go_cut [6, 7] (fun v6 v7 wx => ∃ g6 T2, v6 = .pointer (some ⟨g6, 0, none⟩) ∧ v7 = .int .i64 0 ∧ Hid (StoAt { S with x := x2 } ⟨.slice ga S.x.gs.length gc, .slice la S.x.ds.length lc, .slice wa S.x.ds.length acp⟩ sb bb dn T w wx T2) ∧ Hid (Blk wx g6 105 (encCm s i d (mn : Nat))) ∧ Hid (¬ T2 g6))
 case first =>
  refine wp_region_held_drew (S := GeS sb w.heap.size (stoC ⟨.slice ga S.x.gs.length gc, .slice la S.x.ds.length lc, .slice wa S.x.ds.length acp⟩ S bb dn) p) (by kernel_rfl) hS0 (fun hS0 => ?_)
  refine rtd 0 ?_; refine rtd 1 ?_; refine rtd 2 ?_
  refine rtg 3 ?vy3 ?yy3 ?_
  case yy3 => refine yieldsIf_load_mid (by kernel_rfl) 37 (.tmp 13) ?_ sb (0) ?_ ([.slice ga S.x.gs.length gc, .int .i64 S.x.secs, .slice la S.x.ds.length lc, .slice wa S.x.ds.length acp]) _ (fun w' (hw : GeS _ _ _ _ w') => range_preS (cs := [.slice ga S.x.gs.length gc, .int .i64 S.x.secs, .slice la S.x.ds.length lc, .slice wa S.x.ds.length acp]) hw.b) Tryz.underlying37 rfl iszDsM <;> rfl
  refine rtg 4 ?vy4 ?yy4 ?_
  case yy4 => refine yieldsIf_load_mid (by kernel_rfl) 49 (.tmp 3) ?_ w.heap.size (0) ?_ (encPtr p) _ (fun w' (hw : GeS _ _ _ _ w') => range0M hw.p) Tryz.underlying49 rfl iszPt <;> rfl
  refine wpAnyH_ready (rs := [5, 9]) (by kernel_rfl) (by simp) ?_
  refine AllReadyH.cons (by simp only [List.getElem?_toArray, List.getElem?_cons_succ, List.getElem?_cons_zero]; rfl) (fun K hK => ?_) (AllReadyH.cons (by simp only [List.getElem?_toArray, List.getElem?_cons_succ, List.getElem?_cons_zero]; rfl) (fun K hK => ?_) AllReadyH.nil)
  ·go_simp
   refine (HRD.out _ _ HAT.out.is).mono ?_
   rintro e w6 ⟨rfl, hst⟩
   obtain ⟨T6, hat6, hfr6, hm6⟩ := HAT.out.step hst
   have HAT6 := Lib.hid hat6
   have HP6 : Hid (GeS sb w.heap.size (stoC ⟨.slice ga S.x.gs.length gc, .slice la S.x.ds.length lc, .slice wa S.x.ds.length acp⟩ S bb dn) p w6) := Lib.hid ⟨by have h9 := hat6.is.cells; unfold stoC at h9 ⊢; rw [← HSC.out]; exact h9, hm6.blk (hS0.p) HNT.out⟩
   clear hst hat6 hfr6 hm6
   try dsimp only
   refine hK.out _ _ (HP6.out) (fun hSyp5 => ?_)
   try simp only [Act.put, z1, z2, z3]
   refine rtd 6 ?_; refine rtd 7 ?_; refine rtd 8 ?_
   refine rr1 (i := 9) (h := fun K hK => ?_)
   go_simp
   skip
   refine hK.out _ _ (⟨HP6.out.b.alloc _, HP6.out.p.alloc _⟩) (fun hSyp9 => ?_)
   try simp only [Act.put, z1, z2, z3]
   refine rr1 (i := 10) (h := fun K hK => ?_)
   rw [if_pos (by kernel_rfl)]
   refine wp_store_mid 105 (.tmp 6) (.tmp 17) rfl w6.heap.size (0) (encCm s i d (mn : Nat)).toArray rfl rfl (blk_there (Blk.new w6 105 (encCm [] 0 0 0)) (Nat.le_refl 4)) infoCm (all_oneCell_toArray (encCm_ones _ _ _ _)) ?_
   refine hK.out _ _ (⟨(HP6.out.b.alloc _).away 0 _ (by have := HP6.out.b.lt; omega), (HP6.out.p.alloc _).away 0 _ (by have := HP6.out.p.lt; omega)⟩) (fun hSyp10 => ?_)
   try simp only [Act.put, z1, z2, z3]
   refine rtd 11 ?_
   have HT : Hid (StoAt { S with x := x2 } ⟨.slice ga S.x.gs.length gc, .slice la S.x.ds.length lc, .slice wa S.x.ds.length acp⟩ sb bb dn T w ((w6.alloc (.cells (encCm [] 0 0 0).toArray 105)).setCells w6.heap.size 0 (encCm s i d (mn : Nat))) T6 ∧ Blk ((w6.alloc (.cells (encCm [] 0 0 0).toArray 105)).setCells w6.heap.size 0 (encCm s i d (mn : Nat))) w6.heap.size 105 (encCm s i d (mn : Nat)) ∧ ¬ T6 w6.heap.size) := Lib.hid ⟨(HAT6.out.alloc _).other (Blk.new w6 _ (encCm [] 0 0 0)) (by unfold BookTy; decide) (HAT6.out.fresh (Nat.le_refl _)) HAT6.out.mo.size (setCells_grown _ _ _ _), (Blk.new w6 _ (encCm [] 0 0 0)).put rfl, HAT6.out.fresh (Nat.le_refl _)⟩
   refine wpAnyH_done (by kernel_rfl) ?_ _
   go_wp2_with fail
   go_meet
   exact ⟨_, T6, rfl, rfl, Lib.hid HT.out.1, Lib.hid HT.out.2.1, Lib.hid HT.out.2.2⟩
  ·go_simp
   skip
   refine hK.out _ _ (⟨hS0.b.alloc _, hS0.p.alloc _⟩) (fun hSyq9 => ?_)
   try simp only [Act.put, z1, z2, z3]
   refine rr1 (i := 5) (h := fun K hK => ?_)
   go_simp
   refine (HRD.out _ _ HATb.out.is).mono ?_
   rintro e w6 ⟨rfl, hst⟩
   obtain ⟨T6, hat6, hfr6, hm6⟩ := HATb.out.step hst
   have HAT6 := Lib.hid hat6
   have HP6 : Hid (GeS sb w.heap.size (stoC ⟨.slice ga S.x.gs.length gc, .slice la S.x.ds.length lc, .slice wa S.x.ds.length acp⟩ S bb dn) p w6) := Lib.hid ⟨by have h9 := hat6.is.cells; unfold stoC at h9 ⊢; rw [← HSC.out]; exact h9, hm6.blk (hS0.p.alloc _) HNT.out⟩
   have HX6 : Hid (Blk w6 (w.heap.size + 1) 105 (encCm [] 0 0 0) ∧ ¬ T6 (w.heap.size + 1)) := Lib.hid ⟨hm6.blk (Blk.newAt (g := w.heap.size + 1) _ _ (by simp)) (HAT.out.fresh (by simp)), hfr6 _ (by simp) (HAT.out.fresh (by simp))⟩
   clear hst hat6 hfr6 hm6
   try dsimp only
   refine hK.out _ _ (HP6.out) (fun hSyq5 => ?_)
   try simp only [Act.put, z1, z2, z3]
   refine rtd 6 ?_; refine rtd 7 ?_; refine rtd 8 ?_
   refine rr1 (i := 10) (h := fun K hK => ?_)
   rw [if_pos (by kernel_rfl)]
   refine wp_store_mid 105 (.tmp 6) (.tmp 17) rfl (w.heap.size + 1) (0) (encCm s i d (mn : Nat)).toArray rfl rfl (blk_there HX6.out.1 (Nat.le_refl 4)) infoCm (all_oneCell_toArray (encCm_ones _ _ _ _)) ?_
   refine hK.out _ _ (⟨HP6.out.b.away 0 _ (by have := HSW.out; omega), HP6.out.p.away 0 _ (by omega)⟩) (fun hSyq10 => ?_)
   try simp only [Act.put, z1, z2, z3]
   refine rtd 11 ?_
   have HT : Hid (StoAt { S with x := x2 } ⟨.slice ga S.x.gs.length gc, .slice la S.x.ds.length lc, .slice wa S.x.ds.length acp⟩ sb bb dn T w (w6.setCells (w.heap.size + 1) 0 (encCm s i d (mn : Nat))) T6 ∧ Blk (w6.setCells (w.heap.size + 1) 0 (encCm s i d (mn : Nat))) (w.heap.size + 1) 105 (encCm s i d (mn : Nat)) ∧ ¬ T6 (w.heap.size + 1)) := Lib.hid ⟨HAT6.out.other HX6.out.1 (by unfold BookTy; decide) HX6.out.2 (by omega) (setCells_grown _ _ _ _), HX6.out.1.put rfl, HX6.out.2⟩
   refine wpAnyH_done (by kernel_rfl) ?_ _
   go_wp2_with fail
   go_meet
   exact ⟨_, T6, rfl, rfl, Lib.hid HT.out.1, Lib.hid HT.out.2.1, Lib.hid HT.out.2.2⟩
 case rest =>
  obtain ⟨g6, T2, rfl, rfl, HAT2, HG6, HN6⟩ := hcut
  have HAT2d := Lib.hid (HAT2.out.below (Below.refl _ _).drew)
  have hS4 : Blk wc.drew g6 105 (encCm s i d (mn : Nat)) := HG6.out
  have HADD : Hid (IntKind.i64.wrap (((S.fixed : Nat) : Int) + ((mn : Nat) : Int)) = ((fx : Nat) : Int)) := Lib.hid (by have := HFX.out; have := HMN.out; have := HFE.out; rw [IntWalk.i64_in _ (by omega)]; omega)
  clear HATb hS0
  go_upto_region 4 with fail
  refine wp_region_held_drew (S := fun W => Blk W g6 105 (encCm s i d (mn : Nat))) (by kernel_rfl) hS4 (fun hS4 => ?_)
  refine rtd 0 ?_; refine rtd 5 ?_
  refine rtv (i := 6) (v := ?vx6) (hy := ?yx6) (h := ?_)
  case yx6 => intro w hSw; (try dsimp only at hSw); go_simp; rw [hSw.cell 3]; rfl
  try simp only [Act.put, z1, z2, z3]
  refine rr1 (i := 1) (h := fun K hK => ?_)
  go_simp
  refine (work_any2 HAT2d.out.is).mono ?_
  rintro e w7 ⟨dd, rfl, hst, hdd⟩
  obtain ⟨T7, hat7, hfr7, hm7⟩ := HAT2d.out.step hst
  have HAT7 := Lib.hid hat7
  have HD7 := Lib.hid hdd
  have HG7 := Lib.hid (hm7.blk hS4 HN6.out)
  have HN7 := Lib.hid (hfr7 _ hS4.lt HN6.out)
  clear hst hdd hat7 hfr7 hm7
  try dsimp only
  refine hK.out _ _ (HG7.out) (fun hSx1 => ?_)
  try simp only [Act.put, z1, z2, z3]
  refine rtd 2 ?_; refine rtd 3 ?_
  obtain ⟨bv, hbv⟩ := HAT7.out.is.done
  have e4 : w7.cell? ⟨dd, 0, none⟩ = some (.int .i64 (S.fixed : Nat)) := hbv.cell 0
  have f4 := hbv.frozen 0
  obtain ⟨hTd, hfx⟩ := HAT7.out.is.fix fx
  obtain ⟨T8, hat8, hfr8, _⟩ := HAT7.out.step hfx
  have HAT8 := Lib.hid hat8
  have HNE : Hid (g6 ≠ dd) := Lib.hid (fun e => HN7.out (by rw [e]; exact hTd))
  clear hbv hTd hfx hat8 hfr8
  refine rr1 (i := 4) (h := fun K hK => ?_)
  go_simp
  skip
  refine hK.out _ _ (HG7.out) (fun hSx4 => ?_)
  try simp only [Act.put, z1, z2, z3]
  refine rtv (i := 7) (v := ?vx7) (hy := ?yx7) (h := ?_)
  case yx7 => intro w hSw; (try dsimp only at hSw); go_simp; rw [HADD.out]
  try simp only [Act.put, z1, z2, z3]
  refine rtd 8 ?_; refine rtd 9 ?_
  refine rr1 (i := 10) (h := fun K hK => ?_)
  go_simp
  skip
  refine hK.out _ _ ((HG7.out.other (a := ⟨dd, 0, none⟩) HNE.out _)) (fun hSx10 => ?_)
  try simp only [Act.put, z1, z2, z3]
  have x0 : (w7.setCell ⟨dd, 0, none⟩ (.int .i64 ((fx : Nat) : Int))).cell? ⟨g6, 0, none⟩ = some (.string ⟨s.toArray⟩) := (HG7.out.other (a := ⟨dd, 0, none⟩) HNE.out _).cell 0
  refine wpAnyH_done (by kernel_rfl) ?_ _
  go_wp2_with fail
  go_ret2
  exact ⟨rfl, some dd, fun d0 e => by rw [HD7.out d0 e], HAT8.out.fin⟩
end Go.Proofs.YtfaemcfjbbbbdaaGreat
namespace Go.Proofs.YtfaemcfjbbbbdaaGreat
open Go.RowKit
theorem devX_getD {gs : Gs} {secs : Int} {al ll : List Bool} {k d : Nat} (hd : d < devsN gs) : (devX gs secs al ll k).ds.getD d dvD = (if d < k ∧ ll.getD d false = true then (freshD secs.toNat 0).lose else freshD secs.toNat 0) ∧ (devX gs secs al ll k).away.getD d true = (decide (d < k) && al.getD d false) := by
 unfold devX
 constructor
 ·rw [List.getD_eq_getElem?_getD, List.getElem?_map, List.getElem?_range hd]; rfl
 ·rw [List.getD_eq_getElem?_getD, List.getElem?_map, List.getElem?_range hd]; rfl
theorem devX_here {gs : Gs} {secs : Int} {al ll : List Bool} {d : Nat} (hd : d < devsN gs) : (devX gs secs al ll (devsN gs)).here d = (!al.getD d false && !ll.getD d false) := by
 obtain ⟨h1, h2⟩ := devX_getD (gs := gs) (secs := secs) (al := al) (ll := ll) (k := devsN gs) hd
 unfold DvsT.here
 rw [h1, h2, decide_eq_true hd, Bool.true_and]
 congr 1
 cases hl : ll.getD d false with
 | true => rw [if_pos ⟨hd, rfl⟩]; rfl
 | false => rw [if_neg (fun h => by cases h.2)]; rfl
theorem devX_out {gs : Gs} {secs : Int} {al ll : List Bool} {k d : Nat} (hd : devsN gs ≤ d) : (devX gs secs al ll k).ds.getD d dvD = dvD := by
 unfold devX
 rw [List.getD_eq_getElem?_getD, List.getElem?_eq_none (by simpa using hd)]
 rfl
theorem blank_get (n : Nat) (b : UInt8) (k : Nat) : (blankL n b).getD k [] = [] ∨ ((blankL n b).getD k []).length = 64 := by
 unfold blankL
 rw [List.getD_eq_getElem?_getD, List.getElem?_replicate]
 split
 ·right; simp
 ·left; rfl
def OneOut (gs : Gs) (al ll : List Bool) : Prop := ∀ g d e, g < gs.length → (wsum gs g).toNat ≤ d → d < (wsum gs g).toNat + (gs.getD g (0, 0)).2.toNat → (wsum gs g).toNat ≤ e → e < (wsum gs g).toNat + (gs.getD g (0, 0)).2.toNat → (al.getD d false = true ∨ ll.getD d false = true) → 2 ≤ (gs.getD g (0, 0)).2 ∧ ((al.getD e false = true ∨ ll.getD e false = true) → d = e)
theorem wsum_top {gs : Gs} {secs : Int} (hr : rightB gs secs = true) {g : Nat} (hg : g < gs.length) : (wsum gs g).toNat + (gs.getD g (0, 0)).2.toNat ≤ devsN gs := by
 have h1 := wsum_stepS hg
 have h2 := wsum_mono hr (gs.length - (g + 1)) (g + 1) (by omega)
 rw [show g + 1 + (gs.length - (g + 1)) = gs.length by omega] at h2
 have h3 := (wsum_bd hr g (by omega)).1
 have h4 := getD_right hr hg
 unfold devsN
 omega
theorem devX_ok {gs : Gs} {secs : Int} {al ll : List Bool} (hr : rightB gs secs = true) (ho : OneOut gs al ll) : (devX gs secs al ll (devsN gs)).one ∧ (devX gs secs al ll (devsN gs)).fits ∧ (devX gs secs al ll (devsN gs)).deep 0 := by
 have hsp := rightB_spec hr
 have hcase : ∀ i, (devX gs secs al ll (devsN gs)).ds.getD i dvD = freshD secs.toNat 0 ∨ (devX gs secs al ll (devsN gs)).ds.getD i dvD = (freshD secs.toNat 0).lose ∨ ((devX gs secs al ll (devsN gs)).ds.getD i dvD = dvD ∧ devsN gs ≤ i) := fun i => by
  by_cases hi : i < devsN gs
  ·rw [(devX_getD hi).1]
   split
   ·exact .inr (.inl rfl)
   ·exact .inl rfl
  ·exact .inr (.inr ⟨devX_out (by omega), by omega⟩)
 refine ⟨⟨fun i => ?_, ?_, fun g d e hg h1 h2 h3 h4 h5 h6 => ?_, fun g d hg h1 h2 h3 => ?_⟩, fun i k => ?_, fun i k => ?_⟩
 ·rcases hcase i with h | h | ⟨h, h2⟩
  ·rw [h]; exact .inl rfl
  ·rw [h]; exact .inl rfl
  ·right; rw [(devX_n gs secs al ll (devsN gs)).1]; exact h2
 ·refine (right_iff _).2 ⟨hr, (devX_n gs secs al ll (devsN gs)).1, by rw [(devX_n gs secs al ll (devsN gs)).1, (devX_n gs secs al ll (devsN gs)).2], fun i hi => ?_⟩
  rw [(devX_n gs secs al ll (devsN gs)).1] at hi
  have hl : (blankL secs.toNat 0).length = secs.toNat := blankL_len _ _
  show (((devX gs secs al ll (devsN gs)).ds.getD i dvD).med.length : Int) = secs
  rcases hcase i with h | h | ⟨h, h2⟩
  ·rw [h]; show ((blankL secs.toNat 0).length : Int) = secs; omega
  ·rw [h]; show ((blankL secs.toNat 0).length : Int) = secs; omega
  ·omega
 ·have ht := wsum_top hr (g := g) hg
  rw [devX_here (by have : (devX gs secs al ll (devsN gs)).gs = gs := rfl; rw [this] at h2; omega)] at h5
  rw [devX_here (by have : (devX gs secs al ll (devsN gs)).gs = gs := rfl; rw [this] at h4; omega)] at h6
  refine (ho g d e hg h1 h2 h3 h4 ?_).2 ?_
  ·cases ha : al.getD d false with
   | true => exact .inl rfl
   | false => right; rw [ha] at h5; simpa using h5
  ·cases ha : al.getD e false with
   | true => exact .inl rfl
   | false => right; rw [ha] at h6; simpa using h6
 ·have ht := wsum_top hr (g := g) hg
  rw [devX_here (by have : (devX gs secs al ll (devsN gs)).gs = gs := rfl; rw [this] at h2; omega)] at h3
  refine (ho g d d hg h1 h2 h1 h2 ?_).1
  cases ha : al.getD d false with
  | true => exact .inl rfl
  | false => right; rw [ha] at h3; simpa using h3
 ·have hn : fit1 (((devX gs secs al ll (devsN gs)).ds.getD i dvD).now k) = true := by
   unfold fit1
   rcases hcase i with h | h | ⟨h, h2⟩
   ·rw [h]; exact decide_eq_true (by simpa [DevT.now, freshD] using blank_get secs.toNat 0 k)
   ·rw [h]; exact decide_eq_true (by simpa [DevT.now, freshD, DevT.lose] using blank_get secs.toNat 0 k)
   ·rw [h]; exact decide_eq_true (by left; simp [DevT.now, dvD])
  exact hn
 ·rcases hcase i with h | h | ⟨h, h2⟩
  ·rw [h]; simp [freshD]
  ·rw [h]; simp [freshD, DevT.lose]
  ·rw [h]; simp [dvD]
theorem newSt_ok {gs : Gs} {secs : Int} {al ll : List Bool} {sn : SN} {txg keep : Int} (hr : rightB gs secs = true) (ho : OneOut gs al ll) (hl : sn.length = gs.length) (hs : ∀ j, j < gs.length → sn.getD j sD = ((sect (gs.getD j (0, 0)) secs).toNat, [])) : StOk (newSt gs secs al ll sn txg keep) [] 0 := by
 obtain ⟨h1, h2, h3⟩ := devX_ok hr ho
 exact ⟨h1, h2, h3, Inv.fresh hr hl hs, Cov.empty hl hs⟩
theorem out_nil (gs : Gs) : OneOut gs [] [] := fun g d e _ _ _ _ _ h => by rcases h with h | h <;> simp at h
theorem get_whole {w : World} {sb : Nat} {S : StoT} {V : DvV} {bb : Nat} {dn : Option Nat} {T : Nat → Prop} {L : List St} {K : Nat} (h : IsSto w sb S V bb dn T) (hok : StOk S L K) (hK2 : K + 200 ≤ 1000000000) (hfx : S.fixed ≤ 1000000) {p : PtrT} {t : Bs} (hp : PWhole S.x p t) :
  Calls Tryz.prog 13 #[.pointer (some ⟨sb, 0, none⟩), .agg (encPtr p).toArray] w fun e w' => e = .returned (.tuple #[.string ⟨t.toArray⟩, .int .i64 0]) ∧ ∃ dn', (∀ d, dn = some d → dn' = some d) ∧ StoStep S V sb bb dn' T w w' := by
 obtain ⟨d, hl⟩ := hp.look hok.one
 have hm := hp.mended hok.one.right (0 + 1) 0
 have h1 := get_yes h p hok.one.right hp.ok hp.right hok.fits hl hp.blk hp.size (by rw [plL_len]; split <;> omega) K hok.deep hK2 hfx (by rw [hm]; exact Nat.zero_le _) (by rw [hm]; exact Kept.refl _)
 rw [hm] at h1
 exact h1
theorem plc_may2 {S : StoT} {L : List St} {K : Nat} (h : StOk S L K) (size level : Int) : (plcX S size level).err = 0 → ∀ q ∈ (plcX S size level).l, mayC S.x.gs S.x.secs (q.1 : Nat) (q.2 : Nat) size = true := by
 intro he
 by_cases hs : 1 ≤ size ∧ size ≤ 4
 ·rcases plc_spec h (size := size) (level := level) hs.1 hs.2 with ⟨e, _⟩ | ⟨_, _, _, p, q, two, e, hr, _⟩
  ·rw [e] at he; cases he
  ·rw [e]; exact mayN hr
 ·exfalso
  have hg : ∀ two, (getA S.x.gs S.x.secs S.sn S.es size two) = ⟨(0, 0), (0, 0), 1, S.sn, S.es⟩ := fun two => by unfold getA; rw [if_neg hs]
  unfold plcX plc1 at he
  rw [hg true] at he
  dsimp only at he
  rw [hg false] at he
  split at he
  ·cases he
  ·split at he
   ·rw [if_neg (by decide)] at he; cases he
   ·cases he
theorem put_law {w : World} {sb : Nat} {S : StoT} {V : DvV} {bb : Nat} {dn : Option Nat} {T : Nat → Prop} {L : List St} {K : Nat} (h : IsSto w sb S V bb dn T) (hok : StOk S L K) (hK2 : K + 200 ≤ 1000000000) (hkp : 0 ≤ S.keep ∧ S.keep ≤ 1000000000) (hbn : S.born.length ≤ 1000000) (t : Bs) (level : Int) (htl : t.length ≤ 1000000) :
  Calls Tryz.prog 12 #[.pointer (some ⟨sb, 0, none⟩), .string ⟨t.toArray⟩, .int .i64 level] w (PutFn w sb V bb dn T (putR S t level)) := by
 exact put_any h t level htl hok.one.right K hok.deep hK2 hok.one.takes hkp hbn (plc_may2 hok _ level)
end Go.Proofs.YtfaemcfjbbbbdaaGreat
namespace Go.Proofs.YtfaemcfjbbbbdaaGreat
open Go.RowKit
theorem two_ok {gs : Gs} {secs : Int} {sn : SN} (hr : rightB gs secs = true) (hl : sn.length = gs.length) (hs : ∀ j, j < gs.length → sn.getD j sD = ((sect (gs.getD j (0, 0)) secs).toNat, [])) {size : Int} (h1 : 1 ≤ size) (h2 : size ≤ 4) (h2g : 2 ≤ gs.length) : (getA gs secs sn (List.replicate gs.length 0) size true).err = 0 := by
 have hi := Inv.fresh hr hl hs
 have hc : Cov gs secs sn [] := Cov.empty hl hs
 generalize List.replicate gs.length 0 = es at *
 rcases oneA_spec gs secs sn es size (-1) with ⟨_, h0⟩ | ⟨x, h0, hx, hf, _⟩
 ·exact absurd (h0 0 (by omega)) (find_fresh hi h1 h2 (show 0 < gs.length by omega) (by rw [hs 0 (by omega)]))
 ·have hi1 := hi.put h1 h2 hx hf
  obtain ⟨_, _, e1⟩ := hi.find h1 h2 hx hf hc
  rcases oneA_spec gs secs (putS gs secs sn size x) (putE gs secs es size x) size (x.1 : Nat) with ⟨_, h3⟩ | ⟨y, h3, _⟩
  ·exfalso
   obtain ⟨g, hg, hgx⟩ : ∃ g, g < gs.length ∧ g ≠ x.1 := by
    by_cases e : x.1 = 0
    ·exact ⟨1, by omega, by omega⟩
    ·exact ⟨0, by omega, fun h => e h.symm⟩
   refine absurd (h3 g hg) (find_fresh hi1 h1 h2 hg ?_)
   rw [e1, setG_other hgx, hs g hg]
  ·unfold getA
   rw [if_pos ⟨h1, h2⟩, h0]
   dsimp only
   rw [if_pos rfl, h3]
def gsW : Gs := [(0, 1), (0, 1)]
def tW : Bs := List.replicate 256 0
theorem awake_put {sn : SN} (hl : sn.length = gsW.length) (hs : ∀ j, j < gsW.length → sn.getD j sD = ((sect (gsW.getD j (0, 0)) 60).toNat, [])) : ∃ a b c d s0 s1 s2 s3 : Int, a ≠ c ∧ (putR (newSt gsW 60 [] [] sn 1 0) tW 1).err = 0 ∧ (putR (newSt gsW 60 [] [] sn 1 0) tW 1).p = ⟨a, b, c, d, true, 4, 1, 1, s0, s1, s2, s3⟩ := by
 have hr : rightB gsW 60 = true := by decide
 have he := two_ok hr hl hs (size := 4) (by omega) (by omega) (by decide)
 obtain ⟨_, h2⟩ := two_law hr hl hs 4 he
 have hne := h2 (by decide)
 have e0 := hs 0 (by decide)
 have e1 := hs 1 (by decide)
 have hleft : leftA sn = 88 := by
  match sn, hl with
  | [x, y], _ =>
   have a0 : x = (44, []) := e0
   have a1 : y = (44, []) := e1
   rw [a0, a1]
   decide
 have htw : tW.length = 256 := List.length_replicate
 have htl : ((tW.length / 64 : Nat) : Int) = 4 := by rw [htw]; rfl
 have hpl : plcX (newSt gsW 60 [] [] sn 1 0) 4 1 = ⟨[(getA gsW 60 sn (List.replicate gsW.length 0) 4 true).p, (getA gsW 60 sn (List.replicate gsW.length 0) 4 true).q], 0, (getA gsW 60 sn (List.replicate gsW.length 0) 4 true).sn, (getA gsW 60 sn (List.replicate gsW.length 0) 4 true).es⟩ := by
  unfold plcX
  rw [if_neg (show ¬ leftA (newSt gsW 60 [] [] sn 1 0).sn < (newSt gsW 60 [] [] sn 1 0).keep + 16 by show ¬ leftA sn < 0 + 16; rw [hleft]; omega), if_pos (.inl (by omega)), if_pos (show (getA (newSt gsW 60 [] [] sn 1 0).x.gs (newSt gsW 60 [] [] sn 1 0).x.secs (newSt gsW 60 [] [] sn 1 0).sn (newSt gsW 60 [] [] sn 1 0).es 4 true).err = 0 from he)]
  rfl
 have hput : putR (newSt gsW 60 [] [] sn 1 0) tW 1 = ⟨mkPt tW 1 1 [(getA gsW 60 sn (List.replicate gsW.length 0) 4 true).p, (getA gsW 60 sn (List.replicate gsW.length 0) 4 true).q], 0, (putR (newSt gsW 60 [] [] sn 1 0) tW 1).s⟩ := by
  have hok : putOk (newSt gsW 60 [] [] sn 1 0) tW 1 = true := by
   show (blkOk tW && decide ((0 : Int) ≤ 1 ∧ (1 : Int) ≤ 3 ∧ (1 : Int) ≤ 1 ∧ (1 : Int) ≤ 4294967295)) = true
   have : blkOk tW = true := by
    unfold blkOk
    rw [htw]
    exact decide_eq_true ⟨(fun e => by rw [e] at htw; cases htw), by omega, by omega⟩
   rw [this]; decide
  unfold putR
  rw [if_neg (by rw [hok]; decide), htl, hpl, if_neg (by simp)]
  rfl
 obtain ⟨G, hG⟩ : ∃ G, G = getA gsW 60 sn (List.replicate gsW.length 0) 4 true := ⟨_, rfl⟩
 rw [← hG] at hput hne
 refine ⟨(G.p.1 : Nat), (G.p.2 : Nat), (G.q.1 : Nat), (G.q.2 : Nat), ((sumF tW).1 : Nat), ((sumF tW).2.1 : Nat), ((sumF tW).2.2.1 : Nat), ((sumF tW).2.2.2 : Nat), fun e => hne (by omega), by rw [hput], ?_⟩
 rw [hput]
 show mkPt tW 1 1 _ = _
 unfold mkPt
 rw [htl]
 rfl
theorem bsl_nil (w : World) : BSl w none 0 0 [] := ⟨rfl, Nat.zero_le _, by unfold maxLen; omega, fun _ => rfl, fun h => by omega⟩
set_option maxHeartbeats 1600000 in
set_option maxRecDepth 100000 in
theorem awake15_any (w : World) : Calls Tryz.prog 7 #[] w fun e w' => e = .returned (.bool true) ∧ Below w.heap.size w w' := by
 have hG : GSl (w.alloc (.cells (encG gsW).toArray 31)) (some ⟨w.heap.size, 0, none⟩) 2 2 gsW := by
  have hB := Blk.new w 31 (encG gsW)
  have := rsl_of_owns (blk_owns (base := 0) (n := 2) (cap := 2) (size := 2) hB (Nat.zero_le _) (Nat.le_refl _) (by unfold maxLen; omega) (by decide))
  exact this
 have hb0 : Below w.heap.size w (w.alloc (.cells (encG gsW).toArray 31)) := (Below.refl _ _).alloc (Nat.le_refl _) _
 have HM := Lib.hid (made_yes (some ⟨w.heap.size, 0, none⟩) 2 2 gsW 60 _ hG none 0 0 [] (bsl_nil _) none 0 0 [] (bsl_nil _) 1 0 (by decide))
 have HB0 := Lib.hid hb0
 clear hG hb0
 go_enter Tryz.func7, Tryz.ntmps7
 go_wp2_with fail
 refine HM.out.mono ?_
 rintro e w1 ⟨sb, bb, V, T, sn, rfl, hst, hsl, hsn, hfr, hb1⟩
 obtain ⟨i0, hi, hz0, hz1, hz2⟩ := info_parts u8info
 have hmk : (Instr.makeSlice 82 (.int .i64 256) (.int .i64 256)).run Tryz.prog w1 = .ok (.slice (some ⟨w1.heap.size, 0, none⟩) 256 256) (w1.alloc (.cells (enc8 tW).toArray 5)) := by
  have := run_make (P := Tryz.prog) w1 82 5 i0 (.int .u8 0) Tryz.underlying82 hi hz0 .i64 .i64 256 256 (by omega) (by omega) (by rw [hz2]; omega) (by omega)
  rw [this, hz1]
  have e := enc8_zero 256
  show _ = Result.ok _ (w1.alloc (.cells (enc8 (List.replicate 256 0)).toArray 5))
  rw [← e]
  rfl
 have hcv := run_string_of_own (P := Tryz.prog) (base := 0) (l := tW) (by
  have hB := Blk.new w1 5 (enc8 tW)
  have := blk_owns (base := 0) (n := 256) (cap := 256) (size := 1) hB (Nat.zero_le _) (Nat.le_refl _) (by unfold maxLen; omega) (by rw [enc8_length]; exact List.length_replicate)
  rw [List.take_of_length_le (by rw [enc8_length]; unfold tW; rw [List.length_replicate]; omega)] at this
  exact this) 82 5 9 Tryz.underlying82 Tryz.underlying5 Tryz.underlying9
 have hbA : Below w1.heap.size w1 (w1.alloc (.cells (enc8 tW).toArray 5)) := (Below.refl _ _).alloc (Nat.le_refl _) _
 obtain ⟨a, b, c, d, z0, z1, z2, z3, hac, he, hp⟩ := awake_put hsl hsn
 have hput := put_law (hst.below hbA) (newSt_ok (by decide) (out_nil gsW) hsl hsn) (by omega) (by show (0 : Int) ≤ 0 ∧ (0 : Int) ≤ 1000000000; omega) (by show 0 ≤ 1000000; omega) tW 1 (by unfold tW; rw [List.length_replicate]; omega)
 have HPUT : Hid (Calls Tryz.prog 12 #[.pointer (some ⟨sb, 0, none⟩), .string ⟨tW.toArray⟩, .int .i64 1] (w1.alloc (.cells (enc8 tW).toArray 5)) fun e w' => e = .returned (.tuple #[.agg #[.int .i64 a, .int .i64 b, .int .i64 c, .int .i64 d, .bool true, .int .i64 4, .int .i64 1, .int .i64 1, .int .u64 z0, .int .u64 z1, .int .u64 z2, .int .u64 z3], .int .i64 0]) ∧ Below w.heap.size w w') := Lib.hid (hput.mono (fun e w' h => by
  obtain ⟨h1, dn', _, T', h2, h3, h4⟩ := h
  rw [he, hp] at h1
  have hB1 : Below w.heap.size w w1 := HB0.out.trans (hb1.mono (by simp))
  exact ⟨h1, (hB1.trans (hbA.mono hB1.size)).trans (h3.toBelow (fun k hk => by have := hfr k hk; simp at this; omega) (by have := hB1.size; simp; omega))⟩))
 have q1 : ¬ a = c := hac
 have q2 : (a != c) = true := by simpa using hac
 have q3 : (a == c) = false := by simpa using hac
 clear hst hsl hsn hfr hb1 hi hz0 hz1 hz2 hbA he hp hput HM hac
 go_wp2_with fail
 refine HPUT.out.mono ?_
 rintro e w3 ⟨rfl, hb3⟩
 have HB3 := Lib.hid hb3
 clear hmk hcv hb3 HPUT HB0
 go_wp2_with fail
 go_ret
 exact ⟨rfl, HB3.out.alloc HB3.out.size _⟩
end Go.Proofs.YtfaemcfjbbbbdaaGreat
namespace Go.Proofs.YtfaemcfjbbbbdaaGreat
open Go.RowKit
attribute [local go_sem ↓] Go.wp_at_zero Go.wp_at_succ
theorem two_any (level : Int) (m : Bool) (w : World) : Calls Tryz.prog 18 #[.int .i64 level, .bool m] w fun e w' => e = .returned (.bool (decide (0 < level) || m)) ∧ w' = w := by
 by_cases h : 0 < level
 ·have h2 : decide (0 < level) = true := decide_eq_true h
  go_enter Tryz.func18, Tryz.ntmps18
  go_wp2_with fail
  go_ret
  exact ⟨by simp [h], rfl⟩
 ·have h2 : decide (0 < level) = false := decide_eq_false h
  go_enter Tryz.func18, Tryz.ntmps18
  go_wp2_with fail
  go_ret
  exact ⟨by simp [h], rfl⟩
def apartI (g1 a1 g2 a2 t1 t2 : Int) : Bool := decide (g1 ≠ g2) || decide (a1 + t1 ≤ a2) || decide (a2 + t2 ≤ a1)
theorem apart_ref (g1 a1 g2 a2 t1 t2 : Int) (w : World) (h1 : IntKind.i64.wrap (a1 + t1) = a1 + t1) (h2 : IntKind.i64.wrap (a2 + t2) = a2 + t2) :
  Calls Tryz.prog 20 #[.agg #[.int .i64 g1, .int .i64 a1], .agg #[.int .i64 g2, .int .i64 a2], .int .i64 t1, .int .i64 t2] w fun e w' => e = .returned (.bool (apartI g1 a1 g2 a2 t1 t2)) ∧ Below w.heap.size w w' := by
 by_cases hg : g1 = g2
 ·subst hg
  have hb : Below w.heap.size w ((w.alloc (.cells #[.int .i64 g1, .int .i64 a1] 44)).alloc (.cells #[.int .i64 g1, .int .i64 a2] 44)) := ((Below.refl _ _).alloc (Nat.le_refl _) _).alloc (by simp) _
  have HB := Lib.hid hb
  clear hb
  have q1 : (g1 != g1) = false := by simp
  by_cases ha : a1 + t1 ≤ a2
  ·have q3 : decide (a1 + t1 ≤ a2) = true := decide_eq_true ha
   have HV : Hid (apartI g1 a1 g1 a2 t1 t2 = true) := Lib.hid (by unfold apartI; simp [ha])
   go_enter Tryz.func20, Tryz.ntmps20
   go_wp2_with fail
   go_ret
   exact ⟨by rw [HV.out]; rfl, HB.out⟩
  ·have q3 : decide (a1 + t1 ≤ a2) = false := decide_eq_false ha
   have HV : Hid (apartI g1 a1 g1 a2 t1 t2 = decide (a2 + t2 ≤ a1)) := Lib.hid (by unfold apartI; simp [ha])
   go_enter Tryz.func20, Tryz.ntmps20
   go_wp2_with fail
   go_ret
   exact ⟨by rw [HV.out]; rfl, HB.out⟩
 ·have hb : Below w.heap.size w ((w.alloc (.cells #[.int .i64 g1, .int .i64 a1] 44)).alloc (.cells #[.int .i64 g2, .int .i64 a2] 44)) := ((Below.refl _ _).alloc (Nat.le_refl _) _).alloc (by simp) _
  have HB := Lib.hid hb
  clear hb
  have q1 : (g1 != g2) = true := by simpa using hg
  have q2 : decide (g1 = g2) = false := decide_eq_false hg
  have HV : Hid (apartI g1 a1 g2 a2 t1 t2 = true) := Lib.hid (by unfold apartI; simp [hg])
  go_enter Tryz.func20, Tryz.ntmps20
  go_wp2_with fail
  go_ret
  exact ⟨by rw [HV.out]; rfl, HB.out⟩
end Go.Proofs.YtfaemcfjbbbbdaaGreat
namespace Go.Proofs.YtfaemcfjbbbbdaaGreat
open Go.RowKit
attribute [local go_sem ↓] Go.wp_at_zero Go.wp_at_succ
structure BlkT where
 s : Bs
 level : Int
 mt : Bool
def bkD : BlkT := ⟨[], 0, false⟩
def encBk (b : BlkT) : List Value := [.string ⟨b.s.toArray⟩, .int .i64 b.level, .bool b.mt]
def encBs (l : List BlkT) : List Value := l.flatMap encBk
def BkSl (w : World) (ao : Option Addr) (n cap : Nat) (l : List BlkT) : Prop := RSl w 3 ao n cap (encBs l)
theorem BkSl.len {w : World} {ao : Option Addr} {n cap : Nat} {l : List BlkT} (h : BkSl w ao n cap l) : l.length = n := by
 have h1 := h.1
 have : ∀ l : List BlkT, (encBs l).length = l.length * 3 := fun l => by
  induction l with
  | nil => rfl
  | cons a r ih =>
   show (encBk a ++ encBs r).length = _
   rw [List.length_append, ih, List.length_cons]
   show 3 + _ = _
   omega
 rw [this] at h1
 omega
theorem BkSl.cells {w : World} {ao : Option Addr} {n cap : Nat} {l : List BlkT} (h : BkSl w ao n cap l) (hn : 0 < n) : ∃ b off, ao = some ⟨b, off, none⟩ ∧ b < w.heap.size ∧ ∀ k, k < n → w.cell? ⟨b, off + k * 3, none⟩ = some (.string ⟨(l.getD k bkD).s.toArray⟩) ∧ w.cell? ⟨b, off + k * 3 + 1, none⟩ = some (.int .i64 (l.getD k bkD).level) ∧ w.cell? ⟨b, off + k * 3 + 2, none⟩ = some (.bool (l.getD k bkD).mt) := by
 have hl := h.len
 obtain ⟨b, off, e, hb, hc⟩ := h.2.2.2.2 hn
 refine ⟨b, off, e, hb, fun k hk => ?_⟩
 have key : ∀ i, i < 3 → w.cell? ⟨b, off + (k * 3 + i), none⟩ = (encBk (l.getD k bkD))[i]? := fun i hi => by
  rw [hc (k * 3 + i) (by omega)]
  exact flat_get (f := encBk) (K := 3) (fun _ => rfl) l k i bkD (by omega) hi
 exact ⟨key 0 (by omega), by rw [Nat.add_assoc]; exact key 1 (by omega), by rw [Nat.add_assoc]; exact key 2 (by omega)⟩
def fewS (l : List BlkT) : Bool := decide (l.length ≤ 30) && l.all fun b => decide (b.s.length ≤ 1000)
set_option maxRecDepth 100000 in
theorem few15_any (ao : Option Addr) (n cap : Nat) (l : List BlkT) (w : World) (h : BkSl w ao n cap l) (hn : n ≤ 9223372036854775807) :
  Calls Tryz.prog 8 #[.slice ao n cap] w fun e w' => e = .returned (.bool (fewS l)) ∧ w' = w := by
 have hl := h.len
 have HC := Lib.hid (fun hn => h.cells hn)
 have HF0 : Hid (∀ j, j < n → 1000 < (l.getD j bkD).s.length → fewS l = false) := Lib.hid (fun j hj hs => by
  unfold fewS
  rw [Bool.and_eq_false_iff]
  right
  rw [List.all_eq_false]
  refine ⟨l.getD j bkD, ?_, by rw [decide_eq_false (by omega)]; decide⟩
  rw [List.getD_eq_getElem?_getD, List.getElem?_eq_getElem (by omega)]
  exact List.getElem_mem _)
 have HF1 : Hid (30 < n → fewS l = false) := Lib.hid (fun h30 => by unfold fewS; rw [decide_eq_false (by omega)]; rfl)
 have HF2 : Hid (n ≤ 30 → (∀ j, j < n → (l.getD j bkD).s.length ≤ 1000) → fewS l = true) := Lib.hid (fun h30 ha => by
  unfold fewS
  rw [decide_eq_true (by omega), Bool.true_and, List.all_eq_true]
  intro b hb
  obtain ⟨j, hj, rfl⟩ := List.getElem_of_mem hb
  have := ha j (by omega)
  rw [List.getD_eq_getElem?_getD, List.getElem?_eq_getElem hj] at this
  exact decide_eq_true this)
 clear hl h
 go_enter Tryz.func8, Tryz.ntmps8
 go_wp2_with fail
 go_loopw [3] (fun v wr => ∃ k : Nat, v = .int .i64 (k : Nat) ∧ k ≤ n ∧ k ≤ 31 ∧ wr = w ∧ Hid (∀ j, j < k → (l.getD j bkD).s.length ≤ 1000)) (fun v _ => 31 - (intOf v).toNat)
 case atStart => exact ⟨0, rfl, Nat.zero_le _, by omega, rfl, Lib.hid (fun j hj => by omega)⟩
 case round =>
  obtain ⟨k, rfl, hkn, hk31, hwr, HA⟩ := hrel
  subst hwr
  by_cases h1 : k < n
  ·by_cases h2 : k ≤ 30
   ·have q1 : (k : Int) < (n : Int) := by omega
    have q2 : (k : Int) ≤ 30 := by omega
    have q3 : 0 ≤ (k : Int) := by omega
    obtain ⟨b, off, rfl, hb, hc⟩ := HC.out (by omega)
    have c0 := (hc k h1).1
    obtain ⟨sz, hsz⟩ : ∃ sz, sz = (l.getD k bkD).s := ⟨_, rfl⟩
    rw [← hsz] at c0
    have HSZ := Lib.hid hsz
    clear hc hsz
    by_cases h3 : 1000 < sz.length
    ·have q4 : (1000 : Int) < (sz.length : Int) := by omega
     have HV := Lib.hid (HF0.out k h1 (by rw [← HSZ.out]; exact h3))
     go_wp2_with fail
     go_ret
     exact ⟨by rw [HV.out]; rfl, rfl⟩
    ·have q4 : ¬ (1000 : Int) < (sz.length : Int) := by omega
     have HA2 : Hid (∀ j, j < k + 1 → (l.getD j bkD).s.length ≤ 1000) := Lib.hid (fun j hj => by
      by_cases e : j = k
      ·rw [e, ← HSZ.out]; omega
      ·exact HA.out j (by omega))
     go_wp2_with fail
     go_roundw
     case rel => exact ⟨k + 1, by go_num, by omega, by omega, by trivial, HA2⟩
     case measure => simp [intOf]; omega
   ·have q1 : (k : Int) < (n : Int) := by omega
    have q2 : ¬ (k : Int) ≤ 30 := by omega
    have q5 : ¬ (n : Int) ≤ 30 := by omega
    have HV := Lib.hid (HF1.out (by omega))
    go_wp2_with fail
    go_ret
    exact ⟨by rw [HV.out]; simp, rfl⟩
  ·have q1 : ¬ (k : Int) < (n : Int) := by omega
   obtain rfl : k = n := by omega
   by_cases h4 : k ≤ 30
   ·have q5 : (k : Int) ≤ 30 := by omega
    have HV := Lib.hid (HF2.out h4 HA.out)
    go_wp2_with fail
    go_ret
    exact ⟨by rw [HV.out]; simp, rfl⟩
   ·have q5 : ¬ (k : Int) ≤ 30 := by omega
    have HV := Lib.hid (HF1.out (by omega))
    go_wp2_with fail
    go_ret
    exact ⟨by rw [HV.out]; simp, rfl⟩
end Go.Proofs.YtfaemcfjbbbbdaaGreat
namespace Go.Proofs.YtfaemcfjbbbbdaaGreat
open Go.RowKit
theorem IsSto.self {w : World} {sb : Nat} {S : StoT} {V : DvV} {bb : Nat} {dn : Option Nat} {T : Nat → Prop} (h : IsSto w sb S V bb dn T) : T sb := by
 obtain ⟨eb, ms, bv, F, h, hT⟩ := h
 exact (hT sb).2 (.inr (.inr (.inl rfl)))
theorem asput {w : World} {sb sb2 : Nat} {S : StoT} {V : DvV} {bb d : Nat} {T : Nat → Prop} {L : List St} {K : Nat} {m : Bool} (h : IsSto w sb S V bb (some d) T) (hB : Blk w sb2 41 (stoC V { S with mt := m } bb (some d))) (hne : sb2 ≠ sb) (hok : StOk S L K) (hK2 : K + 200 ≤ 1000000000) (hkp : 0 ≤ S.keep ∧ S.keep ≤ 1000000000) (hbn : S.born.length ≤ 1000000) (t : Bs) (level : Int) (htl : t.length ≤ 1000000) :
  Calls Tryz.prog 12 #[.pointer (some ⟨sb2, 0, none⟩), .string ⟨t.toArray⟩, .int .i64 level] w fun e w' => e = .returned (.tuple #[.agg (encPtr (putR { S with mt := m } t level).p).toArray, .int .i64 ((putR { S with mt := m } t level).err : Nat)]) ∧ ∃ T', IsSto w' sb { (putR { S with mt := m } t level).s with mt := S.mt } V bb (some d) T' ∧ Mod (fun g => T g ∨ g = sb2) w w' ∧ ∀ g, T' g → T g ∨ g = sb2 ∨ w.heap.size ≤ g := by
 obtain ⟨T2, h2, hT2, hns⟩ := h.shift (m := m) hB
 have hok2 : StOk { S with mt := m } L K := ⟨hok.one, hok.fits, hok.deep, hok.inv, hok.cov⟩
 refine (put_law h2 hok2 hK2 hkp hbn t level htl).mono ?_
 rintro e w' ⟨rfl, dn', hdn, T3, h3, hm, hn⟩
 refine ⟨rfl, ?_⟩
 have e1 : dn' = some d := hdn d rfl
 subst e1
 have hsame : Same { S with mt := m } (putR { S with mt := m } t level).s ∧ (putR { S with mt := m } t level).s.x.secs = S.x.secs := by
  rcases put_plain hok2 t level with ⟨_, _, _, _, _, a1, _, a2⟩ | ⟨_, _, _, a1, _, a2, _⟩
  ·exact ⟨a2, by rw [a1]⟩
  ·exact ⟨a2, a1.secs⟩
 obtain ⟨hs1, hs2⟩ := hsame
 have hBs : Blk w' sb 41 (stoC V { (putR { S with mt := m } t level).s with mt := S.mt } bb (some d)) := by
  have h9 := hm.blk h.cells (hns (fun e => hne e))
  have e2 : stoC V { (putR { S with mt := m } t level).s with mt := S.mt } bb (some d) = stoC V S bb (some d) := by
   unfold stoC
   dsimp only
   rw [hs2, hs1.txg, hs1.keep]
  rw [e2]
  exact h9
 obtain ⟨T4, h4, hT4, _⟩ := h3.shift (m := S.mt) hBs
 refine ⟨T4, h4, hm.mono (fun g _ hg => by rcases hT2 g hg with h9 | h9; exact .inl h9; exact .inr h9), fun g hg => ?_⟩
 rcases hT4 g hg with h9 | h9
 ·rcases hn g h9 with h8 | h8
  ·rcases hT2 g h8 with h7 | h7
   ·exact .inl h7
   ·exact .inr (.inl h7)
  ·exact .inr (.inr h8)
 ·rw [h9]; exact .inl h.self
structure BkS (w : World) (geo : List Value) (sb bb : Nat) (V : DvV) (dn : Option Nat) (S : StoT) (T : Nat → Prop) (vp vt : Value) (got : List PtrT) (tx : List Bs) (wr : World) : Prop where
 is : IsSto wr sb S V bb dn T
 fr : ∀ g, T g → w.heap.size ≤ g
 rp : wr.ownsRow w.heap.size 49 12 vp got.length (encPs got)
 rt : wr.ownsRow w.heap.size 9 1 vt tx.length (encS (bts tx))
 np : ∀ g, vp.ownBlock = some g → ¬ T g
 nt : ∀ g, vt.ownBlock = some g → ¬ T g
 geo : Blk wr w.heap.size 24 geo
 ng : ¬ T w.heap.size
 bel : Below w.heap.size w wr
section
variable {w : World} {geo : List Value} {sb bb : Nat} {V : DvV} {dn dn' : Option Nat} {S S' : StoT} {T T' : Nat → Prop} {vp vt : Value} {got : List PtrT} {tx : List Bs} {wr wd : World}
theorem BkS.below (h : BkS w geo sb bb V dn S T vp vt got tx wr) (hb : Below wr.heap.size wr wd) : BkS w geo sb bb V dn S T vp vt got tx wd :=
 ⟨h.is.below hb, h.fr, owns_below h.rp hb, owns_below h.rt hb, h.np, h.nt, h.geo.below hb, h.ng, h.bel.trans (hb.mono h.bel.size)⟩
theorem BkS.go (h : BkS w geo sb bb V dn S T vp vt got tx wr) (h1 : IsSto wd sb S' V bb dn' T') (hm : Mod T wr wd) (hn : ∀ g, T' g → T g ∨ wr.heap.size ≤ g) : BkS w geo sb bb V dn' S' T' vp vt got tx wd := by
 have key : ∀ {g : Nat}, g < wr.heap.size → ¬ T g → ¬ T' g := fun hl hg hf => by
  rcases hn _ hf with h9 | h9
  ·exact hg h9
  ·omega
 refine ⟨h1, fun g hg => ?_, own_keep h.rp (fun g hg => hm.block g (h.rp.lt g hg).2 (h.np g hg)), own_keep h.rt (fun g hg => hm.block g (h.rt.lt g hg).2 (h.nt g hg)), fun g hg => key (h.rp.lt g hg).2 (h.np g hg), fun g hg => key (h.rt.lt g hg).2 (h.nt g hg), hm.blk h.geo h.ng, key h.geo.lt h.ng, h.bel.trans (hm.toBelow h.fr h.bel.size)⟩
 rcases hn g hg with h9 | h9
 ·exact h.fr g h9
 ·exact Nat.le_trans h.bel.size h9
theorem BkS.step (h : BkS w geo sb bb V dn S T vp vt got tx wr) (k : StoStep S' V sb bb dn' T wr wd) : ∃ T', BkS w geo sb bb V dn' S' T' vp vt got tx wd := by
 obtain ⟨T', h1, h2, h3⟩ := k
 exact ⟨T', h.go h1 h2 h3⟩
theorem IsSto.grow {e k n : Nat} {b : Nat} {v : Value} {xs : List Value} (h : IsSto wr sb S V bb dn T) (ho : wr.ownsRow b e k v n xs) (he : ¬ BookTy e) (hn : ∀ g, v.ownBlock = some g → ¬ T g) (hg : wr.grownBy wd v.ownBlock) : IsSto wd sb S V bb dn T :=
 h.keep (fun g hf => hg.block g (h.lt g hf) (fun e2 => hn g e2.symm hf)) (fun g cs e2 fr hg2 he2 => by
  rw [hg.block g (Array.getElem?_eq_some_iff.1 hg2).1 (fun e3 => by
   obtain ⟨c1, f1, h9⟩ := own_type ho e3.symm
   rw [hg2] at h9
   simp only [Option.some.injEq, Obj.cells.injEq] at h9
   exact he (h9.2.1 ▸ he2))]
  exact hg2)
theorem BkS.appP {v' : Value} {p : PtrT} (h : BkS w geo sb bb V dn S T vp vt got tx wr) (hg : wr.grownBy wd vp.ownBlock) (ho : wd.ownsRow w.heap.size 49 12 v' (got.length + 1) (encPs got ++ encPs [p])) (hf : v'.ownBlock = vp.ownBlock ∨ v'.ownBlock = some wr.heap.size) : BkS w geo sb bb V dn S T v' vt (got ++ [p]) tx wd := by
 refine ⟨h.is.grow h.rp (by unfold BookTy; decide) h.np hg, h.fr, ?_, owns_ownKept h.rt h.rp (by decide) hg, fun g hg2 hf2 => ?_, h.nt, h.geo.ownKept h.rp (by decide) hg, h.ng, below_own h.bel h.rp hg h.bel.size (Nat.le_refl _)⟩
 ·rw [encPs_append, List.length_append]; exact ho
 ·rcases hf with h9 | h9
  ·exact h.np g (by rw [← h9]; exact hg2) hf2
  ·rw [h9] at hg2
   have := Option.some.inj hg2
   have := h.is.lt g hf2
   omega
theorem BkS.appT {v' : Value} {t : Bs} (h : BkS w geo sb bb V dn S T vp vt got tx wr) (hg : wr.grownBy wd vt.ownBlock) (ho : wd.ownsRow w.heap.size 9 1 v' (tx.length + 1) (encS (bts (tx ++ [t])))) (hf : v'.ownBlock = vt.ownBlock ∨ v'.ownBlock = some wr.heap.size) : BkS w geo sb bb V dn S T vp v' got (tx ++ [t]) wd := by
 refine ⟨h.is.grow h.rt (by unfold BookTy; decide) h.nt hg, h.fr, owns_ownKept h.rp h.rt (by decide) hg, ?_, h.np, fun g hg2 hf2 => ?_, h.geo.ownKept h.rt (by decide) hg, h.ng, below_own h.bel h.rt hg h.bel.size (Nat.le_refl _)⟩
 ·rw [List.length_append]; exact ho
 ·rcases hf with h9 | h9
  ·exact h.nt g (by rw [← h9]; exact hg2) hf2
  ·rw [h9] at hg2
   have := Option.some.inj hg2
   have := h.is.lt g hf2
   omega
end
end Go.Proofs.YtfaemcfjbbbbdaaGreat
namespace Go.Proofs.YtfaemcfjbbbbdaaGreat
theorem sumW_lt : ∀ (l : List Nat) (a b c d : Nat), a < m64 → b < m64 → c < m64 → d < m64 → (sumW l (a, b, c, d)).1 < m64 ∧ (sumW l (a, b, c, d)).2.1 < m64 ∧ (sumW l (a, b, c, d)).2.2.1 < m64 ∧ (sumW l (a, b, c, d)).2.2.2 < m64
 | [], a, b, c, d, h1, h2, h3, h4 => ⟨h1, h2, h3, h4⟩
 | w :: r, a, b, c, d, _, _, _, _ => by
  have hm : 0 < m64 := by unfold m64; omega
  exact sumW_lt r _ _ _ _ (Nat.mod_lt _ hm) (Nat.mod_lt _ hm) (Nat.mod_lt _ hm) (Nat.mod_lt _ hm)
theorem PWhole.wf {x : DvsT} {p : PtrT} {t : Bs} (h : PWhole x p t) : p.wf := by
 have hs := h.sum
 unfold PtrT.sumIs at hs
 rw [decide_eq_true_eq] at hs
 have hm : 0 < m64 := by unfold m64; omega
 have hl := sumW_lt ((List.range ((padW t).length / 4)).map (word4 (padW t))) 0 0 0 0 hm hm hm hm
 obtain ⟨e1, e2, e3, e4⟩ := hs
 unfold sumF at e1 e2 e3 e4
 obtain ⟨l1, l2, l3, l4⟩ := hl
 unfold m64 at l1 l2 l3 l4
 refine ⟨h.ok, ?_, ?_, ?_, ?_⟩ <;> unfold U64' <;> omega
theorem apart_dis {gs : Gs} {secs g1 a1 s1 g2 a2 s2 : Int} (h1 : mayC gs secs g1 a1 s1 = true) (h2 : mayC gs secs g2 a2 s2 = true) (hd : Dis (stOf gs secs s1 (g1.toNat, a1.toNat)) (stOf gs secs s2 (g2.toNat, a2.toNat))) : apartI g1 a1 g2 a2 (takesI gs secs g1 s1) (takesI gs secs g2 s2) = true := by
 have m1 := mayC_spec h1
 have m2 := mayC_spec h2
 have e1 : ((g1.toNat : Nat) : Int) = g1 := Int.toNat_of_nonneg m1.2.1
 have e2 : ((g2.toNat : Nat) : Int) = g2 := Int.toNat_of_nonneg m2.2.1
 unfold apartI
 by_cases hg : g1 = g2
 ·by_cases hc : a1 + takesI gs secs g1 s1 ≤ a2
  ·simp [hc]
  ·by_cases hc2 : a2 + takesI gs secs g2 s2 ≤ a1
   ·simp [hc2]
   ·exfalso
    have hx := hd g1.toNat (max a1.toNat a2.toNat)
    simp only [sHas, stOf] at hx
    rw [e1, e2] at hx
    have t1 := m1.2.2.2.2.2.2.2.1
    have t2 := m2.2.2.2.2.2.2.2.1
    exact hx ⟨by first | trivial | rfl, by omega, by omega⟩ ⟨by rw [hg], by omega, by omega⟩
 ·simp [hg]
structure Bk (S : StoT) (got : List PtrT) (tx : List Bs) (K : Nat) : Prop where
 ok : StOk S (got.flatMap (pstrs S.x.gs S.x.secs)) K
 born : S.born = got
 len : tx.length = got.length
 wh : ∀ i, i < got.length → PWhole S.x (got.getD i pD) (tx.getD i [])
 fx : S.fixed = 0
 kp : S.keep = 0
theorem Bk.right {S : StoT} {got : List PtrT} {tx : List Bs} {K : Nat} (h : Bk S got tx K) : ∀ q ∈ got, ptrRight S.x.gs S.x.secs q = true := by
 intro q hq
 obtain ⟨i, hi, rfl⟩ := List.getElem_of_mem hq
 have := (h.wh i hi).right
 rwa [List.getD_eq_getElem?_getD, List.getElem?_eq_getElem hi] at this
theorem getD_snoc {α : Type} (l : List α) (x d : α) (i : Nat) (hi : i < l.length + 1) : (l ++ [x]).getD i d = if i < l.length then l.getD i d else x := by
 split
 ·rename_i h
  rw [List.getD_eq_getElem?_getD, List.getElem?_append_left h, ← List.getD_eq_getElem?_getD]
 ·rename_i h
  have e : i = l.length := by omega
  subst e
  simp
theorem Bk.put {S : StoT} {got : List PtrT} {tx : List Bs} {K : Nat} (h : Bk S got tx K) (m : Bool) (t : Bs) (lv : Int) :
  (putR { S with mt := m } t lv).s.x.gs = S.x.gs ∧ (putR { S with mt := m } t lv).s.x.secs = S.x.secs ∧ (putR { S with mt := m } t lv).s.txg = S.txg ∧
  (((putR { S with mt := m } t lv).err ≠ 0 ∧ (putR { S with mt := m } t lv).p = pD ∧ Bk { (putR { S with mt := m } t lv).s with mt := S.mt } got tx K) ∨
  ((putR { S with mt := m } t lv).err = 0 ∧ Bk { (putR { S with mt := m } t lv).s with mt := S.mt } (got ++ [(putR { S with mt := m } t lv).p]) (tx ++ [t]) (K + 64) ∧ PWhole (putR { S with mt := m } t lv).s.x (putR { S with mt := m } t lv).p t ∧
   ((putR { S with mt := m } t lv).p.birth = S.txg ∧ (putR { S with mt := m } t lv).p.level = lv ∧ ((putR { S with mt := m } t lv).p.two = true → 0 < lv ∨ m = true)) ∧
   ∀ q ∈ got, ∀ s ∈ pstrs S.x.gs S.x.secs (putR { S with mt := m } t lv).p, ∀ s' ∈ pstrs S.x.gs S.x.secs q, Dis s s')) := by
 have hok2 : StOk { S with mt := m } (got.flatMap (pstrs S.x.gs S.x.secs)) K := ⟨h.ok.one, h.ok.fits, h.ok.deep, h.ok.inv, h.ok.cov⟩
 rcases put_plain hok2 t lv with ⟨b1, b2, b3, b4, b5, b6, b7, b8⟩ | ⟨b1, b2, b3, b4, b5, b6, b7, b8⟩
 ·generalize putR { S with mt := m } t lv = R at *
  refine ⟨by rw [b6], by rw [b6], b8.txg, .inl ⟨b1, b3, ?_, ?_, h.len, fun i hi => ?_, ?_, ?_⟩⟩
  ·refine ⟨b4.one, b4.fits, b4.deep, b4.inv, ?_⟩
   have := b4.cov
   show Cov R.s.x.gs R.s.x.secs R.s.sn (got.flatMap (pstrs R.s.x.gs R.s.x.secs))
   rw [b6] at this ⊢
   exact this
  ·show R.s.born = got
   rw [b7]; exact h.born
  ·show PWhole R.s.x _ _
   rw [b6]; exact h.wh i hi
  ·show R.s.fixed = 0
   rw [b8.fixed]; exact h.fx
  ·show R.s.keep = 0
   rw [b8.keep]; exact h.kp
 ·generalize putR { S with mt := m } t lv = R at *
  have hgs : R.s.x.gs = S.x.gs := b4.gs
  have hsc : R.s.x.secs = S.x.secs := b4.secs
  refine ⟨hgs, hsc, b6.txg, .inr ⟨b1, ⟨?_, ?_, by simp [h.len], fun i hi => ?_, ?_, ?_⟩, b3, b7, fun q hq s hs s' hs' => ?_⟩⟩
  ·refine ⟨b2.one, b2.fits, b2.deep, b2.inv, ?_⟩
   have := b2.cov
   show Cov R.s.x.gs R.s.x.secs R.s.sn ((got ++ [R.p]).flatMap (pstrs R.s.x.gs R.s.x.secs))
   rw [hgs, hsc, List.flatMap_append]
   rw [hgs, hsc] at this
   simpa using this
  ·show R.s.born = got ++ [R.p]
   rw [b5]
   show S.born ++ [R.p] = _
   rw [h.born]
  ·show PWhole R.s.x _ _
   rw [List.length_append] at hi
   rw [getD_snoc _ _ _ _ hi, getD_snoc _ _ _ _ (by rw [h.len]; exact hi)]
   by_cases hi2 : i < got.length
   ·rw [if_pos hi2, if_pos (by rw [h.len]; exact hi2)]
    refine b8 _ _ (h.wh i hi2) (fun s hs => List.mem_flatMap.2 ⟨got.getD i pD, ?_, hs⟩)
    rw [List.getD_eq_getElem?_getD, List.getElem?_eq_getElem hi2]
    exact List.getElem_mem _
   ·rw [if_neg hi2, if_neg (by rw [h.len]; exact hi2)]
    exact b3
  ·show R.s.fixed = 0
   rw [b6.fixed]; exact h.fx
  ·show R.s.keep = 0
   rw [b6.keep]; exact h.kp
  ·have := (List.pairwise_append.1 b2.cov.dis).2.2
   refine (this s' (List.mem_flatMap.2 ⟨q, hq, hs'⟩) s ?_).symm
   exact hs
end Go.Proofs.YtfaemcfjbbbbdaaGreat
namespace Go.Proofs.YtfaemcfjbbbbdaaGreat
open Go.RowKit
section
attribute [local go_sem ↓] Go.wp_at_zero Go.wp_at_succ
set_option maxRecDepth 100000 in
theorem pnone_zero (w : World) : Calls Tryz.prog 15 #[.agg (encPtr pD).toArray] w fun e w' => e = .returned (.bool true) ∧ Below w.heap.size w w' := by
 have hb0 : Below w.heap.size w (w.alloc (.cells #[.int .i64 0, .int .i64 0, .int .i64 0, .int .i64 0, .bool false, .int .i64 0, .int .i64 0, .int .i64 0, .int .u64 0, .int .u64 0, .int .u64 0, .int .u64 0] 49)) := (Below.refl _ _).alloc (Nat.le_refl _) _
 have HB := Lib.hid hb0
 clear hb0
 have he : ∀ W : World, (Op.equalIn 9999 47 (.agg #[.int .u64 0, .int .u64 0, .int .u64 0, .int .u64 0]) (.agg #[.int .u64 0, .int .u64 0, .int .u64 0, .int .u64 0])).run Tryz.prog W = .ok true W := fun W => by kernel_rfl
 show Calls _ _ #[.agg #[.int .i64 0, .int .i64 0, .int .i64 0, .int .i64 0, .bool false, .int .i64 0, .int .i64 0, .int .i64 0, .int .u64 0, .int .u64 0, .int .u64 0, .int .u64 0]] _ _
 go_enter Tryz.func15, Tryz.ntmps15
 go_wp2_with fail
 go_ret
 exact ⟨ret_bool (by simp_all), HB.out⟩
end
attribute [local go_sem ↓] wp_loadPt wp_storePt wp_buildPS
theorem encS_ones (l : List Bs) : ∀ u ∈ encS (bts l), u.oneCell' = true := by
 intro u hu
 unfold encS at hu
 obtain ⟨b, _, rfl⟩ := List.mem_map.1 hu
 rfl
structure Bk15 (w : World) (geo : List Value) (gp : Nat) (p : PtrT) (t : Bs) (txg lv : Int) (tw bm : Bool) (xb xo i : Nat) (W : World) : Prop where
 geo : Blk W w.heap.size 24 geo
 ptr : Blk W gp 49 (encPtr p)
 bel : Below w.heap.size w W
 birth : W.cell? ⟨gp, 7, none⟩ = some (.int .i64 txg)
 level : W.cell? ⟨gp, 6, none⟩ = some (.int .i64 lv)
 two : W.cell? ⟨gp, 4, none⟩ = some (.bool tw)
 sum : W.rangeAt gp 8 (encSm (sumF t))
 ctxt : W.cell? ⟨xb, xo + i * 3, none⟩ = some (.string ⟨t.toArray⟩)
 clev : W.cell? ⟨xb, xo + i * 3 + 1, none⟩ = some (.int .i64 lv)
 cmt : W.cell? ⟨xb, xo + i * 3 + 2, none⟩ = some (.bool bm)
theorem sum_range {W : World} {g e : Nat} {p : PtrT} {t : Bs} (h : Blk W g e (encPtr p)) (hs : p.sumIs t = true) : W.rangeAt g 8 (encSm (sumF t)) := by
 unfold PtrT.sumIs at hs
 rw [decide_eq_true_eq] at hs
 obtain ⟨e1, e2, e3, e4⟩ := hs
 intro j v hv
 rw [h.cell]
 have hj : j < 4 := by have := (List.getElem?_eq_some_iff.1 hv).1; exact this
 rcases (by omega : j = 0 ∨ j = 1 ∨ j = 2 ∨ j = 3) with rfl | rfl | rfl | rfl
 ·show some (Value.int .u64 p.s0) = some v
  rw [e1]; exact hv
 ·show some (Value.int .u64 p.s1) = some v
  rw [e2]; exact hv
 ·show some (Value.int .u64 p.s2) = some v
  rw [e3]; exact hv
 ·show some (Value.int .u64 p.s3) = some v
  rw [e4]; exact hv
theorem Bk15.below {w : World} {geo : List Value} {gp : Nat} {p : PtrT} {t : Bs} {txg lv : Int} {tw bm : Bool} {xb xo i : Nat} {W W' : World} (h : Bk15 w geo gp p t txg lv tw bm xb xo i W) (hb : Below W.heap.size W W') : Bk15 w geo gp p t txg lv tw bm xb xo i W' := by
 have hc : ∀ {g j : Nat} {u : Value}, W.cell? ⟨g, j, none⟩ = some u → W'.cell? ⟨g, j, none⟩ = some u := fun {g j u} h9 => by
  have hlt := block_lt_of_cell h9
  rw [World.cell?_of_block (w := W) (hb.block g hlt)]
  exact h9
 exact ⟨h.geo.below hb, h.ptr.below hb, h.bel.trans (hb.mono h.bel.size), hc h.birth, hc h.level, hc h.two, fun j v hv => hc (h.sum j v hv), hc h.ctxt, hc h.clev, hc h.cmt⟩
structure Bk28 (w : World) (geo : List Value) (gp : Nat) (p : PtrT) (gl g2 : Nat) (q : PtrT) (pb k a b : Nat) (pg pa qg qa : Int) (W : World) : Prop where
 geo : Blk W w.heap.size 24 geo
 ptr : Blk W gp 49 (encPtr p)
 pl : W.rangeAt gl (a * 2) [.int .i64 pg, .int .i64 pa]
 ql : W.rangeAt g2 (b * 2) [.int .i64 qg, .int .i64 qa]
 row : W.rangeAt pb (k * 12) (encPtr q)
 bel : Below w.heap.size w W
 c5 : W.cell? ⟨gp, 5, none⟩ = some (.int .i64 p.size)
 cp : W.cell? ⟨gl, a * 2, none⟩ = some (.int .i64 pg)
 cq : W.cell? ⟨g2, b * 2, none⟩ = some (.int .i64 qg)
 ck : W.cell? ⟨pb, k * 12 + 5, none⟩ = some (.int .i64 q.size)
theorem Bk28.below {w : World} {geo : List Value} {gp : Nat} {p : PtrT} {gl g2 : Nat} {q : PtrT} {pb k a b : Nat} {pg pa qg qa : Int} {W W' : World} (h : Bk28 w geo gp p gl g2 q pb k a b pg pa qg qa W) (hb : Below W.heap.size W W') : Bk28 w geo gp p gl g2 q pb k a b pg pa qg qa W' := by
 have hc : ∀ {g j : Nat} {u : Value}, W.cell? ⟨g, j, none⟩ = some u → W'.cell? ⟨g, j, none⟩ = some u := fun {g j u} h9 => by
  have hlt := block_lt_of_cell h9
  rw [World.cell?_of_block (w := W) (hb.block g hlt)]
  exact h9
 exact ⟨h.geo.below hb, h.ptr.below hb, fun j v hv => hc (h.pl j v hv), fun j v hv => hc (h.ql j v hv), fun j v hv => hc (h.row j v hv), h.bel.trans (hb.mono h.bel.size), hc h.c5, hc h.cp, hc h.cq, hc h.ck⟩
theorem place_cell {W : World} {g e a : Nat} {l : List (Int × Int)} {x y : Int} (h : Blk W g e (encPc l)) (ha : a < l.length) (he : l.getD a (0, 0) = (x, y)) : W.cell? ⟨g, a * 2, none⟩ = some (.int .i64 x) := by
 have := (pl_cell h ha).1
 rw [he] at this
 exact this
theorem place_range {W : World} {g e a : Nat} {l : List (Int × Int)} {x y : Int} (h : Blk W g e (encPc l)) (ha : a < l.length) (he : l.getD a (0, 0) = (x, y)) : W.rangeAt g (a * 2) [.int .i64 x, .int .i64 y] := by
 intro j v hv
 have hj : j < 2 := by have := (List.getElem?_eq_some_iff.1 hv).1; exact this
 have hp := pl_cell h ha
 rw [he] at hp
 rcases (by omega : j = 0 ∨ j = 1) with rfl | rfl
 ·exact hp.1.trans hv
 ·exact hp.2.trans hv
theorem yields_neqPt {p : PtrT} (hp : p.wf) {ops : Array Oper} {S : World → Prop} {dst : Option Tmp} {x y : Operand} {t' ty : TypeId} {pos : String} {after : Array Edge} {guard : Option (Nat × Bool)} {a : Act} (hx : a.eval x = .agg (encPtr p).toArray) (hy : a.eval y = .agg (encPtr p).toArray) (hw : Region.wanted ⟨dst, .binOp .neq 49 x y t', ty, pos, after, guard⟩ (yielded ops a.tmps) = true) :
  YieldsIf Tryz.prog ops S ⟨dst, .binOp .neq 49 x y t', ty, pos, after, guard⟩ (.bool false) a := by
 refine .inl ⟨hw, fun w _ => ?_⟩
 show ((do let r ← (do eqGuard .neq 49 x y (a.eval x) (a.eval y); binOp .neq 49 (a.eval x) (a.eval y)); pure (Next.value r) : Sem Next).run Tryz.prog w) = _
 rw [hx, hy, Sem.run_bind, Sem.run_bind, run_eqGuard_agg w _ _ _ _ _ _ grdPt, Result.andThen_ok, run_neq_struct, run_eqPt hp hp, decide_eq_true rfl]
 rfl
structure Bk37 (rb pb bb k : Nat) (q : PtrT) (t : Bs) (W : World) : Prop where
 txt : W.cell? ⟨rb, k, none⟩ = some (.string ⟨t.toArray⟩)
 got : W.rangeAt pb (k * 12) (encPtr q)
 born : W.rangeAt bb (k * 12) (encPtr q)
theorem row_range {W : World} {b g cap k : Nat} {l : List PtrT} (h : W.ownsRow b 49 12 (.slice (some ⟨g, 0, none⟩) l.length cap) l.length (encPs l)) (hk : k < l.length) : W.rangeAt g (k * 12) (encPtr (l.getD k pD)) := by
 intro j v hv
 have hj : j < 12 := by have := (List.getElem?_eq_some_iff.1 hv).1; exact this
 rw [h.cellAt (k * 12 + j) (by omega)]
 have := flat_get (f := encPtr) (K := 12) (fun _ => rfl) l k j pD hk hj
 unfold encPs
 rw [this]
 exact hv
theorem run_eqSm (x : Nat × Nat × Nat × Nat) (W : World) : (Op.equalIn 10000 47 (.agg (encSm x).toArray) (.agg (encSm x).toArray)).run Tryz.prog W = .ok true W := by
 have h := run_eq_arr4 (x.1 : Nat) (x.2.1 : Nat) (x.2.2.1 : Nat) (x.2.2.2 : Nat) (x.1 : Nat) (x.2.1 : Nat) (x.2.2.1 : Nat) (x.2.2.2 : Nat) W
 rw [decide_eq_true ⟨rfl, rfl, rfl, rfl⟩] at h
 exact h
set_option maxHeartbeats 3200000 in
set_option maxRecDepth 100000 in
theorem storeback_pos (ga : Option Addr) (n gc : Nat) (gs : Gs) (secs : Int) (w : World) (h : GSl w ga n gc gs) (txg : Int) (xb xo bn bc : Nat) (bl : List BlkT) (hb : BkSl w (some ⟨xb, xo, none⟩) bn bc bl) (hbn : 0 < bn) :
  Calls Tryz.prog 4 #[.agg #[.slice ga n gc, .int .i64 secs], .int .i64 txg, .slice (some ⟨xb, xo, none⟩) bn bc] w fun e w' => e = .returned (.bool true) ∧ Below w.heap.size w w' := by
 have hl := h.len
 have hnmx : n ≤ maxLen := h.mx
 have hbl := hb.len
 have hbmx : bn ≤ maxLen := Nat.le_trans hb.2.1 hb.2.2.1
 obtain ⟨w0, hw0⟩ : ∃ w0, w0 = w.alloc (.cells #[.slice ga n gc, .int .i64 secs] 24) := ⟨_, rfl⟩
 have hb0 : Below w.heap.size w w0 := by rw [hw0]; exact (Below.refl _ _).alloc (Nat.le_refl _) _
 have hg0 : Blk w0 w.heap.size 24 [.slice ga n gc, .int .i64 secs] := by rw [hw0]; exact Blk.new w _ _
 have hs0 : w0.heap.size = w.heap.size + 1 := by rw [hw0]; simp
 have HAW := Lib.hid awake15_any
 have HFEW : Hid (∀ W, Below w.heap.size w W → Calls Tryz.prog 8 #[.slice (some ⟨xb, xo, none⟩) bn bc] W fun e w' => e = .returned (.bool (fewS bl)) ∧ w' = W) := Lib.hid (fun W hW => few15_any _ _ bc bl W (RSl.below hb hW) (by unfold maxLen at hbmx; omega))
 have HMN : Hid (devOk gs secs = false → ∀ W, Below w.heap.size w W → Calls Tryz.prog 10 #[.agg #[.slice ga n gc, .int .i64 secs], .slice none 0 0, .slice none 0 0, .int .i64 txg, .int .i64 0] W fun e w' => e = .returned (.tuple #[.pointer none, .bool false]) ∧ Below W.heap.size W w') := Lib.hid (fun hok W hW => made_no _ _ gc gs secs W (h.below hW) _ _ txg 0 hok (by unfold maxLen at hnmx; omega))
 have HMY : Hid (devOk gs secs = true → ∀ W, Below w.heap.size w W → Calls Tryz.prog 10 #[.agg #[.slice ga n gc, .int .i64 secs], .slice none 0 0, .slice none 0 0, .int .i64 txg, .int .i64 0] W fun e w' => ∃ sb bb V T S, e = .returned (.tuple #[.pointer (some ⟨sb, 0, none⟩), .bool true]) ∧ IsSto w' sb S V bb none T ∧ Bk S [] [] 0 ∧ (S.x.gs = gs ∧ S.x.secs = secs ∧ S.txg = txg) ∧ (∀ g, T g → W.heap.size ≤ g) ∧ Below W.heap.size W w') := Lib.hid (fun hok W hW => (made_yes _ _ gc gs secs W (h.below hW) none 0 0 [] (bsl_nil _) none 0 0 [] (bsl_nil _) txg 0 hok).mono (fun e w' hh => by
  obtain ⟨sb, bb, V, T, sn, r1, r2, r3, r4, r5, r6⟩ := hh
  have hr : rightB gs secs = true := by unfold devOk at hok; rw [Bool.and_eq_true] at hok; exact hok.1
  exact ⟨sb, bb, V, T, _, r1, r2, ⟨newSt_ok hr (out_nil gs) r3 r4, rfl, rfl, (fun i hi => absurd hi (by simp)), rfl, rfl⟩, ⟨rfl, rfl, rfl⟩, r5, r6⟩))
 have HG := Lib.hid h
 have HBK := Lib.hid hb
 have HB0 := Lib.hid hb0
 have HG0 := Lib.hid hg0
 have HL := Lib.hid hl
 have HBL := Lib.hid hbl
 obtain ⟨fw, hfw⟩ : ∃ fw, fw = fewS bl := ⟨_, rfl⟩
 rw [← hfw] at HFEW
 have HFW := Lib.hid hfw
 obtain ⟨dk, hdk⟩ : ∃ dk, dk = devOk gs secs := ⟨_, rfl⟩
 rw [← hdk] at HMN HMY
 clear h hb hl hbl hb0 hg0 hfw hbmx hnmx hdk
 go_enter Tryz.func4, Tryz.ntmps4
 go_upto_region 1 with fail
 rw [← hw0]
 clear hw0
 go_wp2_with fail
 refine (HAW.out w0).mono ?_
 rintro e w1 ⟨rfl, hb1⟩
 have HB1 : Hid (Below w.heap.size w w1) := Lib.hid (HB0.out.trans (hb1.mono (by omega)))
 have HG1 := Lib.hid (HG0.out.below hb1)
 have hs1 : w.heap.size + 1 ≤ w1.heap.size := by have := hb1.size; omega
 clear hb1 HG0 HB0
 cases fw with
 | false =>
  go_wp2_with fail
  refine (HFEW.out w1 HB1.out).mono ?_
  rintro e w2 ⟨rfl, rfl⟩
  go_wp2_with fail
  refine (HAW.out w2).mono ?_
  rintro e w3 ⟨rfl, hb3⟩
  have HB3 : Hid (Below w.heap.size w w3) := Lib.hid (HB1.out.trans (hb3.mono (by omega)))
  clear hb3
  go_wp2_with fail
  go_ret
  exact ⟨rfl, HB3.out⟩
 | true =>
  go_wp2_with fail
  refine (HFEW.out w1 HB1.out).mono ?_
  rintro e w2 ⟨rfl, hw2⟩
  subst hw2
  have c0 := HG1.out.cell 0
  have c1 := HG1.out.cell 1
  cases dk with
  | false =>
   go_wp2_with fail
   refine (HMN.out (by first | trivial | rfl) w2 HB1.out).mono ?_
   rintro e w6 ⟨rfl, hb6⟩
   have HB6 : Hid (Below w.heap.size w w6) := Lib.hid (HB1.out.trans (hb6.mono (by omega)))
   clear hb6
   go_wp2_with fail
   go_ret
   exact ⟨rfl, HB6.out⟩
  | true =>
   go_wp2_with fail
   refine (HMY.out (by first | trivial | rfl) w2 HB1.out).mono ?_
   rintro e w6 ⟨sb, bb, V, T, S, rfl, hst, hbk, hsg, htf, hb6⟩
   have HBK0 := Lib.hid hbk
   have HSG := Lib.hid hsg
   have HB : Hid (BkS w [.slice ga n gc, .int .i64 secs] sb bb V none S T (.slice none 0 0) (.slice none 0 0) [] [] w6) := Lib.hid ⟨hst, (fun g hg => by have := htf g hg; omega), World.ownsRow_nil _ _ _ _, World.ownsRow_nil _ _ _ _, (fun g hg => by cases hg), (fun g hg => by cases hg), HG1.out.below hb6, (fun hf => by have := htf _ hf; omega), HB1.out.trans (hb6.mono (by omega))⟩
   have hbn30 : bn ≤ 30 := by
    have h9 := HFW.out
    unfold fewS at h9
    have h8 := h9.symm
    rw [Bool.and_eq_true, decide_eq_true_eq] at h8
    rw [← HBL.out]
    exact h8.1
   clear hst hbk hsg htf hb6 HMN HMY c0 c1 HB1 HG1 HFEW HAW
   go_wp2_with fail
   go_loopw [9, 10, 11] (fun vp vt vi wr => ∃ (k : Nat) (S : StoT) (T : Nat → Prop) (dn : Option Nat) (got : List PtrT) (tx : List Bs) (K : Nat), k ≤ bn ∧ vi = .int .i64 (k : Nat) ∧ got.length ≤ k ∧ K ≤ 64 * k ∧ Hid (BkS w [.slice ga n gc, .int .i64 secs] sb bb V dn S T vp vt got tx wr) ∧ Hid (Bk S got tx K) ∧ Hid (S.x.gs = gs ∧ S.x.secs = secs ∧ S.txg = txg) ∧ Hid (0 < k → ∃ d, dn = some d)) (fun _ _ vi _ => bn - (intOf vi).toNat)
   case atStart => exact ⟨0, S, T, none, [], [], 0, by omega, rfl, by simp, by omega, HB, HBK0, HSG, Lib.hid (fun h9 => absurd h9 (by omega))⟩
   case round =>
    clear HB HBK0 HSG
    obtain ⟨i, S, T, d0, got, tx, K, hi, rfl, hgl, hK, HB, HK, HSG, HDN⟩ := hrel
    obtain ⟨po, pc, rfl⟩ := own_form HB.out.rp
    obtain ⟨ro, rc, rfl⟩ := own_form HB.out.rt
    have HTG : Hid (tx.length = got.length) := Lib.hid HK.out.len
    by_cases hin : i < bn
    ·have q1 : (i : Int) < (bn : Int) := by omega
     have q0 : 0 ≤ (i : Int) := by omega
     have HBC : Hid (∀ W, Below w.heap.size w W → W.cell? ⟨xb, xo + i * 3, none⟩ = some (.string ⟨(bl.getD i bkD).s.toArray⟩) ∧ W.cell? ⟨xb, xo + i * 3 + 1, none⟩ = some (.int .i64 (bl.getD i bkD).level) ∧ W.cell? ⟨xb, xo + i * 3 + 2, none⟩ = some (.bool (bl.getD i bkD).mt)) := Lib.hid (fun W hW => by
      obtain ⟨b, off, e, hb, hc⟩ := BkSl.cells (RSl.below HBK.out hW) hbn
      simp only [Option.some.injEq, Addr.mk.injEq, and_true] at e
      obtain ⟨rfl, rfl⟩ := e
      exact hc i hin)
     have HTL : Hid ((bl.getD i bkD).s.length ≤ 1000) := Lib.hid (by
      have h9 := HFW.out.symm
      unfold fewS at h9
      rw [Bool.and_eq_true, List.all_eq_true] at h9
      have h8 : bl.getD i bkD ∈ bl := by
       have : i < bl.length := by rw [HBL.out]; exact hin
       rw [List.getD_eq_getElem?_getD, List.getElem?_eq_getElem this]
       exact List.getElem_mem _
      have := h9.2 _ h8
      simpa using this)
     obtain ⟨t, ht⟩ : ∃ t, t = (bl.getD i bkD).s := ⟨_, rfl⟩
     obtain ⟨lv, hlv⟩ : ∃ lv, lv = (bl.getD i bkD).level := ⟨_, rfl⟩
     obtain ⟨bm, hbm⟩ : ∃ bm, bm = (bl.getD i bkD).mt := ⟨_, rfl⟩
     rw [← ht] at HBC HTL
     rw [← hlv, ← hbm] at HBC
     clear ht hlv hbm
     obtain ⟨R, hR⟩ : ∃ R, R = putR { S with mt := bm } t lv := ⟨_, rfl⟩
     have HPP := Lib.hid (HK.out.put bm t lv)
     have HPL : Hid (∀ W d sb2 T1, IsSto W sb S V bb (some d) T1 → Blk W sb2 41 (stoC V { S with mt := bm } bb (some d)) → sb2 ≠ sb → Calls Tryz.prog 12 #[.pointer (some ⟨sb2, 0, none⟩), .string ⟨t.toArray⟩, .int .i64 lv] W fun e w' => e = .returned (.tuple #[.agg (encPtr R.p).toArray, .int .i64 (R.err : Nat)]) ∧ ∃ T', IsSto w' sb { R.s with mt := S.mt } V bb (some d) T' ∧ Mod (fun g => T1 g ∨ g = sb2) W w' ∧ ∀ g, T' g → T1 g ∨ g = sb2 ∨ W.heap.size ≤ g) := Lib.hid (fun W d sb2 T1 hW hB2 hne => by
      rw [hR]
      exact asput hW hB2 hne HK.out.ok (by omega) (by rw [HK.out.kp]; omega) (by rw [HK.out.born]; omega) t lv (by have := HTL.out; omega))
     rw [← hR] at HPP
     clear hR
     go_upto_region 11 with fail
     go_cut [12, 13] (fun v12 v13 wx => ∃ gp T' d, v12 = .pointer (some ⟨gp, 0, none⟩) ∧ v13 = .int .i64 (R.err : Nat) ∧ Hid (BkS w [.slice ga n gc, .int .i64 secs] sb bb V (some d) { R.s with mt := S.mt } T' (.slice po got.length pc) (.slice ro tx.length rc) got tx wx) ∧ Hid (Blk wx gp 49 (encPtr R.p)) ∧ Hid (¬ T' gp ∧ w.heap.size + 1 ≤ gp))
     case first => as_aux_lemma =>
      have HM0 : Hid (Mod T wr.drew wr.drew) := Lib.hid (Mod.refl _ _)
      have HI0 : Hid (IsSto wr.drew sb S V bb d0 T) := Lib.hid (HB.out.is.below (Below.refl _ _).drew)
      have HN0 : Hid (∀ g, T g → T g ∨ wr.heap.size ≤ g) := Lib.hid (fun g hg => .inl hg)
      have hS0 : Below w.heap.size w wr.drew ∧ wr.drew.cell? ⟨xb, xo + i * 3, none⟩ = some (.string ⟨t.toArray⟩) ∧ wr.drew.cell? ⟨xb, xo + i * 3 + 1, none⟩ = some (.int .i64 lv) ∧ wr.drew.cell? ⟨xb, xo + i * 3 + 2, none⟩ = some (.bool bm) := ⟨HB.out.bel.drew, HBC.out _ HB.out.bel.drew⟩
      refine wp_region_held_drew (S := fun W => Below w.heap.size w W ∧ W.cell? ⟨xb, xo + i * 3, none⟩ = some (.string ⟨t.toArray⟩) ∧ W.cell? ⟨xb, xo + i * 3 + 1, none⟩ = some (.int .i64 lv) ∧ W.cell? ⟨xb, xo + i * 3 + 2, none⟩ = some (.bool bm)) (by kernel_rfl) hS0 (fun hS0 => ?_)
      refine rtd 0 ?_; refine rtd 1 ?_; refine rtd 2 ?_; refine rtd 3 ?_; refine rtd 4 ?_; refine rtd 5 ?_; refine rtd 7 ?_; refine rtd 8 ?_; refine rtd 9 ?_; refine rtd 10 ?_; refine rtd 11 ?_; refine rtd 12 ?_
      refine rtd 13 ?_; refine rtd 14 ?_; refine rtd 15 ?_; refine rtd 16 ?_
      refine wpAnyH_ready (rs := [6, 21]) (by kernel_rfl) (by simp) ?_
      refine AllReadyH.cons (by simp only [List.getElem?_toArray, List.getElem?_cons_succ, List.getElem?_cons_zero]; rfl) (fun K hK => ?_) (AllReadyH.cons (by simp only [List.getElem?_toArray, List.getElem?_cons_succ, List.getElem?_cons_zero]; rfl) (fun K hK => ?_) AllReadyH.nil)
      ·go_simp
       refine (as_any HI0.out bm).mono ?_
       rintro e wy1 ⟨dy1, s2y1, Ty1, rfl, hiy1, hmy1, hny1, hby1, hgy1, hqy1⟩
       have HIy1 : Hid (IsSto (wy1) sb S V bb (some dy1) Ty1) := Lib.hid (hiy1)
       have HMy1 : Hid (Mod T wr.drew wy1) := Lib.hid (HM0.out.trans hmy1 (fun x _ hx => hx))
       have HNy1 : Hid (∀ g, Ty1 g → T g ∨ wr.heap.size ≤ g) := Lib.hid (fun g hg => by
        rcases hny1 g hg with h9 | h9
        ·exact .inl h9
        ·have := HM0.out.size; (try simp at this h9); omega)
       have HQy1 : Hid (Blk wy1 s2y1 41 (stoC V { S with mt := bm } bb (some dy1)) ∧ ¬ Ty1 s2y1 ∧ wr.heap.size ≤ s2y1) := Lib.hid (⟨hby1, hqy1, by have := HM0.out.size; (try simp at this hgy1); omega⟩)
       clear hiy1 hmy1 hny1 hby1 hgy1 hqy1
       try dsimp only
       refine hK.out _ _ (⟨(HB.out.bel.drew.trans (HMy1.out.toBelow HB.out.fr HB.out.bel.size)), HBC.out _ (HB.out.bel.drew.trans (HMy1.out.toBelow HB.out.fr HB.out.bel.size))⟩) (fun hSda6 => ?_)
       try simp only [Act.put, z1, z2, z3]
       refine wpAnyH_ready (rs := [17, 21]) (by kernel_rfl) (by simp) ?_
       refine AllReadyH.cons (by simp only [List.getElem?_toArray, List.getElem?_cons_succ, List.getElem?_cons_zero]; rfl) (fun K hK => ?_) (AllReadyH.cons (by simp only [List.getElem?_toArray, List.getElem?_cons_succ, List.getElem?_cons_zero]; rfl) (fun K hK => ?_) AllReadyH.nil)
       ·go_simp
        refine (HPL.out _ dy1 _ _ HIy1.out HQy1.out.1 (fun e => HQy1.out.2.1 (by rw [e]; exact HIy1.out.self))).mono ?_
        rintro e wy2 ⟨rfl, Ty2, hiy2, hmy2, hny2⟩
        have HIy2 : Hid (IsSto (wy2) sb { R.s with mt := S.mt } V bb (some dy1) Ty2) := Lib.hid (hiy2)
        have HMy2 : Hid (Mod T wr.drew wy2) := Lib.hid (HMy1.out.trans hmy2 (fun x hx hf => by
         rcases hf with h9 | h9
         ·rcases HNy1.out x h9 with h8 | h8
          ·exact h8
          ·have e9 : wr.drew.heap.size = wr.heap.size := rfl; omega
         ·have := HQy1.out.2.2; have e9 : wr.drew.heap.size = wr.heap.size := rfl; omega))
        have HNy2 : Hid (∀ g, Ty2 g → T g ∨ wr.heap.size ≤ g) := Lib.hid (fun g hg => by
         rcases hny2 g hg with h9 | h9 | h9
         ·exact HNy1.out g h9
         ·right; have := HQy1.out.2.2; omega
         ·have := HMy1.out.size; (try simp at this h9); omega)
        clear hiy2 hmy2 hny2
        try dsimp only
        refine hK.out _ _ (⟨(HB.out.bel.drew.trans (HMy2.out.toBelow HB.out.fr HB.out.bel.size)), HBC.out _ (HB.out.bel.drew.trans (HMy2.out.toBelow HB.out.fr HB.out.bel.size))⟩) (fun hSdaa17 => ?_)
        try simp only [Act.put, z1, z2, z3]
        refine rtd 18 ?_; refine rtd 19 ?_; refine rtd 20 ?_
        refine rr1 (i := 21) (h := fun K hK => ?_)
        go_simp
        skip
        refine hK.out _ _ (⟨(HB.out.bel.drew.trans ((HMy2.out.alloc _).toBelow HB.out.fr HB.out.bel.size)), HBC.out _ (HB.out.bel.drew.trans ((HMy2.out.alloc _).toBelow HB.out.fr HB.out.bel.size))⟩) (fun hSdaa21 => ?_)
        try simp only [Act.put, z1, z2, z3]
        have HMy3 : Hid (Mod T wr.drew ((wy2).alloc (.cells #[.int .i64 0, .int .i64 0, .int .i64 0, .int .i64 0, .bool false, .int .i64 0, .int .i64 0, .int .i64 0, .int .u64 0, .int .u64 0, .int .u64 0, .int .u64 0] 49))) := Lib.hid (HMy2.out.alloc _)
        have HIy3 : Hid (IsSto ((wy2).alloc (.cells #[.int .i64 0, .int .i64 0, .int .i64 0, .int .i64 0, .bool false, .int .i64 0, .int .i64 0, .int .i64 0, .int .u64 0, .int .u64 0, .int .u64 0, .int .u64 0] 49)) sb { R.s with mt := S.mt } V bb (some dy1) Ty2) := Lib.hid (HIy2.out.below ((Below.refl _ _).alloc (Nat.le_refl _) _))
        have HPy3 : Hid (Blk ((wy2).alloc (.cells #[.int .i64 0, .int .i64 0, .int .i64 0, .int .i64 0, .bool false, .int .i64 0, .int .i64 0, .int .i64 0, .int .u64 0, .int .u64 0, .int .u64 0, .int .u64 0] 49)) (wy2.heap.size) 49 [.int .i64 0, .int .i64 0, .int .i64 0, .int .i64 0, .bool false, .int .i64 0, .int .i64 0, .int .i64 0, .int .u64 0, .int .u64 0, .int .u64 0, .int .u64 0] ∧ ¬ Ty2 (wy2.heap.size) ∧ wr.heap.size ≤ wy2.heap.size) := Lib.hid (⟨Blk.newAt _ _ (by simp), (fun hf => by have e9 := HIy2.out.lt _ hf; (try simp at e9); (try omega)), by have := HMy2.out.size; (try simp at this); omega⟩)
        refine rr1 (i := 22) (h := fun K hK => ?_)
        rw [if_pos (by kernel_rfl)]
        refine wp_store_mid 49 (.tmp 12) (.tmp 64) rfl (wy2.heap.size) (0) (encPtr R.p).toArray rfl rfl (blk_there HPy3.out.1 (Nat.le_refl 12)) iszPt (all_oneCell_toArray (encPtr_ones R.p)) ?_
        refine hK.out _ _ (⟨(HB.out.bel.drew.trans ((HMy3.out.put (.inr (by have := HPy3.out.2.2; simpa using this))).toBelow HB.out.fr HB.out.bel.size)), HBC.out _ (HB.out.bel.drew.trans ((HMy3.out.put (.inr (by have := HPy3.out.2.2; simpa using this))).toBelow HB.out.fr HB.out.bel.size))⟩) (fun hSdaa22 => ?_)
        try simp only [Act.put, z1, z2, z3]
        refine rtd 23 ?_
        refine wpAnyH_done (by kernel_rfl) ?_ _
        have HT : Hid (BkS w [.slice ga n gc, .int .i64 secs] sb bb V (some dy1) { R.s with mt := S.mt } Ty2 (.slice po got.length pc) (.slice ro tx.length rc) got tx (((wy2).alloc (.cells #[.int .i64 0, .int .i64 0, .int .i64 0, .int .i64 0, .bool false, .int .i64 0, .int .i64 0, .int .i64 0, .int .u64 0, .int .u64 0, .int .u64 0, .int .u64 0] 49)).setCells (wy2.heap.size) 0 (encPtr R.p)) ∧ Blk (((wy2).alloc (.cells #[.int .i64 0, .int .i64 0, .int .i64 0, .int .i64 0, .bool false, .int .i64 0, .int .i64 0, .int .i64 0, .int .u64 0, .int .u64 0, .int .u64 0, .int .u64 0] 49)).setCells (wy2.heap.size) 0 (encPtr R.p)) (wy2.heap.size) 49 (encPtr R.p) ∧ ¬ Ty2 (wy2.heap.size) ∧ w.heap.size + 1 ≤ wy2.heap.size) := Lib.hid ⟨(HB.out.below (Below.refl _ _).drew).go (HIy3.out.other HPy3.out.1 (by unfold BookTy; decide) HPy3.out.2.1 (setCells_grown _ _ _ _)) (HMy3.out.put (.inr (by have := HPy3.out.2.2; simpa using this))) (fun g hg => by rcases HNy2.out g hg with h9 | h9; exact .inl h9; exact .inr h9), HPy3.out.1.put rfl, HPy3.out.2.1, by have := HPy3.out.2.2; have := HB.out.geo.lt; omega⟩
        go_wp2_with fail
        go_meet
        exact ⟨_, _, dy1, rfl, rfl, Lib.hid HT.out.1, Lib.hid HT.out.2.1, Lib.hid HT.out.2.2⟩
       ·go_simp
        skip
        refine hK.out _ _ (⟨(HB.out.bel.drew.trans ((HMy1.out.alloc _).toBelow HB.out.fr HB.out.bel.size)), HBC.out _ (HB.out.bel.drew.trans ((HMy1.out.alloc _).toBelow HB.out.fr HB.out.bel.size))⟩) (fun hSdab21 => ?_)
        try simp only [Act.put, z1, z2, z3]
        have HMy4 : Hid (Mod T wr.drew ((wy1).alloc (.cells #[.int .i64 0, .int .i64 0, .int .i64 0, .int .i64 0, .bool false, .int .i64 0, .int .i64 0, .int .i64 0, .int .u64 0, .int .u64 0, .int .u64 0, .int .u64 0] 49))) := Lib.hid (HMy1.out.alloc _)
        have HIy4 : Hid (IsSto ((wy1).alloc (.cells #[.int .i64 0, .int .i64 0, .int .i64 0, .int .i64 0, .bool false, .int .i64 0, .int .i64 0, .int .i64 0, .int .u64 0, .int .u64 0, .int .u64 0, .int .u64 0] 49)) sb S V bb (some dy1) Ty1) := Lib.hid (HIy1.out.below ((Below.refl _ _).alloc (Nat.le_refl _) _))
        have HPy4 : Hid (Blk ((wy1).alloc (.cells #[.int .i64 0, .int .i64 0, .int .i64 0, .int .i64 0, .bool false, .int .i64 0, .int .i64 0, .int .i64 0, .int .u64 0, .int .u64 0, .int .u64 0, .int .u64 0] 49)) (wy1.heap.size) 49 [.int .i64 0, .int .i64 0, .int .i64 0, .int .i64 0, .bool false, .int .i64 0, .int .i64 0, .int .i64 0, .int .u64 0, .int .u64 0, .int .u64 0, .int .u64 0] ∧ ¬ Ty1 (wy1.heap.size) ∧ wr.heap.size ≤ wy1.heap.size ∧ wy1.heap.size ≠ s2y1) := Lib.hid (⟨Blk.newAt _ _ (by simp), (fun hf => by have e9 := HIy1.out.lt _ hf; (try simp at e9); (try omega)), by have := HMy1.out.size; (try simp at this); omega, by have e9 := HQy1.out.1.lt; (try simp at e9); omega⟩)
        have HQy4 : Hid (Blk ((wy1).alloc (.cells #[.int .i64 0, .int .i64 0, .int .i64 0, .int .i64 0, .bool false, .int .i64 0, .int .i64 0, .int .i64 0, .int .u64 0, .int .u64 0, .int .u64 0, .int .u64 0] 49)) s2y1 41 (stoC V { S with mt := bm } bb (some dy1)) ∧ ¬ Ty1 s2y1 ∧ wr.heap.size ≤ s2y1) := Lib.hid (⟨HQy1.out.1.alloc _, HQy1.out.2⟩)
        refine rr1 (i := 17) (h := fun K hK => ?_)
        go_simp
        refine (HPL.out _ dy1 _ _ HIy4.out HQy4.out.1 (fun e => HQy4.out.2.1 (by rw [e]; exact HIy4.out.self))).mono ?_
        rintro e wy5 ⟨rfl, Ty5, hiy5, hmy5, hny5⟩
        have HIy5 : Hid (IsSto (wy5) sb { R.s with mt := S.mt } V bb (some dy1) Ty5) := Lib.hid (hiy5)
        have HMy5 : Hid (Mod T wr.drew wy5) := Lib.hid (HMy4.out.trans hmy5 (fun x hx hf => by
         rcases hf with h9 | h9
         ·rcases HNy1.out x h9 with h8 | h8
          ·exact h8
          ·have e9 : wr.drew.heap.size = wr.heap.size := rfl; omega
         ·have := HQy4.out.2.2; have e9 : wr.drew.heap.size = wr.heap.size := rfl; omega))
        have HNy5 : Hid (∀ g, Ty5 g → T g ∨ wr.heap.size ≤ g) := Lib.hid (fun g hg => by
         rcases hny5 g hg with h9 | h9 | h9
         ·exact HNy1.out g h9
         ·right; have := HQy4.out.2.2; omega
         ·have := HMy4.out.size; (try simp at this h9); omega)
        have HPy5 : Hid (Blk wy5 (wy1.heap.size) 49 [.int .i64 0, .int .i64 0, .int .i64 0, .int .i64 0, .bool false, .int .i64 0, .int .i64 0, .int .i64 0, .int .u64 0, .int .u64 0, .int .u64 0, .int .u64 0] ∧ ¬ Ty5 (wy1.heap.size) ∧ wr.heap.size ≤ wy1.heap.size) := Lib.hid (⟨hmy5.blk HPy4.out.1 (fun hf => hf.elim HPy4.out.2.1 HPy4.out.2.2.2), (fun hf => by
         rcases hny5 _ hf with h9 | h9 | h9
         ·exact HPy4.out.2.1 h9
         ·exact HPy4.out.2.2.2 h9
         ·have := HPy4.out.1.lt; omega), HPy4.out.2.2.1⟩)
        clear hiy5 hmy5 hny5
        try dsimp only
        refine hK.out _ _ (⟨(HB.out.bel.drew.trans (HMy5.out.toBelow HB.out.fr HB.out.bel.size)), HBC.out _ (HB.out.bel.drew.trans (HMy5.out.toBelow HB.out.fr HB.out.bel.size))⟩) (fun hSdab17 => ?_)
        try simp only [Act.put, z1, z2, z3]
        refine rtd 18 ?_; refine rtd 19 ?_; refine rtd 20 ?_
        refine rr1 (i := 22) (h := fun K hK => ?_)
        rw [if_pos (by kernel_rfl)]
        refine wp_store_mid 49 (.tmp 12) (.tmp 64) rfl (wy1.heap.size) (0) (encPtr R.p).toArray rfl rfl (blk_there HPy5.out.1 (Nat.le_refl 12)) iszPt (all_oneCell_toArray (encPtr_ones R.p)) ?_
        refine hK.out _ _ (⟨(HB.out.bel.drew.trans ((HMy5.out.put (.inr (by have := HPy5.out.2.2; simpa using this))).toBelow HB.out.fr HB.out.bel.size)), HBC.out _ (HB.out.bel.drew.trans ((HMy5.out.put (.inr (by have := HPy5.out.2.2; simpa using this))).toBelow HB.out.fr HB.out.bel.size))⟩) (fun hSdab22 => ?_)
        try simp only [Act.put, z1, z2, z3]
        refine rtd 23 ?_
        refine wpAnyH_done (by kernel_rfl) ?_ _
        have HT : Hid (BkS w [.slice ga n gc, .int .i64 secs] sb bb V (some dy1) { R.s with mt := S.mt } Ty5 (.slice po got.length pc) (.slice ro tx.length rc) got tx ((wy5).setCells (wy1.heap.size) 0 (encPtr R.p)) ∧ Blk ((wy5).setCells (wy1.heap.size) 0 (encPtr R.p)) (wy1.heap.size) 49 (encPtr R.p) ∧ ¬ Ty5 (wy1.heap.size) ∧ w.heap.size + 1 ≤ wy1.heap.size) := Lib.hid ⟨(HB.out.below (Below.refl _ _).drew).go (HIy5.out.other HPy5.out.1 (by unfold BookTy; decide) HPy5.out.2.1 (setCells_grown _ _ _ _)) (HMy5.out.put (.inr (by have := HPy5.out.2.2; simpa using this))) (fun g hg => by rcases HNy5.out g hg with h9 | h9; exact .inl h9; exact .inr h9), HPy5.out.1.put rfl, HPy5.out.2.1, by have := HPy5.out.2.2; have := HB.out.geo.lt; omega⟩
        go_wp2_with fail
        go_meet
        exact ⟨_, _, dy1, rfl, rfl, Lib.hid HT.out.1, Lib.hid HT.out.2.1, Lib.hid HT.out.2.2⟩
      ·go_simp
       skip
       refine hK.out _ _ (⟨(HB.out.bel.drew.trans ((HM0.out.alloc _).toBelow HB.out.fr HB.out.bel.size)), HBC.out _ (HB.out.bel.drew.trans ((HM0.out.alloc _).toBelow HB.out.fr HB.out.bel.size))⟩) (fun hSdb21 => ?_)
       try simp only [Act.put, z1, z2, z3]
       have HMy6 : Hid (Mod T wr.drew ((wr.drew).alloc (.cells #[.int .i64 0, .int .i64 0, .int .i64 0, .int .i64 0, .bool false, .int .i64 0, .int .i64 0, .int .i64 0, .int .u64 0, .int .u64 0, .int .u64 0, .int .u64 0] 49))) := Lib.hid (HM0.out.alloc _)
       have HIy6 : Hid (IsSto ((wr.drew).alloc (.cells #[.int .i64 0, .int .i64 0, .int .i64 0, .int .i64 0, .bool false, .int .i64 0, .int .i64 0, .int .i64 0, .int .u64 0, .int .u64 0, .int .u64 0, .int .u64 0] 49)) sb S V bb d0 T) := Lib.hid (HI0.out.below ((Below.refl _ _).alloc (Nat.le_refl _) _))
       have HPy6 : Hid (Blk ((wr.drew).alloc (.cells #[.int .i64 0, .int .i64 0, .int .i64 0, .int .i64 0, .bool false, .int .i64 0, .int .i64 0, .int .i64 0, .int .u64 0, .int .u64 0, .int .u64 0, .int .u64 0] 49)) (wr.heap.size) 49 [.int .i64 0, .int .i64 0, .int .i64 0, .int .i64 0, .bool false, .int .i64 0, .int .i64 0, .int .i64 0, .int .u64 0, .int .u64 0, .int .u64 0, .int .u64 0] ∧ ¬ T (wr.heap.size) ∧ wr.heap.size ≤ wr.heap.size) := Lib.hid (⟨Blk.newAt _ _ (by simp), (fun hf => by have e9 := HI0.out.lt _ hf; (try simp at e9); (try omega)), by have := HM0.out.size; (try simp at this); omega⟩)
       refine rr1 (i := 6) (h := fun K hK => ?_)
       go_simp
       refine (as_any HIy6.out bm).mono ?_
       rintro e wy7 ⟨dy7, s2y7, Ty7, rfl, hiy7, hmy7, hny7, hby7, hgy7, hqy7⟩
       have HIy7 : Hid (IsSto (wy7) sb S V bb (some dy7) Ty7) := Lib.hid (hiy7)
       have HMy7 : Hid (Mod T wr.drew wy7) := Lib.hid (HMy6.out.trans hmy7 (fun x _ hx => hx))
       have HNy7 : Hid (∀ g, Ty7 g → T g ∨ wr.heap.size ≤ g) := Lib.hid (fun g hg => by
        rcases hny7 g hg with h9 | h9
        ·exact .inl h9
        ·have := HMy6.out.size; (try simp at this h9); omega)
       have HQy7 : Hid (Blk wy7 s2y7 41 (stoC V { S with mt := bm } bb (some dy7)) ∧ ¬ Ty7 s2y7 ∧ wr.heap.size ≤ s2y7) := Lib.hid (⟨hby7, hqy7, by have := HMy6.out.size; (try simp at this hgy7); omega⟩)
       have HPy7 : Hid (Blk wy7 (wr.heap.size) 49 [.int .i64 0, .int .i64 0, .int .i64 0, .int .i64 0, .bool false, .int .i64 0, .int .i64 0, .int .i64 0, .int .u64 0, .int .u64 0, .int .u64 0, .int .u64 0] ∧ ¬ Ty7 (wr.heap.size) ∧ wr.heap.size ≤ wr.heap.size ∧ wr.heap.size ≠ s2y7) := Lib.hid (⟨hmy7.blk HPy6.out.1 HPy6.out.2.1, (fun hf => by
        rcases hny7 _ hf with h9 | h9
        ·exact HPy6.out.2.1 h9
        ·have := HPy6.out.1.lt; omega), HPy6.out.2.2, by have := HPy6.out.1.lt; omega⟩)
       clear hiy7 hmy7 hny7 hby7 hgy7 hqy7
       try dsimp only
       refine hK.out _ _ (⟨(HB.out.bel.drew.trans (HMy7.out.toBelow HB.out.fr HB.out.bel.size)), HBC.out _ (HB.out.bel.drew.trans (HMy7.out.toBelow HB.out.fr HB.out.bel.size))⟩) (fun hSdb6 => ?_)
       try simp only [Act.put, z1, z2, z3]
       refine rr1 (i := 17) (h := fun K hK => ?_)
       go_simp
       refine (HPL.out _ dy7 _ _ HIy7.out HQy7.out.1 (fun e => HQy7.out.2.1 (by rw [e]; exact HIy7.out.self))).mono ?_
       rintro e wy8 ⟨rfl, Ty8, hiy8, hmy8, hny8⟩
       have HIy8 : Hid (IsSto (wy8) sb { R.s with mt := S.mt } V bb (some dy7) Ty8) := Lib.hid (hiy8)
       have HMy8 : Hid (Mod T wr.drew wy8) := Lib.hid (HMy7.out.trans hmy8 (fun x hx hf => by
        rcases hf with h9 | h9
        ·rcases HNy7.out x h9 with h8 | h8
         ·exact h8
         ·have e9 : wr.drew.heap.size = wr.heap.size := rfl; omega
        ·have := HQy7.out.2.2; have e9 : wr.drew.heap.size = wr.heap.size := rfl; omega))
       have HNy8 : Hid (∀ g, Ty8 g → T g ∨ wr.heap.size ≤ g) := Lib.hid (fun g hg => by
        rcases hny8 g hg with h9 | h9 | h9
        ·exact HNy7.out g h9
        ·right; have := HQy7.out.2.2; omega
        ·have := HMy7.out.size; (try simp at this h9); omega)
       have HPy8 : Hid (Blk wy8 (wr.heap.size) 49 [.int .i64 0, .int .i64 0, .int .i64 0, .int .i64 0, .bool false, .int .i64 0, .int .i64 0, .int .i64 0, .int .u64 0, .int .u64 0, .int .u64 0, .int .u64 0] ∧ ¬ Ty8 (wr.heap.size) ∧ wr.heap.size ≤ wr.heap.size) := Lib.hid (⟨hmy8.blk HPy7.out.1 (fun hf => hf.elim HPy7.out.2.1 HPy7.out.2.2.2), (fun hf => by
        rcases hny8 _ hf with h9 | h9 | h9
        ·exact HPy7.out.2.1 h9
        ·exact HPy7.out.2.2.2 h9
        ·have := HPy7.out.1.lt; omega), HPy7.out.2.2.1⟩)
       clear hiy8 hmy8 hny8
       try dsimp only
       refine hK.out _ _ (⟨(HB.out.bel.drew.trans (HMy8.out.toBelow HB.out.fr HB.out.bel.size)), HBC.out _ (HB.out.bel.drew.trans (HMy8.out.toBelow HB.out.fr HB.out.bel.size))⟩) (fun hSdb17 => ?_)
       try simp only [Act.put, z1, z2, z3]
       refine rtd 18 ?_; refine rtd 19 ?_; refine rtd 20 ?_
       refine rr1 (i := 22) (h := fun K hK => ?_)
       rw [if_pos (by kernel_rfl)]
       refine wp_store_mid 49 (.tmp 12) (.tmp 64) rfl (wr.heap.size) (0) (encPtr R.p).toArray rfl rfl (blk_there HPy8.out.1 (Nat.le_refl 12)) iszPt (all_oneCell_toArray (encPtr_ones R.p)) ?_
       refine hK.out _ _ (⟨(HB.out.bel.drew.trans ((HMy8.out.put (.inr (by have := HPy8.out.2.2; simpa using this))).toBelow HB.out.fr HB.out.bel.size)), HBC.out _ (HB.out.bel.drew.trans ((HMy8.out.put (.inr (by have := HPy8.out.2.2; simpa using this))).toBelow HB.out.fr HB.out.bel.size))⟩) (fun hSdb22 => ?_)
       try simp only [Act.put, z1, z2, z3]
       refine rtd 23 ?_
       refine wpAnyH_done (by kernel_rfl) ?_ _
       have HT : Hid (BkS w [.slice ga n gc, .int .i64 secs] sb bb V (some dy7) { R.s with mt := S.mt } Ty8 (.slice po got.length pc) (.slice ro tx.length rc) got tx ((wy8).setCells (wr.heap.size) 0 (encPtr R.p)) ∧ Blk ((wy8).setCells (wr.heap.size) 0 (encPtr R.p)) (wr.heap.size) 49 (encPtr R.p) ∧ ¬ Ty8 (wr.heap.size) ∧ w.heap.size + 1 ≤ wr.heap.size) := Lib.hid ⟨(HB.out.below (Below.refl _ _).drew).go (HIy8.out.other HPy8.out.1 (by unfold BookTy; decide) HPy8.out.2.1 (setCells_grown _ _ _ _)) (HMy8.out.put (.inr (by have := HPy8.out.2.2; simpa using this))) (fun g hg => by rcases HNy8.out g hg with h9 | h9; exact .inl h9; exact .inr h9), HPy8.out.1.put rfl, HPy8.out.2.1, by have := HPy8.out.2.2; have := HB.out.geo.lt; omega⟩
       go_wp2_with fail
       go_meet
       exact ⟨_, _, dy7, rfl, rfl, Lib.hid HT.out.1, Lib.hid HT.out.2.1, Lib.hid HT.out.2.2⟩
     case rest =>
      obtain ⟨gp, T2, d2, rfl, rfl, HB2, HGP, HNP⟩ := hcut
      obtain ⟨wA, rfl⟩ : ∃ wA : World, wA = wc := ⟨_, rfl⟩
      obtain ⟨S2, hS2⟩ : ∃ S2, S2 = { R.s with mt := S.mt } := ⟨_, rfl⟩
      rw [← hS2] at HB2 HPP
      have HSG2 : Hid (S2.x.gs = gs ∧ S2.x.secs = secs ∧ S2.txg = txg) := Lib.hid (by
       obtain ⟨a1, a2, a3, _⟩ := HPP.out
       rw [hS2]
       exact ⟨a1.trans HSG.out.1, a2.trans HSG.out.2.1, a3.trans HSG.out.2.2⟩)
      have HSX : Hid (R.s.x = S2.x) := Lib.hid (by rw [hS2])
      clear hS2 HPL
      have l12 := fun (op : Oper) (a : Act) (next : Act → World → Prop) (Q : Exit → Act → World → Prop) => loadW_blk (P := Tryz.prog) (t := 49) HGP.out Tryz.underlying49 rfl iszPt op a next Q
      by_cases hre : R.err = 0
      ·obtain ⟨_, z2, z3, z4, z5⟩ := HPP.out.2.2.2.resolve_left (fun h9 => h9.1 hre)
       rw [hre]
       have HK2 := Lib.hid z2
       have HPW := Lib.hid z3
       have HPF := Lib.hid z4
       have HDI := Lib.hid z5
       clear z2 z3 z4 z5 HPP
       have HPR : Hid (ptrRight gs secs R.p = true) := Lib.hid (by
        have h9 := HPW.out.right
        rw [HSX.out, HSG2.out.1, HSG2.out.2.1] at h9
        exact h9)
       have HRT : Hid (∀ W, Below w.heap.size w W → Calls Tryz.prog 16 #[.agg #[.slice ga n gc, .int .i64 secs], .agg (encPtr R.p).toArray] W fun e w' => e = .returned (.bool true) ∧ Below W.heap.size W w') := Lib.hid (fun W hW => by
        have h9 := pright_any ga n gc gs secs R.p W (HG.out.below hW) HPW.out.ok
        rw [HPR.out] at h9
        exact h9)
       have HSM : Hid (∀ W, Calls Tryz.prog 17 #[.string ⟨t.toArray⟩] W fun e w' => e = .returned (.agg (encSm (sumF t)).toArray) ∧ Below W.heap.size W w') := Lib.hid (fun W => sum_any t (by have := HTL.out; omega) W)
       have HTW := Lib.hid (two_any lv bm)
       obtain ⟨tw, htw⟩ : ∃ tw, tw = R.p.two := ⟨_, rfl⟩
       have HTWE := Lib.hid htw
       clear htw
       go_upto_region 15 with fail
       go_cut [119] (fun v wx => v = .bool false ∧ Hid (Below wA.heap.size wA wx))
       case first => as_aux_lemma =>
        have hS0 : Bk15 w [.slice ga n gc, .int .i64 secs] gp R.p t txg lv tw bm xb xo i wA.drew := ⟨HB2.out.geo, HGP.out, HB2.out.bel.drew, HGP.out.cell 7 |>.trans (by show some (Value.int .i64 R.p.birth) = _; rw [HPF.out.1, HSG.out.2.2]), HGP.out.cell 6 |>.trans (by show some (Value.int .i64 R.p.level) = _; rw [HPF.out.2.1]), HGP.out.cell 4 |>.trans (by show some (Value.bool R.p.two) = _; rw [← HTWE.out]), sum_range HGP.out HPW.out.sum, (HBC.out _ HB2.out.bel.drew).1, (HBC.out _ HB2.out.bel.drew).2.1, (HBC.out _ HB2.out.bel.drew).2.2⟩
        have HS0 := Lib.hid hS0
        refine wp_region_held_drew (S := fun W => Bk15 w [.slice ga n gc, .int .i64 secs] gp R.p t txg lv tw bm xb xo i W) (by kernel_rfl) hS0 (fun hS0 => ?_)
        cases tw with
        | true =>
         have HDE : Hid ((!decide (0 < lv) && !bm) = false) := Lib.hid (by have h9 := HPF.out.2.2 HTWE.out.symm; rcases h9 with h9 | h9; simp [h9]; simp [h9])
         refine rtg 0 ?ve0 ?ye0 ?_
         case ye0 => refine yieldsIf_load_mid (by kernel_rfl) 24 (.tmp 3) ?_ w.heap.size (0) ?_ ([.slice ga n gc, .int .i64 secs]) _ (fun w' (hw : Bk15 _ _ _ _ _ _ _ _ _ _ _ _ w') => range0M hw.geo) Tryz.underlying24 rfl iszGe2 <;> rfl
         refine rtg 1 ?ve1 ?ye1 ?_
         case ye1 => refine yieldsIf_load_mid (by kernel_rfl) 49 (.tmp 12) ?_ gp (0) ?_ (encPtr R.p) _ (fun w' (hw : Bk15 _ _ _ _ _ _ _ _ _ _ _ _ w') => range0M hw.ptr) Tryz.underlying49 rfl iszPt <;> rfl
         refine rr1 (i := 2) (h := fun K hK => ?_)
         go_simp
         refine (HRT.out wA.drew HS0.out.bel).mono ?_
         rintro e w7 ⟨rfl, hb7⟩
         have HB7 : Hid (Below wA.heap.size wA w7) := Lib.hid ((Below.refl wA.heap.size wA).drew.trans hb7)
         have HS7 := Lib.hid (HS0.out.below hb7)
         clear hb7
         try dsimp only
         refine hK.out _ _ (HS7.out) (fun hSe2 => ?_)
         try simp only [Act.put, z1, z2, z3]
         refine rtd 3 ?_; refine rtd 4 ?_; refine rtd 5 ?_
         refine rtv (i := 6) (v := ?ve6) (hy := ?ye6) (h := ?_)
         case ye6 => intro w hSw; (try dsimp only at hSw); go_simp; first | with_reducible rfl | (rw [hSw.birth]; rfl)
         try simp only [Act.put, z1, z2, z3]
         refine rtd 7 ?_
         refine rtv (i := 8) (v := ?ve8) (hy := ?ye8) (h := ?_)
         case ye8 => intro w hSw; (try dsimp only at hSw); go_simp; first | with_reducible rfl | simp
         try simp only [Act.put, z1, z2, z3]
         refine rtd 9 ?_; refine rtd 10 ?_; refine rtd 11 ?_
         refine rtv (i := 12) (v := ?ve12) (hy := ?ye12) (h := ?_)
         case ye12 => intro w hSw; (try dsimp only at hSw); go_simp; first | with_reducible rfl | (rw [hSw.level]; rfl)
         try simp only [Act.put, z1, z2, z3]
         refine rtd 13 ?_; refine rtd 14 ?_; refine rtd 15 ?_; refine rtd 16 ?_
         refine rtv (i := 17) (v := ?ve17) (hy := ?ye17) (h := ?_)
         case ye17 => intro w hSw; (try dsimp only at hSw); go_simp; first | with_reducible rfl | (rw [hSw.clev]; rfl)
         try simp only [Act.put, z1, z2, z3]
         refine rtv (i := 18) (v := ?ve18) (hy := ?ye18) (h := ?_)
         case ye18 => intro w hSw; (try dsimp only at hSw); go_simp; first | with_reducible rfl | simp
         try simp only [Act.put, z1, z2, z3]
         refine rtd 19 ?_; refine rtd 20 ?_; refine rtd 21 ?_
         refine rtg 22 ?ve22 ?ye22 ?_
         case ye22 => refine yieldsIf_load_mid (by kernel_rfl) 47 (.tmp 92) ?_ gp (8) ?_ (encSm (sumF t)) _ (fun w' (hw : Bk15 _ _ _ _ _ _ _ _ _ _ _ _ w') => hw.sum) Tryz.underlying47 rfl iszSm <;> rfl
         refine rtd 23 ?_; refine rtd 24 ?_; refine rtd 25 ?_; refine rtd 26 ?_
         refine rtv (i := 27) (v := ?ve27) (hy := ?ye27) (h := ?_)
         case ye27 => intro w hSw; (try dsimp only at hSw); go_simp; first | with_reducible rfl | (rw [hSw.ctxt]; rfl)
         try simp only [Act.put, z1, z2, z3]
         refine rr1 (i := 28) (h := fun K hK => ?_)
         go_simp
         refine (HSM.out w7).mono ?_
         rintro e w8 ⟨rfl, hb8⟩
         have HB8 : Hid (Below wA.heap.size wA w8) := Lib.hid (HB7.out.trans (hb8.mono HB7.out.size))
         have HS8 := Lib.hid (HS7.out.below hb8)
         clear hb8
         try dsimp only
         refine hK.out _ _ (HS8.out) (fun hSe28 => ?_)
         try simp only [Act.put, z1, z2, z3]
         refine rtv (i := 29) (v := ?ve29) (hy := ?ye29) (h := ?_)
         case ye29 => intro w hSw; (try dsimp only at hSw); go_simp; rw [run_eqSm]; rfl
         try simp only [Act.put, z1, z2, z3]
         refine rtd 30 ?_; refine rtd 31 ?_; refine rtd 32 ?_
         refine rtv (i := 33) (v := ?ve33) (hy := ?ye33) (h := ?_)
         case ye33 => intro w hSw; (try dsimp only at hSw); go_simp; first | with_reducible rfl | (rw [hSw.two]; rfl)
         try simp only [Act.put, z1, z2, z3]
         refine rtd 34 ?_; refine rtd 35 ?_; refine rtd 36 ?_; refine rtd 37 ?_; refine rtd 38 ?_
         refine rtv (i := 39) (v := ?ve39) (hy := ?ye39) (h := ?_)
         case ye39 => intro w hSw; (try dsimp only at hSw); go_simp; first | with_reducible rfl | (rw [hSw.clev]; rfl)
         try simp only [Act.put, z1, z2, z3]
         refine rtd 40 ?_; refine rtd 41 ?_; refine rtd 42 ?_; refine rtd 43 ?_
         refine rtv (i := 44) (v := ?ve44) (hy := ?ye44) (h := ?_)
         case ye44 => intro w hSw; (try dsimp only at hSw); go_simp; first | with_reducible rfl | (rw [hSw.cmt]; rfl)
         try simp only [Act.put, z1, z2, z3]
         refine rr1 (i := 45) (h := fun K hK => ?_)
         go_simp
         refine (HTW.out w8).mono ?_
         rintro e w9 ⟨rfl, rfl⟩
         try dsimp only
         refine hK.out _ _ (HS8.out) (fun hSe45 => ?_)
         try simp only [Act.put, z1, z2, z3]
         refine rtv (i := 46) (v := ?ve46) (hy := ?ye46) (h := ?_)
         case ye46 => intro w hSw; (try dsimp only at hSw); go_simp; rw [HDE.out]
         try simp only [Act.put, z1, z2, z3]
         refine rtd 47 ?_; refine rtd 48 ?_
         refine wpAnyH_done (by kernel_rfl) ?_ _
         go_wp2_with fail
         go_meet
         exact ⟨rfl, HB8.out⟩
        | false =>
         refine rtg 0 ?vf0 ?yf0 ?_
         case yf0 => refine yieldsIf_load_mid (by kernel_rfl) 24 (.tmp 3) ?_ w.heap.size (0) ?_ ([.slice ga n gc, .int .i64 secs]) _ (fun w' (hw : Bk15 _ _ _ _ _ _ _ _ _ _ _ _ w') => range0M hw.geo) Tryz.underlying24 rfl iszGe2 <;> rfl
         refine rtg 1 ?vf1 ?yf1 ?_
         case yf1 => refine yieldsIf_load_mid (by kernel_rfl) 49 (.tmp 12) ?_ gp (0) ?_ (encPtr R.p) _ (fun w' (hw : Bk15 _ _ _ _ _ _ _ _ _ _ _ _ w') => range0M hw.ptr) Tryz.underlying49 rfl iszPt <;> rfl
         refine rr1 (i := 2) (h := fun K hK => ?_)
         go_simp
         refine (HRT.out wA.drew HS0.out.bel).mono ?_
         rintro e w7 ⟨rfl, hb7⟩
         have HB7 : Hid (Below wA.heap.size wA w7) := Lib.hid ((Below.refl wA.heap.size wA).drew.trans hb7)
         have HS7 := Lib.hid (HS0.out.below hb7)
         clear hb7
         try dsimp only
         refine hK.out _ _ (HS7.out) (fun hSf2 => ?_)
         try simp only [Act.put, z1, z2, z3]
         refine rtd 3 ?_; refine rtd 4 ?_; refine rtd 5 ?_
         refine rtv (i := 6) (v := ?vf6) (hy := ?yf6) (h := ?_)
         case yf6 => intro w hSw; (try dsimp only at hSw); go_simp; first | with_reducible rfl | (rw [hSw.birth]; rfl)
         try simp only [Act.put, z1, z2, z3]
         refine rtd 7 ?_
         refine rtv (i := 8) (v := ?vf8) (hy := ?yf8) (h := ?_)
         case yf8 => intro w hSw; (try dsimp only at hSw); go_simp; first | with_reducible rfl | simp
         try simp only [Act.put, z1, z2, z3]
         refine rtd 9 ?_; refine rtd 10 ?_; refine rtd 11 ?_
         refine rtv (i := 12) (v := ?vf12) (hy := ?yf12) (h := ?_)
         case yf12 => intro w hSw; (try dsimp only at hSw); go_simp; first | with_reducible rfl | (rw [hSw.level]; rfl)
         try simp only [Act.put, z1, z2, z3]
         refine rtd 13 ?_; refine rtd 14 ?_; refine rtd 15 ?_; refine rtd 16 ?_
         refine rtv (i := 17) (v := ?vf17) (hy := ?yf17) (h := ?_)
         case yf17 => intro w hSw; (try dsimp only at hSw); go_simp; first | with_reducible rfl | (rw [hSw.clev]; rfl)
         try simp only [Act.put, z1, z2, z3]
         refine rtv (i := 18) (v := ?vf18) (hy := ?yf18) (h := ?_)
         case yf18 => intro w hSw; (try dsimp only at hSw); go_simp; first | with_reducible rfl | simp
         try simp only [Act.put, z1, z2, z3]
         refine rtd 19 ?_; refine rtd 20 ?_; refine rtd 21 ?_
         refine rtg 22 ?vf22 ?yf22 ?_
         case yf22 => refine yieldsIf_load_mid (by kernel_rfl) 47 (.tmp 92) ?_ gp (8) ?_ (encSm (sumF t)) _ (fun w' (hw : Bk15 _ _ _ _ _ _ _ _ _ _ _ _ w') => hw.sum) Tryz.underlying47 rfl iszSm <;> rfl
         refine rtd 23 ?_; refine rtd 24 ?_; refine rtd 25 ?_; refine rtd 26 ?_
         refine rtv (i := 27) (v := ?vf27) (hy := ?yf27) (h := ?_)
         case yf27 => intro w hSw; (try dsimp only at hSw); go_simp; first | with_reducible rfl | (rw [hSw.ctxt]; rfl)
         try simp only [Act.put, z1, z2, z3]
         refine rr1 (i := 28) (h := fun K hK => ?_)
         go_simp
         refine (HSM.out w7).mono ?_
         rintro e w8 ⟨rfl, hb8⟩
         have HB8 : Hid (Below wA.heap.size wA w8) := Lib.hid (HB7.out.trans (hb8.mono HB7.out.size))
         have HS8 := Lib.hid (HS7.out.below hb8)
         clear hb8
         try dsimp only
         refine hK.out _ _ (HS8.out) (fun hSf28 => ?_)
         try simp only [Act.put, z1, z2, z3]
         refine rtv (i := 29) (v := ?vf29) (hy := ?yf29) (h := ?_)
         case yf29 => intro w hSw; (try dsimp only at hSw); go_simp; rw [run_eqSm]; rfl
         try simp only [Act.put, z1, z2, z3]
         refine rtd 30 ?_; refine rtd 31 ?_; refine rtd 32 ?_
         refine rtv (i := 33) (v := ?vf33) (hy := ?yf33) (h := ?_)
         case yf33 => intro w hSw; (try dsimp only at hSw); go_simp; first | with_reducible rfl | (rw [hSw.two]; rfl)
         try simp only [Act.put, z1, z2, z3]
         refine rtd 34 ?_; refine rtn 35 ?_; refine rtn 36 ?_; refine rtn 37 ?_; refine rtn 38 ?_; refine rtn 39 ?_; refine rtn 40 ?_; refine rtn 41 ?_; refine rtn 42 ?_; refine rtn 43 ?_; refine rtn 44 ?_; refine rtn 45 ?_
         refine rtn 46 ?_; refine rtd 47 ?_; refine rtd 48 ?_
         refine wpAnyH_done (by kernel_rfl) ?_ _
         go_wp2_with fail
         go_meet
         exact ⟨rfl, HB8.out⟩
       case rest =>
        obtain ⟨rfl, HBE⟩ := hcut
        have HB3 := Lib.hid (HB2.out.below HBE.out)
        have HGP3 := Lib.hid (HGP.out.below HBE.out)
        clear HB2 HGP l12 HRT HSM HTW HBE
        obtain ⟨wB, rfl⟩ : ∃ wB : World, wB = wc := ⟨_, rfl⟩
        have l12 := fun (op : Oper) (a : Act) (next : Act → World → Prop) (Q : Exit → Act → World → Prop) => loadW_blk (P := Tryz.prog) (t := 49) HGP3.out Tryz.underlying49 rfl iszPt op a next Q
        have HPL := Lib.hid (pl_places R.p (ptrRight_birth HPR.out) wB)
        go_wp2_with fail
        refine HPL.out.mono ?_
        rintro e w8 ⟨gl, rfl, hgl, hbl8, hb8⟩
        have HB8 := Lib.hid (HB3.out.below hb8)
        have HGP8 := Lib.hid (HGP3.out.below hb8)
        have HGL8 := Lib.hid hbl8
        have hng8 : gl ≠ gp := by have := HGP3.out.lt; omega
        have HNP8 : Hid (w.heap.size + 1 ≤ gl) := Lib.hid (by have := HGP3.out.lt; have := HNP.out.2; omega)
        obtain ⟨np, hnp⟩ : ∃ np, np = (plL R.p).length := ⟨_, rfl⟩
        rw [← hnp]
        have HNN := Lib.hid hnp
        have hnp2 : np ≤ 2 := by rw [hnp, plL_len]; split <;> omega
        clear hgl hbl8 hb8 HB3 HGP3 l12 HPL hnp
        go_upto_block 2 with fail
        go_cut [15] (fun v wx => Hid (Below w8.heap.size w8 wx))
        case first => as_aux_lemma =>
         rcases Nat.eq_zero_or_pos got.length with hg0 | hg0
         ·have q2 : ¬ (0 : Int) < (got.length : Int) := by omega
          clear hg0
          go_wp2_with fail
          go_loopw [15] (fun vi wr => vi = .int .i64 0 ∧ wr = w8) (fun _ _ => 0)
          case atStart => exact ⟨rfl, rfl⟩
          case round =>
           obtain ⟨rfl, rfl⟩ := hrel
           go_wp2_with fail
           go_meet
           exact Lib.hid (Below.refl _ _)
         ·obtain ⟨pb, pc2, epb⟩ := own_form1 HB8.out.rp hg0
          obtain ⟨rfl, _, rfl⟩ := Value.slice.inj epb
          clear epb
          have HPS : Hid (∀ a, a < np → (plL R.p).getD a (0, 0) ∈ plL R.p) := Lib.hid (fun a ha => by
           rw [HNN.out] at ha
           rw [List.getD_eq_getElem?_getD, List.getElem?_eq_getElem ha]
           exact List.getElem_mem _)
          go_wp2_with fail
          go_loopw [15] (fun vi wr => ∃ k : Nat, k ≤ got.length ∧ vi = .int .i64 (k : Nat) ∧ Hid (Below w8.heap.size w8 wr)) (fun vi _ => got.length - (intOf vi).toNat)
          case atStart => exact ⟨0, by omega, rfl, Lib.hid (Below.refl _ _)⟩
          case round =>
           obtain ⟨k, hk, rfl, HBk⟩ := hrel
           by_cases hkn : k < got.length
           ·have q2 : (k : Int) < (got.length : Int) := by omega
            have q3 : 0 ≤ (k : Int) := by omega
            obtain ⟨q, hq⟩ : ∃ q, q = got.getD k pD := ⟨_, rfl⟩
            have hqm : q ∈ got := by rw [hq, List.getD_eq_getElem?_getD, List.getElem?_eq_getElem hkn]; exact List.getElem_mem _
            have hqr : ptrRight gs secs q = true := by
             have h9 := HK.out.right q hqm
             rw [HSG.out.1, HSG.out.2.1] at h9
             exact h9
            have HROW : Hid (∀ W, Below w8.heap.size w8 W → W.rangeAt pb (k * 12) (encPtr q)) := Lib.hid (fun W hW => by
             rw [hq]
             exact row_range (owns_below HB8.out.rp hW) hkn)
            have HQR := Lib.hid hqr
            have HQM := Lib.hid hqm
            have HPL := Lib.hid (pl_places q (ptrRight_birth hqr) wr)
            have l12 := fun (op : Oper) (a : Act) (next : Act → World → Prop) (Q : Exit → Act → World → Prop) => loadW_mid (P := Tryz.prog) (t := 49) (HROW.out wr HBk.out) Tryz.underlying49 rfl iszPt op a next Q
            clear hq hqm hqr
            go_wp2_with fail
            refine HPL.out.mono ?_
            rintro e w9 ⟨g2, rfl, hg2, hb2, hb9⟩
            have HBl : Hid (Below w8.heap.size w8 w9) := Lib.hid (HBk.out.trans (hb9.mono HBk.out.size))
            have HQL := Lib.hid hb2
            obtain ⟨nq, hnq⟩ : ∃ nq, nq = (plL q).length := ⟨_, rfl⟩
            rw [← hnq]
            have HNQ := Lib.hid hnq
            have hnq2 : nq ≤ 2 := by rw [hnq, plL_len]; split <;> omega
            clear hg2 hb2 hb9 l12 HPL hnq
            go_wp2_with fail
            go_loopw [17] (fun va wr => ∃ a : Nat, a ≤ np ∧ va = .int .i64 (a : Nat) ∧ Hid (Below w9.heap.size w9 wr)) (fun va _ => np - (intOf va).toNat)
            case atStart => exact ⟨0, by omega, rfl, Lib.hid (Below.refl _ _)⟩
            case round =>
             obtain ⟨a, ha, rfl, HBa⟩ := hrel
             by_cases han : a < np
             ·have q4 : (a : Int) < (np : Int) := by omega
              have q5 : 0 ≤ (a : Int) := by omega
              obtain ⟨wa, rfl⟩ : ∃ wa : World, wa = wr := ⟨_, rfl⟩
              go_wp2_with fail
              go_loopw [18] (fun vb wr => ∃ b : Nat, b ≤ nq ∧ vb = .int .i64 (b : Nat) ∧ Hid (Below w9.heap.size w9 wr)) (fun vb _ => nq - (intOf vb).toNat)
              case atStart => exact ⟨0, by omega, rfl, HBa⟩
              case round =>
               obtain ⟨b, hb, rfl, HBb⟩ := hrel
               by_cases hbn : b < nq
               ·have q6 : (b : Int) < (nq : Int) := by omega
                have q7 : 0 ≤ (b : Int) := by omega
                obtain ⟨pg, pa, hpa⟩ : ∃ pg pa, (plL R.p).getD a (0, 0) = (pg, pa) := ⟨_, _, rfl⟩
                obtain ⟨qg, qa, hqa⟩ : ∃ qg qa, (plL q).getD b (0, 0) = (qg, qa) := ⟨_, _, rfl⟩
                have HSB : Hid (Bk28 w [.slice ga n gc, .int .i64 secs] gp R.p gl g2 q pb k a b pg pa qg qa wr.drew) := Lib.hid (by
                 have hb1 : Below w8.heap.size w8 wr.drew := (HBl.out.trans (HBb.out.mono HBl.out.size)).drew
                 refine ⟨HB8.out.geo.below hb1, HGP8.out.below hb1, place_range (HGL8.out.below hb1) (by rw [← HNN.out]; exact han) hpa, place_range (HQL.out.below HBb.out.drew) (by rw [← HNQ.out]; exact hbn) hqa, HROW.out _ hb1, HB8.out.bel.trans (hb1.mono HB8.out.bel.size), ?_, ?_, ?_, ?_⟩
                 ·exact ((HGP8.out.below hb1).cell 5)
                 ·exact place_cell (HGL8.out.below hb1) (by rw [← HNN.out]; exact han) hpa
                 ·exact place_cell (HQL.out.below HBb.out.drew) (by rw [← HNQ.out]; exact hbn) hqa
                 ·have h9 := HROW.out _ hb1 5 (.int .i64 q.size) rfl
                  exact h9)
                have hmp : mayC gs secs pg pa R.p.size = true := by
                 have h9 := (plL_ok (x := S2.x) (p := R.p) (by rw [HSG2.out.1, HSG2.out.2.1]; exact HPR.out) _ (HPS.out a han)).may
                 rw [hpa, HSG2.out.1, HSG2.out.2.1] at h9
                 exact h9
                have hqmem : (plL q).getD b (0, 0) ∈ plL q := by
                 have : b < (plL q).length := by rw [← HNQ.out]; exact hbn
                 rw [List.getD_eq_getElem?_getD, List.getElem?_eq_getElem this]
                 exact List.getElem_mem _
                have hmq : mayC gs secs qg qa q.size = true := by
                 have h9 := (plL_ok (x := S2.x) (p := q) (by rw [HSG2.out.1, HSG2.out.2.1]; exact HQR.out) _ hqmem).may
                 rw [hqa, HSG2.out.1, HSG2.out.2.1] at h9
                 exact h9
                have hdis : Dis (stOf gs secs R.p.size (pg.toNat, pa.toNat)) (stOf gs secs q.size (qg.toNat, qa.toNat)) := by
                 have h9 := HDI.out q HQM.out
                 rw [HSG.out.1, HSG.out.2.1] at h9
                 have m1 := plL_N _ (HPS.out a han)
                 have m2 := plL_N _ hqmem
                 rw [hpa] at m1
                 rw [hqa] at m2
                 exact h9 _ (List.mem_map.2 ⟨_, m1, rfl⟩) _ (List.mem_map.2 ⟨_, m2, rfl⟩)
                have s1 := mayC_spec hmp
                have s2 := mayC_spec hmq
                have HT1 : Hid (∀ W, Below w.heap.size w W → Calls Tryz.prog 21 #[.agg #[.slice ga n gc, .int .i64 secs], .int .i64 pg, .int .i64 R.p.size] W fun e w' => e = .returned (.int .i64 (takesI gs secs pg R.p.size)) ∧ Below W.heap.size W w') := Lib.hid (fun W hW => gtakes_any ga n gc gs secs pg R.p.size W (HG.out.below hW))
                have HT2 : Hid (∀ W, Below w.heap.size w W → Calls Tryz.prog 21 #[.agg #[.slice ga n gc, .int .i64 secs], .int .i64 qg, .int .i64 q.size] W fun e w' => e = .returned (.int .i64 (takesI gs secs qg q.size)) ∧ Below W.heap.size W w') := Lib.hid (fun W hW => gtakes_any ga n gc gs secs qg q.size W (HG.out.below hW))
                obtain ⟨t1, ht1⟩ : ∃ t1, t1 = takesI gs secs pg R.p.size := ⟨_, rfl⟩
                obtain ⟨t2, ht2⟩ : ∃ t2, t2 = takesI gs secs qg q.size := ⟨_, rfl⟩
                have HAP : Hid (∀ W, Calls Tryz.prog 20 #[.agg #[.int .i64 pg, .int .i64 pa], .agg #[.int .i64 qg, .int .i64 qa], .int .i64 t1, .int .i64 t2] W fun e w' => e = .returned (.bool true) ∧ Below W.heap.size W w') := Lib.hid (fun W => by
                 have h9 := apart_ref pg pa qg qa t1 t2 W (IntWalk.i64_in _ (by rw [ht1]; omega)) (IntWalk.i64_in _ (by rw [ht2]; omega))
                 rw [ht1, ht2, apart_dis hmp hmq hdis] at h9
                 rw [ht1, ht2]
                 exact h9)
                rw [← ht1] at HT1
                rw [← ht2] at HT2
                clear hpa hqa hmp hqmem hmq hdis s1 s2 ht1 ht2
                obtain ⟨wb, rfl⟩ : ∃ wb : World, wb = wr := ⟨_, rfl⟩
                go_upto_region 28 with fail
                go_cut [175] (fun v wx => v = .bool false ∧ Hid (Below wb.heap.size wb wx))
                case first => as_aux_lemma =>
                 have hS0 := HSB.out
                 refine wp_region_held_drew (S := fun W => Bk28 w [.slice ga n gc, .int .i64 secs] gp R.p gl g2 q pb k a b pg pa qg qa W) (by kernel_rfl) hS0 (fun hS0 => ?_)
                 refine rtd 0 ?_; refine rtd 1 ?_; refine rtd 2 ?_
                 refine rtg 3 ?vg3 ?yg3 ?_
                 case yg3 => refine yieldsIf_load_mid (by kernel_rfl) 44 (.tmp 147) ?_ gl ((a * 2)) ?_ ([.int .i64 pg, .int .i64 pa]) _ (fun w' (hw : Bk28 _ _ _ _ _ _ _ _ _ _ _ _ _ _ _ w') => hw.pl) Tryz.underlying44 rfl iszPlM <;> rfl
                 refine rtd 4 ?_; refine rtd 5 ?_; refine rtd 6 ?_
                 refine rtg 7 ?vg7 ?yg7 ?_
                 case yg7 => refine yieldsIf_load_mid (by kernel_rfl) 44 (.tmp 151) ?_ g2 ((b * 2)) ?_ ([.int .i64 qg, .int .i64 qa]) _ (fun w' (hw : Bk28 _ _ _ _ _ _ _ _ _ _ _ _ _ _ _ w') => hw.ql) Tryz.underlying44 rfl iszPlM <;> rfl
                 refine rtg 8 ?vg8 ?yg8 ?_
                 case yg8 => refine yieldsIf_load_mid (by kernel_rfl) 24 (.tmp 3) ?_ w.heap.size (0) ?_ ([.slice ga n gc, .int .i64 secs]) _ (fun w' (hw : Bk28 _ _ _ _ _ _ _ _ _ _ _ _ _ _ _ w') => range0M hw.geo) Tryz.underlying24 rfl iszGe2 <;> rfl
                 refine rtd 9 ?_; refine rtd 10 ?_; refine rtd 11 ?_; refine rtd 12 ?_
                 refine rtv (i := 13) (v := ?vg13) (hy := ?yg13) (h := ?_)
                 case yg13 => intro w hSw; (try dsimp only at hSw); go_simp; first | with_reducible rfl | (rw [hSw.cp]; rfl)
                 try simp only [Act.put, z1, z2, z3]
                 refine rtd 14 ?_
                 refine rtv (i := 15) (v := ?vg15) (hy := ?yg15) (h := ?_)
                 case yg15 => intro w hSw; (try dsimp only at hSw); go_simp; first | with_reducible rfl | (rw [hSw.c5]; rfl)
                 try simp only [Act.put, z1, z2, z3]
                 refine rtg 17 ?vg17 ?yg17 ?_
                 case yg17 => refine yieldsIf_load_mid (by kernel_rfl) 24 (.tmp 3) ?_ w.heap.size (0) ?_ ([.slice ga n gc, .int .i64 secs]) _ (fun w' (hw : Bk28 _ _ _ _ _ _ _ _ _ _ _ _ _ _ _ w') => range0M hw.geo) Tryz.underlying24 rfl iszGe2 <;> rfl
                 refine rtd 18 ?_; refine rtd 19 ?_; refine rtd 20 ?_; refine rtd 21 ?_
                 refine rtv (i := 22) (v := ?vg22) (hy := ?yg22) (h := ?_)
                 case yg22 => intro w hSw; (try dsimp only at hSw); go_simp; first | with_reducible rfl | (rw [hSw.cq]; rfl)
                 try simp only [Act.put, z1, z2, z3]
                 refine rtd 23 ?_; refine rtd 24 ?_; refine rtd 25 ?_; refine rtd 26 ?_
                 refine rtv (i := 27) (v := ?vg27) (hy := ?yg27) (h := ?_)
                 case yg27 => intro w hSw; (try dsimp only at hSw); go_simp; first | with_reducible rfl | (rw [hSw.ck]; rfl)
                 try simp only [Act.put, z1, z2, z3]
                 refine rr1 (i := 16) (h := fun K hK => ?_)
                 go_simp
                 refine (HT1.out wb.drew HSB.out.bel).mono ?_
                 rintro e u1 ⟨rfl, hbu1⟩
                 have HXu1 : Hid (Below wb.heap.size wb u1) := Lib.hid (((Below.refl wb.heap.size wb).drew).trans (hbu1.mono ((Below.refl wb.heap.size wb).drew).size))
                 have HYu1 := Lib.hid (HSB.out.below hbu1)
                 clear hbu1
                 try dsimp only
                 refine hK.out _ _ (HYu1.out) (fun hSg16 => ?_)
                 try simp only [Act.put, z1, z2, z3]
                 refine rr1 (i := 28) (h := fun K hK => ?_)
                 go_simp
                 refine (HT2.out u1 HYu1.out.bel).mono ?_
                 rintro e u2 ⟨rfl, hbu2⟩
                 have HXu2 : Hid (Below wb.heap.size wb u2) := Lib.hid (HXu1.out.trans (hbu2.mono HXu1.out.size))
                 have HYu2 := Lib.hid (HYu1.out.below hbu2)
                 clear hbu2
                 try dsimp only
                 refine hK.out _ _ (HYu2.out) (fun hSg28 => ?_)
                 try simp only [Act.put, z1, z2, z3]
                 refine rr1 (i := 29) (h := fun K hK => ?_)
                 go_simp
                 refine (HAP.out u2).mono ?_
                 rintro e u3 ⟨rfl, hbu3⟩
                 have HXu3 : Hid (Below wb.heap.size wb u3) := Lib.hid (HXu2.out.trans (hbu3.mono HXu2.out.size))
                 have HYu3 := Lib.hid (HYu2.out.below hbu3)
                 clear hbu3
                 try dsimp only
                 refine hK.out _ _ (HYu3.out) (fun hSg29 => ?_)
                 try simp only [Act.put, z1, z2, z3]
                 refine rtd 30 ?_
                 refine wpAnyH_done (by kernel_rfl) ?_ _
                 go_wp2_with fail
                 go_meet
                 exact ⟨rfl, HXu3.out⟩
                case rest =>
                 obtain ⟨rfl, HBz⟩ := hcut
                 have HBb2 := Lib.hid (HBb.out.trans (HBz.out.mono HBb.out.size))
                 go_wp2_with fail
                 go_roundw
                 case rel => exact ⟨b + 1, by omega, by go_num, HBb2⟩
                 case measure => simp [intOf]; omega
               ·have hbn' : b = nq := by omega
                subst hbn'
                have q6 : ¬ (b : Int) < (b : Int) := by omega
                go_wp2_with fail
                go_roundw
                case rel => exact ⟨a + 1, by omega, by go_num, HBb⟩
                case measure => simp [intOf]; omega
             ·have han' : a = np := by omega
              subst han'
              have q4 : ¬ (a : Int) < (a : Int) := by omega
              have HBk2 : Hid (Below w8.heap.size w8 wr) := Lib.hid (HBl.out.trans (HBa.out.mono HBl.out.size))
              go_wp2_with fail
              go_roundw
              case rel => exact ⟨k + 1, by omega, by go_num, HBk2⟩
              case measure => simp [intOf]; omega
           ·have hkn' : k = got.length := by omega
            subst hkn'
            have q2 : ¬ (got.length : Int) < (got.length : Int) := by omega
            go_wp2_with fail
            go_meet
            exact HBk
        case rest =>
         obtain ⟨wC, rfl⟩ : ∃ wC : World, wC = wc := ⟨_, rfl⟩
         have HB9 := Lib.hid (HB8.out.below (hcut : Hid (Below w8.heap.size w8 wC)).out)
         have HGP9 := Lib.hid (HGP8.out.below (hcut : Hid (Below w8.heap.size w8 wC)).out)
         clear hcut HB8 HGP8 HGL8
         have l12 := fun (op : Oper) (a : Act) (next : Act → World → Prop) (Q : Exit → Act → World → Prop) => loadW_blk (P := Tryz.prog) (t := 49) HGP9.out Tryz.underlying49 rfl iszPt op a next Q
         have bld := fun (o : Oper) (a : Act) (next : Act → World → Prop) (Q : Exit → Act → World → Prop) => build_ptrS wC R.p o a next Q
         obtain ⟨i0, hi0, hi1, hi2, hi3⟩ := info_parts infoPt
         obtain ⟨j0, hj0, hj1, hj2, hj3⟩ := info_parts infoStr
         have hbA : Below wC.heap.size wC (wC.alloc (.cells (encPtr R.p).toArray 49)) := (Below.refl _ _).alloc (Nat.le_refl _) _
         have HBA := Lib.hid (HB9.out.below hbA)
         have HNW : Hid (∀ j u, (encPs [R.p])[j]? = some u → (wC.alloc (.cells (encPtr R.p).toArray 49)).cell? ((⟨wC.heap.size, 0, none⟩ : Addr).add j) = some u) := Lib.hid (by
          have e9 : encPs [R.p] = encPtr R.p := by simp [encPs]
          rw [e9]
          exact Blk.news (Blk.newAt (w := wC) 49 (encPtr R.p) rfl))
         have HTG := Lib.hid (show tx.length ≤ 30 by have := HTG.out; omega)
         have m1 : got.length + 1 ≤ maxLen := by unfold maxLen; omega
         have m2 : (got.length + 1) * 96 ≤ 140737488355328 := by omega
         have m3 : w.heap.size ≤ (wC.alloc (.cells (encPtr R.p).toArray 49)).heap.size := HBA.out.bel.size
         have n1 : tx.length + 1 ≤ maxLen := by have := HTG.out; unfold maxLen; omega
         have n2 : (tx.length + 1) * 16 ≤ 140737488355328 := by have := HTG.out; omega
         clear hbA
         go_upto_region 31 with (at_builtin; go_must (refine wpList_append_own_at _ rfl (.tmp 176) (.tmp 178) 58 rfl w.heap.size 49 i0 (.agg #[.int .i64 0, .int .i64 0, .int .i64 0, .int .i64 0, .bool false, .int .i64 0, .int .i64 0, .int .i64 0, .int .u64 0, .int .u64 0, .int .u64 0, .int .u64 0]) 12 96 Tryz.underlying58 hi0 hi1 hi2 hi3 rfl (Nat.succ_pos 11) (.slice po got.length pc) got.length (encPs got) rfl HBA.out.rp ⟨wC.heap.size, 0, none⟩ 1 1 (encPs [R.p]) rfl rfl HNW.out (encPs_one _) m1 m2 m3 ?_; intro v10 w10 hown10 hgrow10 _ hfr10; have O10 := Lib.hid hown10; have G10 := Lib.hid hgrow10; have F10 := Lib.hid hfr10; clear hown10 hgrow10 hfr10))
         have HB10 := Lib.hid (HBA.out.appP G10.out O10.out F10.out)
         have c10 := (HBC.out w10 HB10.out.bel).1
         have hbB : Below w10.heap.size w10 (w10.alloc (.cells (encS (bts [t])).toArray 9)) := (Below.refl _ _).alloc (Nat.le_refl _) _
         have HBB := Lib.hid (HB10.out.below hbB)
         have HNW2 := Lib.hid (Blk.news (Blk.newAt (w := w10) 9 (encS (bts [t])) rfl))
         have n3 : w.heap.size ≤ (w10.alloc (.cells (encS (bts [t])).toArray 9)).heap.size := HBB.out.bel.size
         clear HBA HNW m1 m2 m3 l12 bld hbB
         go_wp2_with (at_builtin; go_must (refine wpList_append_own_at _ rfl (.tmp 180) (.tmp 186) 59 rfl w.heap.size 9 j0 (.string ⟨#[]⟩) 1 16 Tryz.underlying59 hj0 hj1 hj2 hj3 rfl (Nat.succ_pos 0) (.slice ro tx.length rc) tx.length (encS (bts tx)) rfl HBB.out.rt ⟨w10.heap.size, 0, none⟩ 1 1 (encS (bts [t])) rfl rfl HNW2.out (encS_ones [t]) n1 n2 n3 ?_; intro v11 w11 hown11 hgrow11 _ hfr11; have O11 := Lib.hid hown11; have G11 := Lib.hid hgrow11; have F11 := Lib.hid hfr11; clear hown11 hgrow11 hfr11))
         have HB11 := Lib.hid (HBB.out.appT (t := t) G11.out (by rw [← enc_snoc]; exact O11.out) F11.out)
         go_roundw
         case rel => exact ⟨i + 1, S2, T2, some d2, got ++ [R.p], tx ++ [t], K + 64, by omega, by go_num, by simp; omega, by omega, HB11, HK2, HSG2, Lib.hid (fun _ => ⟨d2, rfl⟩)⟩
         case measure => simp [intOf]; omega
      ·obtain ⟨_, z2, z3⟩ := HPP.out.2.2.2.resolve_right (fun h9 => hre h9.1)
       obtain ⟨er, her⟩ : ∃ er : Int, er = (R.err : Nat) := ⟨_, rfl⟩
       rw [← her]
       have q2 : er ≠ 0 := by omega
       have q4 : (er == 0) = false := by simpa using q2
       have q5 : decide (er = 0) = false := decide_eq_false q2
       have q6 : (er != 0) = true := by simpa using q2
       have HNO := Lib.hid (pnone_zero wA)
       rw [z2] at l12
       have HK2 := Lib.hid z3
       clear z2 z3 HPP her hre
       go_wp2_with fail
       refine HNO.out.mono ?_
       rintro e w7 ⟨rfl, hb7⟩
       have HB7 := Lib.hid (HB2.out.below hb7)
       clear hb7 l12
       go_wp2_with fail
       go_roundw
       case rel => exact ⟨i + 1, S2, T2, some d2, got, tx, K, by omega, by go_num, by omega, by omega, HB7, HK2, HSG2, Lib.hid (fun _ => ⟨d2, rfl⟩)⟩
       case measure => simp [intOf]; omega
    ·as_aux_lemma =>
     have hin' : i = bn := by omega
     subst hin'
     have q1 : ¬ (i : Int) < (i : Int) := by omega
     obtain ⟨d, rfl⟩ := HDN.out hbn
     have HBO := Lib.hid (sborn_any HB.out.is (by rw [HK.out.born]; omega))
     go_wp2_with fail
     refine HBO.out.mono ?_
     rintro e w7 ⟨vb, rfl, hrow7, d7, hst7, hd7⟩
     have hb7 := (hd7 d rfl).2
     have HB7 := Lib.hid (HB.out.below hb7)
     rw [HK.out.born] at hrow7
     obtain ⟨bo, bc2, rfl⟩ := own_form hrow7
     have HRB : Hid (w7.ownsRow w.heap.size 49 12 (.slice bo got.length bc2) got.length (encPs got)) := Lib.hid (owns_weaken hrow7 HB.out.bel.size)
     have HNB : Hid (∀ g, (Value.slice bo got.length bc2).ownBlock = some g → ¬ T g) := Lib.hid (fun g hg hf => by
      have := (hrow7.lt g hg).1
      have := HB.out.is.lt g hf
      omega)
     clear HB HBO hrow7 hst7 hd7 hb7 HDN
     have HFX := Lib.hid HK.out.fx
     rcases Nat.eq_zero_or_pos got.length with hg0 | hg0
     ·have q2 : ¬ (0 : Int) < (got.length : Int) := by omega
      clear hg0
      go_wp2_with fail
      go_loopw [20] (fun vi wr => vi = .int .i64 0 ∧ wr = w7) (fun _ _ => 0)
      case atStart => exact ⟨rfl, rfl⟩
      case round =>
       obtain ⟨rfl, rfl⟩ := hrel
       have HFI := Lib.hid (sfixed_any HB7.out.is)
       rw [HFX.out] at HFI
       have HBW := Lib.hid HB7.out.bel
       have HFRR := Lib.hid HB7.out.fr
       go_wp2_with fail
       refine HFI.out.mono ?_
       rintro e w9 ⟨rfl, d9, T9, _, hm9, _⟩
       have HB9 : Hid (Below w.heap.size w w9) := Lib.hid (HBW.out.trans (hm9.toBelow HFRR.out HBW.out.size))
       clear hm9
       go_wp2_with fail
       go_ret
       exact ⟨by simp, HB9.out⟩
     ·obtain ⟨pb, pc2, epb⟩ := own_form1 HB7.out.rp hg0
      obtain ⟨rfl, _, rfl⟩ := Value.slice.inj epb
      obtain ⟨bb2, bc3, ebb⟩ := own_form1 HRB.out hg0
      obtain ⟨rfl, _, rfl⟩ := Value.slice.inj ebb
      obtain ⟨rb, rc2, erb⟩ := own_form1 HB7.out.rt (by rw [HTG.out]; exact hg0)
      obtain ⟨rfl, _, rfl⟩ := Value.slice.inj erb
      clear epb ebb erb
      go_wp2_with fail
      go_loopw [20] (fun vi wr => ∃ (k : Nat) (T : Nat → Prop) (dn : Option Nat), k ≤ got.length ∧ vi = .int .i64 (k : Nat) ∧ Hid (BkS w [.slice ga n gc, .int .i64 secs] sb bb V dn S T (.slice (some ⟨pb, 0, none⟩) got.length pc) (.slice (some ⟨rb, 0, none⟩) tx.length rc) got tx wr) ∧ Hid (wr.ownsRow w.heap.size 49 12 (.slice (some ⟨bb2, 0, none⟩) got.length bc2) got.length (encPs got)) ∧ Hid (∀ g, (Value.slice (some ⟨bb2, 0, none⟩) got.length bc2).ownBlock = some g → ¬ T g)) (fun vi _ => got.length - (intOf vi).toNat)
      case atStart => exact ⟨0, T, some d, by omega, rfl, HB7, HRB, HNB⟩
      case round =>
       clear HB7 HRB HNB
       obtain ⟨k, T, dn, hk, rfl, HB7, HRB, HNB⟩ := hrel
       by_cases hkn : k < got.length
       ·have q2 : (k : Int) < (got.length : Int) := by omega
        have q3 : 0 ≤ (k : Int) := by omega
        obtain ⟨q, hq⟩ : ∃ q, q = got.getD k pD := ⟨_, rfl⟩
        obtain ⟨t, ht⟩ : ∃ t, t = tx.getD k [] := ⟨_, rfl⟩
        have hwh := HK.out.wh k hkn
        rw [← hq, ← ht] at hwh
        have HWF := Lib.hid hwh.wf
        have HROW : Hid (∀ W, Below wr.heap.size wr W → W.rangeAt pb (k * 12) (encPtr q)) := Lib.hid (fun W hW => by
         rw [hq]
         exact row_range (owns_below HB7.out.rp hW) hkn)
        have HGT := Lib.hid (get_whole HB7.out.is HK.out.ok (by omega) (by rw [HK.out.fx]; omega) hwh)
        have l12 := fun (op : Oper) (a : Act) (next : Act → World → Prop) (Q : Exit → Act → World → Prop) => loadW_mid (P := Tryz.prog) (t := 49) (HROW.out wr (Below.refl _ _)) Tryz.underlying49 rfl iszPt op a next Q
        have HQ := Lib.hid hq
        have HT := Lib.hid ht
        clear hq ht hwh
        go_wp2_with fail
        refine HGT.out.mono ?_
        rintro e w8 ⟨rfl, dn8, hdn8, T8, hst8, hmo8, hnw8⟩
        have HB8 := Lib.hid (HB7.out.go hst8 hmo8 hnw8)
        have HRB8 : Hid (w8.ownsRow w.heap.size 49 12 (.slice (some ⟨bb2, 0, none⟩) got.length bc2) got.length (encPs got)) := Lib.hid (own_keep HRB.out (fun g hg => hmo8.block g (HRB.out.lt g hg).2 (HNB.out g hg)))
        have HNB8 : Hid (∀ g, (Value.slice (some ⟨bb2, 0, none⟩) got.length bc2).ownBlock = some g → ¬ T8 g) := Lib.hid (fun g hg hf => by
         rcases hnw8 g hf with h9 | h9
         ·exact HNB.out g hg h9
         ·have := (HRB.out.lt g hg).2; omega)
        clear hst8 hmo8 hnw8 hdn8 l12 HROW
        have hS0 : Bk37 rb pb bb2 k q t w8.drew := ⟨by
         have h9 := own_str (HB8.out.rt.drew) (j := k) (by rw [HTG.out]; exact hkn)
         rw [← HT.out] at h9
         exact h9, by
         rw [HQ.out]
         exact row_range HB8.out.rp.drew hkn, by
         rw [HQ.out]
         exact row_range HRB8.out.drew hkn⟩
        have hTL : (tx.length : Int) = (got.length : Int) := by rw [HTG.out]
        go_upto_region 37 with fail
        refine wp_region_held_drew (S := fun W => Bk37 rb pb bb2 k q t W) (by kernel_rfl) hS0 (fun hS0 => ?_)
        refine rtd 0 ?_; refine rtd 1 ?_; refine rtd 2 ?_; refine rtd 3 ?_; refine rtd 4 ?_; refine rtd 5 ?_; refine rtd 6 ?_
        refine rtv (i := 7) (v := ?vh7) (hy := ?yh7) (h := ?_)
        case yh7 => intro w hSw; (try dsimp only at hSw); go_simp; first | with_reducible rfl | (rw [hSw.txt]; rfl)
        try simp only [Act.put, z1, z2, z3]
        refine rtv (i := 8) (v := ?vh8) (hy := ?yh8) (h := ?_)
        case yh8 => intro w hSw; (try dsimp only at hSw); go_simp; first | with_reducible rfl | simp
        try simp only [Act.put, z1, z2, z3]
        refine rtd 9 ?_; refine rtd 10 ?_; refine rtd 11 ?_; refine rtd 12 ?_; refine rtd 13 ?_
        refine rtv (i := 14) (v := ?vh14) (hy := ?yh14) (h := ?_)
        case yh14 => intro w hSw; (try dsimp only at hSw); go_simp; rw [decide_eq_false (by omega)]
        try simp only [Act.put, z1, z2, z3]
        refine rtd 15 ?_; refine rtd 16 ?_; refine rtd 17 ?_; refine rtd 18 ?_; refine rtd 19 ?_
        refine rtg 20 ?vh20 ?yh20 ?_
        case yh20 => refine yieldsIf_load_mid (by kernel_rfl) 49 (.tmp 224) ?_ bb2 ((k * 12)) ?_ (encPtr q) _ (fun w' (hw : Bk37 _ _ _ _ _ _ w') => hw.born) Tryz.underlying49 rfl iszPt <;> rfl
        refine rtd 21 ?_; refine rtd 22 ?_; refine rtd 23 ?_
        refine rtg 24 ?vh24 ?yh24 ?_
        case yh24 => refine yieldsIf_load_mid (by kernel_rfl) 49 (.tmp 228) ?_ pb ((k * 12)) ?_ (encPtr q) _ (fun w' (hw : Bk37 _ _ _ _ _ _ w') => hw.got) Tryz.underlying49 rfl iszPt <;> rfl
        refine rtg 25 ?vh25 ?yh25 ?_
        case yh25 => exact (by refine yields_neqPt HWF.out ?_ ?_ ?_; rfl; rfl; kernel_rfl)
        refine rtd 26 ?_
        refine wpAnyH_done (by kernel_rfl) ?_ _
        go_wp2_with fail
        go_roundw
        case rel => exact ⟨k + 1, T8, dn8, by omega, by go_num, Lib.hid (HB8.out.below (Below.refl _ _).drew), Lib.hid HRB8.out.drew, HNB8⟩
        case measure => simp [intOf]; omega
       ·have hkn' : k = got.length := by omega
        subst hkn'
        have q2 : ¬ (got.length : Int) < (got.length : Int) := by omega
        have HFI := Lib.hid (sfixed_any HB7.out.is)
        rw [HFX.out] at HFI
        have HBW := Lib.hid HB7.out.bel
        have HFRR := Lib.hid HB7.out.fr
        go_wp2_with fail
        refine HFI.out.mono ?_
        rintro e w9 ⟨rfl, d9, T9, _, hm9, _⟩
        have HB9 : Hid (Below w.heap.size w w9) := Lib.hid (HBW.out.trans (hm9.toBelow HFRR.out HBW.out.size))
        clear hm9
        go_wp2_with fail
        go_ret
        exact ⟨by simp, HB9.out⟩
end Go.Proofs.YtfaemcfjbbbbdaaGreat
namespace Go.Proofs.YtfaemcfjbbbbdaaGreat
open Go.RowKit
attribute [local go_sem ↓] wp_loadPt wp_storePt
set_option maxHeartbeats 3200000 in
set_option maxRecDepth 100000 in
theorem storeback_zero (ga : Option Addr) (n gc : Nat) (gs : Gs) (secs : Int) (w : World) (h : GSl w ga n gc gs) (txg : Int) (ao : Option Addr) (bc : Nat) (bl : List BlkT) (hb : BkSl w ao 0 bc bl) :
  Calls Tryz.prog 4 #[.agg #[.slice ga n gc, .int .i64 secs], .int .i64 txg, .slice ao 0 bc] w fun e w' => e = .returned (.bool true) ∧ Below w.heap.size w w' := by
 have hl := h.len
 have hnmx : n ≤ maxLen := h.mx
 have hbl := hb.len
 have hbmx : 0 ≤ maxLen := Nat.le_trans hb.2.1 hb.2.2.1
 obtain ⟨w0, hw0⟩ : ∃ w0, w0 = w.alloc (.cells #[.slice ga n gc, .int .i64 secs] 24) := ⟨_, rfl⟩
 have hb0 : Below w.heap.size w w0 := by rw [hw0]; exact (Below.refl _ _).alloc (Nat.le_refl _) _
 have hg0 : Blk w0 w.heap.size 24 [.slice ga n gc, .int .i64 secs] := by rw [hw0]; exact Blk.new w _ _
 have hs0 : w0.heap.size = w.heap.size + 1 := by rw [hw0]; simp
 have HAW := Lib.hid awake15_any
 have HFEW : Hid (∀ W, Below w.heap.size w W → Calls Tryz.prog 8 #[.slice ao 0 bc] W fun e w' => e = .returned (.bool (fewS bl)) ∧ w' = W) := Lib.hid (fun W hW => few15_any _ _ bc bl W (RSl.below hb hW) (by unfold maxLen at hbmx; omega))
 have HMN : Hid (devOk gs secs = false → ∀ W, Below w.heap.size w W → Calls Tryz.prog 10 #[.agg #[.slice ga n gc, .int .i64 secs], .slice none 0 0, .slice none 0 0, .int .i64 txg, .int .i64 0] W fun e w' => e = .returned (.tuple #[.pointer none, .bool false]) ∧ Below W.heap.size W w') := Lib.hid (fun hok W hW => made_no _ _ gc gs secs W (h.below hW) _ _ txg 0 hok (by unfold maxLen at hnmx; omega))
 have HMY : Hid (devOk gs secs = true → ∀ W, Below w.heap.size w W → Calls Tryz.prog 10 #[.agg #[.slice ga n gc, .int .i64 secs], .slice none 0 0, .slice none 0 0, .int .i64 txg, .int .i64 0] W fun e w' => ∃ sb bb V T S, e = .returned (.tuple #[.pointer (some ⟨sb, 0, none⟩), .bool true]) ∧ IsSto w' sb S V bb none T ∧ Bk S [] [] 0 ∧ (S.x.gs = gs ∧ S.x.secs = secs ∧ S.txg = txg) ∧ (∀ g, T g → W.heap.size ≤ g) ∧ Below W.heap.size W w') := Lib.hid (fun hok W hW => (made_yes _ _ gc gs secs W (h.below hW) none 0 0 [] (bsl_nil _) none 0 0 [] (bsl_nil _) txg 0 hok).mono (fun e w' hh => by
  obtain ⟨sb, bb, V, T, sn, r1, r2, r3, r4, r5, r6⟩ := hh
  have hr : rightB gs secs = true := by unfold devOk at hok; rw [Bool.and_eq_true] at hok; exact hok.1
  exact ⟨sb, bb, V, T, _, r1, r2, ⟨newSt_ok hr (out_nil gs) r3 r4, rfl, rfl, (fun i hi => absurd hi (by simp)), rfl, rfl⟩, ⟨rfl, rfl, rfl⟩, r5, r6⟩))
 have HG := Lib.hid h
 have HBK := Lib.hid hb
 have HB0 := Lib.hid hb0
 have HG0 := Lib.hid hg0
 have HL := Lib.hid hl
 have HBL := Lib.hid hbl
 obtain ⟨fw, hfw⟩ : ∃ fw, fw = fewS bl := ⟨_, rfl⟩
 rw [← hfw] at HFEW
 have HFW := Lib.hid hfw
 obtain ⟨dk, hdk⟩ : ∃ dk, dk = devOk gs secs := ⟨_, rfl⟩
 rw [← hdk] at HMN HMY
 clear h hb hl hbl hb0 hg0 hfw hbmx hnmx hdk
 go_enter Tryz.func4, Tryz.ntmps4
 go_upto_region 1 with fail
 rw [← hw0]
 clear hw0
 go_wp2_with fail
 refine (HAW.out w0).mono ?_
 rintro e w1 ⟨rfl, hb1⟩
 have HB1 : Hid (Below w.heap.size w w1) := Lib.hid (HB0.out.trans (hb1.mono (by omega)))
 have HG1 := Lib.hid (HG0.out.below hb1)
 have hs1 : w.heap.size + 1 ≤ w1.heap.size := by have := hb1.size; omega
 clear hb1 HG0 HB0
 cases fw with
 | false =>
  go_wp2_with fail
  refine (HFEW.out w1 HB1.out).mono ?_
  rintro e w2 ⟨rfl, rfl⟩
  go_wp2_with fail
  refine (HAW.out w2).mono ?_
  rintro e w3 ⟨rfl, hb3⟩
  have HB3 : Hid (Below w.heap.size w w3) := Lib.hid (HB1.out.trans (hb3.mono (by omega)))
  clear hb3
  go_wp2_with fail
  go_ret
  exact ⟨rfl, HB3.out⟩
 | true =>
  go_wp2_with fail
  refine (HFEW.out w1 HB1.out).mono ?_
  rintro e w2 ⟨rfl, hw2⟩
  subst hw2
  have c0 := HG1.out.cell 0
  have c1 := HG1.out.cell 1
  cases dk with
  | false =>
   go_wp2_with fail
   refine (HMN.out (by first | trivial | rfl) w2 HB1.out).mono ?_
   rintro e w6 ⟨rfl, hb6⟩
   have HB6 : Hid (Below w.heap.size w w6) := Lib.hid (HB1.out.trans (hb6.mono (by omega)))
   clear hb6
   go_wp2_with fail
   go_ret
   exact ⟨rfl, HB6.out⟩
  | true =>
   go_wp2_with fail
   refine (HMY.out (by first | trivial | rfl) w2 HB1.out).mono ?_
   rintro e w6 ⟨sb, bb, V, T, S, rfl, hst, hbk, hsg, htf, hb6⟩
   have HBK0 := Lib.hid hbk
   have HSG := Lib.hid hsg
   have HB : Hid (BkS w [.slice ga n gc, .int .i64 secs] sb bb V none S T (.slice none 0 0) (.slice none 0 0) [] [] w6) := Lib.hid ⟨hst, (fun g hg => by have := htf g hg; omega), World.ownsRow_nil _ _ _ _, World.ownsRow_nil _ _ _ _, (fun g hg => by cases hg), (fun g hg => by cases hg), HG1.out.below hb6, (fun hf => by have := htf _ hf; omega), HB1.out.trans (hb6.mono (by omega))⟩
   clear hst hbk hsg htf hb6 HMN HMY c0 c1 HB1 HG1 HFEW HAW
   go_wp2_with fail
   go_loopw [9, 10, 11] (fun vp vt vi wr => vp = .slice none 0 0 ∧ vt = .slice none 0 0 ∧ vi = .int .i64 0 ∧ wr = w6) (fun _ _ _ _ => 0)
   case atStart => exact ⟨rfl, rfl, rfl, rfl⟩
   case round =>
    obtain ⟨rfl, rfl, rfl, rfl⟩ := hrel
    have q1 : ¬ (0 : Int) < 0 := by omega
    have HBO := Lib.hid (sborn_any HB.out.is (by rw [HBK0.out.born]; exact Nat.zero_le _))
    go_wp2_with fail
    refine HBO.out.mono ?_
    rintro e w7 ⟨vb, rfl, hrow7, d7, hst7, _⟩
    obtain ⟨T7, hb7⟩ := HB.out.step hst7
    rw [HBK0.out.born] at hrow7
    obtain ⟨bo, bc2, rfl⟩ := own_form hrow7
    have HB7 := Lib.hid hb7
    have HFX := Lib.hid HBK0.out.fx
    clear hrow7 hst7 hb7 HBO HB
    go_wp2_with fail
    go_loopw [20] (fun vi wr => vi = .int .i64 0 ∧ wr = w7) (fun _ _ => 0)
    case atStart => exact ⟨rfl, rfl⟩
    case round =>
     obtain ⟨rfl, rfl⟩ := hrel
     have q2 : ¬ (0 : Int) < 0 := by omega
     have HFI := Lib.hid (sfixed_any HB7.out.is)
     rw [HFX.out] at HFI
     have HBW := Lib.hid HB7.out.bel
     have HFRR := Lib.hid HB7.out.fr
     go_wp2_with fail
     refine HFI.out.mono ?_
     rintro e w9 ⟨rfl, d9, T9, _, hm9, _⟩
     have HB9 : Hid (Below w.heap.size w w9) := Lib.hid (HBW.out.trans (hm9.toBelow HFRR.out HBW.out.size))
     clear hm9
     go_wp2_with fail
     go_ret
     exact ⟨by simp, HB9.out⟩
theorem storeback_law (ga : Option Addr) (gn gc : Nat) (gs : Gs) (secs : Int) (txg : Int) (ao : Option Addr) (bn bc : Nat) (bl : List BlkT) (w : World) (h : GSl w ga gn gc gs) (_ : -9223372036854775808 ≤ txg ∧ txg ≤ 9223372036854775807) (hb : BkSl w ao bn bc bl) :
  Calls Tryz.prog 4 #[.agg #[.slice ga gn gc, .int .i64 secs], .int .i64 txg, .slice ao bn bc] w fun e w' => e = .returned (.bool true) ∧ Below w.heap.size w w' := by
 rcases Nat.eq_zero_or_pos bn with h0 | h0
 ·subst h0
  exact storeback_zero ga gn gc gs secs w h txg ao bc bl hb
 ·obtain ⟨b, off, e, _⟩ := hb.2.2.2.2 h0
  subst e
  exact storeback_pos ga gn gc gs secs w h txg b off bn bc bl hb h0
end Go.Proofs.YtfaemcfjbbbbdaaGreat
namespace Go.Proofs.YtfaemcfjbbbbdaaGreat
open Go.RowKit Go.ChangeShapes Go.WideShapes Go.Deep
instance : Inhabited BlkT := ⟨bkD⟩
section
variable {H : Type} {enc : TypeId × Value → H} {W : World} {base : Nat} {spare : Nat → Bool} {held : Bool}
set_option maxRecDepth 100000 in
theorem open_blocks {a : Option Addr} {len cap : Nat} {d : DataW H} {p : List MemPlace} (h : DataW.Trod enc Tryz.prog W base spare held 25 (.slice a len cap) d p) : ∃ zs, BkSl W a len cap zs := by
 obtain ⟨g, hg, hf⟩ := open_flat (n := 9) (K := 3) (ks := [.str, .int .i64, .bool]) Tryz.underlying25 (by kernel_rfl) rfl (by kernel_rfl) (by omega) h
 have each : ∀ i, i < len → ∃ r : BlkT, g i = encBk r := by
  intro i hi
  have := hf i hi
  match g i, fits_length this, this with
  | [v0, v1, v2], _, h =>
   obtain ⟨⟨x0, rfl⟩, ⟨x1, rfl, _⟩, ⟨x2, rfl⟩, _⟩ := h
   exact ⟨⟨x0.data.toList, x1, x2⟩, by simp [encBk]⟩
 obtain ⟨q, hq⟩ := choose_lt each
 refine ⟨(List.range len).map q, ?_⟩
 have : ((List.range len).map g).flatten = encBs ((List.range len).map q) := by
  unfold encBs
  rw [List.flatMap_def, List.map_map]
  congr 1
  apply List.map_congr_left
  intro i hi
  exact hq i (List.mem_range.1 hi)
 unfold BkSl
 rw [← this]
 exact hg
end
end Go.Proofs.YtfaemcfjbbbbdaaGreat
