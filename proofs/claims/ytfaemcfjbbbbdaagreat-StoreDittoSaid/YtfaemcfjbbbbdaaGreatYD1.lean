/- Parts of the proof of the statement that the last file of this claim proves: lemmas, without any condition of their own beyond those that each states. -/
import Derived.Test.YtfaemcfjbbbbdaaGreatYB6
import Derived.WalkKit
import Derived.WalkSpells
import Derived.WalkLawsBesides
import Derived.SliceStrings
import Derived.Lib.Hide
import Derived.Laws.AppendOwnNone
import Derived.Deep.Slices
import Derived.Lib.SmallJoins
import Derived.ChangeSame
import Derived.ChangeArms
import Derived.OpenShut
import Derived.Test.YtfaemcfjbbbbdaaGreatProg
import Derived.MapKept
import Derived.Shelf.Strings.Builder1
import Derived.Shelf.Strings.Builder2
import Derived.Shelf.Strings.OnBuilder
import Derived.Shelf.Strings.BuilderF
import Derived.Shelf.Strings.BuilderK
import Derived.Shelf.Sort.Plain
import Derived.Shelf.Strings.Prefix
import Derived.Shelf.Bits.Mul64
import Derived.Shelf.Strings.Repeat
import Derived.Ground.Names2Prog
import Derived.Shelf.Slices.CompactI
import Derived.IntWalk
import Derived.Laws.AppendOwn
import Derived.Maps.AppendAt
import Derived.Deep.RegionHeld3
import Derived.Deep.RegionWith
import Derived.DeepKeys
import Derived.Laws.StructEq
import Derived.Deep.MidRow
import Derived.Deep.DrawnRows
import Derived.Deep.QuietTactic
import Derived.BigQuiet
import Derived.BigRegion
import Derived.Laws.BytesArg
import Derived.Lib.TrimByte
import Derived.Carry
import Derived.Lib.SliceRun
import Derived.Lib.AppendZerosOnto
import Derived.Deep.DeepCutAuto
import Derived.Deep.Fields
import Derived.Deep.CutBlock
import Derived.Deep.AppendLies
import Derived.Deep.RegionLaw
import Derived.Deep.SlicePairs
import Derived.Sort.OwnSortedInts
import Derived.Lib.RowBridge
import Derived.RangeFuncNested
import Derived.RangeFuncBound
import Derived.RangeFuncCalls
import Derived.RangeFuncLeaves
import Derived.OwnWalkIn
import Derived.TacticsInMore
import Derived.LoopNIn
import Derived.LoopIn
import Derived.Deep.LoopGhost
import Derived.Shelf.Abstract
import Derived.Laws.IdiomStrings
set_option linter.unusedVariables false
set_option linter.unusedSimpArgs false
set_option linter.unnecessarySimpa false
namespace Go.Proofs.YtfaemcfjbbbbdaaGreat
open Go.RowKit
section
variable {σ : Type} (S : StF σ)
end
end Go.Proofs.YtfaemcfjbbbbdaaGreat
namespace Go.Proofs.YtfaemcfjbbbbdaaGreat
end Go.Proofs.YtfaemcfjbbbbdaaGreat
namespace Go.Proofs.YtfaemcfjbbbbdaaGreat
open Go.RowKit
end Go.Proofs.YtfaemcfjbbbbdaaGreat
namespace Go.Proofs.YtfaemcfjbbbbdaaGreat
end Go.Proofs.YtfaemcfjbbbbdaaGreat
namespace Go.Proofs.YtfaemcfjbbbbdaaGreat
end Go.Proofs.YtfaemcfjbbbbdaaGreat
namespace Go.Proofs.YtfaemcfjbbbbdaaGreat
end Go.Proofs.YtfaemcfjbbbbdaaGreat
namespace Go.Proofs.YtfaemcfjbbbbdaaGreat
end Go.Proofs.YtfaemcfjbbbbdaaGreat
namespace Go.Proofs.YtfaemcfjbbbbdaaGreat
def cc : Nat → Nat
 | 0 => 0
 | k + 1 => 4 * cc k + 1
end Go.Proofs.YtfaemcfjbbbbdaaGreat
namespace Go.Proofs.YtfaemcfjbbbbdaaGreat
end Go.Proofs.YtfaemcfjbbbbdaaGreat
namespace Go.Proofs.YtfaemcfjbbbbdaaGreat
end Go.Proofs.YtfaemcfjbbbbdaaGreat
namespace Go.Proofs.YtfaemcfjbbbbdaaGreat
end Go.Proofs.YtfaemcfjbbbbdaaGreat
namespace Go.Proofs.YtfaemcfjbbbbdaaGreat
end Go.Proofs.YtfaemcfjbbbbdaaGreat
namespace Go.Proofs.YtfaemcfjbbbbdaaGreat
open Go.RowKit
theorem store_newPt (p : PtrT) (w : World) (op : Oper) (a : Act) (next : Act → World → Prop) (Q : Exit → Act → World → Prop) : StoreW Tryz.prog op 49 (.pointer (some ⟨w.heap.size, 0, none⟩)) (.agg (encPtr p).toArray) a (w.alloc (.cells #[.int .i64 0, .int .i64 0, .int .i64 0, .int .i64 0, .bool false, .int .i64 0, .int .i64 0, .int .i64 0, .int .u64 0, .int .u64 0, .int .u64 0, .int .u64 0] 49)) next Q = next (a.put op.dst undef) (w.alloc (.cells (encPtr p).toArray 49)) := by
 have h := Blk.new w 49 (#[.int .i64 0, .int .i64 0, .int .i64 0, .int .i64 0, .bool false, .int .i64 0, .int .i64 0, .int .i64 0, .int .u64 0, .int .u64 0, .int .u64 0, .int .u64 0]).toList
 have e := setCells_alloc w 49 (encPtr p) (#[.int .i64 0, .int .i64 0, .int .i64 0, .int .i64 0, .bool false, .int .i64 0, .int .i64 0, .int .i64 0, .int .u64 0, .int .u64 0, .int .u64 0, .int .u64 0]).toList rfl
 have s := storeW_part (P := Tryz.prog) (t := 49) (o := 0) (cs := encPtr p) h (Nat.le_refl 12) iszPt (encPtr_ones p) op a next Q
 rw [e] at s
 exact s
end Go.Proofs.YtfaemcfjbbbbdaaGreat
namespace Go.Proofs.YtfaemcfjbbbbdaaGreat
open Go.RowKit
attribute [local go_sem ↓] Go.wp_at_zero Go.wp_at_succ
theorem IsSto.fix {w : World} {sb : Nat} {S : StoT} {V : DvV} {bb d : Nat} {T : Nat → Prop} (h : IsSto w sb S V bb (some d) T) (n : Nat) : T d ∧ StoStep { S with fixed := n } V sb bb (some d) T w (w.setCell ⟨d, 0, none⟩ (.int .i64 (n : Nat))) := by
 obtain ⟨eb, ms, bv, F, h, hT⟩ := h
 obtain ⟨hd, hrow⟩ := h.don
 have hTd : T d := (hT d).2 (.inr (.inr (.inr (.inl rfl))))
 have set1 : ∀ {k : Nat}, k ≠ d → (w.setCell ⟨d, 0, none⟩ (.int .i64 (n : Nat))).heap[k]? = w.heap[k]? := fun {k} hk => Below.heap_setCell _ _ _ _ hk
 have hnd : ∀ {k : Nat} {cs : Array Value} {e : Nat} {fr : Nat × Nat}, w.heap[k]? = some (Obj.cells cs e fr) → e ≠ 102 → k ≠ d := fun {k cs e fr} hk he e2 => by
  subst e2
  have h2 := hd
  unfold Blk at h2
  rw [hk] at h2
  simp only [Option.some.injEq, Obj.cells.injEq] at h2
  exact he h2.2.1
 refine ⟨hTd, T, ⟨eb, ms, bv, F, ⟨?_, ?_, ?_, h.sn, ?_, ?_⟩, hT⟩, (Mod.refl _ _).setCell (.inl hTd), fun g hg => .inl hg⟩
 ·have hb := h.blk
  exact hb.other (a := ⟨d, 0, none⟩) (hnd hb (by decide)) _
 ·exact h.dvs.keep (fun g hf => set1 (fun e => by
   subst e
   rcases h.dvs.type g hf _ _ _ hd with e1 | e1 | e1 | e1 | e1 <;> exact absurd e1 (by decide)))
 ·refine h.bok.typed (fun g cs e fr hg2 he => ?_)
  have e2 : e ≠ 102 := by rcases he with e3 | e3 | e3 | e3 | e3 | e3 <;> rw [e3] <;> decide
  rw [set1 (hnd hg2 e2)]
  exact hg2
 ·exact hd.setCell 0 _
 ·exact own_keep hrow (fun g hg2 => by
   obtain ⟨c2, f2, h2⟩ := own_type hrow hg2
   exact set1 (hnd h2 (by decide)))
theorem encCm_ones (s : Bs) (a b c : Int) : ∀ u ∈ encCm s a b c, u.oneCell' = true := by
 intro u hu
 simp only [encCm, List.mem_cons, List.not_mem_nil, or_false] at hu
 rcases hu with rfl | rfl | rfl | rfl <;> rfl
structure GeS (sb g3 : Nat) (sc : List Value) (p : PtrT) (w : World) : Prop where
 b : Blk w sb 41 sc
 p : Blk w g3 49 (encPtr p)
set_option maxRecDepth 100000 in
set_option maxHeartbeats 2000000 in
theorem get_yes {w : World} {sb : Nat} {S : StoT} {V : DvV} {bb : Nat} {dn : Option Nat} {T : Nat → Prop} (h : IsSto w sb S V bb dn T) (p : PtrT) (hr : S.x.right = true) (hp : p.ok) (hpr : ptrRight S.x.gs S.x.secs p = true) (hf : S.x.fits) {i : Nat} {d : Int} {s : Bs} (hl : lookX S.x p = some (i, d, s)) (hs : blkOk s = true) (hsz : p.size = ((s.length / 64 : Nat) : Int)) (hil : i + 1 ≤ (plL p).length) (K : Nat) (hK : S.x.deep K) (hK2 : K + 200 ≤ 1000000000)
  (hfx : S.fixed ≤ 1000000) (hmn : (mendedL s ((plL p).take (i + 1)) S.x 0).1 ≤ 1000) (hkp : Kept S.x (mendedL s ((plL p).take (i + 1)) S.x 0).2) :
  Calls Tryz.prog 13 #[.pointer (some ⟨sb, 0, none⟩), .agg (encPtr p).toArray] w fun e w' => e = .returned (.tuple #[.string ⟨s.toArray⟩, .int .i64 0]) ∧ ∃ dn', (∀ d, dn = some d → dn' = some d) ∧ StoStep { S with x := (mendedL s ((plL p).take (i + 1)) S.x 0).2, fixed := S.fixed + (mendedL s ((plL p).take (i + 1)) S.x 0).1 } V sb bb dn' T w w' := by
 obtain ⟨ga, gc, la, lc, wa, acp, rfl⟩ := h.form
 obtain ⟨mn, hmn2⟩ : ∃ mn, mn = (mendedL s ((plL p).take (i + 1)) S.x 0).1 := ⟨_, rfl⟩
 obtain ⟨x2, hx2⟩ : ∃ x2, x2 = (mendedL s ((plL p).take (i + 1)) S.x 0).2 := ⟨_, rfl⟩
 have HRD : Hid (∀ W T1, IsSto W sb S ⟨.slice ga S.x.gs.length gc, .slice la S.x.ds.length lc, .slice wa S.x.ds.length acp⟩ bb dn T1 → Calls Tryz.prog 38 #[.agg ([.slice ga S.x.gs.length gc, .int .i64 S.x.secs, .slice la S.x.ds.length lc, .slice wa S.x.ds.length acp]).toArray, .agg (encPtr p).toArray] W fun e w' => e = .returned (.tuple #[.agg (encCm s i d (mn : Nat)).toArray, .int .i64 0]) ∧ StoStep { S with x := x2 } ⟨.slice ga S.x.gs.length gc, .slice la S.x.ds.length lc, .slice wa S.x.ds.length acp⟩ sb bb dn T1 W w') := Lib.hid (fun W T1 hW => by
  obtain ⟨F, hd, _, hstp⟩ := hW.dvs
  have h1 := hread_any hd hr p hp hpr hf hl hs hsz hil K hK hK2
  rw [← hmn2, ← hx2] at h1
  exact h1.mono (fun e w' h2 => ⟨h2.1, (hstp _ _ h2.2 (by rw [hx2]; exact hkp.gs) (by rw [hx2]; exact hkp.secs)).1⟩))
 have HSC : Hid (x2.secs = S.x.secs) := Lib.hid (by rw [hx2]; exact hkp.secs)
 rw [← hmn2] at hmn ⊢
 rw [← hx2]
 have hbA : Below w.heap.size w (w.alloc (.cells (encPtr p).toArray 49)).drew := ((Below.refl _ _).alloc (Nat.le_refl _) _).drew
 have HAT := Lib.hid ((StoAt.start h).below hbA)
 have HATb := Lib.hid (HAT.out.alloc (.cells (encCm [] 0 0 0).toArray 105))
 have HSW : Hid (sb < w.heap.size) := Lib.hid h.cells.lt
 have hS0 : GeS sb w.heap.size (stoC ⟨.slice ga S.x.gs.length gc, .slice la S.x.ds.length lc, .slice wa S.x.ds.length acp⟩ S bb dn) p (w.alloc (.cells (encPtr p).toArray 49)).drew := ⟨HAT.out.is.cells, Blk.new w _ (encPtr p)⟩
 have HNT : Hid (¬ T w.heap.size) := Lib.hid (fun hf => by have := h.lt _ hf; omega)
 have HFX := Lib.hid hfx
 have HMN := Lib.hid hmn
 clear h hr hp hpr hf hl hs hsz hil hK hK2 hfx hmn hkp hmn2 hx2 hbA
 obtain ⟨fx, hfe⟩ : ∃ fx, fx = S.fixed + mn := ⟨_, rfl⟩
 rw [← hfe]
 have HFE := Lib.hid hfe
 clear hfe
 go_enter Tryz.func13, Tryz.ntmps13
 go_upto_region 3 with fail
 go_cut [6, 7] (fun v6 v7 wx => ∃ g6 T2, v6 = .pointer (some ⟨g6, 0, none⟩) ∧ v7 = .int .i64 0 ∧ Hid (StoAt { S with x := x2 } ⟨.slice ga S.x.gs.length gc, .slice la S.x.ds.length lc, .slice wa S.x.ds.length acp⟩ sb bb dn T w wx T2) ∧ Hid (Blk wx g6 105 (encCm s i d (mn : Nat))) ∧ Hid (¬ T2 g6))
 case first =>
  refine wp_region_held_drew (S := GeS sb w.heap.size (stoC ⟨.slice ga S.x.gs.length gc, .slice la S.x.ds.length lc, .slice wa S.x.ds.length acp⟩ S bb dn) p) (by kernel_rfl) hS0 (fun hS0 => ?_)
  refine rtd 0 ?_; refine rtd 1 ?_; refine rtd 2 ?_
  refine rtg 3 ?vy3 ?yy3 ?_
  case yy3 => refine yieldsIf_load_mid (by kernel_rfl) 37 (.tmp 13) ?_ sb (0) ?_ ([.slice ga S.x.gs.length gc, .int .i64 S.x.secs, .slice la S.x.ds.length lc, .slice wa S.x.ds.length acp]) _ (fun w' (hw : GeS _ _ _ _ w') => range_preS (cs := [.slice ga S.x.gs.length gc, .int .i64 S.x.secs, .slice la S.x.ds.length lc, .slice wa S.x.ds.length acp]) hw.b) Tryz.underlying37 rfl iszDsM <;> rfl
  refine rtg 4 ?vy4 ?yy4 ?_
  case yy4 => refine yieldsIf_load_mid (by kernel_rfl) 49 (.tmp 3) ?_ w.heap.size (0) ?_ (encPtr p) _ (fun w' (hw : GeS _ _ _ _ w') => range0M hw.p) Tryz.underlying49 rfl iszPt <;> rfl
  refine wpAnyH_ready (rs := [5, 9]) (by kernel_rfl) (by simp) ?_
  refine AllReadyH.cons (by simp only [List.getElem?_toArray, List.getElem?_cons_succ, List.getElem?_cons_zero]; rfl) (fun K hK => ?_) (AllReadyH.cons (by simp only [List.getElem?_toArray, List.getElem?_cons_succ, List.getElem?_cons_zero]; rfl) (fun K hK => ?_) AllReadyH.nil)
  ·go_simp
   refine (HRD.out _ _ HAT.out.is).mono ?_
   rintro e w6 ⟨rfl, hst⟩
   obtain ⟨T6, hat6, hfr6, hm6⟩ := HAT.out.step hst
   have HAT6 := Lib.hid hat6
   have HP6 : Hid (GeS sb w.heap.size (stoC ⟨.slice ga S.x.gs.length gc, .slice la S.x.ds.length lc, .slice wa S.x.ds.length acp⟩ S bb dn) p w6) := Lib.hid ⟨by have h9 := hat6.is.cells; unfold stoC at h9 ⊢; rw [← HSC.out]; exact h9, hm6.blk (hS0.p) HNT.out⟩
   clear hst hat6 hfr6 hm6
   try dsimp only
   refine hK.out _ _ (HP6.out) (fun hSyp5 => ?_)
   try simp only [Act.put, z1, z2, z3]
   refine rtd 6 ?_; refine rtd 7 ?_; refine rtd 8 ?_
   refine rr1 (i := 9) (h := fun K hK => ?_)
   go_simp
   skip
   refine hK.out _ _ (⟨HP6.out.b.alloc _, HP6.out.p.alloc _⟩) (fun hSyp9 => ?_)
   try simp only [Act.put, z1, z2, z3]
   refine rr1 (i := 10) (h := fun K hK => ?_)
   rw [if_pos (by kernel_rfl)]
   refine wp_store_mid 105 (.tmp 6) (.tmp 17) rfl w6.heap.size (0) (encCm s i d (mn : Nat)).toArray rfl rfl (blk_there (Blk.new w6 105 (encCm [] 0 0 0)) (Nat.le_refl 4)) infoCm (all_oneCell_toArray (encCm_ones _ _ _ _)) ?_
   refine hK.out _ _ (⟨(HP6.out.b.alloc _).away 0 _ (by have := HP6.out.b.lt; omega), (HP6.out.p.alloc _).away 0 _ (by have := HP6.out.p.lt; omega)⟩) (fun hSyp10 => ?_)
   try simp only [Act.put, z1, z2, z3]
   refine rtd 11 ?_
   have HT : Hid (StoAt { S with x := x2 } ⟨.slice ga S.x.gs.length gc, .slice la S.x.ds.length lc, .slice wa S.x.ds.length acp⟩ sb bb dn T w ((w6.alloc (.cells (encCm [] 0 0 0).toArray 105)).setCells w6.heap.size 0 (encCm s i d (mn : Nat))) T6 ∧ Blk ((w6.alloc (.cells (encCm [] 0 0 0).toArray 105)).setCells w6.heap.size 0 (encCm s i d (mn : Nat))) w6.heap.size 105 (encCm s i d (mn : Nat)) ∧ ¬ T6 w6.heap.size) := Lib.hid ⟨(HAT6.out.alloc _).other (Blk.new w6 _ (encCm [] 0 0 0)) (by unfold BookTy; decide) (HAT6.out.fresh (Nat.le_refl _)) HAT6.out.mo.size (setCells_grown _ _ _ _), (Blk.new w6 _ (encCm [] 0 0 0)).put rfl, HAT6.out.fresh (Nat.le_refl _)⟩
   refine wpAnyH_done (by kernel_rfl) ?_ _
   go_wp2_with fail
   go_meet
   exact ⟨_, T6, rfl, rfl, Lib.hid HT.out.1, Lib.hid HT.out.2.1, Lib.hid HT.out.2.2⟩
  ·go_simp
   skip
   refine hK.out _ _ (⟨hS0.b.alloc _, hS0.p.alloc _⟩) (fun hSyq9 => ?_)
   try simp only [Act.put, z1, z2, z3]
   refine rr1 (i := 5) (h := fun K hK => ?_)
   go_simp
   refine (HRD.out _ _ HATb.out.is).mono ?_
   rintro e w6 ⟨rfl, hst⟩
   obtain ⟨T6, hat6, hfr6, hm6⟩ := HATb.out.step hst
   have HAT6 := Lib.hid hat6
   have HP6 : Hid (GeS sb w.heap.size (stoC ⟨.slice ga S.x.gs.length gc, .slice la S.x.ds.length lc, .slice wa S.x.ds.length acp⟩ S bb dn) p w6) := Lib.hid ⟨by have h9 := hat6.is.cells; unfold stoC at h9 ⊢; rw [← HSC.out]; exact h9, hm6.blk (hS0.p.alloc _) HNT.out⟩
   have HX6 : Hid (Blk w6 (w.heap.size + 1) 105 (encCm [] 0 0 0) ∧ ¬ T6 (w.heap.size + 1)) := Lib.hid ⟨hm6.blk (Blk.newAt (g := w.heap.size + 1) _ _ (by simp)) (HAT.out.fresh (by simp)), hfr6 _ (by simp) (HAT.out.fresh (by simp))⟩
   clear hst hat6 hfr6 hm6
   try dsimp only
   refine hK.out _ _ (HP6.out) (fun hSyq5 => ?_)
   try simp only [Act.put, z1, z2, z3]
   refine rtd 6 ?_; refine rtd 7 ?_; refine rtd 8 ?_
   refine rr1 (i := 10) (h := fun K hK => ?_)
   rw [if_pos (by kernel_rfl)]
   refine wp_store_mid 105 (.tmp 6) (.tmp 17) rfl (w.heap.size + 1) (0) (encCm s i d (mn : Nat)).toArray rfl rfl (blk_there HX6.out.1 (Nat.le_refl 4)) infoCm (all_oneCell_toArray (encCm_ones _ _ _ _)) ?_
   refine hK.out _ _ (⟨HP6.out.b.away 0 _ (by have := HSW.out; omega), HP6.out.p.away 0 _ (by omega)⟩) (fun hSyq10 => ?_)
   try simp only [Act.put, z1, z2, z3]
   refine rtd 11 ?_
   have HT : Hid (StoAt { S with x := x2 } ⟨.slice ga S.x.gs.length gc, .slice la S.x.ds.length lc, .slice wa S.x.ds.length acp⟩ sb bb dn T w (w6.setCells (w.heap.size + 1) 0 (encCm s i d (mn : Nat))) T6 ∧ Blk (w6.setCells (w.heap.size + 1) 0 (encCm s i d (mn : Nat))) (w.heap.size + 1) 105 (encCm s i d (mn : Nat)) ∧ ¬ T6 (w.heap.size + 1)) := Lib.hid ⟨HAT6.out.other HX6.out.1 (by unfold BookTy; decide) HX6.out.2 (by omega) (setCells_grown _ _ _ _), HX6.out.1.put rfl, HX6.out.2⟩
   refine wpAnyH_done (by kernel_rfl) ?_ _
   go_wp2_with fail
   go_meet
   exact ⟨_, T6, rfl, rfl, Lib.hid HT.out.1, Lib.hid HT.out.2.1, Lib.hid HT.out.2.2⟩
 case rest =>
  obtain ⟨g6, T2, rfl, rfl, HAT2, HG6, HN6⟩ := hcut
  have HAT2d := Lib.hid (HAT2.out.below (Below.refl _ _).drew)
  have hS4 : Blk wc.drew g6 105 (encCm s i d (mn : Nat)) := HG6.out
  have HADD : Hid (IntKind.i64.wrap (((S.fixed : Nat) : Int) + ((mn : Nat) : Int)) = ((fx : Nat) : Int)) := Lib.hid (by have := HFX.out; have := HMN.out; have := HFE.out; rw [IntWalk.i64_in _ (by omega)]; omega)
  clear HATb hS0
  go_upto_region 4 with fail
  refine wp_region_held_drew (S := fun W => Blk W g6 105 (encCm s i d (mn : Nat))) (by kernel_rfl) hS4 (fun hS4 => ?_)
  refine rtd 0 ?_; refine rtd 5 ?_
  refine rtv (i := 6) (v := ?vx6) (hy := ?yx6) (h := ?_)
  case yx6 => intro w hSw; (try dsimp only at hSw); go_simp; rw [hSw.cell 3]; rfl
  try simp only [Act.put, z1, z2, z3]
  refine rr1 (i := 1) (h := fun K hK => ?_)
  go_simp
  refine (work_any2 HAT2d.out.is).mono ?_
  rintro e w7 ⟨dd, rfl, hst, hdd⟩
  obtain ⟨T7, hat7, hfr7, hm7⟩ := HAT2d.out.step hst
  have HAT7 := Lib.hid hat7
  have HD7 := Lib.hid hdd
  have HG7 := Lib.hid (hm7.blk hS4 HN6.out)
  have HN7 := Lib.hid (hfr7 _ hS4.lt HN6.out)
  clear hst hdd hat7 hfr7 hm7
  try dsimp only
  refine hK.out _ _ (HG7.out) (fun hSx1 => ?_)
  try simp only [Act.put, z1, z2, z3]
  refine rtd 2 ?_; refine rtd 3 ?_
  obtain ⟨bv, hbv⟩ := HAT7.out.is.done
  have e4 : w7.cell? ⟨dd, 0, none⟩ = some (.int .i64 (S.fixed : Nat)) := hbv.cell 0
  have f4 := hbv.frozen 0
  obtain ⟨hTd, hfx⟩ := HAT7.out.is.fix fx
  obtain ⟨T8, hat8, hfr8, _⟩ := HAT7.out.step hfx
  have HAT8 := Lib.hid hat8
  have HNE : Hid (g6 ≠ dd) := Lib.hid (fun e => HN7.out (by rw [e]; exact hTd))
  clear hbv hTd hfx hat8 hfr8
  refine rr1 (i := 4) (h := fun K hK => ?_)
  go_simp
  skip
  refine hK.out _ _ (HG7.out) (fun hSx4 => ?_)
  try simp only [Act.put, z1, z2, z3]
  refine rtv (i := 7) (v := ?vx7) (hy := ?yx7) (h := ?_)
  case yx7 => intro w hSw; (try dsimp only at hSw); go_simp; rw [HADD.out]
  try simp only [Act.put, z1, z2, z3]
  refine rtd 8 ?_; refine rtd 9 ?_
  refine rr1 (i := 10) (h := fun K hK => ?_)
  go_simp
  skip
  refine hK.out _ _ ((HG7.out.other (a := ⟨dd, 0, none⟩) HNE.out _)) (fun hSx10 => ?_)
  try simp only [Act.put, z1, z2, z3]
  have x0 : (w7.setCell ⟨dd, 0, none⟩ (.int .i64 ((fx : Nat) : Int))).cell? ⟨g6, 0, none⟩ = some (.string ⟨s.toArray⟩) := (HG7.out.other (a := ⟨dd, 0, none⟩) HNE.out _).cell 0
  refine wpAnyH_done (by kernel_rfl) ?_ _
  go_wp2_with fail
  go_ret2
  exact ⟨rfl, some dd, fun d0 e => by rw [HD7.out d0 e], HAT8.out.fin⟩
end Go.Proofs.YtfaemcfjbbbbdaaGreat
namespace Go.Proofs.YtfaemcfjbbbbdaaGreat
open Go.RowKit
attribute [local go_sem ↓] Go.wp_at_zero Go.wp_at_succ
structure BlkT where
 s : Bs
 level : Int
 mt : Bool
def bkD : BlkT := ⟨[], 0, false⟩
end Go.Proofs.YtfaemcfjbbbbdaaGreat
namespace Go.Proofs.YtfaemcfjbbbbdaaGreat
open Go.RowKit
def spB (s : Bs) (p : Nat) (b : UInt8) : Bs := s.set p (s.getD p 0 ^^^ b)
def DevT.spoil (δ : DevT) (k : Nat) (s : Bs) : DevT := if δ.cache k = [] then ⟨δ.med.set k s, δ.cache, δ.lost, δ.fuse⟩ else ⟨δ.med, cput δ.cache k ((δ.cache k).dropLast ++ [s]), δ.lost, δ.fuse⟩
theorem DevT.now_spoil {δ : DevT} {k : Nat} (s : Bs) (hk : k < δ.med.length) (j : Nat) : (δ.spoil k s).now j = if j = k then s else δ.now j := by
 unfold DevT.spoil
 split
 ·rename_i h
  unfold DevT.now
  dsimp only
  by_cases e : j = k
  ·subst e
   rw [if_pos rfl, h]
   simp [List.getD_eq_getElem?_getD, hk]
  ·rw [if_neg e]
   have e2 : (δ.med.set k s).getD j [] = δ.med.getD j [] := by rw [List.getD_eq_getElem?_getD, List.getElem?_set_ne (fun h9 => e h9.symm), ← List.getD_eq_getElem?_getD]
   rw [e2]
 ·unfold DevT.now cput
  dsimp only
  by_cases e : j = k
  ·rw [if_pos e, if_pos e]; simp
  ·rw [if_neg e, if_neg e]
theorem DevT.spoil_same (δ : DevT) (k : Nat) (s : Bs) : (δ.spoil k s).med.length = δ.med.length ∧ (δ.spoil k s).lost = δ.lost ∧ (δ.spoil k s).fuse = δ.fuse ∧ ∀ j, ((δ.spoil k s).cache j).length = (δ.cache j).length := by
 unfold DevT.spoil
 split
 ·exact ⟨List.length_set, rfl, rfl, fun j => rfl⟩
 ·rename_i h
  refine ⟨rfl, rfl, rfl, fun j => ?_⟩
  unfold cput
  dsimp only
  split
  ·rename_i e
   subst e
   have := List.length_pos_iff.2 h
   simp; omega
  ·rfl
theorem IsDevV.med_set {w : World} {db g n cap k : Nat} {δ : DevT} {mb : Nat} {c : List (Nat × Value)} {s : Bs} (h : IsDevV w db δ (.slice (some ⟨g, 0, none⟩) n cap) mb c) (hn : n = δ.med.length) : IsDevV (w.setCell ⟨g, k, none⟩ (.string ⟨s.toArray⟩)) db ⟨δ.med.set k s, δ.cache, δ.lost, δ.fuse⟩ (.slice (some ⟨g, 0, none⟩) n cap) mb c := by
 subst hn
 have hst := h.med.stored k (.string ⟨s.toArray⟩)
 have hne : ∀ {j : Nat}, j ≠ g → (w.setCell ⟨g, k, none⟩ (.string ⟨s.toArray⟩)).heap[j]? = w.heap[j]? := fun {j} hj => Below.heap_setCell _ _ _ _ hj
 have hrow : (Value.slice (some ⟨g, 0, none⟩) δ.med.length cap).ownBlock = some g := rfl
 refine ⟨?_, ?_, h.map.keep (hne (fun e => row_nmap h.med h.map (by rw [e]; rfl))), h.none_, fun j v hv => ⟨(h.some_ j v hv).1, own_keep (h.some_ j v hv).2 (fun x hx => hne (fun e => h.d1 j v x hv hx (by rw [e]; rfl)))⟩, h.d1, h.d2, h.fu, ?_, h.dep⟩
 ·unfold Blk
  rw [hne (fun e => row_nblk h.med h.blk (by decide) (by rw [e]; rfl))]
  exact h.blk
 ·have e3 : encS (bts (δ.med.set k s)) = (encS (bts δ.med)).set k (.string ⟨s.toArray⟩) := by simp [encS, bts, List.map_set]
  show World.ownsRow _ 0 _ 1 _ (δ.med.set k s).length (encS (bts (δ.med.set k s)))
  rw [List.length_set, e3]
  exact hst.1
 ·show (δ.med.set k s).length ≤ 4096
  rw [List.length_set]
  exact h.sz
theorem IsDevV.cache_set {w : World} {db g n cap k : Nat} {δ : DevT} {vm : Value} {mb : Nat} {c : List (Nat × Value)} {s : Bs} (h : IsDevV w db δ vm mb c) (hv : vget c k = some (.slice (some ⟨g, 0, none⟩) (n + 1) cap)) (hn : (δ.cache k).length = n + 1) : IsDevV (w.setCell ⟨g, n, none⟩ (.string ⟨s.toArray⟩)) db ⟨δ.med, cput δ.cache k ((δ.cache k).dropLast ++ [s]), δ.lost, δ.fuse⟩ vm mb c := by
 obtain ⟨hne0, hrow⟩ := h.some_ k _ hv
 rw [hn] at hrow
 have hst := hrow.stored n (.string ⟨s.toArray⟩)
 have hne : ∀ {j : Nat}, j ≠ g → (w.setCell ⟨g, n, none⟩ (.string ⟨s.toArray⟩)).heap[j]? = w.heap[j]? := fun {j} hj => Below.heap_setCell _ _ _ _ hj
 have hlen : ((δ.cache k).dropLast ++ [s]).length = n + 1 := by simp [hn]
 refine ⟨?_, own_keep h.med (fun x hx => hne (fun e => h.d1 k _ x hv (by rw [e]; rfl) hx)), h.map.keep (hne (fun e => row_nmap hrow h.map (by rw [e]; rfl))), fun j hj => ?_, fun j v hj => ?_, h.d1, h.d2, h.fu, h.sz, fun j => ?_⟩
 ·unfold Blk
  rw [hne (fun e => row_nblk hrow h.blk (by decide) (by rw [e]; rfl))]
  exact h.blk
 ·show cput δ.cache k _ j = []
  unfold cput
  by_cases e : j = k
  ·subst e; rw [hv] at hj; cases hj
  ·rw [if_neg e]; exact h.none_ j hj
 ·show cput δ.cache k _ j ≠ [] ∧ World.ownsRow _ 0 _ 1 v (cput δ.cache k _ j).length (encS (bts (cput δ.cache k _ j)))
  unfold cput
  by_cases e : j = k
  ·subst e
   rw [if_pos rfl, hlen]
   rw [hv] at hj
   obtain rfl := Option.some.inj hj
   refine ⟨by simp, ?_⟩
   have e3 : encS (bts ((δ.cache j).dropLast ++ [s])) = (encS (bts (δ.cache j))).set n (.string ⟨s.toArray⟩) := by
    apply List.ext_getElem?
    intro i
    rw [List.getElem?_set]
    by_cases hi : n = i
    ·subst hi
     rw [if_pos rfl, if_pos (by simp [encS, bts, hn])]
     simp [encS, bts, hn]
    ·rw [if_neg hi]
     by_cases h2 : i < n
     ·simp only [encS, bts, List.map_append, List.map_dropLast]
      rw [List.getElem?_append_left (by simp [hn]; omega), List.getElem?_dropLast, if_pos (by simp [hn]; omega)]
     ·rw [List.getElem?_eq_none (by simp [encS, bts, hn]; omega), List.getElem?_eq_none (by simp [encS, bts, hn]; omega)]
   rw [e3]
   exact hst.1
  ·rw [if_neg e]
   obtain ⟨h1, h2⟩ := h.some_ j v hj
   exact ⟨h1, own_keep h2 (fun x hx => hne (fun e2 => h.d2 j k v _ x e hj hv hx (by rw [e2]; rfl)))⟩
 ·show (cput δ.cache k _ j).length ≤ _
  unfold cput
  split
  ·rename_i e
   have := h.dep k
   rw [hlen]; omega
  ·exact h.dep j
end Go.Proofs.YtfaemcfjbbbbdaaGreat
namespace Go.Proofs.YtfaemcfjbbbbdaaGreat
open Go.RowKit
set_option maxHeartbeats 1600000 in
set_option maxRecDepth 100000 in
theorem dspoil_any {w : World} {db : Nat} {δ : DevT} {F : Nat → Prop} (h : IsDev w db δ F) (k place : Nat) (b : UInt8) (hm : δ.mayE (k : Nat) = 0) (h64 : (δ.now k).length = 64) (hp : place ≤ 1000000) :
  Calls Tryz.prog 26 #[.pointer (some ⟨db, 0, none⟩), .int .i64 (k : Nat), .int .i64 (place : Nat), .int .u8 b.toNat] w fun e w' => (∃ v, e = .returned (.bool v)) ∧ DevStep db (if b = 0 then δ else δ.spoil k (spB (δ.now k) (place % 64) b)) F w w' := by
 have hk : k < δ.med.length := by have := mayE_zero hm; omega
 have HMY := Lib.hid (dmay_any h (k : Nat))
 rw [hm] at HMY
 have HI := Lib.hid h
 by_cases hb0 : b = 0
 ·rw [if_pos hb0]
  have q1 : ((b.toNat : Int) == 0) = true := by rw [hb0]; rfl
  have q2 : (b.toNat : Int) = 0 := by rw [hb0]; rfl
  clear h hm h64 hb0
  go_enter Tryz.func26, Tryz.ntmps26
  go_wp2_with fail
  refine HMY.out.mono ?_
  rintro e w1 ⟨rfl, hb1⟩
  have H1 := Lib.hid (HI.out.stay hb1)
  clear hb1
  go_wp2_with fail
  go_ret
  exact ⟨⟨_, rfl⟩, H1.out⟩
 ·rw [if_neg hb0]
  have hbn : (b.toNat : Int) ≠ 0 := fun e => hb0 (by
   apply UInt8.toNat_inj.1
   have : b.toNat = 0 := by omega
   rw [this]; rfl)
  have q1 : ((b.toNat : Int) == 0) = false := by simpa using hbn
  have q2 : ¬ (b.toNat : Int) = 0 := hbn
  obtain ⟨T, hT⟩ : ∃ T, T = δ.now k := ⟨_, rfl⟩
  rw [← hT] at h64 ⊢
  have HNW : Hid (∀ W, Below w.heap.size w W → Calls Tryz.prog 50 #[.pointer (some ⟨db, 0, none⟩), .int .i64 (k : Nat)] W fun e w' => e = .returned (.string ⟨T.toArray⟩) ∧ Below W.heap.size W w') := Lib.hid (fun W hW => by rw [hT]; exact dnow_any (h.below hW) k hk)
  obtain ⟨p, hpp⟩ : ∃ p, p = place % 64 := ⟨_, rfl⟩
  have hp64 : p < 64 := by omega
  rw [← hpp]
  have e1 : (place : Int).tmod 64 = (p : Nat) := by rw [Int.tmod_eq_emod_of_nonneg (by omega)]; omega
  have e2 : IntKind.i64.wrap (p : Int) = (p : Int) := IntWalk.i64_in _ (by omega)
  have e3 : IntKind.i64.wrap ((p : Int) + 64) = (p : Int) + 64 := IntWalk.i64_in _ (by omega)
  have e4 : ((p : Int) + 64).tmod 64 = (p : Nat) := by rw [Int.tmod_eq_emod_of_nonneg (by omega)]; omega
  have q3 : (p : Int) < 64 := by omega
  have H64 := Lib.hid h64
  have HKK := Lib.hid hk
  clear h hm hT hb0 hbn hpp h64
  go_enter Tryz.func26, Tryz.ntmps26
  go_wp2_with fail
  refine HMY.out.mono ?_
  rintro e w1 ⟨rfl, hb1⟩
  have HB1 := Lib.hid hb1
  clear hb1
  go_wp2_with fail
  refine (HNW.out w1 HB1.out).mono ?_
  rintro e w2 ⟨rfl, hb2⟩
  have hB2 : Below w.heap.size w w2 := HB1.out.trans (hb2.mono HB1.out.size)
  have hcv0 := run_bytes_of_string (P := Tryz.prog) w2 9 82 5 ⟨T.toArray⟩ Tryz.underlying9 Tryz.underlying82 Tryz.underlying5
  obtain ⟨cp, hcp⟩ : ∃ cp, cp = grownCap w2 (⟨T.toArray⟩ : ByteArray).size 0 5 := ⟨_, rfl⟩
  rw [← hcp] at hcv0
  obtain ⟨w3, hw3⟩ : ∃ w3, w3 = w2.drew.alloc (.cells (bytesRow ⟨T.toArray⟩ cp) 5 ((bytesRow ⟨T.toArray⟩ cp).size, (bytesRow ⟨T.toArray⟩ cp).size + 1)) := ⟨_, rfl⟩
  rw [← hw3, show (⟨T.toArray⟩ : ByteArray).size = 64 by show T.toArray.size = 64; simpa using H64.out] at hcv0
  clear hcp
  have hcell : ∀ j, j < 64 → w3.cell? ⟨w2.heap.size, j, none⟩ = some (.int .u8 ((T.getD j 0).toNat : Nat)) := fun j hj => by
   rw [hw3]
   have h9 := World.cell?_alloc_mark w2.drew (bytesRow ⟨T.toArray⟩ cp) 5 ((bytesRow ⟨T.toArray⟩ cp).size, (bytesRow ⟨T.toArray⟩ cp).size + 1) j
   have hTl := H64.out
   have h8 := bytesRow_at ⟨T.toArray⟩ cp j (by show j < T.toArray.size; simp; omega)
   rw [h8] at h9
   refine h9.trans ?_
   simp [List.getD_eq_getElem?_getD, show j < T.length by omega]
  have hfz : ∀ j, j < 64 → w3.frozen? ⟨w2.heap.size, j, none⟩ = false := fun j hj => by
   rw [hw3]
   have h9 := World.frozen?_alloc_mark w2.drew (bytesRow ⟨T.toArray⟩ cp) 5 (bytesRow ⟨T.toArray⟩ cp).size ((bytesRow ⟨T.toArray⟩ cp).size + 1) j
   refine h9.trans ?_
   have hsz : 64 ≤ (bytesRow ⟨T.toArray⟩ cp).size := by
    unfold bytesRow
    have hTl := H64.out
    simp
    omega
   rw [decide_eq_false (by omega), Bool.false_and]
  have hB3 : Below w.heap.size w w3 := by rw [hw3]; exact hB2.drew.alloc hB2.size _
  have hs3 : w2.heap.size < w3.heap.size := by rw [hw3]; simp
  have hs2 : w.heap.size ≤ w2.heap.size := hB2.size
  clear hw3
  obtain ⟨x, hxx⟩ : ∃ x, x = T.getD p 0 := ⟨_, rfl⟩
  have cb : w3.cell? ⟨w2.heap.size, p, none⟩ = some (.int .u8 (x.toNat : Nat)) := by rw [hxx]; exact hcell p hp64
  have fb := hfz p hp64
  obtain ⟨y, hy⟩ : ∃ y : Nat, y = (x ^^^ b).toNat := ⟨_, rfl⟩
  obtain ⟨w4, hw4⟩ : ∃ w4, w4 = w3.setCell ⟨w2.heap.size, p, none⟩ (.int .u8 (y : Nat)) := ⟨_, rfl⟩
  have hx : bits BinOp.xor IntKind.u8 (x.toNat : Int) (b.toNat : Int) = (y : Nat) := by rw [hy]; exact xor_u8 _ _
  have hB4 : Below w.heap.size w w4 := by rw [hw4]; exact hB3.setCell (by show w.heap.size ≤ w2.heap.size; exact hs2) _
  have hsp : (spB T p b).length = 64 := by unfold spB; rw [List.length_set]; exact H64.out
  have hcv4 : ∀ W : World, (∀ j, W.cell? ⟨w2.heap.size, j, none⟩ = w4.cell? ⟨w2.heap.size, j, none⟩) → (convert 82 9 (.slice (some ⟨w2.heap.size, 0, none⟩) 64 cp)).run Tryz.prog W = .ok (.string ⟨(spB T p b).toArray⟩) W := fun W hW => by
   have h9 := run_convert_bytes_back (P := Tryz.prog) W 82 9 5 ⟨w2.heap.size, 0, none⟩ cp (spB T p b) Tryz.underlying82 Tryz.underlying5 Tryz.underlying9 (fun j hj => by
    rw [show (⟨w2.heap.size, 0, none⟩ : Addr).add j = ⟨w2.heap.size, j, none⟩ from by unfold Addr.add; split <;> simp_all]
    rw [hW j, hw4, hy, hxx]
    by_cases hjp : j = p
    ·subst hjp
     rw [World.cell?_setCell_same _ _ _ (hcell j hp64)]
     have e9 : (spB T j b)[j] = T.getD j 0 ^^^ b := by unfold spB; simp
     rw [e9]
    ·rw [World.cell?_setCell_other _ _ _ _ (fun e => hjp (by simpa using e.symm)), hcell j (by omega)]
     have h8 : (spB T p b).getD j 0 = T.getD j 0 := by
      unfold spB
      rw [List.getD_eq_getElem?_getD, List.getElem?_set_ne (fun e => hjp e.symm), ← List.getD_eq_getElem?_getD]
     have e9 : (spB T p b)[j] = T.getD j 0 := by
      rw [← h8, List.getD_eq_getElem?_getD, List.getElem?_eq_getElem hj]
      rfl
     rw [e9])
   rw [hsp] at h9
   exact h9
  have HB4 := Lib.hid hB4
  have HCV := Lib.hid hcv4
  have HS2 := Lib.hid hs2
  have hI4 := HI.out.below hB4
  have HLT := Lib.hid (fun g (hg : F g) => HI.out.lt g hg)
  obtain ⟨vm, mb, c, hv, hF⟩ := hI4
  have d1 : w4.cell? ⟨db, 1, none⟩ = some (.map (some mb)) := hv.blk.cell 1
  have hlk := run_lookup_int (P := Tryz.prog) (t := 119) Tryz.underlying119 Tryz.underlying3 hv.map k (dzero w4)
  obtain ⟨sp, hsp2⟩ : ∃ sp, sp = spB T p b := ⟨_, rfl⟩
  have hfin0 : ∀ (e : Ending) (w' : World), DevStep db (δ.spoil k sp) F w w' → DevStep db (δ.spoil k (spB T p b)) F w w' := fun e w' h9 => by rw [← hsp2]; exact h9
  have HF0 := Lib.hid hfin0
  rw [← hsp2] at HCV
  cases hvc : vget c k with
  | none =>
   have hcn := hv.none_ k hvc
   rw [hvc] at hlk
   have HSPE : Hid (δ.spoil k sp = ⟨δ.med.set k sp, δ.cache, δ.lost, δ.fuse⟩) := Lib.hid (by unfold DevT.spoil; rw [if_pos hcn])
   obtain ⟨g, cap, rfl⟩ := own_form1 hv.med (by have := HKK.out; omega)
   have d0 : w4.cell? ⟨db, 0, none⟩ = some (.slice (some ⟨g, 0, none⟩) δ.med.length cap) := hv.blk.cell 0
   have hFg : F g := (hF g).2 (.inr (.inr (.inl rfl)))
   have HFIN : Hid (DevStep db (δ.spoil k sp) F w (w4.setCell ⟨g, k, none⟩ (.string ⟨sp.toArray⟩)).drew) := Lib.hid (by
    rw [HSPE.out]
    exact ⟨F, IsDev.below (w := w4.setCell ⟨g, k, none⟩ (.string ⟨sp.toArray⟩)) ⟨_, mb, c, hv.med_set (k := k) (s := sp) rfl, hF⟩ (Below.refl _ _).drew, ((Mod.below HB4.out).setCell (.inl hFg)).trans' (Below.refl _ _).drew, fun g hg => .inl hg⟩)
   have cg : w4.drew.cell? ⟨g, k, none⟩ = some (.string ⟨(δ.med.getD k []).toArray⟩) := own_str hv.med HKK.out
   have fg : w4.drew.frozen? ⟨g, k, none⟩ = false := hv.med.frozenAt k
   have q6 : (k : Int) < (δ.med.length : Int) := by have := HKK.out; omega
   have q7 : 0 ≤ (k : Int) := by omega
   have HFF := Lib.hid (HF0.out (.returned (.bool true)) _ HFIN.out)
   have HDB := Lib.hid hv.blk
   have hg2 : g ≠ w2.heap.size := by have := HLT.out g hFg; omega
   have d0' : w4.drew.cell? ⟨db, 0, none⟩ = some (.slice (some ⟨g, 0, none⟩) δ.med.length cap) := d0
   have hdg : db ≠ g := fun e => row_nblk hv.med hv.blk (by decide) (by rw [e]; rfl)
   have HS1 : Hid (((w4.setCell ⟨g, k, none⟩ (.string ⟨sp.toArray⟩)).drew.cell? ⟨db, 0, none⟩ = some (.slice (some ⟨g, 0, none⟩) δ.med.length cap)) ∧ (convert 82 9 (.slice (some ⟨w2.heap.size, 0, none⟩) 64 cp)).run Tryz.prog (w4.setCell ⟨g, k, none⟩ (.string ⟨sp.toArray⟩)).drew = .ok (.string ⟨sp.toArray⟩) (w4.setCell ⟨g, k, none⟩ (.string ⟨sp.toArray⟩)).drew) := Lib.hid ⟨by
    have h9 : (w4.setCell ⟨g, k, none⟩ (.string ⟨sp.toArray⟩)).drew.heap[db]? = w4.heap[db]? := Below.heap_setCell _ _ _ _ hdg
    rw [World.cell?_of_block (w := w4) h9]; exact d0, HCV.out _ (fun j => by
    have h9 : (w4.setCell ⟨g, k, none⟩ (.string ⟨sp.toArray⟩)).drew.heap[w2.heap.size]? = w4.heap[w2.heap.size]? := Below.heap_setCell _ _ _ _ (fun e => hg2 e.symm)
    exact World.cell?_of_block (w := w4) h9)⟩
   have HS0 : Hid (w4.drew.cell? ⟨db, 0, none⟩ = some (.slice (some ⟨g, 0, none⟩) δ.med.length cap) ∧ (convert 82 9 (.slice (some ⟨w2.heap.size, 0, none⟩) 64 cp)).run Tryz.prog w4.drew = .ok (.string ⟨sp.toArray⟩) w4.drew) := Lib.hid ⟨d0, HCV.out _ (fun j => rfl)⟩
   clear hxx hy hv hF hvc hcn hFg hcell hfz hsp hcv4 hsp2 hfin0 hB2 hB3 hB4 hs2 hs3 HFIN HSPE hg2 hdg d0'
   go_upto_region 5 with fail
   rw [← hw4]
   clear hw4 cb fb hcv0
   go_upto_region 8 with fail
   refine wp_region_held_drew (S := fun W => W.cell? ⟨db, 0, none⟩ = some (.slice (some ⟨g, 0, none⟩) δ.med.length cap) ∧ (convert 82 9 (.slice (some ⟨w2.heap.size, 0, none⟩) 64 cp)).run Tryz.prog W = .ok (.string ⟨sp.toArray⟩) W) (by kernel_rfl) HS0.out (fun hS0 => ?_)
   refine rtd 0 ?_; refine rtd 1 ?_; refine rtd 2 ?_; refine rtd 3 ?_; refine rtd 4 ?_; refine rtd 5 ?_; refine rtd 6 ?_; refine rtd 7 ?_
   refine rr1 (i := 8) (h := fun K hK => ?_)
   go_simp
   skip
   refine hK.out _ _ (HS1.out) (fun hSa8 => ?_)
   try simp only [Act.put, z1, z2, z3]
   refine wpAnyH_done (by kernel_rfl) ?_ _
   go_wp2_with fail
   go_ret
   exact ⟨⟨_, rfl⟩, HFF.out⟩
  | some v =>
   obtain ⟨hne, hrow⟩ := hv.some_ k v hvc
   have hpos : 0 < (δ.cache k).length := List.length_pos_iff.2 hne
   obtain ⟨g2, cap2, rfl⟩ := own_form1 hrow hpos
   obtain ⟨n, hn⟩ : ∃ n, (δ.cache k).length = n + 1 := ⟨(δ.cache k).length - 1, by omega⟩
   have hm2 := own_str hrow (j := n) (by omega)
   have hdep := hv.dep k
   have hFg : F g2 := (hF g2).2 (.inr (.inr (.inr ⟨k, _, hvc, rfl⟩)))
   have HSPE : Hid (δ.spoil k sp = ⟨δ.med, cput δ.cache k ((δ.cache k).dropLast ++ [sp]), δ.lost, δ.fuse⟩) := Lib.hid (by unfold DevT.spoil; rw [if_neg hne])
   rw [hvc, hn] at hlk
   rw [hn] at hvc
   have HFIN : Hid (DevStep db (δ.spoil k sp) F w (w4.setCell ⟨g2, n, none⟩ (.string ⟨sp.toArray⟩))) := Lib.hid (by
    rw [HSPE.out]
    exact ⟨F, ⟨vm, mb, c, hv.cache_set (s := sp) hvc hn, hF⟩, (Mod.below HB4.out).setCell (.inl hFg), fun g hg => .inl hg⟩)
   have HFF := Lib.hid (HF0.out (.returned (.bool true)) _ HFIN.out)
   have fg : w4.frozen? ⟨g2, n, none⟩ = false := hrow.frozenAt n
   have hcvd := HCV.out w4 (fun j => rfl)
   have q6 : (0 : Int) < ((n + 1 : Nat) : Int) := by omega
   have q8 : (n : Int) < ((n + 1 : Nat) : Int) := by omega
   have q9 : n ≤ 9223372036854775807 := by omega
   obtain ⟨old, hold⟩ : ∃ old, old = (δ.cache k).getD n [] := ⟨_, rfl⟩
   rw [← hold] at hm2
   clear hold hxx hy hv hF hvc hne hrow hpos hn hFg hcell hfz hsp hcv4 hsp2 hfin0 hB2 hB3 hB4 hs2 hs3 HFIN HSPE hdep
   go_upto_region 5 with fail
   rw [← hw4]
   clear hw4 cb fb hcv0
   go_wp2_with fail
   go_ret
   exact ⟨⟨_, rfl⟩, HFF.out⟩
end Go.Proofs.YtfaemcfjbbbbdaaGreat
namespace Go.Proofs.YtfaemcfjbbbbdaaGreat
open Go.RowKit
theorem devX_getD {gs : Gs} {secs : Int} {al ll : List Bool} {k d : Nat} (hd : d < devsN gs) : (devX gs secs al ll k).ds.getD d dvD = (if d < k ∧ ll.getD d false = true then (freshD secs.toNat 0).lose else freshD secs.toNat 0) ∧ (devX gs secs al ll k).away.getD d true = (decide (d < k) && al.getD d false) := by
 unfold devX
 constructor
 ·rw [List.getD_eq_getElem?_getD, List.getElem?_map, List.getElem?_range hd]; rfl
 ·rw [List.getD_eq_getElem?_getD, List.getElem?_map, List.getElem?_range hd]; rfl
theorem devX_here {gs : Gs} {secs : Int} {al ll : List Bool} {d : Nat} (hd : d < devsN gs) : (devX gs secs al ll (devsN gs)).here d = (!al.getD d false && !ll.getD d false) := by
 obtain ⟨h1, h2⟩ := devX_getD (gs := gs) (secs := secs) (al := al) (ll := ll) (k := devsN gs) hd
 unfold DvsT.here
 rw [h1, h2, decide_eq_true hd, Bool.true_and]
 congr 1
 cases hl : ll.getD d false with
 | true => rw [if_pos ⟨hd, rfl⟩]; rfl
 | false => rw [if_neg (fun h => by cases h.2)]; rfl
theorem devX_out {gs : Gs} {secs : Int} {al ll : List Bool} {k d : Nat} (hd : devsN gs ≤ d) : (devX gs secs al ll k).ds.getD d dvD = dvD := by
 unfold devX
 rw [List.getD_eq_getElem?_getD, List.getElem?_eq_none (by simpa using hd)]
 rfl
theorem blank_get (n : Nat) (b : UInt8) (k : Nat) : (blankL n b).getD k [] = [] ∨ ((blankL n b).getD k []).length = 64 := by
 unfold blankL
 rw [List.getD_eq_getElem?_getD, List.getElem?_replicate]
 split
 ·right; simp
 ·left; rfl
def OneOut (gs : Gs) (al ll : List Bool) : Prop := ∀ g d e, g < gs.length → (wsum gs g).toNat ≤ d → d < (wsum gs g).toNat + (gs.getD g (0, 0)).2.toNat → (wsum gs g).toNat ≤ e → e < (wsum gs g).toNat + (gs.getD g (0, 0)).2.toNat → (al.getD d false = true ∨ ll.getD d false = true) → 2 ≤ (gs.getD g (0, 0)).2 ∧ ((al.getD e false = true ∨ ll.getD e false = true) → d = e)
theorem wsum_top {gs : Gs} {secs : Int} (hr : rightB gs secs = true) {g : Nat} (hg : g < gs.length) : (wsum gs g).toNat + (gs.getD g (0, 0)).2.toNat ≤ devsN gs := by
 have h1 := wsum_stepS hg
 have h2 := wsum_mono hr (gs.length - (g + 1)) (g + 1) (by omega)
 rw [show g + 1 + (gs.length - (g + 1)) = gs.length by omega] at h2
 have h3 := (wsum_bd hr g (by omega)).1
 have h4 := getD_right hr hg
 unfold devsN
 omega
theorem devX_ok {gs : Gs} {secs : Int} {al ll : List Bool} (hr : rightB gs secs = true) (ho : OneOut gs al ll) : (devX gs secs al ll (devsN gs)).one ∧ (devX gs secs al ll (devsN gs)).fits ∧ (devX gs secs al ll (devsN gs)).deep 0 := by
 have hsp := rightB_spec hr
 have hcase : ∀ i, (devX gs secs al ll (devsN gs)).ds.getD i dvD = freshD secs.toNat 0 ∨ (devX gs secs al ll (devsN gs)).ds.getD i dvD = (freshD secs.toNat 0).lose ∨ ((devX gs secs al ll (devsN gs)).ds.getD i dvD = dvD ∧ devsN gs ≤ i) := fun i => by
  by_cases hi : i < devsN gs
  ·rw [(devX_getD hi).1]
   split
   ·exact .inr (.inl rfl)
   ·exact .inl rfl
  ·exact .inr (.inr ⟨devX_out (by omega), by omega⟩)
 refine ⟨⟨fun i => ?_, ?_, fun g d e hg h1 h2 h3 h4 h5 h6 => ?_, fun g d hg h1 h2 h3 => ?_⟩, fun i k => ?_, fun i k => ?_⟩
 ·rcases hcase i with h | h | ⟨h, h2⟩
  ·rw [h]; exact .inl rfl
  ·rw [h]; exact .inl rfl
  ·right; rw [(devX_n gs secs al ll (devsN gs)).1]; exact h2
 ·refine (right_iff _).2 ⟨hr, (devX_n gs secs al ll (devsN gs)).1, by rw [(devX_n gs secs al ll (devsN gs)).1, (devX_n gs secs al ll (devsN gs)).2], fun i hi => ?_⟩
  rw [(devX_n gs secs al ll (devsN gs)).1] at hi
  have hl : (blankL secs.toNat 0).length = secs.toNat := blankL_len _ _
  show (((devX gs secs al ll (devsN gs)).ds.getD i dvD).med.length : Int) = secs
  rcases hcase i with h | h | ⟨h, h2⟩
  ·rw [h]; show ((blankL secs.toNat 0).length : Int) = secs; omega
  ·rw [h]; show ((blankL secs.toNat 0).length : Int) = secs; omega
  ·omega
 ·have ht := wsum_top hr (g := g) hg
  rw [devX_here (by have : (devX gs secs al ll (devsN gs)).gs = gs := rfl; rw [this] at h2; omega)] at h5
  rw [devX_here (by have : (devX gs secs al ll (devsN gs)).gs = gs := rfl; rw [this] at h4; omega)] at h6
  refine (ho g d e hg h1 h2 h3 h4 ?_).2 ?_
  ·cases ha : al.getD d false with
   | true => exact .inl rfl
   | false => right; rw [ha] at h5; simpa using h5
  ·cases ha : al.getD e false with
   | true => exact .inl rfl
   | false => right; rw [ha] at h6; simpa using h6
 ·have ht := wsum_top hr (g := g) hg
  rw [devX_here (by have : (devX gs secs al ll (devsN gs)).gs = gs := rfl; rw [this] at h2; omega)] at h3
  refine (ho g d d hg h1 h2 h1 h2 ?_).1
  cases ha : al.getD d false with
  | true => exact .inl rfl
  | false => right; rw [ha] at h3; simpa using h3
 ·have hn : fit1 (((devX gs secs al ll (devsN gs)).ds.getD i dvD).now k) = true := by
   unfold fit1
   rcases hcase i with h | h | ⟨h, h2⟩
   ·rw [h]; exact decide_eq_true (by simpa [DevT.now, freshD] using blank_get secs.toNat 0 k)
   ·rw [h]; exact decide_eq_true (by simpa [DevT.now, freshD, DevT.lose] using blank_get secs.toNat 0 k)
   ·rw [h]; exact decide_eq_true (by left; simp [DevT.now, dvD])
  exact hn
 ·rcases hcase i with h | h | ⟨h, h2⟩
  ·rw [h]; simp [freshD]
  ·rw [h]; simp [freshD, DevT.lose]
  ·rw [h]; simp [dvD]
theorem newSt_ok {gs : Gs} {secs : Int} {al ll : List Bool} {sn : SN} {txg keep : Int} (hr : rightB gs secs = true) (ho : OneOut gs al ll) (hl : sn.length = gs.length) (hs : ∀ j, j < gs.length → sn.getD j sD = ((sect (gs.getD j (0, 0)) secs).toNat, [])) : StOk (newSt gs secs al ll sn txg keep) [] 0 := by
 obtain ⟨h1, h2, h3⟩ := devX_ok hr ho
 exact ⟨h1, h2, h3, Inv.fresh hr hl hs, Cov.empty hl hs⟩
theorem out_nil (gs : Gs) : OneOut gs [] [] := fun g d e _ _ _ _ _ h => by rcases h with h | h <;> simp at h
theorem plc_may2 {S : StoT} {L : List St} {K : Nat} (h : StOk S L K) (size level : Int) : (plcX S size level).err = 0 → ∀ q ∈ (plcX S size level).l, mayC S.x.gs S.x.secs (q.1 : Nat) (q.2 : Nat) size = true := by
 intro he
 by_cases hs : 1 ≤ size ∧ size ≤ 4
 ·rcases plc_spec h (size := size) (level := level) hs.1 hs.2 with ⟨e, _⟩ | ⟨_, _, _, p, q, two, e, hr, _⟩
  ·rw [e] at he; cases he
  ·rw [e]; exact mayN hr
 ·exfalso
  have hg : ∀ two, (getA S.x.gs S.x.secs S.sn S.es size two) = ⟨(0, 0), (0, 0), 1, S.sn, S.es⟩ := fun two => by unfold getA; rw [if_neg hs]
  unfold plcX plc1 at he
  rw [hg true] at he
  dsimp only at he
  rw [hg false] at he
  split at he
  ·cases he
  ·split at he
   ·rw [if_neg (by decide)] at he; cases he
   ·cases he
theorem put_law {w : World} {sb : Nat} {S : StoT} {V : DvV} {bb : Nat} {dn : Option Nat} {T : Nat → Prop} {L : List St} {K : Nat} (h : IsSto w sb S V bb dn T) (hok : StOk S L K) (hK2 : K + 200 ≤ 1000000000) (hkp : 0 ≤ S.keep ∧ S.keep ≤ 1000000000) (hbn : S.born.length ≤ 1000000) (t : Bs) (level : Int) (htl : t.length ≤ 1000000) :
  Calls Tryz.prog 12 #[.pointer (some ⟨sb, 0, none⟩), .string ⟨t.toArray⟩, .int .i64 level] w (PutFn w sb V bb dn T (putR S t level)) := by
 exact put_any h t level htl hok.one.right K hok.deep hK2 hok.one.takes hkp hbn (plc_may2 hok _ level)
end Go.Proofs.YtfaemcfjbbbbdaaGreat
namespace Go.Proofs.YtfaemcfjbbbbdaaGreat
theorem spB_len (s : Bs) (p : Nat) (b : UInt8) : (spB s p b).length = s.length := by unfold spB; rw [List.length_set]
def DvsT.full (x : DvsT) : Prop := ∀ i k, i < x.ds.length → k < (x.ds.getD i dvD).med.length → ((x.ds.getD i dvD).now k).length = 64
def spoilX (x : DvsT) (c : ColT) (pl : Nat) (b : UInt8) : DvsT := x.set c.1 ((x.ds.getD c.1 dvD).spoil c.2.1 (spB ((x.ds.getD c.1 dvD).now c.2.1) (pl % 64) b))
theorem spoilX_get {x : DvsT} {c : ColT} (hc : c.1 < x.ds.length) (pl : Nat) (b : UInt8) (i : Nat) : (spoilX x c pl b).ds.getD i dvD = if i = c.1 then (x.ds.getD c.1 dvD).spoil c.2.1 (spB ((x.ds.getD c.1 dvD).now c.2.1) (pl % 64) b) else x.ds.getD i dvD := DvsT.set_getD x c.1 i _ hc
theorem spoilX_kept {x : DvsT} {c : ColT} (hc : c.1 < x.ds.length) (hk : c.2.1 < (x.ds.getD c.1 dvD).med.length) (pl : Nat) (b : UInt8) : Kept x (spoilX x c pl b) ∧ (∀ K, x.deep K → (spoilX x c pl b).deep K) ∧ (x.full → (spoilX x c pl b).full) := by
 have hsame := DevT.spoil_same (x.ds.getD c.1 dvD) c.2.1 (spB ((x.ds.getD c.1 dvD).now c.2.1) (pl % 64) b)
 have hn : (spoilX x c pl b).ds.length = x.ds.length := by simp [spoilX, DvsT.set]
 refine ⟨⟨rfl, rfl, rfl, hn, fun i => ?_, fun hf i k => ?_⟩, fun K hK i k => ?_, fun hf i k hi hk2 => ?_⟩
 ·rw [spoilX_get hc]
  split
  ·rename_i e; subst e; exact ⟨hsame.1, hsame.2.1, fun h => by rw [hsame.2.2.1]; exact h⟩
  ·exact ⟨rfl, rfl, fun h => h⟩
 ·rw [spoilX_get hc]
  split
  ·rw [DevT.now_spoil _ hk]
   split
   ·have := hf c.1 c.2.1
    unfold fit1 at this ⊢
    simp only [decide_eq_true_eq] at this ⊢
    rcases this with h | h
    ·left; unfold spB; rw [h]; rfl
    ·right; rw [spB_len]; exact h
   ·exact hf c.1 k
  ·exact hf i k
 ·rw [spoilX_get hc]
  split
  ·rw [hsame.2.2.2]; exact hK c.1 k
  ·exact hK i k
 ·rw [spoilX_get hc] at hk2 ⊢
  rw [hn] at hi
  split
  ·rename_i e
   rw [if_pos e, hsame.1] at hk2
   rw [DevT.now_spoil _ hk]
   split
   ·rw [spB_len]; exact hf c.1 c.2.1 hc hk
   ·exact hf c.1 k hc hk2
  ·rename_i e
   rw [if_neg e] at hk2
   exact hf i k hi hk2
theorem spoil_col_other {x : DvsT} {c c2 : ColT} (hc : c.1 < x.ds.length) (hk : c.2.1 < (x.ds.getD c.1 dvD).med.length) (pl : Nat) (b : UInt8) (h : ¬ sameC c c2) : (spoilX x c pl b).col c2 = x.col c2 := by
 have kk := (spoilX_kept hc hk pl b).1
 unfold DvsT.col
 rw [kk.here]
 split
 ·have hm : ((spoilX x c pl b).ds.getD c2.1 dvD).mayE (colAt c2) = (x.ds.getD c2.1 dvD).mayE (colAt c2) := by
   unfold DevT.mayE
   rw [(kk.dev c2.1).1, (kk.dev c2.1).2.1]
  unfold DevT.readE
  rw [hm]
  split
  ·dsimp only
   rw [spoilX_get hc]
   split
   ·rename_i e
    rw [DevT.now_spoil _ hk, if_neg (by unfold colAt; intro e3; exact h ⟨e.symm, by simpa using e3.symm⟩), e]
   ·rfl
  ·rfl
 ·rfl
def spoilK (L : List ColT) (b : UInt8) : Nat → DvsT → DvsT
 | 0, x => x
 | k + 1, x => spoilX (spoilK L b k x) (L.getD k cD) k b
theorem spoilK_kept {x : DvsT} {L : List ColT} (h : ∀ i, i < L.length → (L.getD i cD).1 < x.ds.length ∧ (L.getD i cD).2.1 < (x.ds.getD (L.getD i cD).1 dvD).med.length) (b : UInt8) : ∀ k, k ≤ L.length → Kept x (spoilK L b k x) ∧ (∀ K, x.deep K → (spoilK L b k x).deep K) ∧ (x.full → (spoilK L b k x).full)
 | 0, _ => ⟨Kept.refl x, fun _ h => h, fun h => h⟩
 | k + 1, hk => by
  obtain ⟨a1, a2, a3⟩ := spoilK_kept h b k (by omega)
  obtain ⟨c1, c2⟩ := h k (by omega)
  obtain ⟨b1, b2, b3⟩ := spoilX_kept (x := spoilK L b k x) (c := L.getD k cD) (by rw [a1.n]; exact c1) (by rw [(a1.dev _).1]; exact c2) k b
  exact ⟨a1.trans b1, fun K hK => b2 K (a2 K hK), fun hf => b3 (a3 hf)⟩
theorem spoilK_col {x : DvsT} {L : List ColT} (h : ∀ i, i < L.length → (L.getD i cD).1 < x.ds.length ∧ (L.getD i cD).2.1 < (x.ds.getD (L.getD i cD).1 dvD).med.length) (b : UInt8) (c2 : ColT) (hn : ∀ i, i < L.length → ¬ sameC (L.getD i cD) c2) : ∀ k, k ≤ L.length → (spoilK L b k x).col c2 = x.col c2
 | 0, _ => rfl
 | k + 1, hk => by
  obtain ⟨a1, _⟩ := spoilK_kept h b k (by omega)
  obtain ⟨c1, c3⟩ := h k (by omega)
  rw [← spoilK_col h b c2 hn k (by omega)]
  exact spoil_col_other (by rw [a1.n]; exact c1) (by rw [(a1.dev _).1]; exact c3) k b (hn k (by omega))
theorem spoilK_whole {x : DvsT} (hr : x.right = true) {g a g2 a2 size2 : Nat} {t : Bs} (hw : Whole x g a t) (h1 : mayC x.gs x.secs (g : Nat) (a : Nat) ((t.length / 64 : Nat) : Int) = true) (h2 : mayC x.gs x.secs (g2 : Nat) (a2 : Nat) ((size2 : Nat) : Int) = true) (hd : Dis (stOf x.gs x.secs ((t.length / 64 : Nat) : Int) (g, a)) (stOf x.gs x.secs ((size2 : Nat) : Int) (g2, a2))) (b : UInt8) : Whole (spoilK (colsL x.gs g2 a2 size2) b (colsL x.gs g2 a2 size2).length x) g a t := by
 have hrs := right_spec hr
 have hfit : ∀ i, i < (colsL x.gs g2 a2 size2).length → ((colsL x.gs g2 a2 size2).getD i cD).1 < x.ds.length ∧ ((colsL x.gs g2 a2 size2).getD i cD).2.1 < (x.ds.getD ((colsL x.gs g2 a2 size2).getD i cD).1 dvD).med.length := fun i hi => by
  have b1 := colsL_dev h2 hi
  have b2 := colsL_sec h2 hi
  have b3 : ((colsL x.gs g2 a2 size2).getD i cD).1 < x.ds.length := by rw [hrs.2.1]; exact b1
  refine ⟨b3, ?_⟩
  have := hrs.2.2.2 _ b3
  omega
 have hk := (spoilK_kept hfit b _ (Nat.le_refl _)).1
 unfold Whole at hw ⊢
 rw [shownL_kept hk, ← hw]
 unfold rawX
 rw [hk.gs]
 refine List.map_congr_left fun c hc => ?_
 obtain ⟨i, hi, rfl⟩ := cols_mem hc
 refine spoilK_col hfit b _ (fun j hj => ?_) _ (Nat.le_refl _)
 rintro ⟨e1, e2⟩
 exact cols_apart h1 h2 hd hi hj ⟨e1.symm, e2.symm⟩
end Go.Proofs.YtfaemcfjbbbbdaaGreat
namespace Go.Proofs.YtfaemcfjbbbbdaaGreat
open Go.RowKit
theorem two_ok {gs : Gs} {secs : Int} {sn : SN} (hr : rightB gs secs = true) (hl : sn.length = gs.length) (hs : ∀ j, j < gs.length → sn.getD j sD = ((sect (gs.getD j (0, 0)) secs).toNat, [])) {size : Int} (h1 : 1 ≤ size) (h2 : size ≤ 4) (h2g : 2 ≤ gs.length) : (getA gs secs sn (List.replicate gs.length 0) size true).err = 0 := by
 have hi := Inv.fresh hr hl hs
 have hc : Cov gs secs sn [] := Cov.empty hl hs
 generalize List.replicate gs.length 0 = es at *
 rcases oneA_spec gs secs sn es size (-1) with ⟨_, h0⟩ | ⟨x, h0, hx, hf, _⟩
 ·exact absurd (h0 0 (by omega)) (find_fresh hi h1 h2 (show 0 < gs.length by omega) (by rw [hs 0 (by omega)]))
 ·have hi1 := hi.put h1 h2 hx hf
  obtain ⟨_, _, e1⟩ := hi.find h1 h2 hx hf hc
  rcases oneA_spec gs secs (putS gs secs sn size x) (putE gs secs es size x) size (x.1 : Nat) with ⟨_, h3⟩ | ⟨y, h3, _⟩
  ·exfalso
   obtain ⟨g, hg, hgx⟩ : ∃ g, g < gs.length ∧ g ≠ x.1 := by
    by_cases e : x.1 = 0
    ·exact ⟨1, by omega, by omega⟩
    ·exact ⟨0, by omega, fun h => e h.symm⟩
   refine absurd (h3 g hg) (find_fresh hi1 h1 h2 hg ?_)
   rw [e1, setG_other hgx, hs g hg]
  ·unfold getA
   rw [if_pos ⟨h1, h2⟩, h0]
   dsimp only
   rw [if_pos rfl, h3]
def gsW : Gs := [(0, 1), (0, 1)]
def tW : Bs := List.replicate 256 0
theorem awake_put {sn : SN} (hl : sn.length = gsW.length) (hs : ∀ j, j < gsW.length → sn.getD j sD = ((sect (gsW.getD j (0, 0)) 60).toNat, [])) : ∃ a b c d s0 s1 s2 s3 : Int, a ≠ c ∧ (putR (newSt gsW 60 [] [] sn 1 0) tW 1).err = 0 ∧ (putR (newSt gsW 60 [] [] sn 1 0) tW 1).p = ⟨a, b, c, d, true, 4, 1, 1, s0, s1, s2, s3⟩ := by
 have hr : rightB gsW 60 = true := by decide
 have he := two_ok hr hl hs (size := 4) (by omega) (by omega) (by decide)
 obtain ⟨_, h2⟩ := two_law hr hl hs 4 he
 have hne := h2 (by decide)
 have e0 := hs 0 (by decide)
 have e1 := hs 1 (by decide)
 have hleft : leftA sn = 88 := by
  match sn, hl with
  | [x, y], _ =>
   have a0 : x = (44, []) := e0
   have a1 : y = (44, []) := e1
   rw [a0, a1]
   decide
 have htw : tW.length = 256 := List.length_replicate
 have htl : ((tW.length / 64 : Nat) : Int) = 4 := by rw [htw]; rfl
 have hpl : plcX (newSt gsW 60 [] [] sn 1 0) 4 1 = ⟨[(getA gsW 60 sn (List.replicate gsW.length 0) 4 true).p, (getA gsW 60 sn (List.replicate gsW.length 0) 4 true).q], 0, (getA gsW 60 sn (List.replicate gsW.length 0) 4 true).sn, (getA gsW 60 sn (List.replicate gsW.length 0) 4 true).es⟩ := by
  unfold plcX
  rw [if_neg (show ¬ leftA (newSt gsW 60 [] [] sn 1 0).sn < (newSt gsW 60 [] [] sn 1 0).keep + 16 by show ¬ leftA sn < 0 + 16; rw [hleft]; omega), if_pos (.inl (by omega)), if_pos (show (getA (newSt gsW 60 [] [] sn 1 0).x.gs (newSt gsW 60 [] [] sn 1 0).x.secs (newSt gsW 60 [] [] sn 1 0).sn (newSt gsW 60 [] [] sn 1 0).es 4 true).err = 0 from he)]
  rfl
 have hput : putR (newSt gsW 60 [] [] sn 1 0) tW 1 = ⟨mkPt tW 1 1 [(getA gsW 60 sn (List.replicate gsW.length 0) 4 true).p, (getA gsW 60 sn (List.replicate gsW.length 0) 4 true).q], 0, (putR (newSt gsW 60 [] [] sn 1 0) tW 1).s⟩ := by
  have hok : putOk (newSt gsW 60 [] [] sn 1 0) tW 1 = true := by
   show (blkOk tW && decide ((0 : Int) ≤ 1 ∧ (1 : Int) ≤ 3 ∧ (1 : Int) ≤ 1 ∧ (1 : Int) ≤ 4294967295)) = true
   have : blkOk tW = true := by
    unfold blkOk
    rw [htw]
    exact decide_eq_true ⟨(fun e => by rw [e] at htw; cases htw), by omega, by omega⟩
   rw [this]; decide
  unfold putR
  rw [if_neg (by rw [hok]; decide), htl, hpl, if_neg (by simp)]
  rfl
 obtain ⟨G, hG⟩ : ∃ G, G = getA gsW 60 sn (List.replicate gsW.length 0) 4 true := ⟨_, rfl⟩
 rw [← hG] at hput hne
 refine ⟨(G.p.1 : Nat), (G.p.2 : Nat), (G.q.1 : Nat), (G.q.2 : Nat), ((sumF tW).1 : Nat), ((sumF tW).2.1 : Nat), ((sumF tW).2.2.1 : Nat), ((sumF tW).2.2.2 : Nat), fun e => hne (by omega), by rw [hput], ?_⟩
 rw [hput]
 show mkPt tW 1 1 _ = _
 unfold mkPt
 rw [htl]
 rfl
theorem bsl_nil (w : World) : BSl w none 0 0 [] := ⟨rfl, Nat.zero_le _, by unfold maxLen; omega, fun _ => rfl, fun h => by omega⟩
set_option maxHeartbeats 1600000 in
set_option maxRecDepth 100000 in
theorem awake15_any (w : World) : Calls Tryz.prog 7 #[] w fun e w' => e = .returned (.bool true) ∧ Below w.heap.size w w' := by
 have hG : GSl (w.alloc (.cells (encG gsW).toArray 31)) (some ⟨w.heap.size, 0, none⟩) 2 2 gsW := by
  have hB := Blk.new w 31 (encG gsW)
  have := rsl_of_owns (blk_owns (base := 0) (n := 2) (cap := 2) (size := 2) hB (Nat.zero_le _) (Nat.le_refl _) (by unfold maxLen; omega) (by decide))
  exact this
 have hb0 : Below w.heap.size w (w.alloc (.cells (encG gsW).toArray 31)) := (Below.refl _ _).alloc (Nat.le_refl _) _
 have HM := Lib.hid (made_yes (some ⟨w.heap.size, 0, none⟩) 2 2 gsW 60 _ hG none 0 0 [] (bsl_nil _) none 0 0 [] (bsl_nil _) 1 0 (by decide))
 have HB0 := Lib.hid hb0
 clear hG hb0
 go_enter Tryz.func7, Tryz.ntmps7
 go_wp2_with fail
 refine HM.out.mono ?_
 rintro e w1 ⟨sb, bb, V, T, sn, rfl, hst, hsl, hsn, hfr, hb1⟩
 obtain ⟨i0, hi, hz0, hz1, hz2⟩ := info_parts u8info
 have hmk : (Instr.makeSlice 82 (.int .i64 256) (.int .i64 256)).run Tryz.prog w1 = .ok (.slice (some ⟨w1.heap.size, 0, none⟩) 256 256) (w1.alloc (.cells (enc8 tW).toArray 5)) := by
  have := run_make (P := Tryz.prog) w1 82 5 i0 (.int .u8 0) Tryz.underlying82 hi hz0 .i64 .i64 256 256 (by omega) (by omega) (by rw [hz2]; omega) (by omega)
  rw [this, hz1]
  have e := enc8_zero 256
  show _ = Result.ok _ (w1.alloc (.cells (enc8 (List.replicate 256 0)).toArray 5))
  rw [← e]
  rfl
 have hcv := run_string_of_own (P := Tryz.prog) (base := 0) (l := tW) (by
  have hB := Blk.new w1 5 (enc8 tW)
  have := blk_owns (base := 0) (n := 256) (cap := 256) (size := 1) hB (Nat.zero_le _) (Nat.le_refl _) (by unfold maxLen; omega) (by rw [enc8_length]; exact List.length_replicate)
  rw [List.take_of_length_le (by rw [enc8_length]; unfold tW; rw [List.length_replicate]; omega)] at this
  exact this) 82 5 9 Tryz.underlying82 Tryz.underlying5 Tryz.underlying9
 have hbA : Below w1.heap.size w1 (w1.alloc (.cells (enc8 tW).toArray 5)) := (Below.refl _ _).alloc (Nat.le_refl _) _
 obtain ⟨a, b, c, d, z0, z1, z2, z3, hac, he, hp⟩ := awake_put hsl hsn
 have hput := put_law (hst.below hbA) (newSt_ok (by decide) (out_nil gsW) hsl hsn) (by omega) (by show (0 : Int) ≤ 0 ∧ (0 : Int) ≤ 1000000000; omega) (by show 0 ≤ 1000000; omega) tW 1 (by unfold tW; rw [List.length_replicate]; omega)
 have HPUT : Hid (Calls Tryz.prog 12 #[.pointer (some ⟨sb, 0, none⟩), .string ⟨tW.toArray⟩, .int .i64 1] (w1.alloc (.cells (enc8 tW).toArray 5)) fun e w' => e = .returned (.tuple #[.agg #[.int .i64 a, .int .i64 b, .int .i64 c, .int .i64 d, .bool true, .int .i64 4, .int .i64 1, .int .i64 1, .int .u64 z0, .int .u64 z1, .int .u64 z2, .int .u64 z3], .int .i64 0]) ∧ Below w.heap.size w w') := Lib.hid (hput.mono (fun e w' h => by
  obtain ⟨h1, dn', _, T', h2, h3, h4⟩ := h
  rw [he, hp] at h1
  have hB1 : Below w.heap.size w w1 := HB0.out.trans (hb1.mono (by simp))
  exact ⟨h1, (hB1.trans (hbA.mono hB1.size)).trans (h3.toBelow (fun k hk => by have := hfr k hk; simp at this; omega) (by have := hB1.size; simp; omega))⟩))
 have q1 : ¬ a = c := hac
 have q2 : (a != c) = true := by simpa using hac
 have q3 : (a == c) = false := by simpa using hac
 clear hst hsl hsn hfr hb1 hi hz0 hz1 hz2 hbA he hp hput HM hac
 go_wp2_with fail
 refine HPUT.out.mono ?_
 rintro e w3 ⟨rfl, hb3⟩
 have HB3 := Lib.hid hb3
 clear hmk hcv hb3 HPUT HB0
 go_wp2_with fail
 go_ret
 exact ⟨rfl, HB3.out.alloc HB3.out.size _⟩
end Go.Proofs.YtfaemcfjbbbbdaaGreat
namespace Go.Proofs.YtfaemcfjbbbbdaaGreat
open Go.RowKit
theorem IsSto.self {w : World} {sb : Nat} {S : StoT} {V : DvV} {bb : Nat} {dn : Option Nat} {T : Nat → Prop} (h : IsSto w sb S V bb dn T) : T sb := by
 obtain ⟨eb, ms, bv, F, h, hT⟩ := h
 exact (hT sb).2 (.inr (.inr (.inl rfl)))
theorem asput {w : World} {sb sb2 : Nat} {S : StoT} {V : DvV} {bb d : Nat} {T : Nat → Prop} {L : List St} {K : Nat} {m : Bool} (h : IsSto w sb S V bb (some d) T) (hB : Blk w sb2 41 (stoC V { S with mt := m } bb (some d))) (hne : sb2 ≠ sb) (hok : StOk S L K) (hK2 : K + 200 ≤ 1000000000) (hkp : 0 ≤ S.keep ∧ S.keep ≤ 1000000000) (hbn : S.born.length ≤ 1000000) (t : Bs) (level : Int) (htl : t.length ≤ 1000000) :
  Calls Tryz.prog 12 #[.pointer (some ⟨sb2, 0, none⟩), .string ⟨t.toArray⟩, .int .i64 level] w fun e w' => e = .returned (.tuple #[.agg (encPtr (putR { S with mt := m } t level).p).toArray, .int .i64 ((putR { S with mt := m } t level).err : Nat)]) ∧ ∃ T', IsSto w' sb { (putR { S with mt := m } t level).s with mt := S.mt } V bb (some d) T' ∧ Mod (fun g => T g ∨ g = sb2) w w' ∧ ∀ g, T' g → T g ∨ g = sb2 ∨ w.heap.size ≤ g := by
 obtain ⟨T2, h2, hT2, hns⟩ := h.shift (m := m) hB
 have hok2 : StOk { S with mt := m } L K := ⟨hok.one, hok.fits, hok.deep, hok.inv, hok.cov⟩
 refine (put_law h2 hok2 hK2 hkp hbn t level htl).mono ?_
 rintro e w' ⟨rfl, dn', hdn, T3, h3, hm, hn⟩
 refine ⟨rfl, ?_⟩
 have e1 : dn' = some d := hdn d rfl
 subst e1
 have hsame : Same { S with mt := m } (putR { S with mt := m } t level).s ∧ (putR { S with mt := m } t level).s.x.secs = S.x.secs := by
  rcases put_plain hok2 t level with ⟨_, _, _, _, _, a1, _, a2⟩ | ⟨_, _, _, a1, _, a2, _⟩
  ·exact ⟨a2, by rw [a1]⟩
  ·exact ⟨a2, a1.secs⟩
 obtain ⟨hs1, hs2⟩ := hsame
 have hBs : Blk w' sb 41 (stoC V { (putR { S with mt := m } t level).s with mt := S.mt } bb (some d)) := by
  have h9 := hm.blk h.cells (hns (fun e => hne e))
  have e2 : stoC V { (putR { S with mt := m } t level).s with mt := S.mt } bb (some d) = stoC V S bb (some d) := by
   unfold stoC
   dsimp only
   rw [hs2, hs1.txg, hs1.keep]
  rw [e2]
  exact h9
 obtain ⟨T4, h4, hT4, _⟩ := h3.shift (m := S.mt) hBs
 refine ⟨T4, h4, hm.mono (fun g _ hg => by rcases hT2 g hg with h9 | h9; exact .inl h9; exact .inr h9), fun g hg => ?_⟩
 rcases hT4 g hg with h9 | h9
 ·rcases hn g h9 with h8 | h8
  ·rcases hT2 g h8 with h7 | h7
   ·exact .inl h7
   ·exact .inr (.inl h7)
  ·exact .inr (.inr h8)
 ·rw [h9]; exact .inl h.self
end Go.Proofs.YtfaemcfjbbbbdaaGreat
namespace Go.Proofs.YtfaemcfjbbbbdaaGreat
structure Bk (S : StoT) (got : List PtrT) (tx : List Bs) (K : Nat) : Prop where
 ok : StOk S (got.flatMap (pstrs S.x.gs S.x.secs)) K
 born : S.born = got
 len : tx.length = got.length
 wh : ∀ i, i < got.length → PWhole S.x (got.getD i pD) (tx.getD i [])
 fx : S.fixed = 0
 kp : S.keep = 0
end Go.Proofs.YtfaemcfjbbbbdaaGreat
namespace Go.Proofs.YtfaemcfjbbbbdaaGreat
def Sec (s : Bs) : Prop := s = [] ∨ s.length = 64
theorem again_sec {l : List ColT} {got : List Bs} (h : ∀ j, Sec (got.getD j [])) (i : Nat) : Sec (againT l got i) := by
 unfold againT
 dsimp only
 split
 ·exact .inl rfl
 ·rename_i hn
  unfold makeB
  split
  ·exact .inl rfl
  ·rename_i h2
   right
   rw [xorL_length]
   have hne : ((List.range l.length).filter fun j => decide ((l.getD j cD).2.2.2 = (l.getD i cD).2.2.2 ∧ j ≠ i)).map (fun j => got.getD j []) ≠ [] := fun e => h2 (.inl e)
   obtain ⟨x, r, e⟩ := List.exists_cons_of_ne_nil hne
   have hx : x ∈ ((List.range l.length).filter fun j => decide ((l.getD j cD).2.2.2 = (l.getD i cD).2.2.2 ∧ j ≠ i)).map (fun j => got.getD j []) := by rw [e]; exact List.mem_cons_self ..
   rw [e]
   show x.length = 64
   obtain ⟨j, _, rfl⟩ := List.mem_map.1 hx
   rcases h j with h3 | h3
   ·rw [h3] at hx; exact absurd hx hn
   ·exact h3
theorem withGo_len2 {l : List ColT} {got : List Bs} {dev : Int} (h : ∀ i, Sec (withS l got dev i)) : ∀ (is : List Nat) (out : Bs), withGo l got dev is out = [] ∨ (withGo l got dev is out).length = out.length + 64 * (is.filter fun i => !(l.getD i cD).2.2.1).length
 | [], out => .inr (by simp [withGo])
 | i :: r, out => by
  cases hp : (l.getD i cD).2.2.1 with
  | true =>
   have e : withGo l got dev (i :: r) out = withGo l got dev r out := by
    show (if (l.getD i cD).2.2.1 = true then _ else _) = _
    rw [if_pos hp]
   rw [e, List.filter_cons_of_neg (by rw [hp]; decide)]
   exact withGo_len2 h r out
  | false =>
   have e : withGo l got dev (i :: r) out = if withS l got dev i = [] then [] else withGo l got dev r (out ++ withS l got dev i) := by
    show (if (l.getD i cD).2.2.1 = true then _ else _) = _
    rw [if_neg (by rw [hp]; decide)]
    rfl
   rw [e, List.filter_cons_of_pos (by rw [hp]; decide)]
   split
   ·exact .inl rfl
   ·rename_i hn
    rcases withGo_len2 h r (out ++ withS l got dev i) with a | a
    ·exact .inl a
    ·right
     have := (h i).resolve_left hn
     rw [a, List.length_append, List.length_cons, this]
     omega
theorem rng_filter (l : List ColT) : ∀ n, n ≤ l.length → ((List.range n).filter fun i => !(l.getD i cD).2.2.1).length = dcount l n
 | 0, _ => by simp [dcount]
 | n + 1, h => by
  rw [List.range_succ, List.filter_append, List.length_append, rng_filter l n (by omega), dcount_succ l n h]
  congr 1
  cases hp : (l.getD n cD).2.2.1 with
  | true => rw [List.filter_cons_of_neg (by rw [hp]; decide)]; rfl
  | false => rw [List.filter_cons_of_pos (by rw [hp]; decide)]; rfl
theorem tries_len {gs : Gs} {secs : Int} {g a size : Nat} (hm : mayC gs secs (g : Nat) (a : Nat) (size : Nat) = true) {got : List Bs} (hl : got.length = (colsL gs g a size).length) (h : ∀ j, Sec (got.getD j [])) : ∀ q ∈ triesI gs g a size got, q.2.length = 64 * size := by
 intro q hq
 obtain ⟨_, _, _, hs1, hs4, _⟩ := mayC_spec hm
 unfold triesI at hq
 by_cases hk : (gs.getD g (0, 0)).1 = 0
 ·rw [if_pos hk] at hq
  have e : colsL gs g a size = mirL (wsum gs g).toNat a size (gs.getD g (0, 0)).2.toNat := by unfold colsL; rw [if_pos hk]
  unfold mirTo at hq
  obtain ⟨k, hk2, h3⟩ := List.mem_filterMap.1 hq
  split at h3
  ·cases h3
  ·rename_i hn
   obtain rfl := Option.some.inj h3
   have hk3 := List.mem_range.1 hk2
   have hgl : got.length = (gs.getD g (0, 0)).2.toNat * size := by rw [hl, e, mirL_length]
   have hc : ((got.drop (k * size)).take size).length = size := by
    have := row_lt hk3 (show size - 1 < size by omega)
    rw [List.length_take, List.length_drop]
    omega
   have h64 : ∀ s ∈ (got.drop (k * size)).take size, s.length = 64 := fun s hs => by
    have h5 : s ∈ got := List.mem_of_mem_drop (List.mem_of_mem_take hs)
    obtain ⟨j, hj, rfl⟩ := List.getElem_of_mem h5
    have h6 := h j
    rw [List.getD_eq_getElem?_getD, List.getElem?_eq_getElem hj] at h6
    rcases h6 with h6 | h6
    ·exact absurd (show got[j] = [] from h6) (fun e9 => hn (e9 ▸ hs))
    ·exact h6
   show ((got.drop (k * size)).take size).flatten.length = _
   have key : ∀ L : List Bs, (∀ s ∈ L, s.length = 64) → L.flatten.length = 64 * L.length := by
    intro L
    induction L with
    | nil => intro _; rfl
    | cons s r ih =>
     intro h9
     rw [List.flatten_cons, List.length_append, ih (fun s hs => h9 s (List.mem_cons_of_mem _ hs)), h9 s (List.mem_cons_self ..), List.length_cons]
     omega
   rw [key _ h64, hc]
 ·rw [if_neg hk] at hq
  have e : colsL gs g a size = parL (wsum gs g).toNat (gs.getD g (0, 0)).2.toNat a size := by unfold colsL; rw [if_neg hk]
  obtain ⟨d, _, h3⟩ := List.mem_filterMap.1 hq
  unfold parF at h3
  split at h3
  ·cases h3
  ·rename_i hn
   obtain rfl := Option.some.inj h3
   unfold withoutT at hn ⊢
   rcases withGo_len2 (l := colsL gs g a size) (got := got) (dev := d) (fun i => by unfold withS; split; exact again_sec h i; exact h i) (List.range (colsL gs g a size).length) [] with h5 | h5
   ·exact absurd h5 hn
   ·show (withGo _ _ _ _ _).length = _
    rw [h5, rng_filter _ _ (Nat.le_refl _)]
    unfold dcount
    rw [List.take_length, e]
    have := parL_data (wsum gs g).toNat (gs.getD g (0, 0)).2.toNat a size
    unfold dataC at this
    rw [this]
    simp
theorem at_len {x : DvsT} (hf : x.fits) {p : PtrT} {g a size : Nat} (hm : mayC x.gs x.secs (g : Nat) (a : Nat) (size : Nat) = true) {d : Int} {s : Bs} (h : atX x p g a size = some (d, s)) : p.sumIs s = true ∧ s.length = 64 * size := by
 unfold atX at h
 refine ⟨by have := List.find?_some h; exact this, ?_⟩
 refine tries_len hm (by unfold rawX; rw [List.length_map]) (fun j => ?_) _ (List.mem_of_find?_eq_some h)
 have h9 := raw_fits hf g a size
 rw [List.all_eq_true] at h9
 rw [List.getD_eq_getElem?_getD]
 cases hj : (rawX x g a size)[j]? with
 | none => exact .inl rfl
 | some s =>
  have := h9 s (List.mem_of_getElem? hj)
  unfold fit1 at this
  rw [decide_eq_true_eq] at this
  exact this
theorem mended_kept {s : Bs} (hs : blkOk s = true) : ∀ (l : List (Int × Int)) (x : DvsT) (n K : Nat), x.right = true → x.deep K → (∀ q ∈ l, mayC x.gs x.secs ((q.1.toNat : Nat) : Int) ((q.2.toNat : Nat) : Int) ((s.length / 64 : Nat) : Int) = true) → Kept x (mendedL s l x n).2 ∧ (mendedL s l x n).2.deep (K + 32 * l.length) ∧ (mendedL s l x n).1 ≤ n + 32 * l.length
 | [], x, n, K, _, hK, _ => ⟨Kept.refl x, hK, Nat.le_refl _⟩
 | q :: r, x, n, K, hr, hK, hm => by
  obtain ⟨a1, a2, a3⟩ := mend_kept hr hs (hm q (List.mem_cons_self ..)) hK
  obtain ⟨b1, b2, b3⟩ := mended_kept hs r (mendX x q.1.toNat q.2.toNat s (badX x q.1.toNat q.2.toNat s)).2 (n + (mendX x q.1.toNat q.2.toNat s (badX x q.1.toNat q.2.toNat s)).1) (K + 32) (a1.right hr) a2 (fun p hp => by rw [a1.gs, a1.secs]; exact hm p (List.mem_cons_of_mem _ hp))
  refine ⟨a1.trans b1, ?_, ?_⟩
  ·rw [List.length_cons]
   exact fun i k => Nat.le_trans (b2 i k) (by omega)
  ·show (mendedL s r _ _).1 ≤ _
   rw [List.length_cons]
   omega
end Go.Proofs.YtfaemcfjbbbbdaaGreat
namespace Go.Proofs.YtfaemcfjbbbbdaaGreat
theorem two_dis {gs : Gs} {secs : Int} {p : PtrT} (h : ptrRight gs secs p = true) (h2 : p.two = true) : Dis (stOf gs secs p.size (p.ag.toNat, p.aa.toNat)) (stOf gs secs p.size (p.bg.toNat, p.ba.toNat)) := by
 obtain ⟨h1, h3, _⟩ := ptrRight_may h
 obtain ⟨h4, h5⟩ := h3 h2
 have m1 := mayC_spec h1
 have m2 := mayC_spec h4
 have e1 : ((p.ag.toNat : Nat) : Int) = p.ag := Int.toNat_of_nonneg m1.2.1
 have e2 : ((p.bg.toNat : Nat) : Int) = p.bg := Int.toNat_of_nonneg m2.2.1
 unfold apartC at h5
 rw [decide_eq_true_eq] at h5
 rintro g x ⟨a1, a2, a3⟩ ⟨b1, b2, b3⟩
 simp only [stOf] at a1 a2 a3 b1 b2 b3
 rw [e1] at a3
 rw [e2] at b3
 have t1 := m1.2.2.2.2.2.2.2.1
 have t2 := m2.2.2.2.2.2.2.2.1
 have u1 := m1.2.2.2.2.2.1
 have u2 := m2.2.2.2.2.2.1
 rcases h5 with h5 | h5 | h5
 ·exact h5 (by rw [← e1, ← e2, a1, b1])
 ·omega
 ·omega
def plF (p : PtrT) (first : Bool) : Int × Int := if first = true then (p.ag, p.aa) else (p.bg, p.ba)
theorem plF_mem {p : PtrT} (h2 : p.two = true) (first : Bool) : plF p first ∈ plL p := by
 unfold plL plF
 rw [if_pos h2]
 cases first <;> simp
def colsP (x : DvsT) (p : PtrT) (q : Int × Int) : List ColT := colsL x.gs q.1.toNat q.2.toNat p.size.toNat
def spoilP (x : DvsT) (p : PtrT) (q : Int × Int) (b : UInt8) (k : Nat) : DvsT := spoilK (colsP x p q) b k x
theorem cols_fit {x : DvsT} (hr : x.right = true) {g a size : Nat} (hm : mayC x.gs x.secs (g : Nat) (a : Nat) (size : Nat) = true) : ∀ i, i < (colsL x.gs g a size).length → ((colsL x.gs g a size).getD i cD).1 < x.ds.length ∧ ((colsL x.gs g a size).getD i cD).2.1 < (x.ds.getD ((colsL x.gs g a size).getD i cD).1 dvD).med.length := fun i hi => by
 have hrs := right_spec hr
 have b1 := colsL_dev hm hi
 have b2 := colsL_sec hm hi
 have b3 : ((colsL x.gs g a size).getD i cD).1 < x.ds.length := by rw [hrs.2.1]; exact b1
 refine ⟨b3, ?_⟩
 have := hrs.2.2.2 _ b3
 omega
theorem spoilt_look {x : DvsT} (ho : x.one) (hf : x.fits) {p : PtrT} {t : Bs} (hp : PWhole x p t) (h2 : p.two = true) (first : Bool) (b : UInt8) :
  ∃ i d s, lookX (spoilP x p (plF p first) b (colsP x p (plF p first)).length) p = some (i, d, s) ∧ p.sumIs s = true ∧ blkOk s = true ∧ p.size = ((s.length / 64 : Nat) : Int) ∧ i + 1 ≤ (plL p).length := by
 have hs : p.size.toNat = t.length / 64 := by rw [hp.size, Int.toNat_natCast]
 have hmay := hp.may
 have hd := two_dis hp.right h2
 rw [hp.size] at hd
 have hq := plF_mem h2 first
 have hmq := hmay _ hq
 have hk := (spoilK_kept (cols_fit ho.right hmq) b _ (Nat.le_refl _)).1
 have hyo : (spoilK (colsL x.gs (plF p first).1.toNat (plF p first).2.toNat (t.length / 64)) b (colsL x.gs (plF p first).1.toNat (plF p first).2.toNat (t.length / 64)).length x).one := ho.kept hk
 have hyf := hk.fit hf
 have eS : spoilP x p (plF p first) b (colsP x p (plF p first)).length = spoilK (colsL x.gs (plF p first).1.toNat (plF p first).2.toNat (t.length / 64)) b (colsL x.gs (plF p first).1.toNat (plF p first).2.toNat (t.length / 64)).length x := by
  unfold spoilP colsP
  rw [hs]
 rw [eS]
 have eL : plL p = [(p.ag, p.aa), (p.bg, p.ba)] := by unfold plL; rw [if_pos h2]
 have ha : (p.ag, p.aa) ∈ plL p := by rw [eL]; exact List.mem_cons_self ..
 have hb : (p.bg, p.ba) ∈ plL p := by rw [eL]; exact List.mem_cons_of_mem _ (List.mem_cons_self ..)
 have hne : atX (spoilK (colsL x.gs (plF p first).1.toNat (plF p first).2.toNat (t.length / 64)) b (colsL x.gs (plF p first).1.toNat (plF p first).2.toNat (t.length / 64)).length x) p p.ag.toNat p.aa.toNat (t.length / 64) ≠ none ∨ atX (spoilK (colsL x.gs (plF p first).1.toNat (plF p first).2.toNat (t.length / 64)) b (colsL x.gs (plF p first).1.toNat (plF p first).2.toNat (t.length / 64)).length x) p p.bg.toNat p.ba.toNat (t.length / 64) ≠ none := by
  cases first with
  | true =>
   right
   have hw := spoilK_whole ho.right (hp.whole _ hb) (hmay _ hb) (hmay _ ha) hd.symm b
   obtain ⟨d, h9⟩ := at_whole hyo hp.blk (by rw [hk.gs, hk.secs]; exact hmay _ hb) hp.sum hw
   intro e
   have e2 := h9.symm.trans e
   cases e2
  | false =>
   left
   have hw := spoilK_whole ho.right (hp.whole _ ha) (hmay _ ha) (hmay _ hb) hd b
   obtain ⟨d, h9⟩ := at_whole hyo hp.blk (by rw [hk.gs, hk.secs]; exact hmay _ ha) hp.sum hw
   intro e
   have e2 := h9.symm.trans e
   cases e2
 generalize spoilK (colsL x.gs (plF p first).1.toNat (plF p first).2.toNat (t.length / 64)) b (colsL x.gs (plF p first).1.toNat (plF p first).2.toNat (t.length / 64)).length x = y at *
 obtain ⟨_, _, _, hs1, hs4, _⟩ := mayC_spec hmq
 have fin : ∀ (q : Int × Int), q ∈ plL p → ∀ d s, atX y p q.1.toNat q.2.toNat (t.length / 64) = some (d, s) → p.sumIs s = true ∧ blkOk s = true ∧ p.size = ((s.length / 64 : Nat) : Int) := fun q hq d s h => by
  obtain ⟨h8, h9⟩ := at_len hyf (by rw [hk.gs, hk.secs]; exact hmay q hq) h
  have e6 : s.length / 64 = t.length / 64 := by rw [h9]; omega
  refine ⟨h8, ?_, by rw [e6]; exact hp.size⟩
  unfold blkOk
  refine decide_eq_true ⟨fun e => ?_, by omega, by omega⟩
  rw [e] at h9
  simp at h9
  omega
 unfold lookX
 rw [eL]
 unfold lookL
 rw [hs]
 cases h0 : atX y p p.ag.toNat p.aa.toNat (t.length / 64) with
 | some z =>
  obtain ⟨d, s⟩ := z
  obtain ⟨f1, f2, f3⟩ := fin _ ha d s h0
  exact ⟨0, d, s, rfl, f1, f2, f3, by simp⟩
 | none =>
  unfold lookL
  rw [hs]
  cases h1 : atX y p p.bg.toNat p.ba.toNat (t.length / 64) with
  | some z =>
   obtain ⟨d, s⟩ := z
   obtain ⟨f1, f2, f3⟩ := fin _ hb d s h1
   exact ⟨1, d, s, rfl, f1, f2, f3, by simp⟩
  | none => rcases hne with h | h; exact absurd h0 h; exact absurd h1 h
end Go.Proofs.YtfaemcfjbbbbdaaGreat
namespace Go.Proofs.YtfaemcfjbbbbdaaGreat
open Go.RowKit
theorem vspoil_any {w : World} {x : DvsT} {V : DvV} {F : Nat → Prop} {c : ColT} (h : IsDvs w x V F) (hi : c.1 < x.ds.length) (place : Nat) (b : UInt8) (hb : b ≠ 0) (hm : (x.ds.getD c.1 dvD).mayE (colAt c) = 0) (h64 : ((x.ds.getD c.1 dvD).now c.2.1).length = 64) (hp : place ≤ 1000000) : ∃ bl cl db, V.l = .slice (some ⟨bl, 0, none⟩) x.ds.length cl ∧ w.cell? ⟨bl, c.1, none⟩ = some (.pointer (some ⟨db, 0, none⟩)) ∧ Calls Tryz.prog 26 #[.pointer (some ⟨db, 0, none⟩), .int .i64 (c.2.1 : Nat), .int .i64 (place : Nat), .int .u8 b.toNat] w fun e w' => (∃ v, e = .returned (.bool v)) ∧ DvsStep (spoilX x c place b) V F w w' ∧ w'.cell? ⟨bl, c.1, none⟩ = some (.pointer (some ⟨db, 0, none⟩)) := by
 obtain ⟨dbs, Fd, h, hF⟩ := h
 obtain ⟨bl, cl, eV, hc⟩ := h.lcell (by omega)
 refine ⟨bl, cl, dbs.getD c.1 0, eV, hc c.1 hi, (dspoil_any (h.dev c.1 hi) c.2.1 place b hm h64 hp).mono ?_⟩
 rintro e w' ⟨hv, hs⟩
 rw [if_neg hb] at hs
 refine ⟨hv, h.step hF hi hs, ?_⟩
 obtain ⟨Fi, _, h2, _⟩ := hs
 have hob : V.l.ownBlock = some bl := by rw [eV]; rfl
 have hlt := (h.lst.lt bl hob).2
 have hk : w'.heap[bl]? = w.heap[bl]? := h2.block bl hlt (fun hf => (h.dg c.1 bl hi hf).2.1 hob)
 rw [World.cell?_of_block (w := w) hk]
 exact hc c.1 hi
theorem sspoil_any {w : World} {sb : Nat} {S : StoT} {V : DvV} {bb : Nat} {dn : Option Nat} {T : Nat → Prop} (h : IsSto w sb S V bb dn T) {c : ColT} (hi : c.1 < S.x.ds.length) (place : Nat) (b : UInt8) (hb : b ≠ 0) (hm : (S.x.ds.getD c.1 dvD).mayE (colAt c) = 0) (h64 : ((S.x.ds.getD c.1 dvD).now c.2.1).length = 64) (hp : place ≤ 1000000) : ∃ bl cl db, V.l = .slice (some ⟨bl, 0, none⟩) S.x.ds.length cl ∧ w.cell? ⟨bl, c.1, none⟩ = some (.pointer (some ⟨db, 0, none⟩)) ∧ Calls Tryz.prog 26 #[.pointer (some ⟨db, 0, none⟩), .int .i64 (c.2.1 : Nat), .int .i64 (place : Nat), .int .u8 b.toNat] w fun e w' => (∃ v, e = .returned (.bool v)) ∧ StoStep { S with x := spoilX S.x c place b } V sb bb dn T w w' ∧ w'.cell? ⟨bl, c.1, none⟩ = some (.pointer (some ⟨db, 0, none⟩)) := by
 obtain ⟨F, hd, _, hst⟩ := h.dvs
 obtain ⟨bl, cl, db, e1, e2, e3⟩ := vspoil_any hd hi place b hb hm h64 hp
 exact ⟨bl, cl, db, e1, e2, e3.mono (fun e w' hh => ⟨hh.1, (hst _ _ hh.2.1 rfl rfl).1, hh.2.2⟩)⟩
theorem whole_sec {x : DvsT} (hr : x.right = true) {g a : Nat} {t : Bs} (ht : blkOk t = true) (hm : mayC x.gs x.secs (g : Nat) (a : Nat) ((t.length / 64 : Nat) : Int) = true) (hw : Whole x g a t) (hh : ∀ d, d < x.ds.length → x.here d = true) {i : Nat} (hi : i < (colsL x.gs g a (t.length / 64)).length) :
  (x.ds.getD ((colsL x.gs g a (t.length / 64)).getD i cD).1 dvD).mayE (colAt ((colsL x.gs g a (t.length / 64)).getD i cD)) = 0 ∧ ((x.ds.getD ((colsL x.gs g a (t.length / 64)).getD i cD).1 dvD).now ((colsL x.gs g a (t.length / 64)).getD i cD).2.1).length = 64 := by
 obtain ⟨h1, h2, h3⟩ := blk_parts ht
 have hfit := cols_fit hr hm i hi
 have hhe := hh _ hfit.1
 have e64 := encL_64 (l := colsL x.gs g a (t.length / 64)) (secL_64 h2) (secL_pos ht) (colsL_row x.gs g a (t.length / 64)) i hi
 have e1 : (rawX x g a (t.length / 64)).getD i [] = (shownL x g a t).getD i [] := by rw [hw]
 rw [shownL_get x g a t hi, if_pos hhe] at e1
 have e2 : (rawX x g a (t.length / 64)).getD i [] = x.col ((colsL x.gs g a (t.length / 64)).getD i cD) := by
  unfold rawX
  rw [List.getD_eq_getElem?_getD, List.getElem?_map, List.getD_eq_getElem?_getD, List.getElem?_eq_getElem hi]
  rfl
 rw [e2] at e1
 unfold DvsT.col at e1
 rw [if_pos hhe] at e1
 unfold DevT.readE at e1
 split at e1
 ·rename_i h0
  refine ⟨h0, ?_⟩
  have e3 : (colAt ((colsL x.gs g a (t.length / 64)).getD i cD)).toNat = ((colsL x.gs g a (t.length / 64)).getD i cD).2.1 := by unfold colAt; exact Int.toNat_natCast _
  rw [e3] at e1
  dsimp only at e1
  rw [e1]
  exact e64
 ·rw [← e1] at e64
  cases e64
theorem spoilK_now {x : DvsT} {L : List ColT} (h : ∀ i, i < L.length → (L.getD i cD).1 < x.ds.length ∧ (L.getD i cD).2.1 < (x.ds.getD (L.getD i cD).1 dvD).med.length) (b : UInt8) (d j : Nat) : ∀ k, k ≤ L.length → (((spoilK L b k x).ds.getD d dvD).now j).length = ((x.ds.getD d dvD).now j).length
 | 0, _ => rfl
 | k + 1, hk => by
  obtain ⟨a1, _⟩ := spoilK_kept h b k (by omega)
  obtain ⟨c1, c3⟩ := h k (by omega)
  rw [← spoilK_now h b d j k (by omega)]
  show (((spoilX _ _ _ _).ds.getD d dvD).now j).length = _
  rw [spoilX_get (by rw [a1.n]; exact c1)]
  split
  ·rename_i e
   subst e
   rw [DevT.now_spoil _ (by rw [(a1.dev _).1]; exact c3)]
   split
   ·rename_i e; subst e; rw [spB_len]
   ·rfl
  ·rfl
theorem spoilP_may {x : DvsT} (hr : x.right = true) {p : PtrT} {t : Bs} (hp : PWhole x p t) (hh : ∀ d, d < x.ds.length → x.here d = true) {q : Int × Int} (hq : q ∈ plL p) (b : UInt8) {k : Nat} (hk : k < (colsP x p q).length) :
  ((colsP x p q).getD k cD).1 < (spoilP x p q b k).ds.length ∧ ((spoilP x p q b k).ds.getD ((colsP x p q).getD k cD).1 dvD).mayE (colAt ((colsP x p q).getD k cD)) = 0 ∧ (((spoilP x p q b k).ds.getD ((colsP x p q).getD k cD).1 dvD).now ((colsP x p q).getD k cD).2.1).length = 64 := by
 have hs : p.size.toNat = t.length / 64 := by rw [hp.size, Int.toNat_natCast]
 have hm := hp.may q hq
 have hfit := cols_fit hr hm
 unfold spoilP
 have eC : colsP x p q = colsL x.gs q.1.toNat q.2.toNat (t.length / 64) := by unfold colsP; rw [hs]
 rw [eC] at hk ⊢
 obtain ⟨a1, _⟩ := spoilK_kept hfit b k (by omega)
 obtain ⟨w1, w2⟩ := whole_sec hr hp.blk hm (hp.whole q hq) hh hk
 refine ⟨by rw [a1.n]; exact (hfit k hk).1, ?_, by rw [spoilK_now hfit b _ _ k (by omega)]; exact w2⟩
 unfold DevT.mayE at w1 ⊢
 rw [(a1.dev _).1, (a1.dev _).2.1]
 exact w1
theorem spoilP_keep {x : DvsT} (hr : x.right = true) {p : PtrT} {t : Bs} (hp : PWhole x p t) {q : Int × Int} (hq : q ∈ plL p) (b : UInt8) {k : Nat} (hk : k ≤ (colsP x p q).length) : Kept x (spoilP x p q b k) ∧ ∀ K, x.deep K → (spoilP x p q b k).deep K := by
 have hs : p.size.toNat = t.length / 64 := by rw [hp.size, Int.toNat_natCast]
 have hm := hp.may q hq
 have hfit := cols_fit hr hm
 rw [← hs] at hfit
 obtain ⟨a1, a2, _⟩ := spoilK_kept hfit b k hk
 exact ⟨a1, a2⟩
end Go.Proofs.YtfaemcfjbbbbdaaGreat
namespace Go.Proofs.YtfaemcfjbbbbdaaGreat
open Go.RowKit
structure DiP (S : StoT) (p : PtrT) (t : Bs) : Prop where
 one : S.x.one
 fits : S.x.fits
 deep : S.x.deep 64
 wh : PWhole S.x p t
 hh : ∀ d, d < S.x.ds.length → S.x.here d = true
 fx : S.fixed = 0
theorem new_here {gs : Gs} {secs : Int} {sn : SN} {txg keep : Int} : ∀ d, d < (newSt gs secs [] [] sn txg keep).x.ds.length → (newSt gs secs [] [] sn txg keep).x.here d = true := fun d hd => by
 have hn := (devX_n gs secs [] [] (devsN gs)).1
 have h : (newSt gs secs [] [] sn txg keep).x = devX gs secs [] [] (devsN gs) := rfl
 rw [h] at hd ⊢
 rw [hn] at hd
 rw [devX_here hd]
 rfl
theorem di_put {S : StoT} (h : Bk S [] [] 0) (hh : ∀ d, d < S.x.ds.length → S.x.here d = true) (m : Bool) (t : Bs) (lv : Int) : (putR { S with mt := m } t lv).err ≠ 0 ∨ ((putR { S with mt := m } t lv).err = 0 ∧ DiP { (putR { S with mt := m } t lv).s with mt := S.mt } (putR { S with mt := m } t lv).p t ∧ (putR { S with mt := m } t lv).s.x.gs = S.x.gs ∧ (putR { S with mt := m } t lv).s.x.secs = S.x.secs) := by
 have hok2 : StOk { S with mt := m } (([] : List PtrT).flatMap (pstrs S.x.gs S.x.secs)) 0 := ⟨h.ok.one, h.ok.fits, h.ok.deep, h.ok.inv, h.ok.cov⟩
 rcases put_plain hok2 t lv with ⟨b1, _⟩ | ⟨b1, b2, b3, b4, b5, b6, b7, b8⟩
 ·exact .inl b1
 ·right
  refine ⟨b1, ⟨b2.one, b2.fits, ?_, b3, fun d hd => ?_, ?_⟩, b4.gs, b4.secs⟩
  ·have := b2.deep
   rw [Nat.zero_add] at this
   exact this
  ·show DvsT.here _ d = true
   rw [b4.here d]
   refine hh d ?_
   have := b4.n
   rw [← this]
   exact hd
  ·show (putR { S with mt := m } t lv).s.fixed = 0
   rw [b6.fixed]
   exact h.fx
theorem di_get {W : World} {sb : Nat} {S : StoT} {V : DvV} {bb : Nat} {dn : Option Nat} {T : Nat → Prop} {p : PtrT} {t : Bs} (hd : DiP S p t) (h2 : p.two = true) (first : Bool) (b : UInt8) (h : IsSto W sb { S with x := spoilP S.x p (plF p first) b (colsP S.x p (plF p first)).length } V bb dn T) :
  ∃ s S', p.sumIs s = true ∧ s.length ≤ 256 ∧ Calls Tryz.prog 13 #[.pointer (some ⟨sb, 0, none⟩), .agg (encPtr p).toArray] W fun e w' => e = .returned (.tuple #[.string ⟨s.toArray⟩, .int .i64 0]) ∧ ∃ dn', StoStep S' V sb bb dn' T W w' := by
 obtain ⟨i, d, s, h3, h4, h5, h6, h7⟩ := spoilt_look hd.one hd.fits hd.wh h2 first b
 have hq := plF_mem h2 first
 obtain ⟨k1, k2⟩ := spoilP_keep hd.one.right hd.wh hq b (Nat.le_refl _)
 have hmay : ∀ q ∈ (plL p).take (i + 1), mayC (spoilP S.x p (plF p first) b (colsP S.x p (plF p first)).length).gs (spoilP S.x p (plF p first) b (colsP S.x p (plF p first)).length).secs ((q.1.toNat : Nat) : Int) ((q.2.toNat : Nat) : Int) ((s.length / 64 : Nat) : Int) = true := fun q hq2 => by
  have h9 := plL_ok hd.wh.right q (List.mem_of_mem_take hq2)
  rw [k1.gs, k1.secs, ← h6, Int.toNat_of_nonneg h9.g, Int.toNat_of_nonneg h9.a]
  exact h9.may
 obtain ⟨m1, m2, m3⟩ := mended_kept h5 ((plL p).take (i + 1)) _ 0 64 (k1.right hd.one.right) (k2 _ hd.deep) hmay
 have hl : ((plL p).take (i + 1)).length ≤ 2 := by
  rw [List.length_take, plL_len, if_pos h2]
  omega
 have hg := get_yes h p (k1.right hd.one.right) hd.wh.ok (by rw [show ({ S with x := spoilP S.x p (plF p first) b (colsP S.x p (plF p first)).length } : StoT).x.gs = S.x.gs from k1.gs, show ({ S with x := spoilP S.x p (plF p first) b (colsP S.x p (plF p first)).length } : StoT).x.secs = S.x.secs from k1.secs]; exact hd.wh.right) (k1.fit hd.fits) h3 h5 h6 h7 64 (k2 _ hd.deep) (by omega) (by show S.fixed ≤ _; rw [hd.fx]; omega) (by show (mendedL s _ (spoilP S.x p (plF p first) b (colsP S.x p (plF p first)).length) 0).1 ≤ _; omega) m1
 obtain ⟨_, _, h9⟩ := blk_parts h5
 exact ⟨s, _, h4, h9, hg.mono (fun e w' hh => ⟨hh.1, hh.2.imp fun dn' h8 => h8.2⟩)⟩
theorem col_at {w : World} {b g n cap i : Nat} {l : List ColT} (h : w.ownsRow b 78 4 (.slice (some ⟨g, 0, none⟩) n cap) n (encC l)) (hn : n = l.length) (hi : i < n) : w.cell? ⟨g, i * 4, none⟩ = some (.int .i64 ((l.getD i cD).1 : Nat)) ∧ w.cell? ⟨g, i * 4 + 1, none⟩ = some (.int .i64 ((l.getD i cD).2.1 : Nat)) := by
 subst hn
 have h9 := colD_cells (rsl_of_owns h) hi
 have r0 := h9 0 _ rfl
 have r1 := h9 1 _ rfl
 rw [Nat.zero_add, Nat.add_zero] at r0
 rw [Nat.zero_add] at r1
 exact ⟨r0, r1⟩
structure DiS (w : World) (geo : List Value) (sb bb : Nat) (V : DvV) (dn : Option Nat) (S : StoT) (T : Nat → Prop) (gp pp : Nat) (p : PtrT) (q : Int × Int) (W : World) : Prop where
 is : IsSto W sb S V bb dn T
 fr : ∀ g, T g → w.heap.size ≤ g
 geo : Blk W w.heap.size 24 geo
 ng : ¬ T w.heap.size
 ptr : Blk W gp 49 (encPtr p)
 n1 : ¬ T gp
 pl : Blk W pp 44 [.int .i64 q.1, .int .i64 q.2]
 n2 : ¬ T pp
 bel : Below w.heap.size w W
section
variable {w : World} {geo : List Value} {sb bb : Nat} {V : DvV} {dn dn' : Option Nat} {S S' : StoT} {T T' : Nat → Prop} {gp pp : Nat} {p : PtrT} {q : Int × Int} {wr wd : World}
theorem DiS.below (h : DiS w geo sb bb V dn S T gp pp p q wr) (hb : Below wr.heap.size wr wd) : DiS w geo sb bb V dn S T gp pp p q wd :=
 ⟨h.is.below hb, h.fr, h.geo.below hb, h.ng, h.ptr.below hb, h.n1, h.pl.below hb, h.n2, h.bel.trans (hb.mono h.bel.size)⟩
theorem DiS.step (h : DiS w geo sb bb V dn S T gp pp p q wr) (k : StoStep S' V sb bb dn' T wr wd) : ∃ T', DiS w geo sb bb V dn' S' T' gp pp p q wd ∧ Mod T wr wd ∧ ∀ g, T' g → T g ∨ wr.heap.size ≤ g := by
 obtain ⟨T', h1, hm, hn⟩ := k
 have key : ∀ {g : Nat}, g < wr.heap.size → ¬ T g → ¬ T' g := fun hl hg hf => by
  rcases hn _ hf with h9 | h9
  ·exact hg h9
  ·omega
 refine ⟨T', ⟨h1, fun g hg => ?_, hm.blk h.geo h.ng, key h.geo.lt h.ng, hm.blk h.ptr h.n1, key h.ptr.lt h.n1, hm.blk h.pl h.n2, key h.pl.lt h.n2, h.bel.trans (hm.toBelow h.fr h.bel.size)⟩, hm, hn⟩
 rcases hn g hg with h9 | h9
 ·exact h.fr g h9
 ·exact Nat.le_trans h.bel.size h9
theorem DiS.put1 (h : DiS w geo sb bb V dn S T gp pp p q wr) (hp : w.heap.size < pp ∧ gp < pp) (j : Nat) (hj : j < 2) (z : Int) : DiS w geo sb bb V dn S T gp pp p (if j = 0 then (z, q.2) else (q.1, z)) (wr.setCell ⟨pp, j, none⟩ (.int .i64 z)) := by
 refine ⟨h.is.other h.pl (by unfold BookTy; decide) h.n2 (setCells_grown pp [.int .i64 z] wr j), h.fr, h.geo.other (a := ⟨pp, j, none⟩) (by show w.heap.size ≠ pp; omega) _, h.ng, h.ptr.other (a := ⟨pp, j, none⟩) (by show gp ≠ pp; omega) _, h.n1, ?_, h.n2, h.bel.setCell (by show w.heap.size ≤ pp; omega) _⟩
 have h9 := h.pl.setCell j (.int .i64 z)
 rcases (by omega : j = 0 ∨ j = 1) with rfl | rfl
 ·exact h9
 ·exact h9
end
end Go.Proofs.YtfaemcfjbbbbdaaGreat
namespace Go.Proofs.YtfaemcfjbbbbdaaGreat
open Go.RowKit
attribute [local go_sem ↓] wp_loadPt wp_storePt wp_buildPS
theorem sum_range {W : World} {g e : Nat} {p : PtrT} {t : Bs} (h : Blk W g e (encPtr p)) (hs : p.sumIs t = true) : W.rangeAt g 8 (encSm (sumF t)) := by
 unfold PtrT.sumIs at hs
 rw [decide_eq_true_eq] at hs
 obtain ⟨e1, e2, e3, e4⟩ := hs
 intro j v hv
 rw [h.cell]
 have hj : j < 4 := by have := (List.getElem?_eq_some_iff.1 hv).1; exact this
 rcases (by omega : j = 0 ∨ j = 1 ∨ j = 2 ∨ j = 3) with rfl | rfl | rfl | rfl
 ·show some (Value.int .u64 p.s0) = some v
  rw [e1]; exact hv
 ·show some (Value.int .u64 p.s1) = some v
  rw [e2]; exact hv
 ·show some (Value.int .u64 p.s2) = some v
  rw [e3]; exact hv
 ·show some (Value.int .u64 p.s3) = some v
  rw [e4]; exact hv
theorem run_eqSm (x : Nat × Nat × Nat × Nat) (W : World) : (Op.equalIn 10000 47 (.agg (encSm x).toArray) (.agg (encSm x).toArray)).run Tryz.prog W = .ok true W := by
 have h := run_eq_arr4 (x.1 : Nat) (x.2.1 : Nat) (x.2.2.1 : Nat) (x.2.2.2 : Nat) (x.1 : Nat) (x.2.1 : Nat) (x.2.2.1 : Nat) (x.2.2.2 : Nat) W
 rw [decide_eq_true ⟨rfl, rfl, rfl, rfl⟩] at h
 exact h
end Go.Proofs.YtfaemcfjbbbbdaaGreat
namespace Go.Proofs.YtfaemcfjbbbbdaaGreat
open Go.RowKit
attribute [local go_sem ↓] wp_loadPt wp_storePt
set_option maxHeartbeats 3200000 in
set_option maxRecDepth 100000 in
theorem ditto_law (ga : Option Addr) (n gc : Nat) (gs : Gs) (secs : Int) (w : World) (h : GSl w ga n gc gs) (s : Bs) (hsl : s.length ≤ 9223372036854775807) (first : Bool) (b : UInt8) :
  Calls Tryz.prog 5 #[.agg #[.slice ga n gc, .int .i64 secs], .string ⟨s.toArray⟩, .bool first, .int .u8 b.toNat] w fun e w' => e = .returned (.bool true) ∧ Below w.heap.size w w' := by
 have hnmx : n ≤ maxLen := h.mx
 have hsz : (⟨s.toArray⟩ : ByteArray).size = s.length := by simp [ByteArray.size]
 obtain ⟨w0, hw0⟩ : ∃ w0, w0 = w.alloc (.cells #[.slice ga n gc, .int .i64 secs] 24) := ⟨_, rfl⟩
 have hb0 : Below w.heap.size w w0 := by rw [hw0]; exact (Below.refl _ _).alloc (Nat.le_refl _) _
 have hg0 : Blk w0 w.heap.size 24 [.slice ga n gc, .int .i64 secs] := by rw [hw0]; exact Blk.new w _ _
 have hs0 : w0.heap.size = w.heap.size + 1 := by rw [hw0]; simp
 have HAW := Lib.hid awake15_any
 have HMN : Hid (devOk gs secs = false → ∀ W, Below w.heap.size w W → Calls Tryz.prog 10 #[.agg #[.slice ga n gc, .int .i64 secs], .slice none 0 0, .slice none 0 0, .int .i64 2, .int .i64 0] W fun e w' => e = .returned (.tuple #[.pointer none, .bool false]) ∧ Below W.heap.size W w') := Lib.hid (fun hok W hW => made_no _ _ gc gs secs W (h.below hW) _ _ 2 0 hok (by unfold maxLen at hnmx; omega))
 have HMY : Hid (devOk gs secs = true → ∀ W, Below w.heap.size w W → Calls Tryz.prog 10 #[.agg #[.slice ga n gc, .int .i64 secs], .slice none 0 0, .slice none 0 0, .int .i64 2, .int .i64 0] W fun e w' => ∃ sb bb V T S, e = .returned (.tuple #[.pointer (some ⟨sb, 0, none⟩), .bool true]) ∧ IsSto w' sb S V bb none T ∧ Bk S [] [] 0 ∧ (S.x.gs = gs ∧ S.x.secs = secs ∧ ∀ d, d < S.x.ds.length → S.x.here d = true) ∧ (∀ g, T g → W.heap.size ≤ g) ∧ Below W.heap.size W w') := Lib.hid (fun hok W hW => (made_yes _ _ gc gs secs W (h.below hW) none 0 0 [] (bsl_nil _) none 0 0 [] (bsl_nil _) 2 0 hok).mono (fun e w' hh => by
  obtain ⟨sb, bb, V, T, sn, r1, r2, r3, r4, r5, r6⟩ := hh
  have hr : rightB gs secs = true := by unfold devOk at hok; rw [Bool.and_eq_true] at hok; exact hok.1
  exact ⟨sb, bb, V, T, _, r1, r2, ⟨newSt_ok hr (out_nil gs) r3 r4, rfl, rfl, (fun i hi => absurd hi (by simp)), rfl, rfl⟩, ⟨rfl, rfl, new_here⟩, r5, r6⟩))
 have HG := Lib.hid h
 have HB0 := Lib.hid hb0
 have HG0 := Lib.hid hg0
 have HSL := Lib.hid hsl
 obtain ⟨dk, hdk⟩ : ∃ dk, dk = devOk gs secs := ⟨_, rfl⟩
 rw [← hdk] at HMN HMY
 clear h hb0 hg0 hnmx hdk
 go_enter Tryz.func5, Tryz.ntmps5
 go_upto_region 1 with fail
 rw [← hw0]
 clear hw0
 by_cases hlen : 1000 < s.length
 ·have q1 : (1000 : Int) < (s.length : Int) := by omega
  go_wp2_with fail
  refine (HAW.out w0).mono ?_
  rintro e w1 ⟨rfl, hb1⟩
  have HB1 : Hid (Below w.heap.size w w1) := Lib.hid (HB0.out.trans (hb1.mono (by omega)))
  have hs1 : w.heap.size + 1 ≤ w1.heap.size := by have := hb1.size; omega
  clear hb1 HB0 HG0
  go_wp2_with fail
  refine (HAW.out w1).mono ?_
  rintro e w2 ⟨rfl, hb2⟩
  have HB2 : Hid (Below w.heap.size w w2) := Lib.hid (HB1.out.trans (hb2.mono (by omega)))
  clear hb2
  go_wp2_with fail
  go_ret
  exact ⟨rfl, HB2.out⟩
 ·have q1 : ¬ (1000 : Int) < (s.length : Int) := by omega
  by_cases hbz : b = 0
  ·subst hbz
   have q2 : (((0 : UInt8).toNat : Nat) : Int) = 0 := rfl
   go_wp2_with fail
   refine (HAW.out w0).mono ?_
   rintro e w1 ⟨rfl, hb1⟩
   have HB1 : Hid (Below w.heap.size w w1) := Lib.hid (HB0.out.trans (hb1.mono (by omega)))
   have hs1 : w.heap.size + 1 ≤ w1.heap.size := by have := hb1.size; omega
   clear hb1 HB0 HG0
   go_wp2_with fail
   refine (HAW.out w1).mono ?_
   rintro e w2 ⟨rfl, hb2⟩
   have HB2 : Hid (Below w.heap.size w w2) := Lib.hid (HB1.out.trans (hb2.mono (by omega)))
   clear hb2
   go_wp2_with fail
   go_ret
   exact ⟨rfl, HB2.out⟩
  ·have q2 : ¬ ((b.toNat : Nat) : Int) = 0 := fun e => hbz (by apply UInt8.toNat_inj.1; show b.toNat = 0; omega)
   have q3 : (((b.toNat : Nat) : Int) == 0) = false := by simpa using q2
   have q4 : ¬ b.toNat = 0 := by omega
   have HBZ := Lib.hid hbz
   clear hbz
   go_wp2_with fail
   refine (HAW.out w0).mono ?_
   rintro e w1 ⟨rfl, hb1⟩
   have HB1 : Hid (Below w.heap.size w w1) := Lib.hid (HB0.out.trans (hb1.mono (by omega)))
   have HG1 := Lib.hid (HG0.out.below hb1)
   have hs1 : w.heap.size + 1 ≤ w1.heap.size := by have := hb1.size; omega
   clear hb1 HB0 HG0 HAW
   have c0 := HG1.out.cell 0
   have c1 := HG1.out.cell 1
   cases dk with
   | false =>
    go_wp2_with fail
    refine (HMN.out (by first | trivial | rfl) w1 HB1.out).mono ?_
    rintro e w6 ⟨rfl, hb6⟩
    have HB6 : Hid (Below w.heap.size w w6) := Lib.hid (HB1.out.trans (hb6.mono (by omega)))
    clear hb6
    go_wp2_with fail
    go_ret
    exact ⟨rfl, HB6.out⟩
   | true =>
    go_wp2_with fail
    refine (HMY.out (by first | trivial | rfl) w1 HB1.out).mono ?_
    rintro e w6 ⟨sb, bb, V, T, S, rfl, hst, hbk, hsg, htf, hb6⟩
    have HST := Lib.hid hst
    have HBK := Lib.hid hbk
    have HSG := Lib.hid hsg
    have HTF : Hid (∀ g, T g → w1.heap.size ≤ g) := Lib.hid htf
    have HB6 : Hid (Below w.heap.size w w6) := Lib.hid (HB1.out.trans (hb6.mono (by omega)))
    have HG6 := Lib.hid (HG1.out.below hb6)
    have HS1 := Lib.hid hs1
    have HPD := Lib.hid (di_put hbk hsg.2.2 true s 0)
    clear hst hbk hsg htf hb6 HMN HMY c0 c1 HB1 HG1
    go_wp2_with fail
    refine (as_any HST.out true).mono ?_
    rintro e w7 ⟨d, sb2, T1, rfl, h7, hm7, hn7, hB7, hs7, hns7⟩
    have HB7 : Hid (Below w.heap.size w w7) := Lib.hid (HB6.out.trans (hm7.toBelow (fun g hg => by have := HTF.out g hg; have := HS1.out; omega) HB6.out.size))
    have HNG : ¬ T w.heap.size := fun hf => by have := HTF.out _ hf; have := HS1.out; omega
    have HG7 := Lib.hid (hm7.blk HG6.out HNG)
    have HF7 : Hid (∀ g, T1 g → w.heap.size + 1 ≤ g) := Lib.hid (fun g hg => by
     rcases hn7 g hg with h9 | h9
     ·have := HTF.out g h9; have := HS1.out; omega
     ·have := HG6.out.lt; omega)
    have hne : sb2 ≠ sb := fun e => by subst e; exact hns7 h7.self
    have HPL := Lib.hid (asput h7 hB7 hne HBK.out.ok (by omega) (by rw [HBK.out.kp]; omega) (by rw [HBK.out.born]; show (0 : Nat) ≤ _; omega) s 0 (by omega))
    have HS2 : Hid (w.heap.size + 1 ≤ sb2) := Lib.hid (by have := HG6.out.lt; omega)
    clear h7 hm7 hn7 hB7 hs7 hns7 HNG hne HST HG6 HB6 HTF
    go_wp2_with fail
    refine HPL.out.mono ?_
    rintro e w8 ⟨rfl, T2, h8, hm8, hn8⟩
    have HB8 : Hid (Below w.heap.size w w8) := Lib.hid (HB7.out.trans (hm8.toBelow (fun g hg => by rcases hg with h9 | h9; have := HF7.out g h9; omega; have := HS2.out; omega) HB7.out.size))
    have HG8 := Lib.hid (hm8.blk HG7.out (fun hf => by rcases hf with h9 | h9; have := HF7.out _ h9; omega; have := HS2.out; omega))
    have HF8 : Hid (∀ g, T2 g → w.heap.size + 1 ≤ g) := Lib.hid (fun g hg => by
     rcases hn8 g hg with h9 | h9 | h9
     ·exact HF7.out g h9
     ·have := HS2.out; omega
     ·have := HG7.out.lt; omega)
    have HI8 := Lib.hid h8
    obtain ⟨R, hR⟩ : ∃ R, R = putR { S with mt := true } s 0 := ⟨_, rfl⟩
    rw [← hR] at HPD HI8 ⊢
    clear hR h8 hm8 hn8 HPL HG7 HB7 HF7 HS2
    obtain ⟨⟨pa, pb, pc, pd, tw, ps, plv, pbi, p0, p1, p2, p3⟩, hP⟩ : ∃ P, P = R.p := ⟨_, rfl⟩
    rw [← hP] at HPD ⊢
    clear hP
    obtain ⟨er, hE⟩ : ∃ er, er = R.err := ⟨_, rfl⟩
    rw [← hE] at HPD ⊢
    clear hE
    go_upto_region 7 with fail
    rw [store_newPt]
    obtain ⟨w9, hw9⟩ : ∃ w9, w9 = w8.alloc (.cells (encPtr ⟨pa, pb, pc, pd, tw, ps, plv, pbi, p0, p1, p2, p3⟩).toArray 49) := ⟨_, rfl⟩
    obtain ⟨gp, hgp⟩ : ∃ gp, gp = w8.heap.size := ⟨_, rfl⟩
    have hb9 : Below w8.heap.size w8 w9 := by rw [hw9]; exact (Below.refl _ _).alloc (Nat.le_refl _) _
    have HP9 : Hid (Blk w9 gp 49 (encPtr ⟨pa, pb, pc, pd, tw, ps, plv, pbi, p0, p1, p2, p3⟩)) := Lib.hid (by rw [hw9, hgp]; exact Blk.new w8 _ _)
    have HI9 := Lib.hid (HI8.out.below hb9)
    have HB9 : Hid (Below w.heap.size w w9) := Lib.hid (HB8.out.trans (hb9.mono HB8.out.size))
    have HG9 := Lib.hid (HG8.out.below hb9)
    have HN9 : Hid (¬ T2 gp) := Lib.hid (fun hf => by have := HI8.out.lt _ hf; omega)
    have HL9 : Hid (w.heap.size < gp) := Lib.hid (by have := HG8.out.lt; omega)
    rw [← hw9, ← hgp]
    clear hw9 hgp hb9 HI8 HB8 HG8
    have c2 : w9.cell? ⟨gp, 2, none⟩ = some (.int .i64 pc) := HP9.out.cell 2
    have c3 : w9.cell? ⟨gp, 3, none⟩ = some (.int .i64 pd) := HP9.out.cell 3
    have c4 : w9.cell? ⟨gp, 4, none⟩ = some (.bool tw) := HP9.out.cell 4
    rcases HPD.out with he | ⟨he, hdi, hg1, hg2⟩
    ·have q5 : ¬ ((er : Nat) : Int) = 0 := by omega
     have q6 : (((er : Nat) : Int) != 0) = true := by simpa using q5
     go_wp2_with fail
     go_ret
     exact ⟨rfl, HB9.out⟩
    ·subst he
     cases tw with
     | false =>
      go_wp2_with fail
      go_ret
      exact ⟨rfl, HB9.out⟩
     | true =>
      obtain ⟨S1, hS1⟩ : ∃ S1, S1 = { R.s with mt := S.mt } := ⟨_, rfl⟩
      have HGS : Hid (S1.x.gs = gs ∧ S1.x.secs = secs) := Lib.hid (by rw [hS1]; exact ⟨hg1.trans HSG.out.1, hg2.trans HSG.out.2.1⟩)
      rw [← hS1] at hdi HI9
      have HDI := Lib.hid hdi
      clear hdi HPD hg1 hg2 hS1 HSG
      go_upto_region 10 with fail
      obtain ⟨w10, hw10⟩ : ∃ w10, w10 = w9.alloc (.cells #[.int .i64 pc, .int .i64 pd] 44) := ⟨_, rfl⟩
      obtain ⟨pp, hpp⟩ : ∃ pp, pp = w9.heap.size := ⟨_, rfl⟩
      have hb10 : Below w9.heap.size w9 w10 := by rw [hw10]; exact (Below.refl _ _).alloc (Nat.le_refl _) _
      have HL10 : Hid (Blk w10 pp 44 [.int .i64 pc, .int .i64 pd]) := Lib.hid (by rw [hw10, hpp]; exact Blk.new w9 _ _)
      have HI10 := Lib.hid (HI9.out.below hb10)
      have HB10 : Hid (Below w.heap.size w w10) := Lib.hid (HB9.out.trans (hb10.mono HB9.out.size))
      have HG10 := Lib.hid (HG9.out.below hb10)
      have HP10 := Lib.hid (HP9.out.below hb10)
      have HM10 : Hid (¬ T2 pp) := Lib.hid (fun hf => by have := HI9.out.lt _ hf; omega)
      have HL11 : Hid (w.heap.size < pp ∧ gp < pp) := Lib.hid (by have := HG9.out.lt; have := HP9.out.lt; omega)
      rw [← hw10, ← hpp]
      clear hw10 hpp hb10 HI9 HB9 HG9 HP9 c2 c3 c4
      have c0 : w10.cell? ⟨gp, 0, none⟩ = some (.int .i64 pa) := HP10.out.cell 0
      have c1 : w10.cell? ⟨gp, 1, none⟩ = some (.int .i64 pb) := HP10.out.cell 1
      have d0 : w10.cell? ⟨pp, 0, none⟩ = some (.int .i64 pc) := HL10.out.cell 0
      have d1 : w10.cell? ⟨pp, 1, none⟩ = some (.int .i64 pd) := HL10.out.cell 1
      have HD : Hid (DiS w [.slice ga n gc, .int .i64 secs] sb bb V (some d) S1 T2 gp pp ⟨pa, pb, pc, pd, true, ps, plv, pbi, p0, p1, p2, p3⟩ (pc, pd) w10) := Lib.hid ⟨HI10.out, (fun g hg => by have := HF8.out g hg; omega), HG10.out, (fun hf => by have := HF8.out _ hf; omega), HP10.out, HN9.out, HL10.out, HM10.out, HB10.out⟩
      have HD1 := Lib.hid ((HD.out.put1 HL11.out 0 (by omega) pa).put1 HL11.out 1 (by omega) pb)
      have e0 := HL10.out.frozen 0
      have hx := HL10.out.setCell 0 (.int .i64 pa)
      have e1 : (w10.setCell ⟨pp, 0, none⟩ (.int .i64 pa)).frozen? ⟨pp, 1, none⟩ = false := hx.frozen 1
      have e2 : (w10.setCell ⟨pp, 0, none⟩ (.int .i64 pa)).cell? ⟨pp, 1, none⟩ = some (.int .i64 pd) := hx.cell 1
      clear hx HI10 HG10 HP10 HL10 HM10 HB10 HF8 HN9
      have HDF : Hid (DiS w [.slice ga n gc, .int .i64 secs] sb bb V (some d) S1 T2 gp pp ⟨pa, pb, pc, pd, true, ps, plv, pbi, p0, p1, p2, p3⟩ (plF ⟨pa, pb, pc, pd, true, ps, plv, pbi, p0, p1, p2, p3⟩ false) w10) := HD
      have HDT : Hid (DiS w [.slice ga n gc, .int .i64 secs] sb bb V (some d) S1 T2 gp pp ⟨pa, pb, pc, pd, true, ps, plv, pbi, p0, p1, p2, p3⟩ (plF ⟨pa, pb, pc, pd, true, ps, plv, pbi, p0, p1, p2, p3⟩ true) ((w10.setCell ⟨pp, 0, none⟩ (.int .i64 pa)).setCell ⟨pp, 1, none⟩ (.int .i64 pb))) := HD1
      clear HD HD1
      go_upto_if 56 with fail
      go_cut [] from 57 (fun wx => ∃ fi, Hid (DiS w [.slice ga n gc, .int .i64 secs] sb bb V (some d) S1 T2 gp pp ⟨pa, pb, pc, pd, true, ps, plv, pbi, p0, p1, p2, p3⟩ (plF ⟨pa, pb, pc, pd, true, ps, plv, pbi, p0, p1, p2, p3⟩ fi) wx))
      case first =>
       cases first with
       | true =>
        go_wp2_with fail
        go_meet
        case rel => exact ⟨true, HDT⟩
       | false =>
        go_wp2_with fail
        go_meet
        case rel => exact ⟨false, HDF⟩
      case rest =>
       obtain ⟨fi, HQ⟩ := hcut
       obtain ⟨P, hP⟩ : ∃ P, P = (⟨pa, pb, pc, pd, true, ps, plv, pbi, p0, p1, p2, p3⟩ : PtrT) := ⟨_, rfl⟩
       have hP2 : P.two = true := by rw [hP]
       rw [← hP] at HQ HDI ⊢
       clear hP c0 c1 d0 d1 e0 e1 e2 HDF HDT
       obtain ⟨wq, hwq⟩ : ∃ wq, wq = wc := ⟨_, rfl⟩
       rw [← hwq] at HQ ⊢
       clear hwq
       go_upto_region 12 with fail
       obtain ⟨g, a, sz, hq, hz⟩ : ∃ g a sz : Nat, plF P fi = ((g : Int), (a : Int)) ∧ P.size = (sz : Int) := by
        have h9 := plL_ok HDI.out.wh.right _ (plF_mem hP2 fi)
        exact ⟨(plF P fi).1.toNat, (plF P fi).2.toNat, s.length / 64, by rw [Int.toNat_of_nonneg h9.g, Int.toNat_of_nonneg h9.a], HDI.out.wh.size⟩
       have hm : mayC S1.x.gs S1.x.secs (g : Nat) (a : Nat) (sz : Nat) = true := by
        have h9 := (plL_ok HDI.out.wh.right _ (plF_mem hP2 fi)).may
        rw [hq, hz] at h9
        exact h9
       obtain ⟨L, hL⟩ : ∃ L, L = colsL S1.x.gs g a sz := ⟨_, rfl⟩
       obtain ⟨N, hN⟩ : ∃ N, N = L.length := ⟨_, rfl⟩
       have HCP : Hid (colsP S1.x P ((g : Int), (a : Int)) = L) := Lib.hid (by unfold colsP; rw [hz, hL]; rfl)
       have HN1 : 1 ≤ N ∧ N ≤ 32 := by rw [hN, hL]; exact colsL_len hm
       have HRAW : Hid (∀ W, IsSto W sb S1 V bb (some d) T2 → Calls Tryz.prog 24 #[.agg ([V.g, .int .i64 S1.x.secs, V.l, V.a]).toArray, .agg #[.int .i64 (g : Nat), .int .i64 (a : Nat)], .int .i64 (sz : Nat)] W fun e w' => ∃ ro rc, e = .returned (.tuple #[.slice ro N rc, .int .i64 0]) ∧ Below W.heap.size W w') := Lib.hid (fun W hW => by
        obtain ⟨F, hd, _, _⟩ := hW.dvs
        refine (raw_any hd HDI.out.one.right g a sz hm).mono ?_
        rintro e w' ⟨v, rfl, hrow, hb⟩
        obtain ⟨ro, rc, rfl⟩ := own_form hrow
        exact ⟨ro, rc, by rw [hN, hL], hb⟩)
       have HCO : Hid (∀ W, Below w.heap.size w W → Calls Tryz.prog 25 #[.agg #[.slice ga n gc, .int .i64 secs], .agg #[.int .i64 (g : Nat), .int .i64 (a : Nat)], .int .i64 (sz : Nat)] W fun e w' => ∃ cb cc, e = .returned (.tuple #[.slice (some ⟨cb, 0, none⟩) N cc, .int .i64 0]) ∧ w'.ownsRow W.heap.size 78 4 (.slice (some ⟨cb, 0, none⟩) N cc) N (encC L) ∧ Below W.heap.size W w') := Lib.hid (fun W hW => by
        have hm2 := hm
        rw [HGS.out.1, HGS.out.2] at hm2
        refine (cof_yes _ _ _ gs secs g a sz W (HG.out.below hW) hm2).mono ?_
        rintro e w' ⟨v, rfl, hrow, hb⟩
        rw [← HGS.out.1, ← hL, ← hN] at hrow
        obtain ⟨cb, cc, rfl⟩ := own_form1 hrow (by omega)
        exact ⟨cb, cc, rfl, hrow, hb⟩)
       have HM := Lib.hid hm
       have HZ := Lib.hid hz
       have HNL := Lib.hid hN
       have HQF : Hid (((g : Int), (a : Int)) = plF P fi) := Lib.hid hq.symm
       rw [hq] at HQ
       clear hq hz hL hN hm
       have hS0 : DiS w [.slice ga n gc, .int .i64 secs] sb bb V (some d) S1 T2 gp pp P ((g : Int), (a : Int)) wq.drew := HQ.out.below (Below.refl _ _).drew
       refine wp_region_held_drew (S := fun W => DiS w [.slice ga n gc, .int .i64 secs] sb bb V (some d) S1 T2 gp pp P ((g : Int), (a : Int)) W) (by kernel_rfl) hS0 (fun hS0 => ?_)
       refine rtd 0 ?_; refine rtd 1 ?_; refine rtd 2 ?_
       refine rtg 3 ?vk3 ?yk3 ?_
       case yk3 => refine yieldsIf_load_mid (by kernel_rfl) 37 (.tmp 62) ?_ sb (0) ?_ ([V.g, .int .i64 S1.x.secs, V.l, V.a]) _ (fun w' (hw : DiS _ _ _ _ _ _ _ _ _ _ _ ((g : Int), (a : Int)) w') => range_preS (cs := [V.g, .int .i64 S1.x.secs, V.l, V.a]) hw.is.cells) Tryz.underlying37 rfl iszDsM <;> rfl
       refine rtg 4 ?vk4 ?yk4 ?_
       case yk4 => refine yieldsIf_load_mid (by kernel_rfl) 44 (.tmp 13) ?_ pp (0) ?_ ([.int .i64 (g : Nat), .int .i64 (a : Nat)]) _ (fun w' (hw : DiS _ _ _ _ _ _ _ _ _ _ _ ((g : Int), (a : Int)) w') => range0M hw.pl) Tryz.underlying44 rfl iszPlM <;> rfl
       refine rtd 5 ?_
       refine rtv (i := 6) (v := ?vk6) (hy := ?yk6) (h := ?_)
       case yk6 => intro w hSw; (try dsimp only at hSw); go_simp; rw [show World.cell? _ ⟨gp, 5, none⟩ = some (.int .i64 (sz : Nat)) from by rw [← HZ.out]; exact (DiS.ptr hSw).cell 5]; rfl
       try simp only [Act.put, z1, z2, z3]
       refine rr1 (i := 7) (h := fun K hK => ?_)
       go_simp
       refine (HRAW.out _ hS0.is).mono ?_
       rintro e w12 ⟨ro, rc, rfl, hb12⟩
       have HQ12 := Lib.hid (hS0.below hb12)
       clear hb12
       try dsimp only
       refine hK.out _ _ (HQ12.out) (fun hSk7 => ?_)
       try simp only [Act.put, z1, z2, z3]
       refine rtd 8 ?_; refine rtd 9 ?_; refine rtd 10 ?_; refine rtd 11 ?_; refine rtd 12 ?_
       refine wpAnyH_done (by kernel_rfl) ?_ _
       have g0 : w12.cell? ⟨w.heap.size, 0, none⟩ = some (.slice ga n gc) := HQ12.out.geo.cell 0
       have g1 : w12.cell? ⟨w.heap.size, 1, none⟩ = some (.int .i64 secs) := HQ12.out.geo.cell 1
       have l0 : w12.cell? ⟨pp, 0, none⟩ = some (.int .i64 (g : Nat)) := HQ12.out.pl.cell 0
       have l1 : w12.cell? ⟨pp, 1, none⟩ = some (.int .i64 (a : Nat)) := HQ12.out.pl.cell 1
       have z5 : w12.cell? ⟨gp, 5, none⟩ = some (.int .i64 (sz : Nat)) := by rw [← HZ.out]; exact HQ12.out.ptr.cell 5
       clear HRAW HQ hS0
       go_wp2_with fail
       refine (HCO.out w12 HQ12.out.bel).mono ?_
       rintro e w13 ⟨cb, cc, rfl, hrow, hb13⟩
       have HR13 : Hid (w13.ownsRow w.heap.size 78 4 (.slice (some ⟨cb, 0, none⟩) N cc) N (encC L)) := Lib.hid (owns_weaken hrow HQ12.out.bel.size)
       have HC13 : Hid (¬ T2 cb) := Lib.hid (fun hf => by have := HQ12.out.is.lt _ hf; have := (hrow.lt cb rfl).1; omega)
       have HQ13 := Lib.hid (HQ12.out.below hb13)
       clear hrow hb13 HCO HQ12 g0 g1 l0 l1 z5
       go_wp2_with fail
       go_loopw [18] (fun vi wr => ∃ (k : Nat) (T : Nat → Prop) (dn : Option Nat), k ≤ N ∧ vi = .int .i64 (k : Nat) ∧ Hid (DiS w [.slice ga n gc, .int .i64 secs] sb bb V dn { S1 with x := spoilP S1.x P ((g : Int), (a : Int)) b k } T gp pp P ((g : Int), (a : Int)) wr) ∧ Hid (wr.ownsRow w.heap.size 78 4 (.slice (some ⟨cb, 0, none⟩) N cc) N (encC L)) ∧ Hid (¬ T cb)) (fun vi _ => N - (intOf vi).toNat)
       case atStart => exact ⟨0, T2, some d, by omega, rfl, HQ13, HR13, HC13⟩
       case round =>
        clear HQ13 HR13 HC13
        obtain ⟨k, T3, dn3, hk, rfl, HQk, HRk, HCk⟩ := hrel
        by_cases hkn : k < N
        ·have q5 : (k : Int) < (N : Int) := by omega
         have q0 : 0 ≤ (k : Int) := by omega
         have hq2 : ((g : Int), (a : Int)) ∈ plL P := by rw [HQF.out]; exact plF_mem hP2 fi
         have hmy := spoilP_may HDI.out.one.right HDI.out.wh HDI.out.hh hq2 b (k := k) (by rw [HCP.out, ← HNL.out]; exact hkn)
         rw [HCP.out] at hmy
         obtain ⟨hr0, hr1⟩ := col_at HRk.out HNL.out hkn
         have HX : Hid (spoilX (spoilP S1.x P ((g : Int), (a : Int)) b k) (L.getD k cD) k b = spoilP S1.x P ((g : Int), (a : Int)) b (k + 1)) := Lib.hid (by rw [← HCP.out]; rfl)
         have HQd := Lib.hid (HQk.out.below (Below.refl _ _).drew)
         have HRd := Lib.hid HRk.out.drew
         obtain ⟨bl, cl, db, e1, e2, e3⟩ := sspoil_any HQd.out.is (c := L.getD k cD) hmy.1 k b HBZ.out hmy.2.1 hmy.2.2 (by omega)
         obtain ⟨nd, hnd⟩ : ∃ nd, nd = (spoilP S1.x P ((g : Int), (a : Int)) b k).ds.length := ⟨_, rfl⟩
         have e1' : V.l = .slice (some ⟨bl, 0, none⟩) nd cl := by rw [hnd]; exact e1
         have q6 : (((L.getD k cD).1 : Nat) : Int) < (nd : Int) := by have := hmy.1; omega
         have q7 : 0 ≤ (((L.getD k cD).1 : Nat) : Int) := by omega
         have hv2 : wr.drew.cell? ⟨sb, 2, none⟩ = some (.slice (some ⟨bl, 0, none⟩) nd cl) := by rw [← e1']; exact HQd.out.is.cells.cell 2
         have HE1 := Lib.hid e1'
         have HKN := Lib.hid hkn
         obtain ⟨c1, hc1⟩ : ∃ c1, c1 = (L.getD k cD).1 := ⟨_, rfl⟩
         obtain ⟨c2, hc2⟩ : ∃ c2, c2 = (L.getD k cD).2.1 := ⟨_, rfl⟩
         have HC1 := Lib.hid hc1
         have HC2 := Lib.hid hc2
         rw [← hc1] at e2 hr0 q6 q7 e3
         rw [← hc2] at hr1 e3
         have HSP := Lib.hid e3
         have hS1 : wr.drew.cell? ⟨sb, 2, none⟩ = some (.slice (some ⟨bl, 0, none⟩) nd cl) ∧ wr.drew.cell? ⟨cb, k * 4, none⟩ = some (.int .i64 (c1 : Nat)) ∧ wr.drew.cell? ⟨cb, k * 4 + 1, none⟩ = some (.int .i64 (c2 : Nat)) ∧ wr.drew.cell? ⟨bl, c1, none⟩ = some (.pointer (some ⟨db, 0, none⟩)) := ⟨hv2, hr0, hr1, e2⟩
         clear hmy e1 e1' e2 e3 hv2 hr0 hr1 hq2 hnd hc1 hc2
         go_upto_region 17 with fail
         refine wp_region_held_drew (S := fun W => W.cell? ⟨sb, 2, none⟩ = some (.slice (some ⟨bl, 0, none⟩) nd cl) ∧ W.cell? ⟨cb, k * 4, none⟩ = some (.int .i64 (c1 : Nat)) ∧ W.cell? ⟨cb, k * 4 + 1, none⟩ = some (.int .i64 (c2 : Nat)) ∧ W.cell? ⟨bl, c1, none⟩ = some (.pointer (some ⟨db, 0, none⟩))) (by kernel_rfl) hS1 (fun hS1 => ?_)
         refine rtd 0 ?_; refine rtd 1 ?_; refine rtd 2 ?_; refine rtd 3 ?_; refine rtd 4 ?_; refine rtd 5 ?_; refine rtd 6 ?_; refine rtd 7 ?_; refine rtd 8 ?_; refine rtd 9 ?_; refine rtd 10 ?_; refine rtd 11 ?_
         refine rtd 12 ?_; refine rtd 13 ?_; refine rtd 14 ?_; refine rtd 15 ?_; refine rtd 16 ?_; refine rtd 17 ?_; refine rtd 18 ?_
         refine rr1 (i := 19) (h := fun K hK => ?_)
         go_simp
         refine HSP.out.mono ?_
         rintro e w20 ⟨⟨vv, rfl⟩, hstep, hcell⟩
         obtain ⟨T4, hQ4, hm4, hn4⟩ := HQd.out.step hstep
         have hR4 := own_keep HRd.out (fun g' hg' => hm4.block g' (HRd.out.lt g' hg').2 (by
          obtain rfl : cb = g' := by simpa [Value.ownBlock] using hg'
          exact HCk.out))
         have HC4 : Hid (¬ T4 cb) := Lib.hid (fun hf => by
          rcases hn4 _ hf with h9 | h9
          ·exact HCk.out h9
          ·have := (HRd.out.lt cb rfl).2; omega)
         rw [HX.out] at hQ4
         have HQ4 := Lib.hid hQ4
         have HR4 := Lib.hid hR4
         have HCE : Hid (w20.cell? ⟨sb, 2, none⟩ = some (.slice (some ⟨bl, 0, none⟩) nd cl) ∧ w20.cell? ⟨cb, k * 4, none⟩ = some (.int .i64 (c1 : Nat)) ∧ w20.cell? ⟨cb, k * 4 + 1, none⟩ = some (.int .i64 (c2 : Nat)) ∧ w20.cell? ⟨bl, c1, none⟩ = some (.pointer (some ⟨db, 0, none⟩))) := Lib.hid (by
          obtain ⟨h1, h2⟩ := col_at HR4.out HNL.out HKN.out
          rw [← HC1.out] at h1
          rw [← HC2.out] at h2
          exact ⟨by rw [← HE1.out]; exact HQ4.out.is.cells.cell 2, h1, h2, by rw [HC1.out] at hcell ⊢; exact hcell⟩)
         clear hstep hcell hQ4 hR4 hm4 hn4 HSP HQd HRd
         try dsimp only
         refine hK.out _ _ (HCE.out) (fun hSm19 => ?_)
         try simp only [Act.put, z1, z2, z3]
         refine wpAnyH_done (by kernel_rfl) ?_ _
         go_wp2_with fail
         go_roundw
         case rel => exact ⟨k + 1, T4, dn3, by omega, by go_num, HQ4, HR4, HC4⟩
         case measure => simp [intOf]; omega
        ·have hkn' : k = N := by omega
         subst hkn'
         have q5 : ¬ (k : Int) < (k : Int) := by omega
         have hk2 : k = (colsP S1.x P (plF P fi)).length := by rw [← HQF.out, HCP.out]; exact HNL.out
         have his := HQk.out.is
         rw [HQF.out] at his
         obtain ⟨u, S2, hu1, hu2, hu3⟩ := di_get HDI.out hP2 fi b (by rw [← hk2]; exact his)
         have HGT := Lib.hid hu3
         have HU1 := Lib.hid hu1
         have HU2 := Lib.hid hu2
         have HR49 := Lib.hid (range0M HQk.out.ptr)
         clear hk2 his hu1 hu2 hu3
         go_upto_region 19 with fail
         rw [loadW_mid (cs := encPtr P) HR49.out Tryz.underlying49 rfl iszPt]
         go_wp2_with fail
         refine HGT.out.mono ?_
         rintro e w30 ⟨rfl, dn5, hst5⟩
         obtain ⟨T5, hQ5, _, _⟩ := HQk.out.step hst5
         have HQ5 := Lib.hid hQ5
         clear hst5 hQ5 HGT HR49 HQk HRk HCk
         have hS2 : Blk w30.drew gp 49 (encPtr P) := HQ5.out.ptr.drew
         have HB30 : Hid (Below w.heap.size w w30.drew) := Lib.hid HQ5.out.bel.drew
         go_upto_region 19 with fail
         by_cases hus : u = s
         ·subst hus
          refine wp_region_held_drew (S := fun W => Blk W gp 49 (encPtr P)) (by kernel_rfl) hS2 (fun hS2 => ?_)
          refine rtd 0 ?_
          refine rtv (i := 1) (v := ?vn1) (hy := ?yn1) (h := ?_)
          case yn1 => intro w hSw; (try dsimp only at hSw); go_simp; first | with_reducible rfl | simp
          try simp only [Act.put, z1, z2, z3]
          refine rtd 2 ?_; refine rtd 3 ?_; refine rtd 4 ?_
          refine rtv (i := 5) (v := ?vn5) (hy := ?yn5) (h := ?_)
          case yn5 => intro w hSw; (try dsimp only at hSw); go_simp; first | with_reducible rfl | simp
          try simp only [Act.put, z1, z2, z3]
          refine rtd 6 ?_; refine rtn 7 ?_; refine rtn 8 ?_; refine rtn 9 ?_; refine rtn 10 ?_; refine rtn 11 ?_
          refine rtv (i := 12) (v := ?vn12) (hy := ?yn12) (h := ?_)
          case yn12 => intro w hSw; (try dsimp only at hSw); go_simp; first | with_reducible rfl | simp
          try simp only [Act.put, z1, z2, z3]
          refine rtv (i := 13) (v := ?vn13) (hy := ?yn13) (h := ?_)
          case yn13 => intro w hSw; (try dsimp only at hSw); go_simp; first | with_reducible rfl | simp
          try simp only [Act.put, z1, z2, z3]
          refine rtd 14 ?_
          refine wpAnyH_done (by kernel_rfl) ?_ _
          go_wp2_with fail
          go_ret
          exact ⟨by first | rfl | simp, HB30.out⟩
         ·have hse : (u == s) = false := by simpa using hus
          refine wp_region_held_drew (S := fun W => Blk W gp 49 (encPtr P)) (by kernel_rfl) hS2 (fun hS2 => ?_)
          refine rtd 0 ?_
          refine rtv (i := 1) (v := ?vo1) (hy := ?yo1) (h := ?_)
          case yo1 => intro w hSw; (try dsimp only at hSw); go_simp; first | with_reducible rfl | simp
          try simp only [Act.put, z1, z2, z3]
          refine rtd 2 ?_; refine rtd 3 ?_; refine rtd 4 ?_
          refine rtv (i := 5) (v := ?vo5) (hy := ?yo5) (h := ?_)
          case yo5 => intro w hSw; (try dsimp only at hSw); go_simp; (try rw [hse]); with_reducible rfl
          try simp only [Act.put, z1, z2, z3]
          refine rtd 6 ?_; refine rtd 7 ?_; refine rtd 9 ?_
          refine rtg 10 ?vo10 ?yo10 ?_
          case yo10 => refine yieldsIf_load_mid (by kernel_rfl) 47 (.tmp 125) ?_ gp (8) ?_ (encSm (sumF u)) _ (fun w' (hw : Blk w' _ _ _) => sum_range hw HU1.out) Tryz.underlying47 rfl iszSm <;> rfl
          refine rr1 (i := 8) (h := fun K hK => ?_)
          go_simp
          refine (sum_any u (by have := HU2.out; omega) _).mono ?_
          rintro e w31 ⟨rfl, hb31⟩
          have HP31 := Lib.hid (hS2.below hb31)
          have HB31 : Hid (Below w.heap.size w w31) := Lib.hid (HB30.out.trans (hb31.mono HB30.out.size))
          clear hb31
          try dsimp only
          refine hK.out _ _ (HP31.out) (fun hSo8 => ?_)
          try simp only [Act.put, z1, z2, z3]
          refine rtv (i := 11) (v := ?vo11) (hy := ?yo11) (h := ?_)
          case yo11 => intro w hSw; (try dsimp only at hSw); go_simp; rw [run_eqSm]; rfl
          try simp only [Act.put, z1, z2, z3]
          refine rtv (i := 12) (v := ?vo12) (hy := ?yo12) (h := ?_)
          case yo12 => intro w hSw; (try dsimp only at hSw); go_simp; first | with_reducible rfl | simp
          try simp only [Act.put, z1, z2, z3]
          refine rtv (i := 13) (v := ?vo13) (hy := ?yo13) (h := ?_)
          case yo13 => intro w hSw; (try dsimp only at hSw); go_simp; first | with_reducible rfl | simp
          try simp only [Act.put, z1, z2, z3]
          refine rtd 14 ?_
          refine wpAnyH_done (by kernel_rfl) ?_ _
          go_wp2_with fail
          go_ret
          exact ⟨by first | rfl | simp, HB31.out⟩
end Go.Proofs.YtfaemcfjbbbbdaaGreat
