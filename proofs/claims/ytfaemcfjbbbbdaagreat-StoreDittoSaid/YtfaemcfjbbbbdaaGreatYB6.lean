/- Parts of the proof of the statement that the last file of this claim proves: lemmas, without any condition of their own beyond those that each states. -/
import Derived.Test.YtfaemcfjbbbbdaaGreatYB5
import Derived.Maps.AppendAt
set_option linter.unusedVariables false
set_option linter.unusedSimpArgs false
set_option linter.unnecessarySimpa false
namespace Go.Proofs.YtfaemcfjbbbbdaaGreat
open Go.RowKit
theorem wp_storeDs {dst : Option Tmp} {x y : Operand} {ty : TypeId} {pos : String} {after : Array Edge} {guard : Option (Nat × Bool)} {a : Act} {w : World} {next : Act → World → Prop} {Q : Exit → Act → World → Prop} :
  Oper.wp Tryz.prog ⟨dst, .store 37 x y, ty, pos, after, guard⟩ a w next Q = StoreW Tryz.prog ⟨dst, .store 37 x y, ty, pos, after, guard⟩ 37 (a.eval x) (a.eval y) a w next Q := rfl
attribute [local go_sem ↓] wp_loadCo wp_storeCo wp_loadDs wp_storeDs wp_loadGr wp_storeGr
theorem iszGe2 : (Tryz.prog.info? 24).map (·.size) = some 2 := by kernel_rfl
theorem infoB1 : (Tryz.prog.info? 4).map (fun i => (i.zero, i.size, i.bytes)) = some (some (.bool false), 1, 1) := by kernel_rfl
theorem infoPD : (Tryz.prog.info? 76).map (fun i => (i.zero, i.size, i.bytes)) = some (some (.pointer none), 1, 8) := by kernel_rfl
theorem make_bools (n : Nat) (hn : n ≤ 1000000) (w : World) : (Instr.makeSlice 29 (.int .i64 (n : Int)) (.int .i64 (n : Int))).run Tryz.prog w = .ok (.slice (some ⟨w.heap.size, 0, none⟩) n n) (w.alloc (.cells (boolsV (List.replicate n false)).toArray 4)) := by
 obtain ⟨i0, hi, hi0, hi1, hi2⟩ := info_parts infoB1
 have := run_make (P := Tryz.prog) w 29 4 i0 (.bool false) Tryz.underlying29 hi hi0 .i64 .i64 (n : Int) (n : Int) (by omega) (by omega) (by rw [hi2]; omega) (by omega)
 rw [this, hi1]
 simp only [Int.toNat_natCast]
 have e : (madeCells (Value.bool false).cells (n * 1)).toList = boolsV (List.replicate n false) := by
  rw [Nat.mul_one, boolsV, List.map_replicate]
  exact toList_madeCells_one _ _
 rw [← e]
theorem devsN_bd {gs : Gs} {secs : Int} (hr : rightB gs secs = true) : devsN gs ≤ 32 := by
 have h1 := (wsum_bd hr gs.length (Nat.le_refl _)).2
 have h2 := (rightB_spec hr).2.1
 unfold devsN
 omega
theorem ptrsD_one (l : Nat) : ∀ u ∈ ptrsD [l], u.oneCell' = true := by simp [ptrsD, Value.oneCell']
theorem ptrsD_append (a b : List Nat) : ptrsD (a ++ b) = ptrsD a ++ ptrsD b := by simp [ptrsD]
theorem dvs_ones4 (s1 s2 s3 : Option Addr) (n1 c1 n2 c2 n3 c3 : Nat) (z : Int) : ∀ u ∈ [Value.slice s1 n1 c1, .int .i64 z, .slice s2 n2 c2, .slice s3 n3 c3], u.oneCell' = true := by
 intro u hu
 simp only [List.mem_cons, List.not_mem_nil, or_false] at hu
 rcases hu with rfl | rfl | rfl | rfl <;> rfl
theorem results_dvs {fn : Func} {p u : Tmp} (h : fn.results = #[.cell p 37, .tmp u]) (tmps : Array Value) (w : World) (g : Nat) (a b c d : Value)
  (hp : tmps.getD p undef = .pointer (some ⟨g, 0, none⟩)) (hg : Blk w g 37 [a, b, c, d]) :
  (results fn tmps).run Tryz.prog w = .ok (.tuple #[.agg #[a, b, c, d], tmps.getD u undef]) w := by
 have hp' : tmps[p]?.getD undef = .pointer (some ⟨g, 0, none⟩) := by simpa using hp
 have e1 := run_loadVar_mid (P := Tryz.prog) w g 0 37 [a, b, c, d] _ (fun j v hv => by rw [Nat.zero_add, hg.cell, hv]) Tryz.underlying37 rfl iszDsM
 simp [results, h, hp', asAddr, e1]
theorem own_set {w : World} {b e k n g e2 : Nat} {v : Value} {xs cs ds : List Value} (h : w.ownsRow b e k v n xs) (hb : Blk w g e2 cs) (he : e ≠ e2) : (w.setCells g 0 ds).ownsRow b e k v n xs :=
 own_keep h (fun g' hg' => (setCells_grown g ds w 0).block g' (h.lt g' hg').2 (fun e3 => by
  have e4 := Option.some.inj e3
  subst e4
  exact row_nblk h hb he hg'))
def freshX (gs : Gs) (secs : Int) (sz : Nat) : DvsT := ⟨gs, secs, List.replicate (devsN gs) (freshD sz 0), List.replicate (devsN gs) false⟩
structure VnK (w : World) (ga : Option Addr) (gc n : Nat) (gs : Gs) (secs : Int) (N sz : Nat) (vg va : Value) (k : Nat) (dbs : List Nat) (Fd : Nat → Nat → Prop) (wr : World) : Prop where
 geo : Blk wr w.heap.size 24 [.slice ga n gc, .int .i64 secs]
 res : Blk wr (w.heap.size + 1) 37 [.slice none 0 0, .int .i64 0, .slice none 0 0, .slice none 0 0]
 grp : wr.ownsRow 0 31 2 vg n (encG gs)
 awy : wr.ownsRow 0 4 1 va N (boolsV (List.replicate N false))
 dl : dbs.length = k
 dev : ∀ i, i < k → IsDev wr (dbs.getD i 0) (freshD sz 0) (Fd i)
 dj : ∀ i j g, i < k → j < k → i ≠ j → Fd i g → ¬ Fd j g
 dn : ∀ i g, i < k → Fd i g → w.heap.size ≤ g
 gn : ∀ g, vg.ownBlock = some g → w.heap.size ≤ g
 an : ∀ g, va.ownBlock = some g → w.heap.size ≤ g
 bel : Below w.heap.size w wr
def vnB (w : World) (vg va : Value) (k : Nat) (Fd : Nat → Nat → Prop) (g : Nat) : Prop := g = w.heap.size ∨ g = w.heap.size + 1 ∨ vg.ownBlock = some g ∨ va.ownBlock = some g ∨ ∃ i, i < k ∧ Fd i g
section
variable {w : World} {ga : Option Addr} {gc n : Nat} {gs : Gs} {secs : Int} {N sz : Nat} {vg va : Value} {k : Nat} {dbs : List Nat} {Fd : Nat → Nat → Prop} {wr wd : World}
theorem VnK.keep (h : VnK w ga gc n gs secs N sz vg va k dbs Fd wr) (hk : ∀ g, vnB w vg va k Fd g → wd.heap[g]? = wr.heap[g]?) (hb : Below w.heap.size w wd) : VnK w ga gc n gs secs N sz vg va k dbs Fd wd := by
 refine ⟨?_, ?_, own_keep h.grp (fun g hg => hk g (.inr (.inr (.inl hg)))), own_keep h.awy (fun g hg => hk g (.inr (.inr (.inr (.inl hg))))), h.dl, fun i hi => (h.dev i hi).keep (fun g hg => hk g (.inr (.inr (.inr (.inr ⟨i, hi, hg⟩))))), h.dj, h.dn, h.gn, h.an, hb⟩
 ·unfold Blk; rw [hk _ (.inl rfl)]; exact h.geo
 ·unfold Blk; rw [hk _ (.inr (.inl rfl))]; exact h.res
theorem VnK.lt (h : VnK w ga gc n gs secs N sz vg va k dbs Fd wr) : ∀ g, vnB w vg va k Fd g → g < wr.heap.size := by
 rintro g (rfl | rfl | h1 | h1 | ⟨i, hi, h1⟩)
 ·exact h.geo.lt
 ·exact h.res.lt
 ·exact (h.grp.lt g h1).2
 ·exact (h.awy.lt g h1).2
 ·exact (h.dev i hi).lt g h1
theorem VnK.below (h : VnK w ga gc n gs secs N sz vg va k dbs Fd wr) (hb : Below wr.heap.size wr wd) : VnK w ga gc n gs secs N sz vg va k dbs Fd wd :=
 h.keep (fun g hg => hb.block g (h.lt g hg)) (h.bel.trans (hb.mono h.bel.size))
theorem dvs_ones (s1 s2 : Option Addr) (n1 c1 n2 c2 : Nat) (z : Int) : ∀ u ∈ [Value.slice s1 n1 c1, .int .i64 z, .slice none 0 0, .slice s2 n2 c2], u.oneCell' = true := by
 intro u hu
 simp only [List.mem_cons, List.not_mem_nil, or_false] at hu
 rcases hu with rfl | rfl | rfl | rfl <;> rfl
theorem VnK.start {w1 W : World} {gm g6 : Nat} {cs ds : List Value} (hg : Blk W w.heap.size 24 [.slice ga n gc, .int .i64 secs]) (hr : Blk w1 (w.heap.size + 1) 37 [.slice none 0 0, .int .i64 0, .slice none 0 0, .slice none 0 0]) (b1 : Below w.heap.size w w1) (hb : Below w1.heap.size w1 W) (h1 : W.ownsRow 0 31 2 vg n (encG gs)) (h2 : Blk W gm 4 (boolsV (List.replicate N false))) (h3 : Blk W g6 37 cs) (hs : w.heap.size + 2 ≤ w1.heap.size) (h6 : w1.heap.size ≤ g6) (hm : w1.heap.size ≤ gm) (hN : N ≤ 1000) (hgn : ∀ g, vg.ownBlock = some g → w.heap.size ≤ g) :
  VnK w ga gc n gs secs N sz vg (.slice (some ⟨gm, 0, none⟩) N N) 0 [] (fun _ _ => False) (W.setCells g6 0 ds) := by
 have hrow : W.ownsRow 0 4 1 (.slice (some ⟨gm, 0, none⟩) N N) N (boolsV (List.replicate N false)) := by
  have := blk_owns (base := 0) (n := N) (cap := N) (size := 1) h2 (Nat.zero_le _) (Nat.le_refl _) (by unfold maxLen; omega) (by simp [boolsV])
  rwa [List.take_of_length_le (by simp [boolsV])] at this
 refine ⟨hg.away 0 ds (by omega), (hr.below hb).away 0 ds (by omega), own_set h1 h3 (by decide), own_set hrow h3 (by decide), rfl, fun i hi => absurd hi (by omega), fun i j g hi => absurd hi (by omega), fun i g hi => absurd hi (by omega), hgn, fun g hg2 => ?_, ?_⟩
 ·have e : gm = g := by simpa [Value.ownBlock] using hg2
  omega
 ·exact (b1.trans (hb.mono b1.size)).trans ⟨(setCells_grown g6 ds W 0).os, (setCells_grown g6 ds W 0).tape, (setCells_grown g6 ds W 0).output, (setCells_grown g6 ds W 0).size, fun k hk => (setCells_grown g6 ds W 0).block k (by have := b1.size; have := hb.size; omega) (fun e => by have := Option.some.inj e; omega)⟩
theorem VnK.type (h : VnK w ga gc n gs secs N sz vg va k dbs Fd wr) : ∀ g, vnB w vg va k Fd g → ∀ cs e fr, wr.heap[g]? = some (Obj.cells cs e fr) → e ≠ 76 ∧ (e = 37 → g = w.heap.size + 1) := by
 intro g hg cs e fr hb
 have key : ∀ {e' : Nat} {cs' : List Value}, Blk wr g e' cs' → e = e' := fun h1 => by
  unfold Blk at h1
  rw [h1] at hb
  simp only [Option.some.injEq, Obj.cells.injEq] at hb
  exact hb.2.1.symm
 have key2 : ∀ {e' k' n' : Nat} {v : Value} {xs : List Value}, wr.ownsRow 0 e' k' v n' xs → v.ownBlock = some g → e = e' := fun hr hv => by
  obtain ⟨c1, f1, h1⟩ := own_type hr hv
  rw [h1] at hb
  simp only [Option.some.injEq, Obj.cells.injEq] at hb
  exact hb.2.1.symm
 rcases hg with rfl | rfl | h1 | h1 | ⟨i, hi, h1⟩
 ·have e1 := key h.geo; subst e1; exact ⟨by decide, fun e => absurd e (by decide)⟩
 ·have e1 := key h.res; subst e1; exact ⟨by decide, fun _ => rfl⟩
 ·have e1 := key2 h.grp h1; subst e1; exact ⟨by decide, fun e => absurd e (by decide)⟩
 ·have e1 := key2 h.awy h1; subst e1; exact ⟨by decide, fun e => absurd e (by decide)⟩
 ·rcases (h.dev i hi).type g h1 cs e fr hb with e1 | e1 <;> subst e1 <;> exact ⟨by decide, fun e => absurd e (by decide)⟩
theorem VnK.app {b2 n2 g6 : Nat} {v2 u : Value} {xs cs : List Value} (h : VnK w ga gc n gs secs N sz vg va k dbs Fd wr) (ho : wr.ownsRow b2 76 1 v2 n2 xs) (hg : wr.grownBy wd v2.ownBlock) (hb2 : w.heap.size ≤ b2) (h6 : w.heap.size + 2 ≤ g6) (hB : Blk wr g6 37 cs) (j : Nat) : VnK w ga gc n gs secs N sz vg va k dbs Fd (wd.setCell ⟨g6, j, none⟩ u) := by
 refine h.keep (fun g hg2 => ?_) ?_
 ·have hlt := h.lt g hg2
  have hne : ¬ v2.ownBlock = some g := fun e => by
   obtain ⟨c1, f1, h1⟩ := own_type ho e
   exact (h.type g hg2 _ _ _ h1).1 rfl
  have hn6 : g ≠ g6 := fun e => by
   subst e
   have := (h.type g hg2 _ _ _ hB).2 rfl
   omega
  rw [Below.heap_setCell _ _ _ _ hn6]
  exact hg.block g hlt (fun e => hne e.symm)
 ·exact (below_own (B := w.heap.size) h.bel ho hg h.bel.size hb2).setCell (by show w.heap.size ≤ g6; omega) _
theorem VnK.more {db : Nat} {F : Nat → Prop} (h : VnK w ga gc n gs secs N sz vg va k dbs Fd wr) (hd : IsDev wr db (freshD sz 0) F) {B : Nat} (hF : ∀ g, F g → B ≤ g) (hB : w.heap.size ≤ B) (hlt : ∀ i g, i < k → Fd i g → g < B) : VnK w ga gc n gs secs N sz vg va (k + 1) (dbs ++ [db]) (fun i => if i = k then F else Fd i) wr := by
 refine ⟨h.geo, h.res, h.grp, h.awy, by simp [h.dl], fun i hi => ?_, fun i j g hi hj hij h1 h2 => ?_, fun i g hi h1 => ?_, h.gn, h.an, h.bel⟩
 ·by_cases e : i = k
  ·subst e
   rw [if_pos rfl, List.getD_eq_getElem?_getD, List.getElem?_append_right (by rw [h.dl]; exact Nat.le_refl _), h.dl]
   simpa using hd
  ·rw [if_neg e, List.getD_eq_getElem?_getD, List.getElem?_append_left (by rw [h.dl]; omega), ← List.getD_eq_getElem?_getD]
   exact h.dev i (by omega)
 ·try dsimp only at h1 h2
  by_cases ei : i = k
  ·subst ei
   rw [if_pos rfl] at h1
   rw [if_neg (fun e => hij e.symm)] at h2
   have a1 := hF g h1
   have a2 := hlt j g (by omega) h2
   omega
  ·rw [if_neg ei] at h1
   by_cases ej : j = k
   ·subst ej
    rw [if_pos rfl] at h2
    have a1 := hF g h2
    have a2 := hlt i g (by omega) h1
    omega
   ·rw [if_neg ej] at h2
    exact h.dj i j g (by omega) (by omega) hij h1 h2
 ·try dsimp only at h1
  by_cases ei : i = k
  ·rw [if_pos ei] at h1
   have := hF g h1
   omega
  ·rw [if_neg ei] at h1
   exact h.dn i g (by omega) h1
theorem VnK.fin {vl : Value} {b2 : Nat} (h : VnK w ga gc n gs secs N sz vg va N dbs Fd wr) (ho : wr.ownsRow b2 76 1 vl N (ptrsD dbs)) (hb2 : w.heap.size ≤ b2) (hn : n = gs.length) (hN : N = devsN gs) (hs : secs = (sz : Nat)) (h1 : 1 ≤ secs) (h2 : secs ≤ 4096) (h3 : N ≤ 1000) :
  ∃ F, IsDvs wr (freshX gs secs sz) ⟨vg, vl, va⟩ F ∧ ∀ g, F g → w.heap.size ≤ g := by
 have hgd : ∀ i, i < N → (List.replicate (devsN gs) (freshD sz 0)).getD i dvD = freshD sz 0 := fun i hi => by
  rw [List.getD_eq_getElem?_getD, List.getElem?_replicate, if_pos (by omega)]; rfl
 have hne : ∀ {e' k' n' : Nat} {v : Value} {xs : List Value} (i g : Nat), i < N → Fd i g → wr.ownsRow 0 e' k' v n' xs → e' ≠ 121 → e' ≠ 9 → v.ownBlock ≠ some g := fun i g hi hf hr e1 e2 hv => by
  obtain ⟨c1, f1, h4⟩ := own_type hr hv
  rcases (h.dev i hi).type g hf _ _ _ h4 with e | e
  ·exact e1 e
  ·exact e2 e
 refine ⟨_, ⟨dbs, Fd, ⟨?_, ?_, ?_, ?_, ?_, fun i hi => ?_, fun i j g hi hj => ?_, fun i g hi hf => ?_, ⟨h1, h2⟩, ?_⟩, fun g => Iff.rfl⟩, ?_⟩
 ·show wr.ownsRow 0 _ 2 vg gs.length _
  rw [← hn]; exact h.grp
 ·show wr.ownsRow 0 _ 1 vl dbs.length _
  rw [h.dl]; exact owns_weaken ho (Nat.zero_le _)
 ·show wr.ownsRow 0 _ 1 va (List.replicate (devsN gs) false).length (boolsV (List.replicate (devsN gs) false))
  rw [List.length_replicate, ← hN]; exact h.awy
 ·show dbs.length = (List.replicate _ _).length
  rw [h.dl, List.length_replicate, hN]
 ·show (List.replicate _ _).length = (List.replicate _ _).length
  rw [List.length_replicate, List.length_replicate]
 ·have hi2 : i < N := by rw [hN]; simpa [freshX] using hi
  show IsDev wr (dbs.getD i 0) ((List.replicate (devsN gs) (freshD sz 0)).getD i dvD) (Fd i)
  rw [hgd i hi2]
  exact h.dev i hi2
 ·have hi2 : i < N := by rw [hN]; simpa [freshX] using hi
  have hj2 : j < N := by rw [hN]; simpa [freshX] using hj
  exact h.dj i j g hi2 hj2
 ·have hi2 : i < N := by rw [hN]; simpa [freshX] using hi
  exact ⟨hne i g hi2 hf h.grp (by decide) (by decide), hne i g hi2 hf (owns_weaken ho (Nat.zero_le _)) (by decide) (by decide), hne i g hi2 hf h.awy (by decide) (by decide)⟩
 ·show (List.replicate _ _).length ≤ 1000
  rw [List.length_replicate, ← hN]; exact h3
 ·rintro g (hg | hg | hg | ⟨i, hi, hg⟩)
  ·exact h.gn g hg
  ·exact Nat.le_trans hb2 (ho.lt g hg).1
  ·exact h.an g hg
  ·exact h.dn i g (by rw [hN]; simpa [freshX] using hi) hg
end
set_option maxHeartbeats 1600000 in
set_option maxRecDepth 100000 in
theorem vnew_any (ga : Option Addr) (n gc : Nat) (gs : Gs) (secs : Int) (w : World) (h : GSl w ga n gc gs) (hr : rightB gs secs = true) :
  Calls Tryz.prog 51 #[.agg #[.slice ga n gc, .int .i64 secs], .int .u8 0] w fun e w' => ∃ V F, e = .returned (.tuple #[V.val secs, .int .i64 0]) ∧ IsDvs w' (freshX gs secs secs.toNat) V F ∧ (∀ g, F g → w.heap.size ≤ g) ∧ Below w.heap.size w w' := by
 have hl := h.len
 have hsp := rightB_spec hr
 obtain ⟨sz, hsz⟩ : ∃ sz : Nat, secs = (sz : Nat) := ⟨secs.toNat, by omega⟩
 have hszt : secs.toNat = sz := by omega
 rw [hszt]
 obtain ⟨N, hN⟩ : ∃ N, N = devsN gs := ⟨_, rfl⟩
 have hNb : N ≤ 32 := by rw [hN]; exact devsN_bd hr
 obtain ⟨p0, hp, hp0, hp1, hp2⟩ := info_parts infoPD
 obtain ⟨w0, hw0⟩ : ∃ w0, w0 = (w.alloc (.cells #[.slice ga n gc, .int .i64 secs] 24)).alloc (.cells #[.slice none 0 0, .int .i64 0, .slice none 0 0, .slice none 0 0] 37) := ⟨_, rfl⟩
 have hb0 : Below w.heap.size w w0 := by rw [hw0]; exact ((Below.refl _ _).alloc (Nat.le_refl _) _).alloc (by simp) _
 have hg0 : Blk w0 w.heap.size 24 [.slice ga n gc, .int .i64 secs] := by rw [hw0]; exact (Blk.new w _ _).alloc _
 have hd0 : Blk w0 (w.heap.size + 1) 37 [.slice none 0 0, .int .i64 0, .slice none 0 0, .slice none 0 0] := by rw [hw0]; exact Blk.newAt (w := w.alloc _) _ _ (by simp)
 have hs0 : w0.heap.size = w.heap.size + 2 := by rw [hw0]; simp
 have hRT := fun W (hW : Below w.heap.size w W) => gright_any ga n gc gs secs W (h.below hW)
 rw [hr] at hRT
 have HRT := Lib.hid hRT
 have HDV : Hid (∀ W, Below w.heap.size w W → Calls Tryz.prog 59 #[.agg #[.slice ga n gc, .int .i64 secs]] W fun e w' => e = .returned (.int .i64 (N : Nat)) ∧ Below W.heap.size W w') := Lib.hid (fun W hW => by rw [hN]; exact gdevs_any ga n gc gs secs W (h.below hW) hr)
 have HCL : Hid (∀ W, Below w.heap.size w W → Calls Tryz.prog 54 #[.slice ga n gc] W fun e w' => ∃ v, e = .returned v ∧ w'.ownsRow W.heap.size 31 2 v n (encG gs) ∧ Below W.heap.size W w') := Lib.hid (fun W hW => cloneG_any ga n gc (encG gs) W (RSl.below h hW) (encG_one _) (by omega))
 have HNW : Hid (∀ W, Calls Tryz.prog 74 #[.int .i64 secs] W fun e w' => ∃ db F, e = .returned (.tuple #[.pointer (some ⟨db, 0, none⟩), .int .i64 0]) ∧ IsDev w' db (freshD sz 0) F ∧ (∀ g, F g → W.heap.size ≤ g) ∧ Below W.heap.size W w') := Lib.hid (fun W => by rw [hsz]; exact dnew_any sz W (by omega) (by omega))
 have HFR : Hid (∀ (W : World) db F, IsDev W db (freshD sz 0) F → Calls Tryz.prog 75 #[.pointer (some ⟨db, 0, none⟩), .int .u8 0] W fun e w' => e = .returned (.tuple #[]) ∧ DevStep db (freshD sz 0) F W w') := Lib.hid (fun W db F hW => by
  have := dfresh_any hW 0
  have e : (freshD sz 0).med.length = sz := by show (blankL sz 0).length = sz; rw [blankL_len]
  rw [e] at this
  exact this)
 have hmk := make_bools N (by omega)
 have HL := Lib.hid hl
 have HS := Lib.hid hsp
 have HSZ := Lib.hid hsz
 have HNE := Lib.hid hN
 have HB0 := Lib.hid hb0
 have HG0 := Lib.hid hg0
 have HD0 := Lib.hid hd0
 have hsec1 : 24 ≤ secs := hsp.2.2.1
 have hsec2 : secs ≤ 4096 := hsp.2.2.2.1
 have hn4 : n ≤ 4 := by omega
 clear h hr hRT hl hsp hsz hszt hN hb0 hg0 hd0
 go_enter Tryz.func51, Tryz.ntmps51
 go_upto_region 1 with fail
 rw [← hw0]
 clear hw0
 have c0 : w0.cell? ⟨w.heap.size, 0, none⟩ = some (.slice ga n gc) := HG0.out.cell 0
 have c1 : w0.cell? ⟨w.heap.size, 1, none⟩ = some (.int .i64 secs) := HG0.out.cell 1
 go_wp2_with fail
 refine (HRT.out _ HB0.out).mono ?_
 rintro e w1 ⟨rfl, hb1⟩
 have B1 : Hid (Below w.heap.size w w1) := Lib.hid (HB0.out.trans (hb1.mono (by omega)))
 have HG1 := Lib.hid (HG0.out.below hb1)
 have HD1 := Lib.hid (HD0.out.below hb1)
 have hsz1 : w.heap.size + 2 ≤ w1.heap.size := by have := hb1.size; omega
 clear hb1 c0 c1
 go_upto_region 3 with fail
 go_cut [6] (fun v wx => ∃ (g6 : Nat) (vg va : Value), v = .pointer (some ⟨g6, 0, none⟩) ∧ Hid (Blk wx g6 37 [vg, .int .i64 secs, .slice none 0 0, va]) ∧ Hid (VnK w ga gc n gs secs N sz vg va 0 [] (fun _ _ => False) wx) ∧ w.heap.size + 2 ≤ g6)
 case first =>
  have hS0 : Blk w1.drew w.heap.size 24 [.slice ga n gc, .int .i64 secs] := HG1.out
  have HBD : Hid (Below w1.heap.size w1 w1.drew) := Lib.hid (Below.refl _ _).drew
  refine wp_region_held_drew (S := fun W => Blk W w.heap.size 24 [.slice ga n gc, .int .i64 secs]) (by kernel_rfl) hS0 (fun hS0 => ?_)
  refine rtd 0 ?_
  refine rtv (i := 1) (v := ?vc1) (hy := ?yc1) (h := ?_)
  case yc1 => intro w hSw; (try dsimp only at hSw); go_simp; rw [hSw.cell 0]; rfl
  try simp only [Act.put, z1, z2, z3]
  refine rtd 3 ?_
  refine rtv (i := 4) (v := ?vc4) (hy := ?yc4) (h := ?_)
  case yc4 => intro w hSw; (try dsimp only at hSw); go_simp; rw [hSw.cell 1]; rfl
  try simp only [Act.put, z1, z2, z3]
  refine rtg 6 ?vc6 ?yc6 ?_
  case yc6 => refine yieldsIf_load_mid (by kernel_rfl) 24 (.tmp 2) ?_ w.heap.size (0) ?_ ([.slice ga n gc, .int .i64 secs]) _ (fun w' (hw : Blk w' _ _ _) => range0M hw) Tryz.underlying24 rfl iszGe2 <;> rfl
  refine wpAnyH_ready (rs := [2, 10]) (by kernel_rfl) (by simp) ?_
  refine AllReadyH.cons (by simp only [List.getElem?_toArray, List.getElem?_cons_succ, List.getElem?_cons_zero]; rfl) (fun K hK => ?_) (AllReadyH.cons (by simp only [List.getElem?_toArray, List.getElem?_cons_succ, List.getElem?_cons_zero]; rfl) (fun K hK => ?_) AllReadyH.nil)
  ·go_simp
   refine (HCL.out _ (B1.out.trans (HBD.out.mono (by omega)))).mono ?_
   rintro e wz1 ⟨vz1, rfl, hoz1, hbz1⟩
   obtain ⟨aoz1, cpz1, rfl⟩ := own_form hoz1
   have HCz1 : Hid ((wz1).ownsRow 0 31 2 (Value.slice aoz1 n cpz1) n (encG gs)) := Lib.hid (owns_weaken hoz1 (Nat.zero_le _))
   have HCNz1 : Hid (∀ g, (Value.slice aoz1 n cpz1).ownBlock = some g → w.heap.size ≤ g) := Lib.hid (fun g hg => by have := (hoz1.lt g hg).1; have := HBD.out.size; omega)
   have HBz1 : Hid (Below w1.heap.size w1 (wz1)) := Lib.hid (HBD.out.trans (hbz1.mono HBD.out.size))
   have HSz1 : Hid (Blk (wz1) w.heap.size 24 [.slice ga n gc, .int .i64 secs]) := Lib.hid (hS0.below hbz1)
   clear hbz1 hoz1
   try dsimp only
   refine hK.out _ _ (HSz1.out) (fun hSca2 => ?_)
   try simp only [Act.put, z1, z2, z3]
   refine rtd 5 ?_
   refine wpAnyH_ready (rs := [7, 10]) (by kernel_rfl) (by simp) ?_
   refine AllReadyH.cons (by simp only [List.getElem?_toArray, List.getElem?_cons_succ, List.getElem?_cons_zero]; rfl) (fun K hK => ?_) (AllReadyH.cons (by simp only [List.getElem?_toArray, List.getElem?_cons_succ, List.getElem?_cons_zero]; rfl) (fun K hK => ?_) AllReadyH.nil)
   ·go_simp
    refine (HDV.out _ (B1.out.trans (HBz1.out.mono (by omega)))).mono ?_
    rintro e wz2 ⟨rfl, hbz2⟩
    have HBz2 : Hid (Below w1.heap.size w1 (wz2)) := Lib.hid (HBz1.out.trans (hbz2.mono HBz1.out.size))
    have HCz2 : Hid ((wz2).ownsRow 0 31 2 (Value.slice aoz1 n cpz1) n (encG gs)) := Lib.hid (owns_below HCz1.out hbz2)
    have HSz2 : Hid (Blk (wz2) w.heap.size 24 [.slice ga n gc, .int .i64 secs]) := Lib.hid (HSz1.out.below hbz2)
    clear hbz2
    try dsimp only
    refine hK.out _ _ (HSz2.out) (fun hScaa7 => ?_)
    try simp only [Act.put, z1, z2, z3]
    refine wpAnyH_ready (rs := [8, 10]) (by kernel_rfl) (by simp) ?_
    refine AllReadyH.cons (by simp only [List.getElem?_toArray, List.getElem?_cons_succ, List.getElem?_cons_zero]; rfl) (fun K hK => ?_) (AllReadyH.cons (by simp only [List.getElem?_toArray, List.getElem?_cons_succ, List.getElem?_cons_zero]; rfl) (fun K hK => ?_) AllReadyH.nil)
    ·go_simp
     skip
     refine hK.out _ _ (HSz2.out.alloc _) (fun hScaaa8 => ?_)
     try simp only [Act.put, z1, z2, z3]
     have HMz3 : Hid (Blk ((wz2).alloc (.cells (boolsV (List.replicate N false)).toArray 4)) (wz2.heap.size) 4 (boolsV (List.replicate N false))) := Lib.hid (Blk.newAt _ _ (by simp))
     have HMGz3 : Hid (w1.heap.size ≤ wz2.heap.size) := Lib.hid (by have := HBz2.out.size; simpa using this)
     have hbz3 : Below (wz2).heap.size (wz2) ((wz2).alloc (.cells (boolsV (List.replicate N false)).toArray 4)) := (Below.refl _ _).alloc (Nat.le_refl _) _
     have HBz3 : Hid (Below w1.heap.size w1 ((wz2).alloc (.cells (boolsV (List.replicate N false)).toArray 4))) := Lib.hid (HBz2.out.trans (hbz3.mono HBz2.out.size))
     have HCz3 : Hid (((wz2).alloc (.cells (boolsV (List.replicate N false)).toArray 4)).ownsRow 0 31 2 (Value.slice aoz1 n cpz1) n (encG gs)) := Lib.hid (owns_below HCz2.out hbz3)
     have HSz3 : Hid (Blk ((wz2).alloc (.cells (boolsV (List.replicate N false)).toArray 4)) w.heap.size 24 [.slice ga n gc, .int .i64 secs]) := Lib.hid (HSz2.out.below hbz3)
     clear hbz3
     refine rtd 9 ?_
     refine rr1 (i := 10) (h := fun K hK => ?_)
     go_simp
     skip
     refine hK.out _ _ (HSz3.out.alloc _) (fun hScaaa10 => ?_)
     try simp only [Act.put, z1, z2, z3]
     have HAz4 : Hid (Blk (((wz2).alloc (.cells (boolsV (List.replicate N false)).toArray 4)).alloc (.cells #[.slice none 0 0, .int .i64 0, .slice none 0 0, .slice none 0 0] 37)) (wz2.heap.size + 1) 37 [.slice none 0 0, .int .i64 0, .slice none 0 0, .slice none 0 0]) := Lib.hid (Blk.newAt _ _ (by simp))
     have HAGz4 : Hid (w1.heap.size ≤ wz2.heap.size + 1) := Lib.hid (by have := HBz3.out.size; simpa using this)
     have hbz4 : Below ((wz2).alloc (.cells (boolsV (List.replicate N false)).toArray 4)).heap.size ((wz2).alloc (.cells (boolsV (List.replicate N false)).toArray 4)) (((wz2).alloc (.cells (boolsV (List.replicate N false)).toArray 4)).alloc (.cells #[.slice none 0 0, .int .i64 0, .slice none 0 0, .slice none 0 0] 37)) := (Below.refl _ _).alloc (Nat.le_refl _) _
     have HBz4 : Hid (Below w1.heap.size w1 (((wz2).alloc (.cells (boolsV (List.replicate N false)).toArray 4)).alloc (.cells #[.slice none 0 0, .int .i64 0, .slice none 0 0, .slice none 0 0] 37))) := Lib.hid (HBz3.out.trans (hbz4.mono HBz3.out.size))
     have HCz4 : Hid ((((wz2).alloc (.cells (boolsV (List.replicate N false)).toArray 4)).alloc (.cells #[.slice none 0 0, .int .i64 0, .slice none 0 0, .slice none 0 0] 37)).ownsRow 0 31 2 (Value.slice aoz1 n cpz1) n (encG gs)) := Lib.hid (owns_below HCz3.out hbz4)
     have HMz4 : Hid (Blk (((wz2).alloc (.cells (boolsV (List.replicate N false)).toArray 4)).alloc (.cells #[.slice none 0 0, .int .i64 0, .slice none 0 0, .slice none 0 0] 37)) (wz2.heap.size) 4 (boolsV (List.replicate N false))) := Lib.hid (HMz3.out.below hbz4)
     have HSz4 : Hid (Blk (((wz2).alloc (.cells (boolsV (List.replicate N false)).toArray 4)).alloc (.cells #[.slice none 0 0, .int .i64 0, .slice none 0 0, .slice none 0 0] 37)) w.heap.size 24 [.slice ga n gc, .int .i64 secs]) := Lib.hid (HSz3.out.below hbz4)
     clear hbz4
     refine rr1 (i := 11) (h := fun K hK => ?_)
     rw [if_pos (by kernel_rfl)]
     refine wp_store_mid 37 (.tmp 6) (.tmp 22) rfl (wz2.heap.size + 1) (0) ([Value.slice aoz1 n cpz1, .int .i64 secs, .slice none 0 0, Value.slice (some ⟨wz2.heap.size, 0, none⟩) N N]).toArray rfl rfl (blk_there HAz4.out (Nat.le_refl 4)) iszDsM (all_oneCell_toArray (dvs_ones _ _ _ _ _ _ _)) ?_
     refine hK.out _ _ ((HSz4.out.away 0 _ (by have := HAGz4.out; have := hsz1; omega))) (fun hScaaa11 => ?_)
     try simp only [Act.put, z1, z2, z3]
     refine wpAnyH_done (by kernel_rfl) ?_ _
     have HT : Hid (Blk ((((wz2).alloc (.cells (boolsV (List.replicate N false)).toArray 4)).alloc (.cells #[.slice none 0 0, .int .i64 0, .slice none 0 0, .slice none 0 0] 37)).setCells (wz2.heap.size + 1) 0 [Value.slice aoz1 n cpz1, .int .i64 secs, .slice none 0 0, Value.slice (some ⟨wz2.heap.size, 0, none⟩) N N]) (wz2.heap.size + 1) 37 [Value.slice aoz1 n cpz1, .int .i64 secs, .slice none 0 0, Value.slice (some ⟨wz2.heap.size, 0, none⟩) N N] ∧ VnK w ga gc n gs secs N sz (Value.slice aoz1 n cpz1) (Value.slice (some ⟨wz2.heap.size, 0, none⟩) N N) 0 [] (fun _ _ => False) ((((wz2).alloc (.cells (boolsV (List.replicate N false)).toArray 4)).alloc (.cells #[.slice none 0 0, .int .i64 0, .slice none 0 0, .slice none 0 0] 37)).setCells (wz2.heap.size + 1) 0 [Value.slice aoz1 n cpz1, .int .i64 secs, .slice none 0 0, Value.slice (some ⟨wz2.heap.size, 0, none⟩) N N])) := Lib.hid ⟨HAz4.out.put rfl, VnK.start HSz4.out HD1.out B1.out HBz4.out HCz4.out HMz4.out HAz4.out hsz1 HAGz4.out HMGz3.out (by omega) HCNz1.out⟩
     go_wp2_with fail
     go_meet
     exact ⟨_, _, _, rfl, Lib.hid HT.out.1, Lib.hid HT.out.2, by have := HAGz4.out; omega⟩
    ·go_simp
     skip
     refine hK.out _ _ (HSz2.out.alloc _) (fun hScaab10 => ?_)
     try simp only [Act.put, z1, z2, z3]
     have HAz5 : Hid (Blk ((wz2).alloc (.cells #[.slice none 0 0, .int .i64 0, .slice none 0 0, .slice none 0 0] 37)) (wz2.heap.size) 37 [.slice none 0 0, .int .i64 0, .slice none 0 0, .slice none 0 0]) := Lib.hid (Blk.newAt _ _ (by simp))
     have HAGz5 : Hid (w1.heap.size ≤ wz2.heap.size) := Lib.hid (by have := HBz2.out.size; simpa using this)
     have hbz5 : Below (wz2).heap.size (wz2) ((wz2).alloc (.cells #[.slice none 0 0, .int .i64 0, .slice none 0 0, .slice none 0 0] 37)) := (Below.refl _ _).alloc (Nat.le_refl _) _
     have HBz5 : Hid (Below w1.heap.size w1 ((wz2).alloc (.cells #[.slice none 0 0, .int .i64 0, .slice none 0 0, .slice none 0 0] 37))) := Lib.hid (HBz2.out.trans (hbz5.mono HBz2.out.size))
     have HCz5 : Hid (((wz2).alloc (.cells #[.slice none 0 0, .int .i64 0, .slice none 0 0, .slice none 0 0] 37)).ownsRow 0 31 2 (Value.slice aoz1 n cpz1) n (encG gs)) := Lib.hid (owns_below HCz2.out hbz5)
     have HSz5 : Hid (Blk ((wz2).alloc (.cells #[.slice none 0 0, .int .i64 0, .slice none 0 0, .slice none 0 0] 37)) w.heap.size 24 [.slice ga n gc, .int .i64 secs]) := Lib.hid (HSz2.out.below hbz5)
     clear hbz5
     refine rr1 (i := 8) (h := fun K hK => ?_)
     go_simp
     skip
     refine hK.out _ _ (HSz5.out.alloc _) (fun hScaab8 => ?_)
     try simp only [Act.put, z1, z2, z3]
     have HMz6 : Hid (Blk (((wz2).alloc (.cells #[.slice none 0 0, .int .i64 0, .slice none 0 0, .slice none 0 0] 37)).alloc (.cells (boolsV (List.replicate N false)).toArray 4)) (wz2.heap.size + 1) 4 (boolsV (List.replicate N false))) := Lib.hid (Blk.newAt _ _ (by simp))
     have HMGz6 : Hid (w1.heap.size ≤ wz2.heap.size + 1) := Lib.hid (by have := HBz5.out.size; simpa using this)
     have hbz6 : Below ((wz2).alloc (.cells #[.slice none 0 0, .int .i64 0, .slice none 0 0, .slice none 0 0] 37)).heap.size ((wz2).alloc (.cells #[.slice none 0 0, .int .i64 0, .slice none 0 0, .slice none 0 0] 37)) (((wz2).alloc (.cells #[.slice none 0 0, .int .i64 0, .slice none 0 0, .slice none 0 0] 37)).alloc (.cells (boolsV (List.replicate N false)).toArray 4)) := (Below.refl _ _).alloc (Nat.le_refl _) _
     have HBz6 : Hid (Below w1.heap.size w1 (((wz2).alloc (.cells #[.slice none 0 0, .int .i64 0, .slice none 0 0, .slice none 0 0] 37)).alloc (.cells (boolsV (List.replicate N false)).toArray 4))) := Lib.hid (HBz5.out.trans (hbz6.mono HBz5.out.size))
     have HCz6 : Hid ((((wz2).alloc (.cells #[.slice none 0 0, .int .i64 0, .slice none 0 0, .slice none 0 0] 37)).alloc (.cells (boolsV (List.replicate N false)).toArray 4)).ownsRow 0 31 2 (Value.slice aoz1 n cpz1) n (encG gs)) := Lib.hid (owns_below HCz5.out hbz6)
     have HAz6 : Hid (Blk (((wz2).alloc (.cells #[.slice none 0 0, .int .i64 0, .slice none 0 0, .slice none 0 0] 37)).alloc (.cells (boolsV (List.replicate N false)).toArray 4)) (wz2.heap.size) 37 [.slice none 0 0, .int .i64 0, .slice none 0 0, .slice none 0 0]) := Lib.hid (HAz5.out.below hbz6)
     have HSz6 : Hid (Blk (((wz2).alloc (.cells #[.slice none 0 0, .int .i64 0, .slice none 0 0, .slice none 0 0] 37)).alloc (.cells (boolsV (List.replicate N false)).toArray 4)) w.heap.size 24 [.slice ga n gc, .int .i64 secs]) := Lib.hid (HSz5.out.below hbz6)
     clear hbz6
     refine rtd 9 ?_
     refine rr1 (i := 11) (h := fun K hK => ?_)
     rw [if_pos (by kernel_rfl)]
     refine wp_store_mid 37 (.tmp 6) (.tmp 22) rfl (wz2.heap.size) (0) ([Value.slice aoz1 n cpz1, .int .i64 secs, .slice none 0 0, Value.slice (some ⟨wz2.heap.size + 1, 0, none⟩) N N]).toArray rfl rfl (blk_there HAz6.out (Nat.le_refl 4)) iszDsM (all_oneCell_toArray (dvs_ones _ _ _ _ _ _ _)) ?_
     refine hK.out _ _ ((HSz6.out.away 0 _ (by have := HAGz5.out; have := hsz1; omega))) (fun hScaab11 => ?_)
     try simp only [Act.put, z1, z2, z3]
     refine wpAnyH_done (by kernel_rfl) ?_ _
     have HT : Hid (Blk ((((wz2).alloc (.cells #[.slice none 0 0, .int .i64 0, .slice none 0 0, .slice none 0 0] 37)).alloc (.cells (boolsV (List.replicate N false)).toArray 4)).setCells (wz2.heap.size) 0 [Value.slice aoz1 n cpz1, .int .i64 secs, .slice none 0 0, Value.slice (some ⟨wz2.heap.size + 1, 0, none⟩) N N]) (wz2.heap.size) 37 [Value.slice aoz1 n cpz1, .int .i64 secs, .slice none 0 0, Value.slice (some ⟨wz2.heap.size + 1, 0, none⟩) N N] ∧ VnK w ga gc n gs secs N sz (Value.slice aoz1 n cpz1) (Value.slice (some ⟨wz2.heap.size + 1, 0, none⟩) N N) 0 [] (fun _ _ => False) ((((wz2).alloc (.cells #[.slice none 0 0, .int .i64 0, .slice none 0 0, .slice none 0 0] 37)).alloc (.cells (boolsV (List.replicate N false)).toArray 4)).setCells (wz2.heap.size) 0 [Value.slice aoz1 n cpz1, .int .i64 secs, .slice none 0 0, Value.slice (some ⟨wz2.heap.size + 1, 0, none⟩) N N])) := Lib.hid ⟨HAz6.out.put rfl, VnK.start HSz6.out HD1.out B1.out HBz6.out HCz6.out HMz6.out HAz6.out hsz1 HAGz5.out HMGz6.out (by omega) HCNz1.out⟩
     go_wp2_with fail
     go_meet
     exact ⟨_, _, _, rfl, Lib.hid HT.out.1, Lib.hid HT.out.2, by have := HAGz5.out; omega⟩
   ·go_simp
    skip
    refine hK.out _ _ (HSz1.out.alloc _) (fun hScab10 => ?_)
    try simp only [Act.put, z1, z2, z3]
    have HAz7 : Hid (Blk ((wz1).alloc (.cells #[.slice none 0 0, .int .i64 0, .slice none 0 0, .slice none 0 0] 37)) (wz1.heap.size) 37 [.slice none 0 0, .int .i64 0, .slice none 0 0, .slice none 0 0]) := Lib.hid (Blk.newAt _ _ (by simp))
    have HAGz7 : Hid (w1.heap.size ≤ wz1.heap.size) := Lib.hid (by have := HBz1.out.size; simpa using this)
    have hbz7 : Below (wz1).heap.size (wz1) ((wz1).alloc (.cells #[.slice none 0 0, .int .i64 0, .slice none 0 0, .slice none 0 0] 37)) := (Below.refl _ _).alloc (Nat.le_refl _) _
    have HBz7 : Hid (Below w1.heap.size w1 ((wz1).alloc (.cells #[.slice none 0 0, .int .i64 0, .slice none 0 0, .slice none 0 0] 37))) := Lib.hid (HBz1.out.trans (hbz7.mono HBz1.out.size))
    have HCz7 : Hid (((wz1).alloc (.cells #[.slice none 0 0, .int .i64 0, .slice none 0 0, .slice none 0 0] 37)).ownsRow 0 31 2 (Value.slice aoz1 n cpz1) n (encG gs)) := Lib.hid (owns_below HCz1.out hbz7)
    have HSz7 : Hid (Blk ((wz1).alloc (.cells #[.slice none 0 0, .int .i64 0, .slice none 0 0, .slice none 0 0] 37)) w.heap.size 24 [.slice ga n gc, .int .i64 secs]) := Lib.hid (HSz1.out.below hbz7)
    clear hbz7
    refine rr1 (i := 7) (h := fun K hK => ?_)
    go_simp
    refine (HDV.out _ (B1.out.trans (HBz7.out.mono (by omega)))).mono ?_
    rintro e wz8 ⟨rfl, hbz8⟩
    have HBz8 : Hid (Below w1.heap.size w1 (wz8)) := Lib.hid (HBz7.out.trans (hbz8.mono HBz7.out.size))
    have HCz8 : Hid ((wz8).ownsRow 0 31 2 (Value.slice aoz1 n cpz1) n (encG gs)) := Lib.hid (owns_below HCz7.out hbz8)
    have HAz8 : Hid (Blk (wz8) (wz1.heap.size) 37 [.slice none 0 0, .int .i64 0, .slice none 0 0, .slice none 0 0]) := Lib.hid (HAz7.out.below hbz8)
    have HSz8 : Hid (Blk (wz8) w.heap.size 24 [.slice ga n gc, .int .i64 secs]) := Lib.hid (HSz7.out.below hbz8)
    clear hbz8
    try dsimp only
    refine hK.out _ _ (HSz8.out) (fun hScab7 => ?_)
    try simp only [Act.put, z1, z2, z3]
    refine rr1 (i := 8) (h := fun K hK => ?_)
    go_simp
    skip
    refine hK.out _ _ (HSz8.out.alloc _) (fun hScab8 => ?_)
    try simp only [Act.put, z1, z2, z3]
    have HMz9 : Hid (Blk ((wz8).alloc (.cells (boolsV (List.replicate N false)).toArray 4)) (wz8.heap.size) 4 (boolsV (List.replicate N false))) := Lib.hid (Blk.newAt _ _ (by simp))
    have HMGz9 : Hid (w1.heap.size ≤ wz8.heap.size) := Lib.hid (by have := HBz8.out.size; simpa using this)
    have hbz9 : Below (wz8).heap.size (wz8) ((wz8).alloc (.cells (boolsV (List.replicate N false)).toArray 4)) := (Below.refl _ _).alloc (Nat.le_refl _) _
    have HBz9 : Hid (Below w1.heap.size w1 ((wz8).alloc (.cells (boolsV (List.replicate N false)).toArray 4))) := Lib.hid (HBz8.out.trans (hbz9.mono HBz8.out.size))
    have HCz9 : Hid (((wz8).alloc (.cells (boolsV (List.replicate N false)).toArray 4)).ownsRow 0 31 2 (Value.slice aoz1 n cpz1) n (encG gs)) := Lib.hid (owns_below HCz8.out hbz9)
    have HAz9 : Hid (Blk ((wz8).alloc (.cells (boolsV (List.replicate N false)).toArray 4)) (wz1.heap.size) 37 [.slice none 0 0, .int .i64 0, .slice none 0 0, .slice none 0 0]) := Lib.hid (HAz8.out.below hbz9)
    have HSz9 : Hid (Blk ((wz8).alloc (.cells (boolsV (List.replicate N false)).toArray 4)) w.heap.size 24 [.slice ga n gc, .int .i64 secs]) := Lib.hid (HSz8.out.below hbz9)
    clear hbz9
    refine rtd 9 ?_
    refine rr1 (i := 11) (h := fun K hK => ?_)
    rw [if_pos (by kernel_rfl)]
    refine wp_store_mid 37 (.tmp 6) (.tmp 22) rfl (wz1.heap.size) (0) ([Value.slice aoz1 n cpz1, .int .i64 secs, .slice none 0 0, Value.slice (some ⟨wz8.heap.size, 0, none⟩) N N]).toArray rfl rfl (blk_there HAz9.out (Nat.le_refl 4)) iszDsM (all_oneCell_toArray (dvs_ones _ _ _ _ _ _ _)) ?_
    refine hK.out _ _ ((HSz9.out.away 0 _ (by have := HAGz7.out; have := hsz1; omega))) (fun hScab11 => ?_)
    try simp only [Act.put, z1, z2, z3]
    refine wpAnyH_done (by kernel_rfl) ?_ _
    have HT : Hid (Blk (((wz8).alloc (.cells (boolsV (List.replicate N false)).toArray 4)).setCells (wz1.heap.size) 0 [Value.slice aoz1 n cpz1, .int .i64 secs, .slice none 0 0, Value.slice (some ⟨wz8.heap.size, 0, none⟩) N N]) (wz1.heap.size) 37 [Value.slice aoz1 n cpz1, .int .i64 secs, .slice none 0 0, Value.slice (some ⟨wz8.heap.size, 0, none⟩) N N] ∧ VnK w ga gc n gs secs N sz (Value.slice aoz1 n cpz1) (Value.slice (some ⟨wz8.heap.size, 0, none⟩) N N) 0 [] (fun _ _ => False) (((wz8).alloc (.cells (boolsV (List.replicate N false)).toArray 4)).setCells (wz1.heap.size) 0 [Value.slice aoz1 n cpz1, .int .i64 secs, .slice none 0 0, Value.slice (some ⟨wz8.heap.size, 0, none⟩) N N])) := Lib.hid ⟨HAz9.out.put rfl, VnK.start HSz9.out HD1.out B1.out HBz9.out HCz9.out HMz9.out HAz9.out hsz1 HAGz7.out HMGz9.out (by omega) HCNz1.out⟩
    go_wp2_with fail
    go_meet
    exact ⟨_, _, _, rfl, Lib.hid HT.out.1, Lib.hid HT.out.2, by have := HAGz7.out; omega⟩
  ·go_simp
   skip
   refine hK.out _ _ (hS0.alloc _) (fun hScb10 => ?_)
   try simp only [Act.put, z1, z2, z3]
   have HAz10 : Hid (Blk ((w1.drew).alloc (.cells #[.slice none 0 0, .int .i64 0, .slice none 0 0, .slice none 0 0] 37)) (w1.heap.size) 37 [.slice none 0 0, .int .i64 0, .slice none 0 0, .slice none 0 0]) := Lib.hid (Blk.newAt _ _ (by simp))
   have HAGz10 : Hid (w1.heap.size ≤ w1.heap.size) := Lib.hid (by have := HBD.out.size; simpa using this)
   have hbz10 : Below (w1.drew).heap.size (w1.drew) ((w1.drew).alloc (.cells #[.slice none 0 0, .int .i64 0, .slice none 0 0, .slice none 0 0] 37)) := (Below.refl _ _).alloc (Nat.le_refl _) _
   have HBz10 : Hid (Below w1.heap.size w1 ((w1.drew).alloc (.cells #[.slice none 0 0, .int .i64 0, .slice none 0 0, .slice none 0 0] 37))) := Lib.hid (HBD.out.trans (hbz10.mono HBD.out.size))
   have HSz10 : Hid (Blk ((w1.drew).alloc (.cells #[.slice none 0 0, .int .i64 0, .slice none 0 0, .slice none 0 0] 37)) w.heap.size 24 [.slice ga n gc, .int .i64 secs]) := Lib.hid (hS0.below hbz10)
   clear hbz10
   refine rr1 (i := 2) (h := fun K hK => ?_)
   go_simp
   refine (HCL.out _ (B1.out.trans (HBz10.out.mono (by omega)))).mono ?_
   rintro e wz11 ⟨vz11, rfl, hoz11, hbz11⟩
   obtain ⟨aoz11, cpz11, rfl⟩ := own_form hoz11
   have HCz11 : Hid ((wz11).ownsRow 0 31 2 (Value.slice aoz11 n cpz11) n (encG gs)) := Lib.hid (owns_weaken hoz11 (Nat.zero_le _))
   have HCNz11 : Hid (∀ g, (Value.slice aoz11 n cpz11).ownBlock = some g → w.heap.size ≤ g) := Lib.hid (fun g hg => by have := (hoz11.lt g hg).1; have := HBz10.out.size; omega)
   have HBz11 : Hid (Below w1.heap.size w1 (wz11)) := Lib.hid (HBz10.out.trans (hbz11.mono HBz10.out.size))
   have HAz11 : Hid (Blk (wz11) (w1.heap.size) 37 [.slice none 0 0, .int .i64 0, .slice none 0 0, .slice none 0 0]) := Lib.hid (HAz10.out.below hbz11)
   have HSz11 : Hid (Blk (wz11) w.heap.size 24 [.slice ga n gc, .int .i64 secs]) := Lib.hid (HSz10.out.below hbz11)
   clear hbz11 hoz11
   try dsimp only
   refine hK.out _ _ (HSz11.out) (fun hScb2 => ?_)
   try simp only [Act.put, z1, z2, z3]
   refine rtd 5 ?_
   refine rr1 (i := 7) (h := fun K hK => ?_)
   go_simp
   refine (HDV.out _ (B1.out.trans (HBz11.out.mono (by omega)))).mono ?_
   rintro e wz12 ⟨rfl, hbz12⟩
   have HBz12 : Hid (Below w1.heap.size w1 (wz12)) := Lib.hid (HBz11.out.trans (hbz12.mono HBz11.out.size))
   have HCz12 : Hid ((wz12).ownsRow 0 31 2 (Value.slice aoz11 n cpz11) n (encG gs)) := Lib.hid (owns_below HCz11.out hbz12)
   have HAz12 : Hid (Blk (wz12) (w1.heap.size) 37 [.slice none 0 0, .int .i64 0, .slice none 0 0, .slice none 0 0]) := Lib.hid (HAz11.out.below hbz12)
   have HSz12 : Hid (Blk (wz12) w.heap.size 24 [.slice ga n gc, .int .i64 secs]) := Lib.hid (HSz11.out.below hbz12)
   clear hbz12
   try dsimp only
   refine hK.out _ _ (HSz12.out) (fun hScb7 => ?_)
   try simp only [Act.put, z1, z2, z3]
   refine rr1 (i := 8) (h := fun K hK => ?_)
   go_simp
   skip
   refine hK.out _ _ (HSz12.out.alloc _) (fun hScb8 => ?_)
   try simp only [Act.put, z1, z2, z3]
   have HMz13 : Hid (Blk ((wz12).alloc (.cells (boolsV (List.replicate N false)).toArray 4)) (wz12.heap.size) 4 (boolsV (List.replicate N false))) := Lib.hid (Blk.newAt _ _ (by simp))
   have HMGz13 : Hid (w1.heap.size ≤ wz12.heap.size) := Lib.hid (by have := HBz12.out.size; simpa using this)
   have hbz13 : Below (wz12).heap.size (wz12) ((wz12).alloc (.cells (boolsV (List.replicate N false)).toArray 4)) := (Below.refl _ _).alloc (Nat.le_refl _) _
   have HBz13 : Hid (Below w1.heap.size w1 ((wz12).alloc (.cells (boolsV (List.replicate N false)).toArray 4))) := Lib.hid (HBz12.out.trans (hbz13.mono HBz12.out.size))
   have HCz13 : Hid (((wz12).alloc (.cells (boolsV (List.replicate N false)).toArray 4)).ownsRow 0 31 2 (Value.slice aoz11 n cpz11) n (encG gs)) := Lib.hid (owns_below HCz12.out hbz13)
   have HAz13 : Hid (Blk ((wz12).alloc (.cells (boolsV (List.replicate N false)).toArray 4)) (w1.heap.size) 37 [.slice none 0 0, .int .i64 0, .slice none 0 0, .slice none 0 0]) := Lib.hid (HAz12.out.below hbz13)
   have HSz13 : Hid (Blk ((wz12).alloc (.cells (boolsV (List.replicate N false)).toArray 4)) w.heap.size 24 [.slice ga n gc, .int .i64 secs]) := Lib.hid (HSz12.out.below hbz13)
   clear hbz13
   refine rtd 9 ?_
   refine rr1 (i := 11) (h := fun K hK => ?_)
   rw [if_pos (by kernel_rfl)]
   refine wp_store_mid 37 (.tmp 6) (.tmp 22) rfl (w1.heap.size) (0) ([Value.slice aoz11 n cpz11, .int .i64 secs, .slice none 0 0, Value.slice (some ⟨wz12.heap.size, 0, none⟩) N N]).toArray rfl rfl (blk_there HAz13.out (Nat.le_refl 4)) iszDsM (all_oneCell_toArray (dvs_ones _ _ _ _ _ _ _)) ?_
   refine hK.out _ _ ((HSz13.out.away 0 _ (by have := HAGz10.out; have := hsz1; omega))) (fun hScb11 => ?_)
   try simp only [Act.put, z1, z2, z3]
   refine wpAnyH_done (by kernel_rfl) ?_ _
   have HT : Hid (Blk (((wz12).alloc (.cells (boolsV (List.replicate N false)).toArray 4)).setCells (w1.heap.size) 0 [Value.slice aoz11 n cpz11, .int .i64 secs, .slice none 0 0, Value.slice (some ⟨wz12.heap.size, 0, none⟩) N N]) (w1.heap.size) 37 [Value.slice aoz11 n cpz11, .int .i64 secs, .slice none 0 0, Value.slice (some ⟨wz12.heap.size, 0, none⟩) N N] ∧ VnK w ga gc n gs secs N sz (Value.slice aoz11 n cpz11) (Value.slice (some ⟨wz12.heap.size, 0, none⟩) N N) 0 [] (fun _ _ => False) (((wz12).alloc (.cells (boolsV (List.replicate N false)).toArray 4)).setCells (w1.heap.size) 0 [Value.slice aoz11 n cpz11, .int .i64 secs, .slice none 0 0, Value.slice (some ⟨wz12.heap.size, 0, none⟩) N N])) := Lib.hid ⟨HAz13.out.put rfl, VnK.start HSz13.out HD1.out B1.out HBz13.out HCz13.out HMz13.out HAz13.out hsz1 HAGz10.out HMGz13.out (by omega) HCNz11.out⟩
   go_wp2_with fail
   go_meet
   exact ⟨_, _, _, rfl, Lib.hid HT.out.1, Lib.hid HT.out.2, by have := HAGz10.out; omega⟩
 case rest =>
  obtain ⟨g6, vg, va, rfl, HG6, HK0, h6⟩ := hcut
  obtain ⟨al, cl, rfl⟩ := own_form HK0.out.awy
  have c2 : wc.cell? ⟨g6, 3, none⟩ = some (.slice al N cl) := HG6.out.cell 3
  go_wp2_with fail
  clear c2
  go_loopw [26] (fun v wr => ∃ (k : Nat) (vl : Value) (dbs : List Nat) (Fd : Nat → Nat → Prop), k ≤ N ∧ v = .int .i64 (k : Nat) ∧ Hid (Blk wr g6 37 [vg, .int .i64 secs, vl, .slice al N cl]) ∧ Hid (wr.ownsRow w.heap.size 76 1 vl k (ptrsD dbs)) ∧ Hid (VnK w ga gc n gs secs N sz vg (.slice al N cl) k dbs Fd wr)) (fun v _ => N - (intOf v).toNat)
  case atStart => exact ⟨0, _, [], _, by omega, rfl, HG6, Lib.hid (World.ownsRow_nil _ _ _ _), HK0⟩
  case round =>
   obtain ⟨k, vl, dbs, Fd, hk, rfl, BK, OW, KK⟩ := hrel
   clear HG6 HK0
   obtain ⟨mo, mc, rfl⟩ := own_form OW.out
   have HWR : Hid (w.heap.size ≤ wr.heap.size) := Lib.hid KK.out.bel.size
   by_cases hkn : k < N
   ·have q1 : (k : Int) < (N : Int) := by omega
    have c1 : wr.cell? ⟨w.heap.size, 1, none⟩ = some (.int .i64 secs) := KK.out.geo.cell 1
    go_wp2_with fail
    refine (HNW.out _).mono ?_
    rintro e w2 ⟨db, F, rfl, hd, hF, hb2⟩
    have HD := Lib.hid hd
    have HF := Lib.hid hF
    have HB2 := Lib.hid hb2
    clear hd hF hb2
    go_wp2_with fail
    refine (HFR.out _ _ _ HD.out).mono ?_
    rintro e w3 ⟨rfl, F2, hd2, hm2, hn2⟩
    have B3 : Hid (Below wr.heap.size wr w3) := Lib.hid (HB2.out.trans (hm2.toBelow HF.out HB2.out.size))
    have HF2 : Hid (∀ g, F2 g → wr.heap.size ≤ g) := Lib.hid (fun g hg => by
     rcases hn2 g hg with h9 | h9
     ·exact HF.out g h9
     ·have := HB2.out.size; omega)
    have HLT : Hid (∀ i g, i < k → Fd i g → g < wr.heap.size) := Lib.hid (fun i g hi hg => (KK.out.dev i hi).lt g hg)
    have KM := Lib.hid ((KK.out.below B3.out).more hd2 HF2.out HWR.out HLT.out)
    have BK3 := Lib.hid (BK.out.below B3.out)
    have O3 := Lib.hid (owns_below OW.out B3.out)
    have d2 : w3.cell? ⟨g6, 2, none⟩ = some (.slice mo k mc) := BK3.out.cell 2
    have HW3 : Hid (w.heap.size ≤ w3.heap.size) := Lib.hid (Nat.le_trans HWR.out B3.out.size)
    clear hd2 hm2 hn2 c1
    go_wp2_with (at_builtin; go_must (refine wpList_append_own _ rfl (.tmp 38) (.tmp 40) 35 rfl w.heap.size 76 p0 (.pointer none) 1 8 Tryz.underlying35 hp hp0 hp1 hp2 rfl (by decide) (.slice mo k mc) k (ptrsD dbs) rfl (O3.out.alloc _) ⟨w3.heap.size, 0, none⟩ 1 1 (ptrsD [db]) rfl rfl (Blk.news (Blk.newAt (w := w3) 76 (ptrsD [db]) (by simp))) (ptrsD_one _) (by unfold maxLen; omega) (by omega) (by have := HW3.out; simp; omega) ?_; intro v4 w4 hown4 hgrow4 _; rw [← ptrsD_append] at hown4; have BK4 := Lib.hid ((BK3.out.alloc (.cells (ptrsD [db]).toArray 76)).ownKept (O3.out.alloc _) (by decide) hgrow4); have hcb4 := BK4.out.cell 2; have hfb4 := BK4.out.frozen 2; obtain ⟨vo, vc, rfl⟩ := own_form hown4; have O4 := Lib.hid hown4; have G4 := Lib.hid hgrow4; clear hown4 hgrow4))
    have KA := Lib.hid ((KM.out.below ((Below.refl _ _).alloc (Nat.le_refl _) (.cells (ptrsD [db]).toArray 76))).app (O3.out.alloc _) G4.out (Nat.le_refl _) h6 (BK3.out.alloc _) 2 (u := .slice vo (k + 1) vc))
    go_roundw
    case rel => exact ⟨k + 1, _, dbs ++ [db], _, by omega, by go_num, Lib.hid (BK4.out.setCell 2 _), Lib.hid (owns_setOther O4.out BK4.out (by decide)), KA⟩
    case measure => simp [intOf]; omega
   ·have hkn' : k = N := by omega
    subst hkn'
    have q1 : ¬ (k : Int) < (k : Int) := by omega
    obtain ⟨F, hi, hF⟩ := KK.out.fin OW.out (Nat.le_refl _) HL.out.symm HNE.out HSZ.out (by omega) hsec2 (by omega)
    obtain ⟨ao2, cp2, rfl⟩ := own_form KK.out.grp
    have HI := Lib.hid hi
    have HF := Lib.hid hF
    have hr1 : wr.rangeAt g6 0 [.slice ao2 n cp2, .int .i64 secs, .slice mo k mc, .slice al k cl] := range_all BK.out
    have hr2 := KK.out.res
    have l2 := fun (op : Oper) (a : Act) (next : Act → World → Prop) (Q : Exit → Act → World → Prop) => loadW_mid (P := Tryz.prog) (t := 37) hr1 Tryz.underlying37 rfl iszDsM op a next Q
    have s2 := fun (op : Oper) (a : Act) (next : Act → World → Prop) (Q : Exit → Act → World → Prop) => storeW_part (P := Tryz.prog) (t := 37) (o := 0) (cs := [.slice ao2 n cp2, .int .i64 secs, .slice mo k mc, .slice al k cl]) hr2 (Nat.le_refl 4) iszDsM (dvs_ones4 _ _ _ _ _ _ _ _ _ _) op a next Q
    have HBE : Hid (Below w.heap.size w wr) := Lib.hid KK.out.bel
    have HR2 : Hid (Blk (wr.setCells (w.heap.size + 1) 0 [.slice ao2 n cp2, .int .i64 secs, .slice mo k mc, .slice al k cl]) (w.heap.size + 1) 37 [.slice ao2 n cp2, .int .i64 secs, .slice mo k mc, .slice al k cl]) := Lib.hid (hr2.put rfl)
    have HT : Hid (IsDvs (wr.setCells (w.heap.size + 1) 0 [.slice ao2 n cp2, .int .i64 secs, .slice mo k mc, .slice al k cl]) (freshX gs secs sz) ⟨.slice ao2 n cp2, .slice mo k mc, .slice al k cl⟩ F) := Lib.hid (HI.out.keep (fun g hg => (setCells_grown (w.heap.size + 1) _ wr 0).block g (HI.out.lt g hg) (fun e => by
     have e2 := Option.some.inj e
     subst e2
     have h9 := HI.out.type _ hg _ _ _ hr2
     unfold DevTy at h9
     revert h9
     decide)))
    have HBF : Hid (Below w.heap.size w (wr.setCells (w.heap.size + 1) 0 [.slice ao2 n cp2, .int .i64 secs, .slice mo k mc, .slice al k cl])) := Lib.hid (KK.out.bel.grown (setCells_grown _ _ _ _) HBE.out.size (fun k e => by have := Option.some.inj e; omega))
    clear hi hF hr1 hr2
    go_wp2_with fail
    refine bodyPost_ret (results_dvs rfl _ _ (w.heap.size + 1) _ _ _ _ rfl HR2.out) rfl ?_
    exact ⟨_, rfl, F, HT.out, HF.out, HBF.out⟩
end Go.Proofs.YtfaemcfjbbbbdaaGreat
namespace Go.Proofs.YtfaemcfjbbbbdaaGreat
open Go.RowKit
set_option maxRecDepth 100000 in
theorem vnew_no (ga : Option Addr) (n gc : Nat) (gs : Gs) (secs : Int) (w : World) (h : GSl w ga n gc gs) (hr : rightB gs secs = false) :
  Calls Tryz.prog 51 #[.agg #[.slice ga n gc, .int .i64 secs], .int .u8 0] w fun e w' => e = .returned (.tuple #[.agg #[.slice none 0 0, .int .i64 0, .slice none 0 0, .slice none 0 0], .int .i64 1]) ∧ Below w.heap.size w w' := by
 obtain ⟨w0, hw0⟩ : ∃ w0, w0 = (w.alloc (.cells #[.slice ga n gc, .int .i64 secs] 24)).alloc (.cells #[.slice none 0 0, .int .i64 0, .slice none 0 0, .slice none 0 0] 37) := ⟨_, rfl⟩
 have hb0 : Below w.heap.size w w0 := by rw [hw0]; exact ((Below.refl _ _).alloc (Nat.le_refl _) _).alloc (by simp) _
 have hg0 : Blk w0 w.heap.size 24 [.slice ga n gc, .int .i64 secs] := by rw [hw0]; exact (Blk.new w _ _).alloc _
 have hd0 : Blk w0 (w.heap.size + 1) 37 [.slice none 0 0, .int .i64 0, .slice none 0 0, .slice none 0 0] := by rw [hw0]; exact Blk.newAt (w := w.alloc _) _ _ (by simp)
 have hs0 : w0.heap.size = w.heap.size + 2 := by rw [hw0]; simp
 have hRT := gright_any ga n gc gs secs w0 (h.below hb0)
 rw [hr] at hRT
 have HRT := Lib.hid hRT
 have HB0 := Lib.hid hb0
 have HD0 := Lib.hid hd0
 have c0 : w0.cell? ⟨w.heap.size, 0, none⟩ = some (.slice ga n gc) := hg0.cell 0
 have c1 : w0.cell? ⟨w.heap.size, 1, none⟩ = some (.int .i64 secs) := hg0.cell 1
 clear h hr hRT hb0 hg0 hd0
 go_enter Tryz.func51, Tryz.ntmps51
 go_upto_region 1 with fail
 rw [← hw0]
 clear hw0
 go_wp2_with fail
 refine HRT.out.mono ?_
 rintro e w1 ⟨rfl, hb1⟩
 have HD1 := Lib.hid (HD0.out.below hb1)
 have B1 : Hid (Below w.heap.size w w1) := Lib.hid (HB0.out.trans (hb1.mono (by omega)))
 have d0 := HD1.out.cell 0
 have d1 := HD1.out.cell 1
 have d2 := HD1.out.cell 2
 have d3 := HD1.out.cell 3
 have f0 := HD1.out.frozen 0
 have f1 := HD1.out.frozen 1
 have f2 := HD1.out.frozen 2
 have f3 := HD1.out.frozen 3
 have hsz1 : w.heap.size + 2 ≤ w1.heap.size := by have := hb1.size; omega
 clear hb1 c0 c1
 go_wp2_with fail
 refine bodyPost_ret (results_dvs rfl _ _ (w.heap.size + 1) _ _ _ _ rfl ((((HD1.out.setCell 0 _).setCell 1 _).setCell 2 _).setCell 3 _)) rfl ?_
 exact ⟨rfl, (((B1.out.setCell (by show w.heap.size ≤ w.heap.size + 1; omega) _).setCell (by show w.heap.size ≤ w.heap.size + 1; omega) _).setCell (by show w.heap.size ≤ w.heap.size + 1; omega) _).setCell (by show w.heap.size ≤ w.heap.size + 1; omega) _⟩
def devX (gs : Gs) (secs : Int) (al ll : List Bool) (k : Nat) : DvsT := ⟨gs, secs, (List.range (devsN gs)).map (fun i => if i < k ∧ ll.getD i false = true then (freshD secs.toNat 0).lose else freshD secs.toNat 0), (List.range (devsN gs)).map (fun i => decide (i < k) && al.getD i false)⟩
theorem devX_zero (gs : Gs) (secs : Int) (al ll : List Bool) : devX gs secs al ll 0 = freshX gs secs secs.toNat := by
 unfold devX freshX
 congr 1
 ·apply List.ext_getElem <;> simp
 ·apply List.ext_getElem <;> simp
theorem devX_n (gs : Gs) (secs : Int) (al ll : List Bool) (k : Nat) : (devX gs secs al ll k).ds.length = devsN gs ∧ (devX gs secs al ll k).away.length = devsN gs := by
 unfold devX
 simp
theorem devX_succ {gs : Gs} {secs : Int} {al ll : List Bool} {k : Nat} (hk : k < devsN gs) : devX gs secs al ll (k + 1) = ⟨gs, secs, if ll.getD k false = true then (devX gs secs al ll k).ds.set k ((freshD secs.toNat 0).lose) else (devX gs secs al ll k).ds, (devX gs secs al ll k).away.set k (al.getD k false)⟩ := by
 unfold devX
 congr 1
 ·by_cases hl : ll.getD k false = true
  ·rw [if_pos hl]
   apply List.ext_getElem
   ·simp
   ·intro i h1 h2
    simp only [List.length_map, List.length_range] at h1
    rw [List.getElem_set]
    simp only [List.getElem_map, List.getElem_range]
    by_cases e : k = i
    ·subst e; rw [if_pos rfl, if_pos ⟨by omega, hl⟩]
    ·rw [if_neg e]
     by_cases e2 : i < k
     ·simp [e2, Nat.lt_succ_of_lt e2]
     ·have e3 : ¬ i < k + 1 := by omega
      simp [e2, e3]
  ·rw [if_neg hl]
   apply List.ext_getElem
   ·simp
   ·intro i h1 h2
    simp only [List.getElem_map, List.getElem_range]
    by_cases e : k = i
    ·subst e; rw [if_neg (fun h => hl h.2), if_neg (fun h => hl h.2)]
    ·by_cases e2 : i < k
     ·simp [e2, Nat.lt_succ_of_lt e2]
     ·have e3 : ¬ i < k + 1 := by omega
      simp [e2, e3]
 ·apply List.ext_getElem
  ·simp
  ·intro i h1 h2
   simp only [List.length_map, List.length_range] at h1
   rw [List.getElem_set]
   simp only [List.getElem_map, List.getElem_range]
   by_cases e : k = i
   ·subst e; rw [if_pos rfl, decide_eq_true (by omega), Bool.true_and]
   ·rw [if_neg e]
    by_cases e2 : i < k
    ·rw [decide_eq_true e2, decide_eq_true (by omega)]
    ·rw [decide_eq_false e2, decide_eq_false (by omega)]
theorem devX_at {gs : Gs} {secs : Int} {al ll : List Bool} {k : Nat} (hk : k < devsN gs) : (devX gs secs al ll k).ds.getD k dvD = freshD secs.toNat 0 := by
 unfold devX
 simp [List.getD_eq_getElem?_getD, hk]
theorem IsDvs.setAway {w : World} {x : DvsT} {V : DvV} {F : Nat → Prop} {i : Nat} (h : IsDvs w x V F) (hi : i < x.ds.length) (b : Bool) : ∃ ba ca, V.a = .slice (some ⟨ba, 0, none⟩) x.ds.length ca ∧ w.cell? ⟨ba, i, none⟩ = some (.bool (x.away.getD i true)) ∧ w.frozen? ⟨ba, i, none⟩ = false ∧ F ba ∧ IsDvs (w.setCell ⟨ba, i, none⟩ (.bool b)) ⟨x.gs, x.secs, x.ds, x.away.set i b⟩ V F := by
 obtain ⟨dbs, Fd, h, hF⟩ := h
 obtain ⟨ba, ca, e, hc⟩ := h.acell (by omega)
 have ha := h.awy
 rw [e] at ha
 rw [h.n2] at ha
 have hst := ha.stored i (.bool b)
 have hba : V.a.ownBlock = some ba := by rw [e]; rfl
 have hne : ∀ {g : Nat}, g ≠ ba → (w.setCell ⟨ba, i, none⟩ (.bool b)).heap[g]? = w.heap[g]? := fun {g} hg => Below.heap_setCell _ _ _ _ hg
 refine ⟨ba, ca, e, hc i hi, ha.frozenAt i, (hF ba).2 (.inr (.inr (.inl hba))), dbs, Fd, ⟨own_keep h.grp (fun g hg => hne (fun e2 => ?_)), own_keep h.lst (fun g hg => hne (fun e2 => ?_)), ?_, h.n1, by simp [h.n2], fun j hj => (h.dev j hj).keep (fun g hg => hne (fun e2 => ?_)), h.dj, h.dg, h.sec, h.num⟩, fun g => hF g⟩
 ·obtain ⟨c1, f1, h1⟩ := own_type h.grp hg
  obtain ⟨c2, f2, h2⟩ := own_type h.awy hba
  rw [e2, h2] at h1
  simp only [Option.some.injEq, Obj.cells.injEq] at h1
  exact absurd h1.2.1 (by decide)
 ·obtain ⟨c1, f1, h1⟩ := own_type h.lst hg
  obtain ⟨c2, f2, h2⟩ := own_type h.awy hba
  rw [e2, h2] at h1
  simp only [Option.some.injEq, Obj.cells.injEq] at h1
  exact absurd h1.2.1 (by decide)
 ·show (w.setCell ⟨ba, i, none⟩ (.bool b)).ownsRow 0 _ 1 V.a (x.away.set i b).length (boolsV (x.away.set i b))
  rw [List.length_set, h.n2, e]
  have e3 : boolsV (x.away.set i b) = (boolsV x.away).set i (.bool b) := by simp [boolsV, List.map_set]
  rw [e3]
  exact hst.1
 ·exact (h.dg j g hj hg).2.2 (by rw [e2]; exact hba)
theorem vlose_any {w : World} {x : DvsT} {V : DvV} {F : Nat → Prop} {i : Nat} (h : IsDvs w x V F) (hi : i < x.ds.length) : ∃ bl cl db, V.l = .slice (some ⟨bl, 0, none⟩) x.ds.length cl ∧ w.cell? ⟨bl, i, none⟩ = some (.pointer (some ⟨db, 0, none⟩)) ∧ Calls Tryz.prog 52 #[.pointer (some ⟨db, 0, none⟩)] w fun e w' => e = .returned (.tuple #[]) ∧ DvsStep (x.set i (x.ds.getD i dvD).lose) V F w w' := by
 obtain ⟨dbs, Fd, h, hF⟩ := h
 obtain ⟨bl, cl, e, hc⟩ := h.lcell (by omega)
 refine ⟨bl, cl, dbs.getD i 0, e, hc i hi, (dlose_any (h.dev i hi)).mono ?_⟩
 rintro e w' ⟨rfl, hs⟩
 exact ⟨rfl, h.step hF hi hs⟩
def devOk (gs : Gs) (secs : Int) : Bool := rightB gs secs && decide (secs ≤ 200)
def BSl (w : World) (ao : Option Addr) (n cap : Nat) (l : List Bool) : Prop := RSl w 1 ao n cap (boolsV l)
theorem BSl.len {w : World} {ao : Option Addr} {n cap : Nat} {l : List Bool} (h : BSl w ao n cap l) : l.length = n := by
 have := h.1
 simpa [boolsV] using this
theorem BSl.below {w w' : World} {ao : Option Addr} {n cap : Nat} {l : List Bool} (h : BSl w ao n cap l) (hb : Below w.heap.size w w') : BSl w' ao n cap l := RSl.below h hb
theorem BSl.cells {w : World} {ao : Option Addr} {n cap : Nat} {l : List Bool} (h : BSl w ao n cap l) (hn : 0 < n) : ∃ b off, ao = some ⟨b, off, none⟩ ∧ b < w.heap.size ∧ ∀ k, k < n → w.cell? ⟨b, off + k, none⟩ = some (.bool (l.getD k false)) := by
 have hl := h.len
 obtain ⟨b, off, e, hb, hc⟩ := h.2.2.2.2 hn
 refine ⟨b, off, e, hb, fun k hk => ?_⟩
 rw [hc k (by omega)]
 have : k < l.length := by omega
 simp [boolsV, List.getD_eq_getElem?_getD, this]
end Go.Proofs.YtfaemcfjbbbbdaaGreat
namespace Go.Proofs.YtfaemcfjbbbbdaaGreat
open Go.RowKit
attribute [local go_sem ↓] wp_loadDs wp_storeDs
theorem IsDvs.acellK {w : World} {x : DvsT} {V : DvV} {F : Nat → Prop} {i : Nat} (h : IsDvs w x V F) (hi : i < x.ds.length) {ba n ca : Nat} (e : V.a = .slice (some ⟨ba, 0, none⟩) n ca) : w.cell? ⟨ba, i, none⟩ = some (.bool (x.away.getD i true)) := by
 obtain ⟨ba2, ca2, e2, h1, _⟩ := h.setAway hi true
 rw [e] at e2
 simp only [Value.slice.injEq, Option.some.injEq, Addr.mk.injEq, and_true, true_and] at e2
 rw [e2.1]
 exact h1
theorem results_dvs3 {fn : Func} {p u u2 : Tmp} (h : fn.results = #[.cell p 37, .tmp u, .tmp u2]) (tmps : Array Value) (w : World) (g : Nat) (a b c d : Value)
  (hp : tmps.getD p undef = .pointer (some ⟨g, 0, none⟩)) (hg : Blk w g 37 [a, b, c, d]) :
  (results fn tmps).run Tryz.prog w = .ok (.tuple #[.agg #[a, b, c, d], tmps.getD u undef, tmps.getD u2 undef]) w := by
 have hp' : tmps[p]?.getD undef = .pointer (some ⟨g, 0, none⟩) := by simpa using hp
 have e1 := run_loadVar_mid (P := Tryz.prog) w g 0 37 [a, b, c, d] _ (fun j v hv => by rw [Nat.zero_add, hg.cell, hv]) Tryz.underlying37 rfl iszDsM
 simp [results, h, hp', asAddr, e1]
theorem boolsV_append (a b : List Bool) : boolsV (a ++ b) = boolsV a ++ boolsV b := by simp [boolsV]
theorem boolsV_one (l : List Bool) : ∀ u ∈ boolsV l, u.oneCell' = true := by
 intro u hu
 obtain ⟨b, _, rfl⟩ := List.mem_map.1 hu
 rfl
structure DeS (w : World) (gs : Gs) (secs : Int) (N : Nat) (g9 : Nat) (dvl : List Value) (V : DvV) (x : DvsT) (hv : Value) (hs : List Bool) (F : Nat → Prop) (wr : World) : Prop where
 is : IsDvs wr x V F
 fr : ∀ g, F g → w.heap.size ≤ g
 hn : ∀ g, hv.ownBlock = some g → ¬ F g
 row : wr.ownsRow w.heap.size 4 1 hv hs.length (boolsV hs)
 box : Blk wr g9 37 dvl
 res : Blk wr (w.heap.size + 1) 37 [.slice none 0 0, .int .i64 0, .slice none 0 0, .slice none 0 0]
 g9 : w.heap.size + 2 ≤ g9
 bel : Below w.heap.size w wr
section
variable {w : World} {gs : Gs} {secs : Int} {N g9 : Nat} {dvl : List Value} {V : DvV} {x : DvsT} {hv : Value} {hs : List Bool} {F : Nat → Prop} {wr wd : World}
theorem DeS.below (h : DeS w gs secs N g9 dvl V x hv hs F wr) (hb : Below wr.heap.size wr wd) : DeS w gs secs N g9 dvl V x hv hs F wd :=
 ⟨h.is.below hb, h.fr, h.hn, owns_below h.row hb, h.box.below hb, h.res.below hb, h.g9, h.bel.trans (hb.mono h.bel.size)⟩
theorem DeS.notF (h : DeS w gs secs N g9 dvl V x hv hs F wr) {g : Nat} {cs : List Value} (hb : Blk wr g 37 cs) : ¬ F g := fun hf => by
 have := h.is.type g hf _ _ _ hb
 unfold DevTy at this
 revert this
 decide
theorem DeS.away (h : DeS w gs secs N g9 dvl V x hv hs F wr) {i : Nat} (hi : i < x.ds.length) (b : Bool) {ba ca : Nat} (e : V.a = .slice (some ⟨ba, 0, none⟩) x.ds.length ca) : DeS w gs secs N g9 dvl V ⟨x.gs, x.secs, x.ds, x.away.set i b⟩ hv hs F (wr.setCell ⟨ba, i, none⟩ (.bool b)) := by
 obtain ⟨ba2, ca2, e2, h1, h2, h3, h4⟩ := h.is.setAway hi b
 rw [e] at e2
 simp only [Value.slice.injEq, Option.some.injEq, Addr.mk.injEq, and_true, true_and] at e2
 obtain ⟨rfl, rfl⟩ := e2
 have hne : ∀ {g : Nat}, g ≠ ba → (wr.setCell ⟨ba, i, none⟩ (.bool b)).heap[g]? = wr.heap[g]? := fun {g} hg => Below.heap_setCell _ _ _ _ hg
 exact ⟨h4, h.fr, h.hn, own_keep h.row (fun g hg => hne (fun e => h.hn g hg (e ▸ h3))), h.box.other (a := ⟨ba, i, none⟩) (fun e => h.notF h.box (by rw [e]; exact h3)) _, h.res.other (a := ⟨ba, i, none⟩) (fun e => h.notF h.res (by rw [e]; exact h3)) _, h.g9, h.bel.setCell (h.fr ba h3) _⟩
theorem DeS.step {x' : DvsT} (h : DeS w gs secs N g9 dvl V x hv hs F wr) (k : DvsStep x' V F wr wd) : ∃ F', DeS w gs secs N g9 dvl V x' hv hs F' wd := by
 obtain ⟨F', h1, h2, h3, h4⟩ := k
 have hrow : ∀ g, hv.ownBlock = some g → g < wr.heap.size := fun g hg => (h.row.lt g hg).2
 refine ⟨F', h1, fun g hg => ?_, fun g hg hf => ?_, own_keep h.row (fun g hg => h2.block g (hrow g hg) (h.hn g hg)), h2.blk h.box (h.notF h.box), h2.blk h.res (h.notF h.res), h.g9, h.bel.trans (h2.toBelow h.fr h.bel.size)⟩
 ·rcases h3 g hg with h5 | h5
  ·exact h.fr g h5
  ·exact Nat.le_trans h.bel.size h5
 ·rcases h3 g hf with h5 | h5
  ·exact h.hn g hg h5
  ·have := hrow g hg; omega
theorem DeS.app {hv' : Value} {b : Bool} (h : DeS w gs secs N g9 dvl V x hv hs F wr) (hg : wr.grownBy wd hv.ownBlock) (ho : wd.ownsRow w.heap.size 4 1 hv' (hs.length + 1) (boolsV hs ++ boolsV [b])) (hn : ∀ g, hv'.ownBlock = some g → ¬ F g) : DeS w gs secs N g9 dvl V x hv' (hs ++ [b]) F wd := by
 refine ⟨h.is.keep (fun g hf => hg.block g (h.is.lt g hf) (fun e => h.hn g e.symm hf)), h.fr, hn, ?_, h.box.ownKept h.row (by decide) hg, h.res.ownKept h.row (by decide) hg, h.g9, below_own h.bel h.row hg h.bel.size (Nat.le_refl _)⟩
 rw [boolsV_append, List.length_append]
 exact ho
end
set_option maxHeartbeats 1600000 in
set_option maxRecDepth 100000 in
theorem devices_pos (ga : Option Addr) (n gc : Nat) (gs : Gs) (secs : Int) (w : World) (h : GSl w ga n gc gs) (ao : Option Addr) (an ac : Nat) (al : List Bool) (ha : BSl w ao an ac al) (lb lof ln lc : Nat) (ll : List Bool) (hlo : BSl w (some ⟨lb, lof, none⟩) ln lc ll) (hln : 0 < ln) (hok : devOk gs secs = true) :
  Calls Tryz.prog 27 #[.agg #[.slice ga n gc, .int .i64 secs], .slice ao an ac, .slice (some ⟨lb, lof, none⟩) ln lc] w fun e w' => ∃ V F hv, e = .returned (.tuple #[V.val secs, hv, .bool true]) ∧ IsDvs w' (devX gs secs al ll (devsN gs)) V F ∧ (∀ g, F g → w.heap.size ≤ g) ∧ Below w.heap.size w w' := by
 unfold devOk at hok
 rw [Bool.and_eq_true, decide_eq_true_eq] at hok
 obtain ⟨hr, h200⟩ := hok
 have hl := h.len
 have hsp := rightB_spec hr
 have hal := ha.len
 have hll := hlo.len
 obtain ⟨p0, hp, hp0, hp1, hp2⟩ := info_parts infoB1
 obtain ⟨w0, hw0⟩ : ∃ w0, w0 = (w.alloc (.cells #[.slice ga n gc, .int .i64 secs] 24)).alloc (.cells #[.slice none 0 0, .int .i64 0, .slice none 0 0, .slice none 0 0] 37) := ⟨_, rfl⟩
 have hb0 : Below w.heap.size w w0 := by rw [hw0]; exact ((Below.refl _ _).alloc (Nat.le_refl _) _).alloc (by simp) _
 have hg0 : Blk w0 w.heap.size 24 [.slice ga n gc, .int .i64 secs] := by rw [hw0]; exact (Blk.new w _ _).alloc _
 have hd0 : Blk w0 (w.heap.size + 1) 37 [.slice none 0 0, .int .i64 0, .slice none 0 0, .slice none 0 0] := by rw [hw0]; exact Blk.newAt (w := w.alloc _) _ _ (by simp)
 have hs0 : w0.heap.size = w.heap.size + 2 := by rw [hw0]; simp
 have HNV := Lib.hid (vnew_any ga n gc gs secs w0 (h.below hb0) hr)
 have HAL : Hid (∀ W, Below w.heap.size w W → 0 < an → ∃ b off, ao = some ⟨b, off, none⟩ ∧ b < w.heap.size ∧ ∀ k, k < an → W.cell? ⟨b, off + k, none⟩ = some (.bool (al.getD k false))) := Lib.hid (fun W hW h0 => by
  obtain ⟨b, off, e, hb, hc⟩ := ha.cells h0
  exact ⟨b, off, e, hb, fun k hk => by rw [World.cell?_of_block (w := w) (hW.block b hb)]; exact hc k hk⟩)
 have HLO : Hid (∀ W, Below w.heap.size w W → (lb < w.heap.size ∧ ∀ k, k < ln → W.cell? ⟨lb, lof + k, none⟩ = some (.bool (ll.getD k false)))) := Lib.hid (fun W hW => by
  obtain ⟨b, off, e, hb, hc⟩ := hlo.cells hln
  simp only [Option.some.injEq, Addr.mk.injEq, and_true] at e
  obtain ⟨rfl, rfl⟩ := e
  exact ⟨hb, fun k hk => by rw [World.cell?_of_block (w := w) (hW.block lb hb)]; exact hc k hk⟩)
 have HAO : Hid (∀ k, an ≤ k → al.getD k false = false) := Lib.hid (fun k hk => by rw [List.getD_eq_getElem?_getD, List.getElem?_eq_none (by omega)]; rfl)
 have HLL : Hid (∀ k, ln ≤ k → ll.getD k false = false) := Lib.hid (fun k hk => by rw [List.getD_eq_getElem?_getD, List.getElem?_eq_none (by omega)]; rfl)
 obtain ⟨N, hN⟩ : ∃ N, N = devsN gs := ⟨_, rfl⟩
 have hNb : N ≤ 32 := by rw [hN]; exact devsN_bd hr
 have HNE := Lib.hid hN
 have HZE := Lib.hid (devX_zero gs secs al ll)
 have HB0 := Lib.hid hb0
 have HD0 := Lib.hid hd0
 have c0 : w0.cell? ⟨w.heap.size, 0, none⟩ = some (.slice ga n gc) := hg0.cell 0
 have c1 : w0.cell? ⟨w.heap.size, 1, none⟩ = some (.int .i64 secs) := hg0.cell 1
 have q1 : ¬ (100 : Int) < (n : Int) := by omega
 have q2 : ¬ (200 : Int) < secs := by omega
 have hlg := hl
 clear h hr hl hsp hal hll ha hlo hN hb0 hg0 hd0
 go_enter Tryz.func27, Tryz.ntmps27
 go_upto_region 1 with fail
 rw [← hw0]
 clear hw0
 go_wp2_with fail
 refine HNV.out.mono ?_
 rintro e w1 ⟨V, F, rfl, hi1, hF1, hb1⟩
 obtain ⟨vg, vgc, vl, vlc, va, vac, rfl, _⟩ := hi1.form
 rw [show (freshX gs secs secs.toNat).gs = gs from rfl, hlg, show (freshX gs secs secs.toNat).ds.length = N from by rw [HNE.out]; simp [freshX]] at hi1 ⊢
 have hval : (DvV.mk (.slice vg n vgc) (.slice vl N vlc) (.slice va N vac)).val secs = .agg #[.slice vg n vgc, .int .i64 secs, .slice vl N vlc, .slice va N vac] := rfl
 rw [hval]
 have B1 : Below w.heap.size w w1 := HB0.out.trans (hb1.mono (by omega))
 have hsz1 : w.heap.size + 2 ≤ w1.heap.size := by have := hb1.size; omega
 have hs1 : DeS w gs secs N w1.heap.size [.slice vg n vgc, .int .i64 secs, .slice vl N vlc, .slice va N vac] ⟨.slice vg n vgc, .slice vl N vlc, .slice va N vac⟩ (devX gs secs al ll 0) (.slice none 0 0) [] F ((w1.alloc (.cells #[.slice none 0 0, .int .i64 0, .slice none 0 0, .slice none 0 0] 37)).setCells w1.heap.size 0 [.slice vg n vgc, .int .i64 secs, .slice vl N vlc, .slice va N vac]) := by
  have hC : Below w1.heap.size w1 ((w1.alloc (.cells #[.slice none 0 0, .int .i64 0, .slice none 0 0, .slice none 0 0] 37)).setCells w1.heap.size 0 [.slice vg n vgc, .int .i64 secs, .slice vl N vlc, .slice va N vac]) := ((Below.refl _ _).alloc (Nat.le_refl _) _).grown (setCells_grown _ _ _ _) (by simp) (fun k e => by have := Option.some.inj e; omega)
  refine ⟨by rw [HZE.out]; exact hi1.below hC, (fun g hg => by have := hF1 g hg; omega), (fun g hg => by cases hg), World.ownsRow_nil _ _ _ _, (Blk.new w1 _ [.slice none 0 0, .int .i64 0, .slice none 0 0, .slice none 0 0]).put rfl, (HD0.out.below hb1).below hC, hsz1, B1.trans (hC.mono B1.size)⟩
 have HS1 := Lib.hid hs1
 have s1 := fun (op : Oper) (a : Act) (next : Act → World → Prop) (Q : Exit → Act → World → Prop) => storeW_part (P := Tryz.prog) (t := 37) (o := 0) (cs := [.slice vg n vgc, .int .i64 secs, .slice vl N vlc, .slice va N vac]) (Blk.new w1 37 [.slice none 0 0, .int .i64 0, .slice none 0 0, .slice none 0 0]) (Nat.le_refl 4) iszDsM (dvs_ones4 _ _ _ _ _ _ _ _ _ _) op a next Q
 clear hi1 hF1 hb1 hs1 c0 c1 hval B1 HZE HNV HD0
 go_upto_region 7 with fail
 obtain ⟨w2, hw2⟩ : ∃ w2, w2 = ((w1.alloc (.cells #[.slice none 0 0, .int .i64 0, .slice none 0 0, .slice none 0 0] 37)).setCells w1.heap.size 0 [.slice vg n vgc, .int .i64 secs, .slice vl N vlc, .slice va N vac]) := ⟨_, rfl⟩
 obtain ⟨g9, hg9⟩ : ∃ g9, g9 = w1.heap.size := ⟨_, rfl⟩
 have HS2 : Hid (DeS w gs secs N g9 [.slice vg n vgc, .int .i64 secs, .slice vl N vlc, .slice va N vac] ⟨.slice vg n vgc, .slice vl N vlc, .slice va N vac⟩ (devX gs secs al ll 0) (.slice none 0 0) [] F w2) := Lib.hid (by rw [hw2, hg9]; exact HS1.out)
 rw [← hw2, ← hg9]
 clear hw2 hg9 HS1 s1
 have b2 : w2.cell? ⟨g9, 2, none⟩ = some (.slice vl N vlc) := HS2.out.box.cell 2
 go_wp2_with fail
 clear b2
 go_loopw [11, 12] (fun vh vi wr => ∃ (k : Nat) (hv : Value) (hs : List Bool) (F : Nat → Prop), k ≤ N ∧ vi = .int .i64 (k : Nat) ∧ vh = hv ∧ hs.length = k ∧ Hid (DeS w gs secs N g9 [.slice vg n vgc, .int .i64 secs, .slice vl N vlc, .slice va N vac] ⟨.slice vg n vgc, .slice vl N vlc, .slice va N vac⟩ (devX gs secs al ll k) hv hs F wr)) (fun _ vi _ => N - (intOf vi).toNat)
 case atStart => exact ⟨0, _, [], F, by omega, rfl, rfl, rfl, HS2⟩
 case round =>
  obtain ⟨k, hv, hs, F2, hk, rfl, rfl, hsl, HR⟩ := hrel
  clear HS2
  obtain ⟨ho, hc, rfl⟩ := own_form HR.out.row
  rw [hsl] at HR ⊢
  have HSL := Lib.hid hsl
  clear hsl
  have b2 : wr.cell? ⟨g9, 2, none⟩ = some (.slice vl N vlc) := HR.out.box.cell 2
  by_cases hkn : k < N
  ·have q1 : (k : Int) < (N : Int) := by omega
   have q0 : 0 ≤ (k : Int) := by omega
   have HLN : Hid ((devX gs secs al ll k).ds.length = N) := Lib.hid (by rw [(devX_n gs secs al ll k).1, HNE.out])
   obtain ⟨ba, ca, ea, a1, a2, a3, _⟩ := HR.out.is.setAway (i := k) (by rw [HLN.out]; exact hkn) (al.getD k false)
   have HEA : Hid ((Value.slice va N vac) = .slice (some ⟨ba, 0, none⟩) N vac) := Lib.hid (by
    rw [HLN.out] at ea
    have e2 : Value.slice va N vac = .slice (some ⟨ba, 0, none⟩) N ca := ea
    simp only [Value.slice.injEq, true_and] at e2
    rw [e2.1])
   have b3 : wr.cell? ⟨g9, 3, none⟩ = some (.slice (some ⟨ba, 0, none⟩) N vac) := by rw [← HEA.out]; exact HR.out.box.cell 3
   have HAW : Hid (DeS w gs secs N g9 [.slice vg n vgc, .int .i64 secs, .slice vl N vlc, .slice va N vac] ⟨.slice vg n vgc, .slice vl N vlc, .slice va N vac⟩ ⟨gs, secs, (devX gs secs al ll k).ds, (devX gs secs al ll k).away.set k (al.getD k false)⟩ (.slice ho k hc) hs F2 (wr.setCell ⟨ba, k, none⟩ (.bool (al.getD k false))).drew) := Lib.hid ((HR.out.away (by rw [HLN.out]; exact hkn) _ (by rw [HLN.out]; exact HEA.out)).below (Below.refl _ _).drew)
   have HBA := Lib.hid (HR.out.fr ba a3)
   obtain ⟨av, hav⟩ : ∃ av, av = al.getD k false := ⟨_, rfl⟩
   rw [← hav] at HAW
   have HAV := Lib.hid hav
   have c3 : wr.drew.cell? ⟨ba, k, none⟩ = some (.bool ((devX gs secs al ll k).away.getD k true)) := a1
   have f3 : wr.drew.frozen? ⟨ba, k, none⟩ = false := a2
   clear ea a1 a2 a3 hav
   have HRB : Hid (Below w.heap.size w wr) := Lib.hid HR.out.bel
   have HBX : Hid (Blk wr g9 37 [.slice vg n vgc, .int .i64 secs, .slice vl N vlc, .slice va N vac]) := Lib.hid HR.out.box
   go_upto_region 10 with fail
   go_cut [11] (fun vh wx => vh = .slice ho k hc ∧ Hid (DeS w gs secs N g9 [.slice vg n vgc, .int .i64 secs, .slice vl N vlc, .slice va N vac] ⟨.slice vg n vgc, .slice vl N vlc, .slice va N vac⟩ ⟨gs, secs, (devX gs secs al ll k).ds, (devX gs secs al ll k).away.set k av⟩ (.slice ho k hc) hs F2 wx))
   case first =>
    by_cases hka : k < an
    ·have q3 : (k : Int) < (an : Int) := by omega
     obtain ⟨ab, aof, eao, hab, hac⟩ := HAL.out wr.drew HRB.out.drew (by omega)
     have hS0 : Blk wr.drew g9 37 [.slice vg n vgc, .int .i64 secs, .slice vl N vlc, .slice va N vac] ∧ wr.drew.cell? ⟨ab, aof + k, none⟩ = some (.bool av) := ⟨HBX.out, by rw [HAV.out]; exact hac k hka⟩
     have HCA : Hid ((wr.setCell ⟨ba, k, none⟩ (.bool av)).drew.cell? ⟨ab, aof + k, none⟩ = some (.bool av)) := Lib.hid (by
      have e9 : (wr.setCell ⟨ba, k, none⟩ (.bool av)).drew.heap[ab]? = wr.heap[ab]? := Below.heap_setCell _ _ _ _ (show ab ≠ ba by have := HBA.out; omega)
      rw [World.cell?_of_block (w := wr) e9]; exact hS0.2)
     clear hac
     have HEAO := Lib.hid eao
     clear eao
     refine wp_region_held_drew (S := fun W => Blk W g9 37 [.slice vg n vgc, .int .i64 secs, .slice vl N vlc, .slice va N vac] ∧ W.cell? ⟨ab, aof + k, none⟩ = some (.bool av)) (by kernel_rfl) hS0 (fun hS0 => ?_)
     refine rtd 0 ?_
     refine rtv (i := 1) (v := ?va1) (hy := ?ya1) (h := ?_)
     case ya1 => intro w hSw; (try dsimp only at hSw); go_simp; rw [hSw.1.cell 3]; dsimp only [List.getElem?_cons_succ, List.getElem?_cons_zero]; rw [HEA.out]; rfl
     try simp only [Act.put, z1, z2, z3]
     refine rtd 2 ?_; refine rtd 3 ?_; refine rtd 4 ?_; refine rtd 5 ?_
     refine rtv (i := 6) (v := ?va6) (hy := ?ya6) (h := ?_)
     case ya6 => intro w hSw; (try dsimp only at hSw); go_simp; first | rfl | (rw [decide_eq_true q3])
     try simp only [Act.put, z1, z2, z3]
     refine rtd 7 ?_
     refine rtv (i := 8) (v := ?va8) (hy := ?ya8) (h := ?_)
     case ya8 => intro w hSw; (try dsimp only at hSw); go_simp; rw [HEAO.out]
     try simp only [Act.put, z1, z2, z3]
     refine rtd 9 ?_; refine rtd 10 ?_; refine rtd 11 ?_; refine rtd 12 ?_; refine rtd 13 ?_
     refine rr1 (i := 14) (h := fun K hK => ?_)
     go_simp
     skip
     refine hK.out _ _ (⟨HAW.out.box, HCA.out⟩) (fun hSa14 => ?_)
     try simp only [Act.put, z1, z2, z3]
     refine wpAnyH_done (by kernel_rfl) ?_ _
     go_wp2_with fail
     go_meet
     exact ⟨rfl, HAW.out⟩
    ·have q3 : ¬ (k : Int) < (an : Int) := by omega
     have HAF : Hid (av = false) := Lib.hid (by rw [HAV.out]; exact HAO.out k (by omega))
     have e9 := HAF.out
     clear HAF
     subst e9
     have hS0 : Blk wr.drew g9 37 [.slice vg n vgc, .int .i64 secs, .slice vl N vlc, .slice va N vac] := HBX.out
     refine wp_region_held_drew (S := fun W => Blk W g9 37 [.slice vg n vgc, .int .i64 secs, .slice vl N vlc, .slice va N vac]) (by kernel_rfl) hS0 (fun hS0 => ?_)
     refine rtd 0 ?_
     refine rtv (i := 1) (v := ?vb1) (hy := ?yb1) (h := ?_)
     case yb1 => intro w hSw; (try dsimp only at hSw); go_simp; rw [hSw.cell 3]; dsimp only [List.getElem?_cons_succ, List.getElem?_cons_zero]; rw [HEA.out]; rfl
     try simp only [Act.put, z1, z2, z3]
     refine rtd 2 ?_; refine rtd 3 ?_; refine rtd 4 ?_; refine rtd 5 ?_
     refine rtv (i := 6) (v := ?vb6) (hy := ?yb6) (h := ?_)
     case yb6 => intro w hSw; (try dsimp only at hSw); go_simp; first | rfl | (rw [decide_eq_false q3])
     try simp only [Act.put, z1, z2, z3]
     refine rtd 7 ?_; refine rtn 8 ?_; refine rtn 9 ?_; refine rtn 10 ?_; refine rtn 11 ?_; refine rtd 12 ?_; refine rtd 13 ?_
     refine rr1 (i := 14) (h := fun K hK => ?_)
     go_simp
     skip
     refine hK.out _ _ (HAW.out.box) (fun hSb14 => ?_)
     try simp only [Act.put, z1, z2, z3]
     refine wpAnyH_done (by kernel_rfl) ?_ _
     go_wp2_with fail
     go_meet
     exact ⟨rfl, HAW.out⟩
   case rest =>
    obtain ⟨rfl, HT⟩ := hcut
    have HTB : Hid (Below w.heap.size w wc) := Lib.hid HT.out.bel
    have d2 : wc.cell? ⟨g9, 2, none⟩ = some (.slice vl N vlc) := HT.out.box.cell 2
    have d3 : wc.cell? ⟨g9, 3, none⟩ = some (.slice (some ⟨ba, 0, none⟩) N vac) := by rw [← HEA.out]; exact HT.out.box.cell 3
    have HLA : Hid (k < N) := Lib.hid hkn
    have da : wc.cell? ⟨ba, k, none⟩ = some (.bool av) := by
     have h9 := HT.out.is
     obtain ⟨ba2, ca2, e2, h1, _⟩ := h9.setAway (i := k) (by show k < (devX gs secs al ll k).ds.length; rw [HLN.out]; exact hkn) true
     have e3 : Value.slice va N vac = .slice (some ⟨ba2, 0, none⟩) (devX gs secs al ll k).ds.length ca2 := e2
     rw [HEA.out] at e3
     simp only [Value.slice.injEq, Option.some.injEq, Addr.mk.injEq, and_true, true_and] at e3
     rw [e3.1, h1]
     show some (Value.bool (((devX gs secs al ll k).away.set k av).getD k true)) = _
     rw [List.getD_eq_getElem?_getD, List.getElem?_set_self (by rw [(devX_n gs secs al ll k).2, ← HNE.out]; exact hkn)]
     rfl
    clear b2 b3 c3 f3 HAW HBA HRB HBX HR
    by_cases hkl : k < ln
    ·have q5 : (k : Int) < (ln : Int) := by omega
     obtain ⟨hlb, hlc⟩ := HLO.out wc HTB.out
     have dl := hlc k hkl
     obtain ⟨lv, hlv⟩ : ∃ lv, lv = ll.getD k false := ⟨_, rfl⟩
     rw [← hlv] at dl
     have HLV := Lib.hid hlv
     have HLB := Lib.hid hlb
     clear hlc hlv hlb
     cases lv with
     | true =>
      obtain ⟨bl, cl, db, e1, e2, e3⟩ := vlose_any HT.out.is (i := k) (by show k < (devX gs secs al ll k).ds.length; rw [HLN.out]; exact hkn)
      have HLE : Hid (Value.slice vl N vlc = .slice (some ⟨bl, 0, none⟩) N vlc) := Lib.hid (by
       have e4 : Value.slice vl N vlc = .slice (some ⟨bl, 0, none⟩) (devX gs secs al ll k).ds.length cl := e1
       rw [(Value.slice.inj e4).1])
      rw [HLE.out] at d2
      have HLC := Lib.hid e3
      have HXE : Hid (((⟨gs, secs, (devX gs secs al ll k).ds, (devX gs secs al ll k).away.set k av⟩ : DvsT).set k ((⟨gs, secs, (devX gs secs al ll k).ds, (devX gs secs al ll k).away.set k av⟩ : DvsT).ds.getD k dvD).lose) = devX gs secs al ll (k + 1)) := Lib.hid (by
       have hkd : k < devsN gs := by rw [← HNE.out]; exact HLA.out
       have e9 := devX_succ (gs := gs) (secs := secs) (al := al) (ll := ll) hkd
       rw [← HLV.out, ← HAV.out] at e9
       rw [e9]
       unfold DvsT.set
       dsimp only
       rw [devX_at hkd, if_pos rfl])
      clear e1 e3
      go_wp2_with fail
      refine HLC.out.mono ?_
      rintro e w5 ⟨rfl, hst⟩
      obtain ⟨F5, ht5⟩ := HT.out.step hst
      rw [HXE.out] at ht5
      have HT5 := Lib.hid ht5
      have da5 : w5.cell? ⟨ba, k, none⟩ = some (.bool av) := by
       have h9 := ht5.is.acellK (i := k) (ba := ba) (n := N) (ca := vac) (by rw [(devX_n gs secs al ll (k + 1)).1, ← HNE.out]; exact HLA.out) HEA.out
       rw [h9, devX_succ (by rw [← HNE.out]; exact HLA.out)]
       show some (Value.bool (((devX gs secs al ll k).away.set k (al.getD k false)).getD k true)) = _
       rw [← HAV.out, List.getD_eq_getElem?_getD, List.getElem?_set_self (by rw [(devX_n gs secs al ll k).2, ← HNE.out]; exact HLA.out)]
       rfl
      have d35 : w5.cell? ⟨g9, 3, none⟩ = some (.slice (some ⟨ba, 0, none⟩) N vac) := by rw [← HEA.out]; exact ht5.box.cell 3
      have dl5 : w5.cell? ⟨lb, lof + k, none⟩ = some (.bool true) := by
       have h9 := (HLO.out w5 ht5.bel).2 k hkl
       rw [← HLV.out] at h9
       exact h9
      have d25 : w5.cell? ⟨g9, 2, none⟩ = some (.slice vl N vlc) := ht5.box.cell 2
      clear hst ht5 d2 d3 da dl e2
      cases av with
      | true =>
       have HRW : Hid (∀ o, (w5.alloc o).ownsRow w.heap.size 4 1 (.slice ho k hc) k (boolsV hs)) := Lib.hid (fun o => by rw [← HSL.out]; have h9 := HT5.out.row; rw [HSL.out]; rw [HSL.out] at h9; exact h9.alloc o)
       have m1 : w.heap.size ≤ w5.heap.size := HT5.out.bel.size
       go_wp2_with (at_builtin; go_must (refine wpList_append_own_at _ rfl (.tmp 68) (.tmp 88) 29 rfl w.heap.size 4 p0 (.bool false) 1 1 Tryz.underlying29 hp hp0 hp1 hp2 rfl (by decide) (.slice ho k hc) k (boolsV hs) rfl (HRW.out _) ⟨w5.heap.size, 0, none⟩ 1 1 (boolsV [false]) rfl rfl (Blk.news (Blk.newAt (w := w5) 4 (boolsV [false]) (by simp))) (boolsV_one _) (by unfold maxLen; omega) (by omega) (by simp; omega) ?_; intro v4 w4 hown4 hgrow4 _ hfr4; have O4 := Lib.hid hown4; have G4 := Lib.hid hgrow4; have N4 := Lib.hid hfr4; clear hown4 hgrow4 hfr4))
       have HN4 : Hid (∀ g, v4.ownBlock = some g → ¬ F5 g) := Lib.hid (fun g hg hf => by
        have hlt := HT5.out.is.lt g hf
        rcases N4.out with h9 | h9
        ·exact HT5.out.hn g (by rw [← h9]; exact hg) hf
        ·rw [h9] at hg; have := Option.some.inj hg; simp at this; omega)
       have DS : Hid (DeS w gs secs N g9 [.slice vg n vgc, .int .i64 secs, .slice vl N vlc, .slice va N vac] ⟨.slice vg n vgc, .slice vl N vlc, .slice va N vac⟩ (devX gs secs al ll (k + 1)) v4 (hs ++ [false]) F5 w4) := Lib.hid ((HT5.out.below ((Below.refl _ _).alloc (Nat.le_refl _) (.cells (boolsV [false]).toArray 4))).app G4.out (by rw [HSL.out]; exact O4.out) HN4.out)
       go_roundw
       case rel => exact ⟨k + 1, v4, hs ++ [false], F5, by omega, by go_num, rfl, by simp [HSL.out], DS⟩
       case measure => simp [intOf]; omega
      | false =>
       have HRW : Hid (∀ o, (w5.alloc o).ownsRow w.heap.size 4 1 (.slice ho k hc) k (boolsV hs)) := Lib.hid (fun o => by rw [← HSL.out]; have h9 := HT5.out.row; rw [HSL.out]; rw [HSL.out] at h9; exact h9.alloc o)
       have m1 : w.heap.size ≤ w5.heap.size := HT5.out.bel.size
       go_wp2_with (at_builtin; go_must (refine wpList_append_own_at _ rfl (.tmp 68) (.tmp 88) 29 rfl w.heap.size 4 p0 (.bool false) 1 1 Tryz.underlying29 hp hp0 hp1 hp2 rfl (by decide) (.slice ho k hc) k (boolsV hs) rfl (HRW.out _) ⟨w5.heap.size, 0, none⟩ 1 1 (boolsV [false]) rfl rfl (Blk.news (Blk.newAt (w := w5) 4 (boolsV [false]) (by simp))) (boolsV_one _) (by unfold maxLen; omega) (by omega) (by simp; omega) ?_; intro v4 w4 hown4 hgrow4 _ hfr4; have O4 := Lib.hid hown4; have G4 := Lib.hid hgrow4; have N4 := Lib.hid hfr4; clear hown4 hgrow4 hfr4))
       have HN4 : Hid (∀ g, v4.ownBlock = some g → ¬ F5 g) := Lib.hid (fun g hg hf => by
        have hlt := HT5.out.is.lt g hf
        rcases N4.out with h9 | h9
        ·exact HT5.out.hn g (by rw [← h9]; exact hg) hf
        ·rw [h9] at hg; have := Option.some.inj hg; simp at this; omega)
       have DS : Hid (DeS w gs secs N g9 [.slice vg n vgc, .int .i64 secs, .slice vl N vlc, .slice va N vac] ⟨.slice vg n vgc, .slice vl N vlc, .slice va N vac⟩ (devX gs secs al ll (k + 1)) v4 (hs ++ [false]) F5 w4) := Lib.hid ((HT5.out.below ((Below.refl _ _).alloc (Nat.le_refl _) (.cells (boolsV [false]).toArray 4))).app G4.out (by rw [HSL.out]; exact O4.out) HN4.out)
       go_roundw
       case rel => exact ⟨k + 1, v4, hs ++ [false], F5, by omega, by go_num, rfl, by simp [HSL.out], DS⟩
       case measure => simp [intOf]; omega
     | false =>
      have HXE : Hid ((⟨gs, secs, (devX gs secs al ll k).ds, (devX gs secs al ll k).away.set k av⟩ : DvsT) = devX gs secs al ll (k + 1)) := Lib.hid (by rw [devX_succ (by rw [← HNE.out]; exact HLA.out), ← HLV.out, ← HAV.out]; rfl)
      rw [HXE.out] at HT
      cases av with
      | true =>
       have HRW : Hid (∀ o, (wc.alloc o).ownsRow w.heap.size 4 1 (.slice ho k hc) k (boolsV hs)) := Lib.hid (fun o => by rw [← HSL.out]; have h9 := HT.out.row; rw [HSL.out]; rw [HSL.out] at h9; exact h9.alloc o)
       have m1 : w.heap.size ≤ wc.heap.size := HT.out.bel.size
       go_wp2_with (at_builtin; go_must (refine wpList_append_own_at _ rfl (.tmp 68) (.tmp 88) 29 rfl w.heap.size 4 p0 (.bool false) 1 1 Tryz.underlying29 hp hp0 hp1 hp2 rfl (by decide) (.slice ho k hc) k (boolsV hs) rfl (HRW.out _) ⟨wc.heap.size, 0, none⟩ 1 1 (boolsV [false]) rfl rfl (Blk.news (Blk.newAt (w := wc) 4 (boolsV [false]) (by simp))) (boolsV_one _) (by unfold maxLen; omega) (by omega) (by simp; omega) ?_; intro v4 w4 hown4 hgrow4 _ hfr4; have O4 := Lib.hid hown4; have G4 := Lib.hid hgrow4; have N4 := Lib.hid hfr4; clear hown4 hgrow4 hfr4))
       have HN4 : Hid (∀ g, v4.ownBlock = some g → ¬ F2 g) := Lib.hid (fun g hg hf => by
        have hlt := HT.out.is.lt g hf
        rcases N4.out with h9 | h9
        ·exact HT.out.hn g (by rw [← h9]; exact hg) hf
        ·rw [h9] at hg; have := Option.some.inj hg; simp at this; omega)
       have DS : Hid (DeS w gs secs N g9 [.slice vg n vgc, .int .i64 secs, .slice vl N vlc, .slice va N vac] ⟨.slice vg n vgc, .slice vl N vlc, .slice va N vac⟩ (devX gs secs al ll (k + 1)) v4 (hs ++ [false]) F2 w4) := Lib.hid ((HT.out.below ((Below.refl _ _).alloc (Nat.le_refl _) (.cells (boolsV [false]).toArray 4))).app G4.out (by rw [HSL.out]; exact O4.out) HN4.out)
       go_roundw
       case rel => exact ⟨k + 1, v4, hs ++ [false], F2, by omega, by go_num, rfl, by simp [HSL.out], DS⟩
       case measure => simp [intOf]; omega
      | false =>
       have HRW : Hid (∀ o, (wc.alloc o).ownsRow w.heap.size 4 1 (.slice ho k hc) k (boolsV hs)) := Lib.hid (fun o => by rw [← HSL.out]; have h9 := HT.out.row; rw [HSL.out]; rw [HSL.out] at h9; exact h9.alloc o)
       have m1 : w.heap.size ≤ wc.heap.size := HT.out.bel.size
       go_wp2_with (at_builtin; go_must (refine wpList_append_own_at _ rfl (.tmp 68) (.tmp 88) 29 rfl w.heap.size 4 p0 (.bool false) 1 1 Tryz.underlying29 hp hp0 hp1 hp2 rfl (by decide) (.slice ho k hc) k (boolsV hs) rfl (HRW.out _) ⟨wc.heap.size, 0, none⟩ 1 1 (boolsV [true]) rfl rfl (Blk.news (Blk.newAt (w := wc) 4 (boolsV [true]) (by simp))) (boolsV_one _) (by unfold maxLen; omega) (by omega) (by simp; omega) ?_; intro v4 w4 hown4 hgrow4 _ hfr4; have O4 := Lib.hid hown4; have G4 := Lib.hid hgrow4; have N4 := Lib.hid hfr4; clear hown4 hgrow4 hfr4))
       have HN4 : Hid (∀ g, v4.ownBlock = some g → ¬ F2 g) := Lib.hid (fun g hg hf => by
        have hlt := HT.out.is.lt g hf
        rcases N4.out with h9 | h9
        ·exact HT.out.hn g (by rw [← h9]; exact hg) hf
        ·rw [h9] at hg; have := Option.some.inj hg; simp at this; omega)
       have DS : Hid (DeS w gs secs N g9 [.slice vg n vgc, .int .i64 secs, .slice vl N vlc, .slice va N vac] ⟨.slice vg n vgc, .slice vl N vlc, .slice va N vac⟩ (devX gs secs al ll (k + 1)) v4 (hs ++ [true]) F2 w4) := Lib.hid ((HT.out.below ((Below.refl _ _).alloc (Nat.le_refl _) (.cells (boolsV [true]).toArray 4))).app G4.out (by rw [HSL.out]; exact O4.out) HN4.out)
       go_roundw
       case rel => exact ⟨k + 1, v4, hs ++ [true], F2, by omega, by go_num, rfl, by simp [HSL.out], DS⟩
       case measure => simp [intOf]; omega
    ·have q5 : ¬ (k : Int) < (ln : Int) := by omega
     have HXE : Hid ((⟨gs, secs, (devX gs secs al ll k).ds, (devX gs secs al ll k).away.set k av⟩ : DvsT) = devX gs secs al ll (k + 1)) := Lib.hid (by rw [devX_succ (by rw [← HNE.out]; exact HLA.out), HLL.out k (by omega), ← HAV.out]; rfl)
     rw [HXE.out] at HT
     cases av with
     | true =>
      have HRW : Hid (∀ o, (wc.alloc o).ownsRow w.heap.size 4 1 (.slice ho k hc) k (boolsV hs)) := Lib.hid (fun o => by rw [← HSL.out]; have h9 := HT.out.row; rw [HSL.out]; rw [HSL.out] at h9; exact h9.alloc o)
      have m1 : w.heap.size ≤ wc.heap.size := HT.out.bel.size
      go_wp2_with (at_builtin; go_must (refine wpList_append_own_at _ rfl (.tmp 68) (.tmp 88) 29 rfl w.heap.size 4 p0 (.bool false) 1 1 Tryz.underlying29 hp hp0 hp1 hp2 rfl (by decide) (.slice ho k hc) k (boolsV hs) rfl (HRW.out _) ⟨wc.heap.size, 0, none⟩ 1 1 (boolsV [false]) rfl rfl (Blk.news (Blk.newAt (w := wc) 4 (boolsV [false]) (by simp))) (boolsV_one _) (by unfold maxLen; omega) (by omega) (by simp; omega) ?_; intro v4 w4 hown4 hgrow4 _ hfr4; have O4 := Lib.hid hown4; have G4 := Lib.hid hgrow4; have N4 := Lib.hid hfr4; clear hown4 hgrow4 hfr4))
      have HN4 : Hid (∀ g, v4.ownBlock = some g → ¬ F2 g) := Lib.hid (fun g hg hf => by
       have hlt := HT.out.is.lt g hf
       rcases N4.out with h9 | h9
       ·exact HT.out.hn g (by rw [← h9]; exact hg) hf
       ·rw [h9] at hg; have := Option.some.inj hg; simp at this; omega)
      have DS : Hid (DeS w gs secs N g9 [.slice vg n vgc, .int .i64 secs, .slice vl N vlc, .slice va N vac] ⟨.slice vg n vgc, .slice vl N vlc, .slice va N vac⟩ (devX gs secs al ll (k + 1)) v4 (hs ++ [false]) F2 w4) := Lib.hid ((HT.out.below ((Below.refl _ _).alloc (Nat.le_refl _) (.cells (boolsV [false]).toArray 4))).app G4.out (by rw [HSL.out]; exact O4.out) HN4.out)
      go_roundw
      case rel => exact ⟨k + 1, v4, hs ++ [false], F2, by omega, by go_num, rfl, by simp [HSL.out], DS⟩
      case measure => simp [intOf]; omega
     | false =>
      have HRW : Hid (∀ o, (wc.alloc o).ownsRow w.heap.size 4 1 (.slice ho k hc) k (boolsV hs)) := Lib.hid (fun o => by rw [← HSL.out]; have h9 := HT.out.row; rw [HSL.out]; rw [HSL.out] at h9; exact h9.alloc o)
      have m1 : w.heap.size ≤ wc.heap.size := HT.out.bel.size
      go_wp2_with (at_builtin; go_must (refine wpList_append_own_at _ rfl (.tmp 68) (.tmp 88) 29 rfl w.heap.size 4 p0 (.bool false) 1 1 Tryz.underlying29 hp hp0 hp1 hp2 rfl (by decide) (.slice ho k hc) k (boolsV hs) rfl (HRW.out _) ⟨wc.heap.size, 0, none⟩ 1 1 (boolsV [true]) rfl rfl (Blk.news (Blk.newAt (w := wc) 4 (boolsV [true]) (by simp))) (boolsV_one _) (by unfold maxLen; omega) (by omega) (by simp; omega) ?_; intro v4 w4 hown4 hgrow4 _ hfr4; have O4 := Lib.hid hown4; have G4 := Lib.hid hgrow4; have N4 := Lib.hid hfr4; clear hown4 hgrow4 hfr4))
      have HN4 : Hid (∀ g, v4.ownBlock = some g → ¬ F2 g) := Lib.hid (fun g hg hf => by
       have hlt := HT.out.is.lt g hf
       rcases N4.out with h9 | h9
       ·exact HT.out.hn g (by rw [← h9]; exact hg) hf
       ·rw [h9] at hg; have := Option.some.inj hg; simp at this; omega)
      have DS : Hid (DeS w gs secs N g9 [.slice vg n vgc, .int .i64 secs, .slice vl N vlc, .slice va N vac] ⟨.slice vg n vgc, .slice vl N vlc, .slice va N vac⟩ (devX gs secs al ll (k + 1)) v4 (hs ++ [true]) F2 w4) := Lib.hid ((HT.out.below ((Below.refl _ _).alloc (Nat.le_refl _) (.cells (boolsV [true]).toArray 4))).app G4.out (by rw [HSL.out]; exact O4.out) HN4.out)
      go_roundw
      case rel => exact ⟨k + 1, v4, hs ++ [true], F2, by omega, by go_num, rfl, by simp [HSL.out], DS⟩
      case measure => simp [intOf]; omega
  ·have hkn' : k = N := by omega
   subst hkn'
   have q1 : ¬ (k : Int) < (k : Int) := by omega
   have l2 := fun (op : Oper) (a : Act) (next : Act → World → Prop) (Q : Exit → Act → World → Prop) => loadW_mid (P := Tryz.prog) (t := 37) (range_all HR.out.box) Tryz.underlying37 rfl iszDsM op a next Q
   have s2 := fun (op : Oper) (a : Act) (next : Act → World → Prop) (Q : Exit → Act → World → Prop) => storeW_part (P := Tryz.prog) (t := 37) (o := 0) (cs := [.slice vg n vgc, .int .i64 secs, .slice vl k vlc, .slice va k vac]) HR.out.res (Nat.le_refl 4) iszDsM (dvs_ones4 _ _ _ _ _ _ _ _ _ _) op a next Q
   have HR2 : Hid (Blk (wr.setCells (w.heap.size + 1) 0 [.slice vg n vgc, .int .i64 secs, .slice vl k vlc, .slice va k vac]) (w.heap.size + 1) 37 [.slice vg n vgc, .int .i64 secs, .slice vl k vlc, .slice va k vac]) := Lib.hid (HR.out.res.put rfl)
   have HT : Hid (IsDvs (wr.setCells (w.heap.size + 1) 0 [.slice vg n vgc, .int .i64 secs, .slice vl k vlc, .slice va k vac]) (devX gs secs al ll (devsN gs)) ⟨.slice vg n vgc, .slice vl k vlc, .slice va k vac⟩ F2) := Lib.hid (by
    rw [← HNE.out]
    exact HR.out.is.keep (fun g hg => (setCells_grown (w.heap.size + 1) _ wr 0).block g (HR.out.is.lt g hg) (fun e => by
     have e2 := Option.some.inj e
     subst e2
     exact HR.out.notF HR.out.res hg)))
   have HBF : Hid (Below w.heap.size w (wr.setCells (w.heap.size + 1) 0 [.slice vg n vgc, .int .i64 secs, .slice vl k vlc, .slice va k vac])) := Lib.hid (HR.out.bel.grown (setCells_grown _ _ _ _) HR.out.bel.size (fun k e => by have := Option.some.inj e; omega))
   have HFR := Lib.hid HR.out.fr
   go_wp2_with fail
   refine bodyPost_ret (results_dvs3 rfl _ _ (w.heap.size + 1) _ _ _ _ rfl HR2.out) rfl ?_
   first | exact ⟨_, ⟨_, rfl⟩, F2, HT.out, HFR.out, HBF.out⟩ | exact ⟨_, F2, ⟨_, rfl⟩, HT.out, HFR.out, HBF.out⟩
set_option maxHeartbeats 1600000 in
set_option maxRecDepth 100000 in
theorem devices_zero (ga : Option Addr) (n gc : Nat) (gs : Gs) (secs : Int) (w : World) (h : GSl w ga n gc gs) (ao : Option Addr) (an ac : Nat) (al : List Bool) (ha : BSl w ao an ac al) (lo : Option Addr) (lc : Nat) (hok : devOk gs secs = true) :
  Calls Tryz.prog 27 #[.agg #[.slice ga n gc, .int .i64 secs], .slice ao an ac, .slice lo 0 lc] w fun e w' => ∃ V F hv, e = .returned (.tuple #[V.val secs, hv, .bool true]) ∧ IsDvs w' (devX gs secs al [] (devsN gs)) V F ∧ (∀ g, F g → w.heap.size ≤ g) ∧ Below w.heap.size w w' := by
 unfold devOk at hok
 rw [Bool.and_eq_true, decide_eq_true_eq] at hok
 obtain ⟨hr, h200⟩ := hok
 have hl := h.len
 have hsp := rightB_spec hr
 have hal := ha.len
 obtain ⟨p0, hp, hp0, hp1, hp2⟩ := info_parts infoB1
 obtain ⟨w0, hw0⟩ : ∃ w0, w0 = (w.alloc (.cells #[.slice ga n gc, .int .i64 secs] 24)).alloc (.cells #[.slice none 0 0, .int .i64 0, .slice none 0 0, .slice none 0 0] 37) := ⟨_, rfl⟩
 have hb0 : Below w.heap.size w w0 := by rw [hw0]; exact ((Below.refl _ _).alloc (Nat.le_refl _) _).alloc (by simp) _
 have hg0 : Blk w0 w.heap.size 24 [.slice ga n gc, .int .i64 secs] := by rw [hw0]; exact (Blk.new w _ _).alloc _
 have hd0 : Blk w0 (w.heap.size + 1) 37 [.slice none 0 0, .int .i64 0, .slice none 0 0, .slice none 0 0] := by rw [hw0]; exact Blk.newAt (w := w.alloc _) _ _ (by simp)
 have hs0 : w0.heap.size = w.heap.size + 2 := by rw [hw0]; simp
 have HNV := Lib.hid (vnew_any ga n gc gs secs w0 (h.below hb0) hr)
 have HAL : Hid (∀ W, Below w.heap.size w W → 0 < an → ∃ b off, ao = some ⟨b, off, none⟩ ∧ b < w.heap.size ∧ ∀ k, k < an → W.cell? ⟨b, off + k, none⟩ = some (.bool (al.getD k false))) := Lib.hid (fun W hW h0 => by
  obtain ⟨b, off, e, hb, hc⟩ := ha.cells h0
  exact ⟨b, off, e, hb, fun k hk => by rw [World.cell?_of_block (w := w) (hW.block b hb)]; exact hc k hk⟩)
 have HAO : Hid (∀ k, an ≤ k → al.getD k false = false) := Lib.hid (fun k hk => by rw [List.getD_eq_getElem?_getD, List.getElem?_eq_none (by omega)]; rfl)
 have HLL : Hid (∀ k, ([] : List Bool).getD k false = false) := Lib.hid (fun k => rfl)
 obtain ⟨N, hN⟩ : ∃ N, N = devsN gs := ⟨_, rfl⟩
 have hNb : N ≤ 32 := by rw [hN]; exact devsN_bd hr
 have HNE := Lib.hid hN
 have HZE := Lib.hid (devX_zero gs secs al [])
 have HB0 := Lib.hid hb0
 have HD0 := Lib.hid hd0
 have c0 : w0.cell? ⟨w.heap.size, 0, none⟩ = some (.slice ga n gc) := hg0.cell 0
 have c1 : w0.cell? ⟨w.heap.size, 1, none⟩ = some (.int .i64 secs) := hg0.cell 1
 have q1 : ¬ (100 : Int) < (n : Int) := by omega
 have q2 : ¬ (200 : Int) < secs := by omega
 have hlg := hl
 clear h hr hl hsp hal ha hN hb0 hg0 hd0
 go_enter Tryz.func27, Tryz.ntmps27
 go_upto_region 1 with fail
 rw [← hw0]
 clear hw0
 go_wp2_with fail
 refine HNV.out.mono ?_
 rintro e w1 ⟨V, F, rfl, hi1, hF1, hb1⟩
 obtain ⟨vg, vgc, vl, vlc, va, vac, rfl, _⟩ := hi1.form
 rw [show (freshX gs secs secs.toNat).gs = gs from rfl, hlg, show (freshX gs secs secs.toNat).ds.length = N from by rw [HNE.out]; simp [freshX]] at hi1 ⊢
 have hval : (DvV.mk (.slice vg n vgc) (.slice vl N vlc) (.slice va N vac)).val secs = .agg #[.slice vg n vgc, .int .i64 secs, .slice vl N vlc, .slice va N vac] := rfl
 rw [hval]
 have B1 : Below w.heap.size w w1 := HB0.out.trans (hb1.mono (by omega))
 have hsz1 : w.heap.size + 2 ≤ w1.heap.size := by have := hb1.size; omega
 have hs1 : DeS w gs secs N w1.heap.size [.slice vg n vgc, .int .i64 secs, .slice vl N vlc, .slice va N vac] ⟨.slice vg n vgc, .slice vl N vlc, .slice va N vac⟩ (devX gs secs al [] 0) (.slice none 0 0) [] F ((w1.alloc (.cells #[.slice none 0 0, .int .i64 0, .slice none 0 0, .slice none 0 0] 37)).setCells w1.heap.size 0 [.slice vg n vgc, .int .i64 secs, .slice vl N vlc, .slice va N vac]) := by
  have hC : Below w1.heap.size w1 ((w1.alloc (.cells #[.slice none 0 0, .int .i64 0, .slice none 0 0, .slice none 0 0] 37)).setCells w1.heap.size 0 [.slice vg n vgc, .int .i64 secs, .slice vl N vlc, .slice va N vac]) := ((Below.refl _ _).alloc (Nat.le_refl _) _).grown (setCells_grown _ _ _ _) (by simp) (fun k e => by have := Option.some.inj e; omega)
  refine ⟨by rw [HZE.out]; exact hi1.below hC, (fun g hg => by have := hF1 g hg; omega), (fun g hg => by cases hg), World.ownsRow_nil _ _ _ _, (Blk.new w1 _ [.slice none 0 0, .int .i64 0, .slice none 0 0, .slice none 0 0]).put rfl, (HD0.out.below hb1).below hC, hsz1, B1.trans (hC.mono B1.size)⟩
 have HS1 := Lib.hid hs1
 have s1 := fun (op : Oper) (a : Act) (next : Act → World → Prop) (Q : Exit → Act → World → Prop) => storeW_part (P := Tryz.prog) (t := 37) (o := 0) (cs := [.slice vg n vgc, .int .i64 secs, .slice vl N vlc, .slice va N vac]) (Blk.new w1 37 [.slice none 0 0, .int .i64 0, .slice none 0 0, .slice none 0 0]) (Nat.le_refl 4) iszDsM (dvs_ones4 _ _ _ _ _ _ _ _ _ _) op a next Q
 clear hi1 hF1 hb1 hs1 c0 c1 hval B1 HZE HNV HD0
 go_upto_region 7 with fail
 obtain ⟨w2, hw2⟩ : ∃ w2, w2 = ((w1.alloc (.cells #[.slice none 0 0, .int .i64 0, .slice none 0 0, .slice none 0 0] 37)).setCells w1.heap.size 0 [.slice vg n vgc, .int .i64 secs, .slice vl N vlc, .slice va N vac]) := ⟨_, rfl⟩
 obtain ⟨g9, hg9⟩ : ∃ g9, g9 = w1.heap.size := ⟨_, rfl⟩
 have HS2 : Hid (DeS w gs secs N g9 [.slice vg n vgc, .int .i64 secs, .slice vl N vlc, .slice va N vac] ⟨.slice vg n vgc, .slice vl N vlc, .slice va N vac⟩ (devX gs secs al [] 0) (.slice none 0 0) [] F w2) := Lib.hid (by rw [hw2, hg9]; exact HS1.out)
 rw [← hw2, ← hg9]
 clear hw2 hg9 HS1 s1
 have b2 : w2.cell? ⟨g9, 2, none⟩ = some (.slice vl N vlc) := HS2.out.box.cell 2
 go_wp2_with fail
 clear b2
 go_loopw [11, 12] (fun vh vi wr => ∃ (k : Nat) (hv : Value) (hs : List Bool) (F : Nat → Prop), k ≤ N ∧ vi = .int .i64 (k : Nat) ∧ vh = hv ∧ hs.length = k ∧ Hid (DeS w gs secs N g9 [.slice vg n vgc, .int .i64 secs, .slice vl N vlc, .slice va N vac] ⟨.slice vg n vgc, .slice vl N vlc, .slice va N vac⟩ (devX gs secs al [] k) hv hs F wr)) (fun _ vi _ => N - (intOf vi).toNat)
 case atStart => exact ⟨0, _, [], F, by omega, rfl, rfl, rfl, HS2⟩
 case round =>
  obtain ⟨k, hv, hs, F2, hk, rfl, rfl, hsl, HR⟩ := hrel
  clear HS2
  obtain ⟨ho, hc, rfl⟩ := own_form HR.out.row
  rw [hsl] at HR ⊢
  have HSL := Lib.hid hsl
  clear hsl
  have b2 : wr.cell? ⟨g9, 2, none⟩ = some (.slice vl N vlc) := HR.out.box.cell 2
  by_cases hkn : k < N
  ·have q1 : (k : Int) < (N : Int) := by omega
   have q0 : 0 ≤ (k : Int) := by omega
   have HLN : Hid ((devX gs secs al [] k).ds.length = N) := Lib.hid (by rw [(devX_n gs secs al [] k).1, HNE.out])
   obtain ⟨ba, ca, ea, a1, a2, a3, _⟩ := HR.out.is.setAway (i := k) (by rw [HLN.out]; exact hkn) (al.getD k false)
   have HEA : Hid ((Value.slice va N vac) = .slice (some ⟨ba, 0, none⟩) N vac) := Lib.hid (by
    rw [HLN.out] at ea
    have e2 : Value.slice va N vac = .slice (some ⟨ba, 0, none⟩) N ca := ea
    simp only [Value.slice.injEq, true_and] at e2
    rw [e2.1])
   have b3 : wr.cell? ⟨g9, 3, none⟩ = some (.slice (some ⟨ba, 0, none⟩) N vac) := by rw [← HEA.out]; exact HR.out.box.cell 3
   have HAW : Hid (DeS w gs secs N g9 [.slice vg n vgc, .int .i64 secs, .slice vl N vlc, .slice va N vac] ⟨.slice vg n vgc, .slice vl N vlc, .slice va N vac⟩ ⟨gs, secs, (devX gs secs al [] k).ds, (devX gs secs al [] k).away.set k (al.getD k false)⟩ (.slice ho k hc) hs F2 (wr.setCell ⟨ba, k, none⟩ (.bool (al.getD k false))).drew) := Lib.hid ((HR.out.away (by rw [HLN.out]; exact hkn) _ (by rw [HLN.out]; exact HEA.out)).below (Below.refl _ _).drew)
   have HBA := Lib.hid (HR.out.fr ba a3)
   obtain ⟨av, hav⟩ : ∃ av, av = al.getD k false := ⟨_, rfl⟩
   rw [← hav] at HAW
   have HAV := Lib.hid hav
   have c3 : wr.drew.cell? ⟨ba, k, none⟩ = some (.bool ((devX gs secs al [] k).away.getD k true)) := a1
   have f3 : wr.drew.frozen? ⟨ba, k, none⟩ = false := a2
   clear ea a1 a2 a3 hav
   have HRB : Hid (Below w.heap.size w wr) := Lib.hid HR.out.bel
   have HBX : Hid (Blk wr g9 37 [.slice vg n vgc, .int .i64 secs, .slice vl N vlc, .slice va N vac]) := Lib.hid HR.out.box
   go_upto_region 10 with fail
   go_cut [11] (fun vh wx => vh = .slice ho k hc ∧ Hid (DeS w gs secs N g9 [.slice vg n vgc, .int .i64 secs, .slice vl N vlc, .slice va N vac] ⟨.slice vg n vgc, .slice vl N vlc, .slice va N vac⟩ ⟨gs, secs, (devX gs secs al [] k).ds, (devX gs secs al [] k).away.set k av⟩ (.slice ho k hc) hs F2 wx))
   case first =>
    by_cases hka : k < an
    ·have q3 : (k : Int) < (an : Int) := by omega
     obtain ⟨ab, aof, eao, hab, hac⟩ := HAL.out wr.drew HRB.out.drew (by omega)
     have hS0 : Blk wr.drew g9 37 [.slice vg n vgc, .int .i64 secs, .slice vl N vlc, .slice va N vac] ∧ wr.drew.cell? ⟨ab, aof + k, none⟩ = some (.bool av) := ⟨HBX.out, by rw [HAV.out]; exact hac k hka⟩
     have HCA : Hid ((wr.setCell ⟨ba, k, none⟩ (.bool av)).drew.cell? ⟨ab, aof + k, none⟩ = some (.bool av)) := Lib.hid (by
      have e9 : (wr.setCell ⟨ba, k, none⟩ (.bool av)).drew.heap[ab]? = wr.heap[ab]? := Below.heap_setCell _ _ _ _ (show ab ≠ ba by have := HBA.out; omega)
      rw [World.cell?_of_block (w := wr) e9]; exact hS0.2)
     clear hac
     have HEAO := Lib.hid eao
     clear eao
     refine wp_region_held_drew (S := fun W => Blk W g9 37 [.slice vg n vgc, .int .i64 secs, .slice vl N vlc, .slice va N vac] ∧ W.cell? ⟨ab, aof + k, none⟩ = some (.bool av)) (by kernel_rfl) hS0 (fun hS0 => ?_)
     refine rtd 0 ?_
     refine rtv (i := 1) (v := ?va1) (hy := ?ya1) (h := ?_)
     case ya1 => intro w hSw; (try dsimp only at hSw); go_simp; rw [hSw.1.cell 3]; dsimp only [List.getElem?_cons_succ, List.getElem?_cons_zero]; rw [HEA.out]; rfl
     try simp only [Act.put, z1, z2, z3]
     refine rtd 2 ?_; refine rtd 3 ?_; refine rtd 4 ?_; refine rtd 5 ?_
     refine rtv (i := 6) (v := ?va6) (hy := ?ya6) (h := ?_)
     case ya6 => intro w hSw; (try dsimp only at hSw); go_simp; first | rfl | (rw [decide_eq_true q3])
     try simp only [Act.put, z1, z2, z3]
     refine rtd 7 ?_
     refine rtv (i := 8) (v := ?va8) (hy := ?ya8) (h := ?_)
     case ya8 => intro w hSw; (try dsimp only at hSw); go_simp; rw [HEAO.out]
     try simp only [Act.put, z1, z2, z3]
     refine rtd 9 ?_; refine rtd 10 ?_; refine rtd 11 ?_; refine rtd 12 ?_; refine rtd 13 ?_
     refine rr1 (i := 14) (h := fun K hK => ?_)
     go_simp
     skip
     refine hK.out _ _ (⟨HAW.out.box, HCA.out⟩) (fun hSa14 => ?_)
     try simp only [Act.put, z1, z2, z3]
     refine wpAnyH_done (by kernel_rfl) ?_ _
     go_wp2_with fail
     go_meet
     exact ⟨rfl, HAW.out⟩
    ·have q3 : ¬ (k : Int) < (an : Int) := by omega
     have HAF : Hid (av = false) := Lib.hid (by rw [HAV.out]; exact HAO.out k (by omega))
     have e9 := HAF.out
     clear HAF
     subst e9
     have hS0 : Blk wr.drew g9 37 [.slice vg n vgc, .int .i64 secs, .slice vl N vlc, .slice va N vac] := HBX.out
     refine wp_region_held_drew (S := fun W => Blk W g9 37 [.slice vg n vgc, .int .i64 secs, .slice vl N vlc, .slice va N vac]) (by kernel_rfl) hS0 (fun hS0 => ?_)
     refine rtd 0 ?_
     refine rtv (i := 1) (v := ?vb1) (hy := ?yb1) (h := ?_)
     case yb1 => intro w hSw; (try dsimp only at hSw); go_simp; rw [hSw.cell 3]; dsimp only [List.getElem?_cons_succ, List.getElem?_cons_zero]; rw [HEA.out]; rfl
     try simp only [Act.put, z1, z2, z3]
     refine rtd 2 ?_; refine rtd 3 ?_; refine rtd 4 ?_; refine rtd 5 ?_
     refine rtv (i := 6) (v := ?vb6) (hy := ?yb6) (h := ?_)
     case yb6 => intro w hSw; (try dsimp only at hSw); go_simp; first | rfl | (rw [decide_eq_false q3])
     try simp only [Act.put, z1, z2, z3]
     refine rtd 7 ?_; refine rtn 8 ?_; refine rtn 9 ?_; refine rtn 10 ?_; refine rtn 11 ?_; refine rtd 12 ?_; refine rtd 13 ?_
     refine rr1 (i := 14) (h := fun K hK => ?_)
     go_simp
     skip
     refine hK.out _ _ (HAW.out.box) (fun hSb14 => ?_)
     try simp only [Act.put, z1, z2, z3]
     refine wpAnyH_done (by kernel_rfl) ?_ _
     go_wp2_with fail
     go_meet
     exact ⟨rfl, HAW.out⟩
   case rest =>
    obtain ⟨rfl, HT⟩ := hcut
    have HTB : Hid (Below w.heap.size w wc) := Lib.hid HT.out.bel
    have d2 : wc.cell? ⟨g9, 2, none⟩ = some (.slice vl N vlc) := HT.out.box.cell 2
    have d3 : wc.cell? ⟨g9, 3, none⟩ = some (.slice (some ⟨ba, 0, none⟩) N vac) := by rw [← HEA.out]; exact HT.out.box.cell 3
    have HLA : Hid (k < N) := Lib.hid hkn
    have da : wc.cell? ⟨ba, k, none⟩ = some (.bool av) := by
     have h9 := HT.out.is
     obtain ⟨ba2, ca2, e2, h1, _⟩ := h9.setAway (i := k) (by show k < (devX gs secs al [] k).ds.length; rw [HLN.out]; exact hkn) true
     have e3 : Value.slice va N vac = .slice (some ⟨ba2, 0, none⟩) (devX gs secs al [] k).ds.length ca2 := e2
     rw [HEA.out] at e3
     simp only [Value.slice.injEq, Option.some.injEq, Addr.mk.injEq, and_true, true_and] at e3
     rw [e3.1, h1]
     show some (Value.bool (((devX gs secs al [] k).away.set k av).getD k true)) = _
     rw [List.getD_eq_getElem?_getD, List.getElem?_set_self (by rw [(devX_n gs secs al [] k).2, ← HNE.out]; exact hkn)]
     rfl
    clear b2 b3 c3 f3 HAW HBA HRB HBX HR
    ·have q5 : ¬ (k : Int) < 0 := by omega
     have HXE : Hid ((⟨gs, secs, (devX gs secs al [] k).ds, (devX gs secs al [] k).away.set k av⟩ : DvsT) = devX gs secs al [] (k + 1)) := Lib.hid (by rw [devX_succ (by rw [← HNE.out]; exact HLA.out), HLL.out k, ← HAV.out]; rfl)
     rw [HXE.out] at HT
     cases av with
     | true =>
      have HRW : Hid (∀ o, (wc.alloc o).ownsRow w.heap.size 4 1 (.slice ho k hc) k (boolsV hs)) := Lib.hid (fun o => by rw [← HSL.out]; have h9 := HT.out.row; rw [HSL.out]; rw [HSL.out] at h9; exact h9.alloc o)
      have m1 : w.heap.size ≤ wc.heap.size := HT.out.bel.size
      go_wp2_with (at_builtin; go_must (refine wpList_append_own_at _ rfl (.tmp 68) (.tmp 88) 29 rfl w.heap.size 4 p0 (.bool false) 1 1 Tryz.underlying29 hp hp0 hp1 hp2 rfl (by decide) (.slice ho k hc) k (boolsV hs) rfl (HRW.out _) ⟨wc.heap.size, 0, none⟩ 1 1 (boolsV [false]) rfl rfl (Blk.news (Blk.newAt (w := wc) 4 (boolsV [false]) (by simp))) (boolsV_one _) (by unfold maxLen; omega) (by omega) (by simp; omega) ?_; intro v4 w4 hown4 hgrow4 _ hfr4; have O4 := Lib.hid hown4; have G4 := Lib.hid hgrow4; have N4 := Lib.hid hfr4; clear hown4 hgrow4 hfr4))
      have HN4 : Hid (∀ g, v4.ownBlock = some g → ¬ F2 g) := Lib.hid (fun g hg hf => by
       have hlt := HT.out.is.lt g hf
       rcases N4.out with h9 | h9
       ·exact HT.out.hn g (by rw [← h9]; exact hg) hf
       ·rw [h9] at hg; have := Option.some.inj hg; simp at this; omega)
      have DS : Hid (DeS w gs secs N g9 [.slice vg n vgc, .int .i64 secs, .slice vl N vlc, .slice va N vac] ⟨.slice vg n vgc, .slice vl N vlc, .slice va N vac⟩ (devX gs secs al [] (k + 1)) v4 (hs ++ [false]) F2 w4) := Lib.hid ((HT.out.below ((Below.refl _ _).alloc (Nat.le_refl _) (.cells (boolsV [false]).toArray 4))).app G4.out (by rw [HSL.out]; exact O4.out) HN4.out)
      go_roundw
      case rel => exact ⟨k + 1, v4, hs ++ [false], F2, by omega, by go_num, rfl, by simp [HSL.out], DS⟩
      case measure => simp [intOf]; omega
     | false =>
      have HRW : Hid (∀ o, (wc.alloc o).ownsRow w.heap.size 4 1 (.slice ho k hc) k (boolsV hs)) := Lib.hid (fun o => by rw [← HSL.out]; have h9 := HT.out.row; rw [HSL.out]; rw [HSL.out] at h9; exact h9.alloc o)
      have m1 : w.heap.size ≤ wc.heap.size := HT.out.bel.size
      go_wp2_with (at_builtin; go_must (refine wpList_append_own_at _ rfl (.tmp 68) (.tmp 88) 29 rfl w.heap.size 4 p0 (.bool false) 1 1 Tryz.underlying29 hp hp0 hp1 hp2 rfl (by decide) (.slice ho k hc) k (boolsV hs) rfl (HRW.out _) ⟨wc.heap.size, 0, none⟩ 1 1 (boolsV [true]) rfl rfl (Blk.news (Blk.newAt (w := wc) 4 (boolsV [true]) (by simp))) (boolsV_one _) (by unfold maxLen; omega) (by omega) (by simp; omega) ?_; intro v4 w4 hown4 hgrow4 _ hfr4; have O4 := Lib.hid hown4; have G4 := Lib.hid hgrow4; have N4 := Lib.hid hfr4; clear hown4 hgrow4 hfr4))
      have HN4 : Hid (∀ g, v4.ownBlock = some g → ¬ F2 g) := Lib.hid (fun g hg hf => by
       have hlt := HT.out.is.lt g hf
       rcases N4.out with h9 | h9
       ·exact HT.out.hn g (by rw [← h9]; exact hg) hf
       ·rw [h9] at hg; have := Option.some.inj hg; simp at this; omega)
      have DS : Hid (DeS w gs secs N g9 [.slice vg n vgc, .int .i64 secs, .slice vl N vlc, .slice va N vac] ⟨.slice vg n vgc, .slice vl N vlc, .slice va N vac⟩ (devX gs secs al [] (k + 1)) v4 (hs ++ [true]) F2 w4) := Lib.hid ((HT.out.below ((Below.refl _ _).alloc (Nat.le_refl _) (.cells (boolsV [true]).toArray 4))).app G4.out (by rw [HSL.out]; exact O4.out) HN4.out)
      go_roundw
      case rel => exact ⟨k + 1, v4, hs ++ [true], F2, by omega, by go_num, rfl, by simp [HSL.out], DS⟩
      case measure => simp [intOf]; omega
  ·have hkn' : k = N := by omega
   subst hkn'
   have q1 : ¬ (k : Int) < (k : Int) := by omega
   have l2 := fun (op : Oper) (a : Act) (next : Act → World → Prop) (Q : Exit → Act → World → Prop) => loadW_mid (P := Tryz.prog) (t := 37) (range_all HR.out.box) Tryz.underlying37 rfl iszDsM op a next Q
   have s2 := fun (op : Oper) (a : Act) (next : Act → World → Prop) (Q : Exit → Act → World → Prop) => storeW_part (P := Tryz.prog) (t := 37) (o := 0) (cs := [.slice vg n vgc, .int .i64 secs, .slice vl k vlc, .slice va k vac]) HR.out.res (Nat.le_refl 4) iszDsM (dvs_ones4 _ _ _ _ _ _ _ _ _ _) op a next Q
   have HR2 : Hid (Blk (wr.setCells (w.heap.size + 1) 0 [.slice vg n vgc, .int .i64 secs, .slice vl k vlc, .slice va k vac]) (w.heap.size + 1) 37 [.slice vg n vgc, .int .i64 secs, .slice vl k vlc, .slice va k vac]) := Lib.hid (HR.out.res.put rfl)
   have HT : Hid (IsDvs (wr.setCells (w.heap.size + 1) 0 [.slice vg n vgc, .int .i64 secs, .slice vl k vlc, .slice va k vac]) (devX gs secs al [] (devsN gs)) ⟨.slice vg n vgc, .slice vl k vlc, .slice va k vac⟩ F2) := Lib.hid (by
    rw [← HNE.out]
    exact HR.out.is.keep (fun g hg => (setCells_grown (w.heap.size + 1) _ wr 0).block g (HR.out.is.lt g hg) (fun e => by
     have e2 := Option.some.inj e
     subst e2
     exact HR.out.notF HR.out.res hg)))
   have HBF : Hid (Below w.heap.size w (wr.setCells (w.heap.size + 1) 0 [.slice vg n vgc, .int .i64 secs, .slice vl k vlc, .slice va k vac])) := Lib.hid (HR.out.bel.grown (setCells_grown _ _ _ _) HR.out.bel.size (fun k e => by have := Option.some.inj e; omega))
   have HFR := Lib.hid HR.out.fr
   go_wp2_with fail
   refine bodyPost_ret (results_dvs3 rfl _ _ (w.heap.size + 1) _ _ _ _ rfl HR2.out) rfl ?_
   first | exact ⟨_, ⟨_, rfl⟩, F2, HT.out, HFR.out, HBF.out⟩ | exact ⟨_, F2, ⟨_, rfl⟩, HT.out, HFR.out, HBF.out⟩
end Go.Proofs.YtfaemcfjbbbbdaaGreat
namespace Go.Proofs.YtfaemcfjbbbbdaaGreat
theorem mkP_ok2 {gs : Gs} {secs : Int} {p q : Nat × Nat} {two : Bool} {size : Int} (h : ptrRight gs secs (mkP p q two size) = true) : (mkP p q two size).ok := by
 obtain ⟨h1, h2, h3, _⟩ := ptrRight_may h
 have m1 := mayC_spec h1
 have hr := rightB_spec m1.1
 simp only [mkP] at *
 cases two
 ·have := h3 rfl
  refine ⟨?_, ?_, ?_, ?_, ?_, ?_, ?_⟩ <;> dsimp only [I64'] <;> omega
 ·have m2 := mayC_spec (h2 rfl).1
  refine ⟨?_, ?_, ?_, ?_, ?_, ?_, ?_⟩ <;> dsimp only [I64'] <;> omega
def Wst (x : DvsT) (t : Bs) (q : Nat × Nat) : St := stOf x.gs x.secs ((t.length / 64 : Nat) : Int) q
theorem putsL_whole (t : Bs) (ht : blkOk t = true) : ∀ (l : List (Nat × Nat)) (x : DvsT) (K : Nat), x.one → x.deep K → (∀ q ∈ l, mayC x.gs x.secs (q.1 : Nat) (q.2 : Nat) ((t.length / 64 : Nat) : Int) = true) → l.Pairwise (fun a b => Dis (Wst x t a) (Wst x t b)) →
  (∀ q ∈ l, Whole (putsL t l x) q.1 q.2 t) ∧ Kept x (putsL t l x) ∧ (putsL t l x).deep (K + 32 * l.length) ∧ ∀ (g a : Nat) (u : Bs), Whole x g a u → mayC x.gs x.secs (g : Nat) (a : Nat) ((u.length / 64 : Nat) : Int) = true → (∀ q ∈ l, Dis (stOf x.gs x.secs ((u.length / 64 : Nat) : Int) (g, a)) (Wst x t q)) → Whole (putsL t l x) g a u
 | [], x, K, _, hK, _, _ => ⟨fun q hq => (by cases hq), Kept.refl x, hK, fun g a u h _ _ => h⟩
 | q :: r, x, K, ho, hK, hm, hp => by
  rw [List.pairwise_cons] at hp
  have hm0 := hm q (List.mem_cons_self ..)
  have k := write_kep ho.right ht hm0
  obtain ⟨k2, d2⟩ := write_kept ho.right ht hm0 hK
  have hgs : (writeX x q.1 q.2 t).2.2.gs = x.gs := k.gs
  have hsec : (writeX x q.1 q.2 t).2.2.secs = x.secs := k.secs
  have hW : ∀ z, Wst (writeX x q.1 q.2 t).2.2 t z = Wst x t z := fun z => by unfold Wst; rw [hgs, hsec]
  obtain ⟨a1, a2, a3, a4⟩ := putsL_whole t ht r (writeX x q.1 q.2 t).2.2 (K + 32) (ho.kept k) d2 (fun z hz => by rw [hgs, hsec]; exact hm z (List.mem_cons_of_mem _ hz)) (hp.2.imp (fun h => by rw [hW, hW]; exact h))
  have e : putsL t (q :: r) x = putsL t r (writeX x q.1 q.2 t).2.2 := rfl
  rw [e]
  refine ⟨fun z hz => ?_, k.trans a2, ?_, fun g a u h1 h2 h3 => ?_⟩
  ·rcases List.mem_cons.1 hz with rfl | hz
   ·refine a4 _ _ t (whole_write ho.calm ho.right ht hm0) (by rw [hgs, hsec]; exact hm0) (fun y hy => ?_)
    rw [hW, hgs, hsec]
    exact hp.1 y hy
   ·exact a1 z hz
  ·simp only [List.length_cons]
   rw [show K + 32 * (r.length + 1) = K + 32 + 32 * r.length by omega]
   exact a3
  ·refine a4 g a u (whole_other ho.right h1 h2 ht hm0 (h3 q (List.mem_cons_self ..))) (by rw [hgs, hsec]; exact h2) (fun y hy => ?_)
   rw [hW, hgs, hsec]
   exact h3 y (List.mem_cons_of_mem _ hy)
theorem PWhole.kept {x y : DvsT} {p : PtrT} {t : Bs} (h : PWhole x p t) (hg : y.gs = x.gs) (hs : y.secs = x.secs) (hw : ∀ q ∈ plL p, Whole y q.1.toNat q.2.toNat t) : PWhole y p t := ⟨h.blk, h.size, h.sum, by rw [hg, hs]; exact h.right, h.ok, hw⟩
theorem plL_N {p : PtrT} : ∀ q ∈ plL p, (q.1.toNat, q.2.toNat) ∈ plN p := by
 intro q hq
 unfold plL at hq
 unfold plN
 split at hq
 ·rename_i h
  rw [if_pos h]
  rcases List.mem_cons.1 hq with rfl | hq
  ·exact List.mem_cons_self ..
  ·rw [List.mem_singleton.1 hq]; simp
 ·rw [List.mem_singleton.1 hq]; exact List.mem_cons_self ..
theorem mayN {gs : Gs} {secs : Int} {p q : Nat × Nat} {two : Bool} {size : Int} (h : ptrRight gs secs (mkP p q two size) = true) : ∀ z ∈ plN (mkP p q two size), mayC gs secs (z.1 : Nat) (z.2 : Nat) size = true := by
 obtain ⟨h1, h2, _, _⟩ := ptrRight_may h
 intro z hz
 rw [plN_mk] at hz
 rcases List.mem_cons.1 hz with rfl | hz
 ·exact h1
 ·cases two with
  | false => simp at hz
  | true =>
   rw [if_pos rfl, List.mem_singleton] at hz
   subst hz
   exact (h2 rfl).1
theorem plc_may {S : StoT} {L : List St} {K : Nat} (h : StOk S L K) {t : Bs} (ht : blkOk t = true) (level : Int) : (plcX S ((t.length / 64 : Nat) : Int) level).err = 0 → ∀ q ∈ (plcX S ((t.length / 64 : Nat) : Int) level).l, mayC S.x.gs S.x.secs (q.1 : Nat) (q.2 : Nat) ((t.length / 64 : Nat) : Int) = true := by
 intro he
 obtain ⟨h1, h2, h3⟩ := blk_parts ht
 have hp := List.length_pos_iff.2 h1
 rcases plc_spec h (size := ((t.length / 64 : Nat) : Int)) (level := level) (by omega) (by omega) with ⟨e, _⟩ | ⟨_, _, _, p, q, two, e, hr, _⟩
 ·rw [e] at he; cases he
 ·rw [e]; exact mayN hr
structure Same (S S' : StoT) : Prop where
 txg : S'.txg = S.txg
 keep : S'.keep = S.keep
 mt : S'.mt = S.mt
 fixed : S'.fixed = S.fixed
theorem put_plain {S : StoT} {L : List St} {K : Nat} (h : StOk S L K) (t : Bs) (level : Int) :
  ((putR S t level).err ≠ 0 ∧ (putR S t level).err ≠ 6 ∧ (putR S t level).p = pD ∧ StOk (putR S t level).s L K ∧ leftA (putR S t level).s.sn = leftA S.sn ∧ (putR S t level).s.x = S.x ∧ (putR S t level).s.born = S.born ∧ Same S (putR S t level).s) ∨
  ((putR S t level).err = 0 ∧ StOk (putR S t level).s (L ++ pstrs S.x.gs S.x.secs (putR S t level).p) (K + 64) ∧ PWhole (putR S t level).s.x (putR S t level).p t ∧ Kept S.x (putR S t level).s.x ∧ (putR S t level).s.born = S.born ++ [(putR S t level).p] ∧ Same S (putR S t level).s ∧
   ((putR S t level).p.birth = S.txg ∧ (putR S t level).p.level = level ∧ ((putR S t level).p.two = true → 0 < level ∨ S.mt = true)) ∧
   ∀ p u, PWhole S.x p u → (∀ s ∈ pstrs S.x.gs S.x.secs p, s ∈ L) → PWhole (putR S t level).s.x p u) := by
 unfold putR
 by_cases hok : putOk S t level = false
 ·rw [if_pos hok]
  exact .inl ⟨by simp, by simp, rfl, h, rfl, rfl, rfl, rfl, rfl, rfl, rfl⟩
 ·rw [if_neg hok]
  have hok2 : putOk S t level = true := by simpa using hok
  unfold putOk at hok2
  rw [Bool.and_eq_true, decide_eq_true_eq] at hok2
  obtain ⟨ht, hlv⟩ := hok2
  obtain ⟨h1, h2, h3⟩ := blk_parts ht
  have hpos := List.length_pos_iff.2 h1
  rcases plc_spec h (size := ((t.length / 64 : Nat) : Int)) (level := level) (by omega) (by omega) with ⟨e1, e2, e3⟩ | ⟨e1, e2, e3, p, q, two, e4, hr, hq, htw⟩
  ·rw [if_pos (by rw [e1]; decide)]
   refine .inl ⟨by dsimp only; rw [e1]; simp, by dsimp only; rw [e1]; simp, rfl, ⟨h.one, h.fits, h.deep, ?_, ?_⟩, ?_, rfl, rfl, rfl, rfl, rfl, rfl⟩
   ·show Inv _ _ (plcX S _ level).sn (plcX S _ level).es
    rw [e2, e3]; exact h.inv
   ·show Cov _ _ (plcX S _ level).sn L
    rw [e2]; exact h.cov
   ·show leftA (plcX S _ level).sn = _
    rw [e2]
  ·rw [if_neg (by rw [e1]; decide)]
   right
   have hmay := mayN hr
   have hcov := e3
   rw [e4] at hcov
   have hdis : (plN (mkP p q two ((t.length / 64 : Nat) : Int))).Pairwise (fun a b => Dis (Wst S.x t a) (Wst S.x t b)) := by
    have := (List.pairwise_append.1 hcov.dis).2.1
    rw [List.pairwise_map] at this
    exact this
   have hout : ∀ s ∈ L, ∀ z ∈ plN (mkP p q two ((t.length / 64 : Nat) : Int)), Dis s (Wst S.x t z) := fun s hs z hz => (List.pairwise_append.1 hcov.dis).2.2 s hs _ (List.mem_map.2 ⟨z, hz, rfl⟩)
   obtain ⟨a1, a2, a3, a4⟩ := putsL_whole t ht _ S.x K h.one h.deep hmay hdis
   have hlen : (plN (mkP p q two ((t.length / 64 : Nat) : Int))).length ≤ 2 := by rw [plN_mk]; cases two <;> simp
   have hP := mkPt_eq t level S.txg p q two hq
   dsimp only
   rw [e4, hP]
   have hstr : pstrs S.x.gs S.x.secs ⟨p.1, p.2, q.1, q.2, two, ((t.length / 64 : Nat) : Int), level, S.txg, ((sumF t).1 : Nat), ((sumF t).2.1 : Nat), ((sumF t).2.2.1 : Nat), ((sumF t).2.2.2 : Nat)⟩ = (plN (mkP p q two ((t.length / 64 : Nat) : Int))).map (stOf S.x.gs S.x.secs ((t.length / 64 : Nat) : Int)) := by
    rw [plN_mk]
    cases two <;> simp [pstrs, plN]
   have hright : ptrRight S.x.gs S.x.secs ⟨p.1, p.2, q.1, q.2, two, ((t.length / 64 : Nat) : Int), level, S.txg, ((sumF t).1 : Nat), ((sumF t).2.1 : Nat), ((sumF t).2.2.1 : Nat), ((sumF t).2.2.2 : Nat)⟩ = true := by
    have h' := hr
    unfold ptrRight mkP at h'
    rw [Bool.and_eq_true, Bool.and_eq_true] at h'
    unfold ptrRight
    rw [Bool.and_eq_true, Bool.and_eq_true]
    exact ⟨⟨decide_eq_true ⟨hlv.1, hlv.2.1, hlv.2.2.1, hlv.2.2.2⟩, h'.1.2⟩, h'.2⟩
   have hmk := mkP_ok2 hr
   have hi : ∀ z : Int, 0 ≤ z ∧ z ≤ 4294967295 → I64' z := fun z hz => by unfold I64'; omega
   refine ⟨rfl, ⟨h.one.kept a2, a2.fit h.fits, ?_, ?_, ?_⟩, ⟨ht, rfl, ?_, ?_, ?_, fun z hz => ?_⟩, a2, rfl, ⟨rfl, rfl, rfl, rfl⟩, ⟨rfl, rfl, htw⟩, fun p' u hw hin => ?_⟩
   ·intro i k
    exact Nat.le_trans (a3 i k) (by omega)
   ·show Inv (putsL t _ S.x).gs (putsL t _ S.x).secs (plcX S _ level).sn (plcX S _ level).es
    rw [a2.gs, a2.secs]; exact e2
   ·show Cov (putsL t _ S.x).gs (putsL t _ S.x).secs (plcX S _ level).sn _
    rw [a2.gs, a2.secs, hstr]; exact hcov
   ·exact decide_eq_true ⟨rfl, rfl, rfl, rfl⟩
   ·show ptrRight (putsL t _ S.x).gs (putsL t _ S.x).secs _ = true
    rw [a2.gs, a2.secs]; exact hright
   ·exact ⟨hmk.ag, hmk.aa, hmk.bg, hmk.ba, hmk.size, hi level ⟨hlv.1, by omega⟩, hi S.txg ⟨by omega, hlv.2.2.2⟩⟩
   ·have := plL_N z hz
    have h9 : (z.1.toNat, z.2.toNat) ∈ plN (mkP p q two ((t.length / 64 : Nat) : Int)) := by
     rw [plN_mk]
     have e : plN ⟨p.1, p.2, q.1, q.2, two, ((t.length / 64 : Nat) : Int), level, S.txg, ((sumF t).1 : Nat), ((sumF t).2.1 : Nat), ((sumF t).2.2.1 : Nat), ((sumF t).2.2.2 : Nat)⟩ = p :: if two = true then [q] else [] := by cases two <;> simp [plN]
     rw [← e]
     exact this
    exact a1 _ h9
   ·refine hw.kept a2.gs a2.secs fun z hz => ?_
    refine a4 _ _ u (hw.whole z hz) (hw.may z hz) fun y hy => ?_
    refine hout _ (hin _ ?_) y hy
    unfold pstrs
    refine List.mem_map.2 ⟨_, plL_N z hz, ?_⟩
    rw [hw.size]
end Go.Proofs.YtfaemcfjbbbbdaaGreat
namespace Go.Proofs.YtfaemcfjbbbbdaaGreat
open Go.RowKit
theorem devices_any (ga : Option Addr) (n gc : Nat) (gs : Gs) (secs : Int) (w : World) (h : GSl w ga n gc gs) (ao : Option Addr) (an ac : Nat) (al : List Bool) (ha : BSl w ao an ac al) (lo : Option Addr) (ln lc : Nat) (ll : List Bool) (hlo : BSl w lo ln lc ll) (hok : devOk gs secs = true) :
  Calls Tryz.prog 27 #[.agg #[.slice ga n gc, .int .i64 secs], .slice ao an ac, .slice lo ln lc] w fun e w' => ∃ V F hv, e = .returned (.tuple #[V.val secs, hv, .bool true]) ∧ IsDvs w' (devX gs secs al ll (devsN gs)) V F ∧ (∀ g, F g → w.heap.size ≤ g) ∧ Below w.heap.size w w' := by
 rcases Nat.eq_zero_or_pos ln with h0 | h0
 ·subst h0
  have e : ll = [] := List.eq_nil_of_length_eq_zero hlo.len
  subst e
  exact devices_zero ga n gc gs secs w h ao an ac al ha lo lc hok
 ·obtain ⟨b, off, e, hb, hc⟩ := hlo.cells h0
  subst e
  exact devices_pos ga n gc gs secs w h ao an ac al ha b off ln lc ll hlo h0 hok
set_option maxHeartbeats 1600000 in
set_option maxRecDepth 100000 in
theorem devices_no (ga : Option Addr) (n gc : Nat) (gs : Gs) (secs : Int) (w : World) (h : GSl w ga n gc gs) (u v : Value) (hok : devOk gs secs = false) (hn : n ≤ 9223372036854775807) :
  Calls Tryz.prog 27 #[.agg #[.slice ga n gc, .int .i64 secs], u, v] w fun e w' => e = .returned (.tuple #[.agg #[.slice none 0 0, .int .i64 0, .slice none 0 0, .slice none 0 0], .slice none 0 0, .bool false]) ∧ Below w.heap.size w w' := by
 obtain ⟨w0, hw0⟩ : ∃ w0, w0 = (w.alloc (.cells #[.slice ga n gc, .int .i64 secs] 24)).alloc (.cells #[.slice none 0 0, .int .i64 0, .slice none 0 0, .slice none 0 0] 37) := ⟨_, rfl⟩
 have hb0 : Below w.heap.size w w0 := by rw [hw0]; exact ((Below.refl _ _).alloc (Nat.le_refl _) _).alloc (by simp) _
 have hg0 : Blk w0 w.heap.size 24 [.slice ga n gc, .int .i64 secs] := by rw [hw0]; exact (Blk.new w _ _).alloc _
 have hd0 : Blk w0 (w.heap.size + 1) 37 [.slice none 0 0, .int .i64 0, .slice none 0 0, .slice none 0 0] := by rw [hw0]; exact Blk.newAt (w := w.alloc _) _ _ (by simp)
 have hs0 : w0.heap.size = w.heap.size + 2 := by rw [hw0]; simp
 have HB0 := Lib.hid hb0
 have HD0 := Lib.hid hd0
 have c0 : w0.cell? ⟨w.heap.size, 0, none⟩ = some (.slice ga n gc) := hg0.cell 0
 have c1 : w0.cell? ⟨w.heap.size, 1, none⟩ = some (.int .i64 secs) := hg0.cell 1
 have fin : ∀ (W : World), Blk W (w.heap.size + 1) 37 [.slice none 0 0, .int .i64 0, .slice none 0 0, .slice none 0 0] → Below w.heap.size w W → Blk ((((W.setCell ⟨w.heap.size + 1, 0, none⟩ (.slice none 0 0)).setCell ⟨w.heap.size + 1, 1, none⟩ (.int .i64 0)).setCell ⟨w.heap.size + 1, 2, none⟩ (.slice none 0 0)).setCell ⟨w.heap.size + 1, 3, none⟩ (.slice none 0 0)) (w.heap.size + 1) 37 [.slice none 0 0, .int .i64 0, .slice none 0 0, .slice none 0 0] ∧ Below w.heap.size w ((((W.setCell ⟨w.heap.size + 1, 0, none⟩ (.slice none 0 0)).setCell ⟨w.heap.size + 1, 1, none⟩ (.int .i64 0)).setCell ⟨w.heap.size + 1, 2, none⟩ (.slice none 0 0)).setCell ⟨w.heap.size + 1, 3, none⟩ (.slice none 0 0)) := fun W hB hb =>
  ⟨(((hB.setCell 0 _).setCell 1 _).setCell 2 _).setCell 3 _, (((hb.setCell (by show w.heap.size ≤ w.heap.size + 1; omega) _).setCell (by show w.heap.size ≤ w.heap.size + 1; omega) _).setCell (by show w.heap.size ≤ w.heap.size + 1; omega) _).setCell (by show w.heap.size ≤ w.heap.size + 1; omega) _⟩
 have HFIN := Lib.hid fin
 have HNV : Hid (rightB gs secs = false → Calls Tryz.prog 51 #[.agg #[.slice ga n gc, .int .i64 secs], .int .u8 0] w0 fun e w' => e = .returned (.tuple #[.agg #[.slice none 0 0, .int .i64 0, .slice none 0 0, .slice none 0 0], .int .i64 1]) ∧ Below w0.heap.size w0 w') := Lib.hid (fun hr => vnew_no ga n gc gs secs w0 (h.below hb0) hr)
 have hl := h.len
 have HL := Lib.hid hl
 have HOK := Lib.hid hok
 clear h hok hb0 hg0 hd0 fin hl
 by_cases q1 : (100 : Int) < (n : Int)
 ·have d0 := HD0.out.cell 0
  have d1 := HD0.out.cell 1
  have d2 := HD0.out.cell 2
  have d3 := HD0.out.cell 3
  have f0 := HD0.out.frozen 0
  have f1 := HD0.out.frozen 1
  have f2 := HD0.out.frozen 2
  have f3 := HD0.out.frozen 3
  obtain ⟨z1, z2⟩ := HFIN.out _ HD0.out HB0.out
  have Z1 := Lib.hid z1
  have Z2 := Lib.hid z2
  clear z1 z2
  go_enter Tryz.func27, Tryz.ntmps27
  go_upto_region 1 with fail
  rw [← hw0]
  clear hw0
  go_wp2_with fail
  refine bodyPost_ret (results_dvs3 rfl _ _ (w.heap.size + 1) _ _ _ _ rfl Z1.out) rfl ?_
  exact ⟨rfl, Z2.out⟩
 ·by_cases q2 : (200 : Int) < secs
  ·have d0 := HD0.out.cell 0
   have d1 := HD0.out.cell 1
   have d2 := HD0.out.cell 2
   have d3 := HD0.out.cell 3
   have f0 := HD0.out.frozen 0
   have f1 := HD0.out.frozen 1
   have f2 := HD0.out.frozen 2
   have f3 := HD0.out.frozen 3
   obtain ⟨z1, z2⟩ := HFIN.out _ HD0.out HB0.out
   have Z1 := Lib.hid z1
   have Z2 := Lib.hid z2
   clear z1 z2
   go_enter Tryz.func27, Tryz.ntmps27
   go_upto_region 1 with fail
   rw [← hw0]
   clear hw0
   go_wp2_with fail
   refine bodyPost_ret (results_dvs3 rfl _ _ (w.heap.size + 1) _ _ _ _ rfl Z1.out) rfl ?_
   exact ⟨rfl, Z2.out⟩
  ·have HNW := Lib.hid (HNV.out (by
    have h1 := HOK.out
    unfold devOk at h1
    rw [decide_eq_true (by omega), Bool.and_true] at h1
    exact h1))
   go_enter Tryz.func27, Tryz.ntmps27
   go_upto_region 1 with fail
   rw [← hw0]
   clear hw0
   go_wp2_with fail
   refine HNW.out.mono ?_
   rintro e w1 ⟨rfl, hb1⟩
   have hd1 := HD0.out.below hb1
   have hb2 : Below w.heap.size w w1 := HB0.out.trans (hb1.mono (by omega))
   have hsz1 : w.heap.size + 2 ≤ w1.heap.size := by have := hb1.size; omega
   have hA : Below w1.heap.size w1 (w1.alloc (.cells #[.slice none 0 0, .int .i64 0, .slice none 0 0, .slice none 0 0] 37)) := (Below.refl _ _).alloc (Nat.le_refl _) _
   obtain ⟨w2, hw2⟩ : ∃ w2, w2 = w1.alloc (.cells #[.slice none 0 0, .int .i64 0, .slice none 0 0, .slice none 0 0] 37) := ⟨_, rfl⟩
   have HD2 : Hid (Blk w2 (w.heap.size + 1) 37 [.slice none 0 0, .int .i64 0, .slice none 0 0, .slice none 0 0]) := Lib.hid (by rw [hw2]; exact hd1.below hA)
   have hn2 : Blk w2 w1.heap.size 37 [.slice none 0 0, .int .i64 0, .slice none 0 0, .slice none 0 0] := by rw [hw2]; exact Blk.new w1 _ _
   have HB2 : Hid (Below w.heap.size w w2) := Lib.hid (by rw [hw2]; exact hb2.trans (hA.mono hb2.size))
   obtain ⟨g9, hg9⟩ : ∃ g9, g9 = w1.heap.size := ⟨_, rfl⟩
   have hne : w.heap.size + 1 ≠ g9 := by omega
   rw [← hg9] at hn2
   clear hd1 hb2 hA hb1
   go_upto_region 4 with fail
   rw [← hw2, ← hg9]
   clear hw2 hg9
   have d0 := HD2.out.cell 0
   have d1 := HD2.out.cell 1
   have d2 := HD2.out.cell 2
   have d3 := HD2.out.cell 3
   have f0 := HD2.out.frozen 0
   have f1 := HD2.out.frozen 1
   have f2 := HD2.out.frozen 2
   have f3 := HD2.out.frozen 3
   have b0 := hn2.cell 0
   have b1 := hn2.cell 1
   have b2 := hn2.cell 2
   have b3 := hn2.cell 3
   obtain ⟨z1, z2⟩ := HFIN.out _ HD2.out HB2.out
   have Z1 := Lib.hid z1
   have Z2 := Lib.hid z2
   clear z1 z2 hn2
   go_wp2_with fail
   refine bodyPost_ret (results_dvs3 rfl _ _ (w.heap.size + 1) _ _ _ _ rfl Z1.out) rfl ?_
   exact ⟨rfl, Z2.out⟩
set_option maxHeartbeats 1600000 in
set_option maxRecDepth 100000 in
theorem made_no (ga : Option Addr) (n gc : Nat) (gs : Gs) (secs : Int) (w : World) (h : GSl w ga n gc gs) (u v : Value) (txg keep : Int) (hok : devOk gs secs = false) (hn : n ≤ 9223372036854775807) :
  Calls Tryz.prog 10 #[.agg #[.slice ga n gc, .int .i64 secs], u, v, .int .i64 txg, .int .i64 keep] w fun e w' => e = .returned (.tuple #[.pointer none, .bool false]) ∧ Below w.heap.size w w' := by
 have hg0 : Blk (w.alloc (.cells #[.slice ga n gc, .int .i64 secs] 24)) w.heap.size 24 [.slice ga n gc, .int .i64 secs] := Blk.new w _ _
 have hb0 : Below w.heap.size w (w.alloc (.cells #[.slice ga n gc, .int .i64 secs] 24)) := (Below.refl _ _).alloc (Nat.le_refl _) _
 have HD := Lib.hid (devices_no ga n gc gs secs _ (h.below hb0) u v hok hn)
 have HB0 := Lib.hid hb0
 have c0 := hg0.cell 0
 have c1 := hg0.cell 1
 clear h hok hb0 hg0
 go_enter Tryz.func10, Tryz.ntmps10
 go_wp2_with fail
 refine HD.out.mono ?_
 rintro e w1 ⟨rfl, hb1⟩
 have HB1 : Hid (Below w.heap.size w w1) := Lib.hid (HB0.out.trans (hb1.mono (by simp)))
 clear hb1
 go_wp2_with fail
 go_ret2
 exact ⟨rfl, HB1.out.alloc HB1.out.size _⟩
def newSt (gs : Gs) (secs : Int) (al ll : List Bool) (sn : SN) (txg keep : Int) : StoT := ⟨devX gs secs al ll (devsN gs), sn, List.replicate gs.length 0, txg, keep, false, 0, []⟩
theorem IsSto.mk0 {w : World} {sb bb eb : Nat} {S : StoT} {V : DvV} {ms : List MT} {F : Nat → Prop} (hB : Blk w sb 41 (stoC V S bb none)) (hd : IsDvs w S.x V F) (hk : IsBook w bb eb S.x.gs S.x.secs ms S.es) (hsn : st2 ms = S.sn) (h0 : S.fixed = 0) (h1 : S.born = []) : ∃ T, IsSto w sb S V bb none T ∧ ∀ g, T g → F g ∨ foot bb eb ms g ∨ g = sb := by
 refine ⟨_, ⟨eb, ms, .slice none 0 0, F, ⟨hB, hd, hk, hsn, h0, h1, rfl⟩, fun k => Iff.rfl⟩, ?_⟩
 rintro g (h | h | h | h | h)
 ·exact .inl h
 ·exact .inr (.inl h)
 ·exact .inr (.inr h)
 ·cases h
 ·cases h
set_option maxHeartbeats 1600000 in
set_option maxRecDepth 100000 in
theorem made_yes (ga : Option Addr) (n gc : Nat) (gs : Gs) (secs : Int) (w : World) (h : GSl w ga n gc gs) (ao : Option Addr) (an ac : Nat) (al : List Bool) (ha : BSl w ao an ac al) (lo : Option Addr) (ln lc : Nat) (ll : List Bool) (hlo : BSl w lo ln lc ll) (txg keep : Int) (hok : devOk gs secs = true) :
  Calls Tryz.prog 10 #[.agg #[.slice ga n gc, .int .i64 secs], .slice ao an ac, .slice lo ln lc, .int .i64 txg, .int .i64 keep] w fun e w' => ∃ sb bb V T sn, e = .returned (.tuple #[.pointer (some ⟨sb, 0, none⟩), .bool true]) ∧ IsSto w' sb (newSt gs secs al ll sn txg keep) V bb none T ∧ sn.length = gs.length ∧ (∀ j, j < gs.length → sn.getD j sD = ((sect (gs.getD j (0, 0)) secs).toNat, [])) ∧ (∀ g, T g → w.heap.size ≤ g) ∧ Below w.heap.size w w' := by
 have hr : rightB gs secs = true := by
  unfold devOk at hok
  rw [Bool.and_eq_true] at hok
  exact hok.1
 have hg0 : Blk (w.alloc (.cells #[.slice ga n gc, .int .i64 secs] 24)) w.heap.size 24 [.slice ga n gc, .int .i64 secs] := Blk.new w _ _
 have hb0 : Below w.heap.size w (w.alloc (.cells #[.slice ga n gc, .int .i64 secs] 24)) := (Below.refl _ _).alloc (Nat.le_refl _) _
 have HD := Lib.hid (devices_any ga n gc gs secs _ (h.below hb0) ao an ac al (ha.below hb0) lo ln lc ll (hlo.below hb0) hok)
 have HN : Hid (∀ W, Below w.heap.size w W → Calls Tryz.prog 28 #[.agg #[.slice ga n gc, .int .i64 secs]] W fun e w' => ∃ bb eb ms, e = .returned (.tuple #[.pointer (some ⟨bb, 0, none⟩), .int .i64 0]) ∧ IsBook w' bb eb gs secs ms (List.replicate gs.length 0) ∧
   (∀ j, j < gs.length → (ms.getD j mD).2 = ((sect (gs.getD j (0, 0)) secs).toNat, [])) ∧ (∀ k, foot bb eb ms k → W.heap.size ≤ k) ∧ Below W.heap.size W w') := Lib.hid (fun W hW => anew_yes ga n gc gs secs W (h.below hW) hr)
 have HB0 := Lib.hid hb0
 have HG0 := Lib.hid hg0
 have c0 := hg0.cell 0
 have c1 := hg0.cell 1
 clear h ha hlo hok hr hb0 hg0
 go_enter Tryz.func10, Tryz.ntmps10
 go_wp2_with fail
 refine HD.out.mono ?_
 rintro e w1 ⟨V, F, hv, rfl, hi, hF, hb1⟩
 obtain ⟨vg, vgc, vl, vlc, va, vac, rfl, _⟩ := hi.form
 obtain ⟨X, hX⟩ : ∃ X, X = devX gs secs al ll (devsN gs) := ⟨_, rfl⟩
 have HX := Lib.hid hX
 have HXS : Hid (X.secs = secs ∧ X.gs = gs) := Lib.hid (by rw [hX]; exact ⟨rfl, rfl⟩)
 rw [← hX] at hi ⊢
 obtain ⟨V0, hV0⟩ : ∃ V0 : DvV, V0 = ⟨.slice vg X.gs.length vgc, .slice vl X.ds.length vlc, .slice va X.ds.length vac⟩ := ⟨_, rfl⟩
 have HV0 := Lib.hid hV0
 have HB1 : Hid (Below w.heap.size w w1) := Lib.hid (HB0.out.trans (hb1.mono (by simp)))
 have HI := Lib.hid hi
 have HF := Lib.hid hF
 have hsz : w.heap.size + 1 ≤ w1.heap.size := by have := hb1.size; simpa using this
 have hval : (DvV.mk (.slice vg X.gs.length vgc) (.slice vl X.ds.length vlc) (.slice va X.ds.length vac)).val secs = .agg #[.slice vg X.gs.length vgc, .int .i64 secs, .slice vl X.ds.length vlc, .slice va X.ds.length vac] := rfl
 rw [hval]
 have HG1 := Lib.hid (HG0.out.below hb1)
 clear hb1 hi hF hX hV0 hval c0 c1
 go_upto_region 2 with fail
 obtain ⟨w2, hw2⟩ : ∃ w2, w2 = w1.alloc (.cells #[.slice vg X.gs.length vgc, .int .i64 secs, .slice vl X.ds.length vlc, .slice va X.ds.length vac] 37) := ⟨_, rfl⟩
 obtain ⟨g9, hg9⟩ : ∃ g9, g9 = w1.heap.size := ⟨_, rfl⟩
 have hA : Below w1.heap.size w1 w2 := by rw [hw2]; exact (Below.refl _ _).alloc (Nat.le_refl _) _
 have HB9 : Hid (Blk w2 g9 37 [.slice vg X.gs.length vgc, .int .i64 secs, .slice vl X.ds.length vlc, .slice va X.ds.length vac]) := Lib.hid (by rw [hw2, hg9]; exact Blk.new w1 _ [.slice vg X.gs.length vgc, .int .i64 secs, .slice vl X.ds.length vlc, .slice va X.ds.length vac])
 have HI2 := Lib.hid (HI.out.below hA)
 have HB2 : Hid (Below w.heap.size w w2) := Lib.hid (HB1.out.trans (hA.mono HB1.out.size))
 have c0 : w2.cell? ⟨w.heap.size, 0, none⟩ = some (.slice ga n gc) := (HG1.out.below hA).cell 0
 have c1 : w2.cell? ⟨w.heap.size, 1, none⟩ = some (.int .i64 secs) := (HG1.out.below hA).cell 1
 rw [← hw2, ← hg9]
 clear hw2 hg9 hA
 go_wp2_with fail
 refine (HN.out w2 HB2.out).mono ?_
 rintro e w3 ⟨bb, eb, ms, rfl, hbk, hms, hft, hb3⟩
 have HI3 := Lib.hid (HI2.out.below hb3)
 have hb9 := HB9.out.below hb3
 have d0 := hb9.cell 0
 have d1 := hb9.cell 1
 have d2 := hb9.cell 2
 have d3 := hb9.cell 3
 have HB3 : Hid (Below w.heap.size w w3) := Lib.hid (HB2.out.trans (hb3.mono HB2.out.size))
 have HS2 : Hid (w.heap.size ≤ w2.heap.size) := Lib.hid HB2.out.size
 have HBK := Lib.hid hbk
 have HMS := Lib.hid hms
 have HFT := Lib.hid hft
 clear hbk hms hft hb3 hb9 c0 c1
 go_wp2_with fail
 go_ret2
 have hx := HX.out
 subst hx
 have hC : ∀ o, Below w3.heap.size w3 (w3.alloc o) := fun o => (Below.refl _ _).alloc (Nat.le_refl _) o
 obtain ⟨T, hT, hT2⟩ := IsSto.mk0 (w := w3.alloc (.cells (stoC ⟨.slice vg (devX gs secs al ll (devsN gs)).gs.length vgc, .slice vl (devX gs secs al ll (devsN gs)).ds.length vlc, .slice va (devX gs secs al ll (devsN gs)).ds.length vac⟩ (newSt gs secs al ll (st2 ms) txg keep) bb none).toArray 41)) (S := newSt gs secs al ll (st2 ms) txg keep) (bb := bb) (Blk.new w3 _ _) (HI3.out.below (hC _)) (HBK.out.noturn (NoTurn.below (hC _))) rfl rfl rfl
 refine ⟨w3.heap.size, bb, _, T, st2 ms, rfl, hT, ?_, fun j hj => ?_, fun g hg => ?_, HB3.out.alloc HB3.out.size _⟩
 ·have := HBK.out.mlen
  simpa [st2] using this
 ·have h1 := HMS.out j hj
  have h2 := HBK.out.mlen
  rw [← h1]
  have h3 : j < ms.length := by omega
  simp [st2, List.getD_eq_getElem?_getD, h3]
 ·rcases hT2 g hg with h1 | h1 | h1
  ·have := HF.out g h1; simp at this; omega
  ·have := HFT.out g h1; have := HS2.out; omega
  ·have := HB3.out.size; omega
end Go.Proofs.YtfaemcfjbbbbdaaGreat
namespace Go.Proofs.YtfaemcfjbbbbdaaGreat
open Go.RowKit
attribute [local go_sem ↓] Go.wp_at_zero Go.wp_at_succ
attribute [local go_sem ↓] wp_loadPt wp_storePt
def BuildWS (P : Program) (o : Oper) (t : TypeId) (v : Value) (a : Act) (w : World) (next : Act → World → Prop) (Q : Exit → Act → World → Prop) : Prop :=
 o.upon P a next Q ((do let r ← Instr.buildSlice t 1 #[(0, v)]; pure (Next.value r) : Sem Next).run P w)
theorem wp_buildPS {dst : Option Tmp} {x : Operand} {ty : TypeId} {pos : String} {after : Array Edge} {guard : Option (Nat × Bool)} {a : Act} {w : World} {next : Act → World → Prop} {Q : Exit → Act → World → Prop} :
  Oper.wp Tryz.prog ⟨dst, .buildSlice 58 1 #[(0, x)], ty, pos, after, guard⟩ a w next Q = BuildWS Tryz.prog ⟨dst, .buildSlice 58 1 #[(0, x)], ty, pos, after, guard⟩ 58 (a.eval x) a w next Q := by
 unfold Oper.wp BuildWS execOp
 simp
theorem build_ptrS (w : World) (p : PtrT) (o : Oper) (a : Act) (next : Act → World → Prop) (Q : Exit → Act → World → Prop) :
  BuildWS Tryz.prog o 58 (.agg (encPtr p).toArray) a w next Q = next (a.put o.dst (.slice (some ⟨w.heap.size, 0, none⟩) 1 1)) (w.alloc (.cells (encPtr p).toArray 49)) := by
 unfold BuildWS
 obtain ⟨p0, p1, p2, p3, p4, p5, p6, p7, p8, p9, p10, p11⟩ := p
 have h : (do let r ← Instr.buildSlice 58 1 #[(0, .agg #[.int .i64 p0, .int .i64 p1, .int .i64 p2, .int .i64 p3, .bool p4, .int .i64 p5, .int .i64 p6, .int .i64 p7, .int .u64 p8, .int .u64 p9, .int .u64 p10, .int .u64 p11])]; pure (Next.value r) : Sem Next).run Tryz.prog w = .ok (.value (.slice (some ⟨w.heap.size, 0, none⟩) 1 1)) (w.alloc (.cells #[.int .i64 p0, .int .i64 p1, .int .i64 p2, .int .i64 p3, .bool p4, .int .i64 p5, .int .i64 p6, .int .i64 p7, .int .u64 p8, .int .u64 p9, .int .u64 p10, .int .u64 p11] 49)) := by
  go_simp
 exact congrArg (fun r => o.upon Tryz.prog a next Q r) h
theorem wp_build_at {o : Oper} {a : Act} {K : Act → World → Prop} {Q : Exit → Act → World → Prop} {w : World} (x : Operand) (ho : o.op = .buildSlice 58 1 #[(0, x)]) (p : PtrT) (hx : a.eval x = .agg (encPtr p).toArray)
  (h : K (a.put o.dst (.slice (some ⟨w.heap.size, 0, none⟩) 1 1)) (w.alloc (.cells (encPtr p).toArray 49))) : Oper.wp Tryz.prog o a w K Q := by
 obtain ⟨dst, op, ty, pos, after, guard⟩ := o
 dsimp only at ho h
 subst ho
 rw [wp_buildPS, hx, build_ptrS]
 exact h
theorem results_pt {fn : Func} {p u : Tmp} (h : fn.results = #[.cell p 49, .tmp u]) (tmps : Array Value) (w : World) (g : Nat) (x : PtrT)
  (hp : tmps.getD p undef = .pointer (some ⟨g, 0, none⟩)) (hg : Blk w g 49 (encPtr x)) :
  (results fn tmps).run Tryz.prog w = .ok (.tuple #[.agg (encPtr x).toArray, tmps.getD u undef]) w := by
 have hp' : tmps[p]?.getD undef = .pointer (some ⟨g, 0, none⟩) := by simpa using hp
 have e1 := run_loadVar_mid (P := Tryz.prog) w g 0 49 (encPtr x) _ (fun j v hv => by rw [Nat.zero_add, hg.cell, hv]) Tryz.underlying49 rfl iszPt
 simp [results, h, hp', asAddr, e1]
structure PuR (gS gT sb : Nat) (sc : List Value) (t : Bs) (w : World) : Prop where
 s : Blk w gS 32 [.pointer (some ⟨sb, 0, none⟩)]
 t : Blk w gT 9 [.string ⟨t.toArray⟩]
 b : Blk w sb 41 sc
theorem PuR.below {gS gT sb : Nat} {sc : List Value} {t : Bs} {w w' : World} (h : PuR gS gT sb sc t w) (hb : Below w.heap.size w w') : PuR gS gT sb sc t w' := ⟨h.s.below hb, h.t.below hb, h.b.below hb⟩
structure PuW (gS g8 gR sb : Nat) (p : PtrT) (w : World) : Prop where
 s : Blk w gS 32 [.pointer (some ⟨sb, 0, none⟩)]
 p : Blk w g8 49 (encPtr p)
 r : Blk w gR 49 (encPtr pD)
theorem PuW.below {gS g8 gR sb : Nat} {p : PtrT} {w w' : World} (h : PuW gS g8 gR sb p w) (hb : Below w.heap.size w w') : PuW gS g8 gR sb p w' := ⟨h.s.below hb, h.p.below hb, h.r.below hb⟩
theorem PuW.mod {gS g8 gR sb : Nat} {p : PtrT} {w w' : World} {T : Nat → Prop} (h : PuW gS g8 gR sb p w) (hm : Mod T w w') (hT : ¬ T gS ∧ ¬ T g8 ∧ ¬ T gR) : PuW gS g8 gR sb p w' := ⟨hm.blk h.s hT.1, hm.blk h.p hT.2.1, hm.blk h.r hT.2.2⟩
def PutFn (w : World) (sb : Nat) (V : DvV) (bb : Nat) (dn : Option Nat) (T : Nat → Prop) (R : PutR) (e : Ending) (w' : World) : Prop :=
 e = .returned (.tuple #[.agg (encPtr R.p).toArray, .int .i64 (R.err : Nat)]) ∧ ∃ dn', (∀ d, dn = some d → dn' = some d) ∧ StoStep R.s V sb bb dn' T w w'
theorem blk_gr {W : World} {g j : Nat} {u : Value} : W.grownBy (W.setCell ⟨g, j, none⟩ u) (some g) := setCells_grown g [u] W j
set_option maxRecDepth 100000 in
set_option maxHeartbeats 1600000 in
theorem put_no {w : World} {sb : Nat} {S : StoT} {V : DvV} {bb : Nat} {dn : Option Nat} {T : Nat → Prop} (h : IsSto w sb S V bb dn T) (t : Bs) (level : Int) (htl : t.length ≤ 1000000) (hr : S.x.right = true) (K : Nat) (hK : S.x.deep K) (hK2 : K + 200 ≤ 1000000000) (hw : S.x.takes) (hkp : 0 ≤ S.keep ∧ S.keep ≤ 1000000000) (hbn : S.born.length ≤ 1000000)
  (hpl : (plcX S ((t.length / 64 : Nat) : Int) level).err = 0 → ∀ q ∈ (plcX S ((t.length / 64 : Nat) : Int) level).l, mayC S.x.gs S.x.secs (q.1 : Nat) (q.2 : Nat) ((t.length / 64 : Nat) : Int) = true) (hno : putOk S t level = false) :
  Calls Tryz.prog 12 #[.pointer (some ⟨sb, 0, none⟩), .string ⟨t.toArray⟩, .int .i64 level] w (PutFn w sb V bb dn T (putR S t level)) := by
 obtain ⟨ga, gc, la, lc, wa, acp, rfl⟩ := h.form
 have HNOO := Lib.hid hno
 clear hno
 obtain ⟨w0, hw0⟩ : ∃ w0, w0 = ((w.alloc (.cells #[.pointer (some ⟨sb, 0, none⟩)] 32)).alloc (.cells #[.string ⟨t.toArray⟩] 9)).alloc (.cells #[.int .i64 0, .int .i64 0, .int .i64 0, .int .i64 0, .bool false, .int .i64 0, .int .i64 0, .int .i64 0, .int .u64 0, .int .u64 0, .int .u64 0, .int .u64 0] 49) := ⟨_, rfl⟩
 have hb0 : Below w.heap.size w w0 := by rw [hw0]; exact (((Below.refl _ _).alloc (Nat.le_refl _) _).alloc (by simp) _).alloc (by simp; omega) _
 have kS : Blk w0 w.heap.size 32 [.pointer (some ⟨sb, 0, none⟩)] := by rw [hw0]; exact ((Blk.new w _ [.pointer (some ⟨sb, 0, none⟩)]).alloc _).alloc _
 have kT : Blk w0 (w.heap.size + 1) 9 [.string ⟨t.toArray⟩] := by rw [hw0]; exact (Blk.newAt (g := w.heap.size + 1) _ [.string ⟨t.toArray⟩] (by simp)).alloc _
 have kR : Blk w0 (w.heap.size + 2) 49 (encPtr pD) := by rw [hw0]; exact Blk.newAt (g := w.heap.size + 2) _ (encPtr pD) (by simp)
 have HS0 : Hid (w0.heap.size = w.heap.size + 3) := Lib.hid (by rw [hw0]; simp)
 have HAT0 := Lib.hid ((StoAt.start h).below hb0)
 have HNT : Hid (¬ T w.heap.size ∧ ¬ T (w.heap.size + 1) ∧ ¬ T (w.heap.size + 2)) := Lib.hid ⟨fun hf => by have := h.lt _ hf; omega, fun hf => by have := h.lt _ hf; omega, fun hf => by have := h.lt _ hf; omega⟩
 have HKS := Lib.hid kS
 have HKT := Lib.hid kT
 have HKR := Lib.hid kR
 have HTX := Lib.hid (stext_any t htl w0)
 have c0 : w0.cell? ⟨w.heap.size, 0, none⟩ = some (.pointer (some ⟨sb, 0, none⟩)) := kS.cell 0
 have c1 : w0.cell? ⟨w.heap.size + 1, 0, none⟩ = some (.string ⟨t.toArray⟩) := kT.cell 0
 have hcs := HAT0.out.is.cells
 have e4 : w0.cell? ⟨sb, 4, none⟩ = some (.pointer (some ⟨bb, 0, none⟩)) := hcs.cell 4
 have e5 : w0.cell? ⟨sb, 5, none⟩ = some (.int .i64 S.txg) := hcs.cell 5
 obtain ⟨R, hR⟩ : ∃ R, R = putR S t level := ⟨_, rfl⟩
 rw [← hR]
 have HR := Lib.hid hR
 have s0 : ∀ (op : Oper) (a : Act) (next : Act → World → Prop) (Q : Exit → Act → World → Prop), StoreW Tryz.prog op 49 (.pointer (some ⟨w.heap.size + 2, 0, none⟩)) (.agg #[.int .i64 0, .int .i64 0, .int .i64 0, .int .i64 0, .bool false, .int .i64 0, .int .i64 0, .int .i64 0, .int .u64 0, .int .u64 0, .int .u64 0, .int .u64 0]) a w0 next Q = next (a.put op.dst undef) (w0.setCells (w.heap.size + 2) 0 (encPtr pD)) := fun op a next Q => storeW_part (cs := encPtr pD) kR (Nat.le_refl _) iszPt (encPtr_ones pD) op a next Q
 have HERR : Hid (putOk S t level = false → ∀ e, e = Ending.returned (.tuple #[.agg (encPtr pD).toArray, .int .i64 1]) → PutFn w sb _ bb dn T R e (w0.setCells (w.heap.size + 2) 0 (encPtr pD))) := Lib.hid (fun hno e he => by
  have hRe : R = ⟨pD, 1, S⟩ := by rw [HR.out]; unfold putR; rw [if_pos hno]
  rw [hRe]
  refine ⟨he, dn, fun d e => e, ?_⟩
  exact (HAT0.out.other HKR.out (by unfold BookTy; decide) HNT.out.2.2 (by omega) (setCells_grown _ _ _ _)).fin)
 have HBR : Hid (Blk (w0.setCells (w.heap.size + 2) 0 (encPtr pD)) (w.heap.size + 2) 49 (encPtr pD)) := Lib.hid (kR.put rfl)
 have HFN : Hid (DvsT.right S.x = true ∧ S.x.deep K ∧ K + 200 ≤ 1000000000 ∧ S.x.takes ∧ (0 ≤ S.keep ∧ S.keep ≤ 1000000000) ∧ S.born.length ≤ 1000000) := Lib.hid ⟨hr, hK, hK2, hw, hkp, hbn⟩
 have HPL := Lib.hid hpl
 clear h htl hr hK hK2 hw hkp hbn hpl kS kT kR hR hb0 hcs
 go_enter Tryz.func12, Tryz.ntmps12
 go_upto_region 1 with fail
 simp only [Nat.add_assoc, Nat.reduceAdd]
 rw [← hw0]
 clear hw0
 by_cases hb : blkOk t = true
 ·by_cases h1 : level < 0
  ·have HNO : Hid (putOk S t level = false) := Lib.hid (by unfold putOk; rw [hb, decide_eq_false (fun h => by omega)]; rfl)
   rw [hb] at HTX
   go_wp2_with fail
   refine HTX.out.mono ?_
   rintro e wx ⟨rfl, hwx⟩
   subst hwx
   go_wp2_with fail
   refine bodyPost_ret (results_pt rfl _ _ (w.heap.size + 2) pD rfl HBR.out) rfl ?_
   exact HERR.out HNO.out _ rfl
  ·by_cases h2 : 3 < level
   ·have HNO : Hid (putOk S t level = false) := Lib.hid (by unfold putOk; rw [hb, decide_eq_false (fun h => by omega)]; rfl)
    rw [hb] at HTX
    go_wp2_with fail
    refine HTX.out.mono ?_
    rintro e wx ⟨rfl, hwx⟩
    subst hwx
    go_wp2_with fail
    refine bodyPost_ret (results_pt rfl _ _ (w.heap.size + 2) pD rfl HBR.out) rfl ?_
    exact HERR.out HNO.out _ rfl
   ·by_cases h3 : S.txg < 1
    ·have HNO : Hid (putOk S t level = false) := Lib.hid (by unfold putOk; rw [hb, decide_eq_false (fun h => by omega)]; rfl)
     rw [hb] at HTX
     go_wp2_with fail
     refine HTX.out.mono ?_
     rintro e wx ⟨rfl, hwx⟩
     subst hwx
     go_wp2_with fail
     refine bodyPost_ret (results_pt rfl _ _ (w.heap.size + 2) pD rfl HBR.out) rfl ?_
     exact HERR.out HNO.out _ rfl
    ·by_cases h4 : 4294967295 < S.txg
     ·have HNO : Hid (putOk S t level = false) := Lib.hid (by unfold putOk; rw [hb, decide_eq_false (fun h => by omega)]; rfl)
      rw [hb] at HTX
      go_wp2_with fail
      refine HTX.out.mono ?_
      rintro e wx ⟨rfl, hwx⟩
      subst hwx
      go_wp2_with fail
      refine bodyPost_ret (results_pt rfl _ _ (w.heap.size + 2) pD rfl HBR.out) rfl ?_
      exact HERR.out HNO.out _ rfl
     ·exfalso
      have := HNOO.out
      unfold putOk at this
      rw [hb, decide_eq_true (by omega)] at this
      cases this
 ·have hb2 : blkOk t = false := by simpa using hb
  have HNO : Hid (putOk S t level = false) := Lib.hid (by unfold putOk; rw [hb2]; rfl)
  rw [hb2] at HTX
  go_wp2_with fail
  refine HTX.out.mono ?_
  rintro e wx ⟨rfl, hwx⟩
  subst hwx
  go_wp2_with fail
  refine bodyPost_ret (results_pt rfl _ _ (w.heap.size + 2) pD rfl HBR.out) rfl ?_
  exact HERR.out HNO.out _ rfl
set_option maxRecDepth 100000 in
set_option maxHeartbeats 8000000 in
theorem put_yes {w : World} {sb : Nat} {S : StoT} {V : DvV} {bb : Nat} {dn : Option Nat} {T : Nat → Prop} (h : IsSto w sb S V bb dn T) (t : Bs) (level : Int) (htl : t.length ≤ 1000000) (hr : S.x.right = true) (K : Nat) (hK : S.x.deep K) (hK2 : K + 200 ≤ 1000000000) (hw : S.x.takes) (hkp : 0 ≤ S.keep ∧ S.keep ≤ 1000000000) (hbn : S.born.length ≤ 1000000)
  (hpl : (plcX S ((t.length / 64 : Nat) : Int) level).err = 0 → ∀ q ∈ (plcX S ((t.length / 64 : Nat) : Int) level).l, mayC S.x.gs S.x.secs (q.1 : Nat) (q.2 : Nat) ((t.length / 64 : Nat) : Int) = true) (hyes : putOk S t level = true) :
  Calls Tryz.prog 12 #[.pointer (some ⟨sb, 0, none⟩), .string ⟨t.toArray⟩, .int .i64 level] w (PutFn w sb V bb dn T (putR S t level)) := by
 obtain ⟨ga, gc, la, lc, wa, acp, rfl⟩ := h.form
 have HYES := Lib.hid hyes
 clear hyes
 obtain ⟨w0, hw0⟩ : ∃ w0, w0 = ((w.alloc (.cells #[.pointer (some ⟨sb, 0, none⟩)] 32)).alloc (.cells #[.string ⟨t.toArray⟩] 9)).alloc (.cells #[.int .i64 0, .int .i64 0, .int .i64 0, .int .i64 0, .bool false, .int .i64 0, .int .i64 0, .int .i64 0, .int .u64 0, .int .u64 0, .int .u64 0, .int .u64 0] 49) := ⟨_, rfl⟩
 have hb0 : Below w.heap.size w w0 := by rw [hw0]; exact (((Below.refl _ _).alloc (Nat.le_refl _) _).alloc (by simp) _).alloc (by simp; omega) _
 have kS : Blk w0 w.heap.size 32 [.pointer (some ⟨sb, 0, none⟩)] := by rw [hw0]; exact ((Blk.new w _ [.pointer (some ⟨sb, 0, none⟩)]).alloc _).alloc _
 have kT : Blk w0 (w.heap.size + 1) 9 [.string ⟨t.toArray⟩] := by rw [hw0]; exact (Blk.newAt (g := w.heap.size + 1) _ [.string ⟨t.toArray⟩] (by simp)).alloc _
 have kR : Blk w0 (w.heap.size + 2) 49 (encPtr pD) := by rw [hw0]; exact Blk.newAt (g := w.heap.size + 2) _ (encPtr pD) (by simp)
 have HS0 : Hid (w0.heap.size = w.heap.size + 3) := Lib.hid (by rw [hw0]; simp)
 have HAT0 := Lib.hid ((StoAt.start h).below hb0)
 have HNT : Hid (¬ T w.heap.size ∧ ¬ T (w.heap.size + 1) ∧ ¬ T (w.heap.size + 2)) := Lib.hid ⟨fun hf => by have := h.lt _ hf; omega, fun hf => by have := h.lt _ hf; omega, fun hf => by have := h.lt _ hf; omega⟩
 have HKS := Lib.hid kS
 have HKT := Lib.hid kT
 have HKR := Lib.hid kR
 have HTX := Lib.hid (stext_any t htl w0)
 have c0 : w0.cell? ⟨w.heap.size, 0, none⟩ = some (.pointer (some ⟨sb, 0, none⟩)) := kS.cell 0
 have c1 : w0.cell? ⟨w.heap.size + 1, 0, none⟩ = some (.string ⟨t.toArray⟩) := kT.cell 0
 have hcs := HAT0.out.is.cells
 have e4 : w0.cell? ⟨sb, 4, none⟩ = some (.pointer (some ⟨bb, 0, none⟩)) := hcs.cell 4
 have e5 : w0.cell? ⟨sb, 5, none⟩ = some (.int .i64 S.txg) := hcs.cell 5
 obtain ⟨R, hR⟩ : ∃ R, R = putR S t level := ⟨_, rfl⟩
 rw [← hR]
 have HR := Lib.hid hR
 have s0 : ∀ (op : Oper) (a : Act) (next : Act → World → Prop) (Q : Exit → Act → World → Prop), StoreW Tryz.prog op 49 (.pointer (some ⟨w.heap.size + 2, 0, none⟩)) (.agg #[.int .i64 0, .int .i64 0, .int .i64 0, .int .i64 0, .bool false, .int .i64 0, .int .i64 0, .int .i64 0, .int .u64 0, .int .u64 0, .int .u64 0, .int .u64 0]) a w0 next Q = next (a.put op.dst undef) (w0.setCells (w.heap.size + 2) 0 (encPtr pD)) := fun op a next Q => storeW_part (cs := encPtr pD) kR (Nat.le_refl _) iszPt (encPtr_ones pD) op a next Q
 have HERR : Hid (putOk S t level = false → ∀ e, e = Ending.returned (.tuple #[.agg (encPtr pD).toArray, .int .i64 1]) → PutFn w sb _ bb dn T R e (w0.setCells (w.heap.size + 2) 0 (encPtr pD))) := Lib.hid (fun hno e he => by
  have hRe : R = ⟨pD, 1, S⟩ := by rw [HR.out]; unfold putR; rw [if_pos hno]
  rw [hRe]
  refine ⟨he, dn, fun d e => e, ?_⟩
  exact (HAT0.out.other HKR.out (by unfold BookTy; decide) HNT.out.2.2 (by omega) (setCells_grown _ _ _ _)).fin)
 have HBR : Hid (Blk (w0.setCells (w.heap.size + 2) 0 (encPtr pD)) (w.heap.size + 2) 49 (encPtr pD)) := Lib.hid (kR.put rfl)
 have HFN : Hid (DvsT.right S.x = true ∧ S.x.deep K ∧ K + 200 ≤ 1000000000 ∧ S.x.takes ∧ (0 ≤ S.keep ∧ S.keep ≤ 1000000000) ∧ S.born.length ≤ 1000000) := Lib.hid ⟨hr, hK, hK2, hw, hkp, hbn⟩
 have HPL := Lib.hid hpl
 clear h htl hr hK hK2 hw hkp hbn hpl kS kT kR hR hb0 hcs
 go_enter Tryz.func12, Tryz.ntmps12
 go_upto_region 1 with fail
 simp only [Nat.add_assoc, Nat.reduceAdd]
 rw [← hw0]
 clear hw0
 have hyy := HYES.out
 unfold putOk at hyy
 simp only [Bool.and_eq_true, decide_eq_true_eq] at hyy
 obtain ⟨hb, h1, h2, h3, h4⟩ := hyy
 rw [hb] at HTX
 clear HERR HBR s0
 obtain ⟨F, hdv, _, _⟩ := HAT0.out.is.dvs
 have HVR := Lib.hid (vright_any hdv HFN.out.1)
 have hcs := HAT0.out.is.cells
 have d0 : w0.cell? ⟨sb, 0, none⟩ = some (.slice ga S.x.gs.length gc) := hcs.cell 0
 have d1 : w0.cell? ⟨sb, 1, none⟩ = some (.int .i64 S.x.secs) := hcs.cell 1
 have d2 : w0.cell? ⟨sb, 2, none⟩ = some (.slice la S.x.ds.length lc) := hcs.cell 2
 have d3 : w0.cell? ⟨sb, 3, none⟩ = some (.slice wa S.x.ds.length acp) := hcs.cell 3
 have hb256 : t.length ≤ 256 ∧ t.length % 64 = 0 ∧ 0 < t.length := by
  have := hb
  unfold blkOk at this
  simp only [decide_eq_true_eq] at this
  exact ⟨this.2.2, this.2.1, by rcases t with _ | _; exact absurd rfl this.1; simp⟩
 obtain ⟨⟨x0, x1, x2, x3⟩, hx⟩ : ∃ z, z = sumF t := ⟨_, rfl⟩
 have HSM : Hid (∀ W, Calls Tryz.prog 17 #[.string ⟨t.toArray⟩] W fun e w' => e = .returned (.agg #[.int .u64 (x0 : Nat), .int .u64 (x1 : Nat), .int .u64 (x2 : Nat), .int .u64 (x3 : Nat)]) ∧ Below W.heap.size W w') := Lib.hid (fun W => by
  have h9 := sum_any t (by omega) W
  rw [← hx] at h9
  exact h9)
 have HWQ : Hid (IntKind.i64.wrap ((t.length : Int) / 64) = ((t.length / 64 : Nat) : Int)) := Lib.hid (by rw [IntWalk.i64_in _ (by omega)]; omega)
 have HX := Lib.hid hx
 clear hcs hdv hx
 go_wp2_with fail
 refine HTX.out.mono ?_
 rintro e wx ⟨rfl, hwx⟩
 subst hwx
 go_wp2_with fail
 refine HVR.out.mono ?_
 rintro e w1 ⟨rfl, hb1⟩
 have HAT1 := Lib.hid (HAT0.out.below hb1)
 have K1S := Lib.hid (HKS.out.below hb1)
 have K1T := Lib.hid (HKT.out.below hb1)
 have K1R := Lib.hid (HKR.out.below hb1)
 have HS1 : Hid (w.heap.size + 3 ≤ w1.heap.size) := Lib.hid (by have := hb1.size; have := HS0.out; omega)
 have hS0 : PuR w.heap.size (w.heap.size + 1) sb (stoC ⟨.slice ga S.x.gs.length gc, .slice la S.x.ds.length lc, .slice wa S.x.ds.length acp⟩ S bb dn) t w1.drew := ⟨K1S.out, K1T.out, HAT1.out.is.cells⟩
 clear hb1 c0 c1 e4 e5 d0 d1 d2 d3 HVR HTX
 go_upto_region 3 with fail
 go_cut [8] (fun v8 wx => ∃ g8, v8 = .pointer (some ⟨g8, 0, none⟩) ∧ Hid (Blk wx g8 49 (encPtr ⟨0, 0, 0, 0, false, ((t.length / 64 : Nat) : Int), level, S.txg, (x0 : Nat), (x1 : Nat), (x2 : Nat), (x3 : Nat)⟩) ∧ w1.heap.size ≤ g8 ∧ Below w1.heap.size w1 wx))
 case first =>
  refine wp_region_held_drew (S := PuR w.heap.size (w.heap.size + 1) sb (stoC ⟨.slice ga S.x.gs.length gc, .slice la S.x.ds.length lc, .slice wa S.x.ds.length acp⟩ S bb dn) t) (by kernel_rfl) hS0 (fun hS0 => ?_)
  refine rtv (i := 0) (v := ?vy0) (hy := ?yy0) (h := ?_)
  case yy0 => intro w hSw; (try dsimp only at hSw); go_simp; rw [(PuR.t hSw).cell 0]; rfl
  try simp only [Act.put, z1, z2, z3]
  refine rtd 1 ?_
  refine rtv (i := 2) (v := ?vy2) (hy := ?yy2) (h := ?_)
  case yy2 => intro w hSw; (try dsimp only at hSw); go_simp; rw [HWQ.out]
  try simp only [Act.put, z1, z2, z3]
  refine rtd 3 ?_
  refine rtv (i := 4) (v := ?vy4) (hy := ?yy4) (h := ?_)
  case yy4 => intro w hSw; (try dsimp only at hSw); go_simp; rw [(PuR.s hSw).cell 0]; rfl
  try simp only [Act.put, z1, z2, z3]
  refine rtd 5 ?_; refine rtd 6 ?_
  refine rtv (i := 7) (v := ?vy7) (hy := ?yy7) (h := ?_)
  case yy7 => intro w hSw; (try dsimp only at hSw); go_simp; rw [(PuR.b hSw).cell 5]; rfl
  try simp only [Act.put, z1, z2, z3]
  refine rtv (i := 8) (v := ?vy8) (hy := ?yy8) (h := ?_)
  case yy8 => intro w hSw; (try dsimp only at hSw); go_simp; rw [(PuR.t hSw).cell 0]; rfl
  try simp only [Act.put, z1, z2, z3]
  refine wpAnyH_ready (rs := [9, 11]) (by kernel_rfl) (by simp) ?_
  refine AllReadyH.cons (by simp only [List.getElem?_toArray, List.getElem?_cons_succ, List.getElem?_cons_zero]; rfl) (fun K hK => ?_) (AllReadyH.cons (by simp only [List.getElem?_toArray, List.getElem?_cons_succ, List.getElem?_cons_zero]; rfl) (fun K hK => ?_) AllReadyH.nil)
  ·go_simp
   refine (HSM.out w1.drew).mono ?_
   rintro e w6 ⟨rfl, hb6⟩
   have HB6 : Hid (Below w1.heap.size w1 w6) := Lib.hid ((Below.refl w1.heap.size w1).drew.trans (hb6.mono ((Below.refl w1.heap.size w1).drew).size))
   have HP6 := Lib.hid (hS0.below hb6)
   clear hb6
   try dsimp only
   refine hK.out _ _ (HP6.out) (fun hSyp9 => ?_)
   try simp only [Act.put, z1, z2, z3]
   refine rtd 10 ?_
   refine rr1 (i := 11) (h := fun K hK => ?_)
   go_simp
   skip
   refine hK.out _ _ ((HP6.out.below ((Below.refl _ _).alloc (Nat.le_refl _) (.cells (encPtr pD).toArray 49)))) (fun hSyp11 => ?_)
   try simp only [Act.put, z1, z2, z3]
   refine rr1 (i := 12) (h := fun K hK => ?_)
   rw [if_pos (by kernel_rfl)]
   refine wp_store_mid 49 (.tmp 8) (.tmp 66) rfl w6.heap.size (0) (encPtr ⟨0, 0, 0, 0, false, ((t.length / 64 : Nat) : Int), level, S.txg, (x0 : Nat), (x1 : Nat), (x2 : Nat), (x3 : Nat)⟩).toArray rfl rfl (blk_there (Blk.new w6 49 (encPtr pD)) (Nat.le_refl 12)) iszPt (all_oneCell_toArray (encPtr_ones _)) ?_
   refine hK.out _ _ (⟨(HP6.out.s.alloc _).away 0 _ (by have := HP6.out.s.lt; omega), (HP6.out.t.alloc _).away 0 _ (by have := HP6.out.t.lt; omega), (HP6.out.b.alloc _).away 0 _ (by have := HP6.out.b.lt; omega)⟩) (fun hSyp12 => ?_)
   try simp only [Act.put, z1, z2, z3]
   have HT : Hid (Blk ((w6.alloc (.cells (encPtr pD).toArray 49)).setCells w6.heap.size 0 (encPtr ⟨0, 0, 0, 0, false, ((t.length / 64 : Nat) : Int), level, S.txg, (x0 : Nat), (x1 : Nat), (x2 : Nat), (x3 : Nat)⟩)) w6.heap.size 49 (encPtr ⟨0, 0, 0, 0, false, ((t.length / 64 : Nat) : Int), level, S.txg, (x0 : Nat), (x1 : Nat), (x2 : Nat), (x3 : Nat)⟩) ∧ w1.heap.size ≤ w6.heap.size ∧ Below w1.heap.size w1 ((w6.alloc (.cells (encPtr pD).toArray 49)).setCells w6.heap.size 0 (encPtr ⟨0, 0, 0, 0, false, ((t.length / 64 : Nat) : Int), level, S.txg, (x0 : Nat), (x1 : Nat), (x2 : Nat), (x3 : Nat)⟩))) := Lib.hid ⟨(Blk.new w6 49 (encPtr pD)).put rfl, HB6.out.size, below_put (HB6.out.alloc HB6.out.size _) (by have := HB6.out.size; simp; omega) HB6.out.size⟩
   refine wpAnyH_done (by kernel_rfl) ?_ _
   go_wp2_with fail
   go_meet
   exact ⟨_, rfl, HT⟩
  ·go_simp
   skip
   refine hK.out _ _ ((hS0.below ((Below.refl _ _).alloc (Nat.le_refl _) (.cells (encPtr pD).toArray 49)))) (fun hSyq11 => ?_)
   try simp only [Act.put, z1, z2, z3]
   refine rr1 (i := 9) (h := fun K hK => ?_)
   go_simp
   refine (HSM.out (w1.drew.alloc (.cells (encPtr pD).toArray 49))).mono ?_
   rintro e w6 ⟨rfl, hb6⟩
   have HB6 : Hid (Below w1.heap.size w1 w6) := Lib.hid (((Below.refl _ _).drew.alloc (Nat.le_refl _) (.cells (encPtr pD).toArray 49)).trans (hb6.mono ((Below.refl w1.heap.size w1).drew.alloc (Nat.le_refl _) (.cells (encPtr pD).toArray 49)).size))
   have HP6 := Lib.hid ((hS0.below ((Below.refl _ _).alloc (Nat.le_refl _) (.cells (encPtr pD).toArray 49))).below hb6)
   have HX6 : Hid (Blk w6 w1.heap.size 49 (encPtr pD)) := Lib.hid ((Blk.new w1.drew _ (encPtr pD)).below hb6)
   clear hb6
   try dsimp only
   refine hK.out _ _ (HP6.out) (fun hSyq9 => ?_)
   try simp only [Act.put, z1, z2, z3]
   refine rtd 10 ?_
   refine rr1 (i := 12) (h := fun K hK => ?_)
   rw [if_pos (by kernel_rfl)]
   refine wp_store_mid 49 (.tmp 8) (.tmp 66) rfl w1.heap.size (0) (encPtr ⟨0, 0, 0, 0, false, ((t.length / 64 : Nat) : Int), level, S.txg, (x0 : Nat), (x1 : Nat), (x2 : Nat), (x3 : Nat)⟩).toArray rfl rfl (blk_there HX6.out (Nat.le_refl 12)) iszPt (all_oneCell_toArray (encPtr_ones _)) ?_
   refine hK.out _ _ (⟨HP6.out.s.away 0 _ (by have := HS1.out; omega), HP6.out.t.away 0 _ (by have := HS1.out; omega), HP6.out.b.away 0 _ (by have := hS0.b.lt; have e : w1.drew.heap.size = w1.heap.size := rfl; omega)⟩) (fun hSyq12 => ?_)
   try simp only [Act.put, z1, z2, z3]
   have HT : Hid (Blk (w6.setCells w1.heap.size 0 (encPtr ⟨0, 0, 0, 0, false, ((t.length / 64 : Nat) : Int), level, S.txg, (x0 : Nat), (x1 : Nat), (x2 : Nat), (x3 : Nat)⟩)) w1.heap.size 49 (encPtr ⟨0, 0, 0, 0, false, ((t.length / 64 : Nat) : Int), level, S.txg, (x0 : Nat), (x1 : Nat), (x2 : Nat), (x3 : Nat)⟩) ∧ w1.heap.size ≤ w1.heap.size ∧ Below w1.heap.size w1 (w6.setCells w1.heap.size 0 (encPtr ⟨0, 0, 0, 0, false, ((t.length / 64 : Nat) : Int), level, S.txg, (x0 : Nat), (x1 : Nat), (x2 : Nat), (x3 : Nat)⟩))) := Lib.hid ⟨HX6.out.put rfl, Nat.le_refl _, below_put HB6.out HB6.out.size (Nat.le_refl _)⟩
   refine wpAnyH_done (by kernel_rfl) ?_ _
   go_wp2_with fail
   go_meet
   exact ⟨_, rfl, HT⟩
 case rest =>
  obtain ⟨g8, rfl, HG8⟩ := hcut
  have HAT2 := Lib.hid (HAT1.out.below HG8.out.2.2)
  have K2S := Lib.hid (K1S.out.below HG8.out.2.2)
  have K2T := Lib.hid (K1T.out.below HG8.out.2.2)
  have K2R := Lib.hid (K1R.out.below HG8.out.2.2)
  have HG8N : Hid (¬ T g8 ∧ w.heap.size + 3 ≤ g8) := Lib.hid ⟨fun hf => by have := HAT1.out.is.lt _ hf; have := HG8.out.2.1; omega, by have := HG8.out.2.1; have := HS1.out; omega⟩
  have b0 : wc.cell? ⟨w.heap.size, 0, none⟩ = some (.pointer (some ⟨sb, 0, none⟩)) := K2S.out.cell 0
  have b5 : wc.cell? ⟨g8, 5, none⟩ = some (.int .i64 ((t.length / 64 : Nat) : Int)) := HG8.out.1.cell 5
  obtain ⟨sz, hsz⟩ : ∃ sz : Int, sz = ((t.length / 64 : Nat) : Int) := ⟨_, rfl⟩
  have HSZ := Lib.hid hsz
  rw [← hsz] at b5
  have HPC := Lib.hid (places_yes HAT2.out.is sz level HFN.out.2.2.2.2.1)
  obtain ⟨er, hper⟩ : ∃ er, er = (plcX S sz level).err := ⟨_, rfl⟩
  obtain ⟨l, hl⟩ : ∃ l, l = (plcX S sz level).l := ⟨_, rfl⟩
  obtain ⟨sn1, hsn1⟩ : ∃ sn1, sn1 = (plcX S sz level).sn := ⟨_, rfl⟩
  obtain ⟨es1, hes1⟩ : ∃ es1, es1 = (plcX S sz level).es := ⟨_, rfl⟩
  rw [← hper, ← hl, ← hsn1, ← hes1] at HPC
  have HRE : Hid (R = if er ≠ 0 then ⟨pD, er, { S with sn := sn1, es := es1 }⟩ else ⟨mkPt t level S.txg l, 0, { S with sn := sn1, es := es1, x := putsL t l S.x, born := S.born ++ [mkPt t level S.txg l] }⟩) := Lib.hid (by
   rw [HR.out]
   unfold putR
   rw [if_neg (by rw [HYES.out]; decide), ← HSZ.out, ← hper, ← hl, ← hsn1, ← hes1])
  have HL12 : Hid (er = 0 → l.length = 1 ∨ l.length = 2) := Lib.hid (fun h0 => by rw [hl]; exact plc_len S sz level (hper.symm.trans h0))
  have HLM : Hid (er = 0 → ∀ q ∈ l, mayC S.x.gs S.x.secs (q.1 : Nat) (q.2 : Nat) ((t.length / 64 : Nat) : Int) = true) := Lib.hid (fun h0 q hq => by
   refine HPL.out ?_ q ?_
   ·rw [← HSZ.out, ← hper]; exact h0
   ·rw [← HSZ.out, ← hl]; exact hq)
  clear hper hl hsn1 hes1 hsz HR
  go_wp2_with fail
  refine HPC.out.mono ?_
  rintro e w3 ⟨v, rfl, ⟨vao, vn, vc, rfl⟩, hv, hst⟩
  obtain ⟨T3, hat3, hfr3, hm3⟩ := HAT2.out.step hst
  have HAT3 := Lib.hid hat3
  have HNT3 : Hid (¬ T3 w.heap.size ∧ ¬ T3 (w.heap.size + 1) ∧ ¬ T3 (w.heap.size + 2) ∧ ¬ T3 g8) := Lib.hid ⟨hfr3 _ K2S.out.lt HNT.out.1, hfr3 _ K2T.out.lt HNT.out.2.1, hfr3 _ K2R.out.lt HNT.out.2.2, hfr3 _ HG8.out.1.lt HG8N.out.1⟩
  have K3S := Lib.hid (hm3.blk K2S.out HNT.out.1)
  have K3T := Lib.hid (hm3.blk K2T.out HNT.out.2.1)
  have K3R := Lib.hid (hm3.blk K2R.out HNT.out.2.2)
  have K38 := Lib.hid (hm3.blk HG8.out.1 HG8N.out.1)
  have HV := Lib.hid hv
  clear hv hst hat3 hfr3 hm3 HPC b0 b5
  by_cases her : er = 0
  ·obtain ⟨gl, hve, hgl, hkl⟩ := HV.out her
   rw [hve]
   subst her
   clear hve HV
   have hll : l.length ≤ 2 := by rcases HL12.out rfl with h | h <;> omega
   have HDL := Lib.hid (deleteP_any HAT3.out.is w.heap.size (w.heap.size + 1) g8 gl l.length t l K3S.out K3T.out hkl HNT3.out.1 HNT3.out.2.1 hll HFN.out.1 hb (HLM.out rfl) K HFN.out.2.1 HFN.out.2.2.1 HFN.out.2.2.2.1)
   have HKL := Lib.hid hkl
   have HKN := Lib.hid (HAT3.out.is.noType hkl (by unfold StoTy BookTy DevTy; decide))
   clear hgl hkl
   go_wp2_with fail
   refine HDL.out.mono ?_
   rintro e w4 ⟨rfl, hst⟩
   obtain ⟨T4, hat4, hfr4, hm4⟩ := HAT3.out.step hst
   have HAT4 := Lib.hid hat4
   have HNT4 : Hid (¬ T4 w.heap.size ∧ ¬ T4 g8 ∧ ¬ T4 (w.heap.size + 2)) := Lib.hid ⟨hfr4 _ K3S.out.lt HNT3.out.1, hfr4 _ K38.out.lt HNT3.out.2.2.2, hfr4 _ K3R.out.lt HNT3.out.2.2.1⟩
   have K4S := Lib.hid (hm4.blk K3S.out HNT3.out.1)
   have K4R := Lib.hid (hm4.blk K3R.out HNT3.out.2.2.1)
   have K48 := Lib.hid (hm4.blk K38.out HNT3.out.2.2.2)
   have K4L := Lib.hid (hm4.blk HKL.out HKN.out)
   clear hst hat4 hfr4 hm4 HDL
   rcases l with _ | ⟨⟨q0g, q0a⟩, _ | ⟨⟨q1g, q1a⟩, _ | ⟨q2, rr⟩⟩⟩
   ·exfalso
    rcases HL12.out (by trivial) with h | h <;> cases h
   ·have hgS : w.heap.size ≠ g8 := by have := HG8N.out.2; omega
    have hgR : w.heap.size + 2 ≠ g8 := by have := HG8N.out.2; omega
    have hg8 : w.heap.size + 3 ≤ g8 := HG8N.out.2
    obtain ⟨w5, hw5⟩ : ∃ w5, w5 = (((w4.setCell ⟨g8, 0, none⟩ (.int .i64 (q0g : Nat))).setCell ⟨g8, 1, none⟩ (.int .i64 (q0a : Nat))).setCell ⟨g8, 4, none⟩ (.bool false)) := ⟨_, rfl⟩
    have HAT5 : Hid (StoAt { S with sn := sn1, es := es1, x := putsL t [(q0g, q0a)] S.x } _ sb bb dn T w w5 T4) := Lib.hid (by rw [hw5]; exact (((HAT4.out.other (wd := w4.setCell ⟨g8, 0, none⟩ (.int .i64 (q0g : Nat))) K48.out (by unfold BookTy; decide) HNT4.out.2.1 (by omega) blk_gr).other (wd := (w4.setCell ⟨g8, 0, none⟩ (.int .i64 (q0g : Nat))).setCell ⟨g8, 1, none⟩ (.int .i64 (q0a : Nat))) (K48.out.setCell 0 (.int .i64 (q0g : Nat))) (by unfold BookTy; decide) HNT4.out.2.1 (by omega) blk_gr).other (wd := ((w4.setCell ⟨g8, 0, none⟩ (.int .i64 (q0g : Nat))).setCell ⟨g8, 1, none⟩ (.int .i64 (q0a : Nat))).setCell ⟨g8, 4, none⟩ (.bool false)) ((K48.out.setCell 0 (.int .i64 (q0g : Nat))).setCell 1 (.int .i64 (q0a : Nat))) (by unfold BookTy; decide) HNT4.out.2.1 (by omega) blk_gr))
    have HPW : Hid (PuW w.heap.size g8 (w.heap.size + 2) sb ⟨(q0g : Nat), (q0a : Nat), 0, 0, false, sz, level, S.txg, (x0 : Nat), (x1 : Nat), (x2 : Nat), (x3 : Nat)⟩ w5) := Lib.hid (by rw [hw5, HSZ.out]; exact ⟨(((K4S.out.other (a := ⟨g8, 0, none⟩) hgS _).other (a := ⟨g8, 1, none⟩) hgS _).other (a := ⟨g8, 4, none⟩) hgS _), (((K48.out.setCell 0 (.int .i64 (q0g : Nat))).setCell 1 (.int .i64 (q0a : Nat))).setCell 4 (.bool false)), (((K4R.out.other (a := ⟨g8, 0, none⟩) hgR _).other (a := ⟨g8, 1, none⟩) hgR _).other (a := ⟨g8, 4, none⟩) hgR _)⟩)
    have HRR : Hid (R = ⟨⟨(q0g : Nat), (q0a : Nat), 0, 0, false, sz, level, S.txg, (x0 : Nat), (x1 : Nat), (x2 : Nat), (x3 : Nat)⟩, 0, { S with sn := sn1, es := es1, x := putsL t [(q0g, q0a)] S.x, born := S.born ++ [⟨(q0g : Nat), (q0a : Nat), 0, 0, false, sz, level, S.txg, (x0 : Nat), (x1 : Nat), (x2 : Nat), (x3 : Nat)⟩] }⟩) := Lib.hid (by
     have hp : mkPt t level S.txg [(q0g, q0a)] = ⟨(q0g : Nat), (q0a : Nat), 0, 0, false, sz, level, S.txg, (x0 : Nat), (x1 : Nat), (x2 : Nat), (x3 : Nat)⟩ := by unfold mkPt; rw [← HX.out, ← HSZ.out]; rfl
     rw [HRE.out, if_neg (by simp), hp])
    have z0 : w4.cell? ⟨gl, 0, none⟩ = some (.int .i64 (q0g : Nat)) := K4L.out.cell 0
    have z1 : w4.cell? ⟨gl, 1, none⟩ = some (.int .i64 (q0a : Nat)) := K4L.out.cell 1
    have hgl : gl ≠ g8 := fun e => by
     have h1 := K4L.out
     have h2 := K48.out
     unfold Blk at h1 h2
     rw [e, h2] at h1
     simp only [Option.some.injEq, Obj.cells.injEq] at h1
     exact absurd h1.2.1 (by decide)
    have y0 : w4.cell? ⟨g8, 0, none⟩ = some (.int .i64 0) := K48.out.cell 0
    have y1 : w4.cell? ⟨g8, 1, none⟩ = some (.int .i64 0) := K48.out.cell 1
    have y2 : w4.cell? ⟨g8, 2, none⟩ = some (.int .i64 0) := K48.out.cell 2
    have y3 : w4.cell? ⟨g8, 3, none⟩ = some (.int .i64 0) := K48.out.cell 3
    have y4 : w4.cell? ⟨g8, 4, none⟩ = some (.bool false) := K48.out.cell 4
    have v0 := K48.out.frozen 0
    have v1 := K48.out.frozen 1
    have v2 := K48.out.frozen 2
    have v3 := K48.out.frozen 3
    have v4 := K48.out.frozen 4
    simp only [List.length_cons, List.length_nil, Nat.zero_add, Nat.reduceAdd]
    go_upto_region 13 with fail
    rw [← hw5]
    clear hw5 y0 y1 y2 y3 y4 v0 v1 v2 v3 v4 z0 z1 hgl
    have HA5 := Lib.hid (HAT5.out.below (Below.refl _ _).drew)
    have HA5b := Lib.hid (HA5.out.alloc (.cells (encPtr ⟨(q0g : Nat), (q0a : Nat), 0, 0, false, sz, level, S.txg, (x0 : Nat), (x1 : Nat), (x2 : Nat), (x3 : Nat)⟩).toArray 49))
    have hS5 : PuW w.heap.size g8 (w.heap.size + 2) sb ⟨(q0g : Nat), (q0a : Nat), 0, 0, false, sz, level, S.txg, (x0 : Nat), (x1 : Nat), (x2 : Nat), (x3 : Nat)⟩ w5.drew := HPW.out.below (Below.refl _ _).drew
    go_cut [100] (fun v wx => ∃ d Tz, v = .pointer (some ⟨sb, 0, none⟩) ∧ Hid (∀ d0, dn = some d0 → d = d0) ∧ Hid (StoAt { S with sn := sn1, es := es1, x := putsL t [(q0g, q0a)] S.x, born := S.born ++ [⟨(q0g : Nat), (q0a : Nat), 0, 0, false, sz, level, S.txg, (x0 : Nat), (x1 : Nat), (x2 : Nat), (x3 : Nat)⟩] } ⟨.slice ga S.x.gs.length gc, .slice la S.x.ds.length lc, .slice wa S.x.ds.length acp⟩ sb bb (some d) T w wx Tz) ∧ Hid (PuW w.heap.size g8 (w.heap.size + 2) sb ⟨(q0g : Nat), (q0a : Nat), 0, 0, false, sz, level, S.txg, (x0 : Nat), (x1 : Nat), (x2 : Nat), (x3 : Nat)⟩ wx) ∧ Hid (¬ Tz g8 ∧ ¬ Tz (w.heap.size + 2)))
    case first =>
     refine wp_region_held_drew (S := PuW w.heap.size g8 (w.heap.size + 2) sb ⟨(q0g : Nat), (q0a : Nat), 0, 0, false, sz, level, S.txg, (x0 : Nat), (x1 : Nat), (x2 : Nat), (x3 : Nat)⟩) (by kernel_rfl) hS5 (fun hS5 => ?_)
     refine rtv (i := 0) (v := ?vz0) (hy := ?yz0) (h := ?_)
     case yz0 => intro w hSw; (try dsimp only at hSw); go_simp; rw [(PuW.s hSw).cell 0]; rfl
     try simp only [Act.put, z1, z2, z3]
     refine rtv (i := 2) (v := ?vz2) (hy := ?yz2) (h := ?_)
     case yz2 => intro w hSw; (try dsimp only at hSw); go_simp; rw [(PuW.s hSw).cell 0]; rfl
     try simp only [Act.put, z1, z2, z3]
     refine rtg 7 ?vz7 ?yz7 ?_
     case yz7 => refine yieldsIf_load_mid (by kernel_rfl) 49 (.tmp 8) ?_ g8 (0) ?_ (encPtr ⟨(q0g : Nat), (q0a : Nat), 0, 0, false, sz, level, S.txg, (x0 : Nat), (x1 : Nat), (x2 : Nat), (x3 : Nat)⟩) _ (fun w' (hw : PuW _ _ _ _ _ w') => range0M hw.p) Tryz.underlying49 rfl iszPt <;> rfl
     refine wpAnyH_ready (rs := [1, 8]) (by kernel_rfl) (by simp) ?_
     refine AllReadyH.cons (by simp only [List.getElem?_toArray, List.getElem?_cons_succ, List.getElem?_cons_zero]; rfl) (fun K hK => ?_) (AllReadyH.cons (by simp only [List.getElem?_toArray, List.getElem?_cons_succ, List.getElem?_cons_zero]; rfl) (fun K hK => ?_) AllReadyH.nil)
     ·go_simp
      refine (work_any2 HA5.out.is).mono ?_
      rintro e w6 ⟨d, rfl, hst, hdd⟩
      obtain ⟨T6, hat6, hfr6, hm6⟩ := HA5.out.step hst
      have HAT6 := Lib.hid hat6
      have HD6 := Lib.hid hdd
      have HN6 : Hid (¬ T6 w.heap.size ∧ ¬ T6 g8 ∧ ¬ T6 (w.heap.size + 2)) := Lib.hid ⟨hfr6 _ (hS5).s.lt HNT4.out.1, hfr6 _ (hS5).p.lt HNT4.out.2.1, hfr6 _ (hS5).r.lt HNT4.out.2.2⟩
      have HP6 := Lib.hid ((hS5).mod hm6 HNT4.out)
      clear hst hdd hat6 hfr6 hm6
      try dsimp only
      refine hK.out _ _ (HP6.out) (fun hSzp1 => ?_)
      try simp only [Act.put, z1, z2, z3]
      refine wpAnyH_ready (rs := [3, 8]) (by kernel_rfl) (by simp) ?_
      refine AllReadyH.cons (by simp only [List.getElem?_toArray, List.getElem?_cons_succ, List.getElem?_cons_zero]; rfl) (fun K hK => ?_) (AllReadyH.cons (by simp only [List.getElem?_toArray, List.getElem?_cons_succ, List.getElem?_cons_zero]; rfl) (fun K hK => ?_) AllReadyH.nil)
      ·go_simp
       refine (work_some HAT6.out.is).mono ?_
       rintro e w7 ⟨rfl, hw7⟩
       rw [hw7]
       clear hw7
       try dsimp only
       refine hK.out _ _ (HP6.out) (fun hSzpp3 => ?_)
       try simp only [Act.put, z1, z2, z3]
       refine rtd 4 ?_; refine rtd 5 ?_
       obtain ⟨bv, hbv⟩ := HAT6.out.is.done
       obtain ⟨bo, bc, rfl⟩ := own_form (HAT6.out.is.app2 hbv).1
       have HBV := Lib.hid hbv
       have e6 : w6.cell? ⟨d, 1, none⟩ = some (.slice bo S.born.length bc) := hbv.cell 1
       clear hbv
       refine wpAnyH_ready (rs := [6, 8]) (by kernel_rfl) (by simp) ?_
       refine AllReadyH.cons (by simp only [List.getElem?_toArray, List.getElem?_cons_succ, List.getElem?_cons_zero]; rfl) (fun K hK => ?_) (AllReadyH.cons (by simp only [List.getElem?_toArray, List.getElem?_cons_succ, List.getElem?_cons_zero]; rfl) (fun K hK => ?_) AllReadyH.nil)
       ·go_simp
        clear e6
        refine hK.out _ _ (HP6.out) (fun hSzppp6 => ?_)
        try simp only [Act.put, z1, z2, z3]
        refine rr1 (i := 8) (h := fun K hK => ?_)
        rw [if_pos (by kernel_rfl)]
        refine wp_build_at (.tmp 107) rfl ⟨(q0g : Nat), (q0a : Nat), 0, 0, false, sz, level, S.txg, (x0 : Nat), (x1 : Nat), (x2 : Nat), (x3 : Nat)⟩ rfl ?_
        refine hK.out _ _ ((HP6.out.below ((Below.refl _ _).alloc (Nat.le_refl _) (.cells (encPtr ⟨(q0g : Nat), (q0a : Nat), 0, 0, false, sz, level, S.txg, (x0 : Nat), (x1 : Nat), (x2 : Nat), (x3 : Nat)⟩).toArray 49)))) (fun hSzppp8 => ?_)
        try simp only [Act.put, z1, z2, z3]
        have HAT6b := Lib.hid (HAT6.out.alloc (.cells (encPtr ⟨(q0g : Nat), (q0a : Nat), 0, 0, false, sz, level, S.txg, (x0 : Nat), (x1 : Nat), (x2 : Nat), (x3 : Nat)⟩).toArray 49))
        have HP6b := Lib.hid (HP6.out.below ((Below.refl _ _).alloc (Nat.le_refl _) (.cells (encPtr ⟨(q0g : Nat), (q0a : Nat), 0, 0, false, sz, level, S.txg, (x0 : Nat), (x1 : Nat), (x2 : Nat), (x3 : Nat)⟩).toArray 49)))
        have HGBb : Hid (Blk (w6.alloc (.cells (encPtr ⟨(q0g : Nat), (q0a : Nat), 0, 0, false, sz, level, S.txg, (x0 : Nat), (x1 : Nat), (x2 : Nat), (x3 : Nat)⟩).toArray 49)) w6.heap.size 49 (encPtr ⟨(q0g : Nat), (q0a : Nat), 0, 0, false, sz, level, S.txg, (x0 : Nat), (x1 : Nat), (x2 : Nat), (x3 : Nat)⟩)) := Lib.hid (Blk.new w6 _ (encPtr ⟨(q0g : Nat), (q0a : Nat), 0, 0, false, sz, level, S.txg, (x0 : Nat), (x1 : Nat), (x2 : Nat), (x3 : Nat)⟩))
        refine rr1 (i := 9) (h := fun K hK => ?_)
        rw [if_pos (by kernel_rfl)]
        obtain ⟨hrow, hTd, hTb, happ⟩ := HAT6b.out.is.app2 (HBV.out.alloc _)
        refine wp_app_ptrS (.tmp 106) (.tmp 108) rfl (.slice bo S.born.length bc) S.born rfl hrow w6.heap.size 1 ⟨(q0g : Nat), (q0a : Nat), 0, 0, false, sz, level, S.txg, (x0 : Nat), (x1 : Nat), (x2 : Nat), (x3 : Nat)⟩ rfl (range0M HGBb.out) HFN.out.2.2.2.2.2 ?_
        intro v9 w9 hown hgrow hat
        obtain ⟨hd9, hst9⟩ := happ ⟨(q0g : Nat), (q0a : Nat), 0, 0, false, sz, level, S.txg, (x0 : Nat), (x1 : Nat), (x2 : Nat), (x3 : Nat)⟩ v9 w9 hown hgrow hat
        obtain ⟨ao9, cap9, rfl⟩ := own_form hown
        obtain ⟨T9, hat9, hfr9, _⟩ := HAT6b.out.step hst9
        have HP9 := Lib.hid (HP6b.out.mod (mod_grown hgrow hTb) HN6.out)
        have HAT9 := Lib.hid (by simpa only [List.length_append, List.length_singleton] using hat9)
        have HN9 : Hid (¬ T9 g8 ∧ ¬ T9 (w.heap.size + 2)) := Lib.hid ⟨hfr9 _ HP6b.out.p.lt HN6.out.2.1, hfr9 _ HP6b.out.r.lt HN6.out.2.2⟩
        have HNE9 : Hid (w.heap.size ≠ d ∧ g8 ≠ d ∧ w.heap.size + 2 ≠ d) := Lib.hid ⟨fun e => HN6.out.1 (by rw [e]; exact hTd), fun e => HN6.out.2.1 (by rw [e]; exact hTd), fun e => HN6.out.2.2 (by rw [e]; exact hTd)⟩
        have e9 : w9.cell? ⟨d, 1, none⟩ = some (.slice bo S.born.length bc) := hd9.cell 1
        have f9 := hd9.frozen 1
        clear hrow hTd hTb happ hown hgrow hat hd9 hst9 hat9 hfr9
        refine hK.out _ _ (HP9.out) (fun hSzppp9 => ?_)
        try simp only [Act.put, z1, z2, z3]
        refine rtd 10 ?_; refine rtd 11 ?_
        refine rr1 (i := 12) (h := fun K hK => ?_)
        go_simp
        skip
        refine hK.out _ _ (⟨HP9.out.s.other HNE9.out.1 _, HP9.out.p.other HNE9.out.2.1 _, HP9.out.r.other HNE9.out.2.2 _⟩) (fun hSzppp12 => ?_)
        try simp only [Act.put, z1, z2, z3]
        have HP12 : Hid (PuW w.heap.size g8 (w.heap.size + 2) sb ⟨(q0g : Nat), (q0a : Nat), 0, 0, false, sz, level, S.txg, (x0 : Nat), (x1 : Nat), (x2 : Nat), (x3 : Nat)⟩ (w9.setCell ⟨d, 1, none⟩ (.slice ao9 (S.born.length + 1) cap9))) := Lib.hid (PuW.mk (HP9.out.s.other HNE9.out.1 _) (HP9.out.p.other HNE9.out.2.1 _) (HP9.out.r.other HNE9.out.2.2 _))
        refine wpAnyH_done (by kernel_rfl) ?_ _
        go_wp2_with fail
        go_meet
        exact ⟨d, T9, rfl, HD6, HAT9, HP12, HN9⟩
       ·rw [if_pos (by kernel_rfl)]
        refine wp_build_at (.tmp 107) rfl ⟨(q0g : Nat), (q0a : Nat), 0, 0, false, sz, level, S.txg, (x0 : Nat), (x1 : Nat), (x2 : Nat), (x3 : Nat)⟩ rfl ?_
        refine hK.out _ _ ((HP6.out.below ((Below.refl _ _).alloc (Nat.le_refl _) (.cells (encPtr ⟨(q0g : Nat), (q0a : Nat), 0, 0, false, sz, level, S.txg, (x0 : Nat), (x1 : Nat), (x2 : Nat), (x3 : Nat)⟩).toArray 49)))) (fun hSzppq8 => ?_)
        try simp only [Act.put, z1, z2, z3]
        have HAT6b := Lib.hid (HAT6.out.alloc (.cells (encPtr ⟨(q0g : Nat), (q0a : Nat), 0, 0, false, sz, level, S.txg, (x0 : Nat), (x1 : Nat), (x2 : Nat), (x3 : Nat)⟩).toArray 49))
        have HP6b := Lib.hid (HP6.out.below ((Below.refl _ _).alloc (Nat.le_refl _) (.cells (encPtr ⟨(q0g : Nat), (q0a : Nat), 0, 0, false, sz, level, S.txg, (x0 : Nat), (x1 : Nat), (x2 : Nat), (x3 : Nat)⟩).toArray 49)))
        have HGBb : Hid (Blk (w6.alloc (.cells (encPtr ⟨(q0g : Nat), (q0a : Nat), 0, 0, false, sz, level, S.txg, (x0 : Nat), (x1 : Nat), (x2 : Nat), (x3 : Nat)⟩).toArray 49)) w6.heap.size 49 (encPtr ⟨(q0g : Nat), (q0a : Nat), 0, 0, false, sz, level, S.txg, (x0 : Nat), (x1 : Nat), (x2 : Nat), (x3 : Nat)⟩)) := Lib.hid (Blk.new w6 _ (encPtr ⟨(q0g : Nat), (q0a : Nat), 0, 0, false, sz, level, S.txg, (x0 : Nat), (x1 : Nat), (x2 : Nat), (x3 : Nat)⟩))
        have e6b : (w6.alloc (.cells (encPtr ⟨(q0g : Nat), (q0a : Nat), 0, 0, false, sz, level, S.txg, (x0 : Nat), (x1 : Nat), (x2 : Nat), (x3 : Nat)⟩).toArray 49)).cell? ⟨d, 1, none⟩ = some (.slice bo S.born.length bc) := (HBV.out.alloc _).cell 1
        refine rr1 (i := 6) (h := fun K hK => ?_)
        go_simp
        clear e6b
        refine hK.out _ _ (HP6b.out) (fun hSzppq6 => ?_)
        try simp only [Act.put, z1, z2, z3]
        refine rr1 (i := 9) (h := fun K hK => ?_)
        rw [if_pos (by kernel_rfl)]
        obtain ⟨hrow, hTd, hTb, happ⟩ := HAT6b.out.is.app2 (HBV.out.alloc _)
        refine wp_app_ptrS (.tmp 106) (.tmp 108) rfl (.slice bo S.born.length bc) S.born rfl hrow w6.heap.size 1 ⟨(q0g : Nat), (q0a : Nat), 0, 0, false, sz, level, S.txg, (x0 : Nat), (x1 : Nat), (x2 : Nat), (x3 : Nat)⟩ rfl (range0M HGBb.out) HFN.out.2.2.2.2.2 ?_
        intro v9 w9 hown hgrow hat
        obtain ⟨hd9, hst9⟩ := happ ⟨(q0g : Nat), (q0a : Nat), 0, 0, false, sz, level, S.txg, (x0 : Nat), (x1 : Nat), (x2 : Nat), (x3 : Nat)⟩ v9 w9 hown hgrow hat
        obtain ⟨ao9, cap9, rfl⟩ := own_form hown
        obtain ⟨T9, hat9, hfr9, _⟩ := HAT6b.out.step hst9
        have HP9 := Lib.hid (HP6b.out.mod (mod_grown hgrow hTb) HN6.out)
        have HAT9 := Lib.hid (by simpa only [List.length_append, List.length_singleton] using hat9)
        have HN9 : Hid (¬ T9 g8 ∧ ¬ T9 (w.heap.size + 2)) := Lib.hid ⟨hfr9 _ HP6b.out.p.lt HN6.out.2.1, hfr9 _ HP6b.out.r.lt HN6.out.2.2⟩
        have HNE9 : Hid (w.heap.size ≠ d ∧ g8 ≠ d ∧ w.heap.size + 2 ≠ d) := Lib.hid ⟨fun e => HN6.out.1 (by rw [e]; exact hTd), fun e => HN6.out.2.1 (by rw [e]; exact hTd), fun e => HN6.out.2.2 (by rw [e]; exact hTd)⟩
        have e9 : w9.cell? ⟨d, 1, none⟩ = some (.slice bo S.born.length bc) := hd9.cell 1
        have f9 := hd9.frozen 1
        clear hrow hTd hTb happ hown hgrow hat hd9 hst9 hat9 hfr9
        refine hK.out _ _ (HP9.out) (fun hSzppq9 => ?_)
        try simp only [Act.put, z1, z2, z3]
        refine rtd 10 ?_; refine rtd 11 ?_
        refine rr1 (i := 12) (h := fun K hK => ?_)
        go_simp
        skip
        refine hK.out _ _ (⟨HP9.out.s.other HNE9.out.1 _, HP9.out.p.other HNE9.out.2.1 _, HP9.out.r.other HNE9.out.2.2 _⟩) (fun hSzppq12 => ?_)
        try simp only [Act.put, z1, z2, z3]
        have HP12 : Hid (PuW w.heap.size g8 (w.heap.size + 2) sb ⟨(q0g : Nat), (q0a : Nat), 0, 0, false, sz, level, S.txg, (x0 : Nat), (x1 : Nat), (x2 : Nat), (x3 : Nat)⟩ (w9.setCell ⟨d, 1, none⟩ (.slice ao9 (S.born.length + 1) cap9))) := Lib.hid (PuW.mk (HP9.out.s.other HNE9.out.1 _) (HP9.out.p.other HNE9.out.2.1 _) (HP9.out.r.other HNE9.out.2.2 _))
        refine wpAnyH_done (by kernel_rfl) ?_ _
        go_wp2_with fail
        go_meet
        exact ⟨d, T9, rfl, HD6, HAT9, HP12, HN9⟩
      ·rw [if_pos (by kernel_rfl)]
       refine wp_build_at (.tmp 107) rfl ⟨(q0g : Nat), (q0a : Nat), 0, 0, false, sz, level, S.txg, (x0 : Nat), (x1 : Nat), (x2 : Nat), (x3 : Nat)⟩ rfl ?_
       refine hK.out _ _ ((HP6.out.below ((Below.refl _ _).alloc (Nat.le_refl _) (.cells (encPtr ⟨(q0g : Nat), (q0a : Nat), 0, 0, false, sz, level, S.txg, (x0 : Nat), (x1 : Nat), (x2 : Nat), (x3 : Nat)⟩).toArray 49)))) (fun hSzpq8 => ?_)
       try simp only [Act.put, z1, z2, z3]
       have HAT6b := Lib.hid (HAT6.out.alloc (.cells (encPtr ⟨(q0g : Nat), (q0a : Nat), 0, 0, false, sz, level, S.txg, (x0 : Nat), (x1 : Nat), (x2 : Nat), (x3 : Nat)⟩).toArray 49))
       have HP6b := Lib.hid (HP6.out.below ((Below.refl _ _).alloc (Nat.le_refl _) (.cells (encPtr ⟨(q0g : Nat), (q0a : Nat), 0, 0, false, sz, level, S.txg, (x0 : Nat), (x1 : Nat), (x2 : Nat), (x3 : Nat)⟩).toArray 49)))
       have HGBb : Hid (Blk (w6.alloc (.cells (encPtr ⟨(q0g : Nat), (q0a : Nat), 0, 0, false, sz, level, S.txg, (x0 : Nat), (x1 : Nat), (x2 : Nat), (x3 : Nat)⟩).toArray 49)) w6.heap.size 49 (encPtr ⟨(q0g : Nat), (q0a : Nat), 0, 0, false, sz, level, S.txg, (x0 : Nat), (x1 : Nat), (x2 : Nat), (x3 : Nat)⟩)) := Lib.hid (Blk.new w6 _ (encPtr ⟨(q0g : Nat), (q0a : Nat), 0, 0, false, sz, level, S.txg, (x0 : Nat), (x1 : Nat), (x2 : Nat), (x3 : Nat)⟩))
       refine rr1 (i := 3) (h := fun K hK => ?_)
       go_simp
       refine (work_some HAT6b.out.is).mono ?_
       rintro e w7 ⟨rfl, hw7⟩
       rw [hw7]
       clear hw7
       try dsimp only
       refine hK.out _ _ (HP6b.out) (fun hSzpq3 => ?_)
       try simp only [Act.put, z1, z2, z3]
       refine rtd 4 ?_; refine rtd 5 ?_
       obtain ⟨bv, hbv⟩ := HAT6b.out.is.done
       obtain ⟨bo, bc, rfl⟩ := own_form (HAT6b.out.is.app2 hbv).1
       have HBV := Lib.hid hbv
       have e6 : (w6.alloc (.cells (encPtr ⟨(q0g : Nat), (q0a : Nat), 0, 0, false, sz, level, S.txg, (x0 : Nat), (x1 : Nat), (x2 : Nat), (x3 : Nat)⟩).toArray 49)).cell? ⟨d, 1, none⟩ = some (.slice bo S.born.length bc) := hbv.cell 1
       clear hbv
       refine rr1 (i := 6) (h := fun K hK => ?_)
       go_simp
       clear e6
       refine hK.out _ _ (HP6b.out) (fun hSzpq6 => ?_)
       try simp only [Act.put, z1, z2, z3]
       refine rr1 (i := 9) (h := fun K hK => ?_)
       rw [if_pos (by kernel_rfl)]
       obtain ⟨hrow, hTd, hTb, happ⟩ := HAT6b.out.is.app2 HBV.out
       refine wp_app_ptrS (.tmp 106) (.tmp 108) rfl (.slice bo S.born.length bc) S.born rfl hrow w6.heap.size 1 ⟨(q0g : Nat), (q0a : Nat), 0, 0, false, sz, level, S.txg, (x0 : Nat), (x1 : Nat), (x2 : Nat), (x3 : Nat)⟩ rfl (range0M HGBb.out) HFN.out.2.2.2.2.2 ?_
       intro v9 w9 hown hgrow hat
       obtain ⟨hd9, hst9⟩ := happ ⟨(q0g : Nat), (q0a : Nat), 0, 0, false, sz, level, S.txg, (x0 : Nat), (x1 : Nat), (x2 : Nat), (x3 : Nat)⟩ v9 w9 hown hgrow hat
       obtain ⟨ao9, cap9, rfl⟩ := own_form hown
       obtain ⟨T9, hat9, hfr9, _⟩ := HAT6b.out.step hst9
       have HP9 := Lib.hid (HP6b.out.mod (mod_grown hgrow hTb) HN6.out)
       have HAT9 := Lib.hid (by simpa only [List.length_append, List.length_singleton] using hat9)
       have HN9 : Hid (¬ T9 g8 ∧ ¬ T9 (w.heap.size + 2)) := Lib.hid ⟨hfr9 _ HP6b.out.p.lt HN6.out.2.1, hfr9 _ HP6b.out.r.lt HN6.out.2.2⟩
       have HNE9 : Hid (w.heap.size ≠ d ∧ g8 ≠ d ∧ w.heap.size + 2 ≠ d) := Lib.hid ⟨fun e => HN6.out.1 (by rw [e]; exact hTd), fun e => HN6.out.2.1 (by rw [e]; exact hTd), fun e => HN6.out.2.2 (by rw [e]; exact hTd)⟩
       have e9 : w9.cell? ⟨d, 1, none⟩ = some (.slice bo S.born.length bc) := hd9.cell 1
       have f9 := hd9.frozen 1
       clear hrow hTd hTb happ hown hgrow hat hd9 hst9 hat9 hfr9
       refine hK.out _ _ (HP9.out) (fun hSzpq9 => ?_)
       try simp only [Act.put, z1, z2, z3]
       refine rtd 10 ?_; refine rtd 11 ?_
       refine rr1 (i := 12) (h := fun K hK => ?_)
       go_simp
       skip
       refine hK.out _ _ (⟨HP9.out.s.other HNE9.out.1 _, HP9.out.p.other HNE9.out.2.1 _, HP9.out.r.other HNE9.out.2.2 _⟩) (fun hSzpq12 => ?_)
       try simp only [Act.put, z1, z2, z3]
       have HP12 : Hid (PuW w.heap.size g8 (w.heap.size + 2) sb ⟨(q0g : Nat), (q0a : Nat), 0, 0, false, sz, level, S.txg, (x0 : Nat), (x1 : Nat), (x2 : Nat), (x3 : Nat)⟩ (w9.setCell ⟨d, 1, none⟩ (.slice ao9 (S.born.length + 1) cap9))) := Lib.hid (PuW.mk (HP9.out.s.other HNE9.out.1 _) (HP9.out.p.other HNE9.out.2.1 _) (HP9.out.r.other HNE9.out.2.2 _))
       refine wpAnyH_done (by kernel_rfl) ?_ _
       go_wp2_with fail
       go_meet
       exact ⟨d, T9, rfl, HD6, HAT9, HP12, HN9⟩
     ·rw [if_pos (by kernel_rfl)]
      refine wp_build_at (.tmp 107) rfl ⟨(q0g : Nat), (q0a : Nat), 0, 0, false, sz, level, S.txg, (x0 : Nat), (x1 : Nat), (x2 : Nat), (x3 : Nat)⟩ rfl ?_
      refine hK.out _ _ ((hS5.below ((Below.refl _ _).alloc (Nat.le_refl _) (.cells (encPtr ⟨(q0g : Nat), (q0a : Nat), 0, 0, false, sz, level, S.txg, (x0 : Nat), (x1 : Nat), (x2 : Nat), (x3 : Nat)⟩).toArray 49)))) (fun hSzq8 => ?_)
      try simp only [Act.put, z1, z2, z3]
      refine rr1 (i := 1) (h := fun K hK => ?_)
      go_simp
      refine (work_any2 HA5b.out.is).mono ?_
      rintro e w6 ⟨d, rfl, hst, hdd⟩
      obtain ⟨T6, hat6, hfr6, hm6⟩ := HA5b.out.step hst
      have HAT6 := Lib.hid hat6
      have HD6 := Lib.hid hdd
      have HN6 : Hid (¬ T6 w.heap.size ∧ ¬ T6 g8 ∧ ¬ T6 (w.heap.size + 2)) := Lib.hid ⟨hfr6 _ (hS5.below ((Below.refl _ _).alloc (Nat.le_refl _) (.cells (encPtr ⟨(q0g : Nat), (q0a : Nat), 0, 0, false, sz, level, S.txg, (x0 : Nat), (x1 : Nat), (x2 : Nat), (x3 : Nat)⟩).toArray 49))).s.lt HNT4.out.1, hfr6 _ (hS5.below ((Below.refl _ _).alloc (Nat.le_refl _) (.cells (encPtr ⟨(q0g : Nat), (q0a : Nat), 0, 0, false, sz, level, S.txg, (x0 : Nat), (x1 : Nat), (x2 : Nat), (x3 : Nat)⟩).toArray 49))).p.lt HNT4.out.2.1, hfr6 _ (hS5.below ((Below.refl _ _).alloc (Nat.le_refl _) (.cells (encPtr ⟨(q0g : Nat), (q0a : Nat), 0, 0, false, sz, level, S.txg, (x0 : Nat), (x1 : Nat), (x2 : Nat), (x3 : Nat)⟩).toArray 49))).r.lt HNT4.out.2.2⟩
      have HP6 := Lib.hid ((hS5.below ((Below.refl _ _).alloc (Nat.le_refl _) (.cells (encPtr ⟨(q0g : Nat), (q0a : Nat), 0, 0, false, sz, level, S.txg, (x0 : Nat), (x1 : Nat), (x2 : Nat), (x3 : Nat)⟩).toArray 49))).mod hm6 HNT4.out)
      have HGB6 : Hid (Blk w6 w5.heap.size 49 (encPtr ⟨(q0g : Nat), (q0a : Nat), 0, 0, false, sz, level, S.txg, (x0 : Nat), (x1 : Nat), (x2 : Nat), (x3 : Nat)⟩)) := Lib.hid (hm6.blk (Blk.new w5.drew _ (encPtr ⟨(q0g : Nat), (q0a : Nat), 0, 0, false, sz, level, S.txg, (x0 : Nat), (x1 : Nat), (x2 : Nat), (x3 : Nat)⟩)) (fun hf => by have := HA5.out.is.lt _ hf; have e : w5.drew.heap.size = w5.heap.size := rfl; omega))
      clear hst hdd hat6 hfr6 hm6
      try dsimp only
      refine hK.out _ _ (HP6.out) (fun hSzq1 => ?_)
      try simp only [Act.put, z1, z2, z3]
      refine rr1 (i := 3) (h := fun K hK => ?_)
      go_simp
      refine (work_some HAT6.out.is).mono ?_
      rintro e w7 ⟨rfl, hw7⟩
      rw [hw7]
      clear hw7
      try dsimp only
      refine hK.out _ _ (HP6.out) (fun hSzq3 => ?_)
      try simp only [Act.put, z1, z2, z3]
      refine rtd 4 ?_; refine rtd 5 ?_
      obtain ⟨bv, hbv⟩ := HAT6.out.is.done
      obtain ⟨bo, bc, rfl⟩ := own_form (HAT6.out.is.app2 hbv).1
      have HBV := Lib.hid hbv
      have e6 : w6.cell? ⟨d, 1, none⟩ = some (.slice bo S.born.length bc) := hbv.cell 1
      clear hbv
      refine rr1 (i := 6) (h := fun K hK => ?_)
      go_simp
      clear e6
      refine hK.out _ _ (HP6.out) (fun hSzq6 => ?_)
      try simp only [Act.put, z1, z2, z3]
      refine rr1 (i := 9) (h := fun K hK => ?_)
      rw [if_pos (by kernel_rfl)]
      obtain ⟨hrow, hTd, hTb, happ⟩ := HAT6.out.is.app2 HBV.out
      refine wp_app_ptrS (.tmp 106) (.tmp 108) rfl (.slice bo S.born.length bc) S.born rfl hrow w5.heap.size 1 ⟨(q0g : Nat), (q0a : Nat), 0, 0, false, sz, level, S.txg, (x0 : Nat), (x1 : Nat), (x2 : Nat), (x3 : Nat)⟩ rfl (range0M HGB6.out) HFN.out.2.2.2.2.2 ?_
      intro v9 w9 hown hgrow hat
      obtain ⟨hd9, hst9⟩ := happ ⟨(q0g : Nat), (q0a : Nat), 0, 0, false, sz, level, S.txg, (x0 : Nat), (x1 : Nat), (x2 : Nat), (x3 : Nat)⟩ v9 w9 hown hgrow hat
      obtain ⟨ao9, cap9, rfl⟩ := own_form hown
      obtain ⟨T9, hat9, hfr9, _⟩ := HAT6.out.step hst9
      have HP9 := Lib.hid (HP6.out.mod (mod_grown hgrow hTb) HN6.out)
      have HAT9 := Lib.hid (by simpa only [List.length_append, List.length_singleton] using hat9)
      have HN9 : Hid (¬ T9 g8 ∧ ¬ T9 (w.heap.size + 2)) := Lib.hid ⟨hfr9 _ HP6.out.p.lt HN6.out.2.1, hfr9 _ HP6.out.r.lt HN6.out.2.2⟩
      have HNE9 : Hid (w.heap.size ≠ d ∧ g8 ≠ d ∧ w.heap.size + 2 ≠ d) := Lib.hid ⟨fun e => HN6.out.1 (by rw [e]; exact hTd), fun e => HN6.out.2.1 (by rw [e]; exact hTd), fun e => HN6.out.2.2 (by rw [e]; exact hTd)⟩
      have e9 : w9.cell? ⟨d, 1, none⟩ = some (.slice bo S.born.length bc) := hd9.cell 1
      have f9 := hd9.frozen 1
      clear hrow hTd hTb happ hown hgrow hat hd9 hst9 hat9 hfr9
      refine hK.out _ _ (HP9.out) (fun hSzq9 => ?_)
      try simp only [Act.put, z1, z2, z3]
      refine rtd 10 ?_; refine rtd 11 ?_
      refine rr1 (i := 12) (h := fun K hK => ?_)
      go_simp
      skip
      refine hK.out _ _ (⟨HP9.out.s.other HNE9.out.1 _, HP9.out.p.other HNE9.out.2.1 _, HP9.out.r.other HNE9.out.2.2 _⟩) (fun hSzq12 => ?_)
      try simp only [Act.put, z1, z2, z3]
      have HP12 : Hid (PuW w.heap.size g8 (w.heap.size + 2) sb ⟨(q0g : Nat), (q0a : Nat), 0, 0, false, sz, level, S.txg, (x0 : Nat), (x1 : Nat), (x2 : Nat), (x3 : Nat)⟩ (w9.setCell ⟨d, 1, none⟩ (.slice ao9 (S.born.length + 1) cap9))) := Lib.hid (PuW.mk (HP9.out.s.other HNE9.out.1 _) (HP9.out.p.other HNE9.out.2.1 _) (HP9.out.r.other HNE9.out.2.2 _))
      refine wpAnyH_done (by kernel_rfl) ?_ _
      go_wp2_with fail
      go_meet
      exact ⟨d, T9, rfl, HD6, HAT9, HP12, HN9⟩
    case rest =>
     obtain ⟨d, Tz, rfl, HD, HATZ, HPZ, HNZ⟩ := hcut
     have l8 : ∀ (op : Oper) (a : Act) (next : Act → World → Prop) (Q : Exit → Act → World → Prop), LoadW Tryz.prog op 49 (.pointer (some ⟨g8, 0, none⟩)) a wc next Q = next (a.put op.dst (.agg (encPtr ⟨(q0g : Nat), (q0a : Nat), 0, 0, false, sz, level, S.txg, (x0 : Nat), (x1 : Nat), (x2 : Nat), (x3 : Nat)⟩).toArray)) wc := fun op a next Q => loadW_blk HPZ.out.p Tryz.underlying49 rfl iszPt op a next Q
     have sR : ∀ (op : Oper) (a : Act) (next : Act → World → Prop) (Q : Exit → Act → World → Prop), StoreW Tryz.prog op 49 (.pointer (some ⟨w.heap.size + 2, 0, none⟩)) (.agg (encPtr ⟨(q0g : Nat), (q0a : Nat), 0, 0, false, sz, level, S.txg, (x0 : Nat), (x1 : Nat), (x2 : Nat), (x3 : Nat)⟩).toArray) a wc next Q = next (a.put op.dst undef) (wc.setCells (w.heap.size + 2) 0 (encPtr ⟨(q0g : Nat), (q0a : Nat), 0, 0, false, sz, level, S.txg, (x0 : Nat), (x1 : Nat), (x2 : Nat), (x3 : Nat)⟩)) := fun op a next Q => storeW_part (cs := encPtr ⟨(q0g : Nat), (q0a : Nat), 0, 0, false, sz, level, S.txg, (x0 : Nat), (x1 : Nat), (x2 : Nat), (x3 : Nat)⟩) HPZ.out.r (Nat.le_refl _) iszPt (encPtr_ones _) op a next Q
     have HBZ : Hid (Blk (wc.setCells (w.heap.size + 2) 0 (encPtr ⟨(q0g : Nat), (q0a : Nat), 0, 0, false, sz, level, S.txg, (x0 : Nat), (x1 : Nat), (x2 : Nat), (x3 : Nat)⟩)) (w.heap.size + 2) 49 (encPtr ⟨(q0g : Nat), (q0a : Nat), 0, 0, false, sz, level, S.txg, (x0 : Nat), (x1 : Nat), (x2 : Nat), (x3 : Nat)⟩)) := Lib.hid (HPZ.out.r.put rfl)
     have HFZ := Lib.hid ((HATZ.out.other HPZ.out.r (by unfold BookTy; decide) HNZ.out.2 (by omega) (setCells_grown (w.heap.size + 2) (encPtr ⟨(q0g : Nat), (q0a : Nat), 0, 0, false, sz, level, S.txg, (x0 : Nat), (x1 : Nat), (x2 : Nat), (x3 : Nat)⟩) wc 0)).fin)
     go_wp2_with fail
     refine bodyPost_ret (results_pt rfl _ _ (w.heap.size + 2) ⟨(q0g : Nat), (q0a : Nat), 0, 0, false, sz, level, S.txg, (x0 : Nat), (x1 : Nat), (x2 : Nat), (x3 : Nat)⟩ rfl HBZ.out) rfl ?_
     rw [HRR.out]
     exact ⟨rfl, some d, fun d0 e => by rw [HD.out d0 e], HFZ.out⟩
   ·have hgS : w.heap.size ≠ g8 := by have := HG8N.out.2; omega
    have hgR : w.heap.size + 2 ≠ g8 := by have := HG8N.out.2; omega
    have hg8 : w.heap.size + 3 ≤ g8 := HG8N.out.2
    obtain ⟨w5, hw5⟩ : ∃ w5, w5 = (((((w4.setCell ⟨g8, 0, none⟩ (.int .i64 (q0g : Nat))).setCell ⟨g8, 1, none⟩ (.int .i64 (q0a : Nat))).setCell ⟨g8, 4, none⟩ (.bool true)).setCell ⟨g8, 2, none⟩ (.int .i64 (q1g : Nat))).setCell ⟨g8, 3, none⟩ (.int .i64 (q1a : Nat))) := ⟨_, rfl⟩
    have HAT5 : Hid (StoAt { S with sn := sn1, es := es1, x := putsL t [(q0g, q0a), (q1g, q1a)] S.x } _ sb bb dn T w w5 T4) := Lib.hid (by rw [hw5]; exact (((((HAT4.out.other (wd := w4.setCell ⟨g8, 0, none⟩ (.int .i64 (q0g : Nat))) K48.out (by unfold BookTy; decide) HNT4.out.2.1 (by omega) blk_gr).other (wd := (w4.setCell ⟨g8, 0, none⟩ (.int .i64 (q0g : Nat))).setCell ⟨g8, 1, none⟩ (.int .i64 (q0a : Nat))) (K48.out.setCell 0 (.int .i64 (q0g : Nat))) (by unfold BookTy; decide) HNT4.out.2.1 (by omega) blk_gr).other (wd := ((w4.setCell ⟨g8, 0, none⟩ (.int .i64 (q0g : Nat))).setCell ⟨g8, 1, none⟩ (.int .i64 (q0a : Nat))).setCell ⟨g8, 4, none⟩ (.bool true)) ((K48.out.setCell 0 (.int .i64 (q0g : Nat))).setCell 1 (.int .i64 (q0a : Nat))) (by unfold BookTy; decide) HNT4.out.2.1 (by omega) blk_gr).other (wd := (((w4.setCell ⟨g8, 0, none⟩ (.int .i64 (q0g : Nat))).setCell ⟨g8, 1, none⟩ (.int .i64 (q0a : Nat))).setCell ⟨g8, 4, none⟩ (.bool true)).setCell ⟨g8, 2, none⟩ (.int .i64 (q1g : Nat))) (((K48.out.setCell 0 (.int .i64 (q0g : Nat))).setCell 1 (.int .i64 (q0a : Nat))).setCell 4 (.bool true)) (by unfold BookTy; decide) HNT4.out.2.1 (by omega) blk_gr).other (wd := ((((w4.setCell ⟨g8, 0, none⟩ (.int .i64 (q0g : Nat))).setCell ⟨g8, 1, none⟩ (.int .i64 (q0a : Nat))).setCell ⟨g8, 4, none⟩ (.bool true)).setCell ⟨g8, 2, none⟩ (.int .i64 (q1g : Nat))).setCell ⟨g8, 3, none⟩ (.int .i64 (q1a : Nat))) ((((K48.out.setCell 0 (.int .i64 (q0g : Nat))).setCell 1 (.int .i64 (q0a : Nat))).setCell 4 (.bool true)).setCell 2 (.int .i64 (q1g : Nat))) (by unfold BookTy; decide) HNT4.out.2.1 (by omega) blk_gr))
    have HPW : Hid (PuW w.heap.size g8 (w.heap.size + 2) sb ⟨(q0g : Nat), (q0a : Nat), (q1g : Nat), (q1a : Nat), true, sz, level, S.txg, (x0 : Nat), (x1 : Nat), (x2 : Nat), (x3 : Nat)⟩ w5) := Lib.hid (by rw [hw5, HSZ.out]; exact ⟨(((((K4S.out.other (a := ⟨g8, 0, none⟩) hgS _).other (a := ⟨g8, 1, none⟩) hgS _).other (a := ⟨g8, 4, none⟩) hgS _).other (a := ⟨g8, 2, none⟩) hgS _).other (a := ⟨g8, 3, none⟩) hgS _), (((((K48.out.setCell 0 (.int .i64 (q0g : Nat))).setCell 1 (.int .i64 (q0a : Nat))).setCell 4 (.bool true)).setCell 2 (.int .i64 (q1g : Nat))).setCell 3 (.int .i64 (q1a : Nat))), (((((K4R.out.other (a := ⟨g8, 0, none⟩) hgR _).other (a := ⟨g8, 1, none⟩) hgR _).other (a := ⟨g8, 4, none⟩) hgR _).other (a := ⟨g8, 2, none⟩) hgR _).other (a := ⟨g8, 3, none⟩) hgR _)⟩)
    have HRR : Hid (R = ⟨⟨(q0g : Nat), (q0a : Nat), (q1g : Nat), (q1a : Nat), true, sz, level, S.txg, (x0 : Nat), (x1 : Nat), (x2 : Nat), (x3 : Nat)⟩, 0, { S with sn := sn1, es := es1, x := putsL t [(q0g, q0a), (q1g, q1a)] S.x, born := S.born ++ [⟨(q0g : Nat), (q0a : Nat), (q1g : Nat), (q1a : Nat), true, sz, level, S.txg, (x0 : Nat), (x1 : Nat), (x2 : Nat), (x3 : Nat)⟩] }⟩) := Lib.hid (by
     have hp : mkPt t level S.txg [(q0g, q0a), (q1g, q1a)] = ⟨(q0g : Nat), (q0a : Nat), (q1g : Nat), (q1a : Nat), true, sz, level, S.txg, (x0 : Nat), (x1 : Nat), (x2 : Nat), (x3 : Nat)⟩ := by unfold mkPt; rw [← HX.out, ← HSZ.out]; rfl
     rw [HRE.out, if_neg (by simp), hp])
    have z0 : w4.cell? ⟨gl, 0, none⟩ = some (.int .i64 (q0g : Nat)) := K4L.out.cell 0
    have z1 : w4.cell? ⟨gl, 1, none⟩ = some (.int .i64 (q0a : Nat)) := K4L.out.cell 1
    have z2 : w4.cell? ⟨gl, 2, none⟩ = some (.int .i64 (q1g : Nat)) := K4L.out.cell 2
    have z3 : w4.cell? ⟨gl, 3, none⟩ = some (.int .i64 (q1a : Nat)) := K4L.out.cell 3
    have hgl : gl ≠ g8 := fun e => by
     have h1 := K4L.out
     have h2 := K48.out
     unfold Blk at h1 h2
     rw [e, h2] at h1
     simp only [Option.some.injEq, Obj.cells.injEq] at h1
     exact absurd h1.2.1 (by decide)
    have y0 : w4.cell? ⟨g8, 0, none⟩ = some (.int .i64 0) := K48.out.cell 0
    have y1 : w4.cell? ⟨g8, 1, none⟩ = some (.int .i64 0) := K48.out.cell 1
    have y2 : w4.cell? ⟨g8, 2, none⟩ = some (.int .i64 0) := K48.out.cell 2
    have y3 : w4.cell? ⟨g8, 3, none⟩ = some (.int .i64 0) := K48.out.cell 3
    have y4 : w4.cell? ⟨g8, 4, none⟩ = some (.bool false) := K48.out.cell 4
    have v0 := K48.out.frozen 0
    have v1 := K48.out.frozen 1
    have v2 := K48.out.frozen 2
    have v3 := K48.out.frozen 3
    have v4 := K48.out.frozen 4
    simp only [List.length_cons, List.length_nil, Nat.zero_add, Nat.reduceAdd]
    go_upto_region 13 with fail
    rw [← hw5]
    clear hw5 y0 y1 y2 y3 y4 v0 v1 v2 v3 v4 z0 z1 z2 z3 hgl
    have HA5 := Lib.hid (HAT5.out.below (Below.refl _ _).drew)
    have HA5b := Lib.hid (HA5.out.alloc (.cells (encPtr ⟨(q0g : Nat), (q0a : Nat), (q1g : Nat), (q1a : Nat), true, sz, level, S.txg, (x0 : Nat), (x1 : Nat), (x2 : Nat), (x3 : Nat)⟩).toArray 49))
    have hS5 : PuW w.heap.size g8 (w.heap.size + 2) sb ⟨(q0g : Nat), (q0a : Nat), (q1g : Nat), (q1a : Nat), true, sz, level, S.txg, (x0 : Nat), (x1 : Nat), (x2 : Nat), (x3 : Nat)⟩ w5.drew := HPW.out.below (Below.refl _ _).drew
    go_cut [100] (fun v wx => ∃ d Tz, v = .pointer (some ⟨sb, 0, none⟩) ∧ Hid (∀ d0, dn = some d0 → d = d0) ∧ Hid (StoAt { S with sn := sn1, es := es1, x := putsL t [(q0g, q0a), (q1g, q1a)] S.x, born := S.born ++ [⟨(q0g : Nat), (q0a : Nat), (q1g : Nat), (q1a : Nat), true, sz, level, S.txg, (x0 : Nat), (x1 : Nat), (x2 : Nat), (x3 : Nat)⟩] } ⟨.slice ga S.x.gs.length gc, .slice la S.x.ds.length lc, .slice wa S.x.ds.length acp⟩ sb bb (some d) T w wx Tz) ∧ Hid (PuW w.heap.size g8 (w.heap.size + 2) sb ⟨(q0g : Nat), (q0a : Nat), (q1g : Nat), (q1a : Nat), true, sz, level, S.txg, (x0 : Nat), (x1 : Nat), (x2 : Nat), (x3 : Nat)⟩ wx) ∧ Hid (¬ Tz g8 ∧ ¬ Tz (w.heap.size + 2)))
    case first =>
     refine wp_region_held_drew (S := PuW w.heap.size g8 (w.heap.size + 2) sb ⟨(q0g : Nat), (q0a : Nat), (q1g : Nat), (q1a : Nat), true, sz, level, S.txg, (x0 : Nat), (x1 : Nat), (x2 : Nat), (x3 : Nat)⟩) (by kernel_rfl) hS5 (fun hS5 => ?_)
     refine rtv (i := 0) (v := ?vx0) (hy := ?yx0) (h := ?_)
     case yx0 => intro w hSw; (try dsimp only at hSw); go_simp; rw [(PuW.s hSw).cell 0]; rfl
     try simp only [Act.put, z1, z2, z3]
     refine rtv (i := 2) (v := ?vx2) (hy := ?yx2) (h := ?_)
     case yx2 => intro w hSw; (try dsimp only at hSw); go_simp; rw [(PuW.s hSw).cell 0]; rfl
     try simp only [Act.put, z1, z2, z3]
     refine rtg 7 ?vx7 ?yx7 ?_
     case yx7 => refine yieldsIf_load_mid (by kernel_rfl) 49 (.tmp 8) ?_ g8 (0) ?_ (encPtr ⟨(q0g : Nat), (q0a : Nat), (q1g : Nat), (q1a : Nat), true, sz, level, S.txg, (x0 : Nat), (x1 : Nat), (x2 : Nat), (x3 : Nat)⟩) _ (fun w' (hw : PuW _ _ _ _ _ w') => range0M hw.p) Tryz.underlying49 rfl iszPt <;> rfl
     refine wpAnyH_ready (rs := [1, 8]) (by kernel_rfl) (by simp) ?_
     refine AllReadyH.cons (by simp only [List.getElem?_toArray, List.getElem?_cons_succ, List.getElem?_cons_zero]; rfl) (fun K hK => ?_) (AllReadyH.cons (by simp only [List.getElem?_toArray, List.getElem?_cons_succ, List.getElem?_cons_zero]; rfl) (fun K hK => ?_) AllReadyH.nil)
     ·go_simp
      refine (work_any2 HA5.out.is).mono ?_
      rintro e w6 ⟨d, rfl, hst, hdd⟩
      obtain ⟨T6, hat6, hfr6, hm6⟩ := HA5.out.step hst
      have HAT6 := Lib.hid hat6
      have HD6 := Lib.hid hdd
      have HN6 : Hid (¬ T6 w.heap.size ∧ ¬ T6 g8 ∧ ¬ T6 (w.heap.size + 2)) := Lib.hid ⟨hfr6 _ (hS5).s.lt HNT4.out.1, hfr6 _ (hS5).p.lt HNT4.out.2.1, hfr6 _ (hS5).r.lt HNT4.out.2.2⟩
      have HP6 := Lib.hid ((hS5).mod hm6 HNT4.out)
      clear hst hdd hat6 hfr6 hm6
      try dsimp only
      refine hK.out _ _ (HP6.out) (fun hSxp1 => ?_)
      try simp only [Act.put, z1, z2, z3]
      refine wpAnyH_ready (rs := [3, 8]) (by kernel_rfl) (by simp) ?_
      refine AllReadyH.cons (by simp only [List.getElem?_toArray, List.getElem?_cons_succ, List.getElem?_cons_zero]; rfl) (fun K hK => ?_) (AllReadyH.cons (by simp only [List.getElem?_toArray, List.getElem?_cons_succ, List.getElem?_cons_zero]; rfl) (fun K hK => ?_) AllReadyH.nil)
      ·go_simp
       refine (work_some HAT6.out.is).mono ?_
       rintro e w7 ⟨rfl, hw7⟩
       rw [hw7]
       clear hw7
       try dsimp only
       refine hK.out _ _ (HP6.out) (fun hSxpp3 => ?_)
       try simp only [Act.put, z1, z2, z3]
       refine rtd 4 ?_; refine rtd 5 ?_
       obtain ⟨bv, hbv⟩ := HAT6.out.is.done
       obtain ⟨bo, bc, rfl⟩ := own_form (HAT6.out.is.app2 hbv).1
       have HBV := Lib.hid hbv
       have e6 : w6.cell? ⟨d, 1, none⟩ = some (.slice bo S.born.length bc) := hbv.cell 1
       clear hbv
       refine wpAnyH_ready (rs := [6, 8]) (by kernel_rfl) (by simp) ?_
       refine AllReadyH.cons (by simp only [List.getElem?_toArray, List.getElem?_cons_succ, List.getElem?_cons_zero]; rfl) (fun K hK => ?_) (AllReadyH.cons (by simp only [List.getElem?_toArray, List.getElem?_cons_succ, List.getElem?_cons_zero]; rfl) (fun K hK => ?_) AllReadyH.nil)
       ·go_simp
        clear e6
        refine hK.out _ _ (HP6.out) (fun hSxppp6 => ?_)
        try simp only [Act.put, z1, z2, z3]
        refine rr1 (i := 8) (h := fun K hK => ?_)
        rw [if_pos (by kernel_rfl)]
        refine wp_build_at (.tmp 107) rfl ⟨(q0g : Nat), (q0a : Nat), (q1g : Nat), (q1a : Nat), true, sz, level, S.txg, (x0 : Nat), (x1 : Nat), (x2 : Nat), (x3 : Nat)⟩ rfl ?_
        refine hK.out _ _ ((HP6.out.below ((Below.refl _ _).alloc (Nat.le_refl _) (.cells (encPtr ⟨(q0g : Nat), (q0a : Nat), (q1g : Nat), (q1a : Nat), true, sz, level, S.txg, (x0 : Nat), (x1 : Nat), (x2 : Nat), (x3 : Nat)⟩).toArray 49)))) (fun hSxppp8 => ?_)
        try simp only [Act.put, z1, z2, z3]
        have HAT6b := Lib.hid (HAT6.out.alloc (.cells (encPtr ⟨(q0g : Nat), (q0a : Nat), (q1g : Nat), (q1a : Nat), true, sz, level, S.txg, (x0 : Nat), (x1 : Nat), (x2 : Nat), (x3 : Nat)⟩).toArray 49))
        have HP6b := Lib.hid (HP6.out.below ((Below.refl _ _).alloc (Nat.le_refl _) (.cells (encPtr ⟨(q0g : Nat), (q0a : Nat), (q1g : Nat), (q1a : Nat), true, sz, level, S.txg, (x0 : Nat), (x1 : Nat), (x2 : Nat), (x3 : Nat)⟩).toArray 49)))
        have HGBb : Hid (Blk (w6.alloc (.cells (encPtr ⟨(q0g : Nat), (q0a : Nat), (q1g : Nat), (q1a : Nat), true, sz, level, S.txg, (x0 : Nat), (x1 : Nat), (x2 : Nat), (x3 : Nat)⟩).toArray 49)) w6.heap.size 49 (encPtr ⟨(q0g : Nat), (q0a : Nat), (q1g : Nat), (q1a : Nat), true, sz, level, S.txg, (x0 : Nat), (x1 : Nat), (x2 : Nat), (x3 : Nat)⟩)) := Lib.hid (Blk.new w6 _ (encPtr ⟨(q0g : Nat), (q0a : Nat), (q1g : Nat), (q1a : Nat), true, sz, level, S.txg, (x0 : Nat), (x1 : Nat), (x2 : Nat), (x3 : Nat)⟩))
        refine rr1 (i := 9) (h := fun K hK => ?_)
        rw [if_pos (by kernel_rfl)]
        obtain ⟨hrow, hTd, hTb, happ⟩ := HAT6b.out.is.app2 (HBV.out.alloc _)
        refine wp_app_ptrS (.tmp 106) (.tmp 108) rfl (.slice bo S.born.length bc) S.born rfl hrow w6.heap.size 1 ⟨(q0g : Nat), (q0a : Nat), (q1g : Nat), (q1a : Nat), true, sz, level, S.txg, (x0 : Nat), (x1 : Nat), (x2 : Nat), (x3 : Nat)⟩ rfl (range0M HGBb.out) HFN.out.2.2.2.2.2 ?_
        intro v9 w9 hown hgrow hat
        obtain ⟨hd9, hst9⟩ := happ ⟨(q0g : Nat), (q0a : Nat), (q1g : Nat), (q1a : Nat), true, sz, level, S.txg, (x0 : Nat), (x1 : Nat), (x2 : Nat), (x3 : Nat)⟩ v9 w9 hown hgrow hat
        obtain ⟨ao9, cap9, rfl⟩ := own_form hown
        obtain ⟨T9, hat9, hfr9, _⟩ := HAT6b.out.step hst9
        have HP9 := Lib.hid (HP6b.out.mod (mod_grown hgrow hTb) HN6.out)
        have HAT9 := Lib.hid (by simpa only [List.length_append, List.length_singleton] using hat9)
        have HN9 : Hid (¬ T9 g8 ∧ ¬ T9 (w.heap.size + 2)) := Lib.hid ⟨hfr9 _ HP6b.out.p.lt HN6.out.2.1, hfr9 _ HP6b.out.r.lt HN6.out.2.2⟩
        have HNE9 : Hid (w.heap.size ≠ d ∧ g8 ≠ d ∧ w.heap.size + 2 ≠ d) := Lib.hid ⟨fun e => HN6.out.1 (by rw [e]; exact hTd), fun e => HN6.out.2.1 (by rw [e]; exact hTd), fun e => HN6.out.2.2 (by rw [e]; exact hTd)⟩
        have e9 : w9.cell? ⟨d, 1, none⟩ = some (.slice bo S.born.length bc) := hd9.cell 1
        have f9 := hd9.frozen 1
        clear hrow hTd hTb happ hown hgrow hat hd9 hst9 hat9 hfr9
        refine hK.out _ _ (HP9.out) (fun hSxppp9 => ?_)
        try simp only [Act.put, z1, z2, z3]
        refine rtd 10 ?_; refine rtd 11 ?_
        refine rr1 (i := 12) (h := fun K hK => ?_)
        go_simp
        skip
        refine hK.out _ _ (⟨HP9.out.s.other HNE9.out.1 _, HP9.out.p.other HNE9.out.2.1 _, HP9.out.r.other HNE9.out.2.2 _⟩) (fun hSxppp12 => ?_)
        try simp only [Act.put, z1, z2, z3]
        have HP12 : Hid (PuW w.heap.size g8 (w.heap.size + 2) sb ⟨(q0g : Nat), (q0a : Nat), (q1g : Nat), (q1a : Nat), true, sz, level, S.txg, (x0 : Nat), (x1 : Nat), (x2 : Nat), (x3 : Nat)⟩ (w9.setCell ⟨d, 1, none⟩ (.slice ao9 (S.born.length + 1) cap9))) := Lib.hid (PuW.mk (HP9.out.s.other HNE9.out.1 _) (HP9.out.p.other HNE9.out.2.1 _) (HP9.out.r.other HNE9.out.2.2 _))
        refine wpAnyH_done (by kernel_rfl) ?_ _
        go_wp2_with fail
        go_meet
        exact ⟨d, T9, rfl, HD6, HAT9, HP12, HN9⟩
       ·rw [if_pos (by kernel_rfl)]
        refine wp_build_at (.tmp 107) rfl ⟨(q0g : Nat), (q0a : Nat), (q1g : Nat), (q1a : Nat), true, sz, level, S.txg, (x0 : Nat), (x1 : Nat), (x2 : Nat), (x3 : Nat)⟩ rfl ?_
        refine hK.out _ _ ((HP6.out.below ((Below.refl _ _).alloc (Nat.le_refl _) (.cells (encPtr ⟨(q0g : Nat), (q0a : Nat), (q1g : Nat), (q1a : Nat), true, sz, level, S.txg, (x0 : Nat), (x1 : Nat), (x2 : Nat), (x3 : Nat)⟩).toArray 49)))) (fun hSxppq8 => ?_)
        try simp only [Act.put, z1, z2, z3]
        have HAT6b := Lib.hid (HAT6.out.alloc (.cells (encPtr ⟨(q0g : Nat), (q0a : Nat), (q1g : Nat), (q1a : Nat), true, sz, level, S.txg, (x0 : Nat), (x1 : Nat), (x2 : Nat), (x3 : Nat)⟩).toArray 49))
        have HP6b := Lib.hid (HP6.out.below ((Below.refl _ _).alloc (Nat.le_refl _) (.cells (encPtr ⟨(q0g : Nat), (q0a : Nat), (q1g : Nat), (q1a : Nat), true, sz, level, S.txg, (x0 : Nat), (x1 : Nat), (x2 : Nat), (x3 : Nat)⟩).toArray 49)))
        have HGBb : Hid (Blk (w6.alloc (.cells (encPtr ⟨(q0g : Nat), (q0a : Nat), (q1g : Nat), (q1a : Nat), true, sz, level, S.txg, (x0 : Nat), (x1 : Nat), (x2 : Nat), (x3 : Nat)⟩).toArray 49)) w6.heap.size 49 (encPtr ⟨(q0g : Nat), (q0a : Nat), (q1g : Nat), (q1a : Nat), true, sz, level, S.txg, (x0 : Nat), (x1 : Nat), (x2 : Nat), (x3 : Nat)⟩)) := Lib.hid (Blk.new w6 _ (encPtr ⟨(q0g : Nat), (q0a : Nat), (q1g : Nat), (q1a : Nat), true, sz, level, S.txg, (x0 : Nat), (x1 : Nat), (x2 : Nat), (x3 : Nat)⟩))
        have e6b : (w6.alloc (.cells (encPtr ⟨(q0g : Nat), (q0a : Nat), (q1g : Nat), (q1a : Nat), true, sz, level, S.txg, (x0 : Nat), (x1 : Nat), (x2 : Nat), (x3 : Nat)⟩).toArray 49)).cell? ⟨d, 1, none⟩ = some (.slice bo S.born.length bc) := (HBV.out.alloc _).cell 1
        refine rr1 (i := 6) (h := fun K hK => ?_)
        go_simp
        clear e6b
        refine hK.out _ _ (HP6b.out) (fun hSxppq6 => ?_)
        try simp only [Act.put, z1, z2, z3]
        refine rr1 (i := 9) (h := fun K hK => ?_)
        rw [if_pos (by kernel_rfl)]
        obtain ⟨hrow, hTd, hTb, happ⟩ := HAT6b.out.is.app2 (HBV.out.alloc _)
        refine wp_app_ptrS (.tmp 106) (.tmp 108) rfl (.slice bo S.born.length bc) S.born rfl hrow w6.heap.size 1 ⟨(q0g : Nat), (q0a : Nat), (q1g : Nat), (q1a : Nat), true, sz, level, S.txg, (x0 : Nat), (x1 : Nat), (x2 : Nat), (x3 : Nat)⟩ rfl (range0M HGBb.out) HFN.out.2.2.2.2.2 ?_
        intro v9 w9 hown hgrow hat
        obtain ⟨hd9, hst9⟩ := happ ⟨(q0g : Nat), (q0a : Nat), (q1g : Nat), (q1a : Nat), true, sz, level, S.txg, (x0 : Nat), (x1 : Nat), (x2 : Nat), (x3 : Nat)⟩ v9 w9 hown hgrow hat
        obtain ⟨ao9, cap9, rfl⟩ := own_form hown
        obtain ⟨T9, hat9, hfr9, _⟩ := HAT6b.out.step hst9
        have HP9 := Lib.hid (HP6b.out.mod (mod_grown hgrow hTb) HN6.out)
        have HAT9 := Lib.hid (by simpa only [List.length_append, List.length_singleton] using hat9)
        have HN9 : Hid (¬ T9 g8 ∧ ¬ T9 (w.heap.size + 2)) := Lib.hid ⟨hfr9 _ HP6b.out.p.lt HN6.out.2.1, hfr9 _ HP6b.out.r.lt HN6.out.2.2⟩
        have HNE9 : Hid (w.heap.size ≠ d ∧ g8 ≠ d ∧ w.heap.size + 2 ≠ d) := Lib.hid ⟨fun e => HN6.out.1 (by rw [e]; exact hTd), fun e => HN6.out.2.1 (by rw [e]; exact hTd), fun e => HN6.out.2.2 (by rw [e]; exact hTd)⟩
        have e9 : w9.cell? ⟨d, 1, none⟩ = some (.slice bo S.born.length bc) := hd9.cell 1
        have f9 := hd9.frozen 1
        clear hrow hTd hTb happ hown hgrow hat hd9 hst9 hat9 hfr9
        refine hK.out _ _ (HP9.out) (fun hSxppq9 => ?_)
        try simp only [Act.put, z1, z2, z3]
        refine rtd 10 ?_; refine rtd 11 ?_
        refine rr1 (i := 12) (h := fun K hK => ?_)
        go_simp
        skip
        refine hK.out _ _ (⟨HP9.out.s.other HNE9.out.1 _, HP9.out.p.other HNE9.out.2.1 _, HP9.out.r.other HNE9.out.2.2 _⟩) (fun hSxppq12 => ?_)
        try simp only [Act.put, z1, z2, z3]
        have HP12 : Hid (PuW w.heap.size g8 (w.heap.size + 2) sb ⟨(q0g : Nat), (q0a : Nat), (q1g : Nat), (q1a : Nat), true, sz, level, S.txg, (x0 : Nat), (x1 : Nat), (x2 : Nat), (x3 : Nat)⟩ (w9.setCell ⟨d, 1, none⟩ (.slice ao9 (S.born.length + 1) cap9))) := Lib.hid (PuW.mk (HP9.out.s.other HNE9.out.1 _) (HP9.out.p.other HNE9.out.2.1 _) (HP9.out.r.other HNE9.out.2.2 _))
        refine wpAnyH_done (by kernel_rfl) ?_ _
        go_wp2_with fail
        go_meet
        exact ⟨d, T9, rfl, HD6, HAT9, HP12, HN9⟩
      ·rw [if_pos (by kernel_rfl)]
       refine wp_build_at (.tmp 107) rfl ⟨(q0g : Nat), (q0a : Nat), (q1g : Nat), (q1a : Nat), true, sz, level, S.txg, (x0 : Nat), (x1 : Nat), (x2 : Nat), (x3 : Nat)⟩ rfl ?_
       refine hK.out _ _ ((HP6.out.below ((Below.refl _ _).alloc (Nat.le_refl _) (.cells (encPtr ⟨(q0g : Nat), (q0a : Nat), (q1g : Nat), (q1a : Nat), true, sz, level, S.txg, (x0 : Nat), (x1 : Nat), (x2 : Nat), (x3 : Nat)⟩).toArray 49)))) (fun hSxpq8 => ?_)
       try simp only [Act.put, z1, z2, z3]
       have HAT6b := Lib.hid (HAT6.out.alloc (.cells (encPtr ⟨(q0g : Nat), (q0a : Nat), (q1g : Nat), (q1a : Nat), true, sz, level, S.txg, (x0 : Nat), (x1 : Nat), (x2 : Nat), (x3 : Nat)⟩).toArray 49))
       have HP6b := Lib.hid (HP6.out.below ((Below.refl _ _).alloc (Nat.le_refl _) (.cells (encPtr ⟨(q0g : Nat), (q0a : Nat), (q1g : Nat), (q1a : Nat), true, sz, level, S.txg, (x0 : Nat), (x1 : Nat), (x2 : Nat), (x3 : Nat)⟩).toArray 49)))
       have HGBb : Hid (Blk (w6.alloc (.cells (encPtr ⟨(q0g : Nat), (q0a : Nat), (q1g : Nat), (q1a : Nat), true, sz, level, S.txg, (x0 : Nat), (x1 : Nat), (x2 : Nat), (x3 : Nat)⟩).toArray 49)) w6.heap.size 49 (encPtr ⟨(q0g : Nat), (q0a : Nat), (q1g : Nat), (q1a : Nat), true, sz, level, S.txg, (x0 : Nat), (x1 : Nat), (x2 : Nat), (x3 : Nat)⟩)) := Lib.hid (Blk.new w6 _ (encPtr ⟨(q0g : Nat), (q0a : Nat), (q1g : Nat), (q1a : Nat), true, sz, level, S.txg, (x0 : Nat), (x1 : Nat), (x2 : Nat), (x3 : Nat)⟩))
       refine rr1 (i := 3) (h := fun K hK => ?_)
       go_simp
       refine (work_some HAT6b.out.is).mono ?_
       rintro e w7 ⟨rfl, hw7⟩
       rw [hw7]
       clear hw7
       try dsimp only
       refine hK.out _ _ (HP6b.out) (fun hSxpq3 => ?_)
       try simp only [Act.put, z1, z2, z3]
       refine rtd 4 ?_; refine rtd 5 ?_
       obtain ⟨bv, hbv⟩ := HAT6b.out.is.done
       obtain ⟨bo, bc, rfl⟩ := own_form (HAT6b.out.is.app2 hbv).1
       have HBV := Lib.hid hbv
       have e6 : (w6.alloc (.cells (encPtr ⟨(q0g : Nat), (q0a : Nat), (q1g : Nat), (q1a : Nat), true, sz, level, S.txg, (x0 : Nat), (x1 : Nat), (x2 : Nat), (x3 : Nat)⟩).toArray 49)).cell? ⟨d, 1, none⟩ = some (.slice bo S.born.length bc) := hbv.cell 1
       clear hbv
       refine rr1 (i := 6) (h := fun K hK => ?_)
       go_simp
       clear e6
       refine hK.out _ _ (HP6b.out) (fun hSxpq6 => ?_)
       try simp only [Act.put, z1, z2, z3]
       refine rr1 (i := 9) (h := fun K hK => ?_)
       rw [if_pos (by kernel_rfl)]
       obtain ⟨hrow, hTd, hTb, happ⟩ := HAT6b.out.is.app2 HBV.out
       refine wp_app_ptrS (.tmp 106) (.tmp 108) rfl (.slice bo S.born.length bc) S.born rfl hrow w6.heap.size 1 ⟨(q0g : Nat), (q0a : Nat), (q1g : Nat), (q1a : Nat), true, sz, level, S.txg, (x0 : Nat), (x1 : Nat), (x2 : Nat), (x3 : Nat)⟩ rfl (range0M HGBb.out) HFN.out.2.2.2.2.2 ?_
       intro v9 w9 hown hgrow hat
       obtain ⟨hd9, hst9⟩ := happ ⟨(q0g : Nat), (q0a : Nat), (q1g : Nat), (q1a : Nat), true, sz, level, S.txg, (x0 : Nat), (x1 : Nat), (x2 : Nat), (x3 : Nat)⟩ v9 w9 hown hgrow hat
       obtain ⟨ao9, cap9, rfl⟩ := own_form hown
       obtain ⟨T9, hat9, hfr9, _⟩ := HAT6b.out.step hst9
       have HP9 := Lib.hid (HP6b.out.mod (mod_grown hgrow hTb) HN6.out)
       have HAT9 := Lib.hid (by simpa only [List.length_append, List.length_singleton] using hat9)
       have HN9 : Hid (¬ T9 g8 ∧ ¬ T9 (w.heap.size + 2)) := Lib.hid ⟨hfr9 _ HP6b.out.p.lt HN6.out.2.1, hfr9 _ HP6b.out.r.lt HN6.out.2.2⟩
       have HNE9 : Hid (w.heap.size ≠ d ∧ g8 ≠ d ∧ w.heap.size + 2 ≠ d) := Lib.hid ⟨fun e => HN6.out.1 (by rw [e]; exact hTd), fun e => HN6.out.2.1 (by rw [e]; exact hTd), fun e => HN6.out.2.2 (by rw [e]; exact hTd)⟩
       have e9 : w9.cell? ⟨d, 1, none⟩ = some (.slice bo S.born.length bc) := hd9.cell 1
       have f9 := hd9.frozen 1
       clear hrow hTd hTb happ hown hgrow hat hd9 hst9 hat9 hfr9
       refine hK.out _ _ (HP9.out) (fun hSxpq9 => ?_)
       try simp only [Act.put, z1, z2, z3]
       refine rtd 10 ?_; refine rtd 11 ?_
       refine rr1 (i := 12) (h := fun K hK => ?_)
       go_simp
       skip
       refine hK.out _ _ (⟨HP9.out.s.other HNE9.out.1 _, HP9.out.p.other HNE9.out.2.1 _, HP9.out.r.other HNE9.out.2.2 _⟩) (fun hSxpq12 => ?_)
       try simp only [Act.put, z1, z2, z3]
       have HP12 : Hid (PuW w.heap.size g8 (w.heap.size + 2) sb ⟨(q0g : Nat), (q0a : Nat), (q1g : Nat), (q1a : Nat), true, sz, level, S.txg, (x0 : Nat), (x1 : Nat), (x2 : Nat), (x3 : Nat)⟩ (w9.setCell ⟨d, 1, none⟩ (.slice ao9 (S.born.length + 1) cap9))) := Lib.hid (PuW.mk (HP9.out.s.other HNE9.out.1 _) (HP9.out.p.other HNE9.out.2.1 _) (HP9.out.r.other HNE9.out.2.2 _))
       refine wpAnyH_done (by kernel_rfl) ?_ _
       go_wp2_with fail
       go_meet
       exact ⟨d, T9, rfl, HD6, HAT9, HP12, HN9⟩
     ·rw [if_pos (by kernel_rfl)]
      refine wp_build_at (.tmp 107) rfl ⟨(q0g : Nat), (q0a : Nat), (q1g : Nat), (q1a : Nat), true, sz, level, S.txg, (x0 : Nat), (x1 : Nat), (x2 : Nat), (x3 : Nat)⟩ rfl ?_
      refine hK.out _ _ ((hS5.below ((Below.refl _ _).alloc (Nat.le_refl _) (.cells (encPtr ⟨(q0g : Nat), (q0a : Nat), (q1g : Nat), (q1a : Nat), true, sz, level, S.txg, (x0 : Nat), (x1 : Nat), (x2 : Nat), (x3 : Nat)⟩).toArray 49)))) (fun hSxq8 => ?_)
      try simp only [Act.put, z1, z2, z3]
      refine rr1 (i := 1) (h := fun K hK => ?_)
      go_simp
      refine (work_any2 HA5b.out.is).mono ?_
      rintro e w6 ⟨d, rfl, hst, hdd⟩
      obtain ⟨T6, hat6, hfr6, hm6⟩ := HA5b.out.step hst
      have HAT6 := Lib.hid hat6
      have HD6 := Lib.hid hdd
      have HN6 : Hid (¬ T6 w.heap.size ∧ ¬ T6 g8 ∧ ¬ T6 (w.heap.size + 2)) := Lib.hid ⟨hfr6 _ (hS5.below ((Below.refl _ _).alloc (Nat.le_refl _) (.cells (encPtr ⟨(q0g : Nat), (q0a : Nat), (q1g : Nat), (q1a : Nat), true, sz, level, S.txg, (x0 : Nat), (x1 : Nat), (x2 : Nat), (x3 : Nat)⟩).toArray 49))).s.lt HNT4.out.1, hfr6 _ (hS5.below ((Below.refl _ _).alloc (Nat.le_refl _) (.cells (encPtr ⟨(q0g : Nat), (q0a : Nat), (q1g : Nat), (q1a : Nat), true, sz, level, S.txg, (x0 : Nat), (x1 : Nat), (x2 : Nat), (x3 : Nat)⟩).toArray 49))).p.lt HNT4.out.2.1, hfr6 _ (hS5.below ((Below.refl _ _).alloc (Nat.le_refl _) (.cells (encPtr ⟨(q0g : Nat), (q0a : Nat), (q1g : Nat), (q1a : Nat), true, sz, level, S.txg, (x0 : Nat), (x1 : Nat), (x2 : Nat), (x3 : Nat)⟩).toArray 49))).r.lt HNT4.out.2.2⟩
      have HP6 := Lib.hid ((hS5.below ((Below.refl _ _).alloc (Nat.le_refl _) (.cells (encPtr ⟨(q0g : Nat), (q0a : Nat), (q1g : Nat), (q1a : Nat), true, sz, level, S.txg, (x0 : Nat), (x1 : Nat), (x2 : Nat), (x3 : Nat)⟩).toArray 49))).mod hm6 HNT4.out)
      have HGB6 : Hid (Blk w6 w5.heap.size 49 (encPtr ⟨(q0g : Nat), (q0a : Nat), (q1g : Nat), (q1a : Nat), true, sz, level, S.txg, (x0 : Nat), (x1 : Nat), (x2 : Nat), (x3 : Nat)⟩)) := Lib.hid (hm6.blk (Blk.new w5.drew _ (encPtr ⟨(q0g : Nat), (q0a : Nat), (q1g : Nat), (q1a : Nat), true, sz, level, S.txg, (x0 : Nat), (x1 : Nat), (x2 : Nat), (x3 : Nat)⟩)) (fun hf => by have := HA5.out.is.lt _ hf; have e : w5.drew.heap.size = w5.heap.size := rfl; omega))
      clear hst hdd hat6 hfr6 hm6
      try dsimp only
      refine hK.out _ _ (HP6.out) (fun hSxq1 => ?_)
      try simp only [Act.put, z1, z2, z3]
      refine rr1 (i := 3) (h := fun K hK => ?_)
      go_simp
      refine (work_some HAT6.out.is).mono ?_
      rintro e w7 ⟨rfl, hw7⟩
      rw [hw7]
      clear hw7
      try dsimp only
      refine hK.out _ _ (HP6.out) (fun hSxq3 => ?_)
      try simp only [Act.put, z1, z2, z3]
      refine rtd 4 ?_; refine rtd 5 ?_
      obtain ⟨bv, hbv⟩ := HAT6.out.is.done
      obtain ⟨bo, bc, rfl⟩ := own_form (HAT6.out.is.app2 hbv).1
      have HBV := Lib.hid hbv
      have e6 : w6.cell? ⟨d, 1, none⟩ = some (.slice bo S.born.length bc) := hbv.cell 1
      clear hbv
      refine rr1 (i := 6) (h := fun K hK => ?_)
      go_simp
      clear e6
      refine hK.out _ _ (HP6.out) (fun hSxq6 => ?_)
      try simp only [Act.put, z1, z2, z3]
      refine rr1 (i := 9) (h := fun K hK => ?_)
      rw [if_pos (by kernel_rfl)]
      obtain ⟨hrow, hTd, hTb, happ⟩ := HAT6.out.is.app2 HBV.out
      refine wp_app_ptrS (.tmp 106) (.tmp 108) rfl (.slice bo S.born.length bc) S.born rfl hrow w5.heap.size 1 ⟨(q0g : Nat), (q0a : Nat), (q1g : Nat), (q1a : Nat), true, sz, level, S.txg, (x0 : Nat), (x1 : Nat), (x2 : Nat), (x3 : Nat)⟩ rfl (range0M HGB6.out) HFN.out.2.2.2.2.2 ?_
      intro v9 w9 hown hgrow hat
      obtain ⟨hd9, hst9⟩ := happ ⟨(q0g : Nat), (q0a : Nat), (q1g : Nat), (q1a : Nat), true, sz, level, S.txg, (x0 : Nat), (x1 : Nat), (x2 : Nat), (x3 : Nat)⟩ v9 w9 hown hgrow hat
      obtain ⟨ao9, cap9, rfl⟩ := own_form hown
      obtain ⟨T9, hat9, hfr9, _⟩ := HAT6.out.step hst9
      have HP9 := Lib.hid (HP6.out.mod (mod_grown hgrow hTb) HN6.out)
      have HAT9 := Lib.hid (by simpa only [List.length_append, List.length_singleton] using hat9)
      have HN9 : Hid (¬ T9 g8 ∧ ¬ T9 (w.heap.size + 2)) := Lib.hid ⟨hfr9 _ HP6.out.p.lt HN6.out.2.1, hfr9 _ HP6.out.r.lt HN6.out.2.2⟩
      have HNE9 : Hid (w.heap.size ≠ d ∧ g8 ≠ d ∧ w.heap.size + 2 ≠ d) := Lib.hid ⟨fun e => HN6.out.1 (by rw [e]; exact hTd), fun e => HN6.out.2.1 (by rw [e]; exact hTd), fun e => HN6.out.2.2 (by rw [e]; exact hTd)⟩
      have e9 : w9.cell? ⟨d, 1, none⟩ = some (.slice bo S.born.length bc) := hd9.cell 1
      have f9 := hd9.frozen 1
      clear hrow hTd hTb happ hown hgrow hat hd9 hst9 hat9 hfr9
      refine hK.out _ _ (HP9.out) (fun hSxq9 => ?_)
      try simp only [Act.put, z1, z2, z3]
      refine rtd 10 ?_; refine rtd 11 ?_
      refine rr1 (i := 12) (h := fun K hK => ?_)
      go_simp
      skip
      refine hK.out _ _ (⟨HP9.out.s.other HNE9.out.1 _, HP9.out.p.other HNE9.out.2.1 _, HP9.out.r.other HNE9.out.2.2 _⟩) (fun hSxq12 => ?_)
      try simp only [Act.put, z1, z2, z3]
      have HP12 : Hid (PuW w.heap.size g8 (w.heap.size + 2) sb ⟨(q0g : Nat), (q0a : Nat), (q1g : Nat), (q1a : Nat), true, sz, level, S.txg, (x0 : Nat), (x1 : Nat), (x2 : Nat), (x3 : Nat)⟩ (w9.setCell ⟨d, 1, none⟩ (.slice ao9 (S.born.length + 1) cap9))) := Lib.hid (PuW.mk (HP9.out.s.other HNE9.out.1 _) (HP9.out.p.other HNE9.out.2.1 _) (HP9.out.r.other HNE9.out.2.2 _))
      refine wpAnyH_done (by kernel_rfl) ?_ _
      go_wp2_with fail
      go_meet
      exact ⟨d, T9, rfl, HD6, HAT9, HP12, HN9⟩
    case rest =>
     obtain ⟨d, Tz, rfl, HD, HATZ, HPZ, HNZ⟩ := hcut
     have l8 : ∀ (op : Oper) (a : Act) (next : Act → World → Prop) (Q : Exit → Act → World → Prop), LoadW Tryz.prog op 49 (.pointer (some ⟨g8, 0, none⟩)) a wc next Q = next (a.put op.dst (.agg (encPtr ⟨(q0g : Nat), (q0a : Nat), (q1g : Nat), (q1a : Nat), true, sz, level, S.txg, (x0 : Nat), (x1 : Nat), (x2 : Nat), (x3 : Nat)⟩).toArray)) wc := fun op a next Q => loadW_blk HPZ.out.p Tryz.underlying49 rfl iszPt op a next Q
     have sR : ∀ (op : Oper) (a : Act) (next : Act → World → Prop) (Q : Exit → Act → World → Prop), StoreW Tryz.prog op 49 (.pointer (some ⟨w.heap.size + 2, 0, none⟩)) (.agg (encPtr ⟨(q0g : Nat), (q0a : Nat), (q1g : Nat), (q1a : Nat), true, sz, level, S.txg, (x0 : Nat), (x1 : Nat), (x2 : Nat), (x3 : Nat)⟩).toArray) a wc next Q = next (a.put op.dst undef) (wc.setCells (w.heap.size + 2) 0 (encPtr ⟨(q0g : Nat), (q0a : Nat), (q1g : Nat), (q1a : Nat), true, sz, level, S.txg, (x0 : Nat), (x1 : Nat), (x2 : Nat), (x3 : Nat)⟩)) := fun op a next Q => storeW_part (cs := encPtr ⟨(q0g : Nat), (q0a : Nat), (q1g : Nat), (q1a : Nat), true, sz, level, S.txg, (x0 : Nat), (x1 : Nat), (x2 : Nat), (x3 : Nat)⟩) HPZ.out.r (Nat.le_refl _) iszPt (encPtr_ones _) op a next Q
     have HBZ : Hid (Blk (wc.setCells (w.heap.size + 2) 0 (encPtr ⟨(q0g : Nat), (q0a : Nat), (q1g : Nat), (q1a : Nat), true, sz, level, S.txg, (x0 : Nat), (x1 : Nat), (x2 : Nat), (x3 : Nat)⟩)) (w.heap.size + 2) 49 (encPtr ⟨(q0g : Nat), (q0a : Nat), (q1g : Nat), (q1a : Nat), true, sz, level, S.txg, (x0 : Nat), (x1 : Nat), (x2 : Nat), (x3 : Nat)⟩)) := Lib.hid (HPZ.out.r.put rfl)
     have HFZ := Lib.hid ((HATZ.out.other HPZ.out.r (by unfold BookTy; decide) HNZ.out.2 (by omega) (setCells_grown (w.heap.size + 2) (encPtr ⟨(q0g : Nat), (q0a : Nat), (q1g : Nat), (q1a : Nat), true, sz, level, S.txg, (x0 : Nat), (x1 : Nat), (x2 : Nat), (x3 : Nat)⟩) wc 0)).fin)
     go_wp2_with fail
     refine bodyPost_ret (results_pt rfl _ _ (w.heap.size + 2) ⟨(q0g : Nat), (q0a : Nat), (q1g : Nat), (q1a : Nat), true, sz, level, S.txg, (x0 : Nat), (x1 : Nat), (x2 : Nat), (x3 : Nat)⟩ rfl HBZ.out) rfl ?_
     rw [HRR.out]
     exact ⟨rfl, some d, fun d0 e => by rw [HD.out d0 e], HFZ.out⟩
   ·exfalso
    simp only [List.length_cons] at hll
    omega
  ·obtain ⟨ei, hei⟩ : ∃ ei : Int, ei = ((er : Nat) : Int) := ⟨_, rfl⟩
   have q9 : ¬ ei = 0 := by omega
   rw [← hei]
   have HEI := Lib.hid hei
   have HER := Lib.hid her
   clear hei her hb256 h1 h2 h3 h4 hS0
   have s0 : ∀ (op : Oper) (a : Act) (next : Act → World → Prop) (Q : Exit → Act → World → Prop), StoreW Tryz.prog op 49 (.pointer (some ⟨w.heap.size + 2, 0, none⟩)) (.agg #[.int .i64 0, .int .i64 0, .int .i64 0, .int .i64 0, .bool false, .int .i64 0, .int .i64 0, .int .i64 0, .int .u64 0, .int .u64 0, .int .u64 0, .int .u64 0]) a w3 next Q = next (a.put op.dst undef) (w3.setCells (w.heap.size + 2) 0 (encPtr pD)) := fun op a next Q => storeW_part (cs := encPtr pD) K3R.out (Nat.le_refl _) iszPt (encPtr_ones pD) op a next Q
   have HBR : Hid (Blk (w3.setCells (w.heap.size + 2) 0 (encPtr pD)) (w.heap.size + 2) 49 (encPtr pD)) := Lib.hid (K3R.out.put rfl)
   have HRR : Hid (R = ⟨pD, er, { S with sn := sn1, es := es1 }⟩) := Lib.hid (by rw [HRE.out, if_pos HER.out])
   have HFI := Lib.hid ((HAT3.out.other K3R.out (by unfold BookTy; decide) HNT3.out.2.2.1 (by omega) (setCells_grown (w.heap.size + 2) (encPtr pD) w3 0)).fin)
   have q6 : (ei == 0) = false := by simpa using q9
   have q7 : decide (ei = 0) = false := decide_eq_false q9
   have q8 : (ei != 0) = true := by simpa using q9
   go_wp2_with fail
   refine bodyPost_ret (results_pt rfl _ _ (w.heap.size + 2) pD rfl HBR.out) rfl ?_
   rw [HRR.out]
   exact ⟨by rw [HEI.out]; rfl, dn, fun d e => e, HFI.out⟩
theorem put_any {w : World} {sb : Nat} {S : StoT} {V : DvV} {bb : Nat} {dn : Option Nat} {T : Nat → Prop} (h : IsSto w sb S V bb dn T) (t : Bs) (level : Int) (htl : t.length ≤ 1000000) (hr : S.x.right = true) (K : Nat) (hK : S.x.deep K) (hK2 : K + 200 ≤ 1000000000) (hw : S.x.takes) (hkp : 0 ≤ S.keep ∧ S.keep ≤ 1000000000) (hbn : S.born.length ≤ 1000000)
  (hpl : (plcX S ((t.length / 64 : Nat) : Int) level).err = 0 → ∀ q ∈ (plcX S ((t.length / 64 : Nat) : Int) level).l, mayC S.x.gs S.x.secs (q.1 : Nat) (q.2 : Nat) ((t.length / 64 : Nat) : Int) = true) :
  Calls Tryz.prog 12 #[.pointer (some ⟨sb, 0, none⟩), .string ⟨t.toArray⟩, .int .i64 level] w (PutFn w sb V bb dn T (putR S t level)) := by
 by_cases hy : putOk S t level = true
 ·exact put_yes h t level htl hr K hK hK2 hw hkp hbn hpl hy
 ·exact put_no h t level htl hr K hK hK2 hw hkp hbn hpl (by simpa using hy)
end Go.Proofs.YtfaemcfjbbbbdaaGreat
