/- Parts of the proof of the statement that the last file of this claim proves: lemmas, without any condition of their own beyond those that each states. -/
import Derived.Test.YtfaemcfjbbbbdaaGreatYE3
import Derived.Sort.OwnSortedInts
import Derived.Lib.RowBridge
import Derived.RangeFuncNested
import Derived.RangeFuncBound
import Derived.RangeFuncCalls
import Derived.RangeFuncLeaves
import Derived.OwnWalkIn
import Derived.TacticsInMore
import Derived.LoopNIn
import Derived.LoopIn
import Derived.Deep.LoopGhost
import Derived.Shelf.Abstract
set_option linter.unusedVariables false
set_option linter.unusedSimpArgs false
set_option linter.unnecessarySimpa false
namespace Go.Proofs.YtfaemcfjbbbbdaaGreat
open Go.RowKit
attribute [local go_sem ↓] wp_loadCo wp_storeCo
def agK (l : List ColT) (i k : Nat) : List Nat := (List.range k).filter fun j => decide ((l.getD j cD).2.2.2 = (l.getD i cD).2.2.2 ∧ j ≠ i)
theorem agK_succ (l : List ColT) (i k : Nat) : agK l i (k + 1) = agK l i k ++ (if (l.getD k cD).2.2.2 = (l.getD i cD).2.2.2 ∧ k ≠ i then [k] else []) := by
 unfold agK
 rw [List.range_succ, List.filter_append]
 congr 1
 by_cases h : (l.getD k cD).2.2.2 = (l.getD i cD).2.2.2 ∧ k ≠ i
 ·rw [if_pos h]; simp only [List.filter_cons, decide_eq_true h, if_true, List.filter_nil]
 ·rw [if_neg h]; simp only [List.filter_cons, decide_eq_false h, List.filter_nil]; rfl
theorem agK_len (l : List ColT) (i k : Nat) : (agK l i k).length ≤ k := by
 have := List.length_filter_le (fun j => decide ((l.getD j cD).2.2.2 = (l.getD i cD).2.2.2 ∧ j ≠ i)) (List.range k)
 rw [List.length_range] at this
 exact this
theorem againT_eq (l : List ColT) (got : List Bs) (i : Nat) : againT l got i = if [] ∈ (agK l i l.length).map (fun j => got.getD j []) then [] else makeB ((agK l i l.length).map fun j => got.getD j []) := rfl
set_option maxRecDepth 100000 in
set_option maxHeartbeats 2000000 in
theorem again_any (gl lc : Nat) (l : List ColT) (gb gc : Nat) (got : List Bs) (i : Nat) (w : World) (hl : RSl w 4 (some ⟨gl, 0, none⟩) l.length lc (encC l)) (hg : SSl w (some ⟨gb, 0, none⟩) got.length gc (bts got)) (hgl : got.length = l.length) (hn : l.length ≤ 32) (hi0 : i < l.length) (hsm : ∀ s ∈ got, s.length ≤ 64) :
  Calls Tryz.prog 167 #[.slice (some ⟨gl, 0, none⟩) l.length lc, .slice (some ⟨gb, 0, none⟩) got.length gc, .int .i64 (i : Nat)] w fun e w' => e = .returned (.string ⟨(againT l got i).toArray⟩) ∧ Below w.heap.size w w' := by
 have HLR : Hid (∀ W, Below w.heap.size w W → RSl W 4 (some ⟨gl, 0, none⟩) l.length lc (encC l)) := Lib.hid (fun W hW => hl.below hW)
 have HGR : Hid (∀ W, Below w.heap.size w W → ∀ j, j < l.length → W.cell? ⟨gb, j, none⟩ = some (.string ⟨(got.getD j []).toArray⟩)) := Lib.hid (fun W hW j hj => by
  obtain ⟨b', o', e, hb, hc⟩ := hg.2.2.2.2 (by omega)
  simp only [Option.some.injEq, Addr.mk.injEq, and_true] at e
  obtain ⟨rfl, rfl⟩ := e
  have hj' : j < got.length := by omega
  have := hc j (by omega)
  rw [Nat.zero_add] at this
  rw [World.cell?_of_block (w := w) (hW.block gb hb), this]
  simp [encS, bts, List.getElem?_eq_getElem hj'])
 have HGL := Lib.hid hgl
 have HSM := Lib.hid hsm
 have HAG := Lib.hid (againT_eq l got i)
 obtain ⟨ra, hra⟩ : ∃ ra, ra = (l.getD i cD).2.2.2 := ⟨_, rfl⟩
 have HRA := Lib.hid hra
 obtain ⟨n, hnn⟩ : ∃ n, n = got.length := ⟨_, rfl⟩
 rw [← hnn] at hgl ⊢
 subst hgl
 clear hl hg hsm hra hnn
 go_enter Tryz.func167, Tryz.ntmps167
 go_wp2_with fail
 go_loopw [7, 14] (fun v vi wr => ∃ k : Nat, vi = .int .i64 k ∧ k ≤ l.length ∧ Hid (wr.ownsRow w.heap.size 9 1 v (agK l i k).length (encS (bts ((agK l i k).map fun j => got.getD j [])))) ∧ Hid (Below w.heap.size w wr)) (fun _ vi _ => l.length - (intOf vi).toNat)
 case atStart => exact ⟨0, rfl, by omega, Lib.hid (World.ownsRow_nil _ _ _ _), Lib.hid (Below.refl _ _)⟩
 case round =>
  obtain ⟨k, rfl, hk, HOW, HBR⟩ := hrel
  have hsr := HBR.out.size
  obtain ⟨ao1, cap1, rfl⟩ := own_form HOW.out
  by_cases hkn : k < l.length
  ·have q1 : (k : Int) < (l.length : Int) := by omega
   have q2 : 0 ≤ (k : Int) := by omega
   have q3 : (i : Int) < (l.length : Int) := by omega
   have q4 : 0 ≤ (i : Int) := by omega
   obtain ⟨c, hc⟩ : ∃ c, c = l.getD k cD := ⟨_, rfl⟩
   have hrg := colD_cells (HLR.out wr HBR.out) hkn
   rw [← hc, Nat.zero_add] at hrg
   have hl1 := fun op a next Q => loadW_mid (P := Tryz.prog) (t := 78) hrg Tryz.underlying78 rfl iszCo op a next Q
   have hst := fun op a next Q => store_newCo c wr op a next Q
   obtain ⟨w3, hw3⟩ : ∃ w3, w3 = wr.alloc (.cells (encC1 c).toArray 78) := ⟨_, rfl⟩
   obtain ⟨g3, hg3⟩ : ∃ g3, g3 = wr.heap.size := ⟨_, rfl⟩
   have hB3 : Blk w3 g3 78 (encC1 c) := by rw [hw3, hg3]; exact Blk.new wr _ _
   have hb3 : Below wr.heap.size wr w3 := by rw [hw3]; exact (Below.refl _ _).alloc (Nat.le_refl _) _
   have HOW3 := Lib.hid (owns_below HOW.out (hb3.trans ((Below.refl w3.heap.size w3).drew.mono hb3.size)))
   have HB3 := Lib.hid (HBR.out.trans ((hb3.trans ((Below.refl w3.heap.size w3).drew.mono hb3.size)).mono hsr))
   have HC := Lib.hid hc
   have HAK := Lib.hid (agK_succ l i k)
   have hkl := agK_len l i k
   obtain ⟨R, hR⟩ : ∃ R, R = agK l i k := ⟨_, rfl⟩
   rw [← hR] at hkl HAK HOW3 ⊢
   have e3 : w3.drew.cell? ⟨g3, 3, none⟩ = some (.int .i64 (c.2.2.2 : Nat)) := hB3.cell 3
   have e4 : w3.drew.cell? ⟨gl, i * 4 + 3, none⟩ = some (.int .i64 (ra : Nat)) := by
    have h1 := colD_cells (HLR.out _ HB3.out) hi0
    rw [Nat.zero_add] at h1
    rw [HRA.out]
    exact h1 3 _ rfl
   have HS0 : Hid ((fun w' : World => w'.cell? ⟨g3, 3, none⟩ = some (.int .i64 (c.2.2.2 : Nat)) ∧ w'.cell? ⟨gl, i * 4 + 3, none⟩ = some (.int .i64 (ra : Nat))) w3.drew) := Lib.hid ⟨e3, e4⟩
   have h03 : w.heap.size ≤ w3.drew.heap.size := HB3.out.size
   obtain ⟨cr, hcr⟩ : ∃ cr, cr = c.2.2.2 := ⟨_, rfl⟩
   rw [← hcr] at HS0
   have HCR : Hid (cr = (l.getD k cD).2.2.2) := Lib.hid (by rw [hcr, hc])
   rw [← HCR.out, ← HRA.out] at HAK
   clear hrg hB3 hc hb3 e3 e4 hR hcr HOW
   go_upto_region 5 with fail
   rw [← hw3, ← hg3]
   clear hw3 hg3 hst hl1
   have hS0 := HS0.out
   by_cases hrow : cr = ra
   ·have q5 : ((cr : Int) == (ra : Int)) = true := by simp [hrow]
    by_cases hki : k = i
    ·have q6 : (!((k : Int) == (i : Int))) = false := by simp [hki]
     refine wp_region_held_drew (S := fun w' => w'.cell? ⟨g3, 3, none⟩ = some (.int .i64 (cr : Nat)) ∧ w'.cell? ⟨gl, i * 4 + 3, none⟩ = some (.int .i64 (ra : Nat))) (by kernel_rfl) hS0 (fun hS0 => ?_)
     refine rtd 0 ?_
     refine rtv (i := 1) (v := ?va1) (hy := ?ya1) (h := ?_)
     case ya1 => intro w hSw; (try dsimp only at hSw); go_simp; first | (rw [hSw.1]; rfl) | rfl
     try simp only [Act.put, z1, z2, z3]
     refine rtd 2 ?_; refine rtd 3 ?_
     refine rtv (i := 4) (v := ?va4) (hy := ?ya4) (h := ?_)
     case ya4 => intro w hSw; (try dsimp only at hSw); go_simp; first | with_reducible rfl | rw [if_pos (by omega)]
     try simp only [Act.put, z1, z2, z3]
     refine rtd 5 ?_
     refine rtv (i := 6) (v := ?va6) (hy := ?ya6) (h := ?_)
     case ya6 => intro w hSw; (try dsimp only at hSw); go_simp; first | (rw [hSw.2]; rfl) | rfl
     try simp only [Act.put, z1, z2, z3]
     refine rtd 7 ?_; refine rtd 8 ?_; refine rtd 9 ?_; refine rtd 10 ?_; refine rtd 11 ?_; refine rtd 12 ?_
     refine wpAnyH_done (by kernel_rfl) ?_ _
     go_wp2_with fail
     refine ⟨⟨k + 1, by go_num, by omega, Lib.hid (by rw [HAK.out, if_neg (by omega), List.append_nil]; exact HOW3.out), HB3⟩, ?_⟩
     simp [intOf]
     omega
    ·have q6 : (!((k : Int) == (i : Int))) = true := by simp; omega
     refine wp_region_held_drew (S := fun w' => w'.cell? ⟨g3, 3, none⟩ = some (.int .i64 (cr : Nat)) ∧ w'.cell? ⟨gl, i * 4 + 3, none⟩ = some (.int .i64 (ra : Nat))) (by kernel_rfl) hS0 (fun hS0 => ?_)
     refine rtd 0 ?_
     refine rtv (i := 1) (v := ?vb1) (hy := ?yb1) (h := ?_)
     case yb1 => intro w hSw; (try dsimp only at hSw); go_simp; first | (rw [hSw.1]; rfl) | rfl
     try simp only [Act.put, z1, z2, z3]
     refine rtd 2 ?_; refine rtd 3 ?_
     refine rtv (i := 4) (v := ?vb4) (hy := ?yb4) (h := ?_)
     case yb4 => intro w hSw; (try dsimp only at hSw); go_simp; first | with_reducible rfl | rw [if_pos (by omega)]
     try simp only [Act.put, z1, z2, z3]
     refine rtd 5 ?_
     refine rtv (i := 6) (v := ?vb6) (hy := ?yb6) (h := ?_)
     case yb6 => intro w hSw; (try dsimp only at hSw); go_simp; first | (rw [hSw.2]; rfl) | rfl
     try simp only [Act.put, z1, z2, z3]
     refine rtd 7 ?_; refine rtd 8 ?_; refine rtd 9 ?_; refine rtd 10 ?_; refine rtd 11 ?_; refine rtd 12 ?_
     refine wpAnyH_done (by kernel_rfl) ?_ _
     have m1 : R.length + 1 ≤ maxLen := by unfold maxLen; omega
     have m2 : (R.length + 1) * 16 ≤ 140737488355328 := by omega
     obtain ⟨x, hx⟩ : ∃ x : Bs, x = got.getD k [] := ⟨_, rfl⟩
     have e6 := HGR.out _ HB3.out k hkn
     rw [← hx] at e6
     obtain ⟨i0, hi, hz0, hz1, hz2⟩ := info_parts infoStr
     have m3 : w.heap.size ≤ (w3.drew.alloc (.cells #[.string ⟨x.toArray⟩] 9)).heap.size := by simp at *; omega
     have HNW := Lib.hid (Blk.news (Blk.new w3.drew 9 [.string ⟨x.toArray⟩]))
     have HP3 := Lib.hid (HOW3.out.alloc (.cells #[.string ⟨x.toArray⟩] 9))
     obtain ⟨PP, hPP⟩ : ∃ PP, PP = R.map fun q => got.getD q [] := ⟨_, rfl⟩
     have HPP := Lib.hid hPP
     have HX := Lib.hid hx
     rw [← hPP] at HP3
     clear hPP hx
     go_wp2_with (at_builtin; go_must (refine wpList_append_own_at _ rfl (.tmp 32) (.tmp 37) 59 rfl w.heap.size 9 i0 (.string ⟨#[]⟩) 1 16 Tryz.underlying59 hi hz0 hz1 hz2 rfl (by decide) (.slice ao1 R.length cap1) R.length (encS (bts PP)) rfl HP3.out ⟨w3.heap.size, 0, none⟩ 1 1 [.string ⟨x.toArray⟩] rfl rfl HNW.out (by simp [Value.oneCell']) m1 m2 m3 ?_; intro v1 w5 hown1 hgrow1 _ _))
     have HBF : Hid (Below w.heap.size w w5) := Lib.hid (below_own (HB3.out.alloc h03 _) HP3.out hgrow1 m3 (Nat.le_refl _))
     have hown2 : w5.ownsRow w.heap.size 9 1 v1 (agK l i (k + 1)).length (encS (bts ((agK l i (k + 1)).map fun q => got.getD q []))) := by
      rw [enc_snoc] at hown1
      rw [HAK.out, if_pos ⟨hrow, hki⟩, List.map_append, ← HPP.out, List.length_append, List.map_singleton, ← HX.out]
      exact hown1
     have HO7 := Lib.hid hown2
     clear hown1 hgrow1 hown2
     go_roundw
     case rel => exact ⟨k + 1, by go_num, by omega, HO7, HBF⟩
     case measure => simp [intOf]; omega
   ·have q5 : ((cr : Int) == (ra : Int)) = false := by simp; omega
    refine wp_region_held_drew (S := fun w' => w'.cell? ⟨g3, 3, none⟩ = some (.int .i64 (cr : Nat)) ∧ w'.cell? ⟨gl, i * 4 + 3, none⟩ = some (.int .i64 (ra : Nat))) (by kernel_rfl) hS0 (fun hS0 => ?_)
    refine rtd 0 ?_
    refine rtv (i := 1) (v := ?vc1) (hy := ?yc1) (h := ?_)
    case yc1 => intro w hSw; (try dsimp only at hSw); go_simp; first | (rw [hSw.1]; rfl) | rfl
    try simp only [Act.put, z1, z2, z3]
    refine rtd 2 ?_; refine rtd 3 ?_
    refine rtv (i := 4) (v := ?vc4) (hy := ?yc4) (h := ?_)
    case yc4 => intro w hSw; (try dsimp only at hSw); go_simp; first | with_reducible rfl | rw [if_pos (by omega)]
    try simp only [Act.put, z1, z2, z3]
    refine rtd 5 ?_
    refine rtv (i := 6) (v := ?vc6) (hy := ?yc6) (h := ?_)
    case yc6 => intro w hSw; (try dsimp only at hSw); go_simp; first | (rw [hSw.2]; rfl) | rfl
    try simp only [Act.put, z1, z2, z3]
    refine rtd 7 ?_; refine rtd 8 ?_; refine rtn 9 ?_; refine rtn 10 ?_; refine rtn 11 ?_; refine rtd 12 ?_
    refine wpAnyH_done (by kernel_rfl) ?_ _
    go_wp2_with fail
    refine ⟨⟨k + 1, by go_num, by omega, Lib.hid (by rw [HAK.out, if_neg (by omega), List.append_nil]; exact HOW3.out), HB3⟩, ?_⟩
    simp [intOf]
    omega
  ·obtain rfl : k = l.length := by omega
   have q1 : ¬ (l.length : Int) < (l.length : Int) := by omega
   have hkl := agK_len l i l.length
   have hsl : SSl wr ao1 (agK l i l.length).length cap1 (bts ((agK l i l.length).map fun j => got.getD j [])) := rsl_of_owns HOW.out
   obtain ⟨P, hP⟩ : ∃ P, P = (agK l i l.length).map fun j => got.getD j [] := ⟨_, rfl⟩
   rw [← hP] at HAG hsl
   have hPs : ∀ s ∈ P, s.length ≤ 1000000 := fun s hs => by
    rw [hP] at hs
    obtain ⟨j, _, rfl⟩ := List.mem_map.1 hs
    rw [List.getD_eq_getElem?_getD]
    by_cases hj : j < got.length
    ·rw [List.getElem?_eq_getElem hj, Option.getD_some]
     have := HSM.out _ (List.getElem_mem hj); omega
    ·rw [List.getElem?_eq_none (by omega)]; simp
   have HCE := Lib.hid (containsE_any ao1 _ cap1 P wr hsl (by omega))
   have HMK : Hid (∀ W, Below wr.heap.size wr W → _) := Lib.hid (fun W hW => make_any ao1 _ cap1 P W (hsl.below hW) (by omega) hPs)
   clear hsl hPs hP HOW
   go_wp2_with fail
   refine HCE.out.mono ?_
   rintro e w1 ⟨rfl, hb1⟩
   have HM1 := Lib.hid (HMK.out w1 hb1)
   have HB1 := Lib.hid (HBR.out.trans (hb1.mono hsr))
   clear hb1
   by_cases hin : [] ∈ P
   ·have r1 : decide ([] ∈ P) = true := decide_eq_true hin
    rw [r1]
    go_wp2_with fail
    go_ret
    exact ⟨by rw [HAG.out, if_pos hin]; rfl, HB1.out⟩
   ·have r1 : decide ([] ∈ P) = false := decide_eq_false hin
    rw [r1]
    go_wp2_with fail
    refine HM1.out.mono ?_
    rintro e w2 ⟨m, rfl, hb2⟩
    have HB2 := Lib.hid (HB1.out.trans (hb2.mono HB1.out.size))
    clear hb2
    go_wp2_with fail
    go_ret
    exact ⟨by rw [HAG.out, if_neg hin]; rfl, HB2.out⟩
end Go.Proofs.YtfaemcfjbbbbdaaGreat
namespace Go.Proofs.YtfaemcfjbbbbdaaGreat
open Go.RowKit
def Bld (w : World) (b : Nat) (l : Bs) : Prop := Lib.IsBuilderF 216 5 b b (Lib.byteCells l) w
theorem Bld.new (w : World) : Bld (w.alloc (.cells #[.pointer none, .slice none 0 0] 216)) w.heap.size [] := Lib.IsBuilderF.of (Lib.fresh_isBuilder 216 5 w)
theorem Bld.lt {w : World} {b : Nat} {l : Bs} (h : Bld w b l) : b < w.heap.size := by
 rcases h with h | h
 ·exact h.lt
 ·exact h.lt
theorem Bld.kept {w w' : World} {b : Nat} {l : Bs} (h : Bld w b l) (hk : ∀ (k : Nat) (cs : Array Value) (e : TypeId) (fr : Nat × Nat), w.heap[k]? = some (.cells cs e fr) → (e = 5 ∨ e = 216) → w'.heap[k]? = w.heap[k]?) : Bld w' b l := by
 have key : ∀ p, Lib.BuilderAtF 216 5 b b p (Lib.byteCells l) w → Lib.BuilderAtF 216 5 b b p (Lib.byteCells l) w' := by
  rintro p ⟨h1, v, h2, h3, h4⟩
  refine ⟨h1, v, ?_, ?_, h4⟩
  ·rw [hk _ _ _ _ h2 (.inr rfl)]; exact h2
  ·obtain ⟨a1, a2⟩ := h3
   refine ⟨a1, ?_⟩
   rcases a2 with a2 | ⟨g, cap, cur, f, c1, c2, c3, c4⟩
   ·exact .inl a2
   ·exact .inr ⟨g, cap, cur, f, c1, c2, by rw [hk _ _ _ _ c3 (.inl rfl)]; exact c3, c4⟩
 rcases h with h | h
 ·exact .inl (key _ h)
 ·exact .inr (key _ h)
theorem Bld.below {w w' : World} {b : Nat} {l : Bs} (h : Bld w b l) (hb : Below w.heap.size w w') : Bld w' b l :=
 h.kept fun k cs e fr hk _ => hb.block k (Array.getElem?_eq_some_iff.1 hk).1
theorem bld_Write (b : Nat) (l s : Bs) (w : World) (h : Bld w b l) (hl : l.length + s.length ≤ 100000000) :
  Calls Tryz.prog 135 #[.pointer (some ⟨b, 0, none⟩), .string ⟨s.toArray⟩] w fun e w' => e = .returned (.tuple #[.int .i64 (s.length : Nat), .nilIface]) ∧ Bld w' b (l ++ s) ∧ Below b w w' ∧ Lib.OthersKept 5 (some b) w w' := by
 have hlt := h.lt
 have hsz : (⟨s.toArray⟩ : ByteArray).size = s.length := by show s.toArray.size = _; simp
 refine (Any.Builder_WriteString_k { Tryz.lays105 with } Tryz.Builder_Extra_105 b b (Lib.byteCells l) ⟨s.toArray⟩ w h (by rw [hsz, Lib.byteCells_length]; omega) (Nat.le_of_lt hlt)).mono ?_
 rintro e w' ⟨rfl, h1, h2, h3⟩
 rw [hsz]
 refine ⟨rfl, .inr ?_, h2, h3⟩
 have e1 : Lib.byteCells l ++ Lib.strCells ⟨s.toArray⟩ = Lib.byteCells (l ++ s) := by simp [Lib.byteCells, Lib.strCells]
 rw [← e1]
 exact h1
theorem bld_String (b : Nat) (l : Bs) (w : World) (h : Bld w b l) : Calls Tryz.prog 137 #[.pointer (some ⟨b, 0, none⟩)] w fun e w' => e = .returned (.string ⟨l.toArray⟩) ∧ Below b w w' ∧ Lib.OthersKept 5 (some b) w w' := by
 refine (Tryz.Builder_String_any_k b b l w h (Nat.le_of_lt h.lt)).mono ?_
 rintro e w' ⟨rfl, _, h2, h3⟩
 exact ⟨rfl, h2, h3⟩
end Go.Proofs.YtfaemcfjbbbbdaaGreat
namespace Go.Proofs.YtfaemcfjbbbbdaaGreat
open Go.RowKit
attribute [local go_sem ↓] wp_loadCo wp_storeCo
theorem withGo_par {l : List ColT} {got : List Bs} {dev : Int} {i : Nat} {r : List Nat} {out : Bs} (h : (l.getD i cD).2.2.1 = true) : withGo l got dev (i :: r) out = withGo l got dev r out := by
 show (if (l.getD i cD).2.2.1 = true then _ else _) = _
 rw [if_pos h]
def withS (l : List ColT) (got : List Bs) (dev : Int) (i : Nat) : Bs := if ((l.getD i cD).1 : Int) = dev then againT l got i else got.getD i []
theorem withGo_stop {l : List ColT} {got : List Bs} {dev : Int} {i : Nat} {r : List Nat} {out : Bs} (h : (l.getD i cD).2.2.1 = false) (hs : withS l got dev i = []) : withGo l got dev (i :: r) out = [] := by
 show (if (l.getD i cD).2.2.1 = true then _ else (if withS l got dev i = [] then [] else _)) = _
 rw [if_neg (by rw [h]; decide), if_pos hs]
theorem withGo_more {l : List ColT} {got : List Bs} {dev : Int} {i : Nat} {r : List Nat} {out : Bs} (h : (l.getD i cD).2.2.1 = false) (hs : withS l got dev i ≠ []) : withGo l got dev (i :: r) out = withGo l got dev r (out ++ withS l got dev i) := by
 show (if (l.getD i cD).2.2.1 = true then _ else (if withS l got dev i = [] then [] else withGo l got dev r (out ++ withS l got dev i))) = _
 rw [if_neg (by rw [h]; decide), if_neg hs]
theorem againT_small (l : List ColT) (got : List Bs) (i : Nat) (h : ∀ s ∈ got, s.length ≤ 64) : (againT l got i).length ≤ 64 := by
 rw [againT_eq]
 split
 ·simp
 ·refine makeB_len _ 64 fun s hs => ?_
  obtain ⟨j, _, rfl⟩ := List.mem_map.1 hs
  rw [List.getD_eq_getElem?_getD]
  by_cases hj : j < got.length
  ·rw [List.getElem?_eq_getElem hj, Option.getD_some]; exact h _ (List.getElem_mem hj)
  ·rw [List.getElem?_eq_none (by omega)]; simp
theorem getD_small {got : List Bs} (h : ∀ s ∈ got, s.length ≤ 64) (i : Nat) : (got.getD i []).length ≤ 64 := by
 rw [List.getD_eq_getElem?_getD]
 by_cases hj : i < got.length
 ·rw [List.getElem?_eq_getElem hj, Option.getD_some]; exact h _ (List.getElem_mem hj)
 ·rw [List.getElem?_eq_none (by omega)]; simp
theorem rangeD_cons {k n : Nat} (h : k < n) : (List.range n).drop k = k :: (List.range n).drop (k + 1) := by
 rw [List.drop_eq_getElem_cons (by simpa using h)]
 simp
theorem ssl_cell {w : World} {gb n cap : Nat} {got : List Bs} (hg : SSl w (some ⟨gb, 0, none⟩) n cap (bts got)) (hn : got.length = n) {j : Nat} (hj : j < n) : w.cell? ⟨gb, j, none⟩ = some (.string ⟨(got.getD j []).toArray⟩) := by
 obtain ⟨b', o', e, hb, hc⟩ := hg.2.2.2.2 (by omega)
 simp only [Option.some.injEq, Addr.mk.injEq, and_true] at e
 obtain ⟨rfl, rfl⟩ := e
 have hj' : j < got.length := by omega
 have := hc j (by omega)
 rw [Nat.zero_add] at this
 rw [this]
 simp [encS, bts, List.getElem?_eq_getElem hj']
set_option maxRecDepth 100000 in
set_option maxHeartbeats 2000000 in
theorem without_any (gl lc : Nat) (l : List ColT) (gb gc : Nat) (got : List Bs) (dev : Int) (w : World) (hl : RSl w 4 (some ⟨gl, 0, none⟩) l.length lc (encC l)) (hg : SSl w (some ⟨gb, 0, none⟩) got.length gc (bts got)) (hgl : got.length = l.length) (hn : l.length ≤ 32) (hsm : ∀ s ∈ got, s.length ≤ 64) :
  Calls Tryz.prog 148 #[.slice (some ⟨gl, 0, none⟩) l.length lc, .slice (some ⟨gb, 0, none⟩) got.length gc, .int .i64 dev] w fun e w' => e = .returned (.string ⟨(withoutT l got dev).toArray⟩) ∧ Below w.heap.size w w' := by
 have HLR : Hid (∀ W, Below w.heap.size w W → RSl W 4 (some ⟨gl, 0, none⟩) l.length lc (encC l)) := Lib.hid (fun W hW => hl.below hW)
 have HGR : Hid (∀ W, Below w.heap.size w W → ∀ j, j < l.length → W.cell? ⟨gb, j, none⟩ = some (.string ⟨(got.getD j []).toArray⟩)) := Lib.hid (fun W hW j hj => ssl_cell (hg.below hW) rfl (by omega))
 have HAC : Hid (∀ W, Below w.heap.size w W → ∀ i, i < l.length → Calls Tryz.prog 167 #[.slice (some ⟨gl, 0, none⟩) l.length lc, .slice (some ⟨gb, 0, none⟩) l.length gc, .int .i64 (i : Nat)] W fun e w' => e = .returned (.string ⟨(againT l got i).toArray⟩) ∧ Below W.heap.size W w') := Lib.hid (fun W hW i hi => by
  have := again_any gl lc l gb gc got i W (hl.below hW) (hg.below hW) hgl hn hi hsm
  rw [hgl] at this; exact this)
 have HSM := Lib.hid hsm
 obtain ⟨w0, hw0⟩ : ∃ w0, w0 = w.alloc (.cells #[.pointer none, .slice none 0 0] 216) := ⟨_, rfl⟩
 obtain ⟨b, hb⟩ : ∃ b, b = w.heap.size := ⟨_, rfl⟩
 have HBL0 : Hid (Bld w0 b []) := Lib.hid (by rw [hw0, hb]; exact Bld.new w)
 have HB0 : Hid (Below w.heap.size w w0) := Lib.hid (by rw [hw0]; exact (Below.refl _ _).alloc (Nat.le_refl _) _)
 have HBW : Hid (w.heap.size ≤ b) := Lib.hid (by omega)
 rw [hgl]
 have HW0 : Hid (withoutT l got dev = withGo l got dev ((List.range l.length).drop 0) []) := Lib.hid rfl
 clear hl hg hgl hsm
 go_enter Tryz.func148, Tryz.ntmps148
 go_upto_region 2 with fail
 rw [← hw0, ← hb]
 clear hw0 hb
 go_wp2_with fail
 go_loopw [13] (fun vi wr => ∃ (k : Nat) (O : Bs), vi = .int .i64 k ∧ k ≤ l.length ∧ Hid (Bld wr b O) ∧ Hid (O.length ≤ 64 * k) ∧ Hid (withoutT l got dev = withGo l got dev ((List.range l.length).drop k) O) ∧ Hid (Below w.heap.size w wr)) (fun vi _ => l.length - (intOf vi).toNat)
 case atStart => exact ⟨0, [], rfl, by omega, HBL0, Lib.hid (by simp), HW0, HB0⟩
 case round =>
  obtain ⟨k, O, rfl, hk, HBL, HOL, HWT, HBR⟩ := hrel
  have hsr := HBR.out.size
  by_cases hkn : k < l.length
  ·have q1 : (k : Int) < (l.length : Int) := by omega
   have q2 : 0 ≤ (k : Int) := by omega
   obtain ⟨c, hc⟩ : ∃ c, c = l.getD k cD := ⟨_, rfl⟩
   have hrg := colD_cells (HLR.out wr HBR.out) hkn
   rw [← hc, Nat.zero_add] at hrg
   have hl1 := fun op a next Q => loadW_mid (P := Tryz.prog) (t := 78) hrg Tryz.underlying78 rfl iszCo op a next Q
   have hst := fun op a next Q => store_newCo c wr op a next Q
   obtain ⟨w3, hw3⟩ : ∃ w3, w3 = wr.alloc (.cells (encC1 c).toArray 78) := ⟨_, rfl⟩
   obtain ⟨g3, hg3⟩ : ∃ g3, g3 = wr.heap.size := ⟨_, rfl⟩
   have hB3 : Blk w3 g3 78 (encC1 c) := by rw [hw3, hg3]; exact Blk.new wr _ _
   have hb3 : Below wr.heap.size wr w3 := by rw [hw3]; exact (Below.refl _ _).alloc (Nat.le_refl _) _
   have HB3 := Lib.hid (HBR.out.trans (hb3.mono hsr))
   have HBL3 := Lib.hid (HBL.out.below hb3)
   have HC := Lib.hid hc
   have HRC := Lib.hid (rangeD_cons hkn)
   have HOL1 : Hid (O.length ≤ 64 * (k + 1)) := Lib.hid (by have := HOL.out; omega)
   have HOL2 : Hid (O.length ≤ 64 * 32) := Lib.hid (by have := HOL.out; omega)
   have e6 := HGR.out w3 HB3.out k hkn
   have HA := Lib.hid (HAC.out w3 HB3.out k hkn)
   have HSA := Lib.hid (againT_small l got k HSM.out)
   have HSG := Lib.hid (getD_small HSM.out k)
   have HWS : Hid (withS l got dev k = if ((l.getD k cD).1 : Int) = dev then againT l got k else got.getD k []) := Lib.hid rfl
   obtain ⟨x, hx⟩ : ∃ x : Bs, x = got.getD k [] := ⟨_, rfl⟩
   obtain ⟨y, hy⟩ : ∃ y : Bs, y = againT l got k := ⟨_, rfl⟩
   rw [← hx] at e6 HSG HWS
   rw [← hy] at HA HSA HWS
   obtain ⟨c0, c1, cp, cr⟩ := c
   have e2 : w3.cell? ⟨g3, 2, none⟩ = some (.bool cp) := hB3.cell 2
   have e0 : w3.cell? ⟨g3, 0, none⟩ = some (.int .i64 (c0 : Nat)) := hB3.cell 0
   rw [← HC.out] at HWS
   have HP : Hid ((l.getD k cD).2.2.1 = cp) := Lib.hid (by rw [← HC.out])
   clear hrg hB3 hc hb3 hx hy
   go_upto_region 5 with fail
   rw [← hw3, ← hg3]
   clear hw3 hg3 hst hl1
   cases cp with
   | true =>
    have hrel2 : Hid (withoutT l got dev = withGo l got dev ((List.range l.length).drop (k + 1)) O) := Lib.hid (by rw [HWT.out, HRC.out, withGo_par HP.out])
    go_wp2_with fail
    go_roundw
    case rel => exact ⟨k + 1, O, by go_num, by omega, HBL3, HOL1, hrel2, HB3⟩
    case measure => simp [intOf]; omega
   | false =>
    by_cases hd : (c0 : Int) = dev
    ·have hS : Hid (withS l got dev k = y) := Lib.hid (by rw [HWS.out, if_pos hd])
     have r1 : ((c0 : Int) == dev) = true := by simp [hd]
     clear HSG HWS
     go_wp2_with fail
     refine HA.out.mono ?_
     rintro e w4 ⟨rfl, hb4⟩
     have HB4 := Lib.hid (HB3.out.trans (hb4.mono HB3.out.size))
     have HBL4 := Lib.hid (HBL3.out.below hb4)
     clear hb4 HA
     cases y with
     | nil =>
      have hfin : Hid (withoutT l got dev = []) := Lib.hid (by rw [HWT.out, HRC.out, withGo_stop HP.out hS.out])
      go_wp2_with fail
      go_ret
      exact ⟨by rw [hfin.out]; rfl, HB4.out⟩
     | cons y0 yr =>
      obtain ⟨y, hy⟩ : ∃ y : Bs, y = y0 :: yr := ⟨_, rfl⟩
      have r2 : (y0 :: yr : Bs) ≠ [] := by simp
      have hrel2 : Hid (withoutT l got dev = withGo l got dev ((List.range l.length).drop (k + 1)) (O ++ (y0 :: yr))) := Lib.hid (by rw [HWT.out, HRC.out, withGo_more HP.out (by rw [hS.out]; exact r2), hS.out])
      have HW := Lib.hid (bld_Write b O (y0 :: yr) w4 HBL4.out (by have := HOL2.out; have := HSA.out; omega))
      have HOL5 : Hid ((O ++ (y0 :: yr)).length ≤ 64 * (k + 1)) := Lib.hid (by rw [List.length_append]; have := HOL.out; have := HSA.out; omega)
      go_wp2_with fail
      refine HW.out.mono ?_
      rintro e w5 ⟨rfl, hbd5, hb5, _⟩
      have HBL5 := Lib.hid hbd5
      have HB5 := Lib.hid (HB4.out.trans (hb5.mono HBW.out))
      clear hbd5 hb5 hy
      go_wp2_with fail
      go_roundw
      case rel => exact ⟨k + 1, _, by go_num, by omega, HBL5, HOL5, hrel2, HB5⟩
      case measure => simp [intOf]; omega
    ·have hS : Hid (withS l got dev k = x) := Lib.hid (by rw [HWS.out, if_neg hd])
     have r1 : ((c0 : Int) == dev) = false := by simp [hd]
     clear HA HSA HWS
     cases x with
     | nil =>
      have hfin : Hid (withoutT l got dev = []) := Lib.hid (by rw [HWT.out, HRC.out, withGo_stop HP.out hS.out])
      go_wp2_with fail
      go_ret
      exact ⟨by rw [hfin.out]; rfl, HB3.out⟩
     | cons y0 yr =>
      have r2 : (y0 :: yr : Bs) ≠ [] := by simp
      have hrel2 : Hid (withoutT l got dev = withGo l got dev ((List.range l.length).drop (k + 1)) (O ++ (y0 :: yr))) := Lib.hid (by rw [HWT.out, HRC.out, withGo_more HP.out (by rw [hS.out]; exact r2), hS.out])
      have HW := Lib.hid (bld_Write b O (y0 :: yr) w3 HBL3.out (by have := HOL2.out; have := HSG.out; omega))
      have HOL5 : Hid ((O ++ (y0 :: yr)).length ≤ 64 * (k + 1)) := Lib.hid (by rw [List.length_append]; have := HOL.out; have := HSG.out; omega)
      go_wp2_with fail
      refine HW.out.mono ?_
      rintro e w5 ⟨rfl, hbd5, hb5, _⟩
      have HBL5 := Lib.hid hbd5
      have HB5 := Lib.hid (HB3.out.trans (hb5.mono HBW.out))
      clear hbd5 hb5
      go_wp2_with fail
      go_roundw
      case rel => exact ⟨k + 1, _, by go_num, by omega, HBL5, HOL5, hrel2, HB5⟩
      case measure => simp [intOf]; omega
  ·obtain rfl : k = l.length := by omega
   have q1 : ¬ (l.length : Int) < (l.length : Int) := by omega
   have HS := Lib.hid (bld_String b O wr HBL.out)
   have HE : Hid (withoutT l got dev = O) := Lib.hid (by rw [HWT.out, List.drop_eq_nil_of_le (by simp)]; rfl)
   go_wp2_with fail
   refine HS.out.mono ?_
   rintro e w2 ⟨rfl, hb2, _⟩
   have HB2 := Lib.hid (HBR.out.trans (hb2.mono HBW.out))
   clear hb2
   go_wp2_with fail
   go_ret
   exact ⟨by rw [HE.out]; rfl, HB2.out⟩
end Go.Proofs.YtfaemcfjbbbbdaaGreat
namespace Go.Proofs.YtfaemcfjbbbbdaaGreat
open Go.RowKit Go.Sort
attribute [local go_sem ↓] wp_loadCo wp_storeCo
def intsV (l : List Int) : List Value := l.map (Value.int .i64)
def devsI (l : List ColT) : List Int := Lib.compact ((l.map fun c => ((c.1 : Nat) : Int)).mergeSort fun x y => decide (x ≤ y))
theorem devsI_len (l : List ColT) : (devsI l).length ≤ l.length := by
 have := Lib.compact_length_le ((l.map fun c => ((c.1 : Nat) : Int)).mergeSort fun x y => decide (x ≤ y))
 rw [List.length_mergeSort, List.length_map] at this
 exact this
theorem row_cutI {w : World} {b e g n cap m : Nat} {xs : List Value} (h : w.ownsRow b e 1 (.slice (some ⟨g, 0, none⟩) n cap) n xs) (hm : m ≤ n) : w.ownsRow b e 1 (.slice (some ⟨g, 0, none⟩) m cap) m (xs.take m) := by
 obtain ⟨h1, h2⟩ := h
 refine ⟨by rw [List.length_take, h1]; omega, .inr ?_⟩
 rcases h2 with ⟨h2, _⟩ | ⟨g', cap', cur, h3, h4, h5, h6, h7, h8, h9⟩
 ·cases h2
 ·simp only [Value.slice.injEq, Option.some.injEq, Addr.mk.injEq, and_true, true_and] at h3
  obtain ⟨rfl, rfl⟩ := h3
  exact ⟨g, cap, cur, rfl, h4, h5, by omega, h7, h8, by rw [← h9, List.take_take, Nat.mul_one, Nat.mul_one, Nat.min_eq_left hm]⟩
theorem row_block {w : World} {b e g n cap : Nat} {xs : List Value} (h : w.ownsRow b e 1 (.slice (some ⟨g, 0, none⟩) n cap) n xs) : ∃ cur, b ≤ g ∧ w.heap[g]? = some (.cells cur e (0, 0)) ∧ n ≤ cap ∧ cap ≤ maxLen ∧ cur.size = cap * 1 ∧ cur.toList.take n = xs := by
 rcases h.2 with ⟨h2, _⟩ | ⟨g', cap', cur, h3, h4, h5, h6, h7, h8, h9⟩
 ·cases h2
 ·simp only [Value.slice.injEq, Option.some.injEq, Addr.mk.injEq, and_true, true_and] at h3
  obtain ⟨rfl, rfl⟩ := h3
  rw [Nat.mul_one] at h9
  exact ⟨cur, h4, h5, h6, h7, h8, h9⟩
theorem sort_any (g cap b : Nat) (zs : List Int) (w : World) (h : w.ownsRow b 3 1 (.slice (some ⟨g, 0, none⟩) zs.length cap) zs.length (intsV zs)) (hn : zs.length ≤ 1000000) :
  Calls Tryz.prog 165 #[.slice (some ⟨g, 0, none⟩) zs.length cap] w fun e w' => e = .returned (.tuple #[]) ∧ w'.ownsRow b 3 1 (.slice (some ⟨g, 0, none⟩) zs.length cap) zs.length (intsV (zs.mergeSort fun x y => decide (x ≤ y))) ∧ w.grownBy w' (some g) := by
 obtain ⟨cur, h4, h5, h6, h7, h8, h9⟩ := row_block h
 have hH := holds_of_blockI h5 h9
 have hlt : g < w.heap.size := (Array.getElem?_eq_some_iff.1 h5).1
 refine (Tryz.slices_Sort_int g 0 cap zs w hH hlt (by omega)).mono ?_
 rintro e w' ⟨rfl, n, os, rfl⟩
 refine ⟨rfl, ?_, grownBy_sortedI _⟩
 exact ownsRow_sortedI (by simp) h4 h5 h6 h7 h8
theorem compact_any (g cap b : Nat) (zs : List Int) (w : World) (h : w.ownsRow b 3 1 (.slice (some ⟨g, 0, none⟩) zs.length cap) zs.length (intsV zs)) (hn : zs.length ≤ 1000000) :
  Calls Tryz.prog 166 #[.slice (some ⟨g, 0, none⟩) zs.length cap] w fun e w' => ∃ v, e = .returned v ∧ w'.ownsRow b 3 1 v (Lib.compact zs).length (intsV (Lib.compact zs)) ∧ w.grownBy w' (some g) := by
 obtain ⟨cur, h4, h5, h6, h7, h8, h9⟩ := row_block h
 have hH := holds_of_blockI h5 h9
 have hcl := Lib.compact_length_le zs
 refine (Tryz.slices_Compact_int g 0 cap zs w hH (by omega) h6).mono ?_
 rintro e w' ⟨rfl, n, rfl⟩
 have hg := grownBy_sortedI (w := w) (g := g) (n := n) (os := #[]) (Lib.compact zs ++ List.replicate (zs.length - (Lib.compact zs).length) 0).toArray
 have ho := ownsRow_sortedI (w := w) (base := b) (n := n) (os := #[]) (ss := zs) (ts := Lib.compact zs ++ List.replicate (zs.length - (Lib.compact zs).length) 0) (by simp; omega) h4 h5 h6 h7 h8
 rw [grow_empty] at hg ho
 refine ⟨_, rfl, ?_, hg⟩
 have := row_cutI ho hcl
 rw [List.map_append, List.take_left' (by simp)] at this
 exact this
set_option maxRecDepth 100000 in
set_option maxHeartbeats 1000000 in
theorem devs_any (ao : Option Addr) (lc : Nat) (l : List ColT) (w : World) (hl : RSl w 4 ao l.length lc (encC l)) (hn : l.length ≤ 100) (h0 : 0 < l.length) :
  Calls Tryz.prog 147 #[.slice ao l.length lc] w fun e w' => ∃ v, e = .returned v ∧ w'.ownsRow w.heap.size 3 1 v (devsI l).length (intsV (devsI l)) ∧ Below w.heap.size w w' := by
 obtain ⟨i0, hi, hz0, hz1, hz2⟩ := info_parts infoI
 obtain ⟨gl, off, rfl⟩ : ∃ b o, ao = some ⟨b, o, none⟩ := by
  obtain ⟨b, o, e, _⟩ := hl.2.2.2.2 (by omega); exact ⟨b, o, e⟩
 have HR := Lib.hid hl
 clear hl
 go_enter Tryz.func147, Tryz.ntmps147
 go_wp2_with fail
 go_loopw [3, 8] (fun v vi wr => ∃ k : Nat, vi = .int .i64 k ∧ k ≤ l.length ∧ Hid (wr.ownsRow w.heap.size 3 1 v k (intsV ((l.take k).map fun c => ((c.1 : Nat) : Int)))) ∧ Hid (Below w.heap.size w wr)) (fun _ vi _ => l.length - (intOf vi).toNat)
 case atStart => exact ⟨0, rfl, by omega, Lib.hid (World.ownsRow_nil _ _ _ _), Lib.hid (Below.refl _ _)⟩
 case round =>
  obtain ⟨k, rfl, hk, HOW, HBR⟩ := hrel
  have hsr := HBR.out.size
  obtain ⟨ao1, cap1, rfl⟩ := own_form HOW.out
  by_cases hkn : k < l.length
  ·have q1 : (k : Int) < (l.length : Int) := by omega
   have q2 : 0 ≤ (k : Int) := by omega
   obtain ⟨c, hc⟩ : ∃ c, c = l.getD k cD := ⟨_, rfl⟩
   have hrg := colD_cells (HR.out.below HBR.out) hkn
   rw [← hc] at hrg
   have hl1 := fun op a next Q => loadW_mid (P := Tryz.prog) (t := 78) hrg Tryz.underlying78 rfl iszCo op a next Q
   have hst := fun op a next Q => store_newCo c wr op a next Q
   obtain ⟨w1, hw1⟩ : ∃ w1, w1 = wr.alloc (.cells (encC1 c).toArray 78) := ⟨_, rfl⟩
   obtain ⟨g1, hg1⟩ : ∃ g1, g1 = wr.heap.size := ⟨_, rfl⟩
   have hB1 : Blk w1 g1 78 (encC1 c) := by rw [hw1, hg1]; exact Blk.new wr _ _
   have HB1 : Hid (Below wr.heap.size wr w1) := Lib.hid (by rw [hw1]; exact (Below.refl _ _).alloc (Nat.le_refl _) _)
   have HOW1 := Lib.hid (owns_below HOW.out HB1.out)
   have HBR1 := Lib.hid (HBR.out.trans (HB1.out.mono hsr))
   obtain ⟨R, hR⟩ : ∃ R, R = (l.take k).map fun c => ((c.1 : Nat) : Int) := ⟨_, rfl⟩
   have HRS : Hid ((l.take (k + 1)).map (fun c => ((c.1 : Nat) : Int)) = R ++ [((c.1 : Nat) : Int)]) := Lib.hid (by
    rw [List.take_succ_eq_append_getElem hkn, List.map_append, hR, hc]
    simp [List.getD_eq_getElem?_getD, hkn])
   rw [← hR] at HOW1
   obtain ⟨c0, c1, cp, cr⟩ := c
   have e0 : w1.cell? ⟨g1, 0, none⟩ = some (.int .i64 (c0 : Nat)) := hB1.cell 0
   clear hrg hB1 hc hR HOW
   go_upto_region 5 with fail
   rw [← hw1, ← hg1]
   clear hw1 hg1 hst hl1
   have m1 : k + 1 ≤ maxLen := by unfold maxLen; omega
   have m2 : (k + 1) * 8 ≤ 140737488355328 := by omega
   have m3 : w.heap.size ≤ (w1.alloc (.cells #[.int .i64 (c0 : Nat)] 3)).heap.size := by have := HBR1.out.size; simp; omega
   have HNW := Lib.hid (Blk.news (Blk.new w1 3 [.int .i64 (c0 : Nat)]))
   have HOW3 := Lib.hid (HOW1.out.alloc (.cells #[.int .i64 (c0 : Nat)] 3))
   go_wp2_with (at_builtin; go_must (refine wpList_append_own_at _ rfl (.tmp 12) (.tmp 15) 88 rfl w.heap.size 3 i0 (.int .i64 0) 1 8 Tryz.underlying88 hi hz0 hz1 hz2 rfl (by decide) (.slice ao1 k cap1) k (intsV R) rfl HOW3.out ⟨w1.heap.size, 0, none⟩ 1 1 [.int .i64 (c0 : Nat)] rfl rfl HNW.out (by simp [Value.oneCell']) m1 m2 m3 ?_; intro v1 w3 hown1 hgrow1 _ _))
   have HBF : Hid (Below w.heap.size w w3) := Lib.hid (below_own (HBR1.out.alloc (by have := HBR1.out.size; omega) _) HOW3.out hgrow1 m3 (Nat.le_refl _))
   have HO2 : Hid (w3.ownsRow w.heap.size 3 1 v1 (k + 1) (intsV ((l.take (k + 1)).map fun c => ((c.1 : Nat) : Int)))) := Lib.hid (by
    rw [HRS.out, show intsV (R ++ [(((c0, c1, cp, cr) : ColT).1 : Int)]) = intsV R ++ [.int .i64 (c0 : Nat)] by simp [intsV]]
    exact hown1)
   clear hown1 hgrow1
   go_roundw
   case rel => exact ⟨k + 1, by go_num, by omega, HO2, HBF⟩
   case measure => simp [intOf]; omega
  ·obtain rfl : k = l.length := by omega
   have q1 : ¬ (l.length : Int) < (l.length : Int) := by omega
   obtain ⟨g, cap2, e⟩ := own_form1 HOW.out h0
   simp only [Value.slice.injEq, true_and] at e
   obtain ⟨rfl, rfl⟩ := e
   obtain ⟨Z, hZ⟩ : ∃ Z, Z = l.map fun c => ((c.1 : Nat) : Int) := ⟨_, rfl⟩
   have hZl : Z.length = l.length := by rw [hZ, List.length_map]
   have hrow := HOW.out
   rw [List.take_length, ← hZ, ← hZl] at hrow
   have hS := sort_any g cap1 _ Z wr hrow (by omega)
   have HBG : Hid (∀ W, wr.grownBy W (some g) → Below w.heap.size w W) := Lib.hid (fun W hW => below_own (v := .slice (some ⟨g, 0, none⟩) Z.length cap1) HBR.out hrow hW hsr (Nat.le_refl _))
   have HDV : Hid (devsI l = Lib.compact (Z.mergeSort fun x y => decide (x ≤ y))) := Lib.hid (by unfold devsI; rw [hZ])
   have HZL := Lib.hid hZl
   rw [hZl] at hS
   have HS := Lib.hid hS
   clear hS hrow hZ hZl HOW
   go_wp2_with fail
   refine HS.out.mono ?_
   rintro e w2 ⟨rfl, hrow2, hgr2⟩
   have HB2 := Lib.hid (HBG.out w2 hgr2)
   obtain ⟨Y, hY⟩ : ∃ Y, Y = Z.mergeSort fun x y => decide (x ≤ y) := ⟨_, rfl⟩
   have hYl : Y.length = l.length := by rw [hY, List.length_mergeSort, HZL.out]
   rw [← hY, ← hYl] at hrow2
   have hC := compact_any g cap1 _ Y w2 hrow2 (by omega)
   have HBG2 : Hid (∀ W, w2.grownBy W (some g) → Below w.heap.size w W) := Lib.hid (fun W hW => below_own (v := .slice (some ⟨g, 0, none⟩) Y.length cap1) HB2.out hrow2 hW HB2.out.size (Nat.le_refl _))
   rw [hYl] at hC
   have HC := Lib.hid hC
   have HDV2 : Hid (devsI l = Lib.compact Y) := Lib.hid (by rw [HDV.out, hY])
   clear hC hrow2 hgr2 hY hYl HS
   go_wp2_with fail
   refine HC.out.mono ?_
   rintro e w3 ⟨v, rfl, hrow3, hgr3⟩
   have HB3 := Lib.hid (HBG2.out w3 hgr3)
   have HR3 := Lib.hid hrow3
   clear hrow3 hgr3
   go_wp2_with fail
   go_ret
   exact ⟨v, rfl, by rw [HDV2.out]; exact HR3.out, HB3.out⟩
end Go.Proofs.YtfaemcfjbbbbdaaGreat
namespace Go.Proofs.YtfaemcfjbbbbdaaGreat
open Go.RowKit
set_option maxRecDepth 100000 in
theorem cloneC_any (ao : Option Addr) (n cap : Nat) (cs : List Value) (w : World) (h : RSl w 4 ao n cap cs) (h1 : ∀ u ∈ cs, u.oneCell' = true) (hm : n ≤ 1000000000) :
  Calls Tryz.prog 145 #[.slice ao n cap] w fun e w' => ∃ v, e = .returned v ∧ w'.ownsRow w.heap.size 78 4 v n cs ∧ Below w.heap.size w w' := by
 obtain ⟨i0, hi, hi0, hi1, hi2⟩ := info_parts infoC
 have he := fun (W : World) => Lib.run_eql_slice_nil (P := Tryz.prog) W 73 78 ao n cap 0 0 Tryz.underlying73
 cases ao with
 | none =>
  have hc : cap = 0 := h.2.2.2.1 rfl
  have hn : n = 0 := by have := h.2.1; omega
  subst hn
  subst hc
  have hcs : cs = [] := List.eq_nil_of_length_eq_zero (by have := h.1; simpa using this)
  subst hcs
  simp only [Option.isNone_none] at he
  clear h h1
  go_enter Tryz.func145, Tryz.ntmps145
  go_wp2_with fail
  go_ret
  exact ⟨_, rfl, World.ownsRow_nil _ _ _ _, Below.refl _ _⟩
 | some ad =>
  simp only [Option.isNone_some] at he
  have hmade := World.ownsRow_made (base := w.heap.size) (e := 78) (size := 4) w #[] 0 (Nat.le_refl _) (by unfold maxLen; omega) rfl
  have H := Lib.hid h
  have HN := Lib.hid (RSl.news (h.below ((Below.refl _ _).alloc (Nat.le_refl _) (.cells #[] 78))))
  have H1 := Lib.hid h1
  clear h h1
  go_enter Tryz.func145, Tryz.ntmps145
  go_wp2_with (at_builtin; refine wpList_append_own _ rfl (.tmp 5) (.tmp 6) 73 rfl w.heap.size 78 i0 (.agg #[.int .i64 0, .int .i64 0, .bool false, .int .i64 0]) 4 32 Tryz.underlying73 hi hi0 hi1 hi2 rfl (by decide) (.slice (some ⟨w.heap.size, 0, none⟩) 0 0) 0 [] rfl hmade ad n cap cs rfl (by rw [H.out.1]) HN.out H1.out (by unfold maxLen; omega) (by omega) (by simp) ?_; intro v1 w1 hown1 hgrow1 _; simp only [Nat.zero_add, List.nil_append] at hown1)
  go_ret
  exact ⟨_, rfl, hown1, below_own ((Below.refl _ _).alloc (Nat.le_refl _) _) hmade hgrow1 (by simp) (Nat.le_refl _)⟩
set_option maxHeartbeats 400000 in
theorem indexFuncC_any (F : Nat) (capt : Array Value) (p : Nat → Bool) (ao : Option Addr) (n cap : Nat) (cs : List Value) (w : World) (h : RSl w 4 ao n cap cs) (hm : n ≤ 1000000000)
  (hF : ∀ args W, (callFunc F args).run Tryz.prog W = .ok (.enter F args) W)
  (hf : ∀ j, j < n → ∀ W, Below w.heap.size w W → Calls Tryz.prog F (#[.agg #[cs.getD (j * 4) undef, cs.getD (j * 4 + 1) undef, cs.getD (j * 4 + 2) undef, cs.getD (j * 4 + 3) undef]] ++ capt) W fun e W' => e = .returned (.bool (p j)) ∧ Below W.heap.size W W') :
  Calls Tryz.prog 164 #[.slice ao n cap, .func (.func F) #[] capt] w fun e w' => e = .returned (.int .i64 (firstIdx p n)) ∧ Below w.heap.size w w' := by
 have HF := Lib.hid hf
 have HSL := Lib.hid h
 clear hf h
 go_enter Tryz.func164, Tryz.ntmps164
 go_wp2_with fail
 go_loopw [8] (fun i wr => ∃ k : Nat, k ≤ n ∧ i = .int .i64 k ∧ Hid (∀ j, j < k → p j = false) ∧ Below w.heap.size w wr) (fun i _ => n - (intOf i).toNat)
 case atStart => exact ⟨0, by omega, rfl, Lib.hid fun j hj => absurd hj (by omega), Below.refl _ _⟩
 case round =>
  obtain ⟨k, hk, rfl, hno, hbel⟩ := hrel
  by_cases hkn : k < n
  ·obtain ⟨b, off, rfl, hb, hc⟩ := HSL.out.2.2.2.2 (by omega)
   have hcl := HSL.out.1
   have c0 : wr.cell? ⟨b, off + k * 4, none⟩ = some (cs.getD (k * 4) undef) := by rw [(hbel.cell (p := ⟨b, _, none⟩) hb), hc (k * 4) (by omega)]; exact getD_some _ _ (by omega)
   have c1 : wr.cell? ⟨b, off + k * 4 + 1, none⟩ = some (cs.getD (k * 4 + 1) undef) := by rw [Nat.add_assoc, (hbel.cell (p := ⟨b, _, none⟩) hb), hc (k * 4 + 1) (by omega)]; exact getD_some _ _ (by omega)
   have c2 : wr.cell? ⟨b, off + k * 4 + 2, none⟩ = some (cs.getD (k * 4 + 2) undef) := by rw [Nat.add_assoc, (hbel.cell (p := ⟨b, _, none⟩) hb), hc (k * 4 + 2) (by omega)]; exact getD_some _ _ (by omega)
   have c3 : wr.cell? ⟨b, off + k * 4 + 3, none⟩ = some (cs.getD (k * 4 + 3) undef) := by rw [Nat.add_assoc, (hbel.cell (p := ⟨b, _, none⟩) hb), hc (k * 4 + 3) (by omega)]; exact getD_some _ _ (by omega)
   have HCL := Lib.hid (HF.out k hkn wr hbel)
   clear hc hcl
   cases hp : p k with
   | true =>
    rw [hp] at HCL
    go_wp2_with fail
    refine HCL.out.mono ?_
    rintro e w1 ⟨rfl, hb1⟩
    go_wp2_with fail
    go_ret
    exact ⟨by rw [firstIdx_at hkn hp hno.out]; rfl, hbel.trans (hb1.mono hbel.size)⟩
   | false =>
    rw [hp] at HCL
    have HP := Lib.hid hp
    clear hp
    go_wp2_with fail
    refine HCL.out.mono ?_
    rintro e w1 ⟨rfl, hb1⟩
    go_wp2_with fail
    go_roundw
    case rel =>
     refine ⟨k + 1, by omega, by go_num, Lib.hid fun j hj => ?_, hbel.trans (hb1.mono hbel.size)⟩
     by_cases e : j = k
     ·rw [e]; exact HP.out
     ·exact hno.out j (by omega)
    case measure => simp [intOf]; omega
  ·have hkn' : k = n := by omega
   subst hkn'
   go_wp2_with fail
   go_ret
   exact ⟨by rw [firstIdx_none hno.out]; rfl, hbel⟩
theorem zeroC (w : World) : (zeroValue 78).run Tryz.prog w = .ok (.agg #[.int .i64 0, .int .i64 0, .bool false, .int .i64 0]) w := by kernel_rfl
theorem elem_rowC (cs : List Value) (k : Nat) (h : (k + 1) * 4 ≤ cs.length) : elemK 4 cs k = [cs.getD (k * 4) undef, cs.getD (k * 4 + 1) undef, cs.getD (k * 4 + 2) undef, cs.getD (k * 4 + 3) undef] := by
 unfold elemK
 rw [List.drop_eq_getElem_cons (show k * 4 < cs.length by omega), List.take_succ_cons]
 rw [List.drop_eq_getElem_cons (show k * 4 + 1 < cs.length by omega), List.take_succ_cons]
 rw [List.drop_eq_getElem_cons (show k * 4 + 2 < cs.length by omega), List.take_succ_cons]
 rw [List.drop_eq_getElem_cons (show k * 4 + 3 < cs.length by omega), List.take_succ_cons]
 rw [List.take_zero]
 simp only [List.getD_eq_getElem?_getD]
 rw [List.getElem?_eq_getElem (show k * 4 < cs.length by omega)]
 rw [List.getElem?_eq_getElem (show k * 4 + 1 < cs.length by omega)]
 rw [List.getElem?_eq_getElem (show k * 4 + 2 < cs.length by omega)]
 rw [List.getElem?_eq_getElem (show k * 4 + 3 < cs.length by omega)]
 rfl
theorem set_rowC (cur : List Value) (m : Nat) (v0 v1 v2 v3 : Value) (h : (m + 1) * 4 ≤ cur.length) : ((((cur.set (m * 4) v0).set (m * 4 + 1) v1).set (m * 4 + 2) v2).set (m * 4 + 3) v3) = cur.take (m * 4) ++ [v0, v1, v2, v3] ++ cur.drop ((m + 1) * 4) := by
 apply List.ext_getElem?
 intro t
 rw [List.append_assoc, List.getElem?_append]
 by_cases h1 : t < m * 4
 ·rw [if_pos (by simp; omega)]
  simp only [List.getElem?_set]
  rw [if_neg (by omega)]
  rw [if_neg (by omega)]
  rw [if_neg (by omega)]
  rw [if_neg (by omega)]
  rw [List.getElem?_take, if_pos h1]
 ·rw [if_neg (by simp; omega), List.length_take, Nat.min_eq_left (by omega)]
  simp only [List.getElem?_set, List.length_set]
  by_cases h2 : t < (m + 1) * 4
  ·rw [List.getElem?_append_left (by simp; omega)]
   have : t = m * 4 ∨ t = m * 4 + 1 ∨ t = m * 4 + 2 ∨ t = m * 4 + 3 := by omega
   rcases this with rfl | rfl | rfl | rfl
   ·rw [if_neg (by omega), if_neg (by omega), if_neg (by omega), if_pos (by omega), if_pos (by omega)]
    rw [show m * 4 - m * 4 = 0 by omega]
    rfl
   ·rw [if_neg (by omega), if_neg (by omega), if_pos (by omega), if_pos (by omega)]
    rw [show m * 4 + 1 - m * 4 = 1 by omega]
    rfl
   ·rw [if_neg (by omega), if_pos (by omega), if_pos (by omega)]
    rw [show m * 4 + 2 - m * 4 = 2 by omega]
    rfl
   ·rw [if_pos (by omega), if_pos (by omega)]
    rw [show m * 4 + 3 - m * 4 = 3 by omega]
    rfl
  ·rw [List.getElem?_append_right (by simp; omega)]
   rw [if_neg (by omega)]
   rw [if_neg (by omega)]
   rw [if_neg (by omega)]
   rw [if_neg (by omega)]
   rw [List.getElem?_drop]
   congr 1
   simp only [List.length_cons, List.length_nil]
   omega
set_option maxHeartbeats 1600000 in
set_option maxRecDepth 100000 in
theorem deleteFuncC_any (F : Nat) (capt : Array Value) (p : Nat → Bool) (base g n cap : Nat) (cs : List Value) (w : World) (h : w.ownsRow base 78 4 (.slice (some ⟨g, 0, none⟩) n cap) n cs) (hm : n ≤ 1000000) (h1 : ∀ u ∈ cs, u.oneCell' = true)
  (hF : ∀ args W, (callFunc F args).run Tryz.prog W = .ok (.enter F args) W)
  (hf : ∀ j, j < n → ∀ W, w.grownBy W (some g) → Calls Tryz.prog F (#[.agg #[cs.getD (j * 4) undef, cs.getD (j * 4 + 1) undef, cs.getD (j * 4 + 2) undef, cs.getD (j * 4 + 3) undef]] ++ capt) W fun e W' => e = .returned (.bool (p j)) ∧ Below W.heap.size W W') :
  Calls Tryz.prog 144 #[.slice (some ⟨g, 0, none⟩) n cap, .func (.func F) #[] capt] w fun e w' => e = .returned (.slice (some ⟨g, 0, none⟩) (cntK p n) cap) ∧ w'.ownsRow base 78 4 (.slice (some ⟨g, 0, none⟩) (cntK p n) cap) (cntK p n) (keepK 4 cs p n) ∧ w.grownBy w' (some g) := by
 have hcl := h.1
 obtain ⟨cur0, hblk0, hbase, hnc, hcm, hcl0, hct0⟩ := owns_blk h
 have hcap63 : cap ≤ 9223372036854775807 := by unfold maxLen at hcm; exact hcm
 have HIX := Lib.hid (indexFuncC_any F capt p (some ⟨g, 0, none⟩) n cap cs w (rsl_of_owns h) (by omega) hF (fun j hj W hW => hf j hj W (grown_of_below hW)))
 have H1 := Lib.hid h1
 have HF := Lib.hid hf
 have HH := Lib.hid h
 have HB0 := Lib.hid hblk0
 have HCL := Lib.hid hcl
 have HCL0 := Lib.hid hcl0
 have HCT0 := Lib.hid hct0
 have HCM := Lib.hid hcm
 clear hf h h1 hblk0 hcl hcl0 hct0 hcm
 rcases firstIdx_cases p n with ⟨hno, hfi⟩ | ⟨i0, hi0, hpi0, hno0, hfi⟩
 ·rw [hfi] at HIX
  obtain ⟨ha, hb⟩ := keepK_all (K := 4) (cs := cs) n (by rw [HCL.out]; omega) hno
  rw [ha, hb, show n * 4 = cs.length from HCL.out.symm, List.take_length]
  clear ha hb hfi hno
  go_enter Tryz.func144, Tryz.ntmps144
  go_wp2_with fail
  refine HIX.out.mono ?_
  rintro e w1 ⟨rfl, hb1⟩
  go_wp2_with fail
  go_ret
  exact ⟨rfl, owns_below HH.out hb1, grown_of_below hb1⟩
 ·rw [hfi] at HIX
  have hne : ((i0 : Int) == -1) = false := by simp
  have hcnt0 : cntK p (i0 + 1) = i0 := by rw [cntK_yes hpi0, (keepK_all (K := 4) (cs := cs) i0 (by rw [HCL.out]; omega) hno0).2]
  have hkeep0 : keepK 4 cs p (i0 + 1) = cs.take (i0 * 4) := by rw [keepK_yes hpi0, (keepK_all (K := 4) (cs := cs) i0 (by rw [HCL.out]; omega) hno0).1]
  have HCN := Lib.hid hcnt0
  have HKE := Lib.hid hkeep0
  clear hfi hno0 hpi0 hcnt0 hkeep0
  go_enter Tryz.func144, Tryz.ntmps144
  go_wp2_with fail
  refine HIX.out.mono ?_
  rintro e w1 ⟨rfl, hb1⟩
  have HB1 := Lib.hid hb1
  clear hb1
  go_wp2_with fail
  go_loopw [5, 6] (fun iv jv wr => ∃ (k : Nat) (cur : List Value), k ≤ n ∧ i0 < k ∧ jv = .int .i64 k ∧ iv = .int .i64 (cntK p k) ∧ cntK p k < k ∧ Hid (Blk wr g 78 cur) ∧ Hid (cur.length = cap * 4) ∧ Hid (cur.take (cntK p k * 4) = keepK 4 cs p k ∧ ∀ t, k * 4 ≤ t ∧ t < n * 4 → cur[t]? = cs[t]?) ∧ Hid (w.grownBy wr (some g))) (fun _ jv _ => n - (intOf jv).toNat)
  case atStart =>
   refine ⟨i0 + 1, cur0, by omega, by omega, by go_num, by rw [HCN.out], by rw [HCN.out]; omega, Lib.hid (HB0.out.below HB1.out), HCL0, Lib.hid ⟨?_, fun t ht => ?_⟩, Lib.hid (grown_of_below HB1.out)⟩
   ·rw [HCN.out, HKE.out, ← HCT0.out, List.take_take, Nat.min_eq_left (by omega)]
   ·rw [← HCT0.out, List.getElem?_take, if_pos ht.2]
  case round =>
   obtain ⟨k, cur, hk, hki, rfl, rfl, hck, hblk', hcur, HC, hgr⟩ := hrel
   have hcurl := hcur.out
   by_cases hkn : k < n
   ·obtain ⟨m, hm⟩ : ∃ m, m = cntK p k := ⟨_, rfl⟩
    rw [← hm] at hck ⊢
    have HM := Lib.hid hm
    clear hm
    have hcsl := HCL.out
    have hblk := hblk'.out
    obtain ⟨v0, hv0⟩ : ∃ v, v = cs.getD (k * 4) undef := ⟨_, rfl⟩
    have c0 : wr.cell? ⟨g, k * 4, none⟩ = some v0 := by rw [hblk.cell, HC.out.2 _ (by omega), getD_some _ _ (by omega), hv0]
    have s0 : ∀ W a, (store a v0).run Tryz.prog W = stored Tryz.prog W a v0 .plain := fun W a => run_store Tryz.prog W a v0 .plain (by rw [hv0]; exact H1.out _ (getD_mem (by omega)))
    have V0 := Lib.hid hv0
    obtain ⟨v1, hv1⟩ : ∃ v, v = cs.getD (k * 4 + 1) undef := ⟨_, rfl⟩
    have c1 : wr.cell? ⟨g, k * 4 + 1, none⟩ = some v1 := by rw [hblk.cell, HC.out.2 _ (by omega), getD_some _ _ (by omega), hv1]
    have s1 : ∀ W a, (store a v1).run Tryz.prog W = stored Tryz.prog W a v1 .plain := fun W a => run_store Tryz.prog W a v1 .plain (by rw [hv1]; exact H1.out _ (getD_mem (by omega)))
    have V1 := Lib.hid hv1
    obtain ⟨v2, hv2⟩ : ∃ v, v = cs.getD (k * 4 + 2) undef := ⟨_, rfl⟩
    have c2 : wr.cell? ⟨g, k * 4 + 2, none⟩ = some v2 := by rw [hblk.cell, HC.out.2 _ (by omega), getD_some _ _ (by omega), hv2]
    have s2 : ∀ W a, (store a v2).run Tryz.prog W = stored Tryz.prog W a v2 .plain := fun W a => run_store Tryz.prog W a v2 .plain (by rw [hv2]; exact H1.out _ (getD_mem (by omega)))
    have V2 := Lib.hid hv2
    obtain ⟨v3, hv3⟩ : ∃ v, v = cs.getD (k * 4 + 3) undef := ⟨_, rfl⟩
    have c3 : wr.cell? ⟨g, k * 4 + 3, none⟩ = some v3 := by rw [hblk.cell, HC.out.2 _ (by omega), getD_some _ _ (by omega), hv3]
    have s3 : ∀ W a, (store a v3).run Tryz.prog W = stored Tryz.prog W a v3 .plain := fun W a => run_store Tryz.prog W a v3 .plain (by rw [hv3]; exact H1.out _ (getD_mem (by omega)))
    have V3 := Lib.hid hv3
    have hgl := hblk.lt
    clear hblk
    have hgr2 : w.grownBy (wr.alloc (.cells #[v0, v1, v2, v3] 78)) (some g) := grown_trans hgr.out (World.grownBy_alloc _ _ _)
    have hcal := HF.out k hkn _ hgr2
    rw [← hv0, ← hv1, ← hv2, ← hv3] at hcal
    have HCAL := Lib.hid hcal
    clear hcal hv0 hv1 hv2 hv3
    have hbn : Blk (wr.alloc (.cells #[v0, v1, v2, v3] 78)) wr.heap.size 78 [v0, v1, v2, v3] := Blk.new _ _ _
    have HBN := Lib.hid hbn
    have HG2 := Lib.hid hgr2
    clear hgr2 hbn hcsl
    rcases hp : p k with _ | _
    ·rw [hp] at HCAL
     have HP := Lib.hid hp
     clear hp
     go_wp2_with fail
     refine HCAL.out.mono ?_
     rintro e w1 ⟨rfl, hbl⟩
     have hbx := HBN.out.below hbl
     have b0 : w1.cell? ⟨wr.heap.size, 0, none⟩ = some v0 := hbx.cell 0
     have b1 : w1.cell? ⟨wr.heap.size, 1, none⟩ = some v1 := hbx.cell 1
     have b2 : w1.cell? ⟨wr.heap.size, 2, none⟩ = some v2 := hbx.cell 2
     have b3 : w1.cell? ⟨wr.heap.size, 3, none⟩ = some v3 := hbx.cell 3
     have hb1 : Hid (Blk w1 g 78 cur) := Lib.hid ((hblk'.out.alloc _).below hbl)
     clear hbx
     obtain ⟨x0, hx0⟩ : ∃ x, x = cur.getD (m * 4) undef := ⟨_, rfl⟩
     have e0 : w1.cell? ⟨g, m * 4, none⟩ = some x0 := by rw [hb1.out.cell, getD_some _ _ (by omega), hx0]
     have f0 := hb1.out.frozen (m * 4)
     clear hx0
     obtain ⟨x1, hx1⟩ : ∃ x, x = cur.getD (m * 4 + 1) undef := ⟨_, rfl⟩
     have e1 : w1.cell? ⟨g, m * 4 + 1, none⟩ = some x1 := by rw [hb1.out.cell, getD_some _ _ (by omega), hx1]
     have f1 := hb1.out.frozen (m * 4 + 1)
     clear hx1
     obtain ⟨x2, hx2⟩ : ∃ x, x = cur.getD (m * 4 + 2) undef := ⟨_, rfl⟩
     have e2 : w1.cell? ⟨g, m * 4 + 2, none⟩ = some x2 := by rw [hb1.out.cell, getD_some _ _ (by omega), hx2]
     have f2 := hb1.out.frozen (m * 4 + 2)
     clear hx2
     obtain ⟨x3, hx3⟩ : ∃ x, x = cur.getD (m * 4 + 3) undef := ⟨_, rfl⟩
     have e3 : w1.cell? ⟨g, m * 4 + 3, none⟩ = some x3 := by rw [hb1.out.cell, getD_some _ _ (by omega), hx3]
     have f3 := hb1.out.frozen (m * 4 + 3)
     clear hx3
     have hgr2 : w.grownBy w1 (some g) := grown_trans HG2.out (grown_of_below hbl)
     have HG3 := Lib.hid hgr2
     have hne1 : g ≠ wr.heap.size := by omega
     clear hgr2 hbl
     go_wp2_with fail
     go_roundw
     case rel =>
      have hcr := HC.out
      rw [← HM.out] at hcr
      have hl3 : (m + 1) * 4 ≤ cur.length := by omega
      have hsr := set_rowC cur m v0 v1 v2 v3 hl3
      have hbk := ((((hb1.out.setCell (m * 4) v0).setCell (m * 4 + 1) v1).setCell (m * 4 + 2) v2).setCell (m * 4 + 3) v3)
      rw [hsr] at hbk
      refine ⟨k + 1, _, by omega, by omega, by go_num, by rw [cntK_no HP.out, ← HM.out]; go_num, by rw [cntK_no HP.out, ← HM.out]; omega, Lib.hid hbk, Lib.hid ?_, Lib.hid ⟨?_, fun t ht => ?_⟩, Lib.hid ?_⟩
      ·simp only [List.length_append, List.length_take, List.length_drop, List.length_cons, List.length_nil]; omega
      ·rw [cntK_no HP.out, ← HM.out, keepK_no HP.out, ← hcr.1, elem_rowC cs k (by rw [HCL.out]; omega), V0.out.symm, V1.out.symm, V2.out.symm, V3.out.symm]
       have hl4 : (cur.take (m * 4) ++ [v0, v1, v2, v3]).length = (m + 1) * 4 := by simp only [List.length_append, List.length_take, List.length_cons, List.length_nil]; omega
       rw [← hl4]
       exact List.take_left
      ·rw [List.getElem?_append_right (by simp only [List.length_append, List.length_take, List.length_cons, List.length_nil]; omega), List.getElem?_drop, ← hcr.2 t (by omega)]
       congr 1
       simp only [List.length_append, List.length_take, List.length_cons, List.length_nil]
       omega
      ·exact (grown_setCell (grown_setCell (grown_setCell (grown_setCell HG3.out))))
     case measure => simp [intOf]; omega
    ·rw [hp] at HCAL
     have HP := Lib.hid hp
     clear hp
     go_wp2_with fail
     refine HCAL.out.mono ?_
     rintro e w1 ⟨rfl, hbl⟩
     have HBL := Lib.hid hbl
     clear hbl
     go_wp2_with fail
     go_roundw
     case rel =>
      have hcr := HC.out
      rw [← HM.out] at hcr
      refine ⟨k + 1, cur, by omega, by omega, by go_num, by rw [cntK_yes HP.out, ← HM.out], by rw [cntK_yes HP.out, ← HM.out]; omega, Lib.hid ((hblk'.out.alloc _).below HBL.out), hcur, Lib.hid ⟨?_, fun t ht => hcr.2 t (by omega)⟩, Lib.hid (grown_trans HG2.out (grown_of_below HBL.out))⟩
      rw [cntK_yes HP.out, ← HM.out, keepK_yes HP.out]
      exact hcr.1
     case measure => simp [intOf]; omega
   ·have hkn' : k = n := by omega
    subst hkn'
    obtain ⟨m, hm⟩ : ∃ m, m = cntK p k := ⟨_, rfl⟩
    rw [← hm] at hck ⊢
    have hcr := HC.out
    rw [← hm] at hcr
    have hclr : ∀ ty, (Builtin.clear_ #[73] ty #[.slice (some ⟨g, m * 4, none⟩) (k - m) (cap - m)]).run Tryz.prog wr = .ok (.tuple #[]) (wr.setCells g (m * 4) (Builtin.zeroCells (.agg #[.int .i64 0, .int .i64 0, .bool false, .int .i64 0] : Value).cells (k - m)).toList) :=
     fun ty => run_clear_rows wr _ _ ty _ Tryz.underlying73 zeroC 4 rfl (by decide) (by decide) g _ _ _ (by omega) (fun t ht => by rw [hblk'.out.cell, List.getElem?_eq_getElem (by omega)]; rfl) (fun t ht => hblk'.out.frozen _)
    have hne2 : ¬ cap = m := by omega
    have hmc : m ≤ cap := by omega
    have hmk : m ≤ k := by omega
    have hi1 : (0 : Int) ≤ (m : Int) := by omega
    have hi2 : (m : Int) ≤ (k : Int) := by omega
    have hi3 : (m : Int) ≤ (cap : Int) := by omega
    have HCR := Lib.hid hcr
    have HM0 := Lib.hid hm
    clear hcr hm
    go_wp2
    go_ret
    have hzl : (Builtin.zeroCells (.agg #[.int .i64 0, .int .i64 0, .bool false, .int .i64 0] : Value).cells (k - m)).toList.length = (k - m) * 4 := by rw [Array.length_toList, size_zeroCells]; rfl
    have h2 := hblk'.out.setCells (Builtin.zeroCells (.agg #[.int .i64 0, .int .i64 0, .bool false, .int .i64 0] : Value).cells (k - m)).toList (m * 4) (by rw [hzl]; omega)
    have h3 := blk_owns (base := base) (n := m) (cap := cap) (size := 4) h2 hbase hmc HCM.out (by simp only [List.length_append, List.length_take, List.length_drop, hzl]; omega)
    have h4 : (cur.take (m * 4)).length = m * 4 := by rw [List.length_take]; omega
    rw [List.append_assoc] at h3
    have h5 : (cur.take (m * 4) ++ ((Builtin.zeroCells (.agg #[.int .i64 0, .int .i64 0, .bool false, .int .i64 0] : Value).cells (k - m)).toList ++ cur.drop (m * 4 + (Builtin.zeroCells (.agg #[.int .i64 0, .int .i64 0, .bool false, .int .i64 0] : Value).cells (k - m)).toList.length))).take (m * 4) = cur.take (m * 4) := by
     conv => lhs; arg 1; rw [← h4]
     exact List.take_left
    rw [h5, HCR.out.1] at h3
    rw [← HM0.out]
    exact ⟨rfl, h3, grown_trans hgr.out (setCells_grown _ _ _ _)⟩
theorem par1_any (c : ColT) (w : World) : Calls Tryz.prog 146 #[.agg (encC1 c).toArray] w fun e w' => e = .returned (.bool c.2.2.1) ∧ Below w.heap.size w w' := by
 obtain ⟨c0, c1, cp, cr⟩ := c
 have hb := Blk.new w 78 (encC1 (c0, c1, cp, cr))
 have e2 : (w.alloc (.cells (encC1 (c0, c1, cp, cr)).toArray 78)).cell? ⟨w.heap.size, 2, none⟩ = some (.bool cp) := hb.cell 2
 have hfin : Below w.heap.size w (w.alloc (.cells (encC1 (c0, c1, cp, cr)).toArray 78)) := (Below.refl _ _).alloc (Nat.le_refl _) _
 clear hb
 go_enter Tryz.func146, Tryz.ntmps146
 go_wp2_with fail
 go_ret
 exact ⟨rfl, hfin⟩
end Go.Proofs.YtfaemcfjbbbbdaaGreat
namespace Go.Proofs.YtfaemcfjbbbbdaaGreat
open Go.RowKit
theorem rowsIn_wide {n : Nat} {P : Program} {row : String} {args : Array Value} {w : World} {R : Value → World → Prop} (h : Rows P row args w R) : RowsIn Fence.wide n P row args w R :=
 fun c cs _ => let ⟨v, w', hr, hs⟩ := h c cs; ⟨v, w', hr, stepsIn_wide.2 hs⟩
theorem wpIn_of_wp {n : Nat} {P : Program} {o : Oper} {a : Act} {w : World} {K : Act → World → Prop} {Q : Exit → Act → World → Prop} (h : o.wp P a w K Q) : o.wpIn Fence.wide n P a w K Q := by
 refine ⟨fun _ _ => trivial, ?_⟩
 unfold Oper.wp at h
 have e : o.semAt Fence.wide.round a.eval = execOp a.eval o := Oper.semAt_none _ _
 rw [e]
 generalize (execOp a.eval o).run P w = r at h ⊢
 cases r with
 | ok x w' =>
  cases x with
  | value v => exact h
  | skip => exact h
  | defer d => exact h
  | enter f args => exact ⟨fun h2 => Bool.noConfusion h2, callsIn_wide.2 h⟩
  | row row args => exact ⟨fun h2 => Bool.noConfusion h2, rowsIn_wide h⟩
  | _ => exact h.elim
 | halt x w' =>
  cases x with
  | panic v => exact h
  | _ => exact h.elim
structure KpO (own : Nat → Prop) (W W' : World) : Prop where
 size : W.heap.size ≤ W'.heap.size
 same : ∀ k cs e fr, W.heap[k]? = some (.cells cs e fr) → ¬ own k → W'.heap[k]? = some (.cells cs e fr)
theorem KpO.trans {own : Nat → Prop} {A B C : World} (h : KpO own A B) (k : KpO own B C) : KpO own A C := ⟨Nat.le_trans h.size k.size, fun i cs e fr hi ho => k.same i cs e fr (h.same i cs e fr hi ho) ho⟩
theorem KpO.putObj {own : Nat → Prop} (W : World) (l : Nat) (o o' : Obj) (h : W.heap[l]? = some o) (ho : o.isCells = false) : KpO own W (W.putObj l o') := by
 refine ⟨(grownBy_putObj' W l o').size, fun k cs e fr hk _ => ?_⟩
 rw [(grownBy_putObj' W l o').block k (Array.getElem?_eq_some_iff.1 hk).1 (fun e2 => ?_)]
 ·exact hk
 ·have := Option.some.inj e2
  subst this
  rw [h] at hk
  have := Option.some.inj hk
  subst this
  cases ho
theorem KpO.of_below {own : Nat → Prop} {W W' : World} (h : Below W.heap.size W W') : KpO own W W' := ⟨h.size, fun k cs e fr hk _ => by rw [h.block k (Array.getElem?_eq_some_iff.1 hk).1]; exact hk⟩
theorem Blk.kp {own : Nat → Prop} {W W' : World} {g e : Nat} {cs : List Value} (h : Blk W g e cs) (k : KpO own W W') (ho : ¬ own g) : Blk W' g e cs := k.same g _ _ _ h ho
theorem row_kp {own : Nat → Prop} {W W' : World} {base e size n : Nat} {v : Value} {xs : List Value} (h : W.ownsRow base e size v n xs) (k : KpO own W W') (ho : ∀ g, v.ownBlock = some g → ¬ own g) : W'.ownsRow base e size v n xs := by
 refine ⟨h.1, ?_⟩
 rcases h.2 with h2 | ⟨g, cap, cur, rfl, h3, h4, h5⟩
 ·exact .inl h2
 ·exact .inr ⟨g, cap, cur, rfl, h3, k.same g _ _ _ h4 (ho g rfl), h5⟩
end Go.Proofs.YtfaemcfjbbbbdaaGreat
namespace Go.Proofs.YtfaemcfjbbbbdaaGreat
open Go.RowKit
theorem RSl.kp {own : Nat → Prop} {w w' : World} {k n cap : Nat} {ao : Option Addr} {cs : List Value} (h : RSl w k ao n cap cs) (hk : KpO own w w') (ho : ∀ b o, ao = some ⟨b, o, none⟩ → ¬ own b) : RSl w' k ao n cap cs := by
 obtain ⟨h1, h2, h3, h4, h5⟩ := h
 refine ⟨h1, h2, h3, h4, fun hn => ?_⟩
 obtain ⟨b, off, e, hb, hc⟩ := h5 hn
 refine ⟨b, off, e, Nat.lt_of_lt_of_le hb hk.size, fun j hj => ?_⟩
 have h0 := hc j hj
 obtain ⟨v, hv⟩ : ∃ v, cs[j]? = some v := ⟨_, List.getElem?_eq_getElem (by omega)⟩
 rw [hv] at h0 ⊢
 have hs : ∃ cu el fr, w.heap[b]? = some (.cells cu el fr) := by
  unfold World.cell? at h0
  dsimp only at h0
  split at h0
  ·exact ⟨_, _, _, by assumption⟩
  ·cases h0
 obtain ⟨cu, el, fr, hs⟩ := hs
 rw [World.cell?_of_block (w := w) ((hk.same b cu el fr hs (ho b off e)).trans hs.symm), h0]
theorem ssl_part {w : World} {gb n gc i size : Nat} {got : List Bs} (h : SSl w (some ⟨gb, 0, none⟩) n gc (bts got)) (hl : got.length = n) (h1 : i + size ≤ n) : SSl w (some ⟨gb, i, none⟩) size (gc - i) (bts ((got.drop i).take size)) := by
 obtain ⟨a1, a2, a3, a4, a5⟩ := h
 refine ⟨by simp [encS, bts]; omega, by omega, by omega, fun e => (by cases e), fun hn => ?_⟩
 obtain ⟨b, off, e, hb, hc⟩ := a5 (by omega)
 simp only [Option.some.injEq, Addr.mk.injEq, and_true] at e
 obtain ⟨rfl, rfl⟩ := e
 refine ⟨gb, i, rfl, hb, fun j hj => ?_⟩
 have := hc (i + j) (by omega)
 rw [Nat.zero_add] at this
 rw [this]
 have hj2 : j < size := by omega
 simp [encS, bts, List.getElem?_take, hj2]
theorem run_part {n gc i size : Nat} (gb : Nat) (hs : 0 < size) (h1 : i + size ≤ n) (h2 : n ≤ gc) (h3 : gc ≤ maxLen) (W : World) : (Instr.slice 59 (.slice (some ⟨gb, 0, none⟩) n gc) (some (.int .i64 (i : Nat))) (some (.int .i64 ((i : Int) + (size : Int)))) none).run Tryz.prog W = .ok (.slice (some ⟨gb, i, none⟩) size (gc - i)) W := by
 have hu : Tryz.prog.underlying 59 = some (.slice (Tryz.prog.elem 59)) := by kernel_rfl
 have hz : (sizeOf (Tryz.prog.elem 59)).run Tryz.prog W = .ok 1 W := by kernel_rfl
 rw [run_slice_lh (P := Tryz.prog) (w := W) (t := 59) (a := some ⟨gb, 0, none⟩) (len := n) (cap := gc) (ht := hu) (kl := .i64) (kh := .i64) (l := (i : Int)) (h := (i : Int) + (size : Int)) (h0 := by omega) (h1 := by omega) (h2 := by omega), hz]
 show Result.ok (sliced _ _ _ _ _) W = _
 unfold sliced
 rw [show ((i : Int) + (size : Int)).toNat = i + size by omega]
 simp only [Int.toNat_natCast]
 rw [if_neg (by omega), show i + size - i = size by omega]
 simp only [Option.map_some, Addr.add, Nat.mul_one, Nat.zero_add]
 by_cases hi0 : i = 0
 ·rw [if_pos hi0, hi0]
 ·rw [if_neg hi0]
def mirTo (l : List ColT) (size : Nat) (got : List Bs) (k : Nat) : List (Int × Bs) :=
 (List.range k).filterMap fun k => if [] ∈ (got.drop (k * size)).take size then none else some ((((l.getD (k * size) cD).1 : Nat) : Int), ((got.drop (k * size)).take size).flatten)
theorem mirTo_succ (l : List ColT) (size : Nat) (got : List Bs) (k : Nat) : mirTo l size got (k + 1) = mirTo l size got k ++ (if [] ∈ (got.drop (k * size)).take size then [] else [((((l.getD (k * size) cD).1 : Nat) : Int), ((got.drop (k * size)).take size).flatten)]) := by
 unfold mirTo
 rw [List.range_succ, List.filterMap_append]
 congr 1
 by_cases h : [] ∈ (got.drop (k * size)).take size
 ·simp [h]
 ·simp [h]
theorem mirTo_len (l : List ColT) (size : Nat) (got : List Bs) (k : Nat) : (mirTo l size got k).length ≤ k := by
 have := List.length_filterMap_le (fun k => if [] ∈ (got.drop (k * size)).take size then none else some ((((l.getD (k * size) cD).1 : Nat) : Int), ((got.drop (k * size)).take size).flatten)) (List.range k)
 rw [List.length_range] at this
 exact this
theorem mirTo_pre (l : List ColT) (size : Nat) (got : List Bs) {k m : Nat} (h : k ≤ m) : mirTo l size got k <+: mirTo l size got m := by
 induction m with
 | zero => rw [show k = 0 by omega]; exact List.prefix_refl _
 | succ m ih =>
  by_cases e : k = m + 1
  ·rw [e]; exact List.prefix_refl _
  ·rw [mirTo_succ]
   exact (ih (by omega)).trans (List.prefix_append _ _)
theorem flat_small : ∀ {l : List Bs}, (∀ s ∈ l, s.length ≤ 64) → l.flatten.length ≤ 64 * l.length
 | [], _ => by simp
 | a :: r, h => by
  have h1 := flat_small (fun s hs => h s (List.mem_cons_of_mem _ hs)) (l := r)
  have h2 := h a (List.mem_cons_self ..)
  simp only [List.flatten_cons, List.length_append, List.length_cons]
  omega
theorem join_nil : ∀ l : List (List UInt8), Lib.join l [] = l.flatten
 | [] => rfl
 | [a] => by simp [Lib.join]
 | a :: b :: r => by
  have h1 := join_nil (b :: r)
  unfold Lib.join List.intercalate at h1 ⊢
  rw [List.flatten_cons, ← h1]
  rfl
theorem join_any (gb o c n : Nat) (l : List Bs) (w : World) (h : SSl w (some ⟨gb, o, none⟩) n c (bts l)) (hn : 0 < n) (hm : n ≤ 1000000) (hl : ∀ s ∈ l, s.length ≤ 64) :
  Calls Tryz.prog 143 #[.slice (some ⟨gb, o, none⟩) n c, .string ⟨#[]⟩] w fun e w' => e = .returned (.string ⟨l.flatten.toArray⟩) ∧ Below w.heap.size w w' := by
 have hlen : l.length = n := by have := h.1; simpa [encS, bts] using this
 obtain ⟨_, h2, h3, _, h5⟩ := h
 obtain ⟨b, off, e, hb, hc⟩ := h5 hn
 simp only [Option.some.injEq, Addr.mk.injEq, and_true] at e
 obtain ⟨rfl, rfl⟩ := e
 have hx : (bts l).map (·.data.toList) = l := by unfold bts; rw [List.map_map]; exact (List.map_congr_left (fun s _ => by simp)).trans (List.map_id _)
 have hsum : ∀ l : List Bs, (∀ s ∈ l, s.length ≤ 64) → l.flatten.length ≤ 64 * l.length := by
  intro l
  induction l with
  | nil => intro _; simp
  | cons a r ih =>
   intro h
   have h1 := h a (by simp)
   have h2 := ih (fun s hs => h s (by simp [hs]))
   rw [List.flatten_cons, List.length_append, List.length_cons]
   omega
 have hf := hsum l hl
 have hJ := Tryz.strings_Join gb o c (bts l) ⟨#[]⟩ w (fun j x hx => by
  have hj : j < n := by
   by_cases hj : j < n
   ·exact hj
   ·rw [List.getElem?_eq_none (by simp [bts]; omega)] at hx; cases hx
  rw [hc j (by omega)]
  simp only [encS, List.getElem?_map, hx, Option.map_some]) hb (by simp [bts]; omega) (by simp [bts]; omega) (by rw [hx]; show (Lib.join l []).length ≤ _; rw [join_nil]; omega)
 rw [hx] at hJ
 have e1 : (bts l).length = n := by simp [bts, hlen]
 rw [e1] at hJ
 refine hJ.mono ?_
 rintro e w' ⟨rfl, hb'⟩
 exact ⟨by show Ending.returned (.string ⟨(Lib.join l []).toArray⟩) = _; rw [join_nil], hb'⟩
def encTr (x : Int × Bs) : Array Value := #[.int .i64 x.1, .string ⟨x.2.toArray⟩]
set_option maxRecDepth 100000 in
set_option maxHeartbeats 2000000 in
theorem cmirror_any (own : Nat → Prop) (gl lc : Nat) (l : List ColT) (gb gc : Nat) (got : List Bs) (size m nn lp : Nat) (J Jx : List (Int × Bs) → World → Prop) (W : World)
  (hl : RSl W 4 (some ⟨gl, 0, none⟩) l.length lc (encC l)) (hg : SSl W (some ⟨gb, 0, none⟩) got.length gc (bts got)) (hgl : got.length = l.length) (hn : l.length ≤ 32) (hs : 0 < size) (hd : l.length = m * size) (hsm : ∀ s ∈ got, s.length ≤ 64)
  (ho : ¬ own gl ∧ ¬ own gb) (hJ : AbidesFrom W.heap.size J)
  (hY : ∀ pre x W1, J pre W1 → pre.length < 1000 → x.2.length ≤ 2048 → YieldAt Fence.wide nn Tryz.prog lp (encTr x) W1 fun e W' => (e = .returned (.bool true) ∧ J (pre ++ [x]) W' ∧ KpO own W1 W') ∨ (e = .returned (.bool false) ∧ Jx (pre ++ [x]) W')) (h0 : J [] W) :
  Calls Tryz.prog 129 #[.slice (some ⟨gl, 0, none⟩) l.length lc, .int .i64 (size : Nat), .slice (some ⟨gb, 0, none⟩) got.length gc, .func (.yield lp) #[] #[]] W fun e W' => (∃ v, e = .returned v) ∧ ((∃ ys, ys = mirTo l size got m ∧ J ys W') ∨ (∃ pre, pre <+: mirTo l size got m ∧ Jx pre W')) := by
 have HLR : Hid (∀ W', KpO own W W' → RSl W' 4 (some ⟨gl, 0, none⟩) l.length lc (encC l)) := Lib.hid (fun W' hW => hl.kp hW (fun b o e => by simp only [Option.some.injEq, Addr.mk.injEq, and_true] at e; obtain ⟨rfl, _⟩ := e; exact ho.1))
 have HGR : Hid (∀ W', KpO own W W' → SSl W' (some ⟨gb, 0, none⟩) got.length gc (bts got)) := Lib.hid (fun W' hW => RSl.kp hg hW (fun b o e => by simp only [Option.some.injEq, Addr.mk.injEq, and_true] at e; obtain ⟨rfl, _⟩ := e; exact ho.2))
 have hgc := hg.2.1
 have hgm : gc ≤ maxLen := hg.2.2.1
 have HJ := Lib.hid hJ
 have HYY := Lib.hid hY
 have HGL := Lib.hid hgl
 have HSM := Lib.hid hsm
 have HJ0 : Hid (J (mirTo l size got 0) W) := Lib.hid h0
 have HD := Lib.hid hd
 obtain ⟨n, hnn⟩ : ∃ n, n = got.length := ⟨_, rfl⟩
 have HNN := Lib.hid hnn
 rw [← hnn] at hgl hgc HGR ⊢
 subst hgl
 have hsl : size ≤ l.length ∨ m = 0 := by
  cases m with
  | zero => exact .inr rfl
  | succ m => left; rw [hd, Nat.succ_mul]; omega
 have hsz : size ≤ 1000000 ∨ m = 0 := by omega
 clear hl hg hsm hJ hY h0 hd hnn
 go_enter Tryz.func129, Tryz.ntmps129
 go_wp2_with fail
 go_loopw [8] (fun vi wr => ∃ k i : Nat, vi = .int .i64 (i : Nat) ∧ k ≤ m ∧ Hid (i = k * size) ∧ i ≤ l.length ∧ Hid (J (mirTo l size got k) wr) ∧ Hid (KpO own W wr)) (fun vi _ => l.length - (intOf vi).toNat)
 case atStart => exact ⟨0, 0, rfl, Nat.zero_le _, Lib.hid (by simp), Nat.zero_le _, HJ0, Lib.hid (KpO.of_below (Below.refl _ _))⟩
 case round =>
  obtain ⟨k, i, rfl, hk, HI, hil, HJR, HKR⟩ := hrel
  clear HJ0
  by_cases hkm : k < m
  ·have his : i + size ≤ l.length := by
    rw [HI.out, HD.out]
    have := Nat.mul_le_mul_right size (show k + 1 ≤ m by omega)
    rw [Nat.succ_mul] at this
    exact this
   have q1 : (i : Int) < (l.length : Int) := by omega
   have q2 : 0 ≤ (i : Int) := by omega
   have hrun := run_part gb hs his hgc hgm
   obtain ⟨P, hP⟩ : ∃ P, P = (got.drop i).take size := ⟨_, rfl⟩
   have hPl : P.length = size := by rw [hP, List.length_take, List.length_drop, ← HNN.out]; omega
   have hPs : ∀ s ∈ P, s.length ≤ 64 := fun s hs => HSM.out s (List.mem_of_mem_drop (List.mem_of_mem_take (hP ▸ hs)))
   have HFS : Hid (P.flatten.length ≤ 2048) := Lib.hid (by have := flat_small hPs; omega)
   have HSP : Hid (∀ q : BW wr, SSl q.w (some ⟨gb, i, none⟩) size (gc - i) (bts P)) := Lib.hid (fun q => by
    rw [hP]; exact ssl_part (HGR.out _ (HKR.out.trans (KpO.of_below q.bel))) HNN.out.symm his)
   have HCN : Hid (∀ q : BW wr, Calls Tryz.prog 114 #[.slice (some ⟨gb, i, none⟩) size (gc - i), .string ⟨#[]⟩] q.w fun e w' => e = .returned (.bool (decide ([] ∈ P))) ∧ Below q.w.heap.size q.w w') := Lib.hid (fun q => containsE_any _ _ _ P q.w (HSP.out q) (by omega))
   have HJN : Hid (∀ q : BW wr, Calls Tryz.prog 143 #[.slice (some ⟨gb, i, none⟩) size (gc - i), .string ⟨#[]⟩] q.w fun e w' => e = .returned (.string ⟨P.flatten.toArray⟩) ∧ Below q.w.heap.size q.w w') := Lib.hid (fun q => join_any gb i (gc - i) size P q.w (HSP.out q) hs (by omega) hPs)
   obtain ⟨c, hc⟩ : ∃ c, c = l.getD i cD := ⟨_, rfl⟩
   have hlt : i < l.length := by omega
   have ld : ∀ q : BW wr, q.w.cell? ⟨gl, i * 4, none⟩ = some (.int .i64 (c.1 : Nat)) := fun q => by
    have h1 := colD_cells (HLR.out _ (HKR.out.trans (KpO.of_below q.bel))) hlt
    rw [Nat.zero_add, ← hc] at h1
    exact h1 0 _ rfl
   have HST : Hid (mirTo l size got (k + 1) = mirTo l size got k ++ (if [] ∈ P then [] else [(((c.1 : Nat) : Int), P.flatten)])) := Lib.hid (by rw [mirTo_succ, ← HI.out, hP, hc])
   have HPR := Lib.hid (mirTo_pre l size got (show k + 1 ≤ m by omega))
   have HJQ : Hid (∀ q : BW wr, J (mirTo l size got k) q.w) := Lib.hid (fun q => HJ.out _ _ _ none HJR.out (grown_of_below q.bel) (fun r e => by cases e))
   have hml : m ≤ 32 := by
    have : m * 1 ≤ m * size := Nat.mul_le_mul_left m (by omega)
    have h2 := HD.out
    omega
   have HY : Hid (∀ q : BW wr, YieldAt Fence.wide nn Tryz.prog lp #[.int .i64 (c.1 : Nat), .string ⟨P.flatten.toArray⟩] q.w fun e W' => (e = .returned (.bool true) ∧ J (mirTo l size got k ++ [(((c.1 : Nat) : Int), P.flatten)]) W' ∧ KpO own q.w W') ∨ (e = .returned (.bool false) ∧ Jx (mirTo l size got k ++ [(((c.1 : Nat) : Int), P.flatten)]) W')) := Lib.hid (fun q => HYY.out _ (((c.1 : Nat) : Int), P.flatten) q.w (HJQ.out q) (by have := mirTo_len l size got k; omega) HFS.out)
   have HI2 : Hid (i + size = (k + 1) * size) := Lib.hid (by rw [HI.out, Nat.succ_mul])
   obtain ⟨cd, hcd⟩ : ∃ cd, cd = c.1 := ⟨_, rfl⟩
   rw [← hcd] at HST HY ld
   have hdr : ∃ q0 : BW wr, wr.drew = q0.w := ⟨⟨wr.drew, (Below.refl _ _).drew⟩, rfl⟩
   obtain ⟨g2, hg2⟩ : ∃ g2, g2 = gc - i := ⟨_, rfl⟩
   rw [← hg2] at HCN HJN hrun
   have q7 : (i : Int) + (size : Int) ≤ 9223372036854775807 := by omega
   have q8 : 0 ≤ (i : Int) + (size : Int) := by omega
   clear hP hPs hPl hc hcd hg2 HSP
   by_cases hin : [] ∈ P
   ·have HD1 : decide ([] ∈ P) = true := decide_eq_true hin
    rw [HD1] at HCN
    rw [if_pos hin, List.append_nil] at HST
    clear HD1
    go_upto_region 4 with fail
    refine (wpIn_wide (n := nn + 1)).1 (wpIn_region_any (by kernel_rfl) ?_)
    change wpAnyIn _ _ _ _ _ _ _ _ _ (World.drew wr)
    obtain ⟨q0, hq0⟩ := hdr
    rw [hq0]
    clear hq0
    refine wpAnyIn_take (i := 0) (oi := ?oia1) (v := ?va1) rfl ?hia1 ?hsa1 ?hfa1 ?hra1 ?hQa1 ⟨Or.inl ⟨by kernel_rfl, ?hya1⟩, ?haba1⟩ ?ha1
    case hia1 => (simp only [List.getElem?_toArray, List.getElem?_cons_succ, List.getElem?_cons_zero]; rfl)
    case hsa1 => kernel_rfl
    case hfa1 => kernel_rfl
    case hra1 => kernel_rfl
    case hya1 => (intro w'; go_simp; try with_reducible rfl)
    case haba1 => exact fun _ => rfl
    case hQa1 => exact fun _ _ _ h => h
    try simp only [Act.put, z1, z2, z3]
    refine wpAnyIn_ready (rs := [1]) (by kernel_rfl) (by simp) ?_
    refine AllReadyIn.cons (o := ?zoar2_1) ?zhar2_1 ?zkar2_1 AllReadyIn.nil
    case zhar2_1 => (simp only [List.getElem?_toArray, List.getElem?_cons_succ, List.getElem?_cons_zero]; rfl)
    intro K hK
    rw [if_pos (by kernel_rfl)]
    refine wpIn_of_wp ?_
    go_simp
    refine (Calls.bw_of (HCN.out _)).mono ?_
    rintro e _ ⟨rfl, aq3, rfl⟩
    refine hK _ _ ?_
    try simp only [Act.put, z1, z2, z3]
    clear hK
    clear K
    refine wpAnyIn_take (i := 2) (oi := ?oia4) (v := ?va4) rfl ?hia4 ?hsa4 ?hfa4 ?hra4 ?hQa4 ⟨Or.inl ⟨by kernel_rfl, ?hya4⟩, ?haba4⟩ ?ha4
    case hia4 => (simp only [List.getElem?_toArray, List.getElem?_cons_succ, List.getElem?_cons_zero]; rfl)
    case hsa4 => kernel_rfl
    case hfa4 => kernel_rfl
    case hra4 => kernel_rfl
    case hya4 => (intro w'; go_simp; try with_reducible rfl)
    case haba4 => exact fun _ => rfl
    case hQa4 => exact fun _ _ _ h => h
    try simp only [Act.put, z1, z2, z3]
    refine wpAnyIn_take (i := 3) (oi := ?oia5) (v := ?va5) rfl ?hia5 ?hsa5 ?hfa5 ?hra5 ?hQa5 ⟨Or.inl ⟨by kernel_rfl, ?hya5⟩, ?haba5⟩ ?ha5
    case hia5 => (simp only [List.getElem?_toArray, List.getElem?_cons_succ, List.getElem?_cons_zero]; rfl)
    case hsa5 => kernel_rfl
    case hfa5 => kernel_rfl
    case hra5 => kernel_rfl
    case hya5 => (intro w'; go_simp; try with_reducible rfl)
    case haba5 => exact fun _ => rfl
    case hQa5 => exact fun _ _ _ h => h
    try simp only [Act.put, z1, z2, z3]
    refine wpAnyIn_take (i := 4) (oi := ?oia6) (v := undef) rfl ?hia6 ?hsa6 ?hfa6 ?hra6 ?hQa6 ⟨Or.inr ⟨by kernel_rfl, rfl⟩, ?haba6⟩ ?ha6
    case hia6 => (simp only [List.getElem?_toArray, List.getElem?_cons_succ, List.getElem?_cons_zero]; rfl)
    case hsa6 => kernel_rfl
    case hfa6 => kernel_rfl
    case hra6 => kernel_rfl
    case haba6 => exact fun _ => rfl
    case hQa6 => exact fun _ _ _ h => h
    try simp only [Act.put, z1, z2, z3]
    refine wpAnyIn_take (i := 5) (oi := ?oia7) (v := undef) rfl ?hia7 ?hsa7 ?hfa7 ?hra7 ?hQa7 ⟨Or.inr ⟨by kernel_rfl, rfl⟩, ?haba7⟩ ?ha7
    case hia7 => (simp only [List.getElem?_toArray, List.getElem?_cons_succ, List.getElem?_cons_zero]; rfl)
    case hsa7 => kernel_rfl
    case hfa7 => kernel_rfl
    case hra7 => kernel_rfl
    case haba7 => exact fun _ => rfl
    case hQa7 => exact fun _ _ _ h => h
    try simp only [Act.put, z1, z2, z3]
    refine wpAnyIn_take (i := 6) (oi := ?oia8) (v := undef) rfl ?hia8 ?hsa8 ?hfa8 ?hra8 ?hQa8 ⟨Or.inr ⟨by kernel_rfl, rfl⟩, ?haba8⟩ ?ha8
    case hia8 => (simp only [List.getElem?_toArray, List.getElem?_cons_succ, List.getElem?_cons_zero]; rfl)
    case hsa8 => kernel_rfl
    case hfa8 => kernel_rfl
    case hra8 => kernel_rfl
    case haba8 => exact fun _ => rfl
    case hQa8 => exact fun _ _ _ h => h
    try simp only [Act.put, z1, z2, z3]
    refine wpAnyIn_take (i := 7) (oi := ?oia9) (v := undef) rfl ?hia9 ?hsa9 ?hfa9 ?hra9 ?hQa9 ⟨Or.inr ⟨by kernel_rfl, rfl⟩, ?haba9⟩ ?ha9
    case hia9 => (simp only [List.getElem?_toArray, List.getElem?_cons_succ, List.getElem?_cons_zero]; rfl)
    case hsa9 => kernel_rfl
    case hfa9 => kernel_rfl
    case hra9 => kernel_rfl
    case haba9 => exact fun _ => rfl
    case hQa9 => exact fun _ _ _ h => h
    try simp only [Act.put, z1, z2, z3]
    refine wpAnyIn_take (i := 8) (oi := ?oia10) (v := undef) rfl ?hia10 ?hsa10 ?hfa10 ?hra10 ?hQa10 ⟨Or.inr ⟨by kernel_rfl, rfl⟩, ?haba10⟩ ?ha10
    case hia10 => (simp only [List.getElem?_toArray, List.getElem?_cons_succ, List.getElem?_cons_zero]; rfl)
    case hsa10 => kernel_rfl
    case hfa10 => kernel_rfl
    case hra10 => kernel_rfl
    case haba10 => exact fun _ => rfl
    case hQa10 => exact fun _ _ _ h => h
    try simp only [Act.put, z1, z2, z3]
    refine wpAnyIn_take (i := 9) (oi := ?oia11) (v := undef) rfl ?hia11 ?hsa11 ?hfa11 ?hra11 ?hQa11 ⟨Or.inr ⟨by kernel_rfl, rfl⟩, ?haba11⟩ ?ha11
    case hia11 => (simp only [List.getElem?_toArray, List.getElem?_cons_succ, List.getElem?_cons_zero]; rfl)
    case hsa11 => kernel_rfl
    case hfa11 => kernel_rfl
    case hra11 => kernel_rfl
    case haba11 => exact fun _ => rfl
    case hQa11 => exact fun _ _ _ h => h
    try simp only [Act.put, z1, z2, z3]
    refine wpAnyIn_take (i := 10) (oi := ?oia12) (v := undef) rfl ?hia12 ?hsa12 ?hfa12 ?hra12 ?hQa12 ⟨Or.inr ⟨by kernel_rfl, rfl⟩, ?haba12⟩ ?ha12
    case hia12 => (simp only [List.getElem?_toArray, List.getElem?_cons_succ, List.getElem?_cons_zero]; rfl)
    case hsa12 => kernel_rfl
    case hfa12 => kernel_rfl
    case hra12 => kernel_rfl
    case haba12 => exact fun _ => rfl
    case hQa12 => exact fun _ _ _ h => h
    try simp only [Act.put, z1, z2, z3]
    refine wpAnyIn_ready (rs := [11]) (by kernel_rfl) (by simp) ?_
    refine AllReadyIn.cons (o := ?zoar13_11) ?zhar13_11 ?zkar13_11 AllReadyIn.nil
    case zhar13_11 => (simp only [List.getElem?_toArray, List.getElem?_cons_succ, List.getElem?_cons_zero]; rfl)
    intro K hK
    rw [if_neg (by rw [show Region.wanted _ _ = false by kernel_rfl]; exact Bool.false_ne_true)]
    refine ⟨fun _ _ => trivial, hK _ _ ?_⟩
    try simp only [Act.put, z1, z2, z3]
    clear hK
    clear K
    refine wpAnyIn_ready (rs := [12]) (by kernel_rfl) (by simp) ?_
    refine AllReadyIn.cons (o := ?zoar14_12) ?zhar14_12 ?zkar14_12 AllReadyIn.nil
    case zhar14_12 => (simp only [List.getElem?_toArray, List.getElem?_cons_succ, List.getElem?_cons_zero]; rfl)
    intro K hK
    rw [if_neg (by rw [show Region.wanted _ _ = false by kernel_rfl]; exact Bool.false_ne_true)]
    refine ⟨fun _ _ => trivial, hK _ _ ?_⟩
    try simp only [Act.put, z1, z2, z3]
    clear hK
    clear K
    refine wpAnyIn_take (i := 13) (oi := ?oia15) (v := undef) rfl ?hia15 ?hsa15 ?hfa15 ?hra15 ?hQa15 ⟨Or.inr ⟨by kernel_rfl, rfl⟩, ?haba15⟩ ?ha15
    case hia15 => (simp only [List.getElem?_toArray, List.getElem?_cons_succ, List.getElem?_cons_zero]; rfl)
    case hsa15 => kernel_rfl
    case hfa15 => kernel_rfl
    case hra15 => kernel_rfl
    case haba15 => exact fun _ => rfl
    case hQa15 => exact fun _ _ _ h => h
    try simp only [Act.put, z1, z2, z3]
    refine wpAnyIn_take (i := 14) (oi := ?oia16) (v := ?va16) rfl ?hia16 ?hsa16 ?hfa16 ?hra16 ?hQa16 ⟨Or.inl ⟨by kernel_rfl, ?hya16⟩, ?haba16⟩ ?ha16
    case hia16 => (simp only [List.getElem?_toArray, List.getElem?_cons_succ, List.getElem?_cons_zero]; rfl)
    case hsa16 => kernel_rfl
    case hfa16 => kernel_rfl
    case hra16 => kernel_rfl
    case hya16 => (intro w'; go_simp; try with_reducible rfl)
    case haba16 => exact fun _ => rfl
    case hQa16 => exact fun _ _ _ h => h
    try simp only [Act.put, z1, z2, z3]
    refine wpAnyIn_done (by kernel_rfl) ?_ _
    have HJ1 : Hid (J (mirTo l size got (k + 1)) aq3.w) := Lib.hid (by rw [HST.out]; exact HJQ.out aq3)
    have HK1 := Lib.hid (HKR.out.trans (KpO.of_below aq3.bel))
    go_wp2_with fail
    go_roundw
    case rel => exact ⟨k + 1, i + size, by go_num, by omega, HI2, his, HJ1, HK1⟩
    case measure => simp [intOf]; omega
   ·have HD1 : decide ([] ∈ P) = false := decide_eq_false hin
    rw [HD1] at HCN
    rw [if_neg hin] at HST
    clear HD1
    go_upto_region 4 with fail
    refine (wpIn_wide (n := nn + 1)).1 (wpIn_region_any (by kernel_rfl) ?_)
    change wpAnyIn _ _ _ _ _ _ _ _ _ (World.drew wr)
    obtain ⟨q0, hq0⟩ := hdr
    rw [hq0]
    clear hq0
    refine wpAnyIn_take (i := 0) (oi := ?oib1) (v := ?vb1) rfl ?hib1 ?hsb1 ?hfb1 ?hrb1 ?hQb1 ⟨Or.inl ⟨by kernel_rfl, ?hyb1⟩, ?habb1⟩ ?hb1
    case hib1 => (simp only [List.getElem?_toArray, List.getElem?_cons_succ, List.getElem?_cons_zero]; rfl)
    case hsb1 => kernel_rfl
    case hfb1 => kernel_rfl
    case hrb1 => kernel_rfl
    case hyb1 => (intro w'; go_simp; try with_reducible rfl)
    case habb1 => exact fun _ => rfl
    case hQb1 => exact fun _ _ _ h => h
    try simp only [Act.put, z1, z2, z3]
    refine wpAnyIn_ready (rs := [1]) (by kernel_rfl) (by simp) ?_
    refine AllReadyIn.cons (o := ?zobr2_1) ?zhbr2_1 ?zkbr2_1 AllReadyIn.nil
    case zhbr2_1 => (simp only [List.getElem?_toArray, List.getElem?_cons_succ, List.getElem?_cons_zero]; rfl)
    intro K hK
    rw [if_pos (by kernel_rfl)]
    refine wpIn_of_wp ?_
    go_simp
    refine (Calls.bw_of (HCN.out _)).mono ?_
    rintro e _ ⟨rfl, bq3, rfl⟩
    refine hK _ _ ?_
    try simp only [Act.put, z1, z2, z3]
    clear hK
    clear K
    refine wpAnyIn_take (i := 2) (oi := ?oib4) (v := ?vb4) rfl ?hib4 ?hsb4 ?hfb4 ?hrb4 ?hQb4 ⟨Or.inl ⟨by kernel_rfl, ?hyb4⟩, ?habb4⟩ ?hb4
    case hib4 => (simp only [List.getElem?_toArray, List.getElem?_cons_succ, List.getElem?_cons_zero]; rfl)
    case hsb4 => kernel_rfl
    case hfb4 => kernel_rfl
    case hrb4 => kernel_rfl
    case hyb4 => (intro w'; go_simp; try with_reducible rfl)
    case habb4 => exact fun _ => rfl
    case hQb4 => exact fun _ _ _ h => h
    try simp only [Act.put, z1, z2, z3]
    refine wpAnyIn_take (i := 3) (oi := ?oib5) (v := ?vb5) rfl ?hib5 ?hsb5 ?hfb5 ?hrb5 ?hQb5 ⟨Or.inl ⟨by kernel_rfl, ?hyb5⟩, ?habb5⟩ ?hb5
    case hib5 => (simp only [List.getElem?_toArray, List.getElem?_cons_succ, List.getElem?_cons_zero]; rfl)
    case hsb5 => kernel_rfl
    case hfb5 => kernel_rfl
    case hrb5 => kernel_rfl
    case hyb5 => (intro w'; go_simp; try with_reducible rfl)
    case habb5 => exact fun _ => rfl
    case hQb5 => exact fun _ _ _ h => h
    try simp only [Act.put, z1, z2, z3]
    refine wpAnyIn_take (i := 4) (oi := ?oib6) (v := ?vb6) rfl ?hib6 ?hsb6 ?hfb6 ?hrb6 ?hQb6 ⟨Or.inl ⟨by kernel_rfl, ?hyb6⟩, ?habb6⟩ ?hb6
    case hib6 => (simp only [List.getElem?_toArray, List.getElem?_cons_succ, List.getElem?_cons_zero]; rfl)
    case hsb6 => kernel_rfl
    case hfb6 => kernel_rfl
    case hrb6 => kernel_rfl
    case hyb6 => (intro w'; go_simp; try with_reducible rfl)
    case habb6 => exact fun _ => rfl
    case hQb6 => exact fun _ _ _ h => h
    try simp only [Act.put, z1, z2, z3]
    refine wpAnyIn_take (i := 5) (oi := ?oib7) (v := ?vb7) rfl ?hib7 ?hsb7 ?hfb7 ?hrb7 ?hQb7 ⟨Or.inl ⟨by kernel_rfl, ?hyb7⟩, ?habb7⟩ ?hb7
    case hib7 => (simp only [List.getElem?_toArray, List.getElem?_cons_succ, List.getElem?_cons_zero]; rfl)
    case hsb7 => kernel_rfl
    case hfb7 => kernel_rfl
    case hrb7 => kernel_rfl
    case hyb7 => (intro w'; go_simp; try with_reducible rfl)
    case habb7 => exact fun _ => rfl
    case hQb7 => exact fun _ _ _ h => h
    try simp only [Act.put, z1, z2, z3]
    refine wpAnyIn_take (i := 6) (oi := ?oib8) (v := ?vb8) rfl ?hib8 ?hsb8 ?hfb8 ?hrb8 ?hQb8 ⟨Or.inl ⟨by kernel_rfl, ?hyb8⟩, ?habb8⟩ ?hb8
    case hib8 => (simp only [List.getElem?_toArray, List.getElem?_cons_succ, List.getElem?_cons_zero]; rfl)
    case hsb8 => kernel_rfl
    case hfb8 => kernel_rfl
    case hrb8 => kernel_rfl
    case hyb8 => (intro w'; go_simp; try with_reducible rfl)
    case habb8 => exact fun _ => rfl
    case hQb8 => exact fun _ _ _ h => h
    try simp only [Act.put, z1, z2, z3]
    refine wpAnyIn_take (i := 7) (oi := ?oib9) (v := ?vb9) rfl ?hib9 ?hsb9 ?hfb9 ?hrb9 ?hQb9 ⟨Or.inl ⟨by kernel_rfl, ?hyb9⟩, ?habb9⟩ ?hb9
    case hib9 => (simp only [List.getElem?_toArray, List.getElem?_cons_succ, List.getElem?_cons_zero]; rfl)
    case hsb9 => kernel_rfl
    case hfb9 => kernel_rfl
    case hrb9 => kernel_rfl
    case hyb9 => (intro w'; go_simp; first | with_reducible rfl | rw [if_pos (by omega)])
    case habb9 => exact fun _ => rfl
    case hQb9 => exact fun _ _ _ h => h
    try simp only [Act.put, z1, z2, z3]
    refine wpAnyIn_take (i := 8) (oi := ?oib10) (v := ?vb10) rfl ?hib10 ?hsb10 ?hfb10 ?hrb10 ?hQb10 ⟨Or.inl ⟨by kernel_rfl, ?hyb10⟩, ?habb10⟩ ?hb10
    case hib10 => (simp only [List.getElem?_toArray, List.getElem?_cons_succ, List.getElem?_cons_zero]; rfl)
    case hsb10 => kernel_rfl
    case hfb10 => kernel_rfl
    case hrb10 => kernel_rfl
    case hyb10 => (intro w'; go_simp; try with_reducible rfl)
    case habb10 => exact fun _ => rfl
    case hQb10 => exact fun _ _ _ h => h
    try simp only [Act.put, z1, z2, z3]
    refine wpAnyIn_take (i := 10) (oi := ?oib11) (v := ?vb11) rfl ?hib11 ?hsb11 ?hfb11 ?hrb11 ?hQb11 ⟨Or.inl ⟨by kernel_rfl, ?hyb11⟩, ?habb11⟩ ?hb11
    case hib11 => (simp only [List.getElem?_toArray, List.getElem?_cons_succ, List.getElem?_cons_zero]; rfl)
    case hsb11 => kernel_rfl
    case hfb11 => kernel_rfl
    case hrb11 => kernel_rfl
    case hyb11 => (intro w'; go_simp; try with_reducible rfl)
    case habb11 => exact fun _ => rfl
    case hQb11 => exact fun _ _ _ h => h
    try simp only [Act.put, z1, z2, z3]
    refine wpAnyIn_ready (rs := [9, 11]) (by kernel_rfl) (by simp) ?_
    refine AllReadyIn.cons (o := ?zobr12_9) ?zhbr12_9 ?zkbr12_9 (AllReadyIn.cons (o := ?zobr12_11) ?zhbr12_11 ?zkbr12_11 AllReadyIn.nil)
    case zhbr12_9 => (simp only [List.getElem?_toArray, List.getElem?_cons_succ, List.getElem?_cons_zero]; rfl)
    case zhbr12_11 => (simp only [List.getElem?_toArray, List.getElem?_cons_succ, List.getElem?_cons_zero]; rfl)
    ·intro K hK
     rw [if_pos (by kernel_rfl)]
     refine wpIn_of_wp ?_
     go_simp
     refine hK _ _ ?_
     try simp only [Act.put, z1, z2, z3]
     clear hK
     clear K
     refine wpAnyIn_ready (rs := [11]) (by kernel_rfl) (by simp) ?_
     refine AllReadyIn.cons (o := ?zobr13_11) ?zhbr13_11 ?zkbr13_11 AllReadyIn.nil
     case zhbr13_11 => (simp only [List.getElem?_toArray, List.getElem?_cons_succ, List.getElem?_cons_zero]; rfl)
     intro K hK
     rw [if_pos (by kernel_rfl)]
     refine wpIn_of_wp ?_
     go_simp
     refine (Calls.bw_of (HJN.out _)).mono ?_
     rintro e _ ⟨rfl, bq14, rfl⟩
     refine hK _ _ ?_
     try simp only [Act.put, z1, z2, z3]
     clear hK
     clear K
     refine wpAnyIn_ready (rs := [12]) (by kernel_rfl) (by simp) ?_
     refine AllReadyIn.cons (o := ?zobr15_12) ?zhbr15_12 ?zkbr15_12 AllReadyIn.nil
     case zhbr15_12 => (simp only [List.getElem?_toArray, List.getElem?_cons_succ, List.getElem?_cons_zero]; rfl)
     intro K hK
     rw [if_pos (by kernel_rfl)]
     obtain ⟨fn, tmps, assign, body, hy, hR⟩ := HY.out bq14
     go_simp
     refine hR.mono ?_
     rintro e W3 (⟨rfl, hJ3, hk3⟩ | ⟨rfl, hJx3⟩)
     ·refine hK _ _ ?_
      try simp only [Act.put, z1, z2, z3]
      clear hK
      clear K
      refine wpAnyIn_take (i := 13) (oi := ?oib16) (v := ?vb16) rfl ?hib16 ?hsb16 ?hfb16 ?hrb16 ?hQb16 ⟨Or.inl ⟨by kernel_rfl, ?hyb16⟩, ?habb16⟩ ?hb16
      case hib16 => (simp only [List.getElem?_toArray, List.getElem?_cons_succ, List.getElem?_cons_zero]; rfl)
      case hsb16 => kernel_rfl
      case hfb16 => kernel_rfl
      case hrb16 => kernel_rfl
      case hyb16 => (intro w'; go_simp; try with_reducible rfl)
      case habb16 => exact fun _ => rfl
      case hQb16 => exact fun _ _ _ h => h
      try simp only [Act.put, z1, z2, z3]
      refine wpAnyIn_take (i := 14) (oi := ?oib17) (v := ?vb17) rfl ?hib17 ?hsb17 ?hfb17 ?hrb17 ?hQb17 ⟨Or.inl ⟨by kernel_rfl, ?hyb17⟩, ?habb17⟩ ?hb17
      case hib17 => (simp only [List.getElem?_toArray, List.getElem?_cons_succ, List.getElem?_cons_zero]; rfl)
      case hsb17 => kernel_rfl
      case hfb17 => kernel_rfl
      case hrb17 => kernel_rfl
      case hyb17 => (intro w'; go_simp; try with_reducible rfl)
      case habb17 => exact fun _ => rfl
      case hQb17 => exact fun _ _ _ h => h
      try simp only [Act.put, z1, z2, z3]
      refine wpAnyIn_done (by kernel_rfl) ?_ _
      have HJ1 : Hid (J (mirTo l size got (k + 1)) W3) := Lib.hid (by rw [HST.out]; exact hJ3)
      have HK1 := Lib.hid ((HKR.out.trans (KpO.of_below bq14.bel)).trans hk3)
      clear hJ3 hk3
      go_wp2_with fail
      go_roundw
      case rel => exact ⟨k + 1, i + size, by go_num, by omega, HI2, his, HJ1, HK1⟩
      case measure => simp [intOf]; omega
     ·refine hK _ _ ?_
      try simp only [Act.put, z1, z2, z3]
      clear hK
      clear K
      refine wpAnyIn_take (i := 13) (oi := ?oib18) (v := ?vb18) rfl ?hib18 ?hsb18 ?hfb18 ?hrb18 ?hQb18 ⟨Or.inl ⟨by kernel_rfl, ?hyb18⟩, ?habb18⟩ ?hb18
      case hib18 => (simp only [List.getElem?_toArray, List.getElem?_cons_succ, List.getElem?_cons_zero]; rfl)
      case hsb18 => kernel_rfl
      case hfb18 => kernel_rfl
      case hrb18 => kernel_rfl
      case hyb18 => (intro w'; go_simp; try with_reducible rfl)
      case habb18 => exact fun _ => rfl
      case hQb18 => exact fun _ _ _ h => h
      try simp only [Act.put, z1, z2, z3]
      refine wpAnyIn_take (i := 14) (oi := ?oib19) (v := ?vb19) rfl ?hib19 ?hsb19 ?hfb19 ?hrb19 ?hQb19 ⟨Or.inl ⟨by kernel_rfl, ?hyb19⟩, ?habb19⟩ ?hb19
      case hib19 => (simp only [List.getElem?_toArray, List.getElem?_cons_succ, List.getElem?_cons_zero]; rfl)
      case hsb19 => kernel_rfl
      case hfb19 => kernel_rfl
      case hrb19 => kernel_rfl
      case hyb19 => (intro w'; go_simp; try with_reducible rfl)
      case habb19 => exact fun _ => rfl
      case hQb19 => exact fun _ _ _ h => h
      try simp only [Act.put, z1, z2, z3]
      refine wpAnyIn_done (by kernel_rfl) ?_ _
      have HX1 : Hid (Jx (mirTo l size got (k + 1)) W3) := Lib.hid (by rw [HST.out]; exact hJx3)
      clear hJx3
      go_wp2_with fail
      refine bodyPost_ret (results_none rfl _ _ _) rfl ?_
      exact ⟨⟨_, rfl⟩, .inr ⟨_, HPR.out, HX1.out⟩⟩
    ·intro K hK
     rw [if_pos (by kernel_rfl)]
     refine wpIn_of_wp ?_
     go_simp
     refine (Calls.bw_of (HJN.out _)).mono ?_
     rintro e _ ⟨rfl, bq20, rfl⟩
     refine hK _ _ ?_
     try simp only [Act.put, z1, z2, z3]
     clear hK
     clear K
     refine wpAnyIn_ready (rs := [9]) (by kernel_rfl) (by simp) ?_
     refine AllReadyIn.cons (o := ?zobr21_9) ?zhbr21_9 ?zkbr21_9 AllReadyIn.nil
     case zhbr21_9 => (simp only [List.getElem?_toArray, List.getElem?_cons_succ, List.getElem?_cons_zero]; rfl)
     intro K hK
     rw [if_pos (by kernel_rfl)]
     refine wpIn_of_wp ?_
     go_simp
     refine hK _ _ ?_
     try simp only [Act.put, z1, z2, z3]
     clear hK
     clear K
     refine wpAnyIn_ready (rs := [12]) (by kernel_rfl) (by simp) ?_
     refine AllReadyIn.cons (o := ?zobr22_12) ?zhbr22_12 ?zkbr22_12 AllReadyIn.nil
     case zhbr22_12 => (simp only [List.getElem?_toArray, List.getElem?_cons_succ, List.getElem?_cons_zero]; rfl)
     intro K hK
     rw [if_pos (by kernel_rfl)]
     obtain ⟨fn, tmps, assign, body, hy, hR⟩ := HY.out bq20
     go_simp
     refine hR.mono ?_
     rintro e W3 (⟨rfl, hJ3, hk3⟩ | ⟨rfl, hJx3⟩)
     ·refine hK _ _ ?_
      try simp only [Act.put, z1, z2, z3]
      clear hK
      clear K
      refine wpAnyIn_take (i := 13) (oi := ?oib23) (v := ?vb23) rfl ?hib23 ?hsb23 ?hfb23 ?hrb23 ?hQb23 ⟨Or.inl ⟨by kernel_rfl, ?hyb23⟩, ?habb23⟩ ?hb23
      case hib23 => (simp only [List.getElem?_toArray, List.getElem?_cons_succ, List.getElem?_cons_zero]; rfl)
      case hsb23 => kernel_rfl
      case hfb23 => kernel_rfl
      case hrb23 => kernel_rfl
      case hyb23 => (intro w'; go_simp; try with_reducible rfl)
      case habb23 => exact fun _ => rfl
      case hQb23 => exact fun _ _ _ h => h
      try simp only [Act.put, z1, z2, z3]
      refine wpAnyIn_take (i := 14) (oi := ?oib24) (v := ?vb24) rfl ?hib24 ?hsb24 ?hfb24 ?hrb24 ?hQb24 ⟨Or.inl ⟨by kernel_rfl, ?hyb24⟩, ?habb24⟩ ?hb24
      case hib24 => (simp only [List.getElem?_toArray, List.getElem?_cons_succ, List.getElem?_cons_zero]; rfl)
      case hsb24 => kernel_rfl
      case hfb24 => kernel_rfl
      case hrb24 => kernel_rfl
      case hyb24 => (intro w'; go_simp; try with_reducible rfl)
      case habb24 => exact fun _ => rfl
      case hQb24 => exact fun _ _ _ h => h
      try simp only [Act.put, z1, z2, z3]
      refine wpAnyIn_done (by kernel_rfl) ?_ _
      have HJ1 : Hid (J (mirTo l size got (k + 1)) W3) := Lib.hid (by rw [HST.out]; exact hJ3)
      have HK1 := Lib.hid ((HKR.out.trans (KpO.of_below bq20.bel)).trans hk3)
      clear hJ3 hk3
      go_wp2_with fail
      go_roundw
      case rel => exact ⟨k + 1, i + size, by go_num, by omega, HI2, his, HJ1, HK1⟩
      case measure => simp [intOf]; omega
     ·refine hK _ _ ?_
      try simp only [Act.put, z1, z2, z3]
      clear hK
      clear K
      refine wpAnyIn_take (i := 13) (oi := ?oib25) (v := ?vb25) rfl ?hib25 ?hsb25 ?hfb25 ?hrb25 ?hQb25 ⟨Or.inl ⟨by kernel_rfl, ?hyb25⟩, ?habb25⟩ ?hb25
      case hib25 => (simp only [List.getElem?_toArray, List.getElem?_cons_succ, List.getElem?_cons_zero]; rfl)
      case hsb25 => kernel_rfl
      case hfb25 => kernel_rfl
      case hrb25 => kernel_rfl
      case hyb25 => (intro w'; go_simp; try with_reducible rfl)
      case habb25 => exact fun _ => rfl
      case hQb25 => exact fun _ _ _ h => h
      try simp only [Act.put, z1, z2, z3]
      refine wpAnyIn_take (i := 14) (oi := ?oib26) (v := ?vb26) rfl ?hib26 ?hsb26 ?hfb26 ?hrb26 ?hQb26 ⟨Or.inl ⟨by kernel_rfl, ?hyb26⟩, ?habb26⟩ ?hb26
      case hib26 => (simp only [List.getElem?_toArray, List.getElem?_cons_succ, List.getElem?_cons_zero]; rfl)
      case hsb26 => kernel_rfl
      case hfb26 => kernel_rfl
      case hrb26 => kernel_rfl
      case hyb26 => (intro w'; go_simp; try with_reducible rfl)
      case habb26 => exact fun _ => rfl
      case hQb26 => exact fun _ _ _ h => h
      try simp only [Act.put, z1, z2, z3]
      refine wpAnyIn_done (by kernel_rfl) ?_ _
      have HX1 : Hid (Jx (mirTo l size got (k + 1)) W3) := Lib.hid (by rw [HST.out]; exact hJx3)
      clear hJx3
      go_wp2_with fail
      refine bodyPost_ret (results_none rfl _ _ _) rfl ?_
      exact ⟨⟨_, rfl⟩, .inr ⟨_, HPR.out, HX1.out⟩⟩
  ·obtain rfl : k = m := by omega
   have hie : i = l.length := by rw [HI.out, HD.out]
   subst hie
   have q1 : ¬ (l.length : Int) < (l.length : Int) := by omega
   go_wp2_with fail
   go_end0
   exact ⟨⟨_, rfl⟩, .inl HJR.out⟩
end Go.Proofs.YtfaemcfjbbbbdaaGreat
namespace Go.Proofs.YtfaemcfjbbbbdaaGreat
open Go.RowKit
def dataC (l : List ColT) : List ColT := l.filter fun c => !c.2.2.1
theorem elem_col (l : List ColT) (j : Nat) (h : j < l.length) : elemK 4 (encC l) j = encC1 (l.getD j cD) := by
 unfold elemK
 apply List.ext_getElem?
 intro i
 by_cases hi : i < 4
 ·rw [List.getElem?_take_of_lt hi, List.getElem?_drop, show encC l = l.flatMap encC1 from rfl, flat_get (f := encC1) (K := 4) (fun _ => rfl) l j i cD h hi]
 ·rw [List.getElem?_eq_none (by simp; omega), List.getElem?_eq_none (by simp [encC1]; omega)]
theorem keepK_encC (l : List ColT) : ∀ n, n ≤ l.length → keepK 4 (encC l) (fun j => (l.getD j cD).2.2.1) n = encC (dataC (l.take n)) ∧ cntK (fun j => (l.getD j cD).2.2.1) n = (dataC (l.take n)).length := by
 intro n
 induction n with
 | zero => intro _; exact ⟨rfl, rfl⟩
 | succ n ih =>
  intro h
  obtain ⟨h1, h2⟩ := ih (by omega)
  have hn : n < l.length := by omega
  have e : l.take (n + 1) = l.take n ++ [l.getD n cD] := by
   rw [List.take_succ_eq_append_getElem hn]
   simp [List.getD_eq_getElem?_getD, hn]
  have e2 : dataC (l.take (n + 1)) = dataC (l.take n) ++ dataC [l.getD n cD] := by rw [e]; unfold dataC; rw [List.filter_append]
  cases hq : (l.getD n cD).2.2.1 with
  | true =>
   have e3 : dataC [l.getD n cD] = [] := by unfold dataC; rw [List.filter_cons, hq]; rfl
   rw [keepK_yes (p := fun j => (l.getD j cD).2.2.1) hq, cntK_yes (p := fun j => (l.getD j cD).2.2.1) hq, h1, h2, e2, e3, List.append_nil]
   exact ⟨rfl, rfl⟩
  | false =>
   have e3 : dataC [l.getD n cD] = [l.getD n cD] := by unfold dataC; rw [List.filter_cons, hq]; rfl
   rw [keepK_no (p := fun j => (l.getD j cD).2.2.1) hq, cntK_no (p := fun j => (l.getD j cD).2.2.1) hq, h1, h2, e2, e3, elem_col l n hn, List.length_append]
   exact ⟨by simp [encC], rfl⟩
theorem compactUpTo_pos (d : Array Int) : ∀ m, 0 < m → 0 < (Lib.compactUpTo d m).length := by
 intro m
 induction m with
 | zero => intro h; omega
 | succ m ih =>
  intro _
  rw [Lib.compactUpTo_succ, List.length_append]
  by_cases h : 0 < m
  ·have := ih h; omega
  ·have hm : m = 0 := by omega
   subst hm
   rw [if_pos (Lib.keeps_lt_one d 0 (by omega))]
   simp
theorem devsI_pos {l : List ColT} (h : 0 < l.length) : 0 < (devsI l).length := by
 unfold devsI Lib.compact
 exact compactUpTo_pos _ _ (by rw [List.length_mergeSort, List.length_map]; exact h)
def parD (l : List ColT) : List Int := -1 :: devsI (dataC l)
def parF (l : List ColT) (got : List Bs) (d : Int) : Option (Int × Bs) := if withoutT l got d = [] then none else some (d, withoutT l got d)
def parTo (l : List ColT) (got : List Bs) (k : Nat) : List (Int × Bs) := ((parD l).take k).filterMap (parF l got)
theorem parTo_succ (l : List ColT) (got : List Bs) (k : Nat) (h : k < (parD l).length) : parTo l got (k + 1) = parTo l got k ++ (if withoutT l got ((parD l).getD k 0) = [] then [] else [((parD l).getD k 0, withoutT l got ((parD l).getD k 0))]) := by
 unfold parTo
 rw [List.take_succ_eq_append_getElem h, List.filterMap_append]
 have e : (parD l)[k] = (parD l).getD k 0 := by simp [List.getD_eq_getElem?_getD, h]
 rw [e]
 congr 1
 generalize (parD l).getD k 0 = d
 unfold parF
 by_cases hh : withoutT l got d = []
 ·simp [hh]
 ·simp [hh]
theorem parTo_len (l : List ColT) (got : List Bs) (k : Nat) : (parTo l got k).length ≤ k := by
 have h1 := List.length_filterMap_le (parF l got) ((parD l).take k)
 rw [List.length_take] at h1
 unfold parTo
 omega
theorem parTo_pre (l : List ColT) (got : List Bs) {k m : Nat} (h : k ≤ m) : parTo l got k <+: parTo l got m := by
 unfold parTo
 rw [show (parD l).take k = ((parD l).take m).take k by rw [List.take_take, Nat.min_eq_left h]]
 exact (List.take_prefix k _).filterMap _
theorem rowI_get {w : World} {b g n cap j : Nat} {l : List Int} (h : w.ownsRow b 3 1 (.slice (some ⟨g, 0, none⟩) n cap) n (intsV l)) (hj : j < l.length) : w.cell? ⟨g, j, none⟩ = some (.int .i64 (l.getD j 0)) := by
 have hl : l.length = n := by have := h.1; simpa [intsV] using this
 rw [h.cellAt j (by omega)]
 simp [intsV, List.getElem?_eq_getElem hj]
theorem withGo_len (l : List ColT) (got : List Bs) (dev : Int) (h : ∀ s ∈ got, s.length ≤ 64) : ∀ (r : List Nat) (out : Bs), (withGo l got dev r out).length ≤ out.length + 64 * r.length
 | [], out => by show out.length ≤ _; simp
 | i :: r, out => by
  show (if (l.getD i cD).2.2.1 = true then withGo l got dev r out else (if (if ((l.getD i cD).1 : Int) = dev then againT l got i else got.getD i []) = [] then [] else withGo l got dev r (out ++ (if ((l.getD i cD).1 : Int) = dev then againT l got i else got.getD i [])))).length ≤ _
  have hx : (if ((l.getD i cD).1 : Int) = dev then againT l got i else got.getD i []).length ≤ 64 := by
   split
   ·exact againT_small l got i h
   ·exact getD_small h i
  generalize (if ((l.getD i cD).1 : Int) = dev then againT l got i else got.getD i []) = x at hx
  have h1 := withGo_len l got dev h r out
  have h2 := withGo_len l got dev h r (out ++ x)
  simp only [List.length_append, List.length_cons] at h1 h2 ⊢
  split
  ·omega
  ·split
   ·simp
   ·omega
theorem withoutT_len (l : List ColT) (got : List Bs) (dev : Int) (h : ∀ s ∈ got, s.length ≤ 64) : (withoutT l got dev).length ≤ 64 * l.length := by
 have := withGo_len l got dev h (List.range l.length) []
 simpa [withoutT] using this
set_option maxRecDepth 100000 in
set_option maxHeartbeats 2000000 in
theorem cparity_any (own : Nat → Prop) (gl lc : Nat) (l : List ColT) (gb gc : Nat) (got : List Bs) (nn lp : Nat) (J Jx : List (Int × Bs) → World → Prop) (W : World)
  (hl : RSl W 4 (some ⟨gl, 0, none⟩) l.length lc (encC l)) (hg : SSl W (some ⟨gb, 0, none⟩) got.length gc (bts got)) (hgl : got.length = l.length) (hn : l.length ≤ 32) (h1 : 0 < (dataC l).length) (hsm : ∀ s ∈ got, s.length ≤ 64)
  (ho : ∀ k, own k → k < W.heap.size ∧ k ≠ gl ∧ k ≠ gb) (hJ : AbidesFrom W.heap.size J)
  (hY : ∀ pre x W1, J pre W1 → pre.length < 1000 → x.2.length ≤ 2048 → YieldAt Fence.wide nn Tryz.prog lp (encTr x) W1 fun e W' => (e = .returned (.bool true) ∧ J (pre ++ [x]) W' ∧ KpO own W1 W') ∨ (e = .returned (.bool false) ∧ Jx (pre ++ [x]) W')) (h0 : J [] W) :
  Calls Tryz.prog 130 #[.slice (some ⟨gl, 0, none⟩) l.length lc, .slice (some ⟨gb, 0, none⟩) got.length gc, .func (.yield lp) #[] #[]] W fun e W' => (∃ v, e = .returned v) ∧ ((∃ ys, ys = (parD l).filterMap (parF l got) ∧ J ys W') ∨ (∃ pre, pre <+: (parD l).filterMap (parF l got) ∧ Jx pre W')) := by
 have HLR : Hid (∀ W', KpO own W W' → RSl W' 4 (some ⟨gl, 0, none⟩) l.length lc (encC l)) := Lib.hid (fun W' hW => hl.kp hW (fun b o e => by simp only [Option.some.injEq, Addr.mk.injEq, and_true] at e; obtain ⟨rfl, _⟩ := e; exact fun h => (ho _ h).2.1 rfl))
 have HGR : Hid (∀ W', KpO own W W' → SSl W' (some ⟨gb, 0, none⟩) got.length gc (bts got)) := Lib.hid (fun W' hW => RSl.kp hg hW (fun b o e => by simp only [Option.some.injEq, Addr.mk.injEq, and_true] at e; obtain ⟨rfl, _⟩ := e; exact fun h => (ho _ h).2.2 rfl))
 have HWC : Hid (∀ W' dev, KpO own W W' → Calls Tryz.prog 148 #[.slice (some ⟨gl, 0, none⟩) l.length lc, .slice (some ⟨gb, 0, none⟩) l.length gc, .int .i64 dev] W' fun e w' => e = .returned (.string ⟨(withoutT l got dev).toArray⟩) ∧ Below W'.heap.size W' w') := Lib.hid (fun W' dev hW => by
  have := without_any gl lc l gb gc got dev W' (HLR.out W' hW) (HGR.out W' hW) hgl hn hsm
  rw [hgl] at this; exact this)
 have HCL := Lib.hid (cloneC_any (some ⟨gl, 0, none⟩) l.length lc (encC l) W hl (encC_one l) (by omega))
 have hkk := keepK_encC l l.length (Nat.le_refl _)
 rw [List.take_length] at hkk
 have hdl : (dataC l).length ≤ l.length := List.length_filter_le _ _
 have HJ := Lib.hid hJ
 have HYY := Lib.hid hY
 have HSMM := Lib.hid hsm
 have HOW := Lib.hid ho
 have H0 := Lib.hid h0
 have hdp := devsI_pos h1
 have hdv := devsI_len (dataC l)
 obtain ⟨D, hD⟩ : ∃ D, D = parD l := ⟨_, rfl⟩
 have hDl : D.length = (devsI (dataC l)).length + 1 := by rw [hD]; rfl
 have hln : 0 < l.length := by omega
 rw [hgl]
 have HDD := Lib.hid hD
 have HKK := Lib.hid hkk
 have HFN : Hid ((parD l).filterMap (parF l got) = parTo l got D.length) := Lib.hid (by unfold parTo; rw [hD, List.take_length])
 rw [HFN.out]
 have HDF : Hid (∀ g cap (Wz : World), Wz.ownsRow W.heap.size 78 4 (.slice (some ⟨g, 0, none⟩) l.length cap) l.length (encC l) → Calls Tryz.prog 144 #[.slice (some ⟨g, 0, none⟩) l.length cap, .func (.func 146) #[] #[]] Wz fun e w' => e = .returned (.slice (some ⟨g, 0, none⟩) (dataC l).length cap) ∧ w'.ownsRow W.heap.size 78 4 (.slice (some ⟨g, 0, none⟩) (dataC l).length cap) (dataC l).length (encC (dataC l)) ∧ Wz.grownBy w' (some g)) := Lib.hid (fun g cap Wz hrow => by
  have := deleteFuncC_any 146 #[] (fun j => (l.getD j cD).2.2.1) W.heap.size g l.length cap (encC l) Wz hrow (by omega) (encC_one l) (enters_of Tryz.func146 (by kernel_rfl) rfl) (fun j hj W2 _ => by
   have e : ∀ i, i < 4 → (encC l).getD (j * 4 + i) undef = (encC1 (l.getD j cD)).getD i undef := fun i hi => by
    rw [List.getD_eq_getElem?_getD, show encC l = l.flatMap encC1 from rfl, flat_get (f := encC1) (K := 4) (fun _ => rfl) l j i cD hj hi, ← List.getD_eq_getElem?_getD]
   have e0 := e 0 (by omega)
   have e1 := e 1 (by omega)
   have e2 := e 2 (by omega)
   have e3 := e 3 (by omega)
   rw [Nat.add_zero] at e0
   rw [e0, e1, e2, e3]
   exact par1_any (l.getD j cD) W2)
  rw [hkk.1, hkk.2] at this
  exact this)
 clear hl hg hgl hsm hJ hY h0 hkk hD ho
 go_enter Tryz.func130, Tryz.ntmps130
 go_wp2_with fail
 refine HCL.out.mono ?_
 rintro e w1 ⟨v1, rfl, hrow1, hb1⟩
 obtain ⟨g1, c1, rfl⟩ := own_form1 hrow1 hln
 have HD1 := Lib.hid (HDF.out g1 c1 w1 hrow1)
 have HG1 : Hid (∀ w2, w1.grownBy w2 (some g1) → Below W.heap.size W w2) := Lib.hid (fun w2 hg => below_own (v := .slice (some ⟨g1, 0, none⟩) l.length c1) hb1 hrow1 hg hb1.size (Nat.le_refl _))
 clear hrow1 hb1
 go_wp2_with fail
 refine HD1.out.mono ?_
 rintro e w2 ⟨rfl, hrow2, hgr2⟩
 have HB2 := Lib.hid (HG1.out w2 hgr2)
 have HR2 := Lib.hid hrow2
 clear hrow2 hgr2 HD1
 obtain ⟨w3, hw3⟩ : ∃ w3, w3 = w2.alloc (.cells #[.int .i64 (-1)] 3) := ⟨_, rfl⟩
 obtain ⟨g3, hg3⟩ : ∃ g3, g3 = w2.heap.size := ⟨_, rfl⟩
 have hb3 : Below w2.heap.size w2 w3 := by rw [hw3]; exact (Below.refl _ _).alloc (Nat.le_refl _) _
 have HB3 := Lib.hid (HB2.out.trans (hb3.mono HB2.out.size))
 have hk3 : Blk w3 g3 3 [.int .i64 (-1)] := by rw [hw3, hg3]; exact Blk.new _ _ _
 have HO3 : Hid (w3.ownsRow W.heap.size 3 1 (.slice (some ⟨g3, 0, none⟩) 1 1) 1 (intsV [-1])) := Lib.hid (by
  have := blk_owns (base := W.heap.size) (n := 1) (cap := 1) (size := 1) hk3 (by rw [hg3]; exact HB2.out.size) (Nat.le_refl _) (by unfold maxLen; omega) rfl
  exact this)
 have HDV := Lib.hid (devs_any (some ⟨g1, 0, none⟩) c1 (dataC l) w3 (rsl_of_owns (owns_below HR2.out hb3)) (by omega) h1)
 clear hb3 hk3
 go_wp2_with fail
 rw [← hw3, ← hg3]
 clear hw3 hg3
 refine HDV.out.mono ?_
 rintro e w4 ⟨v4, rfl, hrow4, hb4⟩
 obtain ⟨g4, c4, rfl⟩ := own_form1 hrow4 hdp
 have HB4 := Lib.hid (HB3.out.trans (hb4.mono HB3.out.size))
 have HO4 := Lib.hid (owns_below HO3.out hb4)
 obtain ⟨i0, hi, hz0, hz1, hz2⟩ := info_parts infoI
 have m1 : 1 + (devsI (dataC l)).length ≤ maxLen := by unfold maxLen; omega
 have m2 : (1 + (devsI (dataC l)).length) * 8 ≤ 140737488355328 := by omega
 have m3 : W.heap.size ≤ w4.heap.size := HB4.out.size
 have HNW := Lib.hid (RSl.news (rsl_of_owns hrow4))
 have HON : Hid (∀ u ∈ intsV (devsI (dataC l)), u.oneCell' = true) := Lib.hid (fun u hu => by
  unfold intsV at hu
  obtain ⟨z, _, rfl⟩ := List.mem_map.1 hu
  rfl)
 have hp1 : 0 < 1 + (devsI (dataC l)).length := by omega
 have HLN : Hid ((intsV (devsI (dataC l))).length = (devsI (dataC l)).length * 1) := Lib.hid (by simp [intsV])
 clear hrow4 hb4 HDV
 go_wp2_with (at_builtin; go_must (refine wpList_append_own_at _ rfl (.tmp 13) (.tmp 15) 88 rfl W.heap.size 3 i0 (.int .i64 0) 1 8 Tryz.underlying88 hi hz0 hz1 hz2 rfl (by decide) (.slice (some ⟨g3, 0, none⟩) 1 1) 1 (intsV [-1]) rfl HO4.out ⟨g4, 0, none⟩ (devsI (dataC l)).length c4 (intsV (devsI (dataC l))) rfl HLN.out HNW.out HON.out m1 m2 m3 ?_; intro v5 w5 hown5 hgrow5 _ _; obtain ⟨g5, c5, rfl⟩ := own_form1 hown5 hp1))
 have HB5 : Hid (Below W.heap.size W w5) := Lib.hid (below_own HB4.out HO4.out hgrow5 m3 (Nat.le_refl _))
 have hL5 : 1 + (devsI (dataC l)).length = D.length := by omega
 have HO5 : Hid (w5.ownsRow W.heap.size 3 1 (.slice (some ⟨g5, 0, none⟩) D.length c5) D.length (intsV D)) := Lib.hid (by
  have e : intsV D = intsV [-1] ++ intsV (devsI (dataC l)) := by rw [HDD.out]; rfl
  rw [e, ← hL5]
  exact hown5)
 have HN5 : Hid (¬ own g5) := Lib.hid (fun h => by
  have h1 := (HOW.out g5 h).1
  have h2 := (hown5.lt g5 rfl).1
  omega)
 have HJ5 : Hid (J (parTo l got 0) w5) := Lib.hid (HJ.out _ _ _ none H0.out (grown_of_below HB5.out) (fun r e => by cases e))
 rw [hL5]
 obtain ⟨n, hnn⟩ : ∃ n, n = D.length := ⟨_, rfl⟩
 have HNN := Lib.hid hnn
 have hn40 : n ≤ 40 := by omega
 rw [← hnn] at HO5 ⊢
 rw [show (1 : Int) + ((devsI (dataC l)).length : Int) = (n : Int) by omega]
 clear hown5 hgrow5 HO4 HNW HON HLN m1 m2 m3 hi hz0 hz1 hz2 hL5 hnn hDl
 have HK5 : Hid (KpO own W w5) := Lib.hid (KpO.of_below HB5.out)
 go_wp2_with fail
 go_loopw [18] (fun vi wr => ∃ k : Nat, vi = .int .i64 (k : Nat) ∧ k ≤ n ∧ Hid (J (parTo l got k) wr) ∧ Hid (KpO own W wr) ∧ Hid (KpO own w5 wr)) (fun vi _ => n - (intOf vi).toNat)
 case atStart => exact ⟨0, rfl, Nat.zero_le _, HJ5, HK5, Lib.hid (KpO.of_below (Below.refl _ _))⟩
 case round =>
  obtain ⟨k, rfl, hk, HJR, HKR, HKR5⟩ := hrel
  clear HJ5 HK5
  by_cases hkm : k < n
  ·have q1 : (k : Int) < (n : Int) := by omega
   have q2 : 0 ≤ (k : Int) := by omega
   obtain ⟨d, hd⟩ : ∃ d, d = D.getD k 0 := ⟨_, rfl⟩
   have ld := rowI_get (row_kp HO5.out HKR5.out (fun g e => by cases e; exact HN5.out)) (show k < D.length by rw [← HNN.out]; exact hkm)
   rw [← hd] at ld
   have HW := Lib.hid (HWC.out wr d HKR.out)
   have HST := Lib.hid (parTo_succ l got k (by rw [← HDD.out, ← HNN.out]; exact hkm))
   rw [← HDD.out, ← hd] at HST
   have HPR := Lib.hid (parTo_pre l got (show k + 1 ≤ n by omega))
   have HYQ : Hid (∀ Wq, Below wr.heap.size wr Wq → ∀ s : Bs, s.length ≤ 2048 → YieldAt Fence.wide nn Tryz.prog lp #[.int .i64 d, .string ⟨s.toArray⟩] Wq fun e W' => (e = .returned (.bool true) ∧ J (parTo l got k ++ [(d, s)]) W' ∧ KpO own Wq W') ∨ (e = .returned (.bool false) ∧ Jx (parTo l got k ++ [(d, s)]) W')) := Lib.hid (fun Wq hq s hs => HYY.out _ (d, s) Wq (HJ.out _ _ _ none HJR.out (grown_of_below hq) (fun r e => by cases e)) (by have := parTo_len l got k; omega) hs)
   obtain ⟨s, hs⟩ : ∃ s : Bs, s = withoutT l got d := ⟨_, rfl⟩
   have hsl : s.length ≤ 2048 := by rw [hs]; have := withoutT_len l got d HSMM.out; omega
   rw [← hs] at HW HST
   clear hd hs
   go_wp2_with fail
   refine HW.out.mono ?_
   rintro e w6 ⟨rfl, hb6⟩
   have HJ6 : Hid (J (parTo l got k) w6) := Lib.hid (HJ.out _ _ _ none HJR.out (grown_of_below hb6) (fun r e => by cases e))
   have HK6 := Lib.hid (HKR.out.trans (KpO.of_below hb6))
   have HK65 := Lib.hid (HKR5.out.trans (KpO.of_below hb6))
   have HY6 := Lib.hid (HYQ.out w6 hb6 s hsl)
   clear hb6 HW HYQ ld hsl
   cases s with
   | nil =>
    have HJ7 : Hid (J (parTo l got (k + 1)) w6) := Lib.hid (by rw [HST.out, if_pos rfl, List.append_nil]; exact HJ6.out)
    go_wp2_with fail
    go_roundw
    case rel => exact ⟨k + 1, by go_num, by omega, HJ7, HK6, HK65⟩
    case measure => simp [intOf]; omega
   | cons y0 yr =>
    have r2 : (y0 :: yr : Bs) ≠ [] := by simp
    rw [if_neg r2] at HST
    clear r2
    go_upto_region 5 with fail
    refine (wpIn_wide (n := nn + 1)).1 ?_
    obtain ⟨fn, tmps, assign, body, hy, hR⟩ := HY6.out
    repeat gi_step
    refine hR.mono ?_
    rintro e W3 (⟨rfl, hJ3, hk3⟩ | ⟨rfl, hJx3⟩)
    ·have HJ7 : Hid (J (parTo l got (k + 1)) W3) := Lib.hid (by rw [HST.out]; exact hJ3)
     have HK7 := Lib.hid (HK6.out.trans hk3)
     have HK75 := Lib.hid (HK65.out.trans hk3)
     clear hJ3 hk3 hR hy
     dsimp only
     repeat (first | gi_step | refine ⟨fun _ _ => trivial, ?_⟩)
     go_wp2_with fail
     go_roundw
     case rel => exact ⟨k + 1, by go_num, by omega, HJ7, HK7, HK75⟩
     case measure => simp [intOf]; omega
    ·have HX7 : Hid (Jx (parTo l got (k + 1)) W3) := Lib.hid (by rw [HST.out]; exact hJx3)
     have HPX : Hid (parTo l got (k + 1) <+: parTo l got D.length) := Lib.hid (by rw [← HNN.out]; exact HPR.out)
     clear hJx3 hR hy
     dsimp only
     repeat (first | gi_step | refine ⟨fun _ _ => trivial, ?_⟩)
     go_wp2_with fail
     refine bodyPost_ret (results_none rfl _ _ _) rfl ?_
     exact ⟨⟨_, rfl⟩, .inr ⟨_, HPX.out, HX7.out⟩⟩
  ·obtain rfl : k = n := by omega
   have q1 : ¬ (k : Int) < (k : Int) := by omega
   go_wp2_with fail
   go_end0
   exact ⟨⟨_, rfl⟩, .inl (by rw [← HNN.out]; exact HJR.out)⟩
end Go.Proofs.YtfaemcfjbbbbdaaGreat
namespace Go.Proofs.YtfaemcfjbbbbdaaGreat
open Go.RowKit
theorem dataC_append (a b : List ColT) : dataC (a ++ b) = dataC a ++ dataC b := by unfold dataC; rw [List.filter_append]
theorem parL_data (first wide at_ : Nat) : ∀ i, (dataC (parL first wide at_ i)).length = i
 | 0 => rfl
 | i + 1 => by
  have hS : ∀ out row, dataC (parS first wide at_ out row true) = dataC out := fun out row => by
   unfold parS; rw [dataC_append]; simp [dataC]
  have hF : ∀ out row, (dataC (parS first wide at_ out row false)).length = (dataC out).length + 1 := fun out row => by
   unfold parS; rw [dataC_append, List.length_append]; simp [dataC]
  unfold parL
  rw [hF]
  split
  ·rw [hS, parL_data first wide at_ i]
  ·rw [parL_data first wide at_ i]
def triesI (gs : Gs) (g a size : Nat) (got : List Bs) : List (Int × Bs) :=
 if (gs.getD g (0, 0)).1 = 0 then mirTo (colsL gs g a size) size got (gs.getD g (0, 0)).2.toNat else (parD (colsL gs g a size)).filterMap (parF (colsL gs g a size) got)
theorem abides_later {β : Type} {B B' : Nat} {J : β → World → Prop} (h : AbidesFrom B J) (hb : B ≤ B') : AbidesFrom B' J := fun s A W row hJ hg hr => h s A W row hJ hg (fun r e => ⟨Nat.le_trans hb (hr r e).1, (hr r e).2⟩)
set_option maxRecDepth 100000 in
set_option maxHeartbeats 1000000 in
theorem tries1_any (own : Nat → Prop) (b1 b2 b3 b4 : Nat) (ga : Option Addr) (gc : Nat) (gs : Gs) (secs : Int) (g a size : Nat) (gb cap : Nat) (got : List Bs) (nn lp : Nat) (J Jx : List (Int × Bs) → World → Prop) (W : World)
  (h1 : Blk W b1 24 [.slice ga gs.length gc, .int .i64 secs]) (h2 : Blk W b2 44 [.int .i64 (g : Nat), .int .i64 (a : Nat)]) (h3 : Blk W b3 3 [.int .i64 (size : Nat)]) (h4 : Blk W b4 59 [.slice (some ⟨gb, 0, none⟩) got.length cap])
  (hg : GSl W ga gs.length gc gs) (hm : mayC gs secs g a size = true) (hgt : SSl W (some ⟨gb, 0, none⟩) got.length cap (bts got)) (hl : got.length = (colsL gs g a size).length) (hf : got.all fit1 = true)
  (ho : ∀ k, own k → k < W.heap.size ∧ k ≠ gb) (hJ : AbidesFrom W.heap.size J)
  (hY : ∀ pre x W1, J pre W1 → pre.length < 1000 → x.2.length ≤ 2048 → YieldAt Fence.wide nn Tryz.prog lp (encTr x) W1 fun e W' => (e = .returned (.bool true) ∧ J (pre ++ [x]) W' ∧ KpO own W1 W') ∨ (e = .returned (.bool false) ∧ Jx (pre ++ [x]) W')) (h0 : J [] W) :
  Calls Tryz.prog 127 #[.func (.yield lp) #[] #[], .pointer (some ⟨b1, 0, none⟩), .pointer (some ⟨b2, 0, none⟩), .pointer (some ⟨b3, 0, none⟩), .pointer (some ⟨b4, 0, none⟩)] W fun e W' => (∃ v, e = .returned v) ∧ ((∃ ys, ys = triesI gs g a size got ∧ J ys W') ∨ (∃ pre, pre <+: triesI gs g a size got ∧ Jx pre W')) := by
 have hFI := cfits_any ga gc gs secs g a size W hg hm got (some ⟨gb, 0, none⟩) cap hgt hl
 rw [hf] at hFI
 have HFI := Lib.hid hFI
 have hLl := colsL_len hm
 have hms := mayC_spec hm
 have hgl : g < gs.length := by have := hms.2.2.1; omega
 have hs1 : 0 < size := by have := hms.2.2.2.1; omega
 have hgr := getD_right hms.1 hgl
 have HGC : Hid (∀ W', Below W.heap.size W W' → ∃ b off, ga = some ⟨b, off, none⟩ ∧ W'.cell? ⟨b, off + g * 2, none⟩ = some (.int .i64 (gs.getD g (0, 0)).1)) := Lib.hid (fun W' hW => by
  obtain ⟨b, off, e, _, hc⟩ := (hg.below hW).at_ (by omega)
  exact ⟨b, off, e, (hc g hgl).1⟩)
 have HCO : Hid (∀ W', Below W.heap.size W W' → Calls Tryz.prog 25 #[.agg #[.slice ga gs.length gc, .int .i64 secs], .agg #[.int .i64 (g : Nat), .int .i64 (a : Nat)], .int .i64 (size : Nat)] W' fun e w' => ∃ v, e = .returned (.tuple #[v, .int .i64 0]) ∧ w'.ownsRow W'.heap.size 78 4 v (colsL gs g a size).length (encC (colsL gs g a size)) ∧ Below W'.heap.size W' w') := Lib.hid (fun W' hW => cof_yes ga gs.length gc gs secs g a size W' (hg.below hW) hm)
 have hsm : ∀ s ∈ got, s.length ≤ 64 := fun s hs => by
  have := List.all_eq_true.1 hf s hs
  unfold fit1 at this
  simp only [decide_eq_true_eq] at this
  rcases this with rfl | h
  ·simp
  ·omega
 have HMI : Hid ((gs.getD g (0, 0)).1 = 0 → ∀ gl lc W', W.heap.size ≤ gl → RSl W' 4 (some ⟨gl, 0, none⟩) (colsL gs g a size).length lc (encC (colsL gs g a size)) → Below W.heap.size W W' → Calls Tryz.prog 129 #[.slice (some ⟨gl, 0, none⟩) (colsL gs g a size).length lc, .int .i64 (size : Nat), .slice (some ⟨gb, 0, none⟩) got.length cap, .func (.yield lp) #[] #[]] W' fun e W' => (∃ v, e = .returned v) ∧ ((∃ ys, ys = triesI gs g a size got ∧ J ys W') ∨ (∃ pre, pre <+: triesI gs g a size got ∧ Jx pre W'))) := Lib.hid (fun hk gl lc W' hb hl2 hW => by
  have e : triesI gs g a size got = mirTo (colsL gs g a size) size got (gs.getD g (0, 0)).2.toNat := by unfold triesI; rw [if_pos hk]
  rw [e]
  exact cmirror_any own gl lc _ gb cap got size (gs.getD g (0, 0)).2.toNat nn lp J Jx W' hl2 (SSl.below hgt hW) hl hLl.2 hs1 (by unfold colsL; rw [if_pos hk, mirL_length]) hsm ⟨fun h => by have := (ho _ h).1; omega, fun h => (ho _ h).2 rfl⟩ (abides_later hJ hW.size) hY (hJ _ _ _ none h0 (grown_of_below hW) (fun r e => by cases e)))
 have HPA : Hid ((gs.getD g (0, 0)).1 ≠ 0 → ∀ gl lc W', W.heap.size ≤ gl → RSl W' 4 (some ⟨gl, 0, none⟩) (colsL gs g a size).length lc (encC (colsL gs g a size)) → Below W.heap.size W W' → Calls Tryz.prog 130 #[.slice (some ⟨gl, 0, none⟩) (colsL gs g a size).length lc, .slice (some ⟨gb, 0, none⟩) got.length cap, .func (.yield lp) #[] #[]] W' fun e W' => (∃ v, e = .returned v) ∧ ((∃ ys, ys = triesI gs g a size got ∧ J ys W') ∨ (∃ pre, pre <+: triesI gs g a size got ∧ Jx pre W'))) := Lib.hid (fun hk gl lc W' hb hl2 hW => by
  have e : triesI gs g a size got = (parD (colsL gs g a size)).filterMap (parF (colsL gs g a size) got) := by unfold triesI; rw [if_neg hk]
  rw [e]
  exact cparity_any own gl lc _ gb cap got nn lp J Jx W' hl2 (SSl.below hgt hW) hl hLl.2 (by unfold colsL; rw [if_neg hk, parL_data]; exact hs1) hsm (fun k h => ⟨by have := (ho _ h).1; have := hW.size; omega, by have := (ho _ h).1; omega, (ho _ h).2⟩) (abides_later hJ hW.size) hY (hJ _ _ _ none h0 (grown_of_below hW) (fun r e => by cases e)))
 have HX1 := Lib.hid h1
 have HX2 := Lib.hid h2
 have HX3 := Lib.hid h3
 have HX4 := Lib.hid h4
 have x0 := h1.cell 0
 have x1 := h1.cell 1
 have y0 := h2.cell 0
 have y1 := h2.cell 1
 have z0 := h3.cell 0
 have z1 := h4.cell 0
 obtain ⟨T, hT⟩ : ∃ T, T = triesI gs g a size got := ⟨_, rfl⟩
 obtain ⟨L, hL⟩ : ∃ L, L = colsL gs g a size := ⟨_, rfl⟩
 obtain ⟨kd, hkd⟩ : ∃ kd, kd = (gs.getD g (0, 0)).1 := ⟨_, rfl⟩
 rw [← hT, ← hL, ← hkd] at HMI HPA
 rw [← hT]
 rw [← hL] at HCO hLl
 rw [← hkd] at HGC
 clear h1 h2 h3 h4 hg hm hgt hl hf ho hJ hY h0 hFI hT hL hkd hsm hms hgr
 have q1 : (g : Int) < (gs.length : Int) := by omega
 have q2 : 0 ≤ (g : Int) := by omega
 go_enter Tryz.func127, Tryz.ntmps127
 go_wp2_with fail
 refine HFI.out.mono ?_
 rintro e w1 ⟨rfl, hb1⟩
 have HB1 := Lib.hid hb1
 have x0 := (HX1.out.below hb1).cell 0
 have x1 := (HX1.out.below hb1).cell 1
 have y0 := (HX2.out.below hb1).cell 0
 have y1 := (HX2.out.below hb1).cell 1
 have z0 := (HX3.out.below hb1).cell 0
 have HC := Lib.hid (HCO.out w1 hb1)
 clear hb1 HFI
 go_wp2_with fail
 refine HC.out.mono ?_
 rintro e w2 ⟨v2, rfl, hrow2, hb2⟩
 obtain ⟨gl, lc, rfl⟩ := own_form1 hrow2 (by omega)
 have HB2 := Lib.hid (HB1.out.trans (hb2.mono HB1.out.size))
 have HLR := Lib.hid (rsl_of_owns hrow2)
 have HLB : Hid (W.heap.size ≤ gl) := Lib.hid (Nat.le_trans HB1.out.size (hrow2.lt gl rfl).1)
 obtain ⟨b, off, rfl, hkc⟩ := HGC.out w2 HB2.out
 have x0 := (HX1.out.below HB2.out).cell 0
 have y0 := (HX2.out.below HB2.out).cell 0
 have z0 := (HX3.out.below HB2.out).cell 0
 have z1 := (HX4.out.below HB2.out).cell 0
 clear hrow2 hb2 HC
 by_cases hk : kd = 0
 ·have HM := Lib.hid (HMI.out hk gl lc w2 HLB.out HLR.out HB2.out)
  have q3 : (kd == 0) = true := by simp [hk]
  clear HMI HPA
  go_wp2_with fail
  refine HM.out.mono ?_
  rintro e w3 ⟨⟨v, rfl⟩, hfin⟩
  have HF := Lib.hid hfin
  clear hfin
  go_wp2_with fail
  go_end0
  exact ⟨⟨_, rfl⟩, HF.out⟩
 ·have HM := Lib.hid (HPA.out hk gl lc w2 HLB.out HLR.out HB2.out)
  have q3 : (kd == 0) = false := by simp [hk]
  clear HMI HPA
  go_wp2_with fail
  refine HM.out.mono ?_
  rintro e w3 ⟨⟨v, rfl⟩, hfin⟩
  have HF := Lib.hid hfin
  clear hfin
  go_wp2_with fail
  go_end0
  exact ⟨⟨_, rfl⟩, HF.out⟩
theorem tries_any (ga : Option Addr) (gn gc : Nat) (secs g a size : Int) (v : Value) (hv : ∃ ao n c, v = .slice ao n c) (w : World) :
  Calls Tryz.prog 113 #[.agg #[.slice ga gn gc, .int .i64 secs], .agg #[.int .i64 g, .int .i64 a], .int .i64 size, v] w fun e w' => e = .returned (.func (.func 127) #[] #[.pointer (some ⟨w.heap.size, 0, none⟩), .pointer (some ⟨w.heap.size + 1, 0, none⟩), .pointer (some ⟨w.heap.size + 2, 0, none⟩), .pointer (some ⟨w.heap.size + 3, 0, none⟩)]) ∧
   w' = (((w.alloc (.cells #[.slice ga gn gc, .int .i64 secs] 24)).alloc (.cells #[.int .i64 g, .int .i64 a] 44)).alloc (.cells #[.int .i64 size] 3)).alloc (.cells #[v] 59) := by
 obtain ⟨ao, n, c, rfl⟩ := hv
 go_enter Tryz.func113, Tryz.ntmps113
 go_wp2_with fail
 go_ret
 exact ⟨rfl, rfl⟩
end Go.Proofs.YtfaemcfjbbbbdaaGreat
namespace Go.Proofs.YtfaemcfjbbbbdaaGreat
open Go.RowKit
def AbidesAll {β : Type} (B : Nat) (J : β → World → Prop) : Prop := ∀ s A W row, J s A → A.grownBy W row → (∀ r, row = some r → B ≤ r) → J s W
def Feeds {α : Type} (P : Program) (n gf : Nat) (lb : Array Value) (encs : α → Array Value) (own : Nat → Prop) (xs : List α) (w0 : World) : Prop :=
 ∀ (l : Nat) (J : List α → World → Prop) (W : World), Below w0.heap.size w0 W → AbidesAll W.heap.size J →
  (∀ pre x W1, J pre W1 → pre.length < xs.length → YieldAt Fence.wide n P l (encs x) W1 fun e W' => e = .returned (.bool true) ∧ J (pre ++ [x]) W' ∧ KpO own W1 W') →
  J [] W → Calls P gf (#[.func (.yield l) #[] #[]] ++ lb) W fun e W' => (∃ v, e = .returned v) ∧ J xs W'
def roundP {α : Type} (own : Nat → Prop) (I : List α → World → Prop) (xs : List α) (W : World) : Exit → Act → World → Prop
 | .normal, _, W' => Mod own W W' ∧ I xs W'
 | _, _, _ => False
theorem wpIn_range_feeds {P : Program} {α : Type} {n : Nat} {g : Operand} {ps : Array Tmp} {assign body : Code} {Q : Exit → Act → World → Prop} {a : Act} {w : World}
  {gf : Nat} {lb : Array Value} (hg : a.eval g = .func (.func gf) #[] lb) (eg : ∀ args w, (callFunc gf args).run P w = .ok (.enter gf args) w)
  {encs : α → Array Value} {own : Nat → Prop} {xs : List α} (hps : ∀ x, (encs x).size = ps.size) (hseq : Feeds P n gf lb encs own xs w)
  (I : List α → World → Prop) (hI : AbidesAll w.heap.size I) (h0 : I [] w) (hown : ∀ k, own k → k < w.heap.size)
  (hround : ∀ (l : Nat) (pre : List α) (x : α) (W : World), w.heap.size ≤ l → pre.length < xs.length → I pre W → l < W.heap.size →
   assign.wpIn (Fence.wide.inRound l) n P (Exit.then (fun a1 W1 => W1 = W ∧ ∀ Wb : World, I pre Wb → body.wpIn (Fence.wide.inRound l) n P (roundP own I (pre ++ [x]) Wb) a1 Wb) (fun _ _ _ => False)) { tmps := (ps.zip (encs x)).foldl (fun t (p, v) => t.setIfInBounds p v) a.tmps, defers := [] } W)
  (hdone : ∀ (D : Nat) (W : World), w.heap.size ≤ D → I xs W → W.heap[D]? = some (.deferred (some [])) → Q .normal { a with defers := { target := .collected D, args := #[] } :: a.defers } W) :
  (Code.rangeFunc g ps assign body).wpIn Fence.wide n P Q a w := by
 refine wpIn_rangeFunc ?_
 intro fn hfn
 obtain ⟨rc, hrc⟩ : ∃ rc : LoopState → Loop, rc = fun st => { state := st, pending := none, fn, tmps := a.tmps, params := ps, assign, body, defers := w.heap.size } := ⟨_, rfl⟩
 obtain ⟨W1, hW1⟩ : ∃ W1, (w.alloc (.deferred (some []))).alloc (.loop (rc .ready)) = W1 := ⟨_, rfl⟩
 have hs1 : W1.heap.size = w.heap.size + 2 := by rw [← hW1]; simp
 have hL1 : W1.heap[w.heap.size + 1]? = some (.loop (rc .ready)) := by
  rw [← hW1]
  have := World.alloc_heap_new (w.alloc (.deferred (some []))) (.loop (rc .ready))
  rwa [World.size_alloc] at this
 have hK1 : W1.heap[w.heap.size]? = some (.deferred (some [])) := by
  rw [← hW1]
  exact (Below.heap_alloc _ _ _ (by simp)).trans (World.alloc_heap_new w _)
 have hbW : Below w.heap.size w W1 := by rw [← hW1]; exact ((Below.refl _ w).alloc (Nat.le_refl _) _).alloc (by simp) _
 have hI1 : I [] W1 := hI _ _ _ none h0 (grown_of_below hbW) (fun r e => by cases e)
 refine ⟨w.heap.size + 1, [{ target := .collected w.heap.size, args := #[] }], W1, { target := .fn (.func gf) lb, args := #[.func (.yield (w.heap.size + 1)) #[] #[]] }, W1, gf,
  #[.func (.yield (w.heap.size + 1)) #[] #[]] ++ lb, W1, ?_, ?_, ?_, ?_, fun h => Bool.noConfusion h, ?_⟩
 ·rw [← hW1, hrc]; exact run_enterLoop_outer _ _ _ _ _
 ·simp only [resolve, hg]
  simp [go_sem]
 ·exact fun _ _ => trivial
 ·simp [invoke, go_sem, eg]
 ·refine (callsIn_wide.2 (hseq (w.heap.size + 1) (fun pre W => I pre W ∧ W.heap[w.heap.size + 1]? = some (.loop (rc .ready)) ∧ W.heap[w.heap.size]? = some (.deferred (some []))) W1 hbW ?_ ?_ ⟨hI1, hL1, hK1⟩)).mono ?_
  ·rintro s A B row ⟨h1, h2, h3⟩ hgr hr
   have hA : w.heap.size + 1 < A.heap.size := (Array.getElem?_eq_some_iff.1 h2).1
   refine ⟨hI s A B row h1 hgr (fun r e => by have := hr r e; omega), ?_, ?_⟩
   ·rw [hgr.block _ hA (fun e => by have := hr _ e.symm; omega)]; exact h2
   ·rw [hgr.block _ (by omega) (fun e => by have := hr _ e.symm; omega)]; exact h3
  ·rintro pre x W ⟨hi, hl, hk⟩ hlen
   have hlt : w.heap.size + 1 < W.heap.size := (Array.getElem?_eq_some_iff.1 hl).1
   have hy := run_yield (P := P) (args := encs x) hl (by rw [hrc]; exact hps x)
   rw [hrc] at hy
   refine ⟨fn, _, assign, body, hy, roundIn_of_wpIn hfn (wpIn_mono (hround _ pre x W (by omega) hlen hi hlt) ?_)⟩
   clear hy
   rintro e a1 W2 hp
   cases e with
   | normal =>
    obtain ⟨rfl, hb⟩ := hp
    refine ⟨_, run_beginRound hl (by rw [hrc]), ?_⟩
    have hgb := grownBy_putObj' W2 (w.heap.size + 1) (.loop { rc .ready with state := .busy })
    have hl2 : (W2.putObj (w.heap.size + 1) (.loop { rc .ready with state := .busy })).heap[w.heap.size + 1]? = some (.loop { rc .ready with state := .busy }) := World.putObj_heap_same hlt
    have hk2 : (W2.putObj (w.heap.size + 1) (.loop { rc .ready with state := .busy })).heap[w.heap.size]? = some (.deferred (some [])) := (World.putObj_heap_other (by omega)).trans hk
    have hi2 : I pre (W2.putObj (w.heap.size + 1) (.loop { rc .ready with state := .busy })) := hI _ _ _ _ hi hgb (fun r e => by cases e; omega)
    refine wpIn_mono (hb _ hi2) ?_
    rintro e a3 W3 hp3
    cases e with
    | normal =>
     obtain ⟨hm, hi3⟩ := hp3
     have hno : ∀ k, w.heap.size ≤ k → ¬ own k := fun k h1 h2 => by have := hown k h2; omega
     have hs2 : w.heap.size + 1 < (W2.putObj (w.heap.size + 1) (.loop { rc .ready with state := .busy })).heap.size := (Array.getElem?_eq_some_iff.1 hl2).1
     have hl3 := (hm.block _ hs2 (hno _ (by omega))).trans hl2
     have hk3 := (hm.block _ (Array.getElem?_eq_some_iff.1 hk2).1 (hno _ (Nat.le_refl _))).trans hk2
     have hr := run_endRound (P := P) none hl3
     have hlt3 : w.heap.size + 1 < W3.heap.size := (Array.getElem?_eq_some_iff.1 hl3).1
     have hg3 := grownBy_putObj' W3 (w.heap.size + 1) (.loop (rc .ready))
     have er : (Instr.endRound (w.heap.size + 1) none).run P W3 = .ok (.bool true) (W3.putObj (w.heap.size + 1) (.loop (rc .ready))) := by rw [hr, hrc]; rfl
     refine ⟨_, _, er, rfl, ⟨hI _ _ _ _ hi3 hg3 (fun r e => by cases e; omega), World.putObj_heap_same hlt3, (World.putObj_heap_other (by omega)).trans hk3⟩, ?_⟩
     refine ((KpO.putObj W2 (w.heap.size + 1) _ _ hl rfl).trans ⟨hm.size, fun k cs e fr hk _ => ?_⟩).trans (KpO.putObj W3 (w.heap.size + 1) _ _ hl3 rfl)
     rw [hm.block k (Array.getElem?_eq_some_iff.1 hk).1 (by assumption)]
     exact hk
    | _ => exact hp3.elim
   | _ => exact hp.elim
  ·rintro e W2 ⟨⟨v, rfl⟩, hi, hl, hk⟩
   have hg2 := grownBy_putObj' W2 (w.heap.size + 1) (.loop (rc .done))
   have hend := run_endLoop (P := P) hl (by rw [hrc]; simp)
   refine ⟨none, _, by rw [hrc] at hend; exact hend, hdone _ _ (Nat.le_refl _) (hI _ _ _ _ hi (grownBy_putObj' W2 (w.heap.size + 1) _) (fun r e => by cases e; omega)) ((World.putObj_heap_other (by omega)).trans hk)⟩
end Go.Proofs.YtfaemcfjbbbbdaaGreat
namespace Go.Proofs.YtfaemcfjbbbbdaaGreat
open Go.RowKit
def wordsL (s : Bs) : List Nat := (List.range ((padTo s 4).length / 4)).map (word4 (padTo s 4))
theorem wordsL_length (s : Bs) : (wordsL s).length = (padTo s 4).length / 4 := by simp [wordsL]
theorem sumF_words (s : Bs) : sumF s = sumW (wordsL s) (0, 0, 0, 0) := rfl
theorem padTo_mod (s : Bs) : (padTo s 4).length % 4 = 0 ∧ (padTo s 4).length ≤ s.length + 3 := by
 have : (padTo s 4).length = s.length + (4 - s.length % 4) % 4 := by simp [padTo, zeros]
 omega
theorem wordsL_take (s : Bs) (k : Nat) (h : k < (wordsL s).length) : (wordsL s).take (k + 1) = (wordsL s).take k ++ [word4 (padTo s 4) k] := by
 rw [List.take_succ_eq_append_getElem h]
 simp [wordsL]
theorem grown_of_mod {w w' : World} {b : Nat} (h : Mod (fun x => x = b) w w') : w.grownBy w' (some b) := ⟨h.os, h.tape, h.output, h.size, fun k hk hne => h.block k hk (fun e => hne (by rw [e]))⟩
attribute [local go_sem] Oper.semAt_some
attribute [local go_sem ↓] Go.wp_at_zero Go.wp_at_succ
def encWd (x : Nat) : Array Value := #[.int .u64 (x : Nat)]
set_option maxRecDepth 100000 in
set_option maxHeartbeats 1000000 in
theorem words1_any (own : Nat → Prop) (b1 : Nat) (s : Bs) (nn lp : Nat) (J : List Nat → World → Prop) (W : World) (h1 : Blk W b1 9 [.string ⟨s.toArray⟩]) (hs : s.length ≤ 3000) (ho : ∀ k, own k → k < W.heap.size) (hJ : AbidesAll W.heap.size J)
  (hY : ∀ pre x W1, J pre W1 → pre.length < (wordsL s).length → YieldAt Fence.wide nn Tryz.prog lp (encWd x) W1 fun e W' => e = .returned (.bool true) ∧ J (pre ++ [x]) W' ∧ KpO own W1 W') (h0 : J [] W) :
  Calls Tryz.prog 95 #[.func (.yield lp) #[] #[], .pointer (some ⟨b1, 0, none⟩)] W fun e W' => (∃ v, e = .returned v) ∧ J (wordsL s) W' := by
 have x0 := h1.cell 0
 have HPD := Lib.hid (le_Pad_any s 4 W (by omega) (by omega) (by omega))
 obtain ⟨hpm, hpl⟩ := padTo_mod s
 have hwl := wordsL_length s
 obtain ⟨p, hp⟩ : ∃ p, p = padTo s 4 := ⟨_, rfl⟩
 rw [← hp] at HPD hpm hpl hwl
 have HPP := Lib.hid hp
 obtain ⟨m, hm⟩ : ∃ m, m = (wordsL s).length := ⟨_, rfl⟩
 have hpm4 : p.length = 4 * m := by omega
 rw [← hm] at hY
 have HMM := Lib.hid hm
 have HJ := Lib.hid hJ
 have HYY := Lib.hid hY
 have HOW := Lib.hid ho
 have H0 := Lib.hid h0
 clear h1 ho hJ hY h0 hp hwl hm hpm
 go_enter Tryz.func95, Tryz.ntmps95
 go_wp2_with fail
 refine HPD.out.mono ?_
 rintro e w1 ⟨rfl, hb1⟩
 have HN := Lib.hid (le_New_any p w1)
 clear x0
 go_wp2_with fail
 refine HN.out.mono ?_
 rintro e w2 ⟨rfl, hw2⟩
 obtain ⟨rb, hrb⟩ : ∃ rb, rb = w1.heap.size := ⟨_, rfl⟩
 have hb2 : Below w1.heap.size w1 w2 := by rw [hw2]; exact (Below.refl _ _).alloc (Nat.le_refl _) _
 have HB2 := Lib.hid (hb1.trans (hb2.mono hb1.size))
 have HRD : Hid (RdAt w2 rb p 0) := Lib.hid (by rw [hw2, hrb]; exact Blk.new _ _ _)
 have HRB : Hid (W.heap.size ≤ rb) := Lib.hid (by rw [hrb]; exact hb1.size)
 have HNO : Hid (¬ own rb) := Lib.hid (fun h => by have := HOW.out rb h; have := HRB.out; omega)
 have HJ2 : Hid (J ((wordsL s).take 0) w2) := Lib.hid (HJ.out _ _ _ none H0.out (grown_of_below HB2.out) (fun r e => by cases e))
 rw [← hrb]
 clear hw2 hrb hb1 hb2 HN HPD H0
 go_wp2_with fail
 go_loopg [4] m (fun gh v4 wr => ∃ k : Nat, k ≤ m ∧ m - k ≤ gh ∧ Hid (RdAt wr rb p (4 * k)) ∧ Hid (J ((wordsL s).take k) wr) ∧ Hid (W.heap.size ≤ wr.heap.size))
 case atStart => exact ⟨0, by omega, by omega, HRD, HJ2, Lib.hid HB2.out.size⟩
 case round =>
  obtain ⟨k, hk, hgh, HR, HJR, HSZ⟩ := hrel
  clear HJ2 HRD HB2
  have HL := Lib.hid (le_Left_any rb p (4 * k) wr HR.out (by omega) (by omega))
  go_wp2_with fail
  refine HL.out.mono ?_
  rintro e w3 ⟨rfl, nd, rfl⟩
  have hb3 : Below wr.heap.size wr (wr.drewN nd) := ⟨rfl, rfl, rfl, Nat.le_refl _, fun _ _ => rfl⟩
  obtain ⟨w3, hw3⟩ : ∃ w3, w3 = wr.drewN nd := ⟨_, rfl⟩
  rw [← hw3] at hb3 ⊢
  have HR3 : Hid (RdAt w3 rb p (4 * k)) := Lib.hid (Blk.below HR.out hb3)
  have HJ3 : Hid (J ((wordsL s).take k) w3) := Lib.hid (HJ.out _ _ _ none HJR.out (grown_of_below hb3) (fun r e => by cases e))
  have HS3 : Hid (W.heap.size ≤ w3.heap.size) := Lib.hid (Nat.le_trans HSZ.out hb3.size)
  clear hw3 hb3 HL HR HJR HSZ
  by_cases hkm : k < m
  ·have q1 : (0 : Int) < (p.length : Int) - (4 * k : Nat) := by omega
   have HU := Lib.hid (rd_U32_any rb p (4 * k) w3 HR3.out (by omega) (by omega))
   obtain ⟨x, hx⟩ : ∃ x, x = leN (sub p (4 * k) 4) := ⟨_, rfl⟩
   have hx4 : x < 4294967296 := by rw [hx]; exact num4 p (4 * k) (by omega)
   rw [← hx] at HU
   have HTK : Hid ((wordsL s).take (k + 1) = (wordsL s).take k ++ [x]) := Lib.hid (by rw [wordsL_take s k (by rw [← HMM.out]; exact hkm), hx, HPP.out]; rfl)
   have HLN : Hid (((wordsL s).take k).length < m) := Lib.hid (by rw [List.length_take]; omega)
   have hcv : IntKind.u64.wrap (x : Int) = (x : Int) := IntWalk.u64_in _ (by omega)
   have HCV := Lib.hid hcv
   clear hx hcv
   go_wp2_with fail
   refine HU.out.mono ?_
   rintro e w4 ⟨rfl, hr4, hm4⟩
   have HR4 : Hid (RdAt w4 rb p (4 * (k + 1))) := Lib.hid (by rw [Nat.mul_succ]; exact hr4)
   have HJ4 : Hid (J ((wordsL s).take k) w4) := Lib.hid (HJ.out _ _ _ _ HJ3.out (grown_of_mod hm4) (fun r e => by cases e; exact HRB.out))
   have HS4 : Hid (W.heap.size ≤ w4.heap.size) := Lib.hid (Nat.le_trans HS3.out hm4.size)
   have HY4 := Lib.hid (HYY.out _ x w4 HJ4.out HLN.out)
   clear hr4 hm4 HU
   go_upto_region 3 with fail
   refine (wpIn_wide (n := nn + 1)).1 ?_
   obtain ⟨fn, tmps, assign, body, hy, hR⟩ := HY4.out
   have hy : (Instr.yield lp #[Value.int .u64 (x : Int)]).run Tryz.prog w4 = _ := hy
   repeat gi_step
   refine hR.mono ?_
   rintro e W3 ⟨rfl, hJ5, hk5⟩
   have HJ5 : Hid (J ((wordsL s).take (k + 1)) W3) := Lib.hid (by rw [HTK.out]; exact hJ5)
   have HR5 : Hid (RdAt W3 rb p (4 * (k + 1))) := Lib.hid (Blk.kp HR4.out hk5 HNO.out)
   have HS5 : Hid (W.heap.size ≤ W3.heap.size) := Lib.hid (Nat.le_trans HS4.out hk5.size)
   clear hJ5 hk5 hR hy
   dsimp only
   repeat gi_step
   go_wp2_with fail
   go_roundg (m - (k + 1))
   case measure => omega
   case rel => exact ⟨k + 1, by omega, Nat.le_refl _, HR5, HJ5, HS5⟩
  ·obtain rfl : k = m := by omega
   have q1 : ¬ (0 : Int) < (p.length : Int) - (4 * k : Nat) := by omega
   have HFN : Hid ((wordsL s).take k = wordsL s) := Lib.hid (by rw [HMM.out, List.take_length])
   go_wp2_with fail
   go_end0
   exact ⟨⟨_, rfl⟩, by rw [← HFN.out]; exact HJ3.out⟩
theorem words_any (s : Bs) (w : World) : Calls Tryz.prog 71 #[.string ⟨s.toArray⟩] w fun e w' => e = .returned (.func (.func 95) #[] #[.pointer (some ⟨w.heap.size, 0, none⟩)]) ∧ w' = w.alloc (.cells #[.string ⟨s.toArray⟩] 9) := by
 go_enter Tryz.func71, Tryz.ntmps71
 go_wp2_with fail
 go_ret
 exact ⟨rfl, rfl⟩
theorem words_feeds (own : Nat → Prop) (nn b1 : Nat) (s : Bs) (w0 : World) (h1 : Blk w0 b1 9 [.string ⟨s.toArray⟩]) (hs : s.length ≤ 3000) (ho : ∀ k, own k → k < w0.heap.size) :
  Feeds Tryz.prog nn 95 #[.pointer (some ⟨b1, 0, none⟩)] encWd own (wordsL s) w0 := fun l J W hW hJ hY h0 =>
 words1_any own b1 s nn l J W (h1.below hW) hs (fun k hk => Nat.lt_of_lt_of_le (ho k hk) hW.size) hJ hY h0
def encSm (x : Nat × Nat × Nat × Nat) : List Value := [.int .u64 (x.1 : Nat), .int .u64 (x.2.1 : Nat), .int .u64 (x.2.2.1 : Nat), .int .u64 (x.2.2.2 : Nat)]
theorem u64_mod (x : Nat) : IntKind.u64.wrap (x : Int) = ((x % m64 : Nat) : Int) := by
 show (x : Int) % 18446744073709551616 = _
 unfold m64
 omega
def sumStep (x : Nat × Nat × Nat × Nat) (w : Nat) : Nat × Nat × Nat × Nat := sumW [w] x
theorem sumW_append (l : List Nat) : ∀ (r : List Nat) (x : Nat × Nat × Nat × Nat), sumW (l ++ r) x = sumW r (sumW l x) := by
 induction l with
 | nil => intro r x; rfl
 | cons a l ih => intro r x; obtain ⟨x0, x1, x2, x3⟩ := x; exact ih r _
theorem Blk.own1 {W W' : World} {g e : Nat} {cs : List Value} {row : Option Nat} (h : Blk W g e cs) (hg : W.grownBy W' row) (hr : ∀ r, row = some r → ∃ o : Obj, W.heap[r]? = some o ∧ o.isCells = false) : Blk W' g e cs := by
 unfold Blk
 rw [hg.block g h.lt (fun e2 => ?_)]
 ·exact h
 ·obtain ⟨o, h2, h3⟩ := hr g e2.symm
  unfold Blk at h
  rw [h] at h2
  have := Option.some.inj h2
  subst this
  cases h3
theorem infoSm : (Tryz.prog.info? 47).map (·.size) = some 4 := by kernel_rfl
theorem results_sum {fn : Func} {p : Tmp} (h : fn.results = #[.cell p 47]) (tmps : Array Value) (w : World) (g : Nat) (x : Nat × Nat × Nat × Nat)
  (hp : tmps.getD p undef = .pointer (some ⟨g, 0, none⟩)) (hg : Blk w g 47 (encSm x)) : (results fn tmps).run Tryz.prog w = .ok (.agg (encSm x).toArray) w := by
 have hp' : tmps[p]?.getD undef = .pointer (some ⟨g, 0, none⟩) := by simpa using hp
 have e1 := run_loadVar_mid (P := Tryz.prog) w g 0 47 (encSm x) _ (fun j v hv => by rw [Nat.zero_add, hg.cell, hv]) Tryz.underlying47 rfl infoSm
 simp [results, h, hp', asAddr, e1]
set_option maxRecDepth 100000 in
set_option maxHeartbeats 1000000 in
theorem more_any (x : Nat × Nat × Nat × Nat) (s : Bs) (hs : s.length ≤ 3000) (w : World) : Calls Tryz.prog 40 #[.agg (encSm x).toArray, .string ⟨s.toArray⟩] w fun e w' => e = .returned (.agg (encSm (sumW (wordsL s) x)).toArray) ∧ Below w.heap.size w w' := by
 have HW := Lib.hid (fun W => words_any s W)
 refine (callsIn_wide (n := 10)).1 (callsIn_of_wp_marks Tryz.func40 rfl trivial ?_ rfl)
 refine wpIn_wide.2 ?_
 simp only [Tryz.ntmps40, List.size_toArray, List.length_cons, List.length_nil, Nat.reduceAdd, Nat.reduceSub, Array.replicate_succ, Array.replicate_zero, List.push_toArray, List.append_toArray, List.nil_append, List.cons_append]
 go_wp2_with fail
 refine (HW.out _).mono ?_
 rintro e w1 ⟨rfl, rfl⟩
 go_wp2_with fail
 obtain ⟨W0, hW0⟩ : ∃ W0, W0 = (((w.alloc (.cells (encSm x).toArray 47)).alloc (.cells #[.int .u64 0, .int .u64 0, .int .u64 0, .int .u64 0] 47)).alloc (.cells #[.string ⟨s.toArray⟩] 9)) := ⟨_, rfl⟩
 have k0 : Blk W0 w.heap.size 47 (encSm x) := by rw [hW0]; exact ((Blk.new w _ _).alloc _).alloc _
 have k1 : Blk W0 (w.heap.size + 1) 47 (encSm (0, 0, 0, 0)) := by rw [hW0]; exact (Blk.newAt (w := w.alloc _) _ _ (by simp)).alloc _
 have k2 : Blk W0 (w.heap.size + 2) 9 [.string ⟨s.toArray⟩] := by rw [hW0]; exact Blk.newAt (w := (w.alloc _).alloc _) _ _ (by simp)
 have hb0 : Below w.heap.size w W0 := by rw [hW0]; exact (((Below.refl _ _).alloc (Nat.le_refl _) _).alloc (by simp) _).alloc (by simp; omega) _
 have hsz : W0.heap.size = w.heap.size + 3 := by rw [hW0]; simp
 rw [← hW0]
 clear hW0 HW
 simp only [Nat.add_assoc, Nat.reduceAdd]
 refine (wpIn_wide (n := 10)).1 (wpIn_range_feeds (ps := #[9]) rfl (enters_of Tryz.func95 (by kernel_rfl) rfl) (encs := fun x : Nat => #[Value.int .u64 (x : Int)]) (fun _ => rfl)
  (words_feeds (fun k => k = w.heap.size) 10 (w.heap.size + 2) s W0 k2 hs (fun k hk => by omega))
  (fun pre W => Blk W w.heap.size 47 (encSm (sumW pre x)) ∧ Blk W (w.heap.size + 1) 47 (encSm (0, 0, 0, 0)) ∧ Below w.heap.size w W)
  ?hI ⟨k0, k1, hb0⟩ (fun k hk => by omega) ?round ?done)
 case hI =>
  rintro pre A B row ⟨h1, h2, h3⟩ hg hr
  have hk : ∀ k cs, k < w.heap.size + 2 → Blk A k 47 cs → Blk B k 47 cs := fun k cs hk hb => by
   unfold Blk at hb ⊢
   rw [hg.block k (Array.getElem?_eq_some_iff.1 hb).1 (fun e => by have := hr k e.symm; omega)]
   exact hb
  exact ⟨hk _ _ (by omega) h1, hk _ _ (by omega) h2, h3.grown hg h3.size (fun k e => by have := hr k e; omega)⟩
 case round =>
  rintro l pre y W hl hlen - hlt
  gi_wp2
  refine ⟨trivial, ?_⟩
  rintro Wb ⟨h1, h2, h3⟩
  have hq : sumW (pre ++ [y]) x = sumStep (sumW pre x) y := sumW_append pre [y] x
  obtain ⟨⟨a, b, c, d⟩, hz⟩ : ∃ z, z = sumW pre x := ⟨_, rfl⟩
  rw [← hz] at h1 hq
  have HQ := Lib.hid hq
  have H1 := Lib.hid h1
  have H2 := Lib.hid h2
  have H3 := Lib.hid h3
  have i0 : Wb.cell? ⟨w.heap.size, 0, none⟩ = some (.int .u64 (a : Nat)) := h1.cell 0
  have i1 : Wb.cell? ⟨w.heap.size, 1, none⟩ = some (.int .u64 (b : Nat)) := h1.cell 1
  have i2 : Wb.cell? ⟨w.heap.size, 2, none⟩ = some (.int .u64 (c : Nat)) := h1.cell 2
  have i3 : Wb.cell? ⟨w.heap.size, 3, none⟩ = some (.int .u64 (d : Nat)) := h1.cell 3
  have f0 := h1.frozen 0
  have f1 := h1.frozen 1
  have f2 := h1.frozen 2
  have f3 := h1.frozen 3
  clear hz hq h1 h2 h3 hlen hlt hl k0 k1 k2 hb0 hsz
  apply wpIn_block
  apply wpIn_seq_k
  intro K hK
  gi_wp2
  refine wpIn_loop_rounds 5 ?_
  iterate 5 (rw [roundsIn_succ]; gi_wp2)
  have e1 : IntKind.u64.wrap ((a : Int) + (y : Int)) = ((sumStep (a, b, c, d) y).1 : Nat) := by rw [← Int.natCast_add, u64_mod]; rfl
  rw [e1]
  have e2 : IntKind.u64.wrap ((b : Int) + ((sumStep (a, b, c, d) y).1 : Nat)) = ((sumStep (a, b, c, d) y).2.1 : Nat) := by rw [← Int.natCast_add, u64_mod]; rfl
  rw [e2]
  have e3 : IntKind.u64.wrap ((c : Int) + ((sumStep (a, b, c, d) y).2.1 : Nat)) = ((sumStep (a, b, c, d) y).2.2.1 : Nat) := by rw [← Int.natCast_add, u64_mod]; rfl
  rw [e3]
  have e4 : IntKind.u64.wrap ((d : Int) + ((sumStep (a, b, c, d) y).2.2.1 : Nat)) = ((sumStep (a, b, c, d) y).2.2.2 : Nat) := by rw [← Int.natCast_add, u64_mod]; rfl
  rw [e4]
  refine ⟨((((Mod.refl (fun k => k = w.heap.size) Wb).setCell (.inl rfl)).setCell (.inl rfl)).setCell (.inl rfl)).setCell (.inl rfl), ?_, ?_, ?_⟩
  ·show Blk _ _ _ (encSm (sumW (pre ++ [y]) x))
   rw [HQ.out]
   exact (((H1.out.setCell 0 _).setCell 1 _).setCell 2 _).setCell 3 _
  ·exact (((H2.out.other (by show _ ≠ w.heap.size; omega) _).other (by show _ ≠ w.heap.size; omega) _).other (by show _ ≠ w.heap.size; omega) _).other (by show _ ≠ w.heap.size; omega) _
  ·exact (((H3.out.setCell (p := ⟨w.heap.size, 0, none⟩) (Nat.le_refl _) _).setCell (p := ⟨w.heap.size, 1, none⟩) (Nat.le_refl _) _).setCell (p := ⟨w.heap.size, 2, none⟩) (Nat.le_refl _) _).setCell (p := ⟨w.heap.size, 3, none⟩) (Nat.le_refl _) _
 case done =>
  rintro D W hD ⟨h1, h2, h3⟩ hK
  have HDD : Hid (W0.heap.size ≤ D) := Lib.hid hD
  obtain ⟨⟨a, b, c, d⟩, hz⟩ : ∃ z, z = sumW (wordsL s) x := ⟨_, rfl⟩
  rw [← hz] at h1
  have HE : Hid (sumW (wordsL s) x = (a, b, c, d)) := Lib.hid hz.symm
  have i0 : W.cell? ⟨w.heap.size, 0, none⟩ = some (.int .u64 (a : Nat)) := h1.cell 0
  have i1 : W.cell? ⟨w.heap.size, 1, none⟩ = some (.int .u64 (b : Nat)) := h1.cell 1
  have i2 : W.cell? ⟨w.heap.size, 2, none⟩ = some (.int .u64 (c : Nat)) := h1.cell 2
  have i3 : W.cell? ⟨w.heap.size, 3, none⟩ = some (.int .u64 (d : Nat)) := h1.cell 3
  have j0 : W.cell? ⟨w.heap.size + 1, 0, none⟩ = some (.int .u64 0) := h2.cell 0
  have j1 : W.cell? ⟨w.heap.size + 1, 1, none⟩ = some (.int .u64 0) := h2.cell 1
  have j2 : W.cell? ⟨w.heap.size + 1, 2, none⟩ = some (.int .u64 0) := h2.cell 2
  have j3 : W.cell? ⟨w.heap.size + 1, 3, none⟩ = some (.int .u64 0) := h2.cell 3
  have f0 := h2.frozen 0
  have f1 := h2.frozen 1
  have f2 := h2.frozen 2
  have f3 := h2.frozen 3
  obtain ⟨W2, hW2⟩ : ∃ W2, W2 = (((W.setCell ⟨w.heap.size + 1, 0, none⟩ (.int .u64 (a : Nat))).setCell ⟨w.heap.size + 1, 1, none⟩ (.int .u64 (b : Nat))).setCell ⟨w.heap.size + 1, 2, none⟩ (.int .u64 (c : Nat))).setCell ⟨w.heap.size + 1, 3, none⟩ (.int .u64 (d : Nat)) := ⟨_, rfl⟩
  have H6 : Hid (Blk W2 (w.heap.size + 1) 47 (encSm (a, b, c, d))) := Lib.hid (by rw [hW2]; exact (((h2.setCell 0 _).setCell 1 _).setCell 2 _).setCell 3 _)
  have HB1 : Hid (Below w.heap.size w W2) := Lib.hid (by rw [hW2]; exact (((h3.setCell (p := ⟨w.heap.size + 1, 0, none⟩) (Nat.le_succ _) _).setCell (p := ⟨w.heap.size + 1, 1, none⟩) (Nat.le_succ _) _).setCell (p := ⟨w.heap.size + 1, 2, none⟩) (Nat.le_succ _) _).setCell (p := ⟨w.heap.size + 1, 3, none⟩) (Nat.le_succ _) _)
  have HKD : Hid (W2.heap[D]? = some (.deferred (some []))) := Lib.hid (by
   have hne : ∀ j, D ≠ (⟨w.heap.size + 1, j, none⟩ : Addr).block := fun j => by show D ≠ w.heap.size + 1; omega
   rw [hW2, Below.heap_setCell _ _ _ _ (hne _), Below.heap_setCell _ _ _ _ (hne _), Below.heap_setCell _ _ _ _ (hne _), Below.heap_setCell _ _ _ _ (hne _)]
   exact hK)
  have HW2 := Lib.hid hW2
  have HSZ := Lib.hid hsz
  clear h1 h2 h3 hK hW2 hz k0 k1 k2 hb0 hD hsz
  dsimp only
  go_wp2_with fail
  rw [← HW2.out]
  refine ⟨by simp, .inl ⟨_, _, rfl, run_takeDeferred HKD.out, ?_⟩⟩
  have hno : ∀ r, some D = some r → ∃ o : Obj, W2.heap[r]? = some o ∧ o.isCells = false := fun r e => by cases e; exact ⟨_, HKD.out, rfl⟩
  refine ⟨_, results_sum rfl _ _ (w.heap.size + 1) (a, b, c, d) rfl (H6.out.own1 (grownBy_putObj' W2 D _) hno), by rw [HE.out], ?_⟩
  exact HB1.out.grown (grownBy_putObj' W2 D _) HB1.out.size (fun k e => by cases e; have := HDD.out; have := HSZ.out; omega)
set_option maxRecDepth 100000 in
theorem sum_any (s : Bs) (hs : s.length ≤ 3000) (w : World) : Calls Tryz.prog 17 #[.string ⟨s.toArray⟩] w fun e w' => e = .returned (.agg (encSm (sumF s)).toArray) ∧ Below w.heap.size w w' := by
 have HM := Lib.hid (fun W => more_any (0, 0, 0, 0) s hs W)
 go_enter Tryz.func17, Tryz.ntmps17
 go_wp2_with fail
 refine (HM.out _).mono ?_
 rintro e w1 ⟨rfl, hb⟩
 obtain ⟨⟨a, b, c, d⟩, hz⟩ : ∃ z, z = sumW (wordsL s) (0, 0, 0, 0) := ⟨_, rfl⟩
 have HE : Hid (sumF s = (a, b, c, d)) := Lib.hid (by rw [sumF_words]; exact hz.symm)
 rw [← hz]
 have k0 : Blk w1 w.heap.size 47 (encSm (0, 0, 0, 0)) := (Blk.new w _ _).below hb
 have j0 : w1.cell? ⟨w.heap.size, 0, none⟩ = some (.int .u64 0) := k0.cell 0
 have j1 : w1.cell? ⟨w.heap.size, 1, none⟩ = some (.int .u64 0) := k0.cell 1
 have j2 : w1.cell? ⟨w.heap.size, 2, none⟩ = some (.int .u64 0) := k0.cell 2
 have j3 : w1.cell? ⟨w.heap.size, 3, none⟩ = some (.int .u64 0) := k0.cell 3
 have f0 := k0.frozen 0
 have f1 := k0.frozen 1
 have f2 := k0.frozen 2
 have f3 := k0.frozen 3
 have HB : Hid (Below w.heap.size w w1) := Lib.hid (((Below.refl _ _).alloc (Nat.le_refl _) _).trans (hb.mono (by simp)))
 have HBK : Hid (Blk ((((w1.setCell ⟨w.heap.size, 0, none⟩ (.int .u64 (a : Nat))).setCell ⟨w.heap.size, 1, none⟩ (.int .u64 (b : Nat))).setCell ⟨w.heap.size, 2, none⟩ (.int .u64 (c : Nat))).setCell ⟨w.heap.size, 3, none⟩ (.int .u64 (d : Nat))) w.heap.size 47 (encSm (a, b, c, d))) := Lib.hid ((((k0.setCell 0 _).setCell 1 _).setCell 2 _).setCell 3 _)
 clear k0 hb hz HM
 simp only [encSm]
 go_wp2_with fail
 refine bodyPost_ret (results_sum rfl _ _ w.heap.size (a, b, c, d) rfl HBK.out) rfl ?_
 exact ⟨by rw [HE.out], (((HB.out.setCell (p := ⟨w.heap.size, 0, none⟩) (Nat.le_refl _) _).setCell (p := ⟨w.heap.size, 1, none⟩) (Nat.le_refl _) _).setCell (p := ⟨w.heap.size, 2, none⟩) (Nat.le_refl _) _).setCell (p := ⟨w.heap.size, 3, none⟩) (Nat.le_refl _) _⟩
end Go.Proofs.YtfaemcfjbbbbdaaGreat
namespace Go.Proofs.YtfaemcfjbbbbdaaGreat
open Go.RowKit Go.Shelf
def PtrT.sumIs (p : PtrT) (s : Bs) : Bool := decide (p.s0 = ((sumF s).1 : Nat) ∧ p.s1 = ((sumF s).2.1 : Nat) ∧ p.s2 = ((sumF s).2.2.1 : Nat) ∧ p.s3 = ((sumF s).2.2.2 : Nat))
def encCm (s : Bs) (place dev fixed : Int) : List Value := [.string ⟨s.toArray⟩, .int .i64 place, .int .i64 dev, .int .i64 fixed]
def atX (x : DvsT) (p : PtrT) (g a size : Nat) : Option (Int × Bs) := (triesI x.gs g a size (rawX x g a size)).find? fun t => p.sumIs t.2
def atV (o : Option (Int × Bs)) (rd : Bool) : Value := match o with
 | some (d, s) => .tuple #[.agg (encCm s 0 d 0).toArray, .bool true, .bool true]
 | none => .tuple #[.agg (encCm [] 0 0 0).toArray, .bool false, .bool rd]
theorem RSl.own {w w' : World} {k n cap : Nat} {ao : Option Addr} {cs : List Value} {row : Option Nat} (h : RSl w k ao n cap cs) (hg : w.grownBy w' row) (hr : ∀ r, row = some r → ∃ o : Obj, w.heap[r]? = some o ∧ o.isCells = false) : RSl w' k ao n cap cs := by
 obtain ⟨h1, h2, h3, h4, h5⟩ := h
 refine ⟨h1, h2, h3, h4, fun hn => ?_⟩
 obtain ⟨b, off, e, hb, hc⟩ := h5 hn
 refine ⟨b, off, e, Nat.lt_of_lt_of_le hb hg.size, fun j hj => ?_⟩
 have h0 := hc j hj
 obtain ⟨v, hv⟩ : ∃ v, cs[j]? = some v := ⟨_, List.getElem?_eq_getElem (by omega)⟩
 rw [hv] at h0 ⊢
 have hs : ∃ cu el fr, w.heap[b]? = some (.cells cu el fr) := by
  unfold World.cell? at h0
  dsimp only at h0
  split at h0
  ·exact ⟨_, _, _, by assumption⟩
  ·cases h0
 obtain ⟨cu, el, fr, hs⟩ := hs
 have hbl := hg.block b hb (fun e2 => by
  obtain ⟨o, h2, h3⟩ := hr b e2.symm
  rw [hs] at h2
  have := Option.some.inj h2
  subst this
  cases h3)
 rw [World.cell?_of_block (w := w) hbl, h0]
theorem run_loadVar_boolS (W : World) (g : Nat) (b : Bool) (h : W.cell? ⟨g, 0, none⟩ = some (.bool b)) : (loadVar 4 ⟨g, 0, none⟩).run Tryz.prog W = .ok (.bool b) W := by
 go_simp
theorem infoCm : (Tryz.prog.info? 105).map (·.size) = some 4 := by kernel_rfl
theorem results_came {fn : Func} {p q r : Tmp} (h : fn.results = #[.cell p 105, .cell q 4, .cell r 4]) (tmps : Array Value) (w : World) (g g2 g3 : Nat) (s : Bs) (pl d fx : Int) (b c : Bool)
  (hp : tmps.getD p undef = .pointer (some ⟨g, 0, none⟩)) (hq : tmps.getD q undef = .pointer (some ⟨g2, 0, none⟩)) (hr : tmps.getD r undef = .pointer (some ⟨g3, 0, none⟩)) (hg : Blk w g 105 (encCm s pl d fx)) (hg2 : Blk w g2 4 [.bool b]) (hg3 : Blk w g3 4 [.bool c]) :
  (results fn tmps).run Tryz.prog w = .ok (.tuple #[.agg (encCm s pl d fx).toArray, .bool b, .bool c]) w := by
 have hp' : tmps[p]?.getD undef = .pointer (some ⟨g, 0, none⟩) := by simpa using hp
 have hq' : tmps[q]?.getD undef = .pointer (some ⟨g2, 0, none⟩) := by simpa using hq
 have hr' : tmps[r]?.getD undef = .pointer (some ⟨g3, 0, none⟩) := by simpa using hr
 have e1 := run_loadVar_mid (P := Tryz.prog) w g 0 105 (encCm s pl d fx) _ (fun j v hv => by rw [Nat.zero_add, hg.cell, hv]) Tryz.underlying105 rfl infoCm
 have e2 := run_loadVar_boolS w g2 b (hg2.cell 0)
 have e3 := run_loadVar_boolS w g3 c (hg3.cell 0)
 simp [results, h, hp', hq', hr', asAddr, e1, e2, e3]
theorem infoU64 : (Tryz.prog.info? 45).isSome = true := by kernel_rfl
theorem run_eq_arr4 (a0 a1 a2 a3 b0 b1 b2 b3 : Int) (W : World) : (Op.equalIn 10000 47 (.agg #[.int .u64 a0, .int .u64 a1, .int .u64 a2, .int .u64 a3]) (.agg #[.int .u64 b0, .int .u64 b1, .int .u64 b2, .int .u64 b3])).run Tryz.prog W = .ok (decide (a0 = b0 ∧ a1 = b1 ∧ a2 = b2 ∧ a3 = b3)) W := by
 obtain ⟨i, hi⟩ := Option.isSome_iff_exists.1 infoU64
 have hc : Tryz.prog.cellsOf 45 = 1 := by kernel_rfl
 rw [show (10000 : Nat) = 9999 + 1 from rfl, run_equalIn_array (w := W) 9999 _ _ Tryz.underlying47 hi, hc]
 by_cases h0 : a0 = b0
 ·by_cases h1 : a1 = b1
  ·by_cases h2 : a2 = b2
   ·by_cases h3 : a3 = b3
    ·subst h0 h1 h2 h3
     simp [Op.eqItems, List.range, List.range.loop, go_sem]
    ·have e : (a3 == b3) = false := by simpa using h3
     subst h0 h1 h2
     simp [Op.eqItems, List.range, List.range.loop, go_sem, e, h3]
   ·have e : (a2 == b2) = false := by simpa using h2
    subst h0 h1
    simp [Op.eqItems, List.range, List.range.loop, go_sem, e, h2]
  ·have e : (a1 == b1) = false := by simpa using h1
   subst h0
   simp [Op.eqItems, List.range, List.range.loop, go_sem, e, h1]
 ·have e : (a0 == b0) = false := by simpa using h0
  simp [Op.eqItems, List.range, List.range.loop, go_sem, e, h0]
theorem run_eql_arr4 (a0 a1 a2 a3 b0 b1 b2 b3 : Int) (x y : Operand) (W : World) :
  (do eqGuard .eql 47 x y (.agg #[.int .u64 a0, .int .u64 a1, .int .u64 a2, .int .u64 a3]) (.agg #[.int .u64 b0, .int .u64 b1, .int .u64 b2, .int .u64 b3]); binOp .eql 47 (.agg #[.int .u64 a0, .int .u64 a1, .int .u64 a2, .int .u64 a3]) (.agg #[.int .u64 b0, .int .u64 b1, .int .u64 b2, .int .u64 b3]) : Sem Value).run Tryz.prog W = .ok (.bool (decide (a0 = b0 ∧ a1 = b1 ∧ a2 = b2 ∧ a3 = b3))) W := by
 have hs := run_eq_arr4 a0 a1 a2 a3 b0 b1 b2 b3 W
 go_simp
theorem semAt_anyS {r : Option Nat} {ρ : Operand → Value} {o : Oper} (h : ∀ c, o.op ≠ .defer c) : o.semAt r ρ = execOp ρ o := by
 cases r with
 | none => exact Oper.semAt_none _ _
 | some l => exact Oper.semAt_some l ρ o h
def BinS (F : Fence) (n : Nat) (P : Program) (o : Oper) (op : BinOp) (t : TypeId) (x y : Operand) (u1 u2 : Value) (a : Act) (w : World) (next : Act → World → Prop) (Q : Exit → Act → World → Prop) : Prop :=
 o.uponIn F n P a next Q ((do let r ← (do eqGuard op t x y u1 u2; binOp op t u1 u2); pure (Next.value r) : Sem Next).run P w)
theorem wpIn_binS {F : Fence} {n : Nat} {dst : Option Tmp} {op : BinOp} {x y : Operand} {t' ty : TypeId} {pos : String} {after : Array Edge} {guard : Option (Nat × Bool)} {a : Act} {w : World} {next : Act → World → Prop} {Q : Exit → Act → World → Prop} :
  Oper.wpIn F n Tryz.prog ⟨dst, .binOp op 47 x y t', ty, pos, after, guard⟩ a w next Q = BinS F n Tryz.prog ⟨dst, .binOp op 47 x y t', ty, pos, after, guard⟩ op 47 x y (a.eval x) (a.eval y) a w next Q := by
 unfold Oper.wpIn
 rw [semAt_anyS (fun c h => by cases h)]
 exact propext ⟨fun h => h.2, fun h => ⟨fun f hf => (by cases hf), h⟩⟩
theorem binS_eql {F : Fence} {n : Nat} (a0 a1 a2 a3 b0 b1 b2 b3 : Int) {r : Bool} (hr : decide (a0 = b0 ∧ a1 = b1 ∧ a2 = b2 ∧ a3 = b3) = r) (o : Oper) (x y : Operand) (a : Act) (W : World) (next : Act → World → Prop) (Q : Exit → Act → World → Prop) : BinS F n Tryz.prog o .eql 47 x y (.agg #[.int .u64 a0, .int .u64 a1, .int .u64 a2, .int .u64 a3]) (.agg #[.int .u64 b0, .int .u64 b1, .int .u64 b2, .int .u64 b3]) a W next Q = next (a.put o.dst (.bool r)) W := by
 unfold BinS
 rw [Sem.run_bind, run_eql_arr4, hr]
 rfl
attribute [local go_sem ↓] wpIn_binS
abbrev Try : Type := { t : Int × Bs // t.2.length ≤ 2048 }
def mkTry (d : Int) (s : Bs) (hs : s.length ≤ 2048) : Try := ⟨(d, s), hs⟩
def tryL (l : List Try) : List (Int × Bs) := l.map fun t => t.1
def NoTry (p : PtrT) (l : List Try) : Prop := ∀ t ∈ l, p.sumIs t.1.2 = false
def AtIx (p : PtrT) (w : World) (S : Nat) (pre : List Try) (W : World) : Prop := ∃ pre' d s hs, pre = pre' ++ [mkTry d s hs] ∧ NoTry p pre' ∧ p.sumIs s = true ∧ Blk W (w.heap.size + 3) 105 (encCm s 0 d 0) ∧ Blk W (w.heap.size + 4) 4 [.bool true] ∧ Blk W (w.heap.size + 5) 4 [.bool true] ∧ Below w.heap.size w W ∧ S ≤ W.heap.size
theorem tryL_append (a b : List Try) : tryL (a ++ b) = tryL a ++ tryL b := by simp [tryL]
theorem tries_stops (own : Nat → Prop) (nn b1 b2 b3 b4 : Nat) (ga : Option Addr) (gc : Nat) (gs : Gs) (secs : Int) (g a size : Nat) (gb cap : Nat) (got : List Bs) (w : World)
  (h1 : Blk w b1 24 [.slice ga gs.length gc, .int .i64 secs]) (h2 : Blk w b2 44 [.int .i64 (g : Nat), .int .i64 (a : Nat)]) (h3 : Blk w b3 3 [.int .i64 (size : Nat)]) (h4 : Blk w b4 59 [.slice (some ⟨gb, 0, none⟩) got.length cap])
  (hg : GSl w ga gs.length gc gs) (hm : mayC gs secs g a size = true) (hgt : SSl w (some ⟨gb, 0, none⟩) got.length cap (bts got)) (hl : got.length = (colsL gs g a size).length) (hf : got.all fit1 = true)
  (ho : ∀ k, own k → k < w.heap.size ∧ k ≠ gb) :
  SeqStopsK Fence.wide nn Tryz.prog 127 #[.pointer (some ⟨b1, 0, none⟩), .pointer (some ⟨b2, 0, none⟩), .pointer (some ⟨b3, 0, none⟩), .pointer (some ⟨b4, 0, none⟩)] (fun t : Try => #[Value.int .i64 t.1.1, .string ⟨t.1.2.toArray⟩]) (KpO own) (fun ys => tryL ys = triesI gs g a size got) (fun pre => tryL pre <+: triesI gs g a size got) 1000 w := fun lp J Jx W hW hJ hJx hY h0 =>
 (callsIn_wide.2 (tries1_any own b1 b2 b3 b4 ga gc gs secs g a size gb cap got (nn - 1) lp (fun l W => ∃ l', tryL l' = l ∧ J l' W) (fun l W => ∃ l', tryL l' = l ∧ Jx l' W) W (h1.below hW) (h2.below hW) (h3.below hW) (h4.below hW) (hg.below hW) hm (SSl.below hgt hW) hl hf (fun k hk => ⟨Nat.lt_of_lt_of_le (ho k hk).1 hW.size, (ho k hk).2⟩)
  (fun s A B row ⟨l', e, h⟩ hg hr => ⟨l', e, hJ l' A B row h hg hr⟩)
  (fun pre x W1 ⟨l', e, h⟩ hn hx => (hY l' ⟨x, hx⟩ W1 h (by rw [← e] at hn; simpa [tryL] using hn)).mono (fun e2 W' h2 => by
   rcases h2 with ⟨h3, h4, h5⟩ | ⟨h3, h4⟩
   ·exact .inl ⟨h3, ⟨l' ++ [⟨x, hx⟩], by rw [tryL_append, e]; rfl, h4⟩, h5⟩
   ·exact .inr ⟨h3, ⟨l' ++ [⟨x, hx⟩], by rw [tryL_append, e]; rfl, h4⟩⟩))
  ⟨[], rfl, h0⟩)).mono (fun e W' h => by
   obtain ⟨h2, h3⟩ := h
   refine ⟨h2, ?_⟩
   rcases h3 with ⟨ys, rfl, l', e1, h4⟩ | ⟨pre, hp, l', rfl, h4⟩
   ·exact .inl ⟨l', e1, h4⟩
   ·exact .inr ⟨l', hp, h4⟩)
attribute [local go_sem] Oper.semAt_some
attribute [local go_sem ↓] Go.wp_at_zero Go.wp_at_succ
set_option maxRecDepth 100000 in
set_option maxHeartbeats 1000000 in
theorem at_any {w : World} {x : DvsT} {V : DvV} {F : Nat → Prop} (h : IsDvs w x V F) (hr : x.right = true) (p : PtrT) (g a size : Nat) (hp : p.size = (size : Nat)) (hm : mayC x.gs x.secs g a size = true) (hf : (rawX x g a size).all fit1 = true) :
    Calls Tryz.prog 92 #[V.val x.secs, .agg (encPtr p).toArray, .agg #[.int .i64 (g : Nat), .int .i64 (a : Nat)]] w fun e w' => e = .returned (atV (atX x p g a size) (!decide ([] ∈ rawX x g a size))) ∧ Below w.heap.size w w' := by
  obtain ⟨ga, gc, la, lc, wa, wc, hV, hg⟩ := h.form
  obtain ⟨ag, aa, bg, ba, two, psize, lev, bir, s0, s1, s2, s3⟩ := p
  obtain rfl : psize = (size : Nat) := hp
  have HRW := Lib.hid (fun W (hW : Below w.heap.size w W) => raw_any (h.below hW) hr g a size hm)
  have hVV : V.val x.secs = .agg #[.slice ga x.gs.length gc, .int .i64 x.secs, .slice la x.ds.length lc, .slice wa x.ds.length wc] := by rw [hV]; rfl
  rw [hVV] at HRW ⊢
  have hLn : (rawX x g a size).length = (colsL x.gs g a size).length := by unfold rawX; rw [List.length_map]
  obtain ⟨got, hgot⟩ : ∃ got, got = rawX x g a size := ⟨_, rfl⟩
  rw [← hgot] at hLn hf HRW
  have HLN := Lib.hid hLn
  have HF := Lib.hid hf
  have HM := Lib.hid hm
  have HG := Lib.hid hg
  have HGT := Lib.hid hgot
  have HAX : Hid (atX x ⟨ag, aa, bg, ba, two, (size : Nat), lev, bir, s0, s1, s2, s3⟩ g a size = (triesI x.gs g a size got).find? fun t => PtrT.sumIs ⟨ag, aa, bg, ba, two, (size : Nat), lev, bir, s0, s1, s2, s3⟩ t.2) := Lib.hid (by unfold atX; rw [hgot])
  rw [← hgot]
  rw [← hLn] at HRW
  have hn0 : 0 < got.length := by
    rw [hLn]
    have := (colsL_len hm).1; omega
  have hn1 : got.length ≤ 1000 := by rw [hLn]; have := (colsL_len hm).2; omega
  have HN0 := Lib.hid hn0
  have HN1 := Lib.hid hn1
  obtain ⟨n, hn⟩ : ∃ n, n = got.length := ⟨_, rfl⟩
  have HNN := Lib.hid hn
  rw [← hn] at HRW
  clear hVV hLn hgot hn0 hf hm hg h hr hn hn1
  obtain ⟨dsn, hdsn⟩ : ∃ dsn, dsn = x.ds.length := ⟨_, rfl⟩
  obtain ⟨gsn, hgsn⟩ : ∃ gsn, gsn = x.gs.length := ⟨_, rfl⟩
  rw [← hdsn, ← hgsn] at HRW ⊢
  have HGS := Lib.hid hgsn
  clear hdsn hgsn
  refine (callsIn_wide (n := 10)).1 (callsIn_of_wp_marks Tryz.func92 rfl trivial ?_ rfl)
  refine wpIn_wide.2 ?_
  simp only [encPtr, Tryz.ntmps92, List.size_toArray, List.length_cons, List.length_nil, Nat.reduceAdd, Nat.reduceSub, Array.replicate_succ, Array.replicate_zero, List.push_toArray, List.append_toArray, List.nil_append, List.cons_append]
  go_wp2_with fail
  simp only [Nat.add_assoc, Nat.reduceAdd]
  obtain ⟨W1, hW1⟩ : ∃ W1, W1 = (((((w.alloc (.cells #[.slice ga gsn gc, .int .i64 x.secs, .slice la dsn lc, .slice wa dsn wc] 37)).alloc (.cells #[.int .i64 ag, .int .i64 aa, .int .i64 bg, .int .i64 ba, .bool two, .int .i64 (size : Nat), .int .i64 lev, .int .i64 bir, .int .u64 s0, .int .u64 s1, .int .u64 s2, .int .u64 s3] 49)).alloc (.cells #[.int .i64 (g : Nat), .int .i64 (a : Nat)] 44)).alloc (.cells #[.string ⟨#[]⟩, .int .i64 0, .int .i64 0, .int .i64 0] 105)).alloc (.cells #[.bool false] 4)).alloc (.cells #[.bool false] 4) := ⟨_, rfl⟩
  have hb1 : Below w.heap.size w W1 := by
    rw [hW1]
    exact ((((((Below.refl _ _).alloc (Nat.le_refl _) _).alloc (by simp) _).alloc (by simp; omega) _).alloc (by simp; omega) _).alloc (by simp; omega) _).alloc (by simp; omega) _
  have k3 : Blk W1 w.heap.size 37 [.slice ga gsn gc, .int .i64 x.secs, .slice la dsn lc, .slice wa dsn wc] := by rw [hW1]; exact (((((Blk.new w _ _).alloc _).alloc _).alloc _).alloc _).alloc _
  have k4 : Blk W1 (w.heap.size + 1) 49 (encPtr ⟨ag, aa, bg, ba, two, (size : Nat), lev, bir, s0, s1, s2, s3⟩) := by rw [hW1]; exact ((((Blk.newAt (g := w.heap.size + 1) _ (encPtr ⟨ag, aa, bg, ba, two, (size : Nat), lev, bir, s0, s1, s2, s3⟩) (by simp)).alloc _).alloc _).alloc _).alloc _
  have k5 : Blk W1 (w.heap.size + 2) 44 [.int .i64 (g : Nat), .int .i64 (a : Nat)] := by rw [hW1]; exact (((Blk.newAt (g := w.heap.size + 2) _ [.int .i64 (g : Nat), .int .i64 (a : Nat)] (by simp)).alloc _).alloc _).alloc _
  have k6 : Blk W1 (w.heap.size + 3) 105 (encCm [] 0 0 0) := by rw [hW1]; exact ((Blk.newAt (g := w.heap.size + 3) _ (encCm [] 0 0 0) (by simp)).alloc _).alloc _
  have k7 : Blk W1 (w.heap.size + 4) 4 [.bool false] := by rw [hW1]; exact (Blk.newAt (g := w.heap.size + 4) _ [.bool false] (by simp)).alloc _
  have k8 : Blk W1 (w.heap.size + 5) 4 [.bool false] := by rw [hW1]; exact Blk.newAt (g := w.heap.size + 5) _ [.bool false] (by simp)
  have hs1 : W1.heap.size = w.heap.size + 6 := by rw [hW1]; simp
  rw [← hW1]
  clear hW1
  refine (HRW.out _ hb1).mono ?_
  rintro e w2 ⟨v, rfl, hown, hb2⟩
  obtain ⟨gb, cap, rfl⟩ := own_form1 hown (by rw [HNN.out]; exact HN0.out)
  have HGB : Hid (w.heap.size + 6 ≤ gb ∧ gb < w2.heap.size) := Lib.hid (by have := hown.lt gb rfl; omega)
  have HSL : Hid (SSl w2 (some ⟨gb, 0, none⟩) n cap (bts got)) := Lib.hid (rsl_of_owns hown)
  have K3 := Lib.hid (k3.below hb2)
  have K4 := Lib.hid (k4.below hb2)
  have K5 := Lib.hid (k5.below hb2)
  have K6 := Lib.hid (k6.below hb2)
  have K7 := Lib.hid (k7.below hb2)
  have K8 := Lib.hid (k8.below hb2)
  have HB2 : Hid (Below w.heap.size w w2) := Lib.hid (hb1.trans (hb2.mono hb1.size))
  have HS2 : Hid (w.heap.size + 6 ≤ w2.heap.size) := Lib.hid (by have := hb2.size; omega)
  have a0 := K3.out.cell 0
  have a1 := K3.out.cell 1
  have a2 := K5.out.cell 0
  have a3 := K5.out.cell 1
  have a4 : w2.cell? ⟨w.heap.size + 1, 5, none⟩ = some (.int .i64 (size : Nat)) := K4.out.cell 5
  have HTR := Lib.hid (fun W => tries_any ga gsn gc x.secs (g : Nat) (a : Nat) (size : Nat) (.slice (some ⟨gb, 0, none⟩) n cap) ⟨_, _, _, rfl⟩ W)
  clear k3 k4 k5 k6 k7 k8 hs1 hb1 hb2 hown HRW
  go_wp2_with fail
  refine (HTR.out _).mono ?_
  rintro e w3 ⟨rfl, rfl⟩
  go_wp2_with fail
  obtain ⟨W0, hW0⟩ : ∃ W0, W0 = (((w2.alloc (.cells #[.slice ga gsn gc, .int .i64 x.secs] 24)).alloc (.cells #[.int .i64 (g : Nat), .int .i64 (a : Nat)] 44)).alloc (.cells #[.int .i64 (size : Nat)] 3)).alloc (.cells #[.slice (some ⟨gb, 0, none⟩) n cap] 59) := ⟨_, rfl⟩
  have hb0 : Below w2.heap.size w2 W0 := by rw [hW0]; exact ((((Below.refl _ _).alloc (Nat.le_refl _) _).alloc (by simp) _).alloc (by simp; omega) _).alloc (by simp; omega) _
  have b1 : Blk W0 w2.heap.size 24 [.slice ga x.gs.length gc, .int .i64 x.secs] := by rw [hW0, HGS.out]; exact (((Blk.new w2 _ _).alloc _).alloc _).alloc _
  have b2 : Blk W0 (w2.heap.size + 1) 44 [.int .i64 (g : Nat), .int .i64 (a : Nat)] := by rw [hW0]; exact ((Blk.newAt (g := w2.heap.size + 1) _ [.int .i64 (g : Nat), .int .i64 (a : Nat)] (by simp)).alloc _).alloc _
  have b3 : Blk W0 (w2.heap.size + 2) 3 [.int .i64 (size : Nat)] := by rw [hW0]; exact (Blk.newAt (g := w2.heap.size + 2) _ [.int .i64 (size : Nat)] (by simp)).alloc _
  have b4 : Blk W0 (w2.heap.size + 3) 59 [.slice (some ⟨gb, 0, none⟩) got.length cap] := by rw [hW0, HNN.out]; exact Blk.newAt (g := w2.heap.size + 3) _ [.slice (some ⟨gb, 0, none⟩) got.length cap] (by simp)
  have hs0 : W0.heap.size = w2.heap.size + 4 := by rw [hW0]; simp
  rw [← hW0]
  clear hW0 HTR a0 a1 a2 a3 a4
  have hge := HGB.out
  have hge2 := HS2.out
  refine (wpIn_wide (n := 10)).1 (wpIn_rangeFunc_ownH rfl (by omega) (gf := 127) (lb := #[.pointer (some ⟨w2.heap.size, 0, none⟩), .pointer (some ⟨w2.heap.size + 1, 0, none⟩), .pointer (some ⟨w2.heap.size + 2, 0, none⟩), .pointer (some ⟨w2.heap.size + 3, 0, none⟩)]) rfl trivial (enters_of Tryz.func127 (by kernel_rfl) rfl)
    (tries_stops (fun k => k = w.heap.size + 3 ∨ k = w.heap.size + 4 ∨ k = w.heap.size + 5) _ w2.heap.size (w2.heap.size + 1) (w2.heap.size + 2) (w2.heap.size + 3) ga gc x.gs x.secs g a size gb cap got W0 b1 b2 b3 b4 (HG.out.below (HB2.out.trans (hb0.mono (by omega)))) HM.out (SSl.below (by rw [← HNN.out]; exact HSL.out) hb0) HLN.out HF.out (fun k hk => by omega))
    (fun h k => h.trans k) (fun W l o o' _ h ho _ => KpO.putObj W l o o' h ho) (Below.refl _ _) (fun _ => rfl)
    (fun (pre : List Try) W => NoTry ⟨ag, aa, bg, ba, two, (size : Nat), lev, bir, s0, s1, s2, s3⟩ pre ∧ Blk W (w.heap.size + 3) 105 (encCm [] 0 0 0) ∧ Blk W (w.heap.size + 4) 4 [.bool false] ∧ Blk W (w.heap.size + 5) 4 [.bool false] ∧ Blk W (w.heap.size + 1) 49 (encPtr ⟨ag, aa, bg, ba, two, (size : Nat), lev, bir, s0, s1, s2, s3⟩) ∧ SSl W (some ⟨gb, 0, none⟩) n cap (bts got) ∧ Below w.heap.size w W ∧ w2.heap.size ≤ W.heap.size)
    (fun c (pre : List Try) W => c = .ret ∧ AtIx ⟨ag, aa, bg, ba, two, (size : Nat), lev, bir, s0, s1, s2, s3⟩ w w2.heap.size pre W)
    ?hI ?hIx ⟨fun t ht => by simp at ht, K6.out.below hb0, K7.out.below hb0, K8.out.below hb0, K4.out.below hb0, SSl.below HSL.out hb0, HB2.out.trans (hb0.mono (by omega)), by omega⟩
    (fun (t : Try) a' _ => a' = { tmps := #[Value.agg #[.slice ga gsn gc, .int .i64 x.secs, .slice la dsn lc, .slice wa dsn wc], .agg #[.int .i64 ag, .int .i64 aa, .int .i64 bg, .int .i64 ba, .bool two, .int .i64 (size : Nat), .int .i64 lev, .int .i64 bir, .int .u64 s0, .int .u64 s1, .int .u64 s2, .int .u64 s3], .agg #[.int .i64 (g : Nat), .int .i64 (a : Nat)], .pointer (some ⟨w.heap.size, 0, none⟩), .pointer (some ⟨w.heap.size + 1, 0, none⟩), .pointer (some ⟨w.heap.size + 2, 0, none⟩), .pointer (some ⟨w.heap.size + 3, 0, none⟩), .pointer (some ⟨w.heap.size + 4, 0, none⟩), .pointer (some ⟨w.heap.size + 5, 0, none⟩), .slice (some ⟨gb, 0, none⟩) n cap, .int .i64 0, .int .i64 t.1.1, .string ⟨t.1.2.toArray⟩, .tuple #[.slice (some ⟨gb, 0, none⟩) n cap, .int .i64 0], .agg #[.slice ga gsn gc, .int .i64 x.secs, .slice la dsn lc, .slice wa dsn wc], .agg #[.int .i64 (g : Nat), .int .i64 (a : Nat)], .pointer (some ⟨w.heap.size + 1, 5, none⟩), .int .i64 (size : Nat), .tuple #[.slice (some ⟨gb, 0, none⟩) n cap, .int .i64 0], .slice (some ⟨gb, 0, none⟩) n cap, .int .i64 0, .pointer (some ⟨w.heap.size, 0, none⟩), .agg #[.slice ga gsn gc, .int .i64 x.secs], .agg #[.int .i64 (g : Nat), .int .i64 (a : Nat)], .pointer (some ⟨w.heap.size + 1, 5, none⟩), .int .i64 (size : Nat), .slice (some ⟨gb, 0, none⟩) n cap, .func (.func 127) #[] #[.pointer (some ⟨w2.heap.size, 0, none⟩), .pointer (some ⟨w2.heap.size + 1, 0, none⟩), .pointer (some ⟨w2.heap.size + 2, 0, none⟩), .pointer (some ⟨w2.heap.size + 3, 0, none⟩)], .int .i64 t.1.1, .string ⟨t.1.2.toArray⟩, undef, undef, undef, undef, undef, undef, undef, undef, undef, undef, undef, undef], defers := [] }) ?hAx ?assign ?body ?done ?stop)
  case hI => exact fun s A B row ⟨h1, h2, h3, h4, h5, h6, h7, h8⟩ hg hr => ⟨h1, h2.own1 hg (fun r e => (hr r e).2), h3.own1 hg (fun r e => (hr r e).2), h4.own1 hg (fun r e => (hr r e).2), h5.own1 hg (fun r e => (hr r e).2), RSl.own h6 hg (fun r e => (hr r e).2), h7.grown hg h7.size (fun k e => by have := (hr k e).1; omega), Nat.le_trans h8 hg.size⟩
  case hIx => exact fun c s A B row ⟨e, p', d, s', hs', h1, h2, h3, h4, h5, h6, h7, h8⟩ hg hr => ⟨e, p', d, s', hs', h1, h2, h3, h4.own1 hg (fun r e => (hr r e).2), h5.own1 hg (fun r e => (hr r e).2), h6.own1 hg (fun r e => (hr r e).2), h7.grown hg h7.size (fun k e => by have := (hr k e).1; omega), Nat.le_trans h8 hg.size⟩
  case hAx => exact fun x a' s A B row h1 _ _ => h1
  case assign =>
    rintro lp pre ⟨⟨d, s⟩, hs⟩ W K hpre hK
    have HK := Lib.hid (hK _ W (KeepsFrom.refl _ _) (KpO.of_below (Below.refl _ _)) hpre rfl)
    clear hK hpre
    gi_wp2
    exact HK.out
  case body =>
    rintro lp pre ⟨⟨d, s⟩, hss⟩ a' W hl ⟨r, hr⟩ ⟨hno, h6, h7, h8, h4, hsl, hb, hsz⟩ rfl hlt
    have bd : Below W.heap.size W W.drew := (Below.refl W.heap.size W).drew
    have HSM := Lib.hid (fun W' => sum_any s (by have : s.length ≤ 2048 := hss; omega) W')
    obtain ⟨⟨x0, x1, x2, x3⟩, hx⟩ : ∃ z, z = sumF s := ⟨_, rfl⟩
    have HIS : Hid (PtrT.sumIs ⟨ag, aa, bg, ba, two, (size : Nat), lev, bir, s0, s1, s2, s3⟩ s = decide (s0 = (x0 : Nat) ∧ s1 = (x1 : Nat) ∧ s2 = (x2 : Nat) ∧ s3 = (x3 : Nat))) := Lib.hid (by unfold PtrT.sumIs; rw [← hx])
    rw [← hx] at HSM
    obtain ⟨r, hr2⟩ : ∃ r, decide ((x0 : Int) = s0 ∧ (x1 : Int) = s1 ∧ (x2 : Int) = s2 ∧ (x3 : Int) = s3) = r := ⟨_, rfl⟩
    have HRR : Hid (PtrT.sumIs ⟨ag, aa, bg, ba, two, (size : Nat), lev, bir, s0, s1, s2, s3⟩ s = r) := Lib.hid (by rw [HIS.out, ← hr2]; exact decide_eq_decide.2 ⟨fun h => ⟨h.1.symm, h.2.1.symm, h.2.2.1.symm, h.2.2.2.symm⟩, fun h => ⟨h.1.symm, h.2.1.symm, h.2.2.1.symm, h.2.2.2.symm⟩⟩)
    have q0 : ∀ (n : Nat) (o : Oper) (x y : Operand) (a : Act) (W : World) (next : Act → World → Prop) (Q : Exit → Act → World → Prop), BinS (Fence.wide.inRound lp) n Tryz.prog o .eql 47 x y (.agg (encSm (x0, x1, x2, x3)).toArray) (.agg #[.int .u64 s0, .int .u64 s1, .int .u64 s2, .int .u64 s3]) a W next Q = next (a.put o.dst (.bool r)) W := fun n => binS_eql (F := Fence.wide.inRound lp) (n := n) (x0 : Nat) (x1 : Nat) (x2 : Nat) (x3 : Nat) s0 s1 s2 s3 hr2
    have z0 : W.drew.cell? ⟨w.heap.size + 1, 8, none⟩ = some (.int .u64 s0) := h4.cell 8
    have z1 : W.drew.cell? ⟨w.heap.size + 1, 9, none⟩ = some (.int .u64 s1) := h4.cell 9
    have z2 : W.drew.cell? ⟨w.heap.size + 1, 10, none⟩ = some (.int .u64 s2) := h4.cell 10
    have z3 : W.drew.cell? ⟨w.heap.size + 1, 11, none⟩ = some (.int .u64 s3) := h4.cell 11
    have HFC : Hid (∀ q, Below W.heap.size W q → q.cell? ⟨w.heap.size + 1, 8, none⟩ = some (.int .u64 s0) ∧ q.cell? ⟨w.heap.size + 1, 9, none⟩ = some (.int .u64 s1) ∧ q.cell? ⟨w.heap.size + 1, 10, none⟩ = some (.int .u64 s2) ∧ q.cell? ⟨w.heap.size + 1, 11, none⟩ = some (.int .u64 s3)) := Lib.hid (fun q hq => ⟨(h4.below hq).cell 8, (h4.below hq).cell 9, (h4.below hq).cell 10, (h4.below hq).cell 11⟩)
    have HND : Hid (∀ q, Below W.heap.size W q → r = false → ownPostG W0.heap.size (KpO fun k => k = w.heap.size + 3 ∨ k = w.heap.size + 4 ∨ k = w.heap.size + 5)
        (fun (pre : List Try) W => NoTry ⟨ag, aa, bg, ba, two, (size : Nat), lev, bir, s0, s1, s2, s3⟩ pre ∧ Blk W (w.heap.size + 3) 105 (encCm [] 0 0 0) ∧ Blk W (w.heap.size + 4) 4 [.bool false] ∧ Blk W (w.heap.size + 5) 4 [.bool false] ∧ Blk W (w.heap.size + 1) 49 (encPtr ⟨ag, aa, bg, ba, two, (size : Nat), lev, bir, s0, s1, s2, s3⟩) ∧ SSl W (some ⟨gb, 0, none⟩) n cap (bts got) ∧ Below w.heap.size w W ∧ w2.heap.size ≤ W.heap.size)
        (fun c (pre : List Try) W => c = .ret ∧ AtIx ⟨ag, aa, bg, ba, two, (size : Nat), lev, bir, s0, s1, s2, s3⟩ w w2.heap.size pre W) (pre ++ [mkTry d s hss]) W .normal { tmps := #[], defers := [] } q) := Lib.hid (fun q hq hrf =>
      ⟨KeepsFrom.of_grownBy (row := none) (grown_of_below hq) (fun k e => by cases e), KpO.of_below hq, fun t ht => by
        rcases List.mem_append.1 ht with h | h
        · exact hno t h
        · rw [List.mem_singleton.1 h]; exact HRR.out.trans hrf, h6.below hq, h7.below hq, h8.below hq, h4.below hq, SSl.below hsl hq, hb.trans (hq.mono hb.size), Nat.le_trans hsz hq.size⟩)
    have HFY : Hid (∀ q, Below W.heap.size W q → Blk q (w.heap.size + 3) 105 [.string ⟨#[]⟩, .int .i64 0, .int .i64 0, .int .i64 0] ∧ Blk q (w.heap.size + 4) 4 [.bool false] ∧ Blk q (w.heap.size + 5) 4 [.bool false]) := Lib.hid (fun q hq => ⟨h6.below hq, h7.below hq, h8.below hq⟩)
    have HYW : Hid (∀ q, Below W.heap.size W q → r = true → ownPostG W0.heap.size (KpO fun k => k = w.heap.size + 3 ∨ k = w.heap.size + 4 ∨ k = w.heap.size + 5)
        (fun (pre : List Try) W => NoTry ⟨ag, aa, bg, ba, two, (size : Nat), lev, bir, s0, s1, s2, s3⟩ pre ∧ Blk W (w.heap.size + 3) 105 (encCm [] 0 0 0) ∧ Blk W (w.heap.size + 4) 4 [.bool false] ∧ Blk W (w.heap.size + 5) 4 [.bool false] ∧ Blk W (w.heap.size + 1) 49 (encPtr ⟨ag, aa, bg, ba, two, (size : Nat), lev, bir, s0, s1, s2, s3⟩) ∧ SSl W (some ⟨gb, 0, none⟩) n cap (bts got) ∧ Below w.heap.size w W ∧ w2.heap.size ≤ W.heap.size)
        (fun c (pre : List Try) W => c = .ret ∧ AtIx ⟨ag, aa, bg, ba, two, (size : Nat), lev, bir, s0, s1, s2, s3⟩ w w2.heap.size pre W) (pre ++ [mkTry d s hss]) W .ret { tmps := #[], defers := [] } ((((((q.setCell ⟨w.heap.size + 3, 0, none⟩ (.string ⟨s.toArray⟩)).setCell ⟨w.heap.size + 3, 1, none⟩ (.int .i64 0)).setCell ⟨w.heap.size + 3, 2, none⟩ (.int .i64 d)).setCell ⟨w.heap.size + 3, 3, none⟩ (.int .i64 0)).setCell ⟨w.heap.size + 4, 0, none⟩ (.bool true)).setCell ⟨w.heap.size + 5, 0, none⟩ (.bool true))) := Lib.hid (fun q hq hrt => by
      have n34 : ∀ j, w.heap.size + 3 ≠ (⟨w.heap.size + 4, j, none⟩ : Addr).block := fun j => by show w.heap.size + 3 ≠ w.heap.size + 4; omega
      have n35 : ∀ j, w.heap.size + 3 ≠ (⟨w.heap.size + 5, j, none⟩ : Addr).block := fun j => by show w.heap.size + 3 ≠ w.heap.size + 5; omega
      have n43 : ∀ j, w.heap.size + 4 ≠ (⟨w.heap.size + 3, j, none⟩ : Addr).block := fun j => by show w.heap.size + 4 ≠ w.heap.size + 3; omega
      have n45 : ∀ j, w.heap.size + 4 ≠ (⟨w.heap.size + 5, j, none⟩ : Addr).block := fun j => by show w.heap.size + 4 ≠ w.heap.size + 5; omega
      have n53 : ∀ j, w.heap.size + 5 ≠ (⟨w.heap.size + 3, j, none⟩ : Addr).block := fun j => by show w.heap.size + 5 ≠ w.heap.size + 3; omega
      have n54 : ∀ j, w.heap.size + 5 ≠ (⟨w.heap.size + 4, j, none⟩ : Addr).block := fun j => by show w.heap.size + 5 ≠ w.heap.size + 4; omega
      have g3 : ∀ k, k = 3 ∨ k = 4 ∨ k = 5 → ∀ j, w.heap.size ≤ (⟨w.heap.size + k, j, none⟩ : Addr).block := fun k _ j => by show w.heap.size ≤ w.heap.size + k; omega
      refine ⟨(((((((KeepsFrom.of_grownBy (row := none) (grown_of_below hq) (fun k e => by cases e)).trans ((KeepsOthers.setCell _ _ _).from _)).trans ((KeepsOthers.setCell _ _ _).from _)).trans ((KeepsOthers.setCell _ _ _).from _)).trans ((KeepsOthers.setCell _ _ _).from _)).trans ((KeepsOthers.setCell _ _ _).from _)).trans ((KeepsOthers.setCell _ _ _).from _)), rfl, pre, d, s, hss, rfl, hno, HRR.out.trans hrt, ?_, ?_, ?_, ?_, ?_⟩
      · exact (((((((h6.below hq).setCell 0 _).setCell 1 _).setCell 2 _).setCell 3 _).other (n34 0) _).other (n35 0) _)
      · exact ((((((((h7.below hq).other (n43 0) _).other (n43 1) _).other (n43 2) _).other (n43 3) _).setCell 0 _).other (n45 0) _))
      · exact ((((((((h8.below hq).other (n53 0) _).other (n53 1) _).other (n53 2) _).other (n53 3) _).other (n54 0) _).setCell 0 _))
      · exact (((((((hb.trans (hq.mono hb.size)).setCell (p := ⟨w.heap.size + 3, 0, none⟩) (g3 3 (by omega) 0) _).setCell (p := ⟨w.heap.size + 3, 1, none⟩) (g3 3 (by omega) 1) _).setCell (p := ⟨w.heap.size + 3, 2, none⟩) (g3 3 (by omega) 2) _).setCell (p := ⟨w.heap.size + 3, 3, none⟩) (g3 3 (by omega) 3) _).setCell (p := ⟨w.heap.size + 4, 0, none⟩) (g3 4 (by omega) 0) _).setCell (p := ⟨w.heap.size + 5, 0, none⟩) (g3 5 (by omega) 0) _)
      · exact Nat.le_trans hsz (Nat.le_trans hq.size (by simp)))
    have HNO := Lib.hid hno
    have H6 := Lib.hid h6
    have H7 := Lib.hid h7
    have H8 := Lib.hid h8
    have HB := Lib.hid hb
    have HSZ := Lib.hid hsz
    have BD := Lib.hid bd
    clear hno h6 h7 h8 h4 hsl hb hsz hr hlt hl b1 b2 b3 b4 bd hx hs0
    gi_wp2
    refine wpIn_region_any (by kernel_rfl) ?_
    change wpAnyIn _ _ _ _ _ _ _ _ _ (World.drew W)
    refine wpAnyIn_ready (rs := [0, 2]) (by kernel_rfl) (by simp) ?_
    refine AllReadyIn.cons (o := ?zog1_0) ?zhg1_0 ?zkg1_0 (AllReadyIn.cons (o := ?zog1_2) ?zhg1_2 ?zkg1_2 AllReadyIn.nil)
    case zhg1_0 => (simp only [List.getElem?_toArray, List.getElem?_cons_succ, List.getElem?_cons_zero]; rfl)
    case zhg1_2 => (simp only [List.getElem?_toArray, List.getElem?_cons_succ, List.getElem?_cons_zero]; rfl)
    ·
     intro K hK
     rw [if_pos (by kernel_rfl)]
     go_simp
     refine hK _ _ ?_
     try simp only [Act.put, z1, z2, z3]
     clear hK
     clear K
     refine wpAnyIn_ready (rs := [1, 2]) (by kernel_rfl) (by simp) ?_
     refine AllReadyIn.cons (o := ?zog2_1) ?zhg2_1 ?zkg2_1 (AllReadyIn.cons (o := ?zog2_2) ?zhg2_2 ?zkg2_2 AllReadyIn.nil)
     case zhg2_1 => (simp only [List.getElem?_toArray, List.getElem?_cons_succ, List.getElem?_cons_zero]; rfl)
     case zhg2_2 => (simp only [List.getElem?_toArray, List.getElem?_cons_succ, List.getElem?_cons_zero]; rfl)
     ·
      intro K hK
      rw [if_pos (by kernel_rfl)]
      go_simp
      refine ⟨trivial, ((callsIn_wide.2 (HSM.out _)).inRound lp).mono ?_⟩
      rintro e q2 ⟨rfl, hq⟩
      have BQ : Hid (Below W.heap.size W q2) := Lib.hid (BD.out.trans (hq.mono BD.out.size))
      obtain ⟨y0, y1, y2, y3⟩ := HFC.out _ BQ.out
      clear hq
      refine hK _ _ ?_
      try simp only [Act.put, z1, z2, z3]
      clear hK
      clear K
      refine wpAnyIn_ready (rs := [2]) (by kernel_rfl) (by simp) ?_
      refine AllReadyIn.cons (o := ?zog3_2) ?zhg3_2 ?zkg3_2 AllReadyIn.nil
      case zhg3_2 => (simp only [List.getElem?_toArray, List.getElem?_cons_succ, List.getElem?_cons_zero]; rfl)
      ·
       intro K hK
       rw [if_pos (by kernel_rfl)]
       go_simp
       refine hK _ _ ?_
       try simp only [Act.put, z1, z2, z3]
       clear hK
       clear K
       refine wpAnyIn_ready (rs := [3]) (by kernel_rfl) (by simp) ?_
       refine AllReadyIn.cons (o := ?zog4_3) ?zhg4_3 ?zkg4_3 AllReadyIn.nil
       case zhg4_3 => (simp only [List.getElem?_toArray, List.getElem?_cons_succ, List.getElem?_cons_zero]; rfl)
       ·
        intro K hK
        rw [if_pos (by kernel_rfl)]
        go_simp
        refine hK _ _ ?_
        try simp only [Act.put, z1, z2, z3]
        clear hK
        clear K
        refine wpAnyIn_ready (rs := [4]) (by kernel_rfl) (by simp) ?_
        refine AllReadyIn.cons (o := ?zog5_4) ?zhg5_4 ?zkg5_4 AllReadyIn.nil
        case zhg5_4 => (simp only [List.getElem?_toArray, List.getElem?_cons_succ, List.getElem?_cons_zero]; rfl)
        ·
         intro K hK
         rw [if_pos (by kernel_rfl)]
         go_simp
         refine hK _ _ ?_
         try simp only [Act.put, z1, z2, z3]
         clear hK
         clear K
         refine wpAnyIn_done (by kernel_rfl) ?_ _
         cases r with
         | false =>
           gi_wp2
           exact HND.out _ BQ.out (by trivial)
         | true =>
           obtain ⟨u6, u7, u8⟩ := HFY.out _ BQ.out
           have e0 := u6.cell 0
           have e1 := u6.cell 1
           have e2 := u6.cell 2
           have e3 := u6.cell 3
           have e4 := u7.cell 0
           have e5 := u8.cell 0
           have f0 := u6.frozen 0
           have f1 := u6.frozen 1
           have f2 := u6.frozen 2
           have f3 := u6.frozen 3
           have f4 := u7.frozen 0
           have f5 := u8.frozen 0
           clear u6 u7 u8
           gi_wp2
           exact HYW.out _ BQ.out (by trivial)
     ·
      intro K hK
      rw [if_pos (by kernel_rfl)]
      go_simp
      refine hK _ _ ?_
      try simp only [Act.put, z1, z2, z3]
      clear hK
      clear K
      refine wpAnyIn_ready (rs := [1, 3]) (by kernel_rfl) (by simp) ?_
      refine AllReadyIn.cons (o := ?zog6_1) ?zhg6_1 ?zkg6_1 (AllReadyIn.cons (o := ?zog6_3) ?zhg6_3 ?zkg6_3 AllReadyIn.nil)
      case zhg6_1 => (simp only [List.getElem?_toArray, List.getElem?_cons_succ, List.getElem?_cons_zero]; rfl)
      case zhg6_3 => (simp only [List.getElem?_toArray, List.getElem?_cons_succ, List.getElem?_cons_zero]; rfl)
      ·
       intro K hK
       rw [if_pos (by kernel_rfl)]
       go_simp
       refine ⟨trivial, ((callsIn_wide.2 (HSM.out _)).inRound lp).mono ?_⟩
       rintro e q6 ⟨rfl, hq⟩
       have BQ : Hid (Below W.heap.size W q6) := Lib.hid (BD.out.trans (hq.mono BD.out.size))
       obtain ⟨y0, y1, y2, y3⟩ := HFC.out _ BQ.out
       clear hq
       refine hK _ _ ?_
       try simp only [Act.put, z1, z2, z3]
       clear hK
       clear K
       refine wpAnyIn_ready (rs := [3]) (by kernel_rfl) (by simp) ?_
       refine AllReadyIn.cons (o := ?zog7_3) ?zhg7_3 ?zkg7_3 AllReadyIn.nil
       case zhg7_3 => (simp only [List.getElem?_toArray, List.getElem?_cons_succ, List.getElem?_cons_zero]; rfl)
       ·
        intro K hK
        rw [if_pos (by kernel_rfl)]
        go_simp
        refine hK _ _ ?_
        try simp only [Act.put, z1, z2, z3]
        clear hK
        clear K
        refine wpAnyIn_ready (rs := [4]) (by kernel_rfl) (by simp) ?_
        refine AllReadyIn.cons (o := ?zog8_4) ?zhg8_4 ?zkg8_4 AllReadyIn.nil
        case zhg8_4 => (simp only [List.getElem?_toArray, List.getElem?_cons_succ, List.getElem?_cons_zero]; rfl)
        ·
         intro K hK
         rw [if_pos (by kernel_rfl)]
         go_simp
         refine hK _ _ ?_
         try simp only [Act.put, z1, z2, z3]
         clear hK
         clear K
         refine wpAnyIn_done (by kernel_rfl) ?_ _
         cases r with
         | false =>
           gi_wp2
           exact HND.out _ BQ.out (by trivial)
         | true =>
           obtain ⟨u6, u7, u8⟩ := HFY.out _ BQ.out
           have e0 := u6.cell 0
           have e1 := u6.cell 1
           have e2 := u6.cell 2
           have e3 := u6.cell 3
           have e4 := u7.cell 0
           have e5 := u8.cell 0
           have f0 := u6.frozen 0
           have f1 := u6.frozen 1
           have f2 := u6.frozen 2
           have f3 := u6.frozen 3
           have f4 := u7.frozen 0
           have f5 := u8.frozen 0
           clear u6 u7 u8
           gi_wp2
           exact HYW.out _ BQ.out (by trivial)
      ·
       intro K hK
       rw [if_pos (by kernel_rfl)]
       go_simp
       refine hK _ _ ?_
       try simp only [Act.put, z1, z2, z3]
       clear hK
       clear K
       refine wpAnyIn_ready (rs := [1]) (by kernel_rfl) (by simp) ?_
       refine AllReadyIn.cons (o := ?zog9_1) ?zhg9_1 ?zkg9_1 AllReadyIn.nil
       case zhg9_1 => (simp only [List.getElem?_toArray, List.getElem?_cons_succ, List.getElem?_cons_zero]; rfl)
       ·
        intro K hK
        rw [if_pos (by kernel_rfl)]
        go_simp
        refine ⟨trivial, ((callsIn_wide.2 (HSM.out _)).inRound lp).mono ?_⟩
        rintro e q9 ⟨rfl, hq⟩
        have BQ : Hid (Below W.heap.size W q9) := Lib.hid (BD.out.trans (hq.mono BD.out.size))
        obtain ⟨y0, y1, y2, y3⟩ := HFC.out _ BQ.out
        clear hq
        refine hK _ _ ?_
        try simp only [Act.put, z1, z2, z3]
        clear hK
        clear K
        refine wpAnyIn_ready (rs := [4]) (by kernel_rfl) (by simp) ?_
        refine AllReadyIn.cons (o := ?zog10_4) ?zhg10_4 ?zkg10_4 AllReadyIn.nil
        case zhg10_4 => (simp only [List.getElem?_toArray, List.getElem?_cons_succ, List.getElem?_cons_zero]; rfl)
        ·
         intro K hK
         rw [if_pos (by kernel_rfl)]
         go_simp
         refine hK _ _ ?_
         try simp only [Act.put, z1, z2, z3]
         clear hK
         clear K
         refine wpAnyIn_done (by kernel_rfl) ?_ _
         cases r with
         | false =>
           gi_wp2
           exact HND.out _ BQ.out (by trivial)
         | true =>
           obtain ⟨u6, u7, u8⟩ := HFY.out _ BQ.out
           have e0 := u6.cell 0
           have e1 := u6.cell 1
           have e2 := u6.cell 2
           have e3 := u6.cell 3
           have e4 := u7.cell 0
           have e5 := u8.cell 0
           have f0 := u6.frozen 0
           have f1 := u6.frozen 1
           have f2 := u6.frozen 2
           have f3 := u6.frozen 3
           have f4 := u7.frozen 0
           have f5 := u8.frozen 0
           clear u6 u7 u8
           gi_wp2
           exact HYW.out _ BQ.out (by trivial)
    ·
     intro K hK
     rw [if_pos (by kernel_rfl)]
     go_simp
     refine hK _ _ ?_
     try simp only [Act.put, z1, z2, z3]
     clear hK
     clear K
     refine wpAnyIn_ready (rs := [0, 3]) (by kernel_rfl) (by simp) ?_
     refine AllReadyIn.cons (o := ?zog11_0) ?zhg11_0 ?zkg11_0 (AllReadyIn.cons (o := ?zog11_3) ?zhg11_3 ?zkg11_3 AllReadyIn.nil)
     case zhg11_0 => (simp only [List.getElem?_toArray, List.getElem?_cons_succ, List.getElem?_cons_zero]; rfl)
     case zhg11_3 => (simp only [List.getElem?_toArray, List.getElem?_cons_succ, List.getElem?_cons_zero]; rfl)
     ·
      intro K hK
      rw [if_pos (by kernel_rfl)]
      go_simp
      refine hK _ _ ?_
      try simp only [Act.put, z1, z2, z3]
      clear hK
      clear K
      refine wpAnyIn_ready (rs := [1, 3]) (by kernel_rfl) (by simp) ?_
      refine AllReadyIn.cons (o := ?zog12_1) ?zhg12_1 ?zkg12_1 (AllReadyIn.cons (o := ?zog12_3) ?zhg12_3 ?zkg12_3 AllReadyIn.nil)
      case zhg12_1 => (simp only [List.getElem?_toArray, List.getElem?_cons_succ, List.getElem?_cons_zero]; rfl)
      case zhg12_3 => (simp only [List.getElem?_toArray, List.getElem?_cons_succ, List.getElem?_cons_zero]; rfl)
      ·
       intro K hK
       rw [if_pos (by kernel_rfl)]
       go_simp
       refine ⟨trivial, ((callsIn_wide.2 (HSM.out _)).inRound lp).mono ?_⟩
       rintro e q12 ⟨rfl, hq⟩
       have BQ : Hid (Below W.heap.size W q12) := Lib.hid (BD.out.trans (hq.mono BD.out.size))
       obtain ⟨y0, y1, y2, y3⟩ := HFC.out _ BQ.out
       clear hq
       refine hK _ _ ?_
       try simp only [Act.put, z1, z2, z3]
       clear hK
       clear K
       refine wpAnyIn_ready (rs := [3]) (by kernel_rfl) (by simp) ?_
       refine AllReadyIn.cons (o := ?zog13_3) ?zhg13_3 ?zkg13_3 AllReadyIn.nil
       case zhg13_3 => (simp only [List.getElem?_toArray, List.getElem?_cons_succ, List.getElem?_cons_zero]; rfl)
       ·
        intro K hK
        rw [if_pos (by kernel_rfl)]
        go_simp
        refine hK _ _ ?_
        try simp only [Act.put, z1, z2, z3]
        clear hK
        clear K
        refine wpAnyIn_ready (rs := [4]) (by kernel_rfl) (by simp) ?_
        refine AllReadyIn.cons (o := ?zog14_4) ?zhg14_4 ?zkg14_4 AllReadyIn.nil
        case zhg14_4 => (simp only [List.getElem?_toArray, List.getElem?_cons_succ, List.getElem?_cons_zero]; rfl)
        ·
         intro K hK
         rw [if_pos (by kernel_rfl)]
         go_simp
         refine hK _ _ ?_
         try simp only [Act.put, z1, z2, z3]
         clear hK
         clear K
         refine wpAnyIn_done (by kernel_rfl) ?_ _
         cases r with
         | false =>
           gi_wp2
           exact HND.out _ BQ.out (by trivial)
         | true =>
           obtain ⟨u6, u7, u8⟩ := HFY.out _ BQ.out
           have e0 := u6.cell 0
           have e1 := u6.cell 1
           have e2 := u6.cell 2
           have e3 := u6.cell 3
           have e4 := u7.cell 0
           have e5 := u8.cell 0
           have f0 := u6.frozen 0
           have f1 := u6.frozen 1
           have f2 := u6.frozen 2
           have f3 := u6.frozen 3
           have f4 := u7.frozen 0
           have f5 := u8.frozen 0
           clear u6 u7 u8
           gi_wp2
           exact HYW.out _ BQ.out (by trivial)
      ·
       intro K hK
       rw [if_pos (by kernel_rfl)]
       go_simp
       refine hK _ _ ?_
       try simp only [Act.put, z1, z2, z3]
       clear hK
       clear K
       refine wpAnyIn_ready (rs := [1]) (by kernel_rfl) (by simp) ?_
       refine AllReadyIn.cons (o := ?zog15_1) ?zhg15_1 ?zkg15_1 AllReadyIn.nil
       case zhg15_1 => (simp only [List.getElem?_toArray, List.getElem?_cons_succ, List.getElem?_cons_zero]; rfl)
       ·
        intro K hK
        rw [if_pos (by kernel_rfl)]
        go_simp
        refine ⟨trivial, ((callsIn_wide.2 (HSM.out _)).inRound lp).mono ?_⟩
        rintro e q15 ⟨rfl, hq⟩
        have BQ : Hid (Below W.heap.size W q15) := Lib.hid (BD.out.trans (hq.mono BD.out.size))
        obtain ⟨y0, y1, y2, y3⟩ := HFC.out _ BQ.out
        clear hq
        refine hK _ _ ?_
        try simp only [Act.put, z1, z2, z3]
        clear hK
        clear K
        refine wpAnyIn_ready (rs := [4]) (by kernel_rfl) (by simp) ?_
        refine AllReadyIn.cons (o := ?zog16_4) ?zhg16_4 ?zkg16_4 AllReadyIn.nil
        case zhg16_4 => (simp only [List.getElem?_toArray, List.getElem?_cons_succ, List.getElem?_cons_zero]; rfl)
        ·
         intro K hK
         rw [if_pos (by kernel_rfl)]
         go_simp
         refine hK _ _ ?_
         try simp only [Act.put, z1, z2, z3]
         clear hK
         clear K
         refine wpAnyIn_done (by kernel_rfl) ?_ _
         cases r with
         | false =>
           gi_wp2
           exact HND.out _ BQ.out (by trivial)
         | true =>
           obtain ⟨u6, u7, u8⟩ := HFY.out _ BQ.out
           have e0 := u6.cell 0
           have e1 := u6.cell 1
           have e2 := u6.cell 2
           have e3 := u6.cell 3
           have e4 := u7.cell 0
           have e5 := u8.cell 0
           have f0 := u6.frozen 0
           have f1 := u6.frozen 1
           have f2 := u6.frozen 2
           have f3 := u6.frozen 3
           have f4 := u7.frozen 0
           have f5 := u8.frozen 0
           clear u6 u7 u8
           gi_wp2
           exact HYW.out _ BQ.out (by trivial)
     ·
      intro K hK
      rw [if_pos (by kernel_rfl)]
      go_simp
      refine hK _ _ ?_
      try simp only [Act.put, z1, z2, z3]
      clear hK
      clear K
      refine wpAnyIn_ready (rs := [0]) (by kernel_rfl) (by simp) ?_
      refine AllReadyIn.cons (o := ?zog17_0) ?zhg17_0 ?zkg17_0 AllReadyIn.nil
      case zhg17_0 => (simp only [List.getElem?_toArray, List.getElem?_cons_succ, List.getElem?_cons_zero]; rfl)
      ·
       intro K hK
       rw [if_pos (by kernel_rfl)]
       go_simp
       refine hK _ _ ?_
       try simp only [Act.put, z1, z2, z3]
       clear hK
       clear K
       refine wpAnyIn_ready (rs := [1]) (by kernel_rfl) (by simp) ?_
       refine AllReadyIn.cons (o := ?zog18_1) ?zhg18_1 ?zkg18_1 AllReadyIn.nil
       case zhg18_1 => (simp only [List.getElem?_toArray, List.getElem?_cons_succ, List.getElem?_cons_zero]; rfl)
       ·
        intro K hK
        rw [if_pos (by kernel_rfl)]
        go_simp
        refine ⟨trivial, ((callsIn_wide.2 (HSM.out _)).inRound lp).mono ?_⟩
        rintro e q18 ⟨rfl, hq⟩
        have BQ : Hid (Below W.heap.size W q18) := Lib.hid (BD.out.trans (hq.mono BD.out.size))
        obtain ⟨y0, y1, y2, y3⟩ := HFC.out _ BQ.out
        clear hq
        refine hK _ _ ?_
        try simp only [Act.put, z1, z2, z3]
        clear hK
        clear K
        refine wpAnyIn_ready (rs := [4]) (by kernel_rfl) (by simp) ?_
        refine AllReadyIn.cons (o := ?zog19_4) ?zhg19_4 ?zkg19_4 AllReadyIn.nil
        case zhg19_4 => (simp only [List.getElem?_toArray, List.getElem?_cons_succ, List.getElem?_cons_zero]; rfl)
        ·
         intro K hK
         rw [if_pos (by kernel_rfl)]
         go_simp
         refine hK _ _ ?_
         try simp only [Act.put, z1, z2, z3]
         clear hK
         clear K
         refine wpAnyIn_done (by kernel_rfl) ?_ _
         cases r with
         | false =>
           gi_wp2
           exact HND.out _ BQ.out (by trivial)
         | true =>
           obtain ⟨u6, u7, u8⟩ := HFY.out _ BQ.out
           have e0 := u6.cell 0
           have e1 := u6.cell 1
           have e2 := u6.cell 2
           have e3 := u6.cell 3
           have e4 := u7.cell 0
           have e5 := u8.cell 0
           have f0 := u6.frozen 0
           have f1 := u6.frozen 1
           have f2 := u6.frozen 2
           have f3 := u6.frozen 3
           have f4 := u7.frozen 0
           have f5 := u8.frozen 0
           clear u6 u7 u8
           gi_wp2
           exact HYW.out _ BQ.out (by trivial)
  case done =>
    rintro D ys W hD hys ⟨hno, h6, h7, h8, h4, hsl, hb, hsz⟩ hK
    have HE : Hid (atX x ⟨ag, aa, bg, ba, two, (size : Nat), lev, bir, s0, s1, s2, s3⟩ g a size = none) := Lib.hid (by
      rw [HAX.out, ← hys]
      refine List.find?_eq_none.2 fun t ht => ?_
      obtain ⟨t', ht', rfl⟩ := List.mem_map.1 ht
      rw [hno t' ht']
      exact Bool.false_ne_true)
    have HCN := Lib.hid (containsE_any (some ⟨gb, 0, none⟩) n cap got W hsl (by rw [HNN.out]; have := HN1.out; omega))
    have HDD : Hid (W0.heap.size ≤ D) := Lib.hid hD
    have HSS : Hid (W0.heap.size = w2.heap.size + 4) := Lib.hid hs0
    have HK : Hid (W.heap[D]? = some (.deferred (some []))) := Lib.hid hK
    have H6 := Lib.hid h6
    have H7 := Lib.hid h7
    have H8 := Lib.hid h8
    have HB := Lib.hid hb
    clear hno h6 h7 h8 h4 hsl hb hsz hys hK hD b1 b2 b3 b4 hb0 hs0
    dsimp only
    go_wp2_with fail
    refine HCN.out.mono ?_
    rintro e q ⟨rfl, hq⟩
    have hb := HB.out
    have h6 : Blk q (w.heap.size + 3) 105 [.string ⟨#[]⟩, .int .i64 0, .int .i64 0, .int .i64 0] := H6.out.below hq
    have h7 := H7.out.below hq
    have h8 := H8.out.below hq
    have e0 := h6.cell 0
    have e1 := h6.cell 1
    have e2 := h6.cell 2
    have e3 := h6.cell 3
    have e4 := h7.cell 0
    have e5 := h8.cell 0
    have f0 := h6.frozen 0
    have f1 := h6.frozen 1
    have f2 := h6.frozen 2
    have f3 := h6.frozen 3
    have f4 := h7.frozen 0
    have f5 := h8.frozen 0
    have n34 : ∀ j, w.heap.size + 3 ≠ (⟨w.heap.size + 4, j, none⟩ : Addr).block := fun j => by show w.heap.size + 3 ≠ w.heap.size + 4; omega
    have n35 : ∀ j, w.heap.size + 3 ≠ (⟨w.heap.size + 5, j, none⟩ : Addr).block := fun j => by show w.heap.size + 3 ≠ w.heap.size + 5; omega
    have n43 : ∀ j, w.heap.size + 4 ≠ (⟨w.heap.size + 3, j, none⟩ : Addr).block := fun j => by show w.heap.size + 4 ≠ w.heap.size + 3; omega
    have n45 : ∀ j, w.heap.size + 4 ≠ (⟨w.heap.size + 5, j, none⟩ : Addr).block := fun j => by show w.heap.size + 4 ≠ w.heap.size + 5; omega
    have n53 : ∀ j, w.heap.size + 5 ≠ (⟨w.heap.size + 3, j, none⟩ : Addr).block := fun j => by show w.heap.size + 5 ≠ w.heap.size + 3; omega
    have n54 : ∀ j, w.heap.size + 5 ≠ (⟨w.heap.size + 4, j, none⟩ : Addr).block := fun j => by show w.heap.size + 5 ≠ w.heap.size + 4; omega
    have g3 : ∀ k, k = 3 ∨ k = 4 ∨ k = 5 → ∀ j, w.heap.size ≤ (⟨w.heap.size + k, j, none⟩ : Addr).block := fun k _ j => by show w.heap.size ≤ w.heap.size + k; omega
    obtain ⟨W3, hW3⟩ : ∃ W3, W3 = ((((((q.setCell ⟨w.heap.size + 3, 0, none⟩ (.string ⟨#[]⟩)).setCell ⟨w.heap.size + 3, 1, none⟩ (.int .i64 0)).setCell ⟨w.heap.size + 3, 2, none⟩ (.int .i64 0)).setCell ⟨w.heap.size + 3, 3, none⟩ (.int .i64 0)).setCell ⟨w.heap.size + 4, 0, none⟩ (.bool false)).setCell ⟨w.heap.size + 5, 0, none⟩ (.bool (!decide ([] ∈ got)))) := ⟨_, rfl⟩
    have HB3 : Hid (Below w.heap.size w W3) := Lib.hid (by rw [hW3]; exact (((((((hb.trans (hq.mono hb.size)).setCell (p := ⟨w.heap.size + 3, 0, none⟩) (g3 3 (by omega) 0) _).setCell (p := ⟨w.heap.size + 3, 1, none⟩) (g3 3 (by omega) 1) _).setCell (p := ⟨w.heap.size + 3, 2, none⟩) (g3 3 (by omega) 2) _).setCell (p := ⟨w.heap.size + 3, 3, none⟩) (g3 3 (by omega) 3) _).setCell (p := ⟨w.heap.size + 4, 0, none⟩) (g3 4 (by omega) 0) _).setCell (p := ⟨w.heap.size + 5, 0, none⟩) (g3 5 (by omega) 0) _))
    have X6 : Hid (Blk W3 (w.heap.size + 3) 105 (encCm [] 0 0 0)) := Lib.hid (by rw [hW3]; exact (((((((h6).setCell 0 _).setCell 1 _).setCell 2 _).setCell 3 _).other (n34 0) _).other (n35 0) _))
    have X7 : Hid (Blk W3 (w.heap.size + 4) 4 [.bool false]) := Lib.hid (by rw [hW3]; exact ((((((((h7).other (n43 0) _).other (n43 1) _).other (n43 2) _).other (n43 3) _).setCell 0 _).other (n45 0) _)))
    have X8 : Hid (Blk W3 (w.heap.size + 5) 4 [.bool (!decide ([] ∈ got))]) := Lib.hid (by rw [hW3]; exact ((((((((h8).other (n53 0) _).other (n53 1) _).other (n53 2) _).other (n53 3) _).other (n54 0) _).setCell 0 _)))
    have HKD : Hid (W3.heap[D]? = some (.deferred (some []))) := Lib.hid (by
      have hd1 := HDD.out
      have hd2 := HSS.out
      have hne : ∀ k, k = 3 ∨ k = 4 ∨ k = 5 → ∀ j, D ≠ (⟨w.heap.size + k, j, none⟩ : Addr).block := fun k _ j => by show D ≠ w.heap.size + k; omega
      rw [hW3, Below.heap_setCell _ _ _ _ (hne 5 (by omega) _), Below.heap_setCell _ _ _ _ (hne 4 (by omega) _), Below.heap_setCell _ _ _ _ (hne 3 (by omega) _), Below.heap_setCell _ _ _ _ (hne 3 (by omega) _), Below.heap_setCell _ _ _ _ (hne 3 (by omega) _), Below.heap_setCell _ _ _ _ (hne 3 (by omega) _), hq.block D (Array.getElem?_eq_some_iff.1 HK.out).1]
      exact HK.out)
    have HW3 := Lib.hid hW3
    clear hW3 h6 h7 h8 hb n34 n35 n43 n45 n53 n54 g3 hq
    go_wp2_with fail
    rw [← HW3.out]
    refine ⟨by simp, .inl ⟨_, _, rfl, run_takeDeferred HKD.out, ?_⟩⟩
    have hno : ∀ r, some D = some r → ∃ o : Obj, W3.heap[r]? = some o ∧ o.isCells = false := fun r e => by cases e; exact ⟨_, HKD.out, rfl⟩
    refine ⟨_, results_came rfl _ _ (w.heap.size + 3) (w.heap.size + 4) (w.heap.size + 5) [] 0 0 0 false (!decide ([] ∈ got)) rfl rfl rfl (X6.out.own1 (grownBy_putObj' W3 D _) hno) (X7.out.own1 (grownBy_putObj' W3 D _) hno) (X8.out.own1 (grownBy_putObj' W3 D _) hno), by rw [HE.out]; rfl, ?_⟩
    exact HB3.out.grown (grownBy_putObj' W3 D _) HB3.out.size (fun k e => by cases e; have := HDD.out; have := HSS.out; omega)
  case stop =>
    rintro D c pre W hD hSp ⟨rfl, pre', d, s, hss, rfl, hno, hyes, h6, h7, h8, hb, hsz⟩ hK
    have HE : Hid (atX x ⟨ag, aa, bg, ba, two, (size : Nat), lev, bir, s0, s1, s2, s3⟩ g a size = some (d, s)) := Lib.hid (by
      obtain ⟨r, hr⟩ := hSp
      rw [HAX.out, ← hr, tryL_append, List.append_assoc, List.find?_append, List.find?_append]
      have h1 : (tryL pre').find? (fun t => PtrT.sumIs ⟨ag, aa, bg, ba, two, (size : Nat), lev, bir, s0, s1, s2, s3⟩ t.2) = none := List.find?_eq_none.2 (fun t ht => by
        obtain ⟨t', ht', rfl⟩ := List.mem_map.1 ht
        rw [hno t' ht']
        exact Bool.false_ne_true)
      rw [h1]
      show (Option.or none (Option.or (List.find? (fun t : Int × Bs => PtrT.sumIs ⟨ag, aa, bg, ba, two, (size : Nat), lev, bir, s0, s1, s2, s3⟩ t.2) [(d, s)]) _)) = _
      rw [List.find?_cons_of_pos (p := fun t : Int × Bs => PtrT.sumIs ⟨ag, aa, bg, ba, two, (size : Nat), lev, bir, s0, s1, s2, s3⟩ t.2) (a := (d, s)) hyes]
      rfl)
    refine wpIn_wide.2 ?_
    dsimp only
    go_wp2_with fail
    refine ⟨by simp, .inl ⟨_, _, rfl, run_takeDeferred hK, ?_⟩⟩
    have hno2 : ∀ r, some D = some r → ∃ o : Obj, W.heap[r]? = some o ∧ o.isCells = false := fun r e => by cases e; exact ⟨_, hK, rfl⟩
    refine ⟨_, results_came rfl _ _ (w.heap.size + 3) (w.heap.size + 4) (w.heap.size + 5) s 0 d 0 true true rfl rfl rfl (h6.own1 (grownBy_putObj' W D _) hno2) (h7.own1 (grownBy_putObj' W D _) hno2) (h8.own1 (grownBy_putObj' W D _) hno2), by rw [HE.out]; rfl, ?_⟩
    exact hb.grown (grownBy_putObj' W D _) hb.size (fun k e => by cases e; omega)
end Go.Proofs.YtfaemcfjbbbbdaaGreat
namespace Go.Proofs.YtfaemcfjbbbbdaaGreat
open Go.RowKit
def plL (p : PtrT) : List (Int × Int) := if p.two = true then [(p.ag, p.aa), (p.bg, p.ba)] else [(p.ag, p.aa)]
def encPc (l : List (Int × Int)) : List Value := l.flatMap fun q => [.int .i64 q.1, .int .i64 q.2]
theorem plL_len (p : PtrT) : (plL p).length = if p.two = true then 2 else 1 := by unfold plL; split <;> rfl
def lookL (x : DvsT) (p : PtrT) : List (Int × Int) → Nat → Option (Nat × Int × Bs)
 | [], _ => none
 | q :: r, i => match atX x p q.1.toNat q.2.toNat p.size.toNat with
  | some (d, s) => some (i, d, s)
  | none => lookL x p r (i + 1)
def lookX (x : DvsT) (p : PtrT) : Option (Nat × Int × Bs) := lookL x p (plL p) 0
theorem pl_places (p : PtrT) (hb : 1 ≤ p.birth) (w : World) :
  Calls Tryz.prog 19 #[.agg (encPtr p).toArray] w fun e w' => ∃ g, e = .returned (.slice (some ⟨g, 0, none⟩) (plL p).length (plL p).length) ∧ w.heap.size ≤ g ∧
   Blk w' g 44 (encPc (plL p)) ∧ Below w.heap.size w w' := by
 refine (places_any p hb w).mono ?_
 rintro e w' ⟨g, he, hg, hB, hb⟩
 refine ⟨g, ?_, hg, ?_, hb⟩
 ·rw [he.out, plL_len]
 ·unfold plL
  split
  ·rename_i h; rw [if_pos h] at hB; exact hB
  ·rename_i h; rw [if_neg h] at hB; exact hB
theorem pl_cell {W : World} {g e : Nat} {l : List (Int × Int)} (h : Blk W g e (encPc l)) {k : Nat} (hk : k < l.length) :
  W.cell? ⟨g, k * 2, none⟩ = some (.int .i64 (l.getD k (0, 0)).1) ∧ W.cell? ⟨g, k * 2 + 1, none⟩ = some (.int .i64 (l.getD k (0, 0)).2) := by
 refine ⟨?_, ?_⟩
 ·have := flat_get (f := fun q : Int × Int => [Value.int .i64 q.1, .int .i64 q.2]) (K := 2) (fun _ => rfl) l k 0 (0, 0) hk (by omega)
  rw [h.cell]; exact this
 ·have := flat_get (f := fun q : Int × Int => [Value.int .i64 q.1, .int .i64 q.2]) (K := 2) (fun _ => rfl) l k 1 (0, 0) hk (by omega)
  rw [h.cell]; exact this
structure PlOk (x : DvsT) (p : PtrT) (q : Int × Int) : Prop where
 g : 0 ≤ q.1
 a : 0 ≤ q.2
 s : 1 ≤ p.size ∧ p.size ≤ 4
 may : mayC x.gs x.secs q.1 q.2 p.size = true
theorem plL_ok {x : DvsT} {p : PtrT} (h : ptrRight x.gs x.secs p = true) : ∀ q ∈ plL p, PlOk x p q := by
 have key : ∀ g a, mayC x.gs x.secs g a p.size = true → PlOk x p (g, a) := fun g a hm => by
  have := mayC_spec hm
  exact ⟨this.2.1, this.2.2.2.2.2.1, ⟨this.2.2.2.1, this.2.2.2.2.1⟩, hm⟩
 unfold ptrRight at h
 simp only [Bool.and_eq_true] at h
 obtain ⟨⟨h1, h2⟩, h3⟩ := h
 intro q hq
 unfold plL at hq
 split at hq
 ·rename_i h4
  rw [if_pos h4] at h3
  simp only [Bool.and_eq_true] at h3
  rcases List.mem_cons.1 hq with rfl | hq
  ·exact key _ _ h2
  ·rw [List.mem_singleton.1 hq]; exact key _ _ h3.1
 ·rw [List.mem_singleton.1 hq]; exact key _ _ h2
theorem ptrRight_birth {gs : Gs} {secs : Int} {p : PtrT} (h : ptrRight gs secs p = true) : 1 ≤ p.birth := by
 unfold ptrRight at h
 simp only [Bool.and_eq_true, decide_eq_true_eq] at h
 exact h.1.1.2.2.1
def DvsT.fits (x : DvsT) : Prop := ∀ i k, fit1 ((x.ds.getD i dvD).now k) = true
theorem col_fits {x : DvsT} (h : x.fits) (c : ColT) : fit1 (x.col c) = true := by
 unfold DvsT.col
 split
 ·unfold DevT.readE
  split
  ·exact h _ _
  ·rfl
 ·rfl
theorem raw_fits {x : DvsT} (h : x.fits) (g a size : Nat) : (rawX x g a size).all fit1 = true := by
 unfold rawX
 rw [List.all_map]
 exact List.all_eq_true.2 fun c _ => col_fits h c
theorem results_cm {fn : Func} {p u : Tmp} (h : fn.results = #[.cell p 105, .tmp u]) (tmps : Array Value) (w : World) (g : Nat) (s : Bs) (pl d fx : Int)
  (hp : tmps.getD p undef = .pointer (some ⟨g, 0, none⟩)) (hg : Blk w g 105 (encCm s pl d fx)) :
  (results fn tmps).run Tryz.prog w = .ok (.tuple #[.agg (encCm s pl d fx).toArray, tmps.getD u undef]) w := by
 have hp' : tmps[p]?.getD undef = .pointer (some ⟨g, 0, none⟩) := by simpa using hp
 have e1 := run_loadVar_mid (P := Tryz.prog) w g 0 105 (encCm s pl d fx) _ (fun j v hv => by rw [Nat.zero_add, hg.cell, hv]) Tryz.underlying105 rfl infoCm
 simp [results, h, hp', asAddr, e1]
attribute [local go_sem ↓] Go.wp_at_zero Go.wp_at_succ
set_option maxRecDepth 100000 in
set_option maxHeartbeats 1000000 in
theorem look_any {w : World} {x : DvsT} {V : DvV} {F : Nat → Prop} (h : IsDvs w x V F) (hr : x.right = true) (p : PtrT) (hp : p.ok) (hpr : ptrRight x.gs x.secs p = true) (hf : x.fits) {i : Nat} {d : Int} {s : Bs} (hl : lookX x p = some (i, d, s)) :
  Calls Tryz.prog 69 #[V.val x.secs, .agg (encPtr p).toArray] w fun e w' => e = .returned (.tuple #[.agg (encCm s i d 0).toArray, .int .i64 0]) ∧ Below w.heap.size w w' := by
 obtain ⟨ga, gc, la, lc, wa, wc, hV, hg⟩ := h.form
 have HVR := Lib.hid (fun W (hW : Below w.heap.size w W) => vright_any (h.below hW) hr)
 have HPR := Lib.hid (fun W (hW : Below w.heap.size w W) => pright_any ga x.gs.length gc x.gs x.secs p W (hg.below hW) hp)
 rw [hpr] at HPR
 have HPL := Lib.hid (fun W => pl_places p (ptrRight_birth hpr) W)
 have hok := plL_ok hpr
 have HAT : Hid (∀ W, Below w.heap.size w W → ∀ q ∈ plL p, Calls Tryz.prog 92 #[V.val x.secs, .agg (encPtr p).toArray, .agg #[.int .i64 q.1, .int .i64 q.2]] W fun e w' => e = .returned (atV (atX x p q.1.toNat q.2.toNat p.size.toNat) (!decide ([] ∈ rawX x q.1.toNat q.2.toNat p.size.toNat))) ∧ Below W.heap.size W w') := Lib.hid (fun W hW q hq => by
  obtain ⟨h1, h2, h3, h4⟩ := hok q hq
  have := at_any (h.below hW) hr p q.1.toNat q.2.toNat p.size.toNat (by omega) (by rw [Int.toNat_of_nonneg h1, Int.toNat_of_nonneg h2, Int.toNat_of_nonneg (by omega)]; exact h4) (raw_fits hf _ _ _)
  rw [Int.toNat_of_nonneg h1, Int.toNat_of_nonneg h2] at this
  exact this)
 have hVV : V.val x.secs = .agg #[.slice ga x.gs.length gc, .int .i64 x.secs, .slice la x.ds.length lc, .slice wa x.ds.length wc] := by rw [hV]; rfl
 rw [hVV] at HVR HAT ⊢
 have HL0 : Hid (lookL x p ((plL p).drop 0) 0 = some (i, d, s)) := Lib.hid hl
 obtain ⟨L, hL⟩ : ∃ L, L = plL p := ⟨_, rfl⟩
 have hLn : 1 ≤ L.length ∧ L.length ≤ 2 := by rw [hL, plL_len]; split <;> omega
 rw [← hL] at HPL HAT HL0
 have HLN := Lib.hid hLn
 obtain ⟨dsn, hdsn⟩ : ∃ dsn, dsn = x.ds.length := ⟨_, rfl⟩
 obtain ⟨gsn, hgsn⟩ : ∃ gsn, gsn = x.gs.length := ⟨_, rfl⟩
 rw [← hdsn, ← hgsn] at HVR HAT ⊢
 rw [← hgsn] at HPR
 have HST : Hid (∀ k, k < L.length → lookL x p (L.drop k) k = match atX x p (L.getD k (0, 0)).1.toNat (L.getD k (0, 0)).2.toNat p.size.toNat with | some (d, s) => some (k, d, s) | none => lookL x p (L.drop (k + 1)) (k + 1)) := Lib.hid (fun k hk => by
  rw [List.drop_eq_getElem_cons hk]
  have e : L[k] = L.getD k (0, 0) := by simp [List.getD_eq_getElem?_getD, hk]
  rw [e]
  rfl)
 have HEN : Hid (∀ k, L.length ≤ k → lookL x p (L.drop k) k = none) := Lib.hid (fun k hk => by rw [List.drop_eq_nil_of_le hk]; rfl)
 have HMEM : Hid (∀ k, k < L.length → L.getD k (0, 0) ∈ L) := Lib.hid (fun k hk => by rw [List.getD_eq_getElem?_getD, List.getElem?_eq_getElem hk]; exact List.getElem_mem hk)
 clear hdsn hgsn hV hVV hg hok hf hl hL hpr hp hr h hLn
 obtain ⟨ag, aa, bg, ba, two, psize, lev, bir, s0, s1, s2, s3⟩ := p
 simp only [encPtr] at HPR HPL HAT ⊢
 obtain ⟨n, hn⟩ : ∃ n, n = L.length := ⟨_, rfl⟩
 rw [← hn] at HPL HLN HST HEN HMEM
 have HNL := Lib.hid hn
 clear hn
 have hb0 : Below w.heap.size w (((w.alloc (.cells #[.slice ga gsn gc, .int .i64 x.secs, .slice la dsn lc, .slice wa dsn wc] 37)).alloc (.cells #[.int .i64 ag, .int .i64 aa, .int .i64 bg, .int .i64 ba, .bool two, .int .i64 psize, .int .i64 lev, .int .i64 bir, .int .u64 s0, .int .u64 s1, .int .u64 s2, .int .u64 s3] 49)).alloc (.cells #[.string ⟨#[]⟩, .int .i64 0, .int .i64 0, .int .i64 0] 105)) := (((Below.refl _ _).alloc (Nat.le_refl _) _).alloc (by simp) _).alloc (by simp; omega) _
 go_enter Tryz.func69, Tryz.ntmps69
 go_wp2_with fail
 refine (HVR.out _ hb0).mono ?_
 rintro e w1 ⟨rfl, hb1⟩
 simp only [Nat.add_assoc, Nat.reduceAdd]
 have hB1 : Below w.heap.size w w1 := hb0.trans (hb1.mono hb0.size)
 have k2 : Blk w1 w.heap.size 37 [.slice ga gsn gc, .int .i64 x.secs, .slice la dsn lc, .slice wa dsn wc] := ((((Blk.new w _ [.slice ga gsn gc, .int .i64 x.secs, .slice la dsn lc, .slice wa dsn wc]).alloc _).alloc _)).below hb1
 have k3 : Blk w1 (w.heap.size + 1) 49 [.int .i64 ag, .int .i64 aa, .int .i64 bg, .int .i64 ba, .bool two, .int .i64 psize, .int .i64 lev, .int .i64 bir, .int .u64 s0, .int .u64 s1, .int .u64 s2, .int .u64 s3] := ((Blk.newAt (g := w.heap.size + 1) _ [.int .i64 ag, .int .i64 aa, .int .i64 bg, .int .i64 ba, .bool two, .int .i64 psize, .int .i64 lev, .int .i64 bir, .int .u64 s0, .int .u64 s1, .int .u64 s2, .int .u64 s3] (by simp)).alloc _).below hb1
 have k4 : Blk w1 (w.heap.size + 2) 105 [.string ⟨#[]⟩, .int .i64 0, .int .i64 0, .int .i64 0] := (Blk.newAt (g := w.heap.size + 2) _ [.string ⟨#[]⟩, .int .i64 0, .int .i64 0, .int .i64 0] (by simp)).below hb1
 have HS1 : Hid (w.heap.size + 3 ≤ w1.heap.size) := Lib.hid (by have := hb1.size; simpa using this)
 have K2 := Lib.hid k2
 have K3 := Lib.hid k3
 have K4 := Lib.hid k4
 have HB1 := Lib.hid hB1
 have a0 : w1.cell? ⟨w.heap.size, 0, none⟩ = some (.slice ga gsn gc) := k2.cell 0
 have a1 : w1.cell? ⟨w.heap.size, 1, none⟩ = some (.int .i64 x.secs) := k2.cell 1
 have a2 : w1.cell? ⟨w.heap.size, 2, none⟩ = some (.slice la dsn lc) := k2.cell 2
 have a3 : w1.cell? ⟨w.heap.size, 3, none⟩ = some (.slice wa dsn wc) := k2.cell 3
 have b0 : w1.cell? ⟨w.heap.size + 1, 0, none⟩ = some (.int .i64 ag) := k3.cell 0
 have b1 : w1.cell? ⟨w.heap.size + 1, 1, none⟩ = some (.int .i64 aa) := k3.cell 1
 have b2 : w1.cell? ⟨w.heap.size + 1, 2, none⟩ = some (.int .i64 bg) := k3.cell 2
 have b3 : w1.cell? ⟨w.heap.size + 1, 3, none⟩ = some (.int .i64 ba) := k3.cell 3
 have b4 : w1.cell? ⟨w.heap.size + 1, 4, none⟩ = some (.bool two) := k3.cell 4
 have b5 : w1.cell? ⟨w.heap.size + 1, 5, none⟩ = some (.int .i64 psize) := k3.cell 5
 have b6 : w1.cell? ⟨w.heap.size + 1, 6, none⟩ = some (.int .i64 lev) := k3.cell 6
 have b7 : w1.cell? ⟨w.heap.size + 1, 7, none⟩ = some (.int .i64 bir) := k3.cell 7
 have b8 : w1.cell? ⟨w.heap.size + 1, 8, none⟩ = some (.int .u64 s0) := k3.cell 8
 have b9 : w1.cell? ⟨w.heap.size + 1, 9, none⟩ = some (.int .u64 s1) := k3.cell 9
 have b10 : w1.cell? ⟨w.heap.size + 1, 10, none⟩ = some (.int .u64 s2) := k3.cell 10
 have b11 : w1.cell? ⟨w.heap.size + 1, 11, none⟩ = some (.int .u64 s3) := k3.cell 11
 clear hb0 hb1 hB1 k2 k3 k4
 go_wp2_with fail
 refine (HPR.out _ HB1.out).mono ?_
 rintro e w2 ⟨rfl, hb2⟩
 have H2 := Lib.hid (HB1.out.trans (hb2.mono HB1.out.size))
 have K22 := Lib.hid (K2.out.below hb2)
 have K23 := Lib.hid (K3.out.below hb2)
 have K24 := Lib.hid (K4.out.below hb2)
 have HS2 : Hid (w.heap.size + 3 ≤ w2.heap.size) := Lib.hid (Nat.le_trans HS1.out hb2.size)
 clear a0 a1 a2 a3 b0 b1 b2 b3 b4 b5 b6 b7 b8 b9 b10 b11 hb2 HS1 K2 K3 K4 HB1 HVR HPR
 have b0 : w2.cell? ⟨w.heap.size + 1, 0, none⟩ = some (.int .i64 ag) := K23.out.cell 0
 have b1 : w2.cell? ⟨w.heap.size + 1, 1, none⟩ = some (.int .i64 aa) := K23.out.cell 1
 have b2 : w2.cell? ⟨w.heap.size + 1, 2, none⟩ = some (.int .i64 bg) := K23.out.cell 2
 have b3 : w2.cell? ⟨w.heap.size + 1, 3, none⟩ = some (.int .i64 ba) := K23.out.cell 3
 have b4 : w2.cell? ⟨w.heap.size + 1, 4, none⟩ = some (.bool two) := K23.out.cell 4
 have b5 : w2.cell? ⟨w.heap.size + 1, 5, none⟩ = some (.int .i64 psize) := K23.out.cell 5
 have b6 : w2.cell? ⟨w.heap.size + 1, 6, none⟩ = some (.int .i64 lev) := K23.out.cell 6
 have b7 : w2.cell? ⟨w.heap.size + 1, 7, none⟩ = some (.int .i64 bir) := K23.out.cell 7
 have b8 : w2.cell? ⟨w.heap.size + 1, 8, none⟩ = some (.int .u64 s0) := K23.out.cell 8
 have b9 : w2.cell? ⟨w.heap.size + 1, 9, none⟩ = some (.int .u64 s1) := K23.out.cell 9
 have b10 : w2.cell? ⟨w.heap.size + 1, 10, none⟩ = some (.int .u64 s2) := K23.out.cell 10
 have b11 : w2.cell? ⟨w.heap.size + 1, 11, none⟩ = some (.int .u64 s3) := K23.out.cell 11
 go_wp2_with fail
 refine (HPL.out _).mono ?_
 rintro e w3 ⟨g, rfl, hg, hG, hb3⟩
 have H3 := Lib.hid (H2.out.trans (hb3.mono H2.out.size))
 have K32 := Lib.hid (K22.out.below hb3)
 have K33 := Lib.hid (K23.out.below hb3)
 have K34 := Lib.hid (K24.out.below hb3)
 have HS3 : Hid (w.heap.size + 3 ≤ w3.heap.size) := Lib.hid (Nat.le_trans HS2.out hb3.size)
 have HG := Lib.hid hG
 clear b0 b1 b2 b3 b4 b5 b6 b7 b8 b9 b10 b11 hb3 hg hG HS2 K22 K23 K24 H2 HPL
 go_wp2_with fail
 go_loopw [26, 6] (fun v26 v6 wr => ∃ (k : Nat) (b : Bool), v26 = .int .i64 (k : Nat) ∧ v6 = .bool b ∧ k ≤ n ∧ Hid (lookL x ⟨ag, aa, bg, ba, two, psize, lev, bir, s0, s1, s2, s3⟩ (L.drop k) k = some (i, d, s)) ∧ Hid (Below w3.heap.size w3 wr)) (fun v _ _ => n - (intOf v).toNat)
 case atStart => exact ⟨0, true, rfl, rfl, Nat.zero_le _, HL0, Lib.hid (Below.refl _ _)⟩
 case round =>
  obtain ⟨k, b, rfl, rfl, hk, HLK, HBR⟩ := hrel
  clear HL0
  by_cases hkn : k < n
  ·have q1 : (k : Int) < (n : Int) := by omega
   have q2 : 0 ≤ (k : Int) := by omega
   have hn2 : n ≤ 2 := HLN.out.2
   obtain ⟨⟨pg, pa⟩, hq⟩ : ∃ q : Int × Int, q = L.getD k (0, 0) := ⟨_, rfl⟩
   have HATK := Lib.hid (fun W hW => HAT.out W hW _ (HMEM.out k hkn))
   have HSTK := Lib.hid (HST.out k hkn)
   have hbr := HBR.out
   have hsr := hbr.size
   have hs3 := HS3.out
   have HBW := Lib.hid (H3.out.trans (hbr.mono H3.out.size))
   have k2 := K32.out.below (Below.mono hbr (Nat.le_refl _))
   have k3 := K33.out.below hbr
   obtain ⟨c0, c1⟩ := pl_cell (HG.out.below hbr) (by rw [← HNL.out]; exact hkn)
   rw [← hq] at HATK HSTK c0 c1
   dsimp only at HATK HSTK c0 c1
   have a0 : (wr.alloc (.cells #[.int .i64 pg, .int .i64 pa] 44)).cell? ⟨w.heap.size, 0, none⟩ = some (.slice ga gsn gc) := (k2.alloc _).cell 0
   have a1 : (wr.alloc (.cells #[.int .i64 pg, .int .i64 pa] 44)).cell? ⟨w.heap.size, 1, none⟩ = some (.int .i64 x.secs) := (k2.alloc _).cell 1
   have a2 : (wr.alloc (.cells #[.int .i64 pg, .int .i64 pa] 44)).cell? ⟨w.heap.size, 2, none⟩ = some (.slice la dsn lc) := (k2.alloc _).cell 2
   have a3 : (wr.alloc (.cells #[.int .i64 pg, .int .i64 pa] 44)).cell? ⟨w.heap.size, 3, none⟩ = some (.slice wa dsn wc) := (k2.alloc _).cell 3
   have b0 : (wr.alloc (.cells #[.int .i64 pg, .int .i64 pa] 44)).cell? ⟨w.heap.size + 1, 0, none⟩ = some (.int .i64 ag) := (k3.alloc _).cell 0
   have b1 : (wr.alloc (.cells #[.int .i64 pg, .int .i64 pa] 44)).cell? ⟨w.heap.size + 1, 1, none⟩ = some (.int .i64 aa) := (k3.alloc _).cell 1
   have b2 : (wr.alloc (.cells #[.int .i64 pg, .int .i64 pa] 44)).cell? ⟨w.heap.size + 1, 2, none⟩ = some (.int .i64 bg) := (k3.alloc _).cell 2
   have b3 : (wr.alloc (.cells #[.int .i64 pg, .int .i64 pa] 44)).cell? ⟨w.heap.size + 1, 3, none⟩ = some (.int .i64 ba) := (k3.alloc _).cell 3
   have b4 : (wr.alloc (.cells #[.int .i64 pg, .int .i64 pa] 44)).cell? ⟨w.heap.size + 1, 4, none⟩ = some (.bool two) := (k3.alloc _).cell 4
   have b5 : (wr.alloc (.cells #[.int .i64 pg, .int .i64 pa] 44)).cell? ⟨w.heap.size + 1, 5, none⟩ = some (.int .i64 psize) := (k3.alloc _).cell 5
   have b6 : (wr.alloc (.cells #[.int .i64 pg, .int .i64 pa] 44)).cell? ⟨w.heap.size + 1, 6, none⟩ = some (.int .i64 lev) := (k3.alloc _).cell 6
   have b7 : (wr.alloc (.cells #[.int .i64 pg, .int .i64 pa] 44)).cell? ⟨w.heap.size + 1, 7, none⟩ = some (.int .i64 bir) := (k3.alloc _).cell 7
   have b8 : (wr.alloc (.cells #[.int .i64 pg, .int .i64 pa] 44)).cell? ⟨w.heap.size + 1, 8, none⟩ = some (.int .u64 s0) := (k3.alloc _).cell 8
   have b9 : (wr.alloc (.cells #[.int .i64 pg, .int .i64 pa] 44)).cell? ⟨w.heap.size + 1, 9, none⟩ = some (.int .u64 s1) := (k3.alloc _).cell 9
   have b10 : (wr.alloc (.cells #[.int .i64 pg, .int .i64 pa] 44)).cell? ⟨w.heap.size + 1, 10, none⟩ = some (.int .u64 s2) := (k3.alloc _).cell 10
   have b11 : (wr.alloc (.cells #[.int .i64 pg, .int .i64 pa] 44)).cell? ⟨w.heap.size + 1, 11, none⟩ = some (.int .u64 s3) := (k3.alloc _).cell 11
   clear hbr hsr k2 k3 hq hs3
   go_wp2_with fail
   refine (HATK.out _ (HBW.out.trans ((Below.refl _ wr).alloc (Nat.le_refl _) _ |>.mono HBW.out.size))).mono ?_
   rintro e w5 ⟨rfl, hb5⟩
   have hbA : Below wr.heap.size wr w5 := ((Below.refl _ wr).alloc (Nat.le_refl _) _).trans (hb5.mono (by simp))
   have HB5 := Lib.hid (HBR.out.trans (hbA.mono HBR.out.size))
   have HS5 : Hid (wr.heap.size + 1 ≤ w5.heap.size) := Lib.hid (by have := hb5.size; simpa using this)
   have K54 := Lib.hid (K34.out.below HB5.out)
   obtain ⟨rd, hrd⟩ : ∃ rd, rd = (!decide ([] ∈ rawX x pg.toNat pa.toNat psize.toNat)) := ⟨_, rfl⟩
   obtain ⟨o, ho⟩ : ∃ o, o = atX x ⟨ag, aa, bg, ba, two, psize, lev, bir, s0, s1, s2, s3⟩ pg.toNat pa.toNat psize.toNat := ⟨_, rfl⟩
   rw [← ho] at HSTK
   rw [← ho, ← hrd]
   have HH := Lib.hid (HLK.out.symm.trans HSTK.out)
   clear ho hrd hb5 hbA a0 a1 a2 a3 b0 b1 b2 b3 b4 b5 b6 b7 b8 b9 b10 b11 HSTK HATK HLK c0 c1
   cases o with
   | none =>
    simp only [atV, encCm]
    cases b <;> cases rd
    all_goals (go_wp2_with fail)
    all_goals go_roundw
    all_goals first | exact ⟨k + 1, _, by go_num, rfl, by omega, Lib.hid HH.out.symm, Lib.hid (HB5.out.trans (((Below.refl _ _).alloc (Nat.le_refl _) _).mono HB5.out.size))⟩ | (simp [intOf]; omega)
   | some y =>
    obtain ⟨d2, sx⟩ := y
    have he : some (i, d, s) = some (k, d2, sx) := HH.out
    simp only [Option.some.injEq, Prod.mk.injEq] at he
    obtain ⟨rfl, rfl, rfl⟩ := he
    have h4 := K54.out
    have HSZ : Hid (w.heap.size + 3 ≤ w5.heap.size) := Lib.hid (by have := HS5.out; have := HS3.out; have := HBR.out.size; omega)
    obtain ⟨wE, hwE⟩ : ∃ wE, wE = ((((w5.alloc (.cells #[.string ⟨s.toArray⟩, .int .i64 (i : Nat), .int .i64 d, .int .i64 0] 105)).setCell ⟨w.heap.size + 2, 0, none⟩ (.string ⟨s.toArray⟩)).setCell ⟨w.heap.size + 2, 1, none⟩ (.int .i64 (i : Nat))).setCell ⟨w.heap.size + 2, 2, none⟩ (.int .i64 d)).setCell ⟨w.heap.size + 2, 3, none⟩ (.int .i64 0) := ⟨_, rfl⟩
    have HWE := Lib.hid hwE
    have HBK : Hid (Blk wE (w.heap.size + 2) 105 (encCm s i d 0)) := Lib.hid (by
     rw [hwE]
     exact (((((h4.alloc _).setCell 0 _).setCell 1 _).setCell 2 _).setCell 3 _))
    have HBE : Hid (Below w.heap.size w wE) := Lib.hid (by
     rw [hwE]
     have h5 : Below w.heap.size w w5 := H3.out.trans (HB5.out.mono H3.out.size)
     exact (((((h5.alloc h5.size _).setCell (p := ⟨w.heap.size + 2, 0, none⟩) (by show w.heap.size ≤ w.heap.size + 2; omega) _).setCell (p := ⟨w.heap.size + 2, 1, none⟩) (by show w.heap.size ≤ w.heap.size + 2; omega) _).setCell (p := ⟨w.heap.size + 2, 2, none⟩) (by show w.heap.size ≤ w.heap.size + 2; omega) _).setCell (p := ⟨w.heap.size + 2, 3, none⟩) (by show w.heap.size ≤ w.heap.size + 2; omega) _))
    have h4 : Blk (w5.alloc (.cells #[.string ⟨s.toArray⟩, .int .i64 (i : Nat), .int .i64 d, .int .i64 0] 105)) (w.heap.size + 2) 105 (encCm [] 0 0 0) := h4.alloc _
    have e0 : (w5.alloc (.cells #[.string ⟨s.toArray⟩, .int .i64 (i : Nat), .int .i64 d, .int .i64 0] 105)).cell? ⟨w.heap.size + 2, 0, none⟩ = some (.string ⟨#[]⟩) := h4.cell 0
    have e1 : (w5.alloc (.cells #[.string ⟨s.toArray⟩, .int .i64 (i : Nat), .int .i64 d, .int .i64 0] 105)).cell? ⟨w.heap.size + 2, 1, none⟩ = some (.int .i64 0) := h4.cell 1
    have e2 : (w5.alloc (.cells #[.string ⟨s.toArray⟩, .int .i64 (i : Nat), .int .i64 d, .int .i64 0] 105)).cell? ⟨w.heap.size + 2, 2, none⟩ = some (.int .i64 0) := h4.cell 2
    have e3 : (w5.alloc (.cells #[.string ⟨s.toArray⟩, .int .i64 (i : Nat), .int .i64 d, .int .i64 0] 105)).cell? ⟨w.heap.size + 2, 3, none⟩ = some (.int .i64 0) := h4.cell 3
    have f0 := h4.frozen 0
    have f1 := h4.frozen 1
    have f2 := h4.frozen 2
    have f3 := h4.frozen 3
    have hne : w.heap.size + 2 ≠ w5.heap.size := by have := HSZ.out; omega
    have hne2 : w5.heap.size ≠ w.heap.size + 2 := by have := HSZ.out; omega
    clear h4 hwE
    simp only [atV, encCm]
    go_wp2_with fail
    rw [← HWE.out]
    refine bodyPost_ret (results_cm rfl _ _ (w.heap.size + 2) s i d 0 rfl HBK.out) rfl ?_
    exact ⟨rfl, HBE.out⟩
  ·exfalso
   have := HEN.out k (by omega)
   rw [HLK.out] at this
   cases this
end Go.Proofs.YtfaemcfjbbbbdaaGreat
namespace Go.Proofs.YtfaemcfjbbbbdaaGreat
structure Kept (x y : DvsT) : Prop where
 gs : y.gs = x.gs
 secs : y.secs = x.secs
 away : y.away = x.away
 n : y.ds.length = x.ds.length
 dev : ∀ i, (y.ds.getD i dvD).med.length = (x.ds.getD i dvD).med.length ∧ (y.ds.getD i dvD).lost = (x.ds.getD i dvD).lost ∧ ((x.ds.getD i dvD).fuse = -1 → (y.ds.getD i dvD).fuse = -1)
 fit : x.fits → y.fits
theorem Kept.refl (x : DvsT) : Kept x x := ⟨rfl, rfl, rfl, rfl, fun i => ⟨rfl, rfl, fun h => h⟩, fun h => h⟩
theorem Kept.trans {x y z : DvsT} (h : Kept x y) (k : Kept y z) : Kept x z :=
 ⟨k.gs.trans h.gs, k.secs.trans h.secs, k.away.trans h.away, k.n.trans h.n, fun i => ⟨(k.dev i).1.trans (h.dev i).1, (k.dev i).2.1.trans (h.dev i).2.1, fun e => (k.dev i).2.2 ((h.dev i).2.2 e)⟩, fun f => k.fit (h.fit f)⟩
theorem right_iff (x : DvsT) : x.right = true ↔ rightB x.gs x.secs = true ∧ x.ds.length = devsN x.gs ∧ x.away.length = x.ds.length ∧ ∀ i, i < x.ds.length → (((x.ds.getD i dvD).med.length : Nat) : Int) = x.secs := by
 refine ⟨right_spec, fun ⟨h1, h2, h3, h4⟩ => ?_⟩
 unfold DvsT.right
 rw [h1, decide_eq_true h2, decide_eq_true h3]
 simp only [Bool.true_and, List.all_eq_true, decide_eq_true_eq]
 intro δ hδ
 obtain ⟨i, hi, rfl⟩ := List.getElem_of_mem hδ
 have := h4 i hi
 rwa [List.getD_eq_getElem?_getD, List.getElem?_eq_getElem hi] at this
theorem Kept.right {x y : DvsT} (h : Kept x y) (hr : x.right = true) : y.right = true := by
 obtain ⟨h1, h2, h3, h4⟩ := (right_iff x).1 hr
 refine (right_iff y).2 ⟨by rw [h.gs, h.secs]; exact h1, by rw [h.n, h.gs]; exact h2, by rw [h.away, h.n]; exact h3, fun i hi => ?_⟩
 rw [(h.dev i).1, h.secs]
 exact h4 i (by rw [← h.n]; exact hi)
theorem writeE_kept (δ : DevT) (a : Int) (s : Bs) : (δ.writeE a s).2.med = δ.med ∧ (δ.writeE a s).2.lost = δ.lost ∧ (δ.fuse = -1 → (δ.writeE a s).2.fuse = -1) ∧ ((∀ k, fit1 (δ.now k) = true) → ∀ k, fit1 ((δ.writeE a s).2.now k) = true) := by
 unfold DevT.writeE
 split
 ·exact ⟨rfl, rfl, fun h => h, fun h => h⟩
 ·split
  ·exact ⟨rfl, rfl, fun h => h, fun h => h⟩
  ·rename_i h64
   split
   ·exact ⟨rfl, rfl, fun h => h, fun h => h⟩
   ·refine ⟨rfl, rfl, fun h => by show max (δ.fuse - 1) (-1) = -1; omega, fun h k => ?_⟩
    dsimp only
    rw [DevT.now_wrote]
    split
    ·unfold fit1; exact decide_eq_true (.inr (by omega))
    ·exact h k
theorem putX_kept (x : DvsT) (c : ColT) (s : Bs) (hc : c.1 < x.ds.length) : Kept x (putX x c s).2 := by
 obtain ⟨h1, h2, h3, h4⟩ := putX_same x c s
 have key : ∀ i, ((putX x c s).2.ds.getD i dvD) = x.ds.getD i dvD ∨ (putX x c s).2.ds.getD i dvD = ((x.ds.getD i dvD).writeE (colAt c) s).2 := fun i => by
  unfold putX
  split
  ·dsimp only
   rw [DvsT.set_getD x c.1 i _ hc]
   split
   ·rename_i e; subst e; exact .inr rfl
   ·exact .inl rfl
  ·exact .inl rfl
 refine ⟨h1, h2, h3, h4, fun i => ?_, fun hf i k => ?_⟩
 ·rcases key i with e | e
  ·rw [e]; exact ⟨rfl, rfl, fun h => h⟩
  ·rw [e]
   obtain ⟨a1, a2, a3, a4⟩ := writeE_kept (x.ds.getD i dvD) (colAt c) s
   exact ⟨by rw [a1], a2, a3⟩
 ·rcases key i with e | e
  ·rw [e]; exact hf i k
  ·rw [e]; exact (writeE_kept (x.ds.getD i dvD) (colAt c) s).2.2.2 (fun k => hf i k) k
theorem mendsX_kept (L : List ColT) (T : List Bs) : ∀ (bl : List Nat) (x : DvsT) (n K : Nat), (∀ i ∈ bl, i < L.length) → (∀ i, i < L.length → (L.getD i cD).1 < x.ds.length) → x.deep K → Kept x (mendsX L T x bl n).2 ∧ (mendsX L T x bl n).2.deep (K + bl.length) ∧ n ≤ (mendsX L T x bl n).1 ∧ (mendsX L T x bl n).1 ≤ n + bl.length
 | [], x, n, K, _, _, hK => ⟨Kept.refl x, hK, Nat.le_refl _, Nat.le_refl _⟩
 | i :: r, x, n, K, h, hd, hK => by
  have hi := h i (List.mem_cons_self ..)
  have k1 := putX_kept x (L.getD i cD) (T.getD i []) (hd i hi)
  have d1 := putX_deep hK (L.getD i cD) (T.getD i []) (hd i hi)
  unfold mendsX
  rw [if_pos hi]
  obtain ⟨a1, a2, a3, a4⟩ := mendsX_kept L T r (putX x (L.getD i cD) (T.getD i [])).2 (if (putX x (L.getD i cD) (T.getD i [])).1 = true then n + 1 else n) (K + 1) (fun j hj => h j (List.mem_cons_of_mem _ hj)) (fun j hj => by rw [k1.n]; exact hd j hj) d1
  refine ⟨k1.trans a1, ?_, ?_, ?_⟩
  ·simp only [List.length_cons]
   rw [show K + (r.length + 1) = K + 1 + r.length by omega]
   exact a2
  ·refine Nat.le_trans ?_ a3
   split <;> omega
  ·refine Nat.le_trans a4 ?_
   simp only [List.length_cons]
   split <;> omega
def badX (x : DvsT) (g a : Nat) (s : Bs) : List Nat := badK (encL (colsL x.gs g a (s.length / 64)) (secL s)) (rawX x g a (s.length / 64)) (rawX x g a (s.length / 64)).length
theorem badX_spec {x : DvsT} {g a : Nat} {s : Bs} (hm : mayC x.gs x.secs g a ((s.length / 64 : Nat) : Int) = true) : (∀ i ∈ badX x g a s, i < (colsL x.gs g a (s.length / 64)).length) ∧ (badX x g a s).length ≤ 32 := by
 refine ⟨fun i hi => ?_, ?_⟩
 ·unfold badX badK at hi
  have := (List.mem_filter.1 hi).1
  rw [List.mem_range, rawX_len] at this
  exact this
 ·have h1 := badK_len (encL (colsL x.gs g a (s.length / 64)) (secL s)) (rawX x g a (s.length / 64)) (rawX x g a (s.length / 64)).length
  have h2 := rawX_len x g a (s.length / 64)
  have h3 := (colsL_len hm).2
  unfold badX
  omega
def mendedL (s : Bs) : List (Int × Int) → DvsT → Nat → Nat × DvsT
 | [], x, n => (n, x)
 | q :: r, x, n => mendedL s r (mendX x q.1.toNat q.2.toNat s (badX x q.1.toNat q.2.toNat s)).2 (n + (mendX x q.1.toNat q.2.toNat s (badX x q.1.toNat q.2.toNat s)).1)
end Go.Proofs.YtfaemcfjbbbbdaaGreat
