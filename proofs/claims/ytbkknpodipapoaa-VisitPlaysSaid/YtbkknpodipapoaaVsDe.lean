/- The walk of visit.Dead. -/
import Derived.Test.YtbkknpodipapoaaVsWo
namespace Go.Proofs.Ytbkknpodipapoaa
open Go.RowKit
set_option linter.unusedSimpArgs false
attribute [local go_sem ↓] Go.wp_at_zero Go.wp_at_succ

def deadL (l lo : List PtrT) (prev : Int) : List PtrT := (withoutL l lo).filter fun p => !decide (p.birth ≤ prev)
set_option maxHeartbeats 800000 in
theorem dead1_any (p : PtrT) (cb : Nat) (prev : Int) (w : World) (hc : Blk w cb 3 [.int .i64 prev]) :
    Calls Try.prog 30 #[.agg (encPtr p).toArray, .pointer (some ⟨cb, 0, none⟩)] w fun e w' => e = .returned (.bool (decide (p.birth ≤ prev))) ∧ Below w.heap.size w w' := by
  obtain ⟨p0, p1, p2, p3, p4, p5, p6, p7, p8, p9, p10, p11⟩ := p
  dsimp only
  have hb0 : Below w.heap.size w (w.alloc (.cells #[.int .i64 p0, .int .i64 p1, .int .i64 p2, .int .i64 p3, .bool p4, .int .i64 p5, .int .i64 p6, .int .i64 p7, .int .u64 p8, .int .u64 p9, .int .u64 p10, .int .u64 p11] 30)) := (Below.refl _ _).alloc (Nat.le_refl _) _
  have c0 := (hc.alloc (.cells #[.int .i64 p0, .int .i64 p1, .int .i64 p2, .int .i64 p3, .bool p4, .int .i64 p5, .int .i64 p6, .int .i64 p7, .int .u64 p8, .int .u64 p9, .int .u64 p10, .int .u64 p11] 30)).cell 0
  have HB := Lib.hid hb0
  clear hb0 hc
  show Calls _ _ #[.agg #[.int .i64 p0, .int .i64 p1, .int .i64 p2, .int .i64 p3, .bool p4, .int .i64 p5, .int .i64 p6, .int .i64 p7, .int .u64 p8, .int .u64 p9, .int .u64 p10, .int .u64 p11], _] _ _
  go_enter Try.func30, Try.ntmps30
  go_wp2_with fail
  go_ret
  exact ⟨rfl, HB.out⟩
theorem withoutL_length (l lo : List PtrT) : (withoutL l lo).length ≤ l.length := Nat.le_trans (List.length_filter_le _ _) (ordL_length l)
set_option maxRecDepth 100000 in
set_option maxHeartbeats 1600000 in
theorem dead_any (ao bo : Option Addr) (n m cap cap' : Nat) (l lo : List PtrT) (prev : Int) (w : World) (h : PSl w ao n cap l) (h' : PSl w bo m cap' lo) (hn : n ≤ 500) :
    Calls Try.prog 13 #[.slice ao n cap, .slice bo m cap', .int .i64 prev] w fun e w' => ∃ v, e = .returned v ∧ PRow w' w.heap.size v (deadL l lo prev) ∧ Below w.heap.size w w' := by
  have BA := Lib.hid ((Below.refl w.heap.size w).alloc (Nat.le_refl _) (.cells #[.int .i64 prev] 3))
  have HW := Lib.hid (without_any ao bo n m cap cap' l lo _ (h.below BA.out) (h'.below BA.out) hn)
  have HC : Hid (Blk (w.alloc (.cells #[.int .i64 prev] 3)) w.heap.size 3 [.int .i64 prev]) := Lib.hid (Blk.new _ _ _)
  have hle : (withoutL l lo).length ≤ 1000 := by have := withoutL_length l lo; have := h.len; omega
  clear h h'
  go_enter Try.func13, Try.ntmps13
  go_wp2_with fail
  refine HW.out.mono ?_
  rintro e w1 ⟨v, rfl, hp, hb1⟩
  have HC1 := Lib.hid (HC.out.below hb1)
  have HB1 := Lib.hid (BA.out.trans (hb1.mono BA.out.size))
  have hvl : ∀ g, v.ownBlock = some g → (w.alloc (.cells #[.int .i64 prev] 3)).heap.size ≤ g := fun g hg => (hp.lt g hg).1
  have HD := Lib.hid (deleteRow_any 30 #[.pointer (some ⟨w.heap.size, 0, none⟩)] (fun x => decide (x.birth ≤ prev)) (withoutL l lo) v _ w1 hp hle (fun args W => by go_simp) (fun x W hW => by
    refine dead1_any x w.heap.size prev W ?_
    unfold Blk
    rw [hW.block _ HC1.out.lt (fun e => by have := hvl _ e.symm; simp at this; omega)]
    exact HC1.out))
  have HBF := Lib.hid (fun w' (hg : w1.grownBy w' v.ownBlock) => below_own (base := (w.alloc (.cells #[.int .i64 prev] 3)).heap.size) HB1.out hp hg HB1.out.size BA.out.size)
  clear hp hb1 hvl HW
  go_wp2_with fail
  refine HD.out.mono ?_
  rintro e w2 ⟨v', rfl, hp2, hg2⟩
  have HP2 := Lib.hid (owns_weaken hp2 BA.out.size)
  have HB2 := Lib.hid (HBF.out w2 hg2)
  clear hp2 hg2
  go_wp2_with fail
  go_ret
  exact ⟨_, rfl, HP2.out, HB2.out⟩
theorem without_psl (ao bo : Option Addr) (n m cap cap' : Nat) (l lo : List PtrT) (w : World) (h : PSl w ao n cap l) (h' : PSl w bo m cap' lo) (hn : n ≤ 500) :
    Calls Try.prog 14 #[.slice ao n cap, .slice bo m cap'] w fun e w' => ∃ a' c', e = .returned (.slice a' (withoutL l lo).length c') ∧ PSl w' a' (withoutL l lo).length c' (withoutL l lo) ∧ Below w.heap.size w w' :=
  (without_any ao bo n m cap cap' l lo w h h' hn).mono fun e w' ⟨v, he, hr, hb⟩ => by
    obtain ⟨a', c', rfl, hp⟩ := psl_of_row hr
    exact ⟨a', c', he, hp, hb⟩
theorem dead_psl (ao bo : Option Addr) (n m cap cap' : Nat) (l lo : List PtrT) (prev : Int) (w : World) (h : PSl w ao n cap l) (h' : PSl w bo m cap' lo) (hn : n ≤ 500) :
    Calls Try.prog 13 #[.slice ao n cap, .slice bo m cap', .int .i64 prev] w fun e w' => ∃ a' c', e = .returned (.slice a' (deadL l lo prev).length c') ∧ PSl w' a' (deadL l lo prev).length c' (deadL l lo prev) ∧ Below w.heap.size w w' :=
  (dead_any ao bo n m cap cap' l lo prev w h h' hn).mono fun e w' ⟨v, he, hr, hb⟩ => by
    obtain ⟨a', c', rfl, hp⟩ := psl_of_row hr
    exact ⟨a', c', he, hp, hb⟩
end Go.Proofs.Ytbkknpodipapoaa
