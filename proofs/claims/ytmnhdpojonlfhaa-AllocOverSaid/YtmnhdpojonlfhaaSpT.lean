/- The walks of space's methods: first, Take. -/
import Derived.Test.YtmnhdpojonlfhaaSpC
import Derived.Deep.RegionHeld3
namespace Go.Proofs.Ytmnhdpojonlfhaa
open Go.RowKit

/-- A map's block, and its runs. -/
def IsMap (w : World) (mb size : Nat) (rs : List (Nat × Nat)) : Prop :=
  size ≤ 65536 ∧ 1 ≤ size ∧ Good size rs ∧ rs.length ≤ 65536 ∧ ∃ v, Blk w mb 120 [.int .i64 size, v] ∧ w.ownsRow 0 44 2 v rs.length (encR rs)

theorem IsMap.below {w w' : World} {mb size : Nat} {rs : List (Nat × Nat)} (h : IsMap w mb size rs) (hb : Below w.heap.size w w') : IsMap w' mb size rs := by
  obtain ⟨h1, h2, h3, h4, v, h5, h6⟩ := h
  exact ⟨h1, h2, h3, h4, v, h5.below hb, owns_below h6 hb⟩
theorem IsMap.lt {w : World} {mb size : Nat} {rs : List (Nat × Nat)} (h : IsMap w mb size rs) : mb < w.heap.size := by
  obtain ⟨_, _, _, _, v, h5, _⟩ := h
  exact h5.lt
/-- a map stays as it is, where another block of its kind is written -/
theorem IsMap.other {w w' : World} {mb size mb' : Nat} {rs : List (Nat × Nat)} {cs : List Value} (h : IsMap w mb size rs) (hg : w.grownBy w' (some mb')) (hb : Blk w mb' 120 cs) (hne : mb ≠ mb') : IsMap w' mb size rs := by
  obtain ⟨h1, h2, h3, h4, v, h5, h6⟩ := h
  refine ⟨h1, h2, h3, h4, v, ?_, h6.kept hg ?_⟩
  · unfold Blk
    rw [hg.block mb h5.lt (by simp [hne])]
    exact h5
  · rcases h6.2 with ⟨rfl, _⟩ | ⟨g, cap, cur, rfl, _, hh, _⟩
    · exact .inl rfl
    · refine .inr ?_
      intro e
      simp only [Value.ownBlock, Option.some.injEq] at e
      subst e
      unfold Blk at hb
      rw [hh] at hb
      simp only [Option.some.injEq, Obj.cells.injEq] at hb
      exact absurd hb.2.1 (by decide)
theorem firstIdx_findIdx (rs : List (Nat × Nat)) (a : Nat) :
    firstIdx (fun j => decide (a < (rs.getD j (0, 0)).1 + (rs.getD j (0, 0)).2)) rs.length = if firstOf rs a < rs.length then (firstOf rs a : Int) else -1 := by
  by_cases h : firstOf rs a < rs.length
  · rw [if_pos h]
    refine firstIdx_at h ?_ fun j hj => ?_
    · have := List.findIdx_getElem (p := fun r : Nat × Nat => decide (a < r.1 + r.2)) (w := h)
      rw [List.getD_eq_getElem?_getD, List.getElem?_eq_getElem h]
      exact this
    · have := List.not_of_lt_findIdx (p := fun r : Nat × Nat => decide (a < r.1 + r.2)) (xs := rs) hj
      rw [List.getD_eq_getElem?_getD, List.getElem?_eq_getElem (by omega)]
      simpa using this
  · rw [if_neg h]
    refine firstIdx_none fun j hj => ?_
    have := List.not_of_lt_findIdx (p := fun r : Nat × Nat => decide (a < r.1 + r.2)) (xs := rs) (show j < firstOf rs a by omega)
    rw [List.getD_eq_getElem?_getD, List.getElem?_eq_getElem hj]
    simpa using this

theorem callFunc_first1 (args : Array Value) (W : World) : (callFunc 104 args).run Try.prog W = .ok (.enter 104 args) W := by kernel_rfl

set_option maxRecDepth 100000 in
theorem first_any (mb a : Nat) (ao : Option Addr) (cap : Nat) (rs : List (Nat × Nat)) (size : Nat) (w : World) (hc : w.cell? ⟨mb, 1, none⟩ = some (.slice ao rs.length cap)) (hsl : RSl w 2 ao rs.length cap (encR rs)) (hs : size ≤ 65536) (hg : Good size rs) (hl : rs.length ≤ 65536) :
    Calls Try.prog 72 #[.pointer (some ⟨mb, 0, none⟩), .int .i64 a] w fun e w' => e = .returned (.int .i64 (firstOf rs a)) ∧ Below w.heap.size w w' := by
  have hlt := block_lt_of_cell hc
  have hb0 : Below w.heap.size w (w.alloc (.cells #[.int .i64 a] 3)) := (Below.refl _ _).alloc (Nat.le_refl _) _
  have hc2 : (w.alloc (.cells #[.int .i64 a] 3)).cell? ⟨mb, 1, none⟩ = some (.slice ao rs.length cap) := by rw [World.cell?_alloc_past _ _ _ hlt]; exact hc
  have hcB : (w.alloc (.cells #[.int .i64 a] 3)).cell? ⟨w.heap.size, 0, none⟩ = some (.int .i64 a) := by rw [World.cell?_alloc_at _ _ _ _ rfl]; rfl
  have H := indexFuncR_any 104 #[.pointer (some ⟨w.heap.size, 0, none⟩)] (fun j => decide (a < (rs.getD j (0, 0)).1 + (rs.getD j (0, 0)).2)) ao rs.length cap (encR rs) (w.alloc (.cells #[.int .i64 a] 3))
    (hsl.below hb0) (by omega) callFunc_first1 (fun j hj W hW => by
      have e0 : (encR rs).getD (j * 2) undef = .int .i64 (rs.getD j (0, 0)).1 := by rw [List.getD_eq_getElem?_getD, (encR_get rs j hj).1]; rfl
      have e1 : (encR rs).getD (j * 2 + 1) undef = .int .i64 (rs.getD j (0, 0)).2 := by rw [List.getD_eq_getElem?_getD, (encR_get rs j hj).2]; rfl
      rw [e0, e1]
      have hm := hg.1 (rs.getD j (0, 0)) (by rw [List.getD_eq_getElem?_getD, List.getElem?_eq_getElem hj]; exact List.getElem_mem _)
      refine first1_any _ _ a w.heap.size W ?_ (by omega) (by omega)
      rw [hW.cell (p := ⟨w.heap.size, 0, none⟩) (by simp)]
      exact hcB)
  rw [firstIdx_findIdx] at H
  have hle := firstOf_le rs a
  obtain ⟨i, hi⟩ : ∃ i, i = firstOf rs a := ⟨_, rfl⟩
  rw [← hi] at H hle ⊢
  have HB0 := Lib.hid hb0
  have HC2 := Lib.hid hc2
  clear hcB hsl hg hb0 hi hc
  by_cases hil : i < rs.length
  · rw [if_pos hil] at H
    have HH := Lib.hid H
    clear H
    go_enter Try.func72, Try.ntmps72
    go_wp2_with fail
    refine HH.out.mono ?_
    rintro e w1 ⟨rfl, hb1⟩
    go_wp2_with fail
    go_ret
    exact ⟨rfl, HB0.out.trans (hb1.mono (by simp))⟩
  · rw [if_neg hil] at H
    have hil' : i = rs.length := by omega
    have HH := Lib.hid H
    clear H hil
    subst hil'
    go_enter Try.func72, Try.ntmps72
    go_wp2_with fail
    refine HH.out.mono ?_
    rintro e w1 ⟨rfl, hb1⟩
    have hc3 : w1.cell? ⟨mb, 1, none⟩ = some (.slice ao rs.length cap) := by rw [hb1.cell (p := ⟨mb, 1, none⟩) (by simp; omega)]; exact HC2.out
    go_wp2_with fail
    go_ret
    exact ⟨rfl, HB0.out.trans (hb1.mono (by simp))⟩
end Go.Proofs.Ytmnhdpojonlfhaa
