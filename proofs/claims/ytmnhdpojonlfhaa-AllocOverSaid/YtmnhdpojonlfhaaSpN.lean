/- Find of no map; a map beside a slice that is grown. -/
import Derived.Test.YtmnhdpojonlfhaaSpA
namespace Go.Proofs.Ytmnhdpojonlfhaa
open Go.RowKit

theorem find_nil (n f : Int) (w : World) :
    Calls Try.prog 35 #[.pointer none, .int .i64 n, .int .i64 f] w fun e w' => e = .returned (.tuple #[.int .i64 0, .bool false]) ∧ w = w' := by
  go_enter Try.func35, Try.ntmps35
  go_wp2_with fail
  go_ret2
  exact ⟨rfl, rfl⟩

theorem IsMap.ownKept {w w' : World} {mb size base k n : Nat} {e : TypeId} {rs : List (Nat × Nat)} {v : Value} {xs : List Value} (h : IsMap w mb size rs) (ho : w.ownsRow base e k v n xs) (he1 : e ≠ 120) (he2 : e ≠ 44) (hg : w.grownBy w' v.ownBlock) : IsMap w' mb size rs := by
  obtain ⟨h1, h2, h3, h4, v', h5, h6⟩ := h
  rcases ho.2 with ⟨rfl, _⟩ | ⟨g, cap, cur, rfl, _, hh, _⟩
  · refine ⟨h1, h2, h3, h4, v', ?_, h6.kept hg ?_⟩
    · unfold Blk
      rw [hg.block mb h5.lt (by simp [Value.ownBlock])]
      exact h5
    · rcases h6.2 with ⟨rfl, _⟩ | ⟨g', cap', cur', rfl, _, hh', _⟩
      · exact .inl rfl
      · exact .inr (by simp [Value.ownBlock])
  · refine ⟨h1, h2, h3, h4, v', ?_, h6.kept hg ?_⟩
    · unfold Blk
      rw [hg.block mb h5.lt ?_]
      · exact h5
      · simp only [Value.ownBlock, ne_eq, Option.some.injEq]
        intro eq
        subst eq
        unfold Blk at h5
        rw [hh] at h5
        simp only [Option.some.injEq, Obj.cells.injEq] at h5
        exact he1 h5.2.1
    · rcases h6.2 with ⟨rfl, _⟩ | ⟨g', cap', cur', rfl, _, hh', _⟩
      · exact .inl rfl
      · refine .inr ?_
        simp only [Value.ownBlock, ne_eq, Option.some.injEq]
        intro eq
        subst eq
        rw [hh] at hh'
        simp only [Option.some.injEq, Obj.cells.injEq] at hh'
        exact he2 hh'.2.1
end Go.Proofs.Ytmnhdpojonlfhaa
