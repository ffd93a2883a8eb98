/- space's Free, whole. -/
import Derived.Test.YtmnhdpojonlfhaaSpF
namespace Go.Proofs.Ytmnhdpojonlfhaa
open Go.RowKit

theorem free_any (mb size : Nat) (rs : List (Nat × Nat)) (a n : Int) (w : World) (h : IsMap w mb size rs) :
    Calls Try.prog 33 #[.pointer (some ⟨mb, 0, none⟩), .int .i64 a, .int .i64 n] w fun e w' => e = .returned (.int .i64 (freeS size rs a n).1) ∧ IsMap w' mb size (freeS size rs a n).2 ∧ w.grownBy w' (some mb) := by
  by_cases hm : May size a n
  · have hg := freeS_good h.2.2.1 a n
    have hm' := hm
    obtain ⟨hm1, hm2, hm3, hm4⟩ := hm
    obtain ⟨a, rfl⟩ := Int.eq_ofNat_of_zero_le hm2
    obtain ⟨n, rfl⟩ := Int.eq_ofNat_of_zero_le (show 0 ≤ n by omega)
    obtain ⟨h1, h2, h3, h4, v, hb, ho⟩ := id h
    obtain ⟨ao, cap, rfl, hr⟩ := RSl.of_owns ho
    have hgx : ∃ g, 0 < rs.length → ao = some ⟨g, 0, none⟩ := by
      rcases ho.2 with ⟨hv, h0⟩ | ⟨g, cap', cur, hv, hbg, _⟩
      · exact ⟨0, fun hp => by omega⟩
      · simp only [Value.slice.injEq, true_and] at hv
        exact ⟨g, fun _ => hv.1⟩
    obtain ⟨g, hgg⟩ := hgx
    by_cases hu : firstOf rs a < rs.length ∧ (rs.getD (firstOf rs a) (0, 0)).1 ≤ a ∧ a + n ≤ (rs.getD (firstOf rs a) (0, 0)).1 + (rs.getD (firstOf rs a) (0, 0)).2
    · have e : freeS size rs (a : Int) (n : Int) = (0, rs.take (firstOf rs a) ++ partsOf (rs.getD (firstOf rs a) (0, 0)) a n ++ rs.drop (firstOf rs a + 1)) := by unfold freeS; rw [if_pos hm', if_pos (by simpa using hu)]; simp
      rw [e] at hg ⊢
      have hl2 := good_len hg
      obtain rfl := hgg (by omega)
      refine (free_ok mb size g cap rs a n _ w h1 h3 h4 hb ho hm' rfl hu.1 hu.2.1 hu.2.2).mono fun e w' ⟨he, ⟨v, k, hk, hv1, hv2⟩, hg'⟩ => ⟨he, ⟨h1, h2, hg, by omega, v, hv1, ?_⟩, hg'⟩
      rw [hk] at hv2
      exact hv2
    · have e : freeS size rs (a : Int) (n : Int) = (7, rs) := by unfold freeS; rw [if_pos hm', if_neg (by simpa using hu)]
      rw [e]
      refine (free_none mb size g cap rs a n ao w h1 h3 h4 hb ho hgg hm' hu).mono fun e w' ⟨he, hbw⟩ => ⟨he, h.below hbw, grown_of_below hbw⟩
  · have e : freeS size rs a n = (1, rs) := by unfold freeS; rw [if_neg hm]
    rw [e]
    exact (free_arg mb size rs a n w h hm).mono fun e w' ⟨he, hw⟩ => by subst hw; exact ⟨he, h, World.grownBy.refl _ _⟩
end Go.Proofs.Ytmnhdpojonlfhaa
