/- space, the plain law of SpaceFinds. -/
import Derived.Test.YtmnhdpojonlfhaaSpPF
namespace Go.Proofs.Ytmnhdpojonlfhaa

theorem finds_none {size n f : Nat} {rs : List (Nat × Nat)} (h : Good size rs) (hn : 1 ≤ n) (hf : f ≤ size) (hq : findS size rs n f = none) (i : Nat) : (takeS size rs i n).1 ≠ 0 := by
  rcases takeS_spec h (i : Int) (n : Int) with ⟨_, e⟩ | ⟨_, _, e⟩ | ⟨hm, hno, _, _, _⟩
  · rw [e]; simp
  · rw [e]; simp
  · obtain ⟨m1, m2, m3, m4⟩ := hm
    obtain ⟨x, h1, h2, h3⟩ := findS_none h hn hf hq i (by omega)
    exact absurd h3 (hno x (by omega) (by omega))

theorem finds_some {size n f q : Nat} {rs : List (Nat × Nat)} (h : Good size rs) (hn : 1 ≤ n) (hq : findS size rs n f = some q) :
    q + n ≤ size ∧ (takeS size rs q n).1 = 0 ∧ sumR (takeS size rs q n).2 = sumR rs + n ∧ (takeS size (takeS size rs q n).2 q n) = (13, (takeS size rs q n).2) ∧
    ∀ a, findS size (takeS size rs q n).2 n q = some a → a + n ≤ size ∧ (q + n ≤ a ∨ a + n ≤ q) := by
  obtain ⟨h1, h2, h3⟩ := findS_some h hn hq
  have hg := takeS_good h (q : Int) (n : Int)
  rcases takeS_spec h (q : Int) (n : Int) with ⟨hm, e⟩ | ⟨_, ⟨x, a1, a2, a3⟩, e⟩ | ⟨hm, hno, e0, hus, hsum⟩
  · exact absurd (show May size (q : Int) (n : Int) from ⟨by omega, by omega, by omega, by omega⟩) hm
  · exact absurd a3 (h3 x (by omega) (by omega))
  · obtain ⟨R, hR⟩ : ∃ R, R = takeS size rs (q : Int) (n : Int) := ⟨_, rfl⟩
    rw [← hR] at hg e0 hus hsum ⊢
    refine ⟨h2, e0, by rw [hsum]; omega, ?_, fun a ha => ?_⟩
    · rcases takeS_spec hg (q : Int) (n : Int) with ⟨hm2, _⟩ | ⟨_, _, e⟩ | ⟨_, hno2, _, _, _⟩
      · exact absurd hm hm2
      · exact e
      · exact absurd ((hus q).2 (.inr ⟨by omega, by omega⟩)) (hno2 q (by omega) (by omega))
    · obtain ⟨b1, b2, b3⟩ := findS_some hg hn ha
      refine ⟨b2, ?_⟩
      rcases Nat.lt_or_ge a (q + n) with hlt | hge
      · right
        rcases Nat.lt_or_ge q (a + n) with hlt2 | hge2
        · exact absurd ((hus (max a q)).2 (.inr ⟨by omega, by omega⟩)) (b3 (max a q) (by omega) (by omega))
        · exact hge2
      · exact .inl hge
end Go.Proofs.Ytmnhdpojonlfhaa
