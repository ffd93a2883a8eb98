/- More of the laws on trees, in plain words. -/
import Derived.Test.YtbhofablndjeoaaDoorTrP
namespace Go.Proofs.YtbhofablndjeoaaDoor
set_option linter.unusedVariables false
/-- an act on a store that fails: as on one that doesn't, or an error -/
theorem stops_law {k : Nat} {st s2 : MemT} {n : NodeT} {r : Except Nat NodeT} (h : Rn k st) (hk : k ≤ 45) (hn : NW st.L n) (x : ActA) (f : Nat) (hd : doneM n x st = (r, s2)) (h2 : r = .error 1 ∧ doneM n x = M.err 1 ∨ ∃ q, r = .ok q) :
    ∃ r' o2, doneM n x ⟨st.L, 0, f⟩ = (r', o2) ∧ memOk' o2.count o2.L ∧ o2.fails = f ∧ (r = .error 1 ∧ r' = .error 1 ∨ ∃ q, r = .ok q ∧ (r' = .ok q ∧ o2.L = s2.L ∧ Rn (k + 1) ⟨o2.L, o2.count, 0⟩ ∨ ∃ e, (e = 6 ∨ e = 8) ∧ r' = .error e)) := by
  have hg := cost_done n x ⟨st.L, 0, f⟩
  have hl := h.l
  have ok : ∀ {r' : Except Nat NodeT} {o2 : MemT}, doneM n x ⟨st.L, 0, f⟩ = (r', o2) → memOk' o2.count o2.L ∧ o2.fails = f := fun e => by
    rw [e] at hg
    exact ⟨⟨by have := hg.c; dsimp only at this; omega, by have := hg.l; dsimp only at this; omega, hg.t h.t⟩, hg.f⟩
  rcases h2 with ⟨rfl, e⟩ | ⟨q, rfl⟩
  · have e' : doneM n x ⟨st.L, 0, f⟩ = (.error 1, ⟨st.L, 0, f⟩) := by rw [e]; rfl
    exact ⟨_, _, e', (ok e').1, (ok e').2, .inl ⟨rfl, rfl⟩⟩
  · obtain ⟨hdet, hsim⟩ := good_done n x
    obtain ⟨r0, L', h0⟩ := hdet st.L
    have h0s : r0 = .ok q ∧ L' = s2.L := by
      obtain ⟨c', e⟩ := h0 st.count
      have : st = ⟨st.L, st.count, 0⟩ := by obtain ⟨a, b, c⟩ := st; have := h.f; dsimp only at this; rw [this]
      rw [← this, hd] at e
      injection e with e1 e2
      exact ⟨e1.symm, by rw [e2]⟩
    obtain ⟨rfl, rfl⟩ := h0s
    obtain ⟨c2, L2, h3⟩ := hsim st.L 0 f _ _ h0
    rcases h3 with ⟨e, rfl⟩ | ⟨er, he, e⟩
    · refine ⟨_, _, e, (ok e).1, (ok e).2, .inr ⟨q, rfl, .inl ⟨rfl, rfl, ⟨rfl, ?_, ?_, ?_⟩⟩⟩⟩
      · rw [e] at hg; have := hg.c; dsimp only at this ⊢; omega
      · rw [e] at hg; have := hg.l; dsimp only at this ⊢; omega
      · exact (ok e).1.2.2
    · exact ⟨_, _, e, (ok e).1, (ok e).2, .inr ⟨q, rfl, .inr ⟨er, he, rfl⟩⟩⟩
end Go.Proofs.YtbhofablndjeoaaDoor
