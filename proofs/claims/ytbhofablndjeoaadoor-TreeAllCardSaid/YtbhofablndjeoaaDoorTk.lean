/- The pointers of all blocks, in plain words. -/
import Derived.Test.YtbhofablndjeoaaDoorTrP
namespace Go.Proofs.YtbhofablndjeoaaDoor
set_option linter.unusedVariables false
theorem ka_le {k : Nat} (h : k ≤ 4) : ka k ≤ 85 := by
  have : k = 0 ∨ k = 1 ∨ k = 2 ∨ k = 3 ∨ k = 4 := by omega
  rcases this with rfl | rfl | rfl | rfl | rfl <;> decide
theorem rn_all {k : Nat} {st : MemT} {n : NodeT} (h : Rn k st) (hn : NW st.L n) : ∃ s2, allM memF (lvl n.size + 1) n.root [] st = (.ok (nPtrs st.L n), s2) ∧ s2.L = st.L ∧ Rn (k + 1) s2 := by
  obtain ⟨s2, e, hl, hf⟩ := (run_all [] hn.wf (lvl_le3 _)).at h.f
  have hg := cost_all (lvl n.size + 1) n.root [] st
  rw [e] at hg
  have := ka_le (show lvl n.size + 1 ≤ 4 by have := lvl_le3 n.size; omega)
  exact ⟨s2, e, hl, h.grew (hg.mono (by omega))⟩
theorem WF.ptrs_wf {L : List Bs} : ∀ {k : Nat} {p : PtrT}, WF L k p → k ≤ 3 → L.length ≤ 1000000 → ∀ x ∈ ptrs L k p, x.wf
  | 0, p, h, hk, hL, x, hx => by
    rcases h with rfl | ⟨m, t, h1, rfl, h2, h3, h4⟩
    · rw [ptrs_none] at hx; cases hx
    · rw [ptrs_some0] at hx
      simp only [List.mem_cons, List.not_mem_nil, or_false] at hx
      subst hx
      have := get_lt h1
      exact (memP_ok (by omega) h3 (by omega)).2
  | k + 1, p, h, hk, hL, x, hx => by
    rcases h with rfl | ⟨m, t, h1, rfl, h2, h3, h4⟩
    · rw [ptrs_none] at hx; cases hx
    · rw [ptrs_some h1] at hx
      rcases List.mem_cons.1 hx with rfl | hx
      · have := get_lt h1
        exact (memP_ok (by omega) (by omega) (by omega)).2
      · obtain ⟨q, hq, hx⟩ := List.mem_flatMap.1 hx
        exact WF.ptrs_wf (h4 q hq) (by omega) hL x hx
/-- cut to nothing -/
theorem rn_cut {k : Nat} {st : MemT} {n : NodeT} (h : Rn k st) (hk : k ≤ 50) (hn : NW st.L n) : ∃ s2, truncM memF n 0 st = (.ok nD, s2) ∧ (∃ X, s2.L = st.L ++ X) ∧ Rn (k + 1) s2 := by
  have hl := h.l
  have hg := cost_trunc n 0 st
  obtain ⟨q, L', r, _, t, z, b⟩ := run_trunc hn 0 (by omega) (by omega) (by omega)
  obtain ⟨s2, e, hl, hf⟩ := r.at h.f
  rw [e] at hg
  have hr := t.ok.zero z
  have : q = nD := by
    obtain ⟨a, b⟩ := q
    dsimp only at z hr
    rw [z, hr]; rfl
  subst this
  exact ⟨s2, e, by rw [hl]; exact t.ext, h.grew (hg.mono (by omega))⟩
/-- a store with the blocks of the first pointers alone -/
structure Part (L oL : List Bs) (out : List PtrT) (i : Nat) : Prop where
  len : oL.length = L.length
  same : ∀ x ∈ out.take i, oL[x.aa.toNat]? = L[x.aa.toNat]?
  short : ∀ t ∈ oL, t.length ≤ 256
theorem Part.start (L : List Bs) (out : List PtrT) : Part L (List.replicate L.length []) out 0 :=
  ⟨by simp, fun x hx => by simp at hx, fun t ht => by rw [(List.mem_replicate.1 ht).2]; simp⟩
theorem Part.step {L oL : List Bs} {out : List PtrT} {i j : Nat} (h : Part L oL out i) (hi : i < out.length) (hj : (out.getD i pD).aa = (j : Int)) (hjl : j < L.length) (hs : ∀ t ∈ L, t.length ≤ 256) : Part L (oL.set j L[j]) out (i + 1) := by
  refine ⟨by simp [h.len], fun x hx => ?_, fun t ht => ?_⟩
  · rw [List.take_add_one, List.mem_append] at hx
    rw [List.getElem?_set]
    rcases hx with hx | hx
    · by_cases e : j = x.aa.toNat
      · rw [if_pos e, if_pos (by rw [h.len]; exact hjl), ← e, List.getElem?_eq_getElem hjl]
      · rw [if_neg e]; exact h.same x hx
    · rw [List.getElem?_eq_getElem hi] at hx
      simp only [Option.toList_some, List.mem_cons, List.not_mem_nil, or_false] at hx
      rw [List.getD_eq_getElem?_getD, List.getElem?_eq_getElem hi] at hj
      have e : j = x.aa.toNat := by rw [hx]; simp at hj; omega
      rw [if_pos e, if_pos (by rw [h.len]; exact hjl), ← e, List.getElem?_eq_getElem hjl]
  · rcases List.mem_or_eq_of_mem_set ht with h1 | rfl
    · exact h.short t h1
    · exact hs _ (List.getElem_mem _)
/-- with these blocks alone an object can be read -/
theorem part_whole {L oL : List Bs} {n : NodeT} {out : List PtrT} (hn : NW L n) (ho : out = nPtrs L n) (h : Part L oL out out.length) (hL : L.length ≤ 900000) : ∃ s2, readM memF n 0 n.size ⟨oL, 0, 0⟩ = (.ok (txt L n), s2) ∧ memOk' s2.count s2.L := by
  obtain ⟨a, b, c⟩ := hn.wf.same (L2 := oL) (fun x hx => h.same x (by rw [List.take_length, ho]; exact hx))
  obtain ⟨s2, e, hl, hf⟩ := (run_read (L := oL) a hn.s1 0 n.size (by omega) hn.s0).at (st := ⟨oL, 0, 0⟩) rfl
  have hg := cost_read n 0 n.size ⟨oL, 0, 0⟩
  rw [e] at hg
  refine ⟨s2, ?_, ⟨by have := hg.c; dsimp only at this; omega, by have := hg.l; dsimp only at this; rw [h.len] at this; omega, hg.t h.short⟩⟩
  rw [e]
  have e1 : min (0 + n.size) n.size = n.size := by omega
  have e2 : segB oL n 0 n.size.toNat = segB L n 0 n.size.toNat := by
    unfold segB
    congr 1
    funext j
    unfold B byt
    rw [b]
  rw [e1]
  exact congrArg (fun t => (Except.ok t, s2)) e2
theorem nPtrs_head {L : List Bs} {n : NodeT} (hn : NW L n) : (n.root = pD ∧ nPtrs L n = []) ∨ (n.root ≠ pD ∧ ∃ r, nPtrs L n = n.root :: r) := by
  unfold nPtrs
  by_cases h : isNone n.root = true
  · left
    have := none_iff.1 h
    exact ⟨this, by rw [this, ptrs_none]⟩
  · right
    refine ⟨fun e => h (none_iff.2 e), ?_⟩
    cases hk : lvl n.size with
    | zero => exact ⟨[], by unfold ptrs; rw [if_neg h]⟩
    | succ k => exact ⟨_, by unfold ptrs; rw [if_neg h]⟩
end Go.Proofs.YtbhofablndjeoaaDoor
