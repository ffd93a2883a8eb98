/- space, the plain law of SpaceOrder: stretches taken in any order. -/
import Derived.Test.YtmnhdpojonlfhaaSpP
import Derived.Test.YtmnhdpojonlfhaaSpA
namespace Go.Proofs.Ytmnhdpojonlfhaa

def InS (t : ActT) (x : Nat) : Prop := t.2.1.toNat ≤ x ∧ x < t.2.1.toNat + t.2.2.toNat
/-- what was taken -/
structure TakenL (size : Nat) (rs : List (Nat × Nat)) (T : List ActT) : Prop where
  may : ∀ t ∈ T, May size t.2.1 t.2.2
  apart : T.Pairwise fun s t => ∀ x, InS s x → ¬ InS t x
  us : ∀ x, Us rs x ↔ ∃ t ∈ T, InS t x
theorem TakenL.nil (size : Nat) : TakenL size [] [] := ⟨by simp, List.Pairwise.nil, fun x => by simp [Us]⟩
theorem TakenL.step {size : Nat} {rs : List (Nat × Nat)} {T : List ActT} (hg : Good size rs) (h : TakenL size rs T) (t : ActT) (ht : (takeS size rs t.2.1 t.2.2).1 = 0) : TakenL size (takeS size rs t.2.1 t.2.2).2 (T ++ [t]) := by
  rcases takeS_spec hg t.2.1 t.2.2 with ⟨_, e⟩ | ⟨_, _, e⟩ | ⟨hm, hno, _, hus, _⟩
  · rw [e] at ht; simp at ht
  · rw [e] at ht; simp at ht
  · refine ⟨fun s hs => ?_, ?_, fun x => ?_⟩
    · rcases List.mem_append.1 hs with hs | hs
      · exact h.may s hs
      · rw [List.mem_singleton.1 hs]; exact hm
    · refine List.pairwise_append.2 ⟨h.apart, List.pairwise_singleton _ _, fun s hs u hu x hx hx2 => ?_⟩
      rw [List.mem_singleton.1 hu] at hx2
      exact hno x hx2.1 hx2.2 ((h.us x).2 ⟨s, hs, hx⟩)
    · rw [hus, h.us]
      constructor
      · rintro (⟨s, hs, hx⟩ | hx)
        · exact ⟨s, List.mem_append_left _ hs, hx⟩
        · exact ⟨t, by simp, hx⟩
      · rintro ⟨s, hs, hx⟩
        rcases List.mem_append.1 hs with hs | hs
        · exact .inl ⟨s, hs, hx⟩
        · rw [List.mem_singleton.1 hs] at hx
          exact .inr hx

/-- the place that comes as number i, begun at c -/
def rot (n c i : Nat) : Nat := (i + c) % n
theorem mod_two {n x : Nat} (_hn : 0 < n) (h : x < n + n) : x % n = if x < n then x else x - n := by
  split
  · exact Nat.mod_eq_of_lt (by assumption)
  · rw [Nat.mod_eq_sub_mod (by omega), Nat.mod_eq_of_lt (by omega)]
theorem rot_c {n c i : Nat} (hn : 0 < n) (hi : i < n) : rot n c i = if i + c % n < n then i + c % n else i + c % n - n := by
  have hc : c % n < n := Nat.mod_lt _ hn
  unfold rot
  rw [Nat.add_mod, Nat.mod_eq_of_lt hi, mod_two hn (by omega)]
theorem rot_lt {n c i : Nat} (hn : 0 < n) : rot n c i < n := Nat.mod_lt _ hn
theorem rot_inj {n c i j : Nat} (hi : i < n) (hj : j < n) (h : rot n c i = rot n c j) : i = j := by
  have hc : c % n < n := Nat.mod_lt _ (by omega)
  rw [rot_c (by omega) hi, rot_c (by omega) hj] at h
  split at h <;> split at h <;> omega
theorem rot_onto {n c p : Nat} (hp : p < n) : ∃ i, i < n ∧ rot n c i = p := by
  have hc : c % n < n := Nat.mod_lt _ (by omega)
  by_cases h : c % n ≤ p
  · refine ⟨p - c % n, by omega, ?_⟩
    rw [rot_c (by omega) (by omega), if_pos (by omega)]; omega
  · refine ⟨p + n - c % n, by omega, ?_⟩
    rw [rot_c (by omega) (by omega), if_neg (by omega)]; omega

/-- the first j of them are taken -/
def RotUs (T : List ActT) (c j : Nat) (rs : List (Nat × Nat)) : Prop := ∀ x, Us rs x ↔ ∃ i, i < j ∧ InS (T.getD (rot T.length c i) (0, 0, 0)) x
theorem getD_mem' {α : Type} {l : List α} {i : Nat} {d : α} (h : i < l.length) : l.getD i d ∈ l := by
  rw [List.getD_eq_getElem?_getD, List.getElem?_eq_getElem h]; exact List.getElem_mem _
theorem taken_apart {size : Nat} {rs : List (Nat × Nat)} {T : List ActT} (h : TakenL size rs T) {p q : Nat} (hp : p < T.length) (hq : q < T.length) (hne : p ≠ q) {x : Nat} (hx : InS (T.getD p (0, 0, 0)) x) : ¬ InS (T.getD q (0, 0, 0)) x := by
  have ep : T.getD p (0, 0, 0) = T[p] := by rw [List.getD_eq_getElem?_getD, List.getElem?_eq_getElem hp]; rfl
  have eq : T.getD q (0, 0, 0) = T[q] := by rw [List.getD_eq_getElem?_getD, List.getElem?_eq_getElem hq]; rfl
  rw [ep] at hx
  rw [eq]
  intro hy
  rcases Nat.lt_or_gt_of_ne hne with hlt | hgt
  · exact List.pairwise_iff_getElem.1 h.apart p q hp hq hlt x hx hy
  · exact List.pairwise_iff_getElem.1 h.apart q p hq hp hgt x hy hx
theorem rot_step {size : Nat} {rs rs2 : List (Nat × Nat)} {T : List ActT} {c j : Nat} (h : TakenL size rs T) (hg : Good size rs2) (hj : j < T.length) (hr : RotUs T c j rs2) :
    (takeS size rs2 (T.getD (rot T.length c j) (0, 0, 0)).2.1 (T.getD (rot T.length c j) (0, 0, 0)).2.2).1 = 0 ∧
    RotUs T c (j + 1) (takeS size rs2 (T.getD (rot T.length c j) (0, 0, 0)).2.1 (T.getD (rot T.length c j) (0, 0, 0)).2.2).2 := by
  obtain ⟨t, ht⟩ : ∃ t, t = T.getD (rot T.length c j) (0, 0, 0) := ⟨_, rfl⟩
  have hlt : rot T.length c j < T.length := rot_lt (by omega)
  rw [← ht]
  have hmay : May size t.2.1 t.2.2 := h.may t (by rw [ht]; exact getD_mem' hlt)
  rcases takeS_spec hg t.2.1 t.2.2 with ⟨hn, _⟩ | ⟨_, ⟨x, h1, h2, hx⟩, _⟩ | ⟨_, _, e0, hus, _⟩
  · exact absurd hmay hn
  · obtain ⟨i, hi, hin⟩ := (hr x).1 hx
    exact absurd (show InS t x from ⟨h1, h2⟩) (by rw [ht]; exact taken_apart h (rot_lt (by omega)) hlt (fun e => by have := rot_inj (by omega) hj e; omega) hin)
  · refine ⟨e0, fun x => ?_⟩
    rw [hus, hr]
    constructor
    · rintro (⟨i, hi, hx⟩ | hx)
      · exact ⟨i, by omega, hx⟩
      · exact ⟨j, by omega, by rw [← ht]; exact hx⟩
    · rintro ⟨i, hi, hx⟩
      rcases Nat.lt_or_ge i j with hlt | hge
      · exact .inl ⟨i, hlt, hx⟩
      · have : i = j := by omega
        subst this
        rw [← ht] at hx
        exact .inr hx
theorem rot_all {size s2 : Nat} {rs rs2 : List (Nat × Nat)} {T : List ActT} {c : Nat} (h : TakenL size rs T) (hg : Good size rs) (hg2 : Good s2 rs2) (hr : RotUs T c T.length rs2) : rs2 = rs := by
  refine good_uniq hg2 hg fun x => ?_
  rw [hr, h.us]
  constructor
  · rintro ⟨i, hi, hx⟩
    exact ⟨_, getD_mem' (rot_lt (by omega)), hx⟩
  · rintro ⟨t, ht, hx⟩
    obtain ⟨p, hp, rfl⟩ := List.mem_iff_getElem.1 ht
    obtain ⟨i, hi, he⟩ := rot_onto (c := c) hp
    refine ⟨i, hi, ?_⟩
    rw [he, List.getD_eq_getElem?_getD, List.getElem?_eq_getElem hp]
    exact hx
end Go.Proofs.Ytmnhdpojonlfhaa
