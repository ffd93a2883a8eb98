/- The walks of package geom. -/
import Derived.Test.YtmnhdpojonlfhaaGeC
namespace Go.Proofs.Ytmnhdpojonlfhaa
open Go.RowKit

/-- groups as cells -/
def encG (l : Gs) : List Value := l.flatMap fun r => [Value.int .i64 r.1, Value.int .i64 r.2]
theorem encG_length (l : Gs) : (encG l).length = l.length * 2 := by
  induction l with
  | nil => rfl
  | cons a r ih => simp only [encG, List.flatMap_cons, List.length_append, List.length_cons, List.length_nil] at *; omega
theorem encG_cons (a : Int × Int) (b : Gs) : encG (a :: b) = .int .i64 a.1 :: .int .i64 a.2 :: encG b := rfl
theorem encG_get (l : Gs) (j : Nat) (h : j < l.length) : (encG l)[j * 2]? = some (.int .i64 (l.getD j (0, 0)).1) ∧ (encG l)[j * 2 + 1]? = some (.int .i64 (l.getD j (0, 0)).2) := by
  induction l generalizing j with
  | nil => simp at h
  | cons a r ih =>
    cases j with
    | zero => exact ⟨rfl, rfl⟩
    | succ j =>
      have := ih j (by simpa using h)
      rw [encG_cons, show (j + 1) * 2 = j * 2 + 2 by omega, show j * 2 + 2 + 1 = (j * 2 + 1) + 2 by omega]
      simpa using this
theorem encG_one (l : Gs) : ∀ u ∈ encG l, u.oneCell' = true := by
  intro u hu
  simp only [encG, List.mem_flatMap] at hu
  obtain ⟨r, _, hr⟩ := hu
  simp at hr
  rcases hr with rfl | rfl <;> rfl
def GSl (w : World) (ao : Option Addr) (n cap : Nat) (gs : Gs) : Prop := RSl w 2 ao n cap (encG gs)
theorem GSl.len {w : World} {ao : Option Addr} {n cap : Nat} {gs : Gs} (h : GSl w ao n cap gs) : gs.length = n := by have := h.1; rw [encG_length] at this; omega
theorem GSl.below {w w' : World} {ao : Option Addr} {n cap : Nat} {gs : Gs} (h : GSl w ao n cap gs) (hb : Below w.heap.size w w') : GSl w' ao n cap gs := RSl.below h hb
theorem GSl.mx {w : World} {ao : Option Addr} {n cap : Nat} {gs : Gs} (h : GSl w ao n cap gs) : n ≤ 9223372036854775807 := by
  have h1 := h.2.1
  have h2 := h.2.2.1
  unfold maxLen at h2
  omega
theorem GSl.at_ {w : World} {ao : Option Addr} {n cap : Nat} {gs : Gs} (h : GSl w ao n cap gs) (hn : 0 < n) : ∃ b off, ao = some ⟨b, off, none⟩ ∧ b < w.heap.size ∧ ∀ j, j < n → w.cell? ⟨b, off + j * 2, none⟩ = some (.int .i64 (gs.getD j (0, 0)).1) ∧ w.cell? ⟨b, off + j * 2 + 1, none⟩ = some (.int .i64 (gs.getD j (0, 0)).2) := by
  obtain ⟨b, off, e, hlt, hc⟩ := h.2.2.2.2 hn
  have hl := h.len
  refine ⟨b, off, e, hlt, fun j hj => ?_⟩
  obtain ⟨e0, e1⟩ := encG_get gs j (by omega)
  refine ⟨?_, ?_⟩
  · rw [hc _ (by omega), e0]
  · rw [Nat.add_assoc, hc _ (by omega), e1]

theorem gone_any (k x : Int) (w : World) :
    Calls Try.prog 113 #[.agg #[.int .i64 k, .int .i64 x]] w fun e w' => e = .returned (.bool (oneB k x)) ∧ Below w.heap.size w w' := by
  by_cases h0 : k = 0
  · subst h0
    by_cases h1 : 1 ≤ x
    · by_cases h2 : x ≤ 8
      · have hB : Hid (oneB 0 x = true) := Lib.hid (by unfold oneB; simp [h1, h2])
        go_enter Try.func113, Try.ntmps113
        go_wp2_with fail
        go_ret
        exact ⟨ret_bool hB.out.symm, (Below.refl _ _).alloc (Nat.le_refl _) _⟩
      · have hB : Hid (oneB 0 x = false) := Lib.hid (by unfold oneB; simp [h2])
        go_enter Try.func113, Try.ntmps113
        go_wp2_with fail
        go_ret
        exact ⟨ret_bool hB.out.symm, (Below.refl _ _).alloc (Nat.le_refl _) _⟩
    · have hB : Hid (oneB 0 x = false) := Lib.hid (by unfold oneB; simp [h1])
      go_enter Try.func113, Try.ntmps113
      go_wp2_with fail
      go_ret
      exact ⟨ret_bool hB.out.symm, (Below.refl _ _).alloc (Nat.le_refl _) _⟩
  · have hz : (k == 0) = false := by simpa using h0
    by_cases h1 : k = 1
    · subst h1
      by_cases h1 : 3 ≤ x
      · by_cases h2 : x ≤ 8
        · have hB : Hid (oneB 1 x = true) := Lib.hid (by unfold oneB; simp [h1, h2])
          go_enter Try.func113, Try.ntmps113
          go_wp2_with fail
          go_ret
          exact ⟨ret_bool hB.out.symm, (Below.refl _ _).alloc (Nat.le_refl _) _⟩
        · have hB : Hid (oneB 1 x = false) := Lib.hid (by unfold oneB; simp [h2])
          go_enter Try.func113, Try.ntmps113
          go_wp2_with fail
          go_ret
          exact ⟨ret_bool hB.out.symm, (Below.refl _ _).alloc (Nat.le_refl _) _⟩
      · have hB : Hid (oneB 1 x = false) := Lib.hid (by unfold oneB; simp [h1])
        go_enter Try.func113, Try.ntmps113
        go_wp2_with fail
        go_ret
        exact ⟨ret_bool hB.out.symm, (Below.refl _ _).alloc (Nat.le_refl _) _⟩
    · have hz1 : (k == 1) = false := by simpa using h1
      have hB : Hid (oneB k x = false) := Lib.hid (by unfold oneB; simp [h0, h1])
      clear h0 h1
      go_enter Try.func113, Try.ntmps113
      go_wp2_with fail
      go_ret
      exact ⟨ret_bool hB.out.symm, (Below.refl _ _).alloc (Nat.le_refl _) _⟩
theorem gright1_any (k x : Int) (w : World) :
    Calls Try.prog 112 #[.agg #[.int .i64 k, .int .i64 x]] w fun e w' => e = .returned (.bool (!oneB k x)) ∧ Below w.heap.size w w' := by
  go_enter Try.func112, Try.ntmps112
  go_wp2_with fail
  refine (gone_any k x _).mono ?_
  rintro e w1 ⟨rfl, hb1⟩
  go_wp2_with fail
  go_ret
  exact ⟨rfl, ((Below.refl _ _).alloc (Nat.le_refl _) _).trans (hb1.mono (by simp))⟩
theorem callFunc_gright1 (args : Array Value) (W : World) : (callFunc 112 args).run Try.prog W = .ok (.enter 112 args) W := by kernel_rfl
theorem any_gs (gs : Gs) : (List.range gs.length).any (fun j => !oneB (gs.getD j (0, 0)).1 (gs.getD j (0, 0)).2) = !gsOk gs := by
  unfold gsOk
  cases h : gs.all fun g => oneB g.1 g.2 with
  | true =>
    rw [Bool.not_true, List.any_eq_false]
    intro j hj
    have hj' : j < gs.length := List.mem_range.1 hj
    have := List.all_eq_true.1 h gs[j] (List.getElem_mem _)
    rw [List.getD_eq_getElem?_getD, List.getElem?_eq_getElem hj']
    simp only [Option.getD_some, this]
    simp
  | false =>
    rw [Bool.not_false, List.any_eq_true]
    obtain ⟨g, hg, hg2⟩ := List.all_eq_false.1 h
    obtain ⟨j, hj, rfl⟩ := List.mem_iff_getElem.1 hg
    refine ⟨j, List.mem_range.2 hj, ?_⟩
    rw [List.getD_eq_getElem?_getD, List.getElem?_eq_getElem hj]
    simpa using hg2

set_option maxRecDepth 100000 in
theorem gright_any (ao : Option Addr) (n cap : Nat) (gs : Gs) (secs : Int) (w : World) (h : GSl w ao n cap gs) :
    Calls Try.prog 93 #[.agg #[.slice ao n cap, .int .i64 secs]] w fun e w' => e = .returned (.bool (rightB gs secs)) ∧ Below w.heap.size w w' := by
  have hl := h.len
  have hmx := h.mx
  have hb0 : Below w.heap.size w (w.alloc (.cells #[.slice ao n cap, .int .i64 secs] 96)) := (Below.refl _ _).alloc (Nat.le_refl _) _
  by_cases h1 : 1 ≤ n
  · by_cases h2 : n ≤ 4
    · by_cases h3 : 24 ≤ secs
      · by_cases h4 : secs ≤ 4096
        · have H := containsFuncG_any 112 #[] (fun j => !oneB (gs.getD j (0, 0)).1 (gs.getD j (0, 0)).2) ao n cap (encG gs) (w.alloc (.cells #[.slice ao n cap, .int .i64 secs] 96)) (RSl.below h hb0) (by omega) callFunc_gright1 (fun j hj W _ => by
            have eg := encG_get gs j (by omega)
            rw [List.getD_eq_getElem?_getD, List.getD_eq_getElem?_getD, eg.1, eg.2]
            exact gright1_any _ _ W)
          rw [← hl, any_gs, hl] at H
          have HH := Lib.hid H
          have HB0 := Lib.hid hb0
          have HR : Hid (rightB gs secs = gsOk gs) := Lib.hid (by unfold rightB; rw [hl]; simp [h1, h2, h3, h4])
          clear H h hl hb0
          go_enter Try.func93, Try.ntmps93
          go_wp2_with fail
          refine HH.out.mono ?_
          rintro e w1 ⟨rfl, hb1⟩
          go_wp2_with fail
          go_ret
          exact ⟨ret_bool HR.out.symm, HB0.out.trans (hb1.mono (by simp))⟩
        · have HR : Hid (rightB gs secs = false) := Lib.hid (by unfold rightB; simp [h4])
          have HB0 := Lib.hid hb0
          clear h hl hb0
          go_enter Try.func93, Try.ntmps93
          go_wp2_with fail
          go_ret
          exact ⟨ret_bool HR.out.symm, HB0.out⟩
      · have HR : Hid (rightB gs secs = false) := Lib.hid (by unfold rightB; simp [h3])
        have HB0 := Lib.hid hb0
        clear h hl hb0
        go_enter Try.func93, Try.ntmps93
        go_wp2_with fail
        go_ret
        exact ⟨ret_bool HR.out.symm, HB0.out⟩
    · have HR : Hid (rightB gs secs = false) := Lib.hid (by unfold rightB; rw [hl]; simp [h2])
      have HB0 := Lib.hid hb0
      clear h hl hb0
      go_enter Try.func93, Try.ntmps93
      go_wp2_with fail
      go_ret
      exact ⟨ret_bool HR.out.symm, HB0.out⟩
  · have HR : Hid (rightB gs secs = false) := Lib.hid (by unfold rightB; rw [hl]; simp [h1])
    have HB0 := Lib.hid hb0
    clear h hl hb0
    go_enter Try.func93, Try.ntmps93
    go_wp2_with fail
    go_ret
    exact ⟨ret_bool HR.out.symm, HB0.out⟩

theorem ghas_any (ao : Option Addr) (n cap : Nat) (gs : Gs) (secs i : Int) (w : World) (h : GSl w ao n cap gs) :
    Calls Try.prog 114 #[.agg #[.slice ao n cap, .int .i64 secs], .int .i64 i] w fun e w' => e = .returned (.bool (hasB gs secs i)) ∧ Below w.heap.size w w' := by
  have hl := h.len
  have hmx := h.mx
  have hb0 : Below w.heap.size w (w.alloc (.cells #[.slice ao n cap, .int .i64 secs] 96)) := (Below.refl _ _).alloc (Nat.le_refl _) _
  have hT := gright_any ao n cap gs secs (w.alloc (.cells #[.slice ao n cap, .int .i64 secs] 96)) (h.below hb0)
  have hc0 : (w.alloc (.cells #[.slice ao n cap, .int .i64 secs] 96)).cell? ⟨w.heap.size, 0, none⟩ = some (.slice ao n cap) := by rw [World.cell?_alloc_at _ _ _ _ rfl]; rfl
  have HC0 := Lib.hid hc0
  have HB0 := Lib.hid hb0
  cases hr : rightB gs secs with
  | false =>
    rw [hr] at hT
    have HT := Lib.hid hT
    have HR : Hid (hasB gs secs i = false) := Lib.hid (by unfold hasB; rw [hr]; rfl)
    clear hT hr h hl hb0 hc0
    go_enter Try.func114, Try.ntmps114
    go_wp2_with fail
    refine HT.out.mono ?_
    rintro e w1 ⟨rfl, hb1⟩
    go_wp2_with fail
    go_ret
    exact ⟨ret_bool HR.out.symm, HB0.out.trans (hb1.mono (by simp))⟩
  | true =>
    rw [hr] at hT
    have HT := Lib.hid hT
    by_cases h0 : 0 ≤ i
    · have HR : Hid (hasB gs secs i = decide (i < n)) := Lib.hid (by unfold hasB; rw [hr, hl]; simp [h0])
      clear hT hr h hl hb0 hc0
      go_enter Try.func114, Try.ntmps114
      go_wp2_with fail
      refine HT.out.mono ?_
      rintro e w1 ⟨rfl, hb1⟩
      have c0 : w1.cell? ⟨w.heap.size, 0, none⟩ = some (.slice ao n cap) := by rw [hb1.cell (p := ⟨w.heap.size, 0, none⟩) (by simp)]; exact HC0.out
      go_wp2_with fail
      go_ret
      exact ⟨ret_bool HR.out.symm, HB0.out.trans (hb1.mono (by simp))⟩
    · have HR : Hid (hasB gs secs i = false) := Lib.hid (by unfold hasB; simp [h0])
      clear hT hr h hl hb0 hc0
      go_enter Try.func114, Try.ntmps114
      go_wp2_with fail
      refine HT.out.mono ?_
      rintro e w1 ⟨rfl, hb1⟩
      go_wp2_with fail
      go_ret
      exact ⟨ret_bool HR.out.symm, HB0.out.trans (hb1.mono (by simp))⟩
end Go.Proofs.Ytmnhdpojonlfhaa
