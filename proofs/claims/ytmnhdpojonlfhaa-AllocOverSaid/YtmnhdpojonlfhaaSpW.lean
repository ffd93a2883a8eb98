/- The walks of package space, first part. -/
import Derived.Test.YtmnhdpojonlfhaaProg
import Derived.Test.YtmnhdpojonlfhaaCore2
import Derived.Test.YtmnhdpojonlfhaaSpM
namespace Go.Proofs.Ytmnhdpojonlfhaa
open Go.RowKit

theorem may_yes (mb size : Nat) (a n : Int) (w : World) (hc : w.cell? ⟨mb, 0, none⟩ = some (.int .i64 size)) (hs : size ≤ 65536) (h : May size a n) :
    Calls Try.prog 71 #[.pointer (some ⟨mb, 0, none⟩), .int .i64 a, .int .i64 n] w fun e w' => e = .returned (.bool true) ∧ w = w' := by
  obtain ⟨h1, h2, h3, h4⟩ := h
  go_enter Try.func71, Try.ntmps71
  go_wp2
  go_ret
  exact ⟨rfl, rfl⟩
theorem may_no (mb size : Nat) (a n : Int) (w : World) (hc : w.cell? ⟨mb, 0, none⟩ = some (.int .i64 size)) (hs : size ≤ 65536) (h : ¬ May size a n) :
    Calls Try.prog 71 #[.pointer (some ⟨mb, 0, none⟩), .int .i64 a, .int .i64 n] w fun e w' => e = .returned (.bool false) ∧ w = w' := by
  unfold May at h
  by_cases h1 : 1 ≤ n
  · by_cases h2 : 0 ≤ a
    · by_cases h3 : a ≤ (size : Int) - 1
      · have h4 : ¬ n ≤ (size : Int) - a := fun h4 => h ⟨h1, h2, h3, h4⟩
        clear h
        go_enter Try.func71, Try.ntmps71
        go_wp2
        go_ret
        exact ⟨rfl, rfl⟩
      · clear h
        go_enter Try.func71, Try.ntmps71
        go_wp2
        go_ret
        exact ⟨rfl, rfl⟩
    · clear h
      go_enter Try.func71, Try.ntmps71
      go_wp2
      go_ret
      exact ⟨rfl, rfl⟩
  · clear h
    go_enter Try.func71, Try.ntmps71
    go_wp2
    go_ret
    exact ⟨rfl, rfl⟩
theorem may_nil (a n : Int) (w : World) :
    Calls Try.prog 71 #[.pointer none, .int .i64 a, .int .i64 n] w fun e w' => e = .returned (.bool false) ∧ w = w' := by
  go_enter Try.func71, Try.ntmps71
  go_wp2
  go_ret
  exact ⟨rfl, rfl⟩

/-- runs as cells -/
def encR (l : List (Nat × Nat)) : List Value := l.flatMap fun r => [Value.int .i64 r.1, Value.int .i64 r.2]
theorem encR_length (l : List (Nat × Nat)) : (encR l).length = l.length * 2 := by
  induction l with
  | nil => rfl
  | cons a r ih => simp only [encR, List.flatMap_cons, List.length_append, List.length_cons, List.length_nil] at *; omega
theorem encR_append (a b : List (Nat × Nat)) : encR (a ++ b) = encR a ++ encR b := by simp [encR]
theorem encR_cons (a : Nat × Nat) (b : List (Nat × Nat)) : encR (a :: b) = .int .i64 a.1 :: .int .i64 a.2 :: encR b := rfl
theorem encR_get (l : List (Nat × Nat)) (j : Nat) (h : j < l.length) : (encR l)[j * 2]? = some (.int .i64 (l.getD j (0, 0)).1) ∧ (encR l)[j * 2 + 1]? = some (.int .i64 (l.getD j (0, 0)).2) := by
  induction l generalizing j with
  | nil => simp at h
  | cons a r ih =>
    cases j with
    | zero => exact ⟨rfl, rfl⟩
    | succ j =>
      have := ih j (by simpa using h)
      rw [encR_cons, show (j + 1) * 2 = j * 2 + 2 by omega, show j * 2 + 2 + 1 = (j * 2 + 1) + 2 by omega]
      simpa using this
theorem encR_one (l : List (Nat × Nat)) : ∀ u ∈ encR l, u.oneCell' = true := by
  intro u hu
  simp only [encR, List.mem_flatMap] at hu
  obtain ⟨r, _, hr⟩ := hu
  simp at hr
  rcases hr with rfl | rfl <;> rfl

theorem encR_take (l : List (Nat × Nat)) (i : Nat) : (encR l).take (i * 2) = encR (l.take i) := by
  induction l generalizing i with
  | nil => simp [encR]
  | cons a r ih =>
    cases i with
    | zero => simp [encR]
    | succ i => rw [encR_cons, show (i + 1) * 2 = i * 2 + 2 by omega, List.take_succ_cons, List.take_succ_cons, ih, List.take_succ_cons, encR_cons]
theorem encR_drop (l : List (Nat × Nat)) (i : Nat) : (encR l).drop (i * 2) = encR (l.drop i) := by
  induction l generalizing i with
  | nil => simp [encR]
  | cons a r ih =>
    cases i with
    | zero => simp
    | succ i => rw [encR_cons, show (i + 1) * 2 = i * 2 + 2 by omega, List.drop_succ_cons, List.drop_succ_cons, ih, List.drop_succ_cons]
theorem encR_set2 (o : List (Nat × Nat)) (a b c : Nat) : (encR (o ++ [(a, b)])).set (o.length * 2 + 1) (.int .i64 c) = encR (o ++ [(a, c)]) := by
  rw [encR_append, encR_append, ← encR_length, List.set_append_right _ _ (by omega), show (encR o).length + 1 - (encR o).length = 1 by omega]
  rfl
theorem first1_any (a n at_ : Nat) (B : Nat) (w : World) (hB : w.cell? ⟨B, 0, none⟩ = some (.int .i64 at_)) (ha : a ≤ 1000000) (hn : n ≤ 1000000) :
    Calls Try.prog 104 #[.agg #[.int .i64 a, .int .i64 n], .pointer (some ⟨B, 0, none⟩)] w fun e w' => e = .returned (.bool (decide (at_ < a + n))) ∧ Below w.heap.size w w' := by
  have hlt := block_lt_of_cell hB
  have hB2 : (w.alloc (.cells #[.int .i64 a, .int .i64 n] 44)).cell? ⟨B, 0, none⟩ = some (.int .i64 at_) := by rw [World.cell?_alloc_past _ _ _ hlt]; exact hB
  go_enter Try.func104, Try.ntmps104
  go_wp2
  go_ret
  exact ⟨ret_bool (decide_eq_decide.2 (by omega)), (Below.refl _ _).alloc (Nat.le_refl _) _⟩

set_option maxHeartbeats 400000 in
theorem indexFuncR_any (F : Nat) (capt : Array Value) (p : Nat → Bool) (ao : Option Addr) (n cap : Nat) (cs : List Value) (w : World) (h : RSl w 2 ao n cap cs) (hm : n ≤ 1000000000)
    (hF : ∀ args W, (callFunc F args).run Try.prog W = .ok (.enter F args) W)
    (hf : ∀ j, j < n → ∀ W, Below w.heap.size w W → Calls Try.prog F (#[.agg #[cs.getD (j * 2) undef, cs.getD (j * 2 + 1) undef]] ++ capt) W fun e W' => e = .returned (.bool (p j)) ∧ Below W.heap.size W W') :
    Calls Try.prog 103 #[.slice ao n cap, .func (.func F) #[] capt] w fun e w' => e = .returned (.int .i64 (firstIdx p n)) ∧ Below w.heap.size w w' := by
  have HF := Lib.hid hf
  have HSL := Lib.hid h
  clear hf h
  go_enter Try.func103, Try.ntmps103
  go_wp2_with fail
  go_loopw [8] (fun i wr => ∃ k : Nat, k ≤ n ∧ i = .int .i64 k ∧ Hid (∀ j, j < k → p j = false) ∧ Below w.heap.size w wr) (fun i _ => n - (intOf i).toNat)
  case atStart => exact ⟨0, by omega, rfl, Lib.hid fun j hj => absurd hj (by omega), Below.refl _ _⟩
  case round =>
    obtain ⟨k, hk, rfl, hno, hbel⟩ := hrel
    by_cases hkn : k < n
    · obtain ⟨b, off, rfl, hb, hc⟩ := HSL.out.2.2.2.2 (by omega)
      have hcl := HSL.out.1
      have c0 : wr.cell? ⟨b, off + k * 2, none⟩ = some (cs.getD (k * 2) undef) := by rw [(hbel.cell (p := ⟨b, _, none⟩) hb), hc (k * 2) (by omega)]; exact getD_some _ _ (by omega)
      have c1 : wr.cell? ⟨b, off + k * 2 + 1, none⟩ = some (cs.getD (k * 2 + 1) undef) := by rw [Nat.add_assoc, (hbel.cell (p := ⟨b, _, none⟩) hb), hc (k * 2 + 1) (by omega)]; exact getD_some _ _ (by omega)
      have HCL := Lib.hid (HF.out k hkn wr hbel)
      clear hc hcl
      cases hp : p k with
      | true =>
        rw [hp] at HCL
        go_wp2_with fail
        refine HCL.out.mono ?_
        rintro e w1 ⟨rfl, hb1⟩
        go_wp2_with fail
        go_ret
        exact ⟨by rw [firstIdx_at hkn hp hno.out]; rfl, hbel.trans (hb1.mono hbel.size)⟩
      | false =>
        rw [hp] at HCL
        have HP := Lib.hid hp
        clear hp
        go_wp2_with fail
        refine HCL.out.mono ?_
        rintro e w1 ⟨rfl, hb1⟩
        go_wp2_with fail
        go_roundw
        case rel =>
          refine ⟨k + 1, by omega, by go_num, Lib.hid fun j hj => ?_, hbel.trans (hb1.mono hbel.size)⟩
          by_cases e : j = k
          · rw [e]; exact HP.out
          · exact hno.out j (by omega)
        case measure => simp [intOf]; omega
    · have hkn' : k = n := by omega
      subst hkn'
      go_wp2_with fail
      go_ret
      exact ⟨by rw [firstIdx_none hno.out]; rfl, hbel⟩

end Go.Proofs.Ytmnhdpojonlfhaa
