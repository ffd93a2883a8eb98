/- The walks of polderref11. -/
import Derived.Test.YtmnhdpojonlfhaaSpJ
import Derived.Test.YtmnhdpojonlfhaaSpRM
import Derived.Deep.DrawnRows
namespace Go.Proofs.Ytmnhdpojonlfhaa
open Go.RowKit

/-- marks as cells -/
def encB (bs : List Bool) : List Value := bs.map Value.bool
theorem encB_length (bs : List Bool) : (encB bs).length = bs.length := by simp [encB]
theorem encB_get (bs : List Bool) (j : Nat) (h : j < bs.length) : (encB bs)[j]? = some (.bool (mk bs j)) := by simp [encB, mk, List.getD, h]
theorem encB_one (bs : List Bool) : ∀ u ∈ encB bs, u.oneCell' = true := by
  intro u hu
  obtain ⟨s, _, rfl⟩ := List.mem_map.1 hu
  rfl
theorem encB_append (a b : List Bool) : encB (a ++ b) = encB a ++ encB b := by simp [encB]
/-- A slice of marks. -/
def BSl (w : World) (ao : Option Addr) (n cap : Nat) (bs : List Bool) : Prop := RSl w 1 ao n cap (encB bs)
theorem BSl.len {w : World} {ao : Option Addr} {n cap : Nat} {bs : List Bool} (h : BSl w ao n cap bs) : bs.length = n := by have := h.1; simpa [encB] using this
theorem BSl.below {w w' : World} {ao : Option Addr} {n cap : Nat} {bs : List Bool} (h : BSl w ao n cap bs) (hb : Below w.heap.size w w') : BSl w' ao n cap bs := RSl.below h hb
theorem BSl.at_ {w : World} {ao : Option Addr} {n cap : Nat} {bs : List Bool} (h : BSl w ao n cap bs) (hn : 0 < n) : ∃ b off, ao = some ⟨b, off, none⟩ ∧ b < w.heap.size ∧ ∀ j, j < n → w.cell? ⟨b, off + j, none⟩ = some (.bool (mk bs j)) := by
  obtain ⟨b, off, e, hlt, hc⟩ := h.2.2.2.2 hn
  refine ⟨b, off, e, hlt, fun j hj => ?_⟩
  rw [hc j (by omega), encB_get bs j (by rw [h.len]; exact hj)]

theorem full_any (ao : Option Addr) (n cap : Nat) (bs : List Bool) (a k : Nat) (w : World) (h : BSl w ao n cap bs) (hn : n ≤ 65536) (hk : a + k ≤ n) :
    Calls Try.prog 32 #[.slice ao n cap, .int .i64 a, .int .i64 k] w fun e w' => e = .returned (.bool (fullB bs a k)) ∧ w = w' := by
  have H := Lib.hid h
  clear h
  go_enter Try.func32, Try.ntmps32
  go_wp2_with fail
  go_loop [7] (fun i => ∃ j : Nat, a ≤ j ∧ j ≤ a + k ∧ i = .int .i64 j ∧ Hid (∀ x, a ≤ x → x < j → mk bs x = true)) (fun i => a + k - (intOf i).toNat)
  case atStart => exact ⟨a, by omega, by omega, rfl, Lib.hid fun x h1 h2 => absurd h1 (by omega)⟩
  case round =>
    obtain ⟨j, hj1, hj2, rfl, hall⟩ := hrel
    by_cases hjk : j < a + k
    · obtain ⟨b, off, rfl, hb, hc⟩ := H.out.at_ (by omega)
      have hcj := hc j (by omega)
      clear hc
      cases hm : mk bs j with
      | true =>
        rw [hm] at hcj
        have HM := Lib.hid hm
        clear hm
        go_wp2_with fail
        go_round
        case rel =>
          refine ⟨j + 1, by omega, by omega, by go_num, Lib.hid fun x h1 h2 => ?_⟩
          rcases Nat.lt_or_ge x j with h | h
          · exact hall.out x h1 h
          · have : x = j := by omega
            subst this; exact HM.out
        case measure => simp [intOf]; omega
      | false =>
        rw [hm] at hcj
        have HM := Lib.hid hm
        clear hm
        go_wp2_with fail
        go_ret
        exact ⟨ret_bool (allB_false (by omega) (by omega) HM.out).symm, rfl⟩
    · have hj' : j = a + k := by omega
      subst hj'
      go_wp2_with fail
      go_ret
      exact ⟨ret_bool (allB_true hall.out).symm, rfl⟩

theorem free_marks (ao : Option Addr) (n cap : Nat) (bs : List Bool) (a m : Int) (w : World) (h : BSl w ao n cap bs) (hn : n ≤ 65536) :
    Calls Try.prog 37 #[.slice ao n cap, .int .i64 a, .int .i64 m] w fun e w' => e = .returned (.bool (freeRB bs a m)) ∧ w = w' := by
  have hl := h.len
  have H := Lib.hid h
  clear h
  by_cases hc : 0 ≤ a ∧ 1 ≤ m ∧ m ≤ bs.length ∧ a ≤ (bs.length : Int) - m
  · obtain ⟨h1, h2, h3, h4⟩ := id hc
    obtain ⟨a, rfl⟩ := Int.eq_ofNat_of_zero_le h1
    obtain ⟨k, rfl⟩ := Int.eq_ofNat_of_zero_le (show 0 ≤ m by omega)
    have e : freeRB bs a k = freeB bs a k := by unfold freeRB; rw [if_pos hc]; rfl
    rw [e]
    have hak : a + k ≤ n := by omega
    have hk1 : 1 ≤ k := by omega
    clear e hc h1 h2 h3 h4
    have HL := Lib.hid hl
    clear hl
    go_enter Try.func37, Try.ntmps37
    go_wp2_with fail
    go_loop [7] (fun i => ∃ j : Nat, a ≤ j ∧ j ≤ a + k ∧ i = .int .i64 j ∧ Hid (∀ x, a ≤ x → x < j → (fun x => !mk bs x) x = true)) (fun i => a + k - (intOf i).toNat)
    case atStart => exact ⟨a, by omega, by omega, rfl, Lib.hid fun x h1 h2 => absurd h1 (by omega)⟩
    case round =>
      obtain ⟨j, hj1, hj2, rfl, hall⟩ := hrel
      by_cases hjk : j < a + k
      · obtain ⟨b, off, rfl, hb, hc⟩ := H.out.at_ (by omega)
        have hcj := hc j (by omega)
        clear hc
        cases hm : mk bs j with
        | false =>
          rw [hm] at hcj
          have HM := Lib.hid hm
          clear hm
          go_wp2_with fail
          go_round
          case rel =>
            refine ⟨j + 1, by omega, by omega, by go_num, Lib.hid fun x h1 h2 => ?_⟩
            rcases Nat.lt_or_ge x j with h | h
            · exact hall.out x h1 h
            · have : x = j := by omega
              subst this; simp [HM.out]
          case measure => simp [intOf]; omega
        | true =>
          rw [hm] at hcj
          have HM := Lib.hid hm
          clear hm
          go_wp2_with fail
          go_ret
          exact ⟨ret_bool (allB_false (x := j) (by omega) (by omega) (by simp [HM.out])).symm, rfl⟩
      · have hj' : j = a + k := by omega
        subst hj'
        go_wp2_with fail
        go_ret
        exact ⟨ret_bool (allB_true hall.out).symm, rfl⟩
  · have e : freeRB bs a m = false := by unfold freeRB; rw [if_neg hc]
    rw [e]
    have HL := Lib.hid hl
    rw [hl] at hc
    clear e hl
    by_cases c1 : a < 0
    · clear hc
      go_enter Try.func37, Try.ntmps37
      go_wp2_with fail
      go_ret
      exact ⟨rfl, rfl⟩
    · by_cases c2 : m < 1
      · clear hc
        go_enter Try.func37, Try.ntmps37
        go_wp2_with fail
        go_ret
        exact ⟨rfl, rfl⟩
      · by_cases c3 : (n : Int) < m
        · clear hc
          go_enter Try.func37, Try.ntmps37
          go_wp2_with fail
          go_ret
          exact ⟨rfl, rfl⟩
        · have c4 : (n : Int) - m < a := by omega
          clear hc
          go_enter Try.func37, Try.ntmps37
          go_wp2_with fail
          go_ret
          exact ⟨rfl, rfl⟩
end Go.Proofs.Ytmnhdpojonlfhaa
