/- The walks of the statements of package par: the helpers. -/
import Derived.Test.YtmnhdpojonlfhaaDoorParW2
namespace Go.Proofs.YtmnhdpojonlfhaaDoor
open Go.RowKit

set_option maxHeartbeats 400000 in
theorem few_any (ao : Option Addr) (n cap : Nat) (ss : List ByteArray) (w : World) (hsl : SSl w ao n cap ss) :
    Calls Tryd.prog 7 #[.slice ao n cap] w fun e w' => e = .returned (.bool (fewB ss)) ∧ w = w' := by
  have hlen := hsl.len
  have hmx : n ≤ 9223372036854775807 := by have h1 := hsl.2.1; have h2 := hsl.2.2.1; unfold maxLen at h2; omega
  have HL := Lib.hid hlen
  have HSL := Lib.hid hsl
  clear hlen hsl
  go_enter Tryd.func7, Tryd.ntmps7
  go_wp2
  go_loop [3, 4] (fun t i => ∃ k : Nat, k ≤ n ∧ k ≤ 30 ∧ i = .int .i64 k ∧ t = .int .i64 (sumMin (ss.take k))) (fun _ i => n - (intOf i).toNat)
  case atStart => exact ⟨0, by omega, by omega, rfl, rfl⟩
  case round =>
    obtain ⟨k, hk, hk30, rfl, rfl⟩ := hrel
    have hb := sumMin_bd (ss.take k)
    have hl : (ss.take k).length ≤ k := List.length_take_le _ _
    by_cases h1 : k < n
    · by_cases h2 : k < 30
      · obtain ⟨b, off, rfl, hb, hc⟩ := HSL.out.pos (by omega)
        obtain ⟨s, es⟩ : ∃ s, s = ss.getD k ByteArray.empty := ⟨_, rfl⟩
        have hcx : w.cell? ⟨b, off + k, none⟩ = some (.string s) := by rw [es]; exact hc k h1
        have ES := Lib.hid es
        have HC := Lib.hid hc
        clear es hc
        have hst := sumMin_take_succ ss k (by rw [HL.out]; exact h1)
        rw [← ES.out] at hst
        have HST := Lib.hid hst
        clear hst
        go_wp2
        go_round
        case rel => exact ⟨k + 1, by omega, by omega, by go_num, by rw [HST.out]; go_num⟩
        case measure => simp [intOf]; omega
      · have hk' : k = 30 := by omega
        subst hk'
        have hd : decide (ss.length < 30) = false := by rw [HL.out]; simp; omega
        have hd' : decide (n < 30) = false := by simp; omega
        go_wp2
        go_ret
        exact ⟨by rw [fewB, hd]; rfl, rfl⟩
    · have hk' : k = n := by omega
      subst hk'
      have ht : sumMin (ss.take k) = sumMin (ss.take 30) := by rw [List.take_of_length_le (by rw [HL.out]; omega), List.take_of_length_le (by rw [HL.out]; omega)]
      have HT := Lib.hid ht
      clear ht
      by_cases h30 : k < 30
      · have hd : decide (k < 30) = true := by simpa using h30
        go_wp2
        go_ret
        exact ⟨by rw [fewB, HL.out, ← HT.out, hd]; rfl, rfl⟩
      · have hd : decide (k < 30) = false := by simpa using h30
        go_wp2
        go_ret
        exact ⟨by rw [fewB, HL.out, hd]; rfl, rfl⟩

theorem awake03_any (w : World) : Calls Tryd.prog 6 #[] w fun e w' => e = .returned (.bool true) ∧ Below w.heap.size w w' := by
  have H := Lib.hid fun (W : World) (ao : Option Addr) (cap : Nat) (hsl : SSl W ao 2 cap [⟨#[1, 2]⟩, ⟨#[4, 6]⟩]) => make_yes ao 2 cap 2 _ W hsl (by omega) (by omega) (by omega) (by intro s hs; simp at hs; rcases hs with rfl | rfl <;> rfl)
  go_enter Tryd.func6, Tryd.ntmps6
  go_wp2_with fail
  refine (H.out _ _ _ (SSl.lit w 9 [⟨#[1, 2]⟩, ⟨#[4, 6]⟩] (by unfold maxLen; simp))).mono ?_
  rintro e w1 ⟨rfl, hb1⟩
  have hx : xorL 2 [⟨#[1, 2]⟩, ⟨#[4, 6]⟩] = [5, 4] := by decide
  rw [hx]
  go_wp2_with fail
  go_ret
  exact ⟨rfl, ((Below.refl _ _).alloc (Nat.le_refl _) _).trans (hb1.mono (by simp))⟩

theorem right_yes (p : ByteArray) (ao : Option Addr) (n cap m : Nat) (ss : List ByteArray) (w : World) (hsl : SSl w ao n cap ss) (hm : n ≤ 1000000000) (h0 : 0 < n) (hmm : m ≤ 1000000) (hs : ∀ s ∈ ss, s.size = m) :
    Calls Tryd.prog 14 #[.string p, .slice ao n cap] w fun e w' => e = .returned (.bool (decide (xorS m ss = p))) ∧ Below w.heap.size w w' := by
  have H := Lib.hid (make_yes ao n cap m ss w hsl hm h0 hmm hs)
  clear hs hsl
  go_enter Tryd.func14, Tryd.ntmps14
  go_wp2_with fail
  refine H.out.mono ?_
  rintro e w1 ⟨rfl, hb1⟩
  go_wp2_with fail
  go_ret
  refine ⟨?_, hb1⟩
  have h := toList_beq (xorS m ss) p
  rw [show (xorS m ss).toList = xorL m ss from ByteArray.toList_mk _] at h
  rw [← h]
  rfl

end Go.Proofs.YtmnhdpojonlfhaaDoor
