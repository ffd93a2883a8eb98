/- The walks of polderref03 and polderref01.Zeros; what is refused. -/
import Derived.Test.YtmnhdpojonlfhaaDoorParO
import Derived.Laws.BitsAllLaws
import Derived.Laws.BitsLemmas
namespace Go.Proofs.YtmnhdpojonlfhaaDoor
open Go.RowKit

theorem refEven_any (ao : Option Addr) (n cap : Nat) (ss : List ByteArray) (w : World) (hsl : SSl w ao n cap ss) (hm : n ≤ 1000000) :
    Calls Tryd.prog 12 #[.slice ao n cap] w fun e w' => e = .returned (.bool (evenL ss)) ∧ Below w.heap.size w w' := by
  have hlen := hsl.len
  have HL := Lib.hid hlen
  have HSL := Lib.hid hsl
  clear hlen hsl
  go_enter Tryd.func12, Tryd.ntmps12
  go_wp2_with fail
  go_loopw [3] (fun i wr => ∃ k : Nat, 1 ≤ k ∧ (n ≤ 1 ∨ k ≤ n) ∧ k ≤ n + 1 ∧ i = .int .i64 k ∧ Hid (∀ j, j < k → j < n → (ss.getD j ByteArray.empty).size = (ss.getD 0 ByteArray.empty).size) ∧ Hid (Below w.heap.size w wr)) (fun i _ => n + 1 - (intOf i).toNat)
  case atStart => exact ⟨1, by omega, by omega, by omega, rfl, Lib.hid fun j hj _ => by rw [show j = 0 by omega], Lib.hid (Below.refl _ _)⟩
  case round =>
    obtain ⟨k, hk1, hk2, hk3, rfl, hall, hbel⟩ := hrel
    by_cases hkn : k < n
    · obtain ⟨b, off, rfl, hb, hc⟩ := HSL.out.pos (by omega)
      obtain ⟨s, es⟩ : ∃ s, s = ss.getD k ByteArray.empty := ⟨_, rfl⟩
      obtain ⟨s0, es0⟩ : ∃ s, s = ss.getD 0 ByteArray.empty := ⟨_, rfl⟩
      have c1 : wr.cell? ⟨b, off + k, none⟩ = some (.string s) := by rw [hbel.out.cell (p := ⟨b, off + k, none⟩) hb, es]; exact hc k hkn
      have c0 : wr.cell? ⟨b, off, none⟩ = some (.string s0) := by rw [hbel.out.cell (p := ⟨b, off, none⟩) hb, es0]; exact hc 0 (by omega)
      have ES := Lib.hid es
      have ES0 := Lib.hid es0
      have hi0 : (0 : Int) ≤ (k : Int) := by omega
      have hi1 : (k : Int) < (n : Int) := by omega
      have hi2 : (0 : Int) < (n : Int) := by omega
      clear hc es es0
      by_cases hq : s.size = s0.size
      · have hd : ((s.size : Int) != s0.size) = false := by rw [hq]; simp
        have HQ := Lib.hid hq
        clear hq
        go_wp2_with fail
        go_quiet (fail)
        go_wp2_with fail
        go_roundw
        case rel =>
          refine ⟨k + 1, by omega, by omega, by omega, by go_num, Lib.hid fun j hj hjn => ?_, Lib.hid (below_drewN' hbel.out _)⟩
          by_cases e : j = k
          · rw [e, ← ES.out, ← ES0.out]; exact HQ.out
          · exact hall.out j (by omega) hjn
        case measure => simp [intOf]; omega
      · have hd : ((s.size : Int) != s0.size) = true := by simp; omega
        have HQ := Lib.hid hq
        clear hq
        go_wp2_with fail
        go_quiet (fail)
        go_wp2_with fail
        go_ret
        refine ⟨ret_bool ?_, below_drewN' hbel.out _⟩
        cases he : evenL ss with
        | false => rfl
        | true =>
          have hkl : k < ss.length := by rw [HL.out]; exact hkn
          have := evenL_size he ss[k] (List.getElem_mem _)
          rw [← ES0.out] at this
          have e2 : ss.getD k ByteArray.empty = ss[k] := by rw [List.getD_eq_getElem?_getD, List.getElem?_eq_getElem hkl]; rfl
          rw [← e2, ← ES.out] at this
          exact absurd this HQ.out
    · go_wp2_with fail
      go_ret
      refine ⟨ret_bool ?_, hbel.out⟩
      refine (evenL_of ss (ss.getD 0 ByteArray.empty).size fun s hs => ?_).symm
      obtain ⟨j, hj, rfl⟩ := List.mem_iff_getElem.1 hs
      have := hall.out j (by have := HL.out; omega) (by have := HL.out; omega)
      rwa [List.getD_eq_getElem?_getD, List.getElem?_eq_getElem hj] at this

theorem refZeros_any (s : ByteArray) (w : World) (hs : s.size ≤ 1000000) :
    Calls Tryd.prog 13 #[.string s] w fun e w' => e = .returned (.bool (zerosB s.data.toList)) ∧ w = w' := by
  go_enter Tryd.func13, Tryd.ntmps13
  go_wp2_with fail
  go_loop [3] (fun i => ∃ k : Nat, k ≤ s.size ∧ i = .int .i64 k ∧ Hid (∀ x, x < k → s.data.toList.getD x 0 = 0)) (fun i => s.size - (intOf i).toNat)
  case atStart => exact ⟨0, by omega, rfl, Lib.hid fun x hx => absurd hx (by omega)⟩
  case round =>
    obtain ⟨k, hk, rfl, hz⟩ := hrel
    by_cases hkn : k < s.size
    · have HB := Lib.hid (byte_list s k hkn)
      by_cases hq : s[k] = 0
      · have hq1 : ((s[k].toNat : Int) != 0) = false := by
          have := toNat_zero (b := s[k])
          rw [hq]; rfl
        have HQ := Lib.hid hq
        clear hq
        go_wp2_with fail
        go_round
        case rel =>
          refine ⟨k + 1, by omega, by go_num, Lib.hid fun x hx => ?_⟩
          rcases Nat.lt_or_ge x k with h | h
          · exact hz.out x h
          · rw [show x = k by omega, ← HB.out]; exact HQ.out
        case measure => simp [intOf]; omega
      · have hq1 : ((s[k].toNat : Int) != 0) = true := by
          have := toNat_zero (b := s[k])
          rw [bne, this]; simpa using hq
        have HQ := Lib.hid hq
        clear hq
        go_wp2_with fail
        go_ret
        refine ⟨ret_bool ?_, rfl⟩
        cases he : zerosB s.data.toList with
        | false => rfl
        | true => exact absurd (by rw [HB.out]; exact zerosB_get he k) HQ.out
    · go_wp2_with fail
      go_ret
      exact ⟨ret_bool (zerosB_true fun x hx => hz.out x (by rw [len_data] at hx; omega)).symm, rfl⟩

theorem again_no (ao : Option Addr) (n cap : Nat) (a : Int) (w : World) (hm : n ≤ 1000000) (hno : n < 2 ∨ a < 0 ∨ (n : Int) ≤ a) :
    Calls Tryd.prog 11 #[.slice ao n cap, .int .i64 a] w fun e w' => e = .returned (.tuple #[.string ByteArray.empty, .int .i64 1]) ∧ w = w' := by
  by_cases h1 : n < 2
  · have h1' : (n : Int) < 2 := by omega
    clear hno
    go_enter Tryd.func11, Tryd.ntmps11
    go_wp2_with fail
    go_ret2
    exact ⟨rfl, rfl⟩
  · by_cases h2 : a < 0
    · have h1' : ¬ (n : Int) < 2 := by omega
      clear hno
      go_enter Tryd.func11, Tryd.ntmps11
      go_wp2_with fail
      go_ret2
      exact ⟨rfl, rfl⟩
    · have h1' : ¬ (n : Int) < 2 := by omega
      have h3 : (n : Int) ≤ a := by omega
      clear hno
      go_enter Tryd.func11, Tryd.ntmps11
      go_wp2_with fail
      go_ret2
      exact ⟨rfl, rfl⟩
theorem right_no (p : ByteArray) (ao : Option Addr) (n cap : Nat) (ss : List ByteArray) (w : World) (hsl : SSl w ao n cap ss) (hm : n ≤ 1000000000) (hno : n = 0 ∨ evenL ss = false) :
    Calls Tryd.prog 14 #[.string p, .slice ao n cap] w fun e w' => e = .returned (.bool false) ∧ Below w.heap.size w w' := by
  have H := Lib.hid (make_no ao n cap ss w hsl hm hno)
  clear hno hsl
  go_enter Tryd.func14, Tryd.ntmps14
  go_wp2_with fail
  refine H.out.mono ?_
  rintro e w1 ⟨rfl, hb1⟩
  go_wp2_with fail
  go_ret
  exact ⟨rfl, hb1⟩
end Go.Proofs.YtmnhdpojonlfhaaDoor
