/- The walks of strings.Trim at the cutset of one zero byte, Blank, and the reference's Zeros. -/
import Derived.Test.YtmnhdpojonlfhaaDoorParL
namespace Go.Proofs.YtmnhdpojonlfhaaDoor
open Go.RowKit

/-- all bytes are zero -/
def zerosB (l : List UInt8) : Bool := l.all fun b => b == 0
theorem extract_list (t : ByteArray) (a b : Nat) : (t.extract a b).data.toList = (t.data.toList.drop a).take (b - a) := by
  rw [ByteArray.data_extract, Array.toList_extract, List.extract_eq_take_drop]
theorem byte_list (t : ByteArray) (i : Nat) (h : i < t.size) : t[i] = t.data.toList.getD i 0 := (getD_data t i h).symm
def TR (s : ByteArray) (w : World) (e : Ending) (w' : World) : Prop := ∃ t m, m ≤ s.size ∧ e = .returned (.string t) ∧ t.data.toList = s.data.toList.take m ∧ (∀ x, m ≤ x → s.data.toList.getD x 0 = 0) ∧ (0 < m → s.data.toList.getD (m - 1) 0 ≠ 0) ∧ w = w'
def TL (s : ByteArray) (w : World) (e : Ending) (w' : World) : Prop := ∃ t m, m ≤ s.size ∧ e = .returned (.string t) ∧ t.data.toList = s.data.toList.drop m ∧ (∀ x, x < m → s.data.toList.getD x 0 = 0) ∧ (m < s.size → s.data.toList.getD m 0 ≠ 0) ∧ w = w'
theorem len_data (s : ByteArray) : s.data.toList.length = s.size := by simp
theorem size_of_take {t s : ByteArray} {m : Nat} (h : t.data.toList = s.data.toList.take m) (hm : m ≤ s.size) : t.size = m := by
  rw [← len_data, h, List.length_take, len_data]; omega
theorem size_of_drop {t s : ByteArray} {m : Nat} (h : t.data.toList = s.data.toList.drop m) : t.size = s.size - m := by
  rw [← len_data, h, List.length_drop, len_data]
theorem toNat_zero {b : UInt8} : ((b.toNat : Int) == 0) = (b == 0) := by
  rw [Bool.eq_iff_iff]
  simp only [beq_iff_eq]
  constructor
  · intro h; exact UInt8.toNat_inj.1 (by simpa using h)
  · rintro rfl; rfl

set_option maxHeartbeats 400000 in
theorem trimR_any (s : ByteArray) (w : World) (hs : s.size ≤ 1000000) :
    Calls Tryd.prog 25 #[.string s, .int .u8 0] w (TR s w) := by
  go_enter Tryd.func25, Tryd.ntmps25
  go_wp2_with fail
  go_loop [0] (fun v => ∃ t m, m ≤ s.size ∧ v = .string t ∧ Hid (t.data.toList = s.data.toList.take m) ∧ Hid (∀ x, m ≤ x → s.data.toList.getD x 0 = 0)) (fun v => match v with | .string s => s.size | _ => 0)
  case atStart => exact ⟨s, s.size, Nat.le_refl _, rfl, Lib.hid (by rw [List.take_of_length_le (by rw [len_data]; exact Nat.le_refl _)]), Lib.hid fun x hx => by rw [List.getD_eq_getElem?_getD, List.getElem?_eq_none (by rw [len_data]; exact hx)]; rfl⟩
  case round =>
    obtain ⟨t, m, hm, rfl, ht, hz⟩ := hrel
    have hsz := size_of_take ht.out hm
    have HSZ := Lib.hid hsz
    have hts : t.size ≤ 1000000 := by omega
    clear hsz
    by_cases h0 : 0 < t.size
    · have hb : t[t.size - 1] = s.data.toList.getD (m - 1) 0 := by
        rw [byte_list t _ (by omega), ht.out, HSZ.out, List.getD_eq_getElem?_getD, List.getElem?_take, if_pos (by have := HSZ.out; omega), List.getD_eq_getElem?_getD]
      have HB := Lib.hid hb
      clear hb
      by_cases hq : t[t.size - 1] = 0
      · have hq1 : ((t[t.size - 1].toNat : Int) == 0) = true := by rw [toNat_zero]; simpa using hq
        have HQ := Lib.hid hq
        clear hq
        go_wp2_with fail
        go_round
        case rel =>
          have := HSZ.out
          refine ⟨_, m - 1, by omega, rfl, Lib.hid ?_, Lib.hid fun x hx => ?_⟩
          · rw [extract_list, List.drop_zero, ht.out, HSZ.out, List.take_take]
            congr 1
            omega
          · rcases Nat.lt_or_ge x m with h | h
            · rw [show x = m - 1 by omega, ← HB.out]; exact HQ.out
            · exact hz.out x h
        case measure => simp; omega
      · have hq1 : ((t[t.size - 1].toNat : Int) == 0) = false := by rw [toNat_zero]; simpa using hq
        have HQ := Lib.hid hq
        clear hq
        go_wp2_with fail
        go_ret
        exact ⟨t, m, hm, rfl, ht.out, hz.out, fun _ => by rw [← HB.out]; exact HQ.out, rfl⟩
    · go_wp2_with fail
      go_ret
      exact ⟨t, m, hm, rfl, ht.out, hz.out, fun h => by have := HSZ.out; omega, rfl⟩

set_option maxHeartbeats 400000 in
theorem trimL_any (s : ByteArray) (w : World) (hs : s.size ≤ 1000000) :
    Calls Tryd.prog 24 #[.string s, .int .u8 0] w (TL s w) := by
  go_enter Tryd.func24, Tryd.ntmps24
  go_wp2_with fail
  go_loop [0] (fun v => ∃ t m, m ≤ s.size ∧ v = .string t ∧ Hid (t.data.toList = s.data.toList.drop m) ∧ Hid (∀ x, x < m → s.data.toList.getD x 0 = 0)) (fun v => match v with | .string s => s.size | _ => 0)
  case atStart => exact ⟨s, 0, Nat.zero_le _, rfl, Lib.hid (by rw [List.drop_zero]), Lib.hid fun x hx => absurd hx (by omega)⟩
  case round =>
    obtain ⟨t, m, hm, rfl, ht, hz⟩ := hrel
    have hsz := size_of_drop ht.out
    have HSZ := Lib.hid hsz
    have hts : t.size ≤ 1000000 := by omega
    clear hsz
    by_cases h0 : 0 < t.size
    · have hb : t[0] = s.data.toList.getD m 0 := by
        rw [byte_list t _ (by omega), ht.out, List.getD_eq_getElem?_getD, List.getElem?_drop, List.getD_eq_getElem?_getD]; rfl
      have HB := Lib.hid hb
      clear hb
      by_cases hq : t[0] = 0
      · have hq1 : ((t[0].toNat : Int) == 0) = true := by rw [toNat_zero]; simpa using hq
        have HQ := Lib.hid hq
        clear hq
        have h1 : (1 : Int) ≤ t.size := by omega
        go_wp2_with fail
        go_round
        case rel =>
          have := HSZ.out
          refine ⟨_, m + 1, by omega, rfl, Lib.hid ?_, Lib.hid fun x hx => ?_⟩
          · rw [extract_list, ht.out, List.drop_drop]
            rw [List.take_of_length_le (by rw [List.length_drop, len_data]; omega)]
          · rcases Nat.lt_or_ge x m with h | h
            · exact hz.out x h
            · rw [show x = m by omega, ← HB.out]; exact HQ.out
        case measure => simp; omega
      · have hq1 : ((t[0].toNat : Int) == 0) = false := by rw [toNat_zero]; simpa using hq
        have HQ := Lib.hid hq
        clear hq
        go_wp2_with fail
        go_ret
        exact ⟨t, m, hm, rfl, ht.out, hz.out, fun _ => by rw [← HB.out]; exact HQ.out, rfl⟩
    · go_wp2_with fail
      go_ret
      exact ⟨t, m, hm, rfl, ht.out, hz.out, fun h => by have := HSZ.out; omega, rfl⟩
end Go.Proofs.YtmnhdpojonlfhaaDoor
