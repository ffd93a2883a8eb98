/- The walks of polderref03: Without, Xor. -/
import Derived.Test.YtmnhdpojonlfhaaDoorParR
namespace Go.Proofs.YtmnhdpojonlfhaaDoor
open Go.RowKit

/-- a list without a place, as far as it has been gone through -/
def wo (l : List ByteArray) (a : Int) (k : Nat) : List ByteArray := ((List.range k).filter fun i : Nat => ((i : Int) != a)).map fun i => l.getD i ByteArray.empty
theorem wo_step (l : List ByteArray) (a : Int) (k : Nat) : wo l a (k + 1) = wo l a k ++ (if ((k : Int) != a) = true then [l.getD k ByteArray.empty] else []) := by
  unfold wo
  rw [List.range_succ, List.filter_append, List.map_append]
  congr 1
  by_cases h : ((k : Int) != a) = true
  · rw [if_pos h]; simp [h]
  · rw [if_neg h]; simp [h]
theorem wo_len (l : List ByteArray) (a : Int) (k : Nat) : (wo l a k).length ≤ k := by
  unfold wo
  rw [List.length_map]
  have := List.length_filter_le (fun i : Nat => ((i : Int) != a)) (List.range k)
  simpa using this
theorem wo_below (l : List ByteArray) (a : Nat) : ∀ k, k ≤ a → k ≤ l.length → wo l a k = l.take k := by
  intro k
  induction k with
  | zero => intro _ _; rfl
  | succ k ih =>
    intro h1 h2
    rw [wo_step, ih (by omega) (by omega), if_pos (by simp; omega), List.take_succ_eq_append_getElem (by omega), List.getD_eq_getElem?_getD, List.getElem?_eq_getElem (by omega)]
    rfl
theorem wo_above (l : List ByteArray) (a : Nat) (ha : a < l.length) : ∀ k, a < k → k ≤ l.length → wo l a k = l.take a ++ (l.take k).drop (a + 1) := by
  intro k
  induction k with
  | zero => intro h; omega
  | succ k ih =>
    intro h1 h2
    rw [wo_step]
    by_cases e : k = a
    · subst e
      rw [if_neg (by simp), List.append_nil, wo_below l k k (Nat.le_refl _) (by omega), List.drop_eq_nil_of_le (by rw [List.length_take]; omega), List.append_nil]
    · rw [ih (by omega) (by omega), if_pos (by simp; omega), List.take_succ_eq_append_getElem (show k < l.length by omega), List.drop_append_of_le_length (by rw [List.length_take]; omega), List.append_assoc, List.getD_eq_getElem?_getD, List.getElem?_eq_getElem (by omega)]
      rfl
theorem wo_all (l : List ByteArray) (a : Nat) (ha : a < l.length) : wo l a l.length = l.take a ++ l.drop (a + 1) := by
  rw [wo_above l a ha l.length ha (Nat.le_refl _), List.take_length]

set_option maxHeartbeats 800000 in
set_option maxRecDepth 100000 in
theorem without_any (ao : Option Addr) (n cap : Nat) (ss : List ByteArray) (a : Int) (w : World) (hsl : SSl w ao n cap ss) (hm : n ≤ 1000000) :
    Calls Tryd.prog 16 #[.slice ao n cap, .int .i64 a] w fun e w' => ∃ ao' cap', e = .returned (.slice ao' (wo ss a n).length cap') ∧ SSl w' ao' (wo ss a n).length cap' (wo ss a n) ∧ Below w.heap.size w w' := by
  obtain ⟨i0, hi, hz0, hz1, hz2⟩ := info_parts infoS
  have HSL := Lib.hid hsl
  clear hsl
  go_enter Tryd.func16, Tryd.ntmps16
  go_wp2_with fail
  go_loopw [5, 6] (fun v i wr => ∃ k : Nat, k ≤ n ∧ i = .int .i64 k ∧ Hid (wr.ownsRow w.heap.size 9 1 v (wo ss a k).length (encS (wo ss a k))) ∧ Hid (Below w.heap.size w wr)) (fun _ i _ => n - (intOf i).toNat)
  case atStart => exact ⟨0, by omega, rfl, Lib.hid (World.ownsRow_nil _ _ _ _), Lib.hid (Below.refl _ _)⟩
  case round =>
    obtain ⟨k, hk, rfl, hown, hbel⟩ := hrel
    obtain ⟨ao1, cap1, rfl, _⟩ := RSl.of_owns hown.out
    have hsz := hbel.out.size
    have hwl := wo_len ss a k
    by_cases hkn : k < n
    · obtain ⟨b, off, rfl, hb, hc⟩ := HSL.out.pos (by omega)
      obtain ⟨s, es⟩ : ∃ s, s = ss.getD k ByteArray.empty := ⟨_, rfl⟩
      have c1 : wr.cell? ⟨b, off + k, none⟩ = some (.string s) := by rw [hbel.out.cell (p := ⟨b, off + k, none⟩) hb, es]; exact hc k hkn
      have hst := wo_step ss a k
      rw [← es] at hst
      have HST := Lib.hid hst
      clear hc es hst
      by_cases hq : (k : Int) = a
      · have hd : ((k : Int) != a) = false := by simp [hq]
        have HD : Hid (wo ss a (k + 1) = wo ss a k) := Lib.hid (by rw [HST.out, hd]; simp)
        clear hq
        go_wp2_with fail
        go_roundw
        case rel => exact ⟨k + 1, by omega, by go_num, by rw [HD.out]; exact hown, hbel⟩
        case measure => simp [intOf]; omega
      · have hd : ((k : Int) != a) = true := by simp [hq]
        have HD : Hid (wo ss a (k + 1) = wo ss a k ++ [s]) := Lib.hid (by rw [HST.out, if_pos hd])
        clear hq
        go_wp2_with (at_builtin; go_must (refine wpList_append_own _ rfl (.tmp 16) (.tmp 21) 22 rfl w.heap.size 9 i0 (.string ⟨#[]⟩) 1 16 Tryd.underlying22 hi hz0 hz1 hz2 rfl (by decide) (.slice ao1 (wo ss a k).length cap1) (wo ss a k).length (encS (wo ss a k)) rfl (hown.out.alloc _) ⟨wr.heap.size, 0, none⟩ 1 1 (encS [s]) rfl rfl (news_one wr _ _) (encS_one _) (by unfold maxLen; omega) (by omega) (by simp; omega) ?_; intro v1 w1 hown1 hgrow1 _))
        rw [← encS_append] at hown1
        go_roundw
        case rel => exact ⟨k + 1, by omega, by go_num, by rw [HD.out, List.length_append]; exact Lib.hid hown1, Lib.hid (below_own (base := w.heap.size) (hbel.out.alloc hsz _) (hown.out.alloc _) hgrow1 (by simp; omega) (Nat.le_refl _))⟩
        case measure => simp [intOf]; omega
    · have hk' : k = n := by omega
      subst hk'
      have hss := SSl.of_owns hown.out
      go_wp2_with fail
      go_ret
      exact ⟨_, _, rfl, hss, hbel.out⟩

theorem xor_i64 (a b : UInt8) : bits BinOp.xor IntKind.i64 (a.toNat : Int) (b.toNat : Int) = ((a ^^^ b).toNat : Int) := by
  have h1 : a.toNat % 2 ^ 64 = a.toNat := Nat.mod_eq_of_lt (by have := a.toNat_lt; omega)
  have h2 : b.toNat % 2 ^ 64 = b.toNat := Nat.mod_eq_of_lt (by have := b.toNat_lt; omega)
  have key : (BitVec.ofInt 64 (a.toNat : Int) ^^^ BitVec.ofInt 64 (b.toNat : Int)).toNat = a.toNat ^^^ b.toNat := by
    rw [BitVec.ofInt_natCast, BitVec.ofInt_natCast, BitVec.toNat_xor, BitVec.toNat_ofNat, BitVec.toNat_ofNat, h1, h2]
  show IntKind.i64.wrap (((BitVec.ofInt 64 (a.toNat : Int) ^^^ BitVec.ofInt 64 (b.toNat : Int)).toNat : Nat) : Int) = _
  rw [key, UInt8.toNat_xor]
  have : a.toNat ^^^ b.toNat < 2 ^ 8 := Nat.xor_lt_two_pow a.toNat_lt b.toNat_lt
  exact IntWalk.i64_in _ (by omega)
theorem xorAt_take (j : Nat) (ss : List ByteArray) (k : Nat) (h : k < ss.length) : xorAt j (ss.take (k + 1)) = xorAt j (ss.take k) ^^^ (ss.getD k ByteArray.empty).data.toList.getD j 0 := by
  have e : ss.getD k ByteArray.empty = ss[k] := by rw [List.getD_eq_getElem?_getD, List.getElem?_eq_getElem h]; rfl
  rw [List.take_succ_eq_append_getElem h, xorAt_append, xorAt_cons, xorAt_nil, e]
  simp
theorem xorL_take (q k : Nat) (ss : List ByteArray) (h : k < q) : (xorL q ss).take (k + 1) = (xorL q ss).take k ++ [xorAt k ss] := by
  have hl : k < (xorL q ss).length := by rw [xorL_length]; exact h
  have := xorL_getD q k ss h
  rw [List.getD_eq_getElem?_getD, List.getElem?_eq_getElem hl] at this
  rw [List.take_succ_eq_append_getElem hl]
  congr 2

set_option maxHeartbeats 1600000 in
set_option maxRecDepth 100000 in
theorem refXor_any (ao : Option Addr) (n cap q : Nat) (ss : List ByteArray) (w : World) (hsl : SSl w ao n cap ss) (hn : 0 < n) (hm : n ≤ 1000000) (hq : q ≤ 1000000) (hs : ∀ s ∈ ss, s.size = q) :
    Calls Tryd.prog 15 #[.slice ao n cap] w fun e w' => e = .returned (.string (xorS q ss)) ∧ Below w.heap.size w w' := by
  have hlen := hsl.len
  have HL := Lib.hid hlen
  obtain ⟨b, off, rfl, hb, hc⟩ := hsl.pos hn
  have hsz : ∀ k, k < n → (ss.getD k ByteArray.empty).size = q := fun k hk => hs _ (by rw [List.getD_eq_getElem?_getD, List.getElem?_eq_getElem (by omega)]; exact List.getElem_mem _)
  have HC := Lib.hid hc
  have HSZ := Lib.hid hsz
  have hc0 := hc 0 hn
  have hz0 := hsz 0 hn
  obtain ⟨s0, es0⟩ : ∃ s, s = ss.getD 0 ByteArray.empty := ⟨_, rfl⟩
  rw [← es0] at hc0 hz0
  have HC0 := Lib.hid hc0
  have HZ0 := Lib.hid hz0
  have hs0 : s0.size ≤ 1000000 := by omega
  have hi2 : (0 : Int) < (n : Int) := by omega
  clear hlen hsl hc hsz hs es0 hc0 hz0
  go_enter Tryd.func15, Tryd.ntmps15
  go_wp2_with fail
  go_loopw [3, 4] (fun v i wr => ∃ (k : Nat) (t : ByteArray), k ≤ q ∧ i = .int .i64 k ∧ v = .string t ∧ Hid (t.data.toList = (xorL q ss).take k) ∧ Hid (Below w.heap.size w wr)) (fun _ i _ => q - (intOf i).toNat)
  case atStart => exact ⟨0, ⟨#[]⟩, by omega, rfl, rfl, Lib.hid rfl, Lib.hid (Below.refl _ _)⟩
  case round =>
    obtain ⟨k, t, hk, rfl, rfl, ht, hbel⟩ := hrel
    have c0 : wr.cell? ⟨b, off, none⟩ = some (.string s0) := (hbel.out.cell (p := ⟨b, off, none⟩) hb).trans HC0.out
    have hzz := HZ0.out
    have HZZ := Lib.hid hzz
    by_cases hkq : k < q
    · have hks : k < s0.size := by omega
      clear hzz
      obtain ⟨wo, rfl⟩ : ∃ wo : World, wo = wr := ⟨_, rfl⟩
      go_wp2_with fail
      go_loop [5, 6] (fun v i => ∃ j : Nat, j ≤ n ∧ i = .int .i64 j ∧ v = .int .i64 ((xorAt k (ss.take j)).toNat : Int)) (fun _ i => n - (intOf i).toNat)
      case atStart => exact ⟨0, by omega, rfl, rfl⟩
      case round =>
        obtain ⟨j, hj, rfl, rfl⟩ := hrel
        by_cases hjn : j < n
        · obtain ⟨s, es⟩ : ∃ s, s = ss.getD j ByteArray.empty := ⟨_, rfl⟩
          have cj : wo.cell? ⟨b, off + j, none⟩ = some (.string s) := by rw [hbel.out.cell (p := ⟨b, off + j, none⟩) hb, es]; exact HC.out j hjn
          have hsq := HSZ.out j hjn
          rw [← es] at hsq
          have hkss : k < s.size := by omega
          have hss : s.size ≤ 1000000 := by omega
          have hst := xorAt_take k ss j (by rw [HL.out]; exact hjn)
          rw [← es, ← byte_list s k hkss] at hst
          obtain ⟨A, hA⟩ : ∃ A, A = xorAt k (ss.take j) := ⟨_, rfl⟩
          rw [← hA] at hst ⊢
          have hx := xor_i64 A s[k]
          have HST := Lib.hid hst
          have hA8 : A.toNat < 256 := A.toNat_lt
          have hsk8 : s[k].toNat < 256 := s[k].toNat_lt
          clear es hsq hst hA
          go_wp2_with fail
          go_round
          case rel => exact ⟨j + 1, by omega, by go_num, by rw [HST.out, UInt8.toNat_xor]⟩
          case measure => simp [intOf]; omega
        · have hj' : j = n := by omega
          subst hj'
          rw [List.take_of_length_le (by rw [HL.out]; omega)]
          obtain ⟨X, hX⟩ : ∃ X, X = xorAt k ss := ⟨_, rfl⟩
          have hst := xorL_take q k ss hkq
          rw [← hX] at hst ⊢
          have HST := Lib.hid hst
          have hX8 : X.toNat < 256 := X.toNat_lt
          have hown := World.ownsRow_lit (base := 0) (e := 5) (size := 1) wo #[.int .u8 X.toNat] 1 (Nat.zero_le _) (by unfold maxLen; omega) rfl
          have hcv := run_string_of_own (P := Tryd.prog) (l := [X]) hown 40 5 9 Tryd.underlying40 Tryd.underlying5 Tryd.underlying9
          have hts : t.size ≤ 1000000 := by rw [← len_data, ht.out, List.length_take, xorL_length]; omega
          clear hst hX hown
          go_wp2_with fail
          go_roundw
          case rel =>
            refine ⟨k + 1, _, by omega, by go_num, rfl, Lib.hid ?_, Lib.hid (hbel.out.alloc hbel.out.size _)⟩
            rw [HST.out, ← ht.out]
            simp
          case measure => simp [intOf]; omega
    · have hks : ¬ k < s0.size := by omega
      have hk' : k = q := by omega
      clear hzz
      go_wp2_with fail
      go_ret
      have e : t = xorS q ss := ba_ext (by rw [ht.out, xorS_toList, List.take_of_length_le (by rw [xorL_length]; omega)])
      exact ⟨by rw [e]; rfl, hbel.out⟩
end Go.Proofs.YtmnhdpojonlfhaaDoor
