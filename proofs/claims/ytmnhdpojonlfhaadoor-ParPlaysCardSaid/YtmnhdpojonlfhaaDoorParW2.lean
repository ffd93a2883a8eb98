/- The walks of package par, the rest: what its functions answer, whatever the columns. -/
import Derived.Test.YtmnhdpojonlfhaaDoorParW
import Derived.Test.YtmnhdpojonlfhaaDoorCore2
namespace Go.Proofs.YtmnhdpojonlfhaaDoor
open Go.RowKit

set_option maxHeartbeats 400000 in
theorem indexFuncS_any (F : Nat) (capt : Array Value) (p : Nat → Bool) (ao : Option Addr) (n cap : Nat) (ss : List ByteArray) (w : World) (hsl : SSl w ao n cap ss) (hm : n ≤ 1000000000)
    (hF : ∀ args W, (callFunc F args).run Tryd.prog W = .ok (.enter F args) W)
    (hf : ∀ j, j < n → ∀ W, Below w.heap.size w W → Calls Tryd.prog F (#[.string (ss.getD j ByteArray.empty)] ++ capt) W fun e W' => e = .returned (.bool (p j)) ∧ Below W.heap.size W W') :
    Calls Tryd.prog 23 #[.slice ao n cap, .func (.func F) #[] capt] w fun e w' => e = .returned (.int .i64 (firstIdx p n)) ∧ Below w.heap.size w w' := by
  have HF := Lib.hid hf
  have HSL := Lib.hid hsl
  clear hf hsl
  go_enter Tryd.func23, Tryd.ntmps23
  go_wp2_with fail
  go_loopw [8] (fun i wr => ∃ k : Nat, k ≤ n ∧ i = .int .i64 k ∧ Hid (∀ j, j < k → p j = false) ∧ Below w.heap.size w wr) (fun i _ => n - (intOf i).toNat)
  case atStart => exact ⟨0, by omega, rfl, Lib.hid fun j hj => absurd hj (by omega), Below.refl _ _⟩
  case round =>
    obtain ⟨k, hk, rfl, hno, hbel⟩ := hrel
    by_cases hkn : k < n
    · obtain ⟨b, off, rfl, hb, hc⟩ := HSL.out.pos (by omega)
      obtain ⟨s, es⟩ : ∃ s, s = ss.getD k ByteArray.empty := ⟨_, rfl⟩
      have hcx : wr.cell? ⟨b, off + k, none⟩ = some (.string s) := by rw [es]; exact (hbel.cell (by exact hb)).trans (hc k hkn)
      have hcl := HF.out k hkn wr hbel
      rw [← es] at hcl
      have HCL := Lib.hid hcl
      have ES := Lib.hid es
      have HC := Lib.hid hc
      clear hc es hcl
      cases hp : p k with
      | true =>
        rw [hp] at HCL
        go_wp2_with fail
        refine HCL.out.mono ?_
        rintro e w1 ⟨rfl, hb1⟩
        go_wp2_with fail
        go_ret
        exact ⟨by rw [firstIdx_at hkn hp hno.out]; rfl, hbel.trans (hb1.mono hbel.size)⟩
      | false =>
        rw [hp] at HCL
        have HP := Lib.hid hp
        clear hp
        go_wp2_with fail
        refine HCL.out.mono ?_
        rintro e w1 ⟨rfl, hb1⟩
        go_wp2_with fail
        go_roundw
        case rel =>
          refine ⟨k + 1, by omega, by go_num, Lib.hid fun j hj => ?_, hbel.trans (hb1.mono hbel.size)⟩
          by_cases e : j = k
          · rw [e]; exact HP.out
          · exact hno.out j (by omega)
        case measure => simp [intOf]; omega
    · have hkn' : k = n := by omega
      subst hkn'
      go_wp2_with fail
      go_ret
      exact ⟨by rw [firstIdx_none hno.out]; rfl, hbel⟩
theorem containsFuncS_any (F : Nat) (capt : Array Value) (p : Nat → Bool) (ao : Option Addr) (n cap : Nat) (ss : List ByteArray) (w : World) (hsl : SSl w ao n cap ss) (hm : n ≤ 1000000000)
    (hF : ∀ args W, (callFunc F args).run Tryd.prog W = .ok (.enter F args) W)
    (hf : ∀ j, j < n → ∀ W, Below w.heap.size w W → Calls Tryd.prog F (#[.string (ss.getD j ByteArray.empty)] ++ capt) W fun e W' => e = .returned (.bool (p j)) ∧ Below W.heap.size W W') :
    Calls Tryd.prog 17 #[.slice ao n cap, .func (.func F) #[] capt] w fun e w' => e = .returned (.bool ((List.range n).any p)) ∧ Below w.heap.size w w' := by
  have H := Lib.hid (indexFuncS_any F capt p ao n cap ss w hsl hm hF hf)
  clear hF hf hsl
  go_enter Tryd.func17, Tryd.ntmps17
  go_wp2_with fail
  refine H.out.mono ?_
  rintro e w1 ⟨rfl, hb1⟩
  go_wp2_with fail
  go_ret
  exact ⟨by rw [← firstIdx_ge]; rfl, hb1⟩

theorem even1_any (s s0 : ByteArray) (B b off n cap : Nat) (w : World) (hB : w.cell? ⟨B, 0, none⟩ = some (.slice (some ⟨b, off, none⟩) n cap)) (h0 : w.cell? ⟨b, off, none⟩ = some (.string s0)) (hn : 0 < n) :
    Calls Tryd.prog 18 #[.string s, .pointer (some ⟨B, 0, none⟩)] w fun e w' => e = .returned (.bool ((s.size : Int) != s0.size)) ∧ Below w.heap.size w w' := by
  go_enter Tryd.func18, Tryd.ntmps18
  go_wp2_with fail
  go_ret
  exact ⟨rfl, Below.refl _ _⟩

theorem callFunc_even1 (args : Array Value) (W : World) : (callFunc 18 args).run Tryd.prog W = .ok (.enter 18 args) W := by kernel_rfl
theorem even_any (ao : Option Addr) (n cap : Nat) (ss : List ByteArray) (w : World) (hsl : SSl w ao n cap ss) (hm : n ≤ 1000000000) :
    Calls Tryd.prog 8 #[.slice ao n cap] w fun e w' => e = .returned (.bool (evenL ss)) ∧ Below w.heap.size w w' := by
  have hb0 : Below w.heap.size w (w.alloc (.cells #[.slice ao n cap] 22)) := (Below.refl _ _).alloc (Nat.le_refl _) _
  have hcB : (w.alloc (.cells #[.slice ao n cap] 22)).cell? ⟨w.heap.size, 0, none⟩ = some (.slice ao n cap) := by rw [World.cell?_alloc_at _ _ _ _ rfl]; rfl
  have hlen := hsl.len
  have H := containsFuncS_any 18 #[.pointer (some ⟨w.heap.size, 0, none⟩)] (fun j => ((ss.getD j ByteArray.empty).size : Int) != (ss.getD 0 ByteArray.empty).size) ao n cap ss (w.alloc (.cells #[.slice ao n cap] 22))
    (hsl.below hb0) hm callFunc_even1 (fun j hj W hW => by
      have hsl' := (hsl.below hb0).below hW
      obtain ⟨b, off, rfl, hb, hc⟩ := hsl'.pos (by omega)
      refine even1_any _ _ _ b off n cap W ?_ (hc 0 (by omega)) (by omega)
      rw [hW.cell (p := ⟨w.heap.size, 0, none⟩) (by simp)]
      exact hcB)
  have HH := Lib.hid H
  have HB0 := Lib.hid hb0
  clear H hsl hcB hb0
  go_enter Tryd.func8, Tryd.ntmps8
  go_wp2_with fail
  refine HH.out.mono ?_
  rintro e w1 ⟨rfl, hb1⟩
  go_wp2_with fail
  go_ret
  refine ⟨?_, HB0.out.trans (hb1.mono (by simp))⟩
  rw [← even_eq ss n hlen]
  rfl

theorem make_no (ao : Option Addr) (n cap : Nat) (ss : List ByteArray) (w : World) (hsl : SSl w ao n cap ss) (hm : n ≤ 1000000000) (hno : n = 0 ∨ evenL ss = false) :
    Calls Tryd.prog 9 #[.slice ao n cap] w fun e w' => e = .returned (.tuple #[.string ByteArray.empty, .int .i64 1]) ∧ Below w.heap.size w w' := by
  have HE := Lib.hid (even_any ao n cap ss w hsl hm)
  have HNO := Lib.hid hno
  clear hno hsl
  by_cases h0 : n = 0
  · subst h0
    go_enter Tryd.func9, Tryd.ntmps9
    go_wp2_with fail
    go_ret2
    exact ⟨rfl, Below.refl _ _⟩
  · have hz : ((n : Int) == 0) = false := by simpa using h0
    have hev : evenL ss = false := HNO.out.resolve_left h0
    rw [hev] at HE
    clear hev
    go_enter Tryd.func9, Tryd.ntmps9
    go_wp2_with fail
    refine HE.out.mono ?_
    rintro e w1 ⟨rfl, hb1⟩
    go_wp2_with fail
    go_ret2
    exact ⟨rfl, hb1⟩

theorem make_yes (ao : Option Addr) (n cap m : Nat) (ss : List ByteArray) (w : World) (hsl : SSl w ao n cap ss) (hm : n ≤ 1000000000) (h0 : 0 < n) (hmm : m ≤ 1000000) (hs : ∀ s ∈ ss, s.size = m) :
    Calls Tryd.prog 9 #[.slice ao n cap] w fun e w' => e = .returned (.tuple #[.string ⟨(xorL m ss).toArray⟩, .int .i64 0]) ∧ Below w.heap.size w w' := by
  have hev : evenL ss = true := evenL_of ss m hs
  have HE := Lib.hid (even_any ao n cap ss w hsl hm)
  rw [hev] at HE
  clear hev
  have HO := Lib.hid fun W (hW : Below w.heap.size w W) => one_any ao n cap m ss W (hsl.below hW) hm h0 hmm hs
  clear hs hsl
  have hz : ((n : Int) == 0) = false := by simp; omega
  go_enter Tryd.func9, Tryd.ntmps9
  go_wp2_with fail
  refine HE.out.mono ?_
  rintro e w1 ⟨rfl, hb1⟩
  go_wp2_with fail
  refine (HO.out w1 hb1).mono ?_
  rintro e w2 ⟨rfl, hb2⟩
  go_wp2_with fail
  go_ret2
  exact ⟨rfl, hb1.trans (hb2.mono hb1.size)⟩
end Go.Proofs.YtmnhdpojonlfhaaDoor
