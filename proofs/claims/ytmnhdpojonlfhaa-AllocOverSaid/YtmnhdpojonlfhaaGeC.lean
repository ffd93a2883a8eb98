/- The walks of the library's functions at groups and at ints. -/
import Derived.Test.YtmnhdpojonlfhaaGeM
import Derived.Test.YtmnhdpojonlfhaaProg
import Derived.Test.YtmnhdpojonlfhaaCore2
import Derived.Lib.SliceRun
namespace Go.Proofs.Ytmnhdpojonlfhaa
open Go.RowKit
theorem infoG : (Try.prog.info? 140).map (fun i => (i.zero, i.size, i.bytes)) = some (some (.agg #[.int .i64 0, .int .i64 0]), 2, 16) := by kernel_rfl
theorem infoI : (Try.prog.info? 3).map (fun i => (i.zero, i.size, i.bytes)) = some (some (.int .i64 0), 1, 8) := by kernel_rfl

set_option maxRecDepth 100000 in
theorem cloneG_any (ao : Option Addr) (n cap : Nat) (cs : List Value) (w : World) (h : RSl w 2 ao n cap cs) (h1 : ∀ u ∈ cs, u.oneCell' = true) (hm : n ≤ 1000000000) :
    Calls Try.prog 94 #[.slice ao n cap] w fun e w' => ∃ v, e = .returned v ∧ w'.ownsRow w.heap.size 140 2 v n cs ∧ Below w.heap.size w w' := by
  obtain ⟨i0, hi, hi0, hi1, hi2⟩ := info_parts infoG
  have he := fun (W : World) => Lib.run_eql_slice_nil (P := Try.prog) W 94 140 ao n cap 0 0 Try.underlying94
  cases ao with
  | none =>
    have hc : cap = 0 := h.2.2.2.1 rfl
    have hn : n = 0 := by have := h.2.1; omega
    subst hn
    subst hc
    have hcs : cs = [] := List.eq_nil_of_length_eq_zero (by have := h.1; simpa using this)
    subst hcs
    simp only [Option.isNone_none] at he
    clear h h1
    go_enter Try.func94, Try.ntmps94
    go_wp2_with fail
    go_ret
    exact ⟨_, rfl, World.ownsRow_nil _ _ _ _, Below.refl _ _⟩
  | some ad =>
    simp only [Option.isNone_some] at he
    have hmade := World.ownsRow_made (base := w.heap.size) (e := 140) (size := 2) w #[] 0 (Nat.le_refl _) (by unfold maxLen; omega) rfl
    have H := Lib.hid h
    have HN := Lib.hid (RSl.news (h.below ((Below.refl _ _).alloc (Nat.le_refl _) (.cells #[] 140))))
    have H1 := Lib.hid h1
    clear h h1
    go_enter Try.func94, Try.ntmps94
    go_wp2_with (at_builtin; refine wpList_append_own _ rfl (.tmp 5) (.tmp 6) 94 rfl w.heap.size 140 i0 (.agg #[.int .i64 0, .int .i64 0]) 2 16 Try.underlying94 hi hi0 hi1 hi2 rfl (by decide) (.slice (some ⟨w.heap.size, 0, none⟩) 0 0) 0 [] rfl hmade ad n cap cs rfl (by rw [H.out.1]) HN.out H1.out (by unfold maxLen; omega) (by omega) (by simp) ?_; intro v1 w1 hown1 hgrow1 _; simp only [Nat.zero_add, List.nil_append] at hown1)
    go_ret
    exact ⟨_, rfl, hown1, below_own ((Below.refl _ _).alloc (Nat.le_refl _) _) hmade hgrow1 (by simp) (Nat.le_refl _)⟩

set_option maxRecDepth 100000 in
theorem cloneI_any (ao : Option Addr) (n cap : Nat) (cs : List Value) (w : World) (h : RSl w 1 ao n cap cs) (h1 : ∀ u ∈ cs, u.oneCell' = true) (hm : n ≤ 1000000000) :
    Calls Try.prog 97 #[.slice ao n cap] w fun e w' => ∃ v, e = .returned v ∧ w'.ownsRow w.heap.size 3 1 v n cs ∧ Below w.heap.size w w' := by
  obtain ⟨i0, hi, hi0, hi1, hi2⟩ := info_parts infoI
  have he := fun (W : World) => Lib.run_eql_slice_nil (P := Try.prog) W 127 3 ao n cap 0 0 Try.underlying127
  cases ao with
  | none =>
    have hc : cap = 0 := h.2.2.2.1 rfl
    have hn : n = 0 := by have := h.2.1; omega
    subst hn
    subst hc
    have hcs : cs = [] := List.eq_nil_of_length_eq_zero (by have := h.1; simpa using this)
    subst hcs
    simp only [Option.isNone_none] at he
    clear h h1
    go_enter Try.func97, Try.ntmps97
    go_wp2_with fail
    go_ret
    exact ⟨_, rfl, World.ownsRow_nil _ _ _ _, Below.refl _ _⟩
  | some ad =>
    simp only [Option.isNone_some] at he
    have hmade := World.ownsRow_made (base := w.heap.size) (e := 3) (size := 1) w #[] 0 (Nat.le_refl _) (by unfold maxLen; omega) rfl
    have H := Lib.hid h
    have HN := Lib.hid (RSl.news (h.below ((Below.refl _ _).alloc (Nat.le_refl _) (.cells #[] 3))))
    have H1 := Lib.hid h1
    clear h h1
    go_enter Try.func97, Try.ntmps97
    go_wp2_with (at_builtin; refine wpList_append_own _ rfl (.tmp 5) (.tmp 6) 127 rfl w.heap.size 3 i0 (.int .i64 0) 1 8 Try.underlying127 hi hi0 hi1 hi2 rfl (by decide) (.slice (some ⟨w.heap.size, 0, none⟩) 0 0) 0 [] rfl hmade ad n cap cs rfl (by rw [H.out.1]) HN.out H1.out (by unfold maxLen; omega) (by omega) (by simp) ?_; intro v1 w1 hown1 hgrow1 _; simp only [Nat.zero_add, List.nil_append] at hown1)
    go_ret
    exact ⟨_, rfl, hown1, below_own ((Below.refl _ _).alloc (Nat.le_refl _) _) hmade hgrow1 (by simp) (Nat.le_refl _)⟩

set_option maxHeartbeats 400000 in
theorem indexFuncG_any (F : Nat) (capt : Array Value) (p : Nat → Bool) (ao : Option Addr) (n cap : Nat) (cs : List Value) (w : World) (h : RSl w 2 ao n cap cs) (hm : n ≤ 1000000000)
    (hF : ∀ args W, (callFunc F args).run Try.prog W = .ok (.enter F args) W)
    (hf : ∀ j, j < n → ∀ W, Below w.heap.size w W → Calls Try.prog F (#[.agg #[cs.getD (j * 2) undef, cs.getD (j * 2 + 1) undef]] ++ capt) W fun e W' => e = .returned (.bool (p j)) ∧ Below W.heap.size W W') :
    Calls Try.prog 126 #[.slice ao n cap, .func (.func F) #[] capt] w fun e w' => e = .returned (.int .i64 (firstIdx p n)) ∧ Below w.heap.size w w' := by
  have HF := Lib.hid hf
  have HSL := Lib.hid h
  clear hf h
  go_enter Try.func126, Try.ntmps126
  go_wp2_with fail
  go_loopw [8] (fun i wr => ∃ k : Nat, k ≤ n ∧ i = .int .i64 k ∧ Hid (∀ j, j < k → p j = false) ∧ Below w.heap.size w wr) (fun i _ => n - (intOf i).toNat)
  case atStart => exact ⟨0, by omega, rfl, Lib.hid fun j hj => absurd hj (by omega), Below.refl _ _⟩
  case round =>
    obtain ⟨k, hk, rfl, hno, hbel⟩ := hrel
    by_cases hkn : k < n
    · obtain ⟨b, off, rfl, hb, hc⟩ := HSL.out.2.2.2.2 (by omega)
      have hcl := HSL.out.1
      have c0 : wr.cell? ⟨b, off + k * 2, none⟩ = some (cs.getD (k * 2) undef) := by rw [(hbel.cell (p := ⟨b, _, none⟩) hb), hc (k * 2) (by omega)]; exact getD_some _ _ (by omega)
      have c1 : wr.cell? ⟨b, off + k * 2 + 1, none⟩ = some (cs.getD (k * 2 + 1) undef) := by rw [Nat.add_assoc, (hbel.cell (p := ⟨b, _, none⟩) hb), hc (k * 2 + 1) (by omega)]; exact getD_some _ _ (by omega)
      have HCL := Lib.hid (HF.out k hkn wr hbel)
      clear hc hcl
      cases hp : p k with
      | true =>
        rw [hp] at HCL
        go_wp2_with fail
        refine HCL.out.mono ?_
        rintro e w1 ⟨rfl, hb1⟩
        go_wp2_with fail
        go_ret
        exact ⟨by rw [firstIdx_at hkn hp hno.out]; rfl, hbel.trans (hb1.mono hbel.size)⟩
      | false =>
        rw [hp] at HCL
        have HP := Lib.hid hp
        clear hp
        go_wp2_with fail
        refine HCL.out.mono ?_
        rintro e w1 ⟨rfl, hb1⟩
        go_wp2_with fail
        go_roundw
        case rel =>
          refine ⟨k + 1, by omega, by go_num, Lib.hid fun j hj => ?_, hbel.trans (hb1.mono hbel.size)⟩
          by_cases e : j = k
          · rw [e]; exact HP.out
          · exact hno.out j (by omega)
        case measure => simp [intOf]; omega
    · have hkn' : k = n := by omega
      subst hkn'
      go_wp2_with fail
      go_ret
      exact ⟨by rw [firstIdx_none hno.out]; rfl, hbel⟩

theorem containsFuncG_any (F : Nat) (capt : Array Value) (p : Nat → Bool) (ao : Option Addr) (n cap : Nat) (cs : List Value) (w : World) (h : RSl w 2 ao n cap cs) (hm : n ≤ 1000000000)
    (hF : ∀ args W, (callFunc F args).run Try.prog W = .ok (.enter F args) W)
    (hf : ∀ j, j < n → ∀ W, Below w.heap.size w W → Calls Try.prog F (#[.agg #[cs.getD (j * 2) undef, cs.getD (j * 2 + 1) undef]] ++ capt) W fun e W' => e = .returned (.bool (p j)) ∧ Below W.heap.size W W') :
    Calls Try.prog 111 #[.slice ao n cap, .func (.func F) #[] capt] w fun e w' => e = .returned (.bool ((List.range n).any p)) ∧ Below w.heap.size w w' := by
  have H := Lib.hid (indexFuncG_any F capt p ao n cap cs w h hm hF hf)
  clear hF hf h
  go_enter Try.func111, Try.ntmps111
  go_wp2_with fail
  refine H.out.mono ?_
  rintro e w1 ⟨rfl, hb1⟩
  go_wp2_with fail
  go_ret
  exact ⟨by rw [← firstIdx_ge]; rfl, hb1⟩
end Go.Proofs.Ytmnhdpojonlfhaa
