/- The walks of polderref11: Find, Set, Runs. -/
import Derived.Test.YtmnhdpojonlfhaaSpRf
import Derived.Deep.QuietTactic
import Derived.BigQuiet
namespace Go.Proofs.Ytmnhdpojonlfhaa
open Go.RowKit

theorem infoB : (Try.prog.info? 4).map (fun i => (i.zero, i.size, i.bytes)) = some (some (.bool false), 1, 1) := by kernel_rfl
theorem infoT : (Try.prog.info? 55).map (fun i => (i.zero, i.size, i.bytes)) = some (some (.agg #[.int .i64 0, .int .i64 0]), 2, 16) := by kernel_rfl

set_option maxHeartbeats 800000 in
set_option maxRecDepth 100000 in
theorem set_any (ao : Option Addr) (n cap : Nat) (bs : List Bool) (a k : Nat) (to : Bool) (w : World) (h : BSl w ao n cap bs) (hn : n ≤ 65536) (hk : a + k ≤ n) :
    Calls Try.prog 34 #[.slice ao n cap, .int .i64 a, .int .i64 k, .bool to] w fun e w' => ∃ v, e = .returned v ∧ w'.ownsRow w.heap.size 4 1 v n (encB (setL bs a k to n)) ∧ Below w.heap.size w w' := by
  obtain ⟨i0, hi, hz0, hz1, hz2⟩ := info_parts infoB
  have H := Lib.hid h
  clear h
  go_enter Try.func34, Try.ntmps34
  go_wp2_with fail
  go_loopw [9, 10] (fun v i wr => ∃ j : Nat, j ≤ n ∧ i = .int .i64 j ∧ Hid (wr.ownsRow w.heap.size 4 1 v j (encB (setL bs a k to j))) ∧ Hid (Below w.heap.size w wr)) (fun _ i _ => n - (intOf i).toNat)
  case atStart => exact ⟨0, by omega, rfl, Lib.hid (World.ownsRow_nil _ _ _ _), Lib.hid (Below.refl _ _)⟩
  case round =>
    obtain ⟨j, hj, rfl, hown, hbel⟩ := hrel
    obtain ⟨ao1, cap1, rfl, _⟩ := RSl.of_owns hown.out
    have hsz := hbel.out.size
    by_cases hjn : j < n
    · obtain ⟨b, off, rfl, hb, hc⟩ := H.out.at_ (by omega)
      have hcj : wr.cell? ⟨b, off + j, none⟩ = some (.bool (mk bs j)) := (hbel.out.cell (p := ⟨b, off + j, none⟩) hb).trans (hc j hjn)
      have HST := Lib.hid (setL_step bs a k to j)
      clear hc
      by_cases hin : a ≤ j ∧ j < a + k
      · rw [if_pos hin] at HST
        obtain ⟨hin1, hin2⟩ := hin
        go_wp2_with (at_builtin; go_must (refine wpList_append_own _ rfl (.tmp 27) (.tmp 29) 47 rfl w.heap.size 4 i0 (.bool false) 1 1 Try.underlying47 hi hz0 hz1 hz2 rfl (by decide) (.slice ao1 j cap1) j (encB (setL bs a k to j)) rfl (hown.out.alloc _) ⟨wr.heap.size, 0, none⟩ 1 1 (encB [to]) rfl rfl (Blk.news (Blk.newAt (w := wr) 4 (encB [to]) (by simp))) (encB_one _) (by unfold maxLen; omega) (by omega) (by simp; omega) ?_; intro v1 w1 hown1 hgrow1 _))
        rw [← encB_append] at hown1
        go_roundw
        case rel => exact ⟨j + 1, by omega, by go_num, Lib.hid (by rw [HST.out]; exact hown1), Lib.hid (below_own (base := w.heap.size) (hbel.out.alloc hsz _) (hown.out.alloc _) hgrow1 (by simp; omega) (Nat.le_refl _))⟩
        case measure => simp [intOf]; omega
      · rw [if_neg hin] at HST
        obtain ⟨m, hm⟩ : ∃ m, m = mk bs j := ⟨_, rfl⟩
        rw [← hm] at HST hcj
        clear hm
        by_cases hin1 : a ≤ j
        · have hin2 : ¬ (j < a + k) := fun h => hin ⟨hin1, h⟩
          clear hin
          go_wp2_with (at_builtin; go_must (refine wpList_append_own _ rfl (.tmp 31) (.tmp 36) 47 rfl w.heap.size 4 i0 (.bool false) 1 1 Try.underlying47 hi hz0 hz1 hz2 rfl (by decide) (.slice ao1 j cap1) j (encB (setL bs a k to j)) rfl (hown.out.alloc _) ⟨wr.heap.size, 0, none⟩ 1 1 (encB [m]) rfl rfl (Blk.news (Blk.newAt (w := wr) 4 (encB [m]) (by simp))) (encB_one _) (by unfold maxLen; omega) (by omega) (by simp; omega) ?_; intro v1 w1 hown1 hgrow1 _))
          rw [← encB_append] at hown1
          go_roundw
          case rel => exact ⟨j + 1, by omega, by go_num, Lib.hid (by rw [HST.out]; exact hown1), Lib.hid (below_own (base := w.heap.size) (hbel.out.alloc hsz _) (hown.out.alloc _) hgrow1 (by simp; omega) (Nat.le_refl _))⟩
          case measure => simp [intOf]; omega
        · clear hin
          go_wp2_with (at_builtin; go_must (refine wpList_append_own _ rfl (.tmp 31) (.tmp 36) 47 rfl w.heap.size 4 i0 (.bool false) 1 1 Try.underlying47 hi hz0 hz1 hz2 rfl (by decide) (.slice ao1 j cap1) j (encB (setL bs a k to j)) rfl (hown.out.alloc _) ⟨wr.heap.size, 0, none⟩ 1 1 (encB [m]) rfl rfl (Blk.news (Blk.newAt (w := wr) 4 (encB [m]) (by simp))) (encB_one _) (by unfold maxLen; omega) (by omega) (by simp; omega) ?_; intro v1 w1 hown1 hgrow1 _))
          rw [← encB_append] at hown1
          go_roundw
          case rel => exact ⟨j + 1, by omega, by go_num, Lib.hid (by rw [HST.out]; exact hown1), Lib.hid (below_own (base := w.heap.size) (hbel.out.alloc hsz _) (hown.out.alloc _) hgrow1 (by simp; omega) (Nat.le_refl _))⟩
          case measure => simp [intOf]; omega
    · have hj' : j = n := by omega
      subst hj'
      go_wp2_with fail
      go_ret
      exact ⟨_, rfl, hown.out, hbel.out⟩

/-- what the reference's Find answers: the first, or none -/
def FindIs (bs : List Bool) (m f : Int) (r : Option Nat) : Prop :=
  (¬ (1 ≤ m ∧ 0 ≤ f ∧ f ≤ bs.length) ∧ r = none) ∨
  ((1 ≤ m ∧ 0 ≤ f ∧ f ≤ bs.length) ∧ ∃ q, r = some q ∧ q < bs.length ∧ freeRB bs q m = true ∧ f.toNat ≤ q ∧ ∀ p : Nat, f.toNat ≤ p → p < q → freeRB bs p m = false) ∨
  ((1 ≤ m ∧ 0 ≤ f ∧ f ≤ bs.length) ∧ (∀ p : Nat, f.toNat ≤ p → p < bs.length → freeRB bs p m = false) ∧ ∃ q, r = some q ∧ q < f.toNat ∧ freeRB bs q m = true ∧ ∀ p : Nat, p < q → freeRB bs p m = false) ∨
  ((1 ≤ m ∧ 0 ≤ f ∧ f ≤ bs.length) ∧ (∀ p : Nat, p < bs.length → freeRB bs p m = false) ∧ r = none)

set_option maxHeartbeats 800000 in
theorem find_marks (ao : Option Addr) (n cap : Nat) (bs : List Bool) (m f : Int) (r : Option Nat) (w : World) (h : BSl w ao n cap bs) (hn : n ≤ 65536) (hr : FindIs bs m f r) :
    Calls Try.prog 36 #[.slice ao n cap, .int .i64 m, .int .i64 f] w fun e w' => e = .returned (.int .i64 (optI r)) ∧ w = w' := by
  have hl := h.len
  unfold FindIs at hr
  rw [hl] at hr
  have HF := Lib.hid fun (p : Nat) => free_marks ao n cap bs p m w h hn
  clear h hl
  rcases hr with ⟨hc, rfl⟩ | ⟨⟨h1, h2, h3⟩, q, rfl, hq1, hq2, hq3, hno⟩ | ⟨⟨h1, h2, h3⟩, hno1, q, rfl, hq1, hq2, hno⟩ | ⟨⟨h1, h2, h3⟩, hno, rfl⟩
  · clear HF
    show Calls _ _ _ _ fun e w' => e = .returned (.int .i64 (-1)) ∧ w = w'
    by_cases c1 : m < 1
    · clear hc
      go_enter Try.func36, Try.ntmps36
      go_wp2_with fail
      go_ret
      exact ⟨rfl, rfl⟩
    · by_cases c2 : f < 0
      · clear hc
        go_enter Try.func36, Try.ntmps36
        go_wp2_with fail
        go_ret
        exact ⟨rfl, rfl⟩
      · have c3 : (n : Int) < f := by omega
        clear hc
        go_enter Try.func36, Try.ntmps36
        go_wp2_with fail
        go_ret
        exact ⟨rfl, rfl⟩
  · show Calls _ _ _ _ fun e w' => e = .returned (.int .i64 (q : Nat)) ∧ w = w'
    obtain ⟨f, rfl⟩ := Int.eq_ofNat_of_zero_le h2
    have d1 : decide (m < 1) = false := by simp; omega
    have d2 : decide (n < f) = false := by simp; omega
    simp only [Int.toNat_natCast] at hq3 hno
    have HNO := Lib.hid hno
    have HQ := Lib.hid hq2
    clear hno hq2
    go_enter Try.func36, Try.ntmps36
    go_wp2_with fail
    go_loop [7] (fun i => ∃ j : Nat, f ≤ j ∧ j ≤ q ∧ i = .int .i64 j) (fun i => n - (intOf i).toNat)
    case atStart => exact ⟨f, by omega, by omega, rfl⟩
    case round =>
      obtain ⟨j, hj1, hj2, rfl⟩ := hrel
      have HFJ := Lib.hid (HF.out j)
      have hjn : j < n := by omega
      by_cases hjq : j = q
      · subst hjq
        rw [HQ.out] at HFJ
        go_wp2_with fail
        refine HFJ.out.mono ?_
        rintro e w1 ⟨rfl, rfl⟩
        go_wp2_with fail
        go_ret
        exact ⟨rfl, rfl⟩
      · rw [HNO.out j hj1 (by omega)] at HFJ
        go_wp2_with fail
        refine HFJ.out.mono ?_
        rintro e w1 ⟨rfl, rfl⟩
        go_wp2_with fail
        go_round
        case rel => exact ⟨j + 1, by omega, by omega, by go_num⟩
        case measure => simp [intOf]; omega
  · show Calls _ _ _ _ fun e w' => e = .returned (.int .i64 (q : Nat)) ∧ w = w'
    obtain ⟨f, rfl⟩ := Int.eq_ofNat_of_zero_le h2
    have d1 : decide (m < 1) = false := by simp; omega
    have d2 : decide (n < f) = false := by simp; omega
    simp only [Int.toNat_natCast] at hno1 hq1
    have HNO := Lib.hid hno
    have HNO1 := Lib.hid hno1
    have HQ := Lib.hid hq2
    clear hno hq2 hno1
    go_enter Try.func36, Try.ntmps36
    go_wp2_with fail
    go_loop [7] (fun i => ∃ j : Nat, f ≤ j ∧ j ≤ n ∧ i = .int .i64 j) (fun i => n - (intOf i).toNat)
    case atStart => exact ⟨f, by omega, by omega, rfl⟩
    case round =>
      obtain ⟨j, hj1, hj2, rfl⟩ := hrel
      by_cases hjn : j < n
      · have HFJ := Lib.hid (HF.out j)
        rw [HNO1.out j hj1 (by omega)] at HFJ
        go_wp2_with fail
        refine HFJ.out.mono ?_
        rintro e w1 ⟨rfl, rfl⟩
        go_wp2_with fail
        go_round
        case rel => exact ⟨j + 1, by omega, by omega, by go_num⟩
        case measure => simp [intOf]; omega
      · go_wp2_with fail
        go_loop [8] (fun i => ∃ j : Nat, j ≤ q ∧ i = .int .i64 j) (fun i => f - (intOf i).toNat)
        case atStart => exact ⟨0, by omega, rfl⟩
        case round =>
          obtain ⟨k, hk1, rfl⟩ := hrel
          have HFJ := Lib.hid (HF.out k)
          have hkf : k < f := by omega
          by_cases hjq : k = q
          · subst hjq
            rw [HQ.out] at HFJ
            go_wp2_with fail
            refine HFJ.out.mono ?_
            rintro e w1 ⟨rfl, rfl⟩
            go_wp2_with fail
            go_ret
            exact ⟨rfl, rfl⟩
          · rw [HNO.out k (by omega)] at HFJ
            go_wp2_with fail
            refine HFJ.out.mono ?_
            rintro e w1 ⟨rfl, rfl⟩
            go_wp2_with fail
            go_round
            case rel => exact ⟨k + 1, by omega, by go_num⟩
            case measure => simp [intOf]; omega
  · show Calls _ _ _ _ fun e w' => e = .returned (.int .i64 (-1)) ∧ w = w'
    obtain ⟨f, rfl⟩ := Int.eq_ofNat_of_zero_le h2
    have d1 : decide (m < 1) = false := by simp; omega
    have d2 : decide (n < f) = false := by simp; omega
    have HNO := Lib.hid hno
    clear hno
    go_enter Try.func36, Try.ntmps36
    go_wp2_with fail
    go_loop [7] (fun i => ∃ j : Nat, f ≤ j ∧ j ≤ n ∧ i = .int .i64 j) (fun i => n - (intOf i).toNat)
    case atStart => exact ⟨f, by omega, by omega, rfl⟩
    case round =>
      obtain ⟨j, hj1, hj2, rfl⟩ := hrel
      by_cases hjn : j < n
      · have HFJ := Lib.hid (HF.out j)
        rw [HNO.out j (by omega)] at HFJ
        go_wp2_with fail
        refine HFJ.out.mono ?_
        rintro e w1 ⟨rfl, rfl⟩
        go_wp2_with fail
        go_round
        case rel => exact ⟨j + 1, by omega, by omega, by go_num⟩
        case measure => simp [intOf]; omega
      · go_wp2_with fail
        go_loop [8] (fun i => ∃ j : Nat, j ≤ f ∧ i = .int .i64 j) (fun i => f - (intOf i).toNat)
        case atStart => exact ⟨0, by omega, rfl⟩
        case round =>
          obtain ⟨k, hk1, rfl⟩ := hrel
          by_cases hkf : k < f
          · have HFJ := Lib.hid (HF.out k)
            rw [HNO.out k (by omega)] at HFJ
            go_wp2_with fail
            refine HFJ.out.mono ?_
            rintro e w1 ⟨rfl, rfl⟩
            go_wp2_with fail
            go_round
            case rel => exact ⟨k + 1, by omega, by go_num⟩
            case measure => simp [intOf]; omega
          · go_wp2_with fail
            go_ret
            exact ⟨rfl, rfl⟩
end Go.Proofs.Ytmnhdpojonlfhaa
