/- The walks of space's small methods: New, Size, Runs, Left, Copy. -/
import Derived.Test.YtmnhdpojonlfhaaSpT
import Derived.Deep.DrawnRows
namespace Go.Proofs.Ytmnhdpojonlfhaa
open Go.RowKit
attribute [local go_sem ↓] Go.wp_at_zero Go.wp_at_succ

theorem new_no (n : Int) (w : World) (h : n < 1 ∨ 65536 < n) :
    Calls Try.prog 28 #[.int .i64 n] w fun e w' => e = .returned (.tuple #[.pointer none, .int .i64 1]) ∧ w = w' := by
  rcases h with h | h
  · go_enter Try.func28, Try.ntmps28
    go_wp2
    go_ret2
    exact ⟨rfl, rfl⟩
  · have h' : ¬ n < 1 := by omega
    go_enter Try.func28, Try.ntmps28
    go_wp2
    go_ret2
    exact ⟨rfl, rfl⟩
theorem new_yes (n : Nat) (w : World) (h : 1 ≤ n) (h2 : n ≤ 65536) :
    Calls Try.prog 28 #[.int .i64 n] w fun e w' => e = .returned (.tuple #[.pointer (some ⟨w.heap.size, 0, none⟩), .int .i64 0]) ∧ IsMap w' w.heap.size n [] ∧ Below w.heap.size w w' := by
  go_enter Try.func28, Try.ntmps28
  go_wp2
  go_ret2
  exact ⟨rfl, ⟨h2, h, ⟨by simp, List.Pairwise.nil⟩, by simp, .slice none 0 0, Blk.new w 120 [.int .i64 n, .slice none 0 0], World.ownsRow_nil _ _ _ _⟩, (Below.refl _ _).alloc (Nat.le_refl _) _⟩

theorem size_any (mb size : Nat) (rs : List (Nat × Nat)) (w : World) (h : IsMap w mb size rs) :
    Calls Try.prog 39 #[.pointer (some ⟨mb, 0, none⟩)] w fun e w' => e = .returned (.int .i64 size) ∧ w = w' := by
  obtain ⟨_, _, _, _, v, hb, _⟩ := h
  have hc : w.cell? ⟨mb, 0, none⟩ = some (.int .i64 size) := hb.cell 0
  clear hb
  go_enter Try.func39, Try.ntmps39
  go_wp2
  go_ret
  exact ⟨rfl, rfl⟩
theorem size_nil (w : World) :
    Calls Try.prog 39 #[.pointer none] w fun e w' => e = .returned (.int .i64 0) ∧ w = w' := by
  go_enter Try.func39, Try.ntmps39
  go_wp2
  go_ret
  exact ⟨rfl, rfl⟩

theorem runs_any (mb size : Nat) (rs : List (Nat × Nat)) (w : World) (h : IsMap w mb size rs) :
    Calls Try.prog 30 #[.pointer (some ⟨mb, 0, none⟩)] w fun e w' => ∃ v, e = .returned v ∧ w'.ownsRow w.heap.size 44 2 v rs.length (encR rs) ∧ Below w.heap.size w w' := by
  obtain ⟨_, _, _, hl, v, hb, ho⟩ := h
  obtain ⟨ao, cap, rfl, hr⟩ := RSl.of_owns ho
  have hc : w.cell? ⟨mb, 1, none⟩ = some (.slice ao rs.length cap) := hb.cell 1
  have H := Lib.hid (cloneR_any ao rs.length cap (encR rs) w hr (encR_one _) (by omega))
  clear hb ho hr
  go_enter Try.func30, Try.ntmps30
  go_wp2_with fail
  refine H.out.mono ?_
  rintro e w1 ⟨v1, rfl, hown, hb1⟩
  go_wp2_with fail
  go_ret
  exact ⟨_, rfl, hown, hb1⟩
theorem runs_nil (w : World) :
    Calls Try.prog 30 #[.pointer none] w fun e w' => e = .returned (.slice none 0 0) ∧ w = w' := by
  go_enter Try.func30, Try.ntmps30
  go_wp2
  go_ret
  exact ⟨rfl, rfl⟩

theorem copy_any (mb size : Nat) (rs : List (Nat × Nat)) (w : World) (h : IsMap w mb size rs) :
    Calls Try.prog 40 #[.pointer (some ⟨mb, 0, none⟩)] w fun e w' => ∃ cb, e = .returned (.pointer (some ⟨cb, 0, none⟩)) ∧ w.heap.size ≤ cb ∧ IsMap w' cb size rs ∧ Below w.heap.size w w' := by
  obtain ⟨h1, h2, h3, hl, v, hb, ho⟩ := h
  obtain ⟨ao, cap, rfl, hr⟩ := RSl.of_owns ho
  have hc0 : w.cell? ⟨mb, 0, none⟩ = some (.int .i64 size) := hb.cell 0
  have hc : w.cell? ⟨mb, 1, none⟩ = some (.slice ao rs.length cap) := hb.cell 1
  have H := Lib.hid (cloneR_any ao rs.length cap (encR rs) w.drew (hr.below (Below.refl _ _).drew) (encR_one _) (by omega))
  have hlt := hb.lt
  have H3 := Lib.hid h3
  clear hb ho hr h3
  go_enter Try.func40, Try.ntmps40
  go_wp2_with fail
  go_region_held3 (fun w' => w'.cell? ⟨mb, 0, none⟩ = some (.int .i64 size) ∧ w'.cell? ⟨mb, 1, none⟩ = some (.slice ao rs.length cap)) (go_keep)
    (first
      | (go_at_call 75; refine H.out.mono ?_; rintro e w1 ⟨v1, rfl, hown, hb1⟩; obtain ⟨ao1, cap1, rfl, _⟩ := RSl.of_owns hown; have hd0 := (hb1.cell (p := ⟨mb, 0, none⟩) hlt).trans hc0; have hd1 := (hb1.cell (p := ⟨mb, 1, none⟩) hlt).trans hc))
  go_wp2_with fail
  go_ret
  exact ⟨_, rfl, hb1.size, ⟨h1, h2, H3.out, hl, _, Blk.new w1 120 [.int .i64 size, .slice ao1 rs.length cap1], owns_weaken (hown.alloc _) (Nat.zero_le _)⟩, ((Below.refl _ _).drew.trans hb1).alloc hb1.size _⟩
theorem copy_nil (w : World) :
    Calls Try.prog 40 #[.pointer none] w fun e w' => e = .returned (.pointer none) ∧ w = w' := by
  go_enter Try.func40, Try.ntmps40
  go_wp2
  go_ret
  exact ⟨rfl, rfl⟩

theorem left_any (mb size : Nat) (rs : List (Nat × Nat)) (w : World) (h : IsMap w mb size rs) :
    Calls Try.prog 31 #[.pointer (some ⟨mb, 0, none⟩)] w fun e w' => e = .returned (.int .i64 ((size : Int) - (sumR rs : Int))) ∧ Below w.heap.size w w' := by
  have hs := good_sum h.2.2.1
  have h65 := h.1
  have HS := Lib.hid (size_any mb size rs w h)
  have HR := Lib.hid (runs_any mb size rs w h)
  have hl := h.2.2.2.1
  clear h
  go_enter Try.func31, Try.ntmps31
  go_wp2_with fail
  refine HS.out.mono ?_
  rintro e w1 ⟨rfl, rfl⟩
  go_wp2_with fail
  refine HR.out.mono ?_
  rintro e w1 ⟨v1, rfl, hown, hb1⟩
  obtain ⟨ao1, cap1, rfl, hr1⟩ := RSl.of_owns hown
  have HR1 := Lib.hid hr1
  clear hown hr1
  go_wp2_with fail
  go_loopw [3, 11] (fun t i wr => ∃ k : Nat, k ≤ rs.length ∧ i = .int .i64 k ∧ t = .int .i64 ((size : Int) - (sumR (rs.take k) : Int)) ∧ Below w1.heap.size w1 wr ∧ Below w.heap.size w wr) (fun _ i _ => rs.length - (intOf i).toNat)
  case atStart => exact ⟨0, by omega, rfl, by simp [sumR], Below.refl _ _, hb1⟩
  case round =>
    obtain ⟨k, hk, rfl, rfl, hbel, hbel2⟩ := hrel
    by_cases hkn : k < rs.length
    · obtain ⟨b, off, rfl, hb, hc⟩ := HR1.out.2.2.2.2 (by omega)
      obtain ⟨x, hx⟩ : ∃ x, x = (rs.getD k (0, 0)).1 := ⟨_, rfl⟩
      obtain ⟨y, hy⟩ : ∃ y, y = (rs.getD k (0, 0)).2 := ⟨_, rfl⟩
      have c0 : wr.cell? ⟨b, off + k * 2, none⟩ = some (.int .i64 x) := by rw [hbel.cell (p := ⟨b, _, none⟩) hb, hc _ (by omega), (encR_get rs k hkn).1, ← hx]
      have c1 : wr.cell? ⟨b, off + k * 2 + 1, none⟩ = some (.int .i64 y) := by rw [Nat.add_assoc, hbel.cell (p := ⟨b, _, none⟩) hb, hc _ (by omega), (encR_get rs k hkn).2, ← hy]
      have hst := sumR_step rs k hkn
      rw [← hy] at hst
      have hle := sumR_take_le rs (k + 1)
      have hbd : sumR (rs.take k) + y ≤ size := by omega
      have HST := Lib.hid hst
      clear hst hc hx hy hle
      go_wp2_with fail
      go_roundw
      case rel => exact ⟨k + 1, by omega, by go_num, by rw [HST.out]; go_num, hbel.alloc hbel.size _, hbel2.alloc hbel2.size _⟩
      case measure => simp [intOf]; omega
    · have hkn' : k = rs.length := by omega
      subst hkn'
      rw [List.take_length]
      go_wp2_with fail
      go_ret
      exact ⟨rfl, hbel2⟩
theorem left_nil (w : World) :
    Calls Try.prog 31 #[.pointer none] w fun e w' => e = .returned (.int .i64 0) ∧ w = w' := by
  go_enter Try.func31, Try.ntmps31
  go_wp2_with fail
  refine (size_nil w).mono ?_
  rintro e w1 ⟨rfl, rfl⟩
  go_wp2_with fail
  refine (runs_nil w).mono ?_
  rintro e w1 ⟨rfl, rfl⟩
  go_wp2_with fail
  refine wp_loop_rounds 1 ?_
  rw [rounds_succ]
  go_wp2_with fail
  go_ret
  exact ⟨rfl, rfl⟩
end Go.Proofs.Ytmnhdpojonlfhaa
