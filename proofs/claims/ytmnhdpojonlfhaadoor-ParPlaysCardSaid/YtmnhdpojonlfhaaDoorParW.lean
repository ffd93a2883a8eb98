/- The walks of package par: what its functions answer, whatever the columns. -/
import Derived.Test.YtmnhdpojonlfhaaDoorProg
import Derived.Test.YtmnhdpojonlfhaaDoorCore
import Derived.Test.YtmnhdpojonlfhaaDoorParM
namespace Go.Proofs.YtmnhdpojonlfhaaDoor
open Go.RowKit
theorem u8info : (Tryd.prog.info? 5).map (fun i => (i.zero, i.size, i.bytes)) = some (some (.int .u8 0), 1, 1) := by kernel_rfl

set_option maxHeartbeats 400000 in
theorem one_any (ao : Option Addr) (len cap n : Nat) (ss : List ByteArray) (w : World) (hsl : SSl w ao len cap ss) (hm : len ≤ 1000000000) (h0 : 0 < len) (hn : n ≤ 1000000)
    (hs : ∀ s ∈ ss, s.size = n) :
    Calls Tryd.prog 19 #[.slice ao len cap] w fun e w' =>
      e = .returned (.string ⟨(xorL n ss).toArray⟩) ∧ Below w.heap.size w w' := by
  have hl := hsl.len
  obtain ⟨b, off, rfl, hb, hc⟩ := hsl.pos h0
  obtain ⟨s0, e0⟩ : ∃ s, s = ss[0] := ⟨_, rfl⟩
  have hc0 : w.cell? ⟨b, off, none⟩ = some (.string s0) := by have := hc 0 h0; rw [e0]; simpa [List.getD, hl, h0] using this
  have hs0 : s0.size = n := by rw [e0]; exact hs _ (List.getElem_mem _)
  obtain ⟨i0, hi, hz0, hz1, hz2⟩ := info_parts u8info
  subst hs0
  have HL : Hid (ss.length = len) := hl
  have HS : Hid (∀ s ∈ ss, s.size = s0.size) := hs
  have HC : Hid (∀ j, j < len → w.cell? ⟨b, off + j, none⟩ = some (.string (ss.getD j ByteArray.empty))) := hc
  clear e0 hs hl hc
  go_enter Tryd.func19, Tryd.ntmps19
  go_wp2_with (first
    | (at_make; refine wpList_make_full w rfl (.tmp 10) (.tmp 10) 40 rfl w.heap.size 5 i0 (.int .u8 0) 1 Tryd.underlying40 hi hz0 hz1 .i64 .i64 s0.size s0.size s0.size rfl rfl rfl rfl (by rw [hz2]; omega) (by unfold maxLen; omega) (Nat.le_refl _) ?_; intro w1 hown1 hgrow1))
  rw [enc8_zero] at hown1
  have hb1 : Below w.heap.size w w1 := (Below.refl _ _).grown hgrow1 (Nat.le_refl _) (by simp)
  clear hgrow1 hc0
  go_loopw [14] (fun i wr => ∃ k : Nat, k ≤ len ∧ i = .int .i64 k ∧ wr.ownsRow w.heap.size 5 1 (.slice (some ⟨w.heap.size, 0, none⟩) s0.size s0.size) s0.size (enc8 (xorL s0.size (ss.take k))) ∧ Below w.heap.size w wr) (fun i _ => len - (intOf i).toNat)
  case atStart => exact ⟨0, by omega, rfl, hown1, hb1⟩
  case round =>
    obtain ⟨k, hk, rfl, hown, hbel⟩ := hrel
    clear hown1 hb1
    obtain ⟨wo, rfl⟩ : ∃ wo : World, wo = wr := ⟨_, rfl⟩
    by_cases hkl : k < len
    · obtain ⟨s, es⟩ : ∃ s, s = ss.getD k ByteArray.empty := ⟨_, rfl⟩
      have hcx : wo.cell? ⟨b, off + k, none⟩ = some (.string s) := by rw [es]; exact (hbel.cell (by exact hb)).trans (HC.out k hkl)
      have hsz : s.size = s0.size := HS.out s (by rw [es, List.getD_eq_getElem?_getD, List.getElem?_eq_getElem (by rw [HL.out]; exact hkl)]; exact List.getElem_mem _)
      have ES : Hid (s = ss.getD k ByteArray.empty) := es
      have HZ : Hid (s.size = s0.size) := hsz
      clear es hsz
      go_wp2
      go_loopw [20] (fun i wr => ∃ j : Nat, j ≤ s0.size ∧ i = .int .i64 j ∧ wr.ownsRow w.heap.size 5 1 (.slice (some ⟨w.heap.size, 0, none⟩) s0.size s0.size) s0.size (enc8 (mix (xorL s0.size (ss.take k)) s.data.toList j)) ∧ Below w.heap.size w wr) (fun i _ => s0.size - (intOf i).toNat)
      case atStart => exact ⟨0, by omega, rfl, by rw [mix_zero]; exact hown, hbel⟩
      case round =>
        obtain ⟨j, hj, rfl, hown2, hbel2⟩ := hrel
        clear hown hbel hcx
        by_cases hjl : j < s0.size
        · obtain ⟨acc, ea⟩ : ∃ acc, acc = mix (xorL s0.size (ss.take k)) s.data.toList j := ⟨_, rfl⟩
          rw [← ea] at hown2
          have hal : acc.length = s0.size := by rw [ea, mix_length, xorL_length]
          obtain ⟨x, ex⟩ : ∃ x, acc[j]? = some x := ⟨_, List.getElem?_eq_getElem (by rw [hal]; exact hjl)⟩
          have hcell : wr.cell? ⟨w.heap.size, j, none⟩ = some (.int .u8 x.toNat) := by rw [hown2.cellAt j (by omega), enc8, List.getElem?_map, ex]; rfl
          have hfr := hown2.frozenAt j
          have hjs : j < s.size := by have := HZ.out; omega
          have hst := fun u => hown2.stored j u
          have EA := Lib.hid ea
          have EX := Lib.hid ex
          clear ea ex
          go_wp2
          go_region
          go_wp2
          go_roundw
          case rel =>
            refine ⟨j + 1, by omega, by go_num, ?_, ?_⟩
            · have h1 := (hst (.int .u8 (x ^^^ s[j]).toNat)).1
              rw [enc8_set, ← getD_data s j hjs, ← mix_step _ _ _ _ _ EA.out (by rw [xorL_length]; exact hjl) EX.out, getD_data s j hjs] at h1
              rw [xor_u8]
              exact h1
            · exact (hbel2.setCell (p := ⟨w.heap.size, j, none⟩) (Nat.le_refl _) _).drew
          case measure => simp [intOf]; omega
        · have hjn : j = s0.size := by omega
          subst hjn
          go_wp2
          go_roundw
          case rel => exact ⟨k + 1, by omega, by go_num, by rw [xorL_step _ _ _ (by rw [HL.out]; exact hkl), ← ES.out]; exact hown2, hbel2⟩
          case measure => simp [intOf]; omega
    · have hkn : k = len := by omega
      subst hkn
      have hss : ss.take k = ss := List.take_of_length_le (by rw [HL.out]; exact Nat.le_refl _)
      rw [hss] at hown
      clear hss
      have hcv := run_string_of_own (P := Tryd.prog) hown 40 5 9 Tryd.underlying40 Tryd.underlying5 Tryd.underlying9
      go_wp2
      go_ret
      exact ⟨rfl, hbel⟩
end Go.Proofs.YtmnhdpojonlfhaaDoor
