/- The walk of space.joined. -/
import Derived.Test.YtmnhdpojonlfhaaSpW
import Derived.Test.YtmnhdpojonlfhaaSpM
import Derived.Deep.QuietTactic
import Derived.BigQuiet
namespace Go.Proofs.Ytmnhdpojonlfhaa
open Go.RowKit

theorem infoR : (Try.prog.info? 44).map (fun i => (i.zero, i.size, i.bytes)) = some (some (.agg #[.int .i64 0, .int .i64 0]), 2, 16) := by kernel_rfl

set_option maxHeartbeats 1600000 in
set_option maxRecDepth 100000 in
theorem joined_any (top : Nat) (ao : Option Addr) (n cap : Nat) (rs : List (Nat × Nat)) (w : World) (hsl : RSl w 2 ao n cap (encR rs)) (hm : n ≤ 1000000) (ht : top ≤ 1000000) (hrow : Row top rs) :
    Calls Try.prog 73 #[.slice ao n cap] w fun e w' => ∃ v, e = .returned v ∧ w'.ownsRow w.heap.size 44 2 v (joinL rs).length (encR (joinL rs)) ∧ Below w.heap.size w w' := by
  obtain ⟨i0, hi, hz0, hz1, hz2⟩ := info_parts infoR
  have hlen : rs.length = n := by have := hsl.1; rw [encR_length] at this; omega
  have HL := Lib.hid hlen
  have HSL := Lib.hid hsl
  have HR := Lib.hid hrow
  clear hlen hsl hrow
  go_enter Try.func73, Try.ntmps73
  go_wp2_with fail
  go_loopw [3, 9] (fun v i wr => ∃ k : Nat, k ≤ n ∧ i = .int .i64 k ∧ wr.ownsRow w.heap.size 44 2 v (joinL (rs.take k)).length (encR (joinL (rs.take k))) ∧ Below w.heap.size w wr) (fun _ i _ => n - (intOf i).toNat)
  case atStart => exact ⟨0, by omega, rfl, World.ownsRow_nil _ _ _ _, Below.refl _ _⟩
  case round =>
    obtain ⟨k, hk, rfl, hown, hbel⟩ := hrel
    by_cases hkn : k < n
    · obtain ⟨b, off, rfl, hb, hc⟩ := HSL.out.2.2.2.2 (by omega)
      obtain ⟨hg, hgb⟩ := joinL_good HR.out k (by rw [HL.out]; omega)
      obtain ⟨r, hr⟩ : ∃ r, r = rs.getD k (0, 0) := ⟨_, rfl⟩
      have hrm : 1 ≤ r.2 ∧ r.1 + r.2 ≤ top := by
        rw [hr, List.getD_eq_getElem?_getD, List.getElem?_eq_getElem (by rw [HL.out]; exact hkn)]
        exact HR.out.1 _ (List.getElem_mem _)
      obtain ⟨x, y⟩ := r
      dsimp only at hrm
      have c0 : wr.cell? ⟨b, off + k * 2, none⟩ = some (.int .i64 x) := by
        rw [hbel.cell (p := ⟨b, _, none⟩) hb, hc _ (by omega), (encR_get rs k (by rw [HL.out]; exact hkn)).1, ← hr]
      have c1 : wr.cell? ⟨b, off + k * 2 + 1, none⟩ = some (.int .i64 y) := by
        rw [Nat.add_assoc, hbel.cell (p := ⟨b, _, none⟩) hb, hc _ (by omega), (encR_get rs k (by rw [HL.out]; exact hkn)).2, ← hr]
      have hst := joinL_step rs k (by rw [HL.out]; exact hkn)
      rw [← hr] at hst
      have HST := Lib.hid hst
      have HG := Lib.hid hg
      have HRR := Lib.hid hr
      have HGB := Lib.hid hgb
      clear hc hst hg hr hgb
      rcases List.eq_nil_or_concat (joinL (rs.take k)) with hJ | ⟨o, q, hJ⟩
      · rw [hJ] at hown HST
        rw [joinStep_nil] at HST
        obtain ⟨ao1, cap1, rfl, _⟩ := RSl.of_owns hown
        simp only [List.length_nil] at hown
        have HO := Lib.hid hown
        clear hown
        have hy : 0 < y := by omega
        have hd : decide ((0 : Int) ≤ (0 : Int) - 1) = false := by decide
        go_wp2_with fail
        go_quiet (fail)
        go_wp2_with (at_builtin; go_must (refine wpList_append_own _ rfl (.tmp 47) (.tmp 49) 41 rfl w.heap.size 44 i0 (.agg #[.int .i64 0, .int .i64 0]) 2 16 Try.underlying41 hi hz0 hz1 hz2 rfl (by decide) (.slice ao1 0 cap1) 0 [] rfl ((owns_drewN (HO.out.alloc _)).alloc _) ⟨wr.heap.size + 1, 0, none⟩ 1 1 (encR [(x, y)]) rfl rfl (Blk.news (Blk.newAt (w := (wr.alloc _).drewN nq) 44 (encR [(x, y)]) (by simp))) (encR_one _) (by unfold maxLen; omega) (by omega) (by have := hbel.size; simp; omega) ?_; intro v1 w1 hown1 hgrow1 _))
        simp only [Nat.zero_add, List.nil_append] at hown1
        go_roundw
        case rel =>
          refine ⟨k + 1, by omega, by go_num, by rw [HST.out]; exact hown1, ?_⟩
          exact below_own (base := w.heap.size) ((below_drewN' (hbel.alloc hbel.size _) nq).alloc (by have := hbel.size; simp; omega) _) ((owns_drewN (HO.out.alloc _)).alloc _) hgrow1 (by have := hbel.size; simp; omega) (Nat.le_refl _)
        case measure => simp [intOf]; omega
      · rw [List.concat_eq_append] at hJ
        rw [hJ] at hown HST HG
        obtain ⟨q1, q2⟩ := q
        have hqm := HG.out.1 (q1, q2) (by simp)
        dsimp only at hqm
        obtain ⟨m, hm⟩ : ∃ m, m = o.length := ⟨_, rfl⟩
        have hln : (o ++ [(q1, q2)]).length = m + 1 := by simp [hm]
        rw [hln] at hown
        obtain ⟨g, cap1, rfl, hg⟩ := owns_headv hown (by omega)
        have hm1 : m + 1 ≤ k := by have := joinL_len rs k (by rw [HL.out]; omega); rw [hJ, hln] at this; exact this
        have hgl := (hown.lt g rfl).2
        have d0 : wr.cell? ⟨g, m * 2, none⟩ = some (.int .i64 q1) := by rw [hown.cellAt _ (by omega), (encR_get _ m (by omega)).1, hm]; simp
        have d1 : wr.cell? ⟨g, m * 2 + 1, none⟩ = some (.int .i64 q2) := by rw [hown.cellAt _ (by omega), (encR_get _ m (by omega)).2, hm]; simp
        have f1 := hown.frozenAt (m * 2 + 1)
        have HO := Lib.hid hown
        have HM := Lib.hid hm
        clear hown hm
        have hy : 0 < y := by omega
        by_cases htq : q1 + q2 = x
        · rw [joinStep_touch _ _ _ (by exact htq)] at HST
          have HT := Lib.hid htq
          have hd0 : decide ((0 : Int) ≤ (m : Int)) = true := by simp
          have hd1 : ((q1 : Int) + (q2 : Int) == (x : Int)) = true := by simp; omega
          clear htq
          go_wp2_with fail
          go_quiet (fail)
          go_wp2_with fail
          go_region
          go_wp2_with fail
          go_roundw
          case rel =>
            have h1 := ((owns_drewN (k := nq) (HO.out.alloc (.cells #[.int .i64 x, .int .i64 y] 44))).stored (m * 2 + 1) (.int .i64 ((q2 : Int) + (y : Int)))).1
            have h2 := encR_set2 o q1 q2 (q2 + y)
            rw [← HM.out] at h2
            push_cast at h2
            rw [h2] at h1
            refine ⟨k + 1, by omega, by go_num, ?_, ?_⟩
            · rw [HST.out, show (o ++ [(q1, q2 + y)]).length = m + 1 by simp [HM.out]]
              exact h1
            · exact ((below_drewN' (hbel.alloc hbel.size _) nq).setCell (p := ⟨g, m * 2 + 1, none⟩) hg _).drew
          case measure => simp [intOf]; omega
        · rw [joinStep_apart _ _ _ (by exact htq)] at HST
          have hd0 : decide ((0 : Int) ≤ (m : Int)) = true := by simp
          have hd1 : ((q1 : Int) + (q2 : Int) == (x : Int)) = false := by simp; omega
          clear htq
          go_wp2_with fail
          go_quiet (fail)
          go_wp2_with (at_builtin; go_must (refine wpList_append_own _ rfl (.tmp 47) (.tmp 49) 41 rfl w.heap.size 44 i0 (.agg #[.int .i64 0, .int .i64 0]) 2 16 Try.underlying41 hi hz0 hz1 hz2 rfl (by decide) (.slice (some ⟨g, 0, none⟩) (m + 1) cap1) (m + 1) (encR (o ++ [(q1, q2)])) rfl ((owns_drewN (HO.out.alloc _)).alloc _) ⟨wr.heap.size + 1, 0, none⟩ 1 1 (encR [(x, y)]) rfl rfl (Blk.news (Blk.newAt (w := (wr.alloc _).drewN nq) 44 (encR [(x, y)]) (by simp))) (encR_one _) (by unfold maxLen; omega) (by omega) (by have := hbel.size; simp; omega) ?_; intro v1 w1 hown1 hgrow1 _))
          rw [← encR_append] at hown1
          go_roundw
          case rel =>
            refine ⟨k + 1, by omega, by go_num, by rw [HST.out, show (o ++ [(q1, q2)] ++ [(x, y)]).length = m + 1 + 1 by simp [HM.out]]; exact hown1, ?_⟩
            exact below_own (base := w.heap.size) ((below_drewN' (hbel.alloc hbel.size _) nq).alloc (by have := hbel.size; simp; omega) _) ((owns_drewN (HO.out.alloc _)).alloc _) hgrow1 (by have := hbel.size; simp; omega) (Nat.le_refl _)
          case measure => simp [intOf]; omega
    · have hkn' : k = n := by omega
      subst hkn'
      rw [List.take_of_length_le (by rw [HL.out]; omega)] at hown
      go_wp2_with fail
      go_ret
      exact ⟨_, rfl, hown, hbel⟩
end Go.Proofs.Ytmnhdpojonlfhaa
