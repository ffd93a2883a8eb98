/- The walk of polderref11's Runs. -/
import Derived.Test.YtmnhdpojonlfhaaSpRg
import Derived.Deep.DeepCutAuto
namespace Go.Proofs.Ytmnhdpojonlfhaa
open Go.RowKit

theorem encR_len1 (o : List (Nat × Nat)) (x y : Nat) : (o ++ [(x, y)]).length = o.length + 1 := by simp
set_option maxHeartbeats 1600000 in
set_option maxRecDepth 100000 in
theorem runs_marks (ao : Option Addr) (n cap : Nat) (bs : List Bool) (w : World) (h : BSl w ao n cap bs) (hn : n ≤ 65536) :
    Calls Try.prog 38 #[.slice ao n cap] w fun e w' => ∃ v, e = .returned v ∧ w'.ownsRow w.heap.size 55 2 v (runsTo bs n).length (encR (runsTo bs n)) ∧ Below w.heap.size w w' := by
  obtain ⟨i0, hi, hz0, hz1, hz2⟩ := info_parts infoT
  have H := Lib.hid h
  clear h
  go_enter Try.func38, Try.ntmps38
  go_wp2_with fail
  go_loopw [3, 4] (fun v i wr => ∃ j : Nat, j ≤ n ∧ i = .int .i64 j ∧ Hid (wr.ownsRow w.heap.size 55 2 v (runsTo bs j).length (encR (runsTo bs j))) ∧ Hid (Below w.heap.size w wr)) (fun _ i _ => n - (intOf i).toNat)
  case atStart => exact ⟨0, by omega, rfl, Lib.hid (World.ownsRow_nil _ _ _ _), Lib.hid (Below.refl _ _)⟩
  case round =>
    obtain ⟨j, hj, rfl, hown, hbel⟩ := hrel
    obtain ⟨ao1, cap1, rfl, _⟩ := RSl.of_owns hown.out
    have hsz := hbel.out.size
    have hok := runs_ok bs j
    have hjl := good_len hok.good
    by_cases hjn : j < n
    · obtain ⟨b, off, rfl, hb, hc⟩ := H.out.at_ (by omega)
      have hcj : wr.cell? ⟨b, off + j, none⟩ = some (.bool (mk bs j)) := (hbel.out.cell (p := ⟨b, off + j, none⟩) hb).trans (hc j hjn)
      have hcp : 0 < j → wr.cell? ⟨b, off + (j - 1), none⟩ = some (.bool (mk bs (j - 1))) := fun _ => (hbel.out.cell (p := ⟨b, off + (j - 1), none⟩) hb).trans (hc (j - 1) (by omega))
      clear hc
      cases hm : mk bs j with
      | false =>
        have e : runsTo bs (j + 1) = runsTo bs j := by rw [runsTo, hm]; rfl
        have HE := Lib.hid e
        rw [hm] at hcj
        clear hm e hcp hok
        go_wp2_with fail
        go_roundw
        case rel => exact ⟨j + 1, by omega, by go_num, by rw [HE.out]; exact hown, hbel⟩
        case measure => simp [intOf]; omega
      | true =>
        rw [hm] at hcj
        have HM := Lib.hid hm
        have HK := Lib.hid hok
        clear hm hok
        by_cases hc0 : j = 0
        · have hz : ((j : Int) == 0) = true := by simp [hc0]
          have e : runsTo bs (j + 1) = runsTo bs j ++ [(j, 1)] := by rw [runsTo, HM.out, if_pos rfl, if_pos (.inl hc0)]
          have HE := Lib.hid e
          have hj6 : (runsTo bs j).length ≤ 65536 := by omega
          clear e hcp hc0
          go_wp2_with (at_builtin; go_must (refine wpList_append_own _ rfl (.tmp 26) (.tmp 29) 53 rfl w.heap.size 55 i0 (.agg #[.int .i64 0, .int .i64 0]) 2 16 Try.underlying53 hi hz0 hz1 hz2 rfl (by decide) (.slice ao1 (runsTo bs j).length cap1) (runsTo bs j).length (encR (runsTo bs j)) rfl (hown.out.alloc _) ⟨wr.heap.size, 0, none⟩ 1 1 (encR [(j, 0)]) rfl rfl (Blk.news (Blk.newAt (w := wr) 55 (encR [(j, 0)]) (by simp))) (encR_one _) (by unfold maxLen; omega) (by omega) (by simp; omega) ?_; intro v1 w1 hown1 hgrow1 _))
          rw [← encR_append] at hown1
          obtain ⟨o, ho⟩ : ∃ o, o = runsTo bs j := ⟨_, rfl⟩
          obtain ⟨x, hx⟩ : ∃ x, x = j := ⟨_, rfl⟩
          obtain ⟨y, hy⟩ : ∃ y, y = 0 := ⟨_, rfl⟩
          have BB := Lib.hid (below_own (base := w.heap.size) (hbel.out.alloc hsz _) (hown.out.alloc _) hgrow1 (by simp; omega) (Nat.le_refl _))
          have O1 : w1.ownsRow w.heap.size 55 2 v1 (o ++ [(x, y)]).length (encR (o ++ [(x, y)])) := by rw [encR_len1, ho, hx, hy]; exact hown1
          rw [← ho] at HE
          replace HE : Hid (runsTo bs (j + 1) = o ++ [(x, y + 1)]) := Lib.hid (by rw [HE.out, hx, hy])
          have hyj : y ≤ 65536 := by omega
          clear hown1 hgrow1 ho hx hy
          obtain ⟨m, hmm⟩ : ∃ m, m = o.length := ⟨_, rfl⟩
          have hln : (o ++ [(x, y)]).length = m + 1 := by simp [hmm]
          rw [hln] at O1
          obtain ⟨g, cap2, rfl, hg⟩ := owns_headv O1 (by omega)
          have hgl := (O1.lt g rfl).2
          have d1 : w1.cell? ⟨g, m * 2 + 1, none⟩ = some (.int .i64 y) := by rw [O1.cellAt _ (by omega), (encR_get _ m (by omega)).2, hmm]; simp
          have f1 := O1.frozenAt (m * 2 + 1)
          have OO := Lib.hid O1
          have MM := Lib.hid hmm
          have hmj : m ≤ 65536 := by have h1 := good_len (runs_ok bs (j + 1)).good; rw [HE.out] at h1; simp at h1; omega
          clear O1 hmm hln
          go_wp2_with fail
          go_region
          go_wp2_with fail
          go_roundw
          case rel =>
            have h1 := (OO.out.stored (m * 2 + 1) (.int .i64 ((y : Int) + 1))).1
            have h2 := encR_set2 o x y (y + 1)
            rw [← MM.out] at h2
            push_cast at h2
            rw [h2] at h1
            refine ⟨j + 1, by omega, by go_num, Lib.hid ?_, Lib.hid ?_⟩
            · rw [HE.out, show (o ++ [(x, y + 1)]).length = m + 1 by simp [MM.out]]
              exact h1
            · exact (BB.out.setCell (p := ⟨g, m * 2 + 1, none⟩) hg _).drew
          case measure => simp [intOf]; omega
        · have hz : ((j : Int) == 0) = false := by simp [hc0]
          have hcq := hcp (by omega)
          have hsub : (j : Int) - 1 = ((j - 1 : Nat) : Int) := by omega
          cases hp : mk bs (j - 1) with
          | false =>
            rw [hp] at hcq
            have e : runsTo bs (j + 1) = runsTo bs j ++ [(j, 1)] := by rw [runsTo, HM.out, if_pos rfl, if_pos (.inr hp)]
            have HP := Lib.hid hp
            clear hp
            have HE := Lib.hid e
            have hj6 : (runsTo bs j).length ≤ 65536 := by omega
            clear e hcp
            go_wp2_with (at_builtin; go_must (refine wpList_append_own _ rfl (.tmp 26) (.tmp 29) 53 rfl w.heap.size 55 i0 (.agg #[.int .i64 0, .int .i64 0]) 2 16 Try.underlying53 hi hz0 hz1 hz2 rfl (by decide) (.slice ao1 (runsTo bs j).length cap1) (runsTo bs j).length (encR (runsTo bs j)) rfl (hown.out.alloc _) ⟨wr.heap.size, 0, none⟩ 1 1 (encR [(j, 0)]) rfl rfl (Blk.news (Blk.newAt (w := wr) 55 (encR [(j, 0)]) (by simp))) (encR_one _) (by unfold maxLen; omega) (by omega) (by simp; omega) ?_; intro v1 w1 hown1 hgrow1 _))
            rw [← encR_append] at hown1
            obtain ⟨o, ho⟩ : ∃ o, o = runsTo bs j := ⟨_, rfl⟩
            obtain ⟨x, hx⟩ : ∃ x, x = j := ⟨_, rfl⟩
            obtain ⟨y, hy⟩ : ∃ y, y = 0 := ⟨_, rfl⟩
            have BB := Lib.hid (below_own (base := w.heap.size) (hbel.out.alloc hsz _) (hown.out.alloc _) hgrow1 (by simp; omega) (Nat.le_refl _))
            have O1 : w1.ownsRow w.heap.size 55 2 v1 (o ++ [(x, y)]).length (encR (o ++ [(x, y)])) := by rw [encR_len1, ho, hx, hy]; exact hown1
            rw [← ho] at HE
            replace HE : Hid (runsTo bs (j + 1) = o ++ [(x, y + 1)]) := Lib.hid (by rw [HE.out, hx, hy])
            have hyj : y ≤ 65536 := by omega
            clear hown1 hgrow1 ho hx hy
            obtain ⟨m, hmm⟩ : ∃ m, m = o.length := ⟨_, rfl⟩
            have hln : (o ++ [(x, y)]).length = m + 1 := by simp [hmm]
            rw [hln] at O1
            obtain ⟨g, cap2, rfl, hg⟩ := owns_headv O1 (by omega)
            have hgl := (O1.lt g rfl).2
            have d1 : w1.cell? ⟨g, m * 2 + 1, none⟩ = some (.int .i64 y) := by rw [O1.cellAt _ (by omega), (encR_get _ m (by omega)).2, hmm]; simp
            have f1 := O1.frozenAt (m * 2 + 1)
            have OO := Lib.hid O1
            have MM := Lib.hid hmm
            have hmj : m ≤ 65536 := by have h1 := good_len (runs_ok bs (j + 1)).good; rw [HE.out] at h1; simp at h1; omega
            clear O1 hmm hln
            go_wp2_with fail
            go_region
            go_wp2_with fail
            go_roundw
            case rel =>
              have h1 := (OO.out.stored (m * 2 + 1) (.int .i64 ((y : Int) + 1))).1
              have h2 := encR_set2 o x y (y + 1)
              rw [← MM.out] at h2
              push_cast at h2
              rw [h2] at h1
              refine ⟨j + 1, by omega, by go_num, Lib.hid ?_, Lib.hid ?_⟩
              · rw [HE.out, show (o ++ [(x, y + 1)]).length = m + 1 by simp [MM.out]]
                exact h1
              · exact (BB.out.setCell (p := ⟨g, m * 2 + 1, none⟩) hg _).drew
            case measure => simp [intOf]; omega
          | true =>
            rw [hp] at hcq
            obtain ⟨o, x, y, ho, hxy⟩ := HK.out.last (by omega) hp
            have HE : Hid (runsTo bs (j + 1) = o ++ [(x, y + 1)]) := Lib.hid (by rw [runsTo, HM.out, if_pos rfl, if_neg (by simp [hc0, hp]), ho, bump_snoc])
            have O1 := hown.out
            rw [ho] at O1
            obtain ⟨v1, hv1⟩ : ∃ v1, v1 = Value.slice ao1 (o ++ [(x, y)]).length cap1 := ⟨_, rfl⟩
            rw [ho, ← hv1]
            rw [← hv1] at O1
            have BB := hbel
            have hyj : y ≤ 65536 := by omega
            clear hp hcp hown ho hv1 HK
            obtain ⟨m, hmm⟩ : ∃ m, m = o.length := ⟨_, rfl⟩
            have hln : (o ++ [(x, y)]).length = m + 1 := by simp [hmm]
            rw [hln] at O1
            obtain ⟨g, cap2, rfl, hg⟩ := owns_headv O1 (by omega)
            have hgl := (O1.lt g rfl).2
            have d1 : wr.cell? ⟨g, m * 2 + 1, none⟩ = some (.int .i64 y) := by rw [O1.cellAt _ (by omega), (encR_get _ m (by omega)).2, hmm]; simp
            have f1 := O1.frozenAt (m * 2 + 1)
            have OO := Lib.hid O1
            have MM := Lib.hid hmm
            have hmj : m ≤ 65536 := by have h1 := good_len (runs_ok bs (j + 1)).good; rw [HE.out] at h1; simp at h1; omega
            clear O1 hmm hln
            go_wp2_with fail
            go_region
            go_wp2_with fail
            go_roundw
            case rel =>
              have h1 := (OO.out.stored (m * 2 + 1) (.int .i64 ((y : Int) + 1))).1
              have h2 := encR_set2 o x y (y + 1)
              rw [← MM.out] at h2
              push_cast at h2
              rw [h2] at h1
              refine ⟨j + 1, by omega, by go_num, Lib.hid ?_, Lib.hid ?_⟩
              · rw [HE.out, show (o ++ [(x, y + 1)]).length = m + 1 by simp [MM.out]]
                exact h1
              · exact (BB.out.setCell (p := ⟨g, m * 2 + 1, none⟩) hg _).drew
            case measure => simp [intOf]; omega
    · have hj' : j = n := by omega
      subst hj'
      clear hok
      go_wp2_with fail
      go_ret
      exact ⟨_, rfl, hown.out, hbel.out⟩
end Go.Proofs.Ytmnhdpojonlfhaa
