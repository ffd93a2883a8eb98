/- The law's own Write of a text. -/
import Derived.Test.YtbhofablndjeoaaDoorTmE
import Derived.Test.YtbhofablndjeoaaDoorTrV
namespace Go.Proofs.YtbhofablndjeoaaDoor
open Go.RowKit
set_option linter.unusedSimpArgs false
set_option linter.unusedVariables false
def refW (old : Bs) (off : Nat) (s : Bs) : Bs := if s = [] then old else over old off s
set_option maxHeartbeats 1000000 in
set_option maxRecDepth 100000 in
theorem refW_any (old s : Bs) (off : Nat) (w : World) (h1 : old.length ≤ 1000000) (h2 : s.length ≤ 1000000) (h3 : off ≤ 1000000) :
    Calls Tryd.prog 29 #[.string ⟨old.toArray⟩, .int .i64 (off : Nat), .string ⟨s.toArray⟩] w fun e w' => e = .returned (.string ⟨(refW old off s).toArray⟩) ∧ w' = w := by
  by_cases hs : s = []
  · have e : refW old off s = old := by unfold refW; rw [if_pos hs]
    have qs : s.isEmpty = true := by simp [hs]
    rw [e]
    clear e hs
    go_enter Tryd.func29, Tryd.ntmps29
    go_wp2_with fail
    go_ret
    exact ⟨rfl, rfl⟩
  · have e : refW old off s = over old off s := by unfold refW; rw [if_neg hs]
    have qs : s.isEmpty = false := by cases s <;> simp_all
    rw [e]
    clear e hs
    go_enter Tryd.func29, Tryd.ntmps29
    go_wp2_with fail
    go_loopw [0] (fun tv wr => ∃ o : Bs, tv = .string ⟨o.toArray⟩ ∧ Hid (∃ k, o = old ++ zeros k) ∧ (o.length ≤ old.length ∨ o.length ≤ off) ∧ Hid (wr = w)) (fun tv _ => off - strLen tv)
    case atStart => exact ⟨old, rfl, Lib.hid ⟨0, by simp [zeros]⟩, .inl (Nat.le_refl _), Lib.hid rfl⟩
    case round =>
      obtain ⟨o, rfl, HK, hlen, HW⟩ := hrel
      by_cases hlt : o.length < off
      · have q1 : (o.length : Int) < (off : Int) := by omega
        have HE : Hid (((⟨o.toArray⟩ : ByteArray) ++ ⟨#[0]⟩) = ⟨(o ++ [0]).toArray⟩) := Lib.hid (str_append o [0])
        go_wp2_with fail
        rw [HE.out]
        refine ⟨⟨o ++ [0], rfl, ?_, .inr (by simp; omega), HW⟩, ?_⟩
        · obtain ⟨k, hk⟩ := HK.out
          exact Lib.hid ⟨k + 1, by rw [hk, List.append_assoc]; simp [zeros, List.replicate_succ']⟩
        · show off - (o ++ [0]).toArray.size < off - o.toArray.size
          simp; omega
      · have q1 : ¬ (o.length : Int) < (off : Int) := by omega
        have q0 : (off : Int) ≤ (o.length : Int) := by omega
        have HO : Hid (over old off s = o.take off ++ s ++ o.drop (off + s.length)) := by
          obtain ⟨k, hk⟩ := HK.out
          have hkl : o.length = old.length + k := by rw [hk]; simp [zeros]
          have : k = off - old.length := by omega
          refine Lib.hid ?_
          unfold over
          rw [← this, ← hk]
        have hmin : min off o.length = off := by omega
        by_cases hgt : off + s.length < o.length
        · have g1 : (off : Int) + (s.length : Int) < (o.length : Int) := by omega
          go_wp2_with fail
          go_ret
          exact ⟨by rw [HO.out, str_extract, str_extract, str_append, str_append, List.take_length, List.drop_zero]; rfl, HW.out⟩
        · have g1 : ¬ (off : Int) + (s.length : Int) < (o.length : Int) := by omega
          go_wp2_with fail
          go_ret
          exact ⟨by rw [HO.out, str_extract, str_append, List.drop_zero, List.drop_eq_nil_of_le (by omega), List.append_nil]; rfl, HW.out⟩
end Go.Proofs.YtbhofablndjeoaaDoor
