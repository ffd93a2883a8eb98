/- bits.Len of a small number. -/
import Derived.Test.YtmnhdpojonlfhaaGeC
namespace Go.Proofs.Ytmnhdpojonlfhaa
open Go.RowKit

set_option maxRecDepth 100000 in
set_option maxHeartbeats 400000 in
theorem len64_small (x : Nat) (w : World) (h : x ≤ 4) :
    Calls Try.prog 145 #[.int .u64 x] w fun e w' => ∃ l : Int, e = .returned (.int .i64 l) ∧ w = w' := by
  have hx : x = 0 ∨ x = 1 ∨ x = 2 ∨ x = 3 ∨ x = 4 := by omega
  rcases hx with rfl | rfl | rfl | rfl | rfl
  all_goals
    go_enter Try.func145, Try.ntmps145
    go_wp2_with fail
    go_ret
    exact ⟨_, rfl, rfl⟩
theorem len_small (x : Nat) (w : World) (h : x ≤ 4) :
    Calls Try.prog 134 #[.int .u64 x] w fun e w' => ∃ l : Int, e = .returned (.int .i64 l) ∧ w = w' := by
  go_enter Try.func134, Try.ntmps134
  go_wp2_with fail
  refine (len64_small x w h).mono ?_
  rintro e w1 ⟨l, rfl, rfl⟩
  go_wp2_with fail
  go_ret
  exact ⟨_, rfl, rfl⟩
end Go.Proofs.Ytmnhdpojonlfhaa
