/- The contract of the first reference's Held. -/
import Derived.Test.YtckcjgmikjpfaaaDoorCon3
namespace Go.Proofs.YtckcjgmikjpfaaaDoor
open Go.RowKit

set_option maxHeartbeats 1000000 in
theorem refHeld_any (x : Int) (w : World) : Calls Tryd.prog 25 #[.int .i64 x, .int .i64 (-16777216), .int .i64 16777216] w fun e w' => e = .returned (.int .i64 (hd x)) ∧ w = w' := by
  by_cases a : x < -16777216
  · have h1 : hd x = -16777216 := by unfold hd; rw [if_pos a]
    rw [h1]
    clear h1
    go_enter Tryd.func25, Tryd.ntmps25
    go_wp2
    go_ret
    exact ⟨rfl, rfl⟩
  · by_cases b : 16777216 < x
    · have h1 : hd x = 16777216 := by unfold hd; rw [if_neg a, if_pos b]
      rw [h1]
      clear h1
      go_enter Tryd.func25, Tryd.ntmps25
      go_wp2
      go_ret
      exact ⟨rfl, rfl⟩
    · have h1 : hd x = x := by unfold hd; rw [if_neg a, if_neg b]
      rw [h1]
      clear h1
      go_enter Tryd.func25, Tryd.ntmps25
      go_wp2
      go_ret
      exact ⟨rfl, rfl⟩

set_option maxHeartbeats 2000000 in
theorem refFade_any (k : Int) (w : World) : Calls Tryd.prog 13 #[.int .i64 k] w fun e w' => e = .returned (.int .i64 (fdv k)) ∧ w = w' := by
  by_cases h1 : k = 1
  · subst h1
    go_enter Tryd.func13, Tryd.ntmps13
    go_wp2
    go_ret
    exact ⟨rfl, rfl⟩
  · by_cases h2 : k = 2
    · subst h2
      clear h1
      go_enter Tryd.func13, Tryd.ntmps13
      go_wp2
      go_ret
      exact ⟨rfl, rfl⟩
    · by_cases h3 : k = 3
      · subst h3
        clear h1 h2
        go_enter Tryd.func13, Tryd.ntmps13
        go_wp2
        go_ret
        exact ⟨rfl, rfl⟩
      · by_cases h4 : k = 4
        · subst h4
          clear h1 h2 h3
          go_enter Tryd.func13, Tryd.ntmps13
          go_wp2
          go_ret
          exact ⟨rfl, rfl⟩
        · have e : fdv k = 0 := by unfold fdv; rw [if_neg h1, if_neg h2, if_neg h3, if_neg h4]
          rw [e]
          clear e
          go_enter Tryd.func13, Tryd.ntmps13
          go_wp2
          go_ret
          exact ⟨rfl, rfl⟩

set_option maxHeartbeats 2000000 in
theorem refThere_any (n : Int) (w : World) : Calls Tryd.prog 15 #[.int .i64 n] w fun e w' => e = .returned (.bool (n == 8 || n == 16 || n == 32)) ∧ w = w' := by
  go_enter Tryd.func15, Tryd.ntmps15
  go_wp2
  all_goals
    go_ret
    refine ⟨?_, rfl⟩
    first | rfl | simp [*]
end Go.Proofs.YtckcjgmikjpfaaaDoor
