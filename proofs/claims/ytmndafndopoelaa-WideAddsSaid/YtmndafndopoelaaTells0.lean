/- Contracts of the tellers of wide numbers: what fits, which one is more, in so many bits. -/
import Derived.Test.YtmndafndopoelaaLaw1
import Derived.Deep.RegionWith
namespace Go.Proofs.Ytmndafndopoelaa
open Go.RowKit

theorem belowAlloc (W : World) (o : Obj) : Below W.heap.size W (W.alloc o) := (Below.refl _ _).alloc (Nat.le_refl _) o

theorem nan64_any (x : Int) (w : World) : Calls Try.prog 44 #[.int .i64 x] w fun e w' => e = .returned (.bool false) ∧ w = w' := by
  go_enter Try.func44, Try.ntmps44
  go_wp2
  go_ret
  exact ⟨by simp, rfl⟩
theorem nanu64_any (x : Int) (w : World) : Calls Try.prog 45 #[.int .u64 x] w fun e w' => e = .returned (.bool false) ∧ w = w' := by
  go_enter Try.func45, Try.ntmps45
  go_wp2
  go_ret
  exact ⟨by simp, rfl⟩

def sgn3 (x y : Int) : Int := if x < y then -1 else if y < x then 1 else 0

set_option maxHeartbeats 1000000 in
theorem cmp64_any (x y : Int) (w : World) : Calls Try.prog 41 #[.int .i64 x, .int .i64 y] w fun e w' => e = .returned (.int .i64 (sgn3 x y)) ∧ w = w' := by
  unfold sgn3
  by_cases h : x < y
  · rw [if_pos h]
    go_enter Try.func41, Try.ntmps41
    go_wp2_with (go_at_call 44; refine (nan64_any _ _).mono ?_; rintro e w' ⟨rfl, rfl⟩)
    go_ret
    exact ⟨rfl, rfl⟩
  · rw [if_neg h]
    by_cases h2 : y < x
    · rw [if_pos h2]
      go_enter Try.func41, Try.ntmps41
      go_wp2_with (go_at_call 44; refine (nan64_any _ _).mono ?_; rintro e w' ⟨rfl, rfl⟩)
      go_ret
      exact ⟨rfl, rfl⟩
    · rw [if_neg h2]
      go_enter Try.func41, Try.ntmps41
      go_wp2_with (go_at_call 44; refine (nan64_any _ _).mono ?_; rintro e w' ⟨rfl, rfl⟩)
      go_ret
      exact ⟨rfl, rfl⟩
set_option maxHeartbeats 1000000 in
theorem cmpu64_any (x y : Int) (w : World) : Calls Try.prog 42 #[.int .u64 x, .int .u64 y] w fun e w' => e = .returned (.int .i64 (sgn3 x y)) ∧ w = w' := by
  unfold sgn3
  by_cases h : x < y
  · rw [if_pos h]
    go_enter Try.func42, Try.ntmps42
    go_wp2_with (go_at_call 45; refine (nanu64_any _ _).mono ?_; rintro e w' ⟨rfl, rfl⟩)
    go_ret
    exact ⟨rfl, rfl⟩
  · rw [if_neg h]
    by_cases h2 : y < x
    · rw [if_pos h2]
      go_enter Try.func42, Try.ntmps42
      go_wp2_with (go_at_call 45; refine (nanu64_any _ _).mono ?_; rintro e w' ⟨rfl, rfl⟩)
      go_ret
      exact ⟨rfl, rfl⟩
    · rw [if_neg h2]
      go_enter Try.func42, Try.ntmps42
      go_wp2_with (go_at_call 45; refine (nanu64_any _ _).mono ?_; rintro e w' ⟨rfl, rfl⟩)
      go_ret
      exact ⟨rfl, rfl⟩

set_option maxHeartbeats 1000000 in
/-- cmp.Or of two numbers in a slice that was just made. -/
theorem or_any (g : Nat) (x y : Int) (w : World) (c0 : w.cell? ⟨g, 0, none⟩ = some (.int .i64 x)) (c1 : w.cell? ⟨g, 1, none⟩ = some (.int .i64 y)) :
    Calls Try.prog 40 #[.slice (some ⟨g, 0, none⟩) 2 2] w fun e w' => e = .returned (.int .i64 (if x = 0 then y else x)) ∧ w = w' := by
  by_cases hx : x = 0
  · subst hx
    rw [if_pos rfl]
    by_cases hy : y = 0
    · subst hy
      go_enter Try.func40, Try.ntmps40
      go_wp2
      refine wp_loop_rounds 3 ?_
      iterate 3 (rw [rounds_succ]; go_wp2)
      go_ret
      exact ⟨rfl, rfl⟩
    · have hy' : (y == 0) = false := by simp [hy]
      have hy2 : (y != 0) = true := by simp [hy]
      go_enter Try.func40, Try.ntmps40
      go_wp2
      refine wp_loop_rounds 3 ?_
      iterate 2 (rw [rounds_succ]; go_wp2)
      go_ret
      exact ⟨rfl, rfl⟩
  · rw [if_neg hx]
    have hx' : (x == 0) = false := by simp [hx]
    have hx2 : (x != 0) = true := by simp [hx]
    go_enter Try.func40, Try.ntmps40
    go_wp2
    refine wp_loop_rounds 3 ?_
    rw [rounds_succ]
    go_wp2
    go_ret
    exact ⟨rfl, rfl⟩
end Go.Proofs.Ytmndafndopoelaa
