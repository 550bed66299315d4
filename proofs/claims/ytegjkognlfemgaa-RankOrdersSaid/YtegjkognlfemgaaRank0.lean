/- Contracts of magnitude, Size, next, Place. -/
import Derived.Test.YtegjkognlfemgaaGrows
namespace Go.Proofs.Ytegjkognlfemgaa
open Go.RowKit

/-- A number's magnitude, at most 1000. -/
def mag (x : Int) : Int := if x < -1000 then 1000 else if x < 0 then -x else if x ≤ 1000 then x else 1000

theorem max3 (a b c : Int) (w : World) : (Builtin.max_ #[3, 3, 3] 3 #[.int .i64 a, .int .i64 b, .int .i64 c]).run Try.prog w = .ok (.int .i64 (max (max a b) c)) w := by
  simp [Builtin.max_, Builtin.max2]
  split <;> split <;> omega

theorem mag_walk (x : Int) (hx : -9223372036854775808 ≤ x ∧ x ≤ 9223372036854775807) : mag x = min (max (max x (wrap64 (-x))) (wrap64 (-wrap64 (x + 1)))) 1000 := by
  unfold mag wrap64
  split <;> (try split) <;> (try split) <;> omega

set_option maxHeartbeats 4000000 in
theorem mag_any (x : Int) (hx : -9223372036854775808 ≤ x ∧ x ≤ 9223372036854775807) (w : World) : Calls Try.prog 44 #[.int .i64 x] w fun e w' => e = .returned (.int .i64 (mag x)) ∧ w = w' := by
  have hm := Lib.hid (mag_walk x hx)
  have hrun := max3 x (wrap64 (-x)) (wrap64 (-wrap64 (x + 1))) w
  generalize max (max x (wrap64 (-x))) (wrap64 (-wrap64 (x + 1))) = M at hm hrun
  rw [hm.out]
  clear hm
  by_cases hM : M ≤ 1000
  · have e : min M 1000 = M := by omega
    rw [e]
    clear e
    go_enter Try.func44, Try.ntmps44
    go_wp2
    go_ret
    exact ⟨rfl, rfl⟩
  · have e : min M 1000 = 1000 := by omega
    rw [e]
    clear e
    go_enter Try.func44, Try.ntmps44
    go_wp2
    go_ret
    exact ⟨rfl, rfl⟩

set_option maxHeartbeats 1000000 in
theorem size_any (x : Int) (hx : -1000 ≤ x ∧ x ≤ 1000) (w : World) : Calls Try.prog 45 #[.int .i64 x] w fun e w' => e = .returned (.int .i64 (mag x)) ∧ w = w' := by
  unfold mag
  rw [if_neg (by omega)]
  by_cases h : x < 0
  · rw [if_pos h]
    go_enter Try.func45, Try.ntmps45
    go_wp2
    go_ret
    exact ⟨rfl, rfl⟩
  · rw [if_neg h, if_pos (by omega)]
    go_enter Try.func45, Try.ntmps45
    go_wp2
    go_ret
    exact ⟨rfl, rfl⟩

/-- The order of a vector's numbers: 0, 1, -1, 2, -2 .. -/
def sq (p : Nat) : Int := if p % 2 = 1 then ((p : Int) + 1) / 2 else -((p : Int) / 2)
def pl (x : Int) : Nat := if 0 < x then (2 * x - 1).toNat else (-2 * x).toNat
theorem sq_zero : sq 0 = 0 := by decide
theorem sq_pl (x : Int) : sq (pl x) = x := by
  unfold sq pl
  split <;> split <;> omega
theorem pl_sq (p : Nat) : pl (sq p) = p := by
  unfold sq pl
  split <;> split <;> omega
theorem sq_next (p : Nat) : sq (p + 1) = if 0 < sq p then -(sq p) else 1 - sq p := by
  unfold sq
  split <;> split <;> split <;> omega
theorem mag_sq (p : Nat) (h : p ≤ 2000) : mag (sq p) = ((p + 1) / 2 : Nat) := by
  unfold mag sq
  split <;> split <;> (try split) <;> (try split) <;> omega
theorem mag_small (x : Int) (h : -1000 ≤ x ∧ x ≤ 1000) : mag x = (x.natAbs : Int) := by
  unfold mag
  split <;> (try split) <;> (try split) <;> omega

set_option maxHeartbeats 1000000 in
theorem next_any (p : Nat) (hp : p ≤ 2000) (w : World) : Calls Try.prog 46 #[.int .i64 (sq p)] w fun e w' => e = .returned (.int .i64 (sq (p + 1))) ∧ w = w' := by
  have hb : -1001 ≤ sq p ∧ sq p ≤ 1001 := by unfold sq; split <;> omega
  rw [sq_next]
  generalize sq p = x at hb
  by_cases h : 0 < x
  · rw [if_pos h]
    go_enter Try.func46, Try.ntmps46
    go_wp2
    go_ret
    exact ⟨rfl, rfl⟩
  · rw [if_neg h]
    go_enter Try.func46, Try.ntmps46
    go_wp2
    go_ret
    exact ⟨rfl, rfl⟩

set_option maxHeartbeats 1000000 in
theorem place_any (x : Int) (hx : -1000 ≤ x ∧ x ≤ 1000) (w : World) : Calls Try.prog 40 #[.int .i64 x] w fun e w' => e = .returned (.int .i64 (pl x)) ∧ w = w' := by
  by_cases h : 0 < x
  · have e : ((pl x : Nat) : Int) = 2 * x - 1 := by unfold pl; rw [if_pos h]; omega
    rw [e]
    clear e
    go_enter Try.func40, Try.ntmps40
    go_wp2
    go_ret
    exact ⟨rfl, rfl⟩
  · have e : ((pl x : Nat) : Int) = -2 * x := by unfold pl; rw [if_neg h]; omega
    rw [e]
    clear e
    go_enter Try.func40, Try.ntmps40
    go_wp2
    go_ret
    exact ⟨rfl, rfl⟩
end Go.Proofs.Ytegjkognlfemgaa
