/- How many vectors there are, by rows: plain arithmetic, no Go in sight. -/
import Derived.Test.YtegjkognlfemgaaProg
namespace Go.Proofs.Ytegjkognlfemgaa

/-- The row behind another one: each number is the one above, the one ahead, and the one above that. -/
def rowGo : Nat → Nat → List Nat → List Nat
  | _, _, [] => []
  | prev, upPrev, u :: r => (u + prev + upPrev) :: rowGo (u + prev + upPrev) u r
def rowNext : List Nat → List Nat
  | [] => []
  | u :: r => 1 :: rowGo 1 u r
def rowN : Nat → List Nat
  | 0 => [1, 0, 0, 0, 0, 0, 0, 0, 0, 0, 0, 0, 0, 0, 0, 0, 0, 0, 0, 0, 0, 0, 0, 0, 0, 0, 0, 0, 0, 0, 0, 0, 0]
  | n + 1 => rowNext (rowN n)
/-- How many vectors there are of n numbers and k pulses (n up to 16, k up to 32). -/
def V (n k : Nat) : Nat := (rowN n).getD k 0

theorem V_zero : ∀ n, n < 17 → V n 0 = 1 := by decide +kernel
theorem V_none : ∀ k, k < 32 → V 0 (k + 1) = 0 := by decide +kernel
theorem V_step : ∀ n, n < 16 → ∀ k, k < 32 → V (n + 1) (k + 1) = V n (k + 1) + V (n + 1) k + V n k := by decide +kernel
theorem V_lt : ∀ n, n < 17 → ∀ k, k < 33 → V n k < 1000000000000000000 := by decide +kernel

def chF (n : Nat) : Nat → Nat
  | 0 => 1
  | i + 1 => (chF n i * (n - i) % 18446744073709551616) / (i + 1)
def ch (n k : Nat) : Nat := if n < k then 0 else chF n k
def sumF (n k : Nat) : Nat → Nat
  | 0 => 0
  | j + 1 => (sumF n k j + (2 ^ (j + 1) * ch n (j + 1) % 18446744073709551616 * ch (k - 1) j) % 18446744073709551616) % 18446744073709551616
theorem ref_is : ∀ n, n < 17 → ∀ k, k < 32 → sumF n (k + 1) n = V n (k + 1) := by decide +kernel

/-- Of any numbers: none outside. -/
def VZ (n k : Int) : Int := if 0 ≤ n ∧ n ≤ 16 ∧ 0 ≤ k ∧ k ≤ 32 then ((V n.toNat k.toNat : Nat) : Int) else 0
end Go.Proofs.Ytegjkognlfemgaa
