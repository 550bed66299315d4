/- Contracts of the reference's Choose and V. -/
import Derived.Test.YtegjkognlfemgaaV
import Derived.WalkKit
import Derived.Below
import Derived.Outline
import Derived.LoopTactic
import Derived.Lib.Hide
import Derived.Laws.Bits64
import Derived.Deep.QuietTactic
import Derived.BigQuiet
namespace Go.Proofs.Ytegjkognlfemgaa
open Go.RowKit

theorem chF_walk (n j : Nat) (h : j ≤ n) : IntKind.u64.wrap ((IntKind.u64.wrap ((chF n j : Nat) * ((n : Int) - j))).tdiv ((j : Int) + 1)) = ((chF n (j + 1) : Nat) : Int) := by
  have e : ((chF n (j + 1) : Nat) : Int) = ((chF n j : Nat) : Int) * ((n - j : Nat) : Int) % 18446744073709551616 / ((j + 1 : Nat) : Int) := by
    rw [← Int.natCast_mul]
    rfl
  rw [e, IntKind.wrap_u64, IntKind.wrap_u64, show ((n : Int) - j) = ((n - j : Nat) : Int) from by omega]
  have h0 := Int.emod_nonneg (((chF n j : Nat) : Int) * ((n - j : Nat) : Int)) (show (18446744073709551616 : Int) ≠ 0 by omega)
  have h1 := Int.emod_lt_of_pos (((chF n j : Nat) : Int) * ((n - j : Nat) : Int)) (show (0 : Int) < 18446744073709551616 by omega)
  generalize ((chF n j : Nat) : Int) * ((n - j : Nat) : Int) % 18446744073709551616 = x at *
  rw [Int.tdiv_eq_ediv_of_nonneg h0, show ((j : Int) + 1) = ((j + 1 : Nat) : Int) from rfl]
  have h2 := Int.ediv_le_self (b := ((j + 1 : Nat) : Int)) h0
  have h3 : 0 ≤ x / ((j + 1 : Nat) : Int) := Int.ediv_nonneg h0 (Int.natCast_nonneg _)
  exact Int.emod_eq_of_lt h3 (by omega)

theorem pow_pos2 (n : Nat) : (0 : Int) < 2 ^ n := Int.pow_pos (by omega)
theorem chF_pos (n : Nat) : ∀ i, 0 ≤ ((chF n i : Nat) : Int) := fun _ => Int.natCast_nonneg _

set_option maxHeartbeats 1000000 in
theorem choose_any (n k : Nat) (hn : n ≤ 1000) (hk : k ≤ 1000) (w : World) :
    Calls Try.prog 42 #[.int .i64 n, .int .i64 k] w fun e w' => e = .returned (.int .u64 (ch n k : Nat)) ∧ w = w' := by
  unfold ch
  by_cases hlt : n < k
  · rw [if_pos hlt]
    go_enter Try.func42, Try.ntmps42
    go_wp2
    go_ret
    exact ⟨rfl, rfl⟩
  · rw [if_neg hlt]
    have h0 : ¬ ((k : Int) < 0) := by omega
    have h1 : ¬ ((n : Int) < k) := by omega
    go_enter Try.func42, Try.ntmps42
    go_wp2
    go_loop [5, 6] (fun c i => ∃ j : Nat, j ≤ k ∧ i = .int .i64 j ∧ c = .int .u64 (chF n j : Nat)) (fun _ i => k - (intOf i).toNat)
    case atStart => exact ⟨0, by omega, rfl, rfl⟩
    case round =>
      obtain ⟨j, hj, rfl, rfl⟩ := hrel
      by_cases hl : j < k
      · have hE := Lib.hid (chF_walk n j (by omega))
        go_wp2
        exact ⟨⟨j + 1, by omega, by go_num, by rw [hE.out]⟩, by simp [intOf]; omega⟩
      · obtain rfl : j = k := by omega
        go_wp2
        go_ret
        exact ⟨rfl, rfl⟩

theorem sumF_walk (n k j : Nat) : IntKind.u64.wrap (((sumF n k j : Nat) : Int) + IntKind.u64.wrap (IntKind.u64.wrap (2 ^ (j + 1) * ((ch n (j + 1) : Nat) : Int)) * ((ch (k - 1) j : Nat) : Int))) = ((sumF n k (j + 1) : Nat) : Int) := by
  have e : ((sumF n k (j + 1) : Nat) : Int) = (((sumF n k j : Nat) : Int) + ((2 ^ (j + 1) : Nat) : Int) * ((ch n (j + 1) : Nat) : Int) % 18446744073709551616 * ((ch (k - 1) j : Nat) : Int) % 18446744073709551616) % 18446744073709551616 := by
    rw [← Int.natCast_mul]
    rfl
  rw [e, IntKind.wrap_u64, IntKind.wrap_u64, IntKind.wrap_u64, Int.natCast_pow]
  rfl

set_option maxHeartbeats 2000000 in
theorem refV_in (n k : Nat) (hn : n ≤ 16) (hk : k ≤ 32) (w : World) :
    Calls Try.prog 20 #[.int .i64 n, .int .i64 k] w fun e w' => e = .returned (.int .u64 (V n k : Nat)) ∧ w = w' := by
  have a1 : ¬ ((n : Int) < 0) := by omega
  have a2 : ¬ (16 < (n : Int)) := by omega
  have a3 : ¬ ((k : Int) < 0) := by omega
  have a4 : ¬ (32 < (k : Int)) := by omega
  by_cases hk0 : k = 0
  · subst hk0
    have hv := Lib.hid (V_zero n (by omega))
    go_enter Try.func20, Try.ntmps20
    go_wp2
    go_ret
    exact ⟨by rw [hv.out]; rfl, rfl⟩
  · have hkb : ((k : Int) == 0) = false := by simp; omega
    obtain ⟨m, rfl⟩ : ∃ m, k = m + 1 := ⟨k - 1, by omega⟩
    have hv := Lib.hid (ref_is n (by omega) m (by omega))
    clear hk0
    go_enter Try.func20, Try.ntmps20
    go_wp2
    go_loop [5, 6, 7] (fun s p j => ∃ i : Nat, i ≤ n ∧ j = .int .i64 ((i : Int) + 1) ∧ p = .int .u64 (2 ^ i) ∧ s = .int .u64 (sumF n (m + 1) i : Nat)) (fun _ _ j => n + 1 - (intOf j).toNat)
    case atStart => exact ⟨0, by omega, rfl, rfl, rfl⟩
    case round =>
      obtain ⟨i, hi, rfl, rfl, rfl⟩ := hrel
      by_cases hl : i < n
      · have hS := Lib.hid (sumF_walk n (m + 1) i)
        have hp1 := pow_pos2 i
        have hp2 : (2 : Int) ^ i ≤ 65536 := by
          have h := Nat.pow_le_pow_right (n := 2) (by omega) (show i ≤ 16 by omega)
          have e : ((2 ^ i : Nat) : Int) = (2 : Int) ^ i := by rw [Int.natCast_pow]; rfl
          rw [← e]
          omega
        have hp3 := Lib.hid (Int.pow_succ (2 : Int) i)
        have c1 : ∀ w, Calls Try.prog 42 #[.int .i64 n, .int .i64 ((i : Int) + 1)] w fun e w' => e = .returned (.int .u64 (ch n (i + 1) : Nat)) ∧ w = w' := fun w => choose_any n (i + 1) (by omega) (by omega) w
        have c2 := fun w => choose_any m i (by omega) (by omega) w
        obtain ⟨p, hp⟩ : ∃ p : Int, p = 2 ^ i := ⟨_, rfl⟩
        rw [← hp] at hp1 hp2 ⊢
        have hP := Lib.hid hp
        clear hp
        go_wp2_with fail
        refine (c1 _).mono ?_
        rintro e w1 ⟨rfl, rfl⟩
        go_wp2_with fail
        refine (c2 _).mono ?_
        rintro e w1 ⟨rfl, rfl⟩
        go_wp2_with fail
        exact ⟨⟨i + 1, by omega, by go_num, by rw [hP.out, ← hp3.out], by rw [← hS.out, hp3.out, ← hP.out]; rfl⟩, by simp [intOf]; omega⟩
      · obtain rfl : i = n := by omega
        go_wp2
        go_ret
        exact ⟨by rw [hv.out]; rfl, rfl⟩

set_option maxHeartbeats 1000000 in
/-- The reference's V of any numbers. -/
theorem refV_any (n k : Int) (w : World) : Calls Try.prog 20 #[.int .i64 n, .int .i64 k] w fun e w' => e = .returned (.int .u64 (VZ n k)) ∧ w = w' := by
  unfold VZ
  by_cases h : 0 ≤ n ∧ n ≤ 16 ∧ 0 ≤ k ∧ k ≤ 32
  · rw [if_pos h]
    obtain ⟨n', rfl⟩ := Int.eq_ofNat_of_zero_le h.1
    obtain ⟨k', rfl⟩ := Int.eq_ofNat_of_zero_le h.2.2.1
    exact refV_in n' k' (by omega) (by omega) w
  · rw [if_neg h]
    by_cases h1 : n < 0
    · go_enter Try.func20, Try.ntmps20
      go_wp2
      go_ret
      exact ⟨rfl, rfl⟩
    · by_cases h2 : 16 < n
      · go_enter Try.func20, Try.ntmps20
        go_wp2
        go_ret
        exact ⟨rfl, rfl⟩
      · by_cases h3 : k < 0
        · go_enter Try.func20, Try.ntmps20
          go_wp2
          go_ret
          exact ⟨rfl, rfl⟩
        · have h4 : 32 < k := by omega
          go_enter Try.func20, Try.ntmps20
          go_wp2
          go_ret
          exact ⟨rfl, rfl⟩
end Go.Proofs.Ytegjkognlfemgaa
