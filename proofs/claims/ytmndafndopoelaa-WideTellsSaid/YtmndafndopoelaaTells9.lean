/- The walk of WideTells, for all arguments. -/
import Derived.Test.YtmndafndopoelaaTells
namespace Go.Proofs.Ytmndafndopoelaa
open Go.RowKit

theorem pow_k (k : Nat) (hk : k ≤ 62) : 1 ≤ (2 : Int) ^ k ∧ (2 : Int) ^ k ≤ 4611686018427387904 := by
  have h1 : (2 : Nat) ^ k ≤ 2 ^ 62 := Nat.pow_le_pow_right (by omega) hk
  have h2 : 1 ≤ (2 : Nat) ^ k := Nat.one_le_two_pow
  have e : ((2 ^ k : Nat) : Int) = (2 : Int) ^ k := by simp
  rw [← e]
  omega

theorem tells_walk (h1 l1 h2 l2 n : Int) (a1 : -9223372036854775808 ≤ h1 ∧ h1 ≤ 9223372036854775807) (a2 : 0 ≤ l1 ∧ l1 ≤ 18446744073709551615) (a3 : -9223372036854775808 ≤ h2 ∧ h2 ≤ 9223372036854775807) (a4 : 0 ≤ l2 ∧ l2 ≤ 18446744073709551615) (w : World) :
    Calls Try.prog 7 #[.agg #[.int .i64 h1, .int .u64 l1], .agg #[.int .i64 h2, .int .u64 l2], .int .i64 n] w fun e w' => e = .returned (.bool true) ∧ Below w.heap.size w w' := by
  obtain ⟨x, hx⟩ : ∃ x, wrap64 l1 = x := ⟨_, rfl⟩
  have hx' := hx
  unfold wrap64 at hx'
  have hlx : IntKind.i64.wrap l1 = x := by rw [IntKind.wrap_i64]; exact hx'
  obtain ⟨k, hk, hn⟩ : ∃ k : Nat, k ≤ 62 ∧ ((n < 1 ∧ k = 0) ∨ (1 ≤ n ∧ n ≤ 63 ∧ n = k + 1) ∨ (63 < n ∧ k = 62)) := by
    by_cases c1 : n < 1
    · exact ⟨0, by omega, .inl ⟨c1, rfl⟩⟩
    · by_cases c2 : 63 < n
      · exact ⟨62, by omega, .inr (.inr ⟨c2, rfl⟩)⟩
      · exact ⟨(n - 1).toNat, by omega, .inr (.inl ⟨by omega, by omega, by omega⟩)⟩
  obtain ⟨hP1, hP2⟩ := pow_k k hk
  have c22 : ∀ w, Calls Try.prog 22 #[.int .i64 n, .int .i64 1, .int .i64 63] w fun e w' => e = .returned (.int .i64 ((k : Int) + 1)) ∧ w = w' := by
    have e : held3 n 1 63 = (k : Int) + 1 := by
      unfold held3
      rcases hn with ⟨h, rfl⟩ | ⟨h, h', h''⟩ | ⟨h, rfl⟩
      · rw [if_pos h]; rfl
      · rw [if_neg (by omega), if_neg (by omega)]; exact h''
      · rw [if_neg (by omega), if_pos h]; rfl
    rw [← e]
    exact fun w => bits_any n 1 63 w
  have c30 : ∀ w, Calls Try.prog 30 #[.agg #[.int .i64 h1, .int .u64 l1], .agg #[.int .i64 h2, .int .u64 l2]] w fun e w' => e = .returned (.int .i64 (sgn3 (h1 * 18446744073709551616 + l1) (h2 * 18446744073709551616 + l2))) ∧ Below w.heap.size w w' := by
    rw [← cmpW_is a2 a4]
    exact fun w => cmp_any h1 l1 h2 l2 w
  have c31 := fun w => sat_any h1 l1 n (2 ^ k) (-(2 ^ k)) _ k a1 a2 rfl rfl hP1 hP2 hn rfl w
  have WX : WideB (h1 * 18446744073709551616 + l1) := by unfold WideB; omega
  have WY : WideB (h2 * 18446744073709551616 + l2) := by unfold WideB; omega
  by_cases hfit : h1 = x / 9223372036854775808
  · have heq : ∀ w, (binOp .eql 27 (D (h1 * 18446744073709551616 + l1)) (D x)).run Try.prog w = .ok (.bool true) w := by
      intro w
      have e : h1 * 18446744073709551616 + l1 = x := by omega
      rw [e]
      exact eqD_refl x w
    exact tells_core h1 l1 h2 l2 n _ _ _ x (2 ^ k) _ _ k true x ⟨fun _ => rfl, fun h => nomatch h⟩ (by constructor <;> omega) (by constructor <;> omega) WX WY rfl c30 (by omega) hlx (fun w => int_yes a2 hx hfit w) heq c22 hk rfl hP1 hP2 rfl rfl c31 w
  · have hne : (x / 9223372036854775808 == h1) = false := by simp; omega
    have heq : ∀ w, (binOp .eql 27 (D (h1 * 18446744073709551616 + l1)) (D x)).run Try.prog w = .ok (.bool false) w := by
      intro w
      rw [eqD]
      have e : decide ((h1 * 18446744073709551616 + l1 - x) % 340282366920938463463374607431768211456 = 0) = false := by simp; omega
      rw [e]
    exact tells_core h1 l1 h2 l2 n _ _ _ x (2 ^ k) _ _ k false 0 ⟨(fun h => nomatch h), fun _ => rfl⟩ (by constructor <;> omega) (by constructor <;> omega) WX WY rfl c30 (by omega) hlx (fun w => int_no hx hne w) heq c22 hk rfl hP1 hP2 rfl rfl c31 w
end Go.Proofs.Ytmndafndopoelaa
