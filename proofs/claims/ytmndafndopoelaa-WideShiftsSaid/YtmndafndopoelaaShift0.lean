/- Bits of numbers and of their digits: plain arithmetic, no Go in sight. -/
import Derived.Test.YtmndafndopoelaaMul0
namespace Go.Proofs.Ytmndafndopoelaa

theorem pow_pos2 (n : Nat) : (0 : Int) < 2 ^ n := Int.pow_pos (by omega)
theorem pow_mono {a b : Nat} (h : a ≤ b) : (2 : Int) ^ a ≤ 2 ^ b := by
  obtain ⟨c, rfl⟩ : ∃ c, b = a + c := ⟨b - a, by omega⟩
  rw [Int.pow_add]
  have h1 := pow_pos2 a
  have h2 := pow_pos2 c
  have h3 : (2 : Int) ^ a * 1 ≤ 2 ^ a * 2 ^ c := Int.mul_le_mul_of_nonneg_left (by omega) (by omega)
  omega
theorem pow_16 : (2 : Int) ^ 16 = 65536 := by decide
theorem pow16 (i : Nat) : (65536 : Int) ^ i = 2 ^ (16 * i) := by
  rw [Int.pow_mul]; rfl
theorem div_div_pow (X : Int) (a b : Nat) : X / 2 ^ a / 2 ^ b = X / 2 ^ (a + b) := by
  rw [Int.pow_add, ← Int.ediv_ediv_of_nonneg (Int.le_of_lt (pow_pos2 a))]
theorem div_succ (X : Int) (a : Nat) : X / 2 ^ a / 2 = X / 2 ^ (a + 1) := by
  have := div_div_pow X a 1
  simpa using this

/-- The bit of a number. -/
def bit (T : Int) (n : Nat) : Int := T / 2 ^ n % 2
theorem bit_bd (T : Int) (n : Nat) : 0 ≤ bit T n ∧ bit T n ≤ 1 := by unfold bit; omega

theorem mod_mul_div (X a b : Int) (ha : 0 < a) : X % (a * b) / a = X / a % b := by
  rw [Int.emod_def X (a * b), Int.emod_def (X / a) b, ← Int.ediv_ediv_of_nonneg (Int.le_of_lt ha)]
  have e : X - a * b * (X / a / b) = X + a * (-(b * (X / a / b))) := by grind
  rw [e, Int.add_mul_ediv_left _ _ (Int.ne_of_gt ha)]
  omega

/-- A part of a number's bits: those from 0 to 15 cut off to the left, then shifted. -/
theorem mod_div_pow (X : Int) (r : Nat) (hr : r ≤ 16) : X % 65536 / 2 ^ r = X / 2 ^ r % 2 ^ (16 - r) := by
  have e : (65536 : Int) = 2 ^ r * 2 ^ (16 - r) := by rw [← Int.pow_add, show r + (16 - r) = 16 from by omega]; rfl
  rw [e]
  exact mod_mul_div X _ _ (pow_pos2 r)

theorem bit_dig (T : Int) (n : Nat) : dig T (n / 16) / 2 ^ (n % 16) % 2 = bit T n := by
  unfold dig bit
  rw [pow16, mod_div_pow _ _ (by omega), div_div_pow, show 16 * (n / 16) + n % 16 = n from by omega]
  have e : (2 : Int) ^ (16 - n % 16) = 2 * 2 ^ (15 - n % 16) := by rw [show 16 - n % 16 = (15 - n % 16) + 1 from by omega, Int.pow_succ, Int.mul_comm]
  rw [e]
  exact Int.emod_emod_of_dvd _ ⟨_, rfl⟩

/-- The digits of Q of which the bits from k on are there. -/
def part (Q : Int) (k : Nat) (j : Nat) : Int := dig Q j / 2 ^ (k - 16 * j)

theorem part_bd (Q : Int) (k j : Nat) : 0 ≤ part Q k j ∧ part Q k j ≤ 65535 := by
  unfold part
  have h := dig_bd Q j
  have hp := pow_pos2 (k - 16 * j)
  refine ⟨Int.ediv_nonneg h.1 (Int.le_of_lt hp), ?_⟩
  have := Int.ediv_le_self (b := 2 ^ (k - 16 * j)) h.1
  omega

theorem part_start (Q : Int) (j : Nat) (hj : j < 8) : part Q 128 j = 0 := by
  unfold part
  have h := dig_bd Q j
  refine Int.ediv_eq_zero_of_lt h.1 ?_
  have e : (65536 : Int) ≤ 2 ^ (128 - 16 * j) := by
    rw [← pow_16]
    exact pow_mono (by omega)
  omega

theorem part_end (Q : Int) (j : Nat) : part Q 0 j = dig Q j := by unfold part; simp

/-- One bit more. -/
theorem part_step (Q : Int) (i : Nat) : upd (part Q (i + 1)) (i / 16) (part Q (i + 1) (i / 16) * 2 + bit Q i) = part Q i := by
  funext j
  unfold upd
  by_cases e : j = i / 16
  · rw [if_pos e, e]
    unfold part
    have hb := bit_dig Q i
    have e1 : i - 16 * (i / 16) = i % 16 := by omega
    have e2 : i + 1 - 16 * (i / 16) = i % 16 + 1 := by omega
    rw [e1, e2, ← hb, ← div_succ]
    omega
  · rw [if_neg e]
    unfold part
    rcases Nat.lt_or_ge (i / 16) j with h | h
    · rw [show i + 1 - 16 * j = 0 from by omega, show i - 16 * j = 0 from by omega]
    · have h16 : 16 ≤ i - 16 * j := by omega
      have hd := dig_bd Q j
      have z : ∀ n, 16 ≤ n → dig Q j / 2 ^ n = 0 := fun n hn => by
        refine Int.ediv_eq_zero_of_lt hd.1 ?_
        have e : (2 : Int) ^ 16 ≤ 2 ^ n := pow_mono hn
        rw [pow_16] at e
        omega
      rw [z _ h16, z _ (by omega)]

/-- The bit of a quotient is a bit of the number; behind the last one they are as that. -/
theorem bit_quot {T : Int} (h : -170141183460469231731687303715884105728 ≤ T ∧ T < 170141183460469231731687303715884105728) (s i : Nat) : bit T (if 127 < i + s then 127 else i + s) = bit (T / 2 ^ s) i := by
  unfold bit
  rw [div_div_pow, Nat.add_comm s i]
  split
  · rename_i hlt
    have e : (2 : Int) ^ 127 = 170141183460469231731687303715884105728 := by decide
    have key : ∀ n, 127 ≤ n → T / 2 ^ n = if T < 0 then -1 else 0 := fun n hn => by
      have hle : (170141183460469231731687303715884105728 : Int) ≤ 2 ^ n := by
        rw [← e]
        exact pow_mono hn
      have hp := pow_pos2 n
      split
      · have h1 := (Int.ediv_emod_unique (a := T) (b := 2 ^ n) (r := T + 2 ^ n) (q := -1) hp).2 ⟨by omega, by omega, by omega⟩
        exact h1.1
      · exact Int.ediv_eq_zero_of_lt (by omega) (by omega)
    rw [key 127 (by omega), key (i + s) (by omega)]
  · rfl
end Go.Proofs.Ytmndafndopoelaa
