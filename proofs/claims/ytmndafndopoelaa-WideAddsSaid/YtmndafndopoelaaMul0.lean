/- The digit-by-digit product: plain arithmetic, no Go in sight. -/
import Derived.Test.YtmndafndopoelaaMath
namespace Go.Proofs.Ytmndafndopoelaa

def dig (S : Int) (i : Nat) : Int := S / 65536 ^ i % 65536
def upd (o : Nat → Int) (j : Nat) (x : Int) : Nat → Int := fun i => if i = j then x else o i
def val8 (o : Nat → Int) : Int := o 0 + 65536 * o 1 + 4294967296 * o 2 + 281474976710656 * o 3 + 18446744073709551616 * o 4 + 1208925819614629174706176 * o 5 + 79228162514264337593543950336 * o 6 + 5192296858534827628530496329220096 * o 7

theorem dig_bd (S : Int) (i : Nat) : 0 ≤ dig S i ∧ dig S i ≤ 65535 := by unfold dig; omega

theorem lt8 {j : Nat} (h : j < 8) : j = 0 ∨ j = 1 ∨ j = 2 ∨ j = 3 ∨ j = 4 ∨ j = 5 ∨ j = 6 ∨ j = 7 := by omega

theorem val8_upd (o : Nat → Int) (j : Nat) (x : Int) (h : j < 8) : val8 (upd o j x) = val8 o + (x - o j) * 65536 ^ j := by
  unfold val8 upd
  rcases lt8 h with rfl | rfl | rfl | rfl | rfl | rfl | rfl | rfl <;> simp <;> omega

theorem mod_succ (T : Int) (k : Nat) : T % 65536 ^ (k + 1) = T % 65536 ^ k + dig T k * 65536 ^ k := by
  unfold dig
  have hp : (0 : Int) < 65536 ^ k := Int.pow_pos (by omega)
  have e : (65536 : Int) ^ (k + 1) = 65536 ^ k * 65536 := Int.pow_succ ..
  have h0 := Int.mul_ediv_add_emod T (65536 ^ k)
  have h1 := Int.mul_ediv_add_emod (T / 65536 ^ k) 65536
  have h2 := Int.mul_ediv_add_emod T (65536 ^ (k + 1))
  have h3 : T / 65536 ^ (k + 1) = T / 65536 ^ k / 65536 := by rw [e, Int.ediv_ediv_of_nonneg (Int.le_of_lt hp)]
  rw [h3, e] at h2
  rw [e]
  generalize (65536 : Int) ^ k = p at *
  grind

/-- What the inner loop keeps: row i of the product, up to column k. -/
def Row (S T : Int) (i k : Nat) (o : Nat → Int) (c : Int) : Prop :=
  (∀ j, j < 8 → 0 ≤ o j ∧ o j ≤ 65535) ∧ 0 ≤ c ∧ c ≤ 65535 ∧
  ∃ q : Int, val8 o + c * 65536 ^ (i + k) = S % 65536 ^ i * T + dig S i * 65536 ^ i * (T % 65536 ^ k) + q * 340282366920938463463374607431768211456

/-- What the outer loop keeps. -/
def Rows8 (S T : Int) (i : Nat) (o : Nat → Int) : Prop :=
  (∀ j, j < 8 → 0 ≤ o j ∧ o j ≤ 65535) ∧ ∃ q : Int, val8 o = S % 65536 ^ i * T + q * 340282366920938463463374607431768211456

theorem rows_start (S T : Int) : Rows8 S T 0 (fun _ => 0) := by
  refine ⟨fun _ _ => by simp, 0, ?_⟩
  simp [val8, Int.emod_one]

theorem row_start {S T : Int} {i : Nat} {o : Nat → Int} (h : Rows8 S T i o) : Row S T i 0 o 0 := by
  obtain ⟨h1, q, hq⟩ := h
  exact ⟨h1, by omega, by omega, q, by rw [hq]; simp [Int.emod_one]⟩

theorem prod_bd {a b : Int} (ha : 0 ≤ a ∧ a ≤ 65535) (hb : 0 ≤ b ∧ b ≤ 65535) : 0 ≤ a * b ∧ a * b ≤ 4294836225 :=
  ⟨Int.mul_nonneg ha.1 hb.1, by have := Int.mul_le_mul ha.2 hb.2 hb.1 (by omega); omega⟩

theorem row_step {S T : Int} {i k : Nat} {o : Nat → Int} {c : Int} (h : Row S T i k o c) (hk : i + k < 8) :
    Row S T i (k + 1) (upd o (i + k) ((o (i + k) + dig S i * dig T k + c) % 65536)) ((o (i + k) + dig S i * dig T k + c) / 65536) := by
  obtain ⟨h1, h2, h3, q, hq⟩ := h
  have pb := prod_bd (dig_bd S i) (dig_bd T k)
  have ob := h1 (i + k) hk
  refine ⟨fun j hj => ?_, by omega, by omega, q, ?_⟩
  · unfold upd
    split
    · omega
    · exact h1 j hj
  · rw [val8_upd _ _ _ hk, mod_succ, show i + (k + 1) = (i + k) + 1 from by omega, Int.pow_succ _ (i + k)]
    have e : (65536 : Int) ^ (i + k) = 65536 ^ i * 65536 ^ k := Int.pow_add ..
    have hd : (o (i + k) + dig S i * dig T k + c) % 65536 = (o (i + k) + dig S i * dig T k + c) - 65536 * ((o (i + k) + dig S i * dig T k + c) / 65536) := by omega
    generalize (o (i + k) + dig S i * dig T k + c) / 65536 = d at *
    rw [hd]
    rw [e] at hq ⊢
    generalize (65536 : Int) ^ i = a at *
    generalize (65536 : Int) ^ k = b at *
    generalize T % b = t at *
    generalize S % a = s at *
    generalize dig S i = x at *
    generalize dig T k = y at *
    generalize val8 o = v at *
    generalize o (i + k) = z at *
    grind

theorem row_end {S T : Int} {i k : Nat} {o : Nat → Int} {c : Int} (h : Row S T i k o c) (hk : i + k = 8) : Rows8 S T (i + 1) o := by
  obtain ⟨h1, h2, h3, q, hq⟩ := h
  refine ⟨h1, q - c - dig S i * (T / 65536 ^ k), ?_⟩
  rw [hk] at hq
  rw [mod_succ]
  have e8 : (65536 : Int) ^ 8 = 340282366920938463463374607431768211456 := by decide
  have e : (340282366920938463463374607431768211456 : Int) = 65536 ^ i * 65536 ^ k := by rw [← Int.pow_add, hk]; decide
  have h0 := Int.mul_ediv_add_emod T (65536 ^ k)
  rw [e8] at hq
  generalize hM : (340282366920938463463374607431768211456 : Int) = M at *
  generalize (65536 : Int) ^ i = a at *
  generalize (65536 : Int) ^ k = b at *
  generalize T % b = t at *
  generalize T / b = u at *
  generalize S % a = s at *
  generalize dig S i = x at *
  generalize val8 o = v at *
  clear hM
  subst e
  grind

theorem rows_digits {S T : Int} {o : Nat → Int} (h : Rows8 S T 8 o) :
    Value.agg #[.int .i64 (o 0), .int .i64 (o 1), .int .i64 (o 2), .int .i64 (o 3), .int .i64 (o 4), .int .i64 (o 5), .int .i64 (o 6), .int .i64 (o 7)] = D (S * T) := by
  obtain ⟨h1, q, hq⟩ := h
  have e8 : (65536 : Int) ^ 8 = 340282366920938463463374607431768211456 := by decide
  rw [e8] at hq
  have hS := Int.mul_ediv_add_emod S 340282366920938463463374607431768211456
  have e : val8 o = S * T + (q - S / 340282366920938463463374607431768211456 * T) * 340282366920938463463374607431768211456 := by
    rw [hq]
    generalize S / 340282366920938463463374607431768211456 = u at *
    generalize S % 340282366920938463463374607431768211456 = s at *
    grind
  generalize q - S / 340282366920938463463374607431768211456 * T = r at e
  generalize S * T = X at *
  unfold val8 at e
  have b0 := h1 0 (by omega)
  have b1 := h1 1 (by omega)
  have b2 := h1 2 (by omega)
  have b3 := h1 3 (by omega)
  have b4 := h1 4 (by omega)
  have b5 := h1 5 (by omega)
  have b6 := h1 6 (by omega)
  have b7 := h1 7 (by omega)
  clear h1 hS hq e8
  apply D_of <;> omega
end Go.Proofs.Ytmndafndopoelaa
