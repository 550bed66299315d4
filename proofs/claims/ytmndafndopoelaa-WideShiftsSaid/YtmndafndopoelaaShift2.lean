/- Contracts: a wide number's Shr and Round; the reference's Round. -/
import Derived.Test.YtmndafndopoelaaShift1
import Derived.Test.YtmndafndopoelaaTwo
import Derived.Laws.Shifts
namespace Go.Proofs.Ytmndafndopoelaa
open Go.RowKit

/-- How many places, held. -/
def Clip (s : Int) (k : Nat) : Prop := (s < 0 ∧ k = 0) ∨ (0 ≤ s ∧ s ≤ 127 ∧ s = k) ∨ (127 < s ∧ k = 127)

theorem div_bd {h p : Int} (hp : 0 < p) (b : -9223372036854775808 ≤ h ∧ h ≤ 9223372036854775807) : -9223372036854775808 ≤ h / p ∧ h / p ≤ 9223372036854775807 := by
  constructor
  · rw [Int.le_ediv_iff_mul_le hp]
    have : (9223372036854775808 : Int) * 1 ≤ 9223372036854775808 * p := Int.mul_le_mul_of_nonneg_left (by omega) (by omega)
    omega
  · rcases Int.lt_or_le h 0 with hn | hn
    · have := Int.ediv_neg_of_neg_of_pos hn hp
      omega
    · have := Int.ediv_le_self (b := p) hn
      omega

/-- The quotient by 2^64 and more is the upper half's. -/
theorem quot_hi (h l : Int) (b2 : 0 ≤ l ∧ l ≤ 18446744073709551615) (k : Nat) (hk : 64 ≤ k) : (h * 18446744073709551616 + l) / 2 ^ k = h / 2 ^ (k - 64) := by
  have e : k = 64 + (k - 64) := by omega
  have e64 : (2 : Int) ^ 64 = 18446744073709551616 := by decide
  rw [e, ← div_div_pow, e64, show 64 + (k - 64) - 64 = k - 64 from by omega]
  have : (h * 18446744073709551616 + l) / 18446744073709551616 = h := by omega
  rw [this]

/-- The lower half of a quotient by less than 2^64, as the program puts it together. -/
theorem quot_lo (h l : Int) (b2 : 0 ≤ l ∧ l ≤ 18446744073709551615) (k : Nat) (hk : k < 64) (b1 : -9223372036854775808 ≤ h ∧ h ≤ 9223372036854775807) :
    ∃ L, bits .or .u64 (l / 2 ^ k) (IntKind.u64.wrap (IntKind.u64.wrap h * 2 ^ (64 - k))) = L ∧ Rep (h / 2 ^ k) L ((h * 18446744073709551616 + l) / 2 ^ k) := by
  have hp := pow_pos2 k
  have hq := pow_pos2 (64 - k)
  have hpq : (2 : Int) ^ k * 2 ^ (64 - k) = 18446744073709551616 := by rw [← Int.pow_add, show k + (64 - k) = 64 from by omega]; decide
  have hH := div_bd hp b1
  have hr0 := Int.emod_nonneg h (Int.ne_of_gt hp)
  have hr1 := Int.emod_lt_of_pos h hp
  have hd := Int.mul_ediv_add_emod h (2 ^ k)
  have hA0 : 0 ≤ l / 2 ^ k := Int.ediv_nonneg b2.1 (Int.le_of_lt hp)
  have hA1 : l / 2 ^ k < 2 ^ (64 - k) := by
    rw [Int.ediv_lt_iff_lt_mul hp, Int.mul_comm, hpq]; omega
  have hX : (h * 18446744073709551616 + l) / 2 ^ k = l / 2 ^ k + h * 2 ^ (64 - k) := by
    rw [← hpq, show h * ((2 : Int) ^ k * 2 ^ (64 - k)) + l = l + 2 ^ k * (h * 2 ^ (64 - k)) from by grind, Int.add_mul_ediv_left _ _ (Int.ne_of_gt hp)]
  have hrq : h % 2 ^ k * 2 ^ (64 - k) + 2 ^ (64 - k) ≤ 18446744073709551616 := by
    rw [← hpq]
    have : (h % 2 ^ k + 1) * 2 ^ (64 - k) ≤ 2 ^ k * 2 ^ (64 - k) := Int.mul_le_mul_of_nonneg_right (by omega) (by omega)
    rw [Int.add_mul] at this
    omega
  have hrq0 : 0 ≤ h % 2 ^ k * 2 ^ (64 - k) := Int.mul_nonneg hr0 (by omega)
  have hB : IntKind.u64.wrap (IntKind.u64.wrap h * 2 ^ (64 - k)) = h % 2 ^ k * 2 ^ (64 - k) := by
    rw [IntKind.wrap_u64, IntKind.wrap_u64, Int.emod_def h 18446744073709551616]
    have e : (h - 18446744073709551616 * (h / 18446744073709551616)) * 2 ^ (64 - k) = h % 2 ^ k * 2 ^ (64 - k) + 18446744073709551616 * (h / 2 ^ k - h / 18446744073709551616 * 2 ^ (64 - k)) := by
      generalize h / 18446744073709551616 = z
      rw [← hpq]
      generalize (2 : Int) ^ k = p at *
      generalize (2 : Int) ^ (64 - k) = q at *
      generalize h / p = H at *
      generalize h % p = r at *
      grind
    rw [e, Int.add_mul_emod_self_left]
    exact Int.emod_eq_of_lt hrq0 (by omega)
  refine ⟨l / 2 ^ k + h % 2 ^ k * 2 ^ (64 - k), ?_, ?_⟩
  · rw [hB]
    obtain ⟨a, ha⟩ := Int.eq_ofNat_of_zero_le hA0
    obtain ⟨r, hr⟩ := Int.eq_ofNat_of_zero_le hr0
    rw [ha] at hA1 ⊢
    rw [hr] at hrq hrq0 ⊢
    have eq : (2 : Int) ^ (64 - k) = ((2 ^ (64 - k) : Nat) : Int) := by rw [Int.natCast_pow]; rfl
    rw [eq] at hA1 hrq ⊢
    rw [← Int.natCast_mul] at hrq ⊢
    rw [u64_or_nat a (r * 2 ^ (64 - k)) (by omega) (by omega), Nat.or_comm, Nat.mul_comm, ← Nat.two_pow_add_eq_or_of_lt (by omega)]
    omega
  · rw [hX]
    have e : l / 2 ^ k + h * 2 ^ (64 - k) = h / 2 ^ k * 18446744073709551616 + (l / 2 ^ k + h % 2 ^ k * 2 ^ (64 - k)) := by
      rw [← hpq]
      generalize (2 : Int) ^ k = p at *
      generalize (2 : Int) ^ (64 - k) = q at *
      generalize h / p = H at *
      generalize h % p = r at *
      generalize l / p = A at *
      grind
    rw [e]
    constructor <;> omega

set_option maxHeartbeats 1000000 in
theorem wshr_any (h l s : Int) (k : Nat) (hk : Clip s k) (b1 : -9223372036854775808 ≤ h ∧ h ≤ 9223372036854775807) (b2 : 0 ≤ l ∧ l ≤ 18446744073709551615) (w : World) :
    Calls Try.prog 23 #[.agg #[.int .i64 h, .int .u64 l], .int .i64 s] w fun e w' => ∃ h' l', Rep h' l' ((h * 18446744073709551616 + l) / 2 ^ k) ∧ e = .returned (.agg #[.int .i64 h', .int .u64 l']) ∧ Below w.heap.size w w' := by
  go_enter Try.func23, Try.ntmps23
  go_upto_region 1 with fail
  go_cut [1] (fun s1 wx => s1 = .int .i64 (k : Int) ∧ wx = (w.alloc (.cells #[.int .i64 h, .int .u64 l] 24)).alloc (.cells #[.int .i64 0, .int .u64 0] 24))
  case first =>
    rcases hk with ⟨h1, rfl⟩ | ⟨h1, h2, rfl⟩ | ⟨h1, rfl⟩
    · go_wp2
      go_meet
      exact ⟨rfl, rfl⟩
    · go_wp2
      go_meet
      exact ⟨rfl, rfl⟩
    · go_wp2
      go_meet
      exact ⟨rfl, rfl⟩
  case rest =>
    obtain ⟨rfl, rfl⟩ := hcut
    have hk2 : k ≤ 127 := by rcases hk with ⟨_, rfl⟩ | ⟨_, _, _⟩ | ⟨_, rfl⟩ <;> omega
    clear hk
    by_cases hbig : 64 ≤ k
    · have hb := div_bd (pow_pos2 (k - 64)) b1
      have hq := Lib.hid (quot_hi h l b2 k hbig)
      go_wp2_with fail
      refine (of_any hb.1 hb.2 _).mono ?_
      rintro e w1 ⟨h', l', R, rfl, hb1⟩
      rw [← hq.out] at R
      obtain ⟨c0, f0, hz⟩ := blkA (g := w.heap.size + 1) (t := 24) (cs := #[.int .i64 0, .int .u64 0]) hb1 (by repeat (first | (with_reducible refine heap_last _ _ ?_; simp; done) | refine heap_keep ?_))
      have hb' : Below w.heap.size w w1 := Below.trans (by repeat (first | (with_reducible exact Below.refl _ _) | (with_reducible assumption) | (with_reducible refine below_drewN ?_ _) | (with_reducible refine Below.drew ?_) | (with_reducible refine Below.setCell ?_ (by simp; try omega) _) | (with_reducible refine Below.alloc ?_ (by simp; try omega) _))) (hb1.mono (by simp; try omega))
      clear hb1
      go_wp2
      refine bodyPost_ret (v := .agg #[.int .i64 h', .int .u64 l']) (by simp [results, Try.results23, go_sem, c0]) rfl ⟨h', l', R, rfl, ?_⟩
      repeat (first | (with_reducible exact Below.refl _ _) | (with_reducible assumption) | (with_reducible refine below_drewN ?_ _) | (with_reducible refine Below.drew ?_) | (with_reducible refine Below.setCell ?_ (by simp; try omega) _) | (with_reducible refine Below.alloc ?_ (by simp; try omega) _))
    · obtain ⟨L, hL, R⟩ := quot_lo h l b2 k (by omega) b1
      go_wp2_with fail
      go_region
      go_wp2
      refine bodyPost_ret (v := .agg #[.int .i64 (h / 2 ^ k), .int .u64 L]) (by simp [results, Try.results23, go_sem]) rfl ⟨_, L, R, rfl, ?_⟩
      repeat (first | (with_reducible exact Below.refl _ _) | (with_reducible assumption) | (with_reducible refine below_drewN ?_ _) | (with_reducible refine Below.drew ?_) | (with_reducible refine Below.setCell ?_ (by simp; try omega) _) | (with_reducible refine Below.alloc ?_ (by simp; try omega) _))
end Go.Proofs.Ytmndafndopoelaa
