/- Contracts: a wide number's Cmp, Int and Sat; fix.Sat; the reference's Held, Bits, Pow. -/
import Derived.Test.YtmndafndopoelaaTells0
import Derived.LoopTactic
namespace Go.Proofs.Ytmndafndopoelaa
open Go.RowKit

def or3 (x y : Int) : Int := if x = 0 then y else x

theorem or_new (W : World) (g : Nat) (x y : Int) (hg : g = W.heap.size) : Calls Try.prog 40 #[.slice (some ⟨g, 0, none⟩) 2 2] (W.alloc (.cells #[.int .i64 x, .int .i64 y] 3)).drew fun e w' => e = .returned (.int .i64 (or3 x y)) ∧ (W.alloc (.cells #[.int .i64 x, .int .i64 y] 3)).drew = w' :=
  or_any g x y _ (blkA (w' := (W.alloc (.cells #[.int .i64 x, .int .i64 y] 3)).drew) ((Below.refl _ _).drew) (heap_last W _ hg) |>.1 0) (blkA (w' := (W.alloc (.cells #[.int .i64 x, .int .i64 y] 3)).drew) ((Below.refl _ _).drew) (heap_last W _ hg) |>.1 1)

/-- Which one of two wide numbers is more. -/
def cmpW (h1 l1 h2 l2 : Int) : Int := or3 (sgn3 h1 h2) (sgn3 l1 l2)

set_option maxHeartbeats 1000000 in
theorem cmp_any (h1 l1 h2 l2 : Int) (w : World) : Calls Try.prog 30 #[.agg #[.int .i64 h1, .int .u64 l1], .agg #[.int .i64 h2, .int .u64 l2]] w fun e w' => e = .returned (.int .i64 (cmpW h1 l1 h2 l2)) ∧ Below w.heap.size w w' := by
  go_enter Try.func30, Try.ntmps30
  go_wp2_with fail
  go_region_held3 (fun w' => w'.cell? ⟨w.heap.size, 0, none⟩ = some (.int .i64 h1) ∧ w'.cell? ⟨w.heap.size, 1, none⟩ = some (.int .u64 l1) ∧ w'.cell? ⟨w.heap.size + 1, 0, none⟩ = some (.int .i64 h2) ∧ w'.cell? ⟨w.heap.size + 1, 1, none⟩ = some (.int .u64 l2))
    (first | go_keep | (simp [World.cell?_alloc_some, *]))
    (first
      | (go_at_call 41; refine (cmp64_any _ _ _).mono ?_; rintro e w2 ⟨rfl, rfl⟩)
      | (go_at_call 42; refine (cmpu64_any _ _ _).mono ?_; rintro e w2 ⟨rfl, rfl⟩)
      | (go_at_call 40; refine (or_new _ _ _ _ ?_).mono ?_; simp; rintro e w2 ⟨rfl, rfl⟩))
  go_wp2
  go_ret
  refine ⟨rfl, ?_⟩
  repeat (first | (with_reducible exact Below.refl _ _) | (with_reducible assumption) | (with_reducible refine below_drewN ?_ _) | (with_reducible refine Below.drew ?_) | (with_reducible refine Below.setCell ?_ (by simp; try omega) _) | (with_reducible refine Below.alloc ?_ (by simp; try omega) _))

def held3 (x lo hi : Int) : Int := if x < lo then lo else if hi < x then hi else x

set_option maxHeartbeats 1000000 in
theorem held_any (x lo hi : Int) (w : World) : Calls Try.prog 37 #[.int .i64 x, .int .i64 lo, .int .i64 hi] w fun e w' => e = .returned (.int .i64 (held3 x lo hi)) ∧ w = w' := by
  unfold held3
  by_cases h : x < lo
  · rw [if_pos h]
    go_enter Try.func37, Try.ntmps37
    go_wp2
    go_ret
    exact ⟨rfl, rfl⟩
  · rw [if_neg h]
    by_cases h2 : hi < x
    · rw [if_pos h2]
      go_enter Try.func37, Try.ntmps37
      go_wp2
      go_ret
      exact ⟨rfl, rfl⟩
    · rw [if_neg h2]
      go_enter Try.func37, Try.ntmps37
      go_wp2
      go_ret
      exact ⟨rfl, rfl⟩

theorem bits_any (x lo hi : Int) (w : World) : Calls Try.prog 22 #[.int .i64 x, .int .i64 lo, .int .i64 hi] w fun e w' => e = .returned (.int .i64 (held3 x lo hi)) ∧ w = w' := by
  go_enter Try.func22, Try.ntmps22
  go_wp2_with (go_at_call 37; refine (held_any _ _ _ _).mono ?_; rintro e w2 ⟨rfl, rfl⟩)
  go_ret
  exact ⟨rfl, rfl⟩

set_option maxHeartbeats 1000000 in
theorem pow_any (n : Nat) (hn : n ≤ 62) (w : World) : Calls Try.prog 29 #[.int .i64 n] w fun e w' => e = .returned (.int .i64 (2 ^ n)) ∧ w = w' := by
  go_enter Try.func29, Try.ntmps29
  go_wp2
  go_loop [3, 4] (fun p i => ∃ k : Nat, k ≤ n ∧ i = .int .i64 k ∧ p = .int .i64 (2 ^ k)) (fun _ i => n - (intOf i).toNat)
  case atStart => exact ⟨0, Nat.zero_le _, rfl, rfl⟩
  case round =>
    obtain ⟨k, hk, rfl, rfl⟩ := hrel
    by_cases hlt : k < n
    · have e : (2 : Int) ^ (k + 1) = 2 ^ k * 2 := Int.pow_succ ..
      have hb : (2 : Int) ^ k ≤ 2 ^ 61 := by exact_mod_cast Nat.pow_le_pow_right (by omega) (by omega)
      have hp : (0 : Int) < 2 ^ k := Int.pow_pos (by omega)
      obtain ⟨p, hpe⟩ : ∃ p : Int, p = 2 ^ k := ⟨_, rfl⟩
      rw [← hpe] at hb hp e ⊢
      have hb2 : p ≤ 2305843009213693952 := hb
      have H := Lib.hid e
      clear e hpe hb
      go_wp2
      refine ⟨⟨k + 1, by omega, by go_num, by rw [H.out]⟩, by simp [intOf]; omega⟩
    · obtain rfl : k = n := by omega
      go_wp2
      go_ret
      exact ⟨rfl, rfl⟩
end Go.Proofs.Ytmndafndopoelaa
