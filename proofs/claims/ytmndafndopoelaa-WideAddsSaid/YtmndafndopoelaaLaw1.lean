import Derived.Test.YtmndafndopoelaaEq
import Derived.Deep.RegionHeld3
namespace Go.Proofs.Ytmndafndopoelaa
open Go.RowKit

theorem rep_m1 {h l : Int} (r : Rep h l (-1 * 1)) : h = -1 ∧ l = 18446744073709551615 := by
  obtain ⟨h1, h2, h3, h4, h5⟩ := r
  omega

set_option maxHeartbeats 1000000 in
theorem awake_any (w : World) : Calls Try.prog 9 #[] w fun e w' => e = .returned (.bool true) ∧ Below w.heap.size w w' := by
  go_enter Try.func9, Try.ntmps9
  go_wp2_with fail
  refine (wmul_any (by omega) (by omega) (by omega) (by omega) _).mono ?_
  rintro e w1 ⟨h, l, R, rfl, hb⟩
  obtain ⟨rfl, rfl⟩ := rep_m1 R
  clear R
  go_wp2
  go_ret
  exact ⟨rfl, hb⟩

theorem stepS {w W w2 : World} {hi lo : Int} (h : W.cell? ⟨w.heap.size, 0, none⟩ = some (.int .i64 hi) ∧ W.cell? ⟨w.heap.size, 1, none⟩ = some (.int .u64 lo) ∧ Below w.heap.size w W ∧ w.heap.size < W.heap.size) (hb : Below W.heap.size W w2) :
    w2.cell? ⟨w.heap.size, 0, none⟩ = some (.int .i64 hi) ∧ w2.cell? ⟨w.heap.size, 1, none⟩ = some (.int .u64 lo) ∧ Below w.heap.size w w2 ∧ w.heap.size < w2.heap.size :=
  ⟨(hb.cell (p := ⟨w.heap.size, 0, none⟩) h.2.2.2).trans h.1, (hb.cell (p := ⟨w.heap.size, 1, none⟩) h.2.2.2).trans h.2.1, h.2.2.1.trans (hb.mono (Nat.le_of_lt h.2.2.2)), Nat.lt_of_lt_of_le h.2.2.2 hb.size⟩

theorem endS {w W : World} {hi lo : Int} (h : W.cell? ⟨w.heap.size, 0, none⟩ = some (.int .i64 hi) ∧ W.cell? ⟨w.heap.size, 1, none⟩ = some (.int .u64 lo) ∧ Below w.heap.size w W ∧ w.heap.size < W.heap.size) : Below w.heap.size w W := h.2.2.1

set_option maxHeartbeats 4000000 in
theorem muls_walk (hi lo n m : Int) (h1 : -9223372036854775808 ≤ hi ∧ hi ≤ 9223372036854775807) (h2 : 0 ≤ lo ∧ lo ≤ 18446744073709551615) (h3 : -9223372036854775808 ≤ n ∧ n ≤ 9223372036854775807) (h4 : -9223372036854775808 ≤ m ∧ m ≤ 9223372036854775807) (w : World) :
    Calls Try.prog 3 #[.agg #[.int .i64 hi, .int .u64 lo], .int .i64 n, .int .i64 m] w fun e w' => e = .returned (.bool true) ∧ Below w.heap.size w w' := by
  have R : Rep hi lo (hi * 18446744073709551616 + lo) := by constructor <;> omega
  obtain ⟨X, hX⟩ : ∃ X, X = hi * 18446744073709551616 + lo := ⟨_, rfl⟩
  rw [← hX] at R
  clear hX
  go_enter Try.func3, Try.ntmps3
  go_wp2_with fail
  refine (awake_any _).mono ?_
  rintro e w1 ⟨rfl, hb⟩
  obtain ⟨c0, f0, hz⟩ := blkA (g := w.heap.size) (t := 24) (cs := #[.int .i64 hi, .int .u64 lo]) hb (by repeat (first | (with_reducible refine heap_last _ _ ?_; simp; done) | refine heap_keep ?_))
  have k0 : w1.cell? ⟨w.heap.size, 0, none⟩ = some (.int .i64 hi) := c0 0
  have k1 : w1.cell? ⟨w.heap.size, 1, none⟩ = some (.int .u64 lo) := c0 1
  have hb' : Below w.heap.size w w1 := Below.trans (by repeat (first | (with_reducible exact Below.refl _ _) | (with_reducible assumption) | (with_reducible refine below_drewN ?_ _) | (with_reducible refine Below.drew ?_) | (with_reducible refine Below.setCell ?_ (by (try simp); (try omega)) _) | (with_reducible refine Below.alloc ?_ (by (try simp); (try omega)) _))) (hb.mono (by simp; try omega))
  clear hb c0 f0
  have eqr := eqD_refl
  have eqg := guardD
  go_wp2_with fail
  go_region_held3 (fun w' => w'.cell? ⟨w.heap.size, 0, none⟩ = some (.int .i64 hi) ∧ w'.cell? ⟨w.heap.size, 1, none⟩ = some (.int .u64 lo) ∧ Below w.heap.size w w' ∧ w.heap.size < w'.heap.size)
    (first | exact ⟨k0, k1, hb'.drew, hz⟩ | (refine stepS ?_ hb2; assumption))
    (first
      | (go_at_call 11; refine (times_any (by assumption) h3.1 h3.2 _).mono ?_; rintro e w2 ⟨h', l', R', rfl, hb2⟩)
      | (go_at_call 10; refine (big_any (by assumption) _).mono ?_; rintro e w2 ⟨rfl, hb2⟩)
      | (go_at_call 13; refine (number_any (by omega) (by omega) _).mono ?_; rintro e w2 ⟨rfl, hb2⟩)
      | (go_at_call 12; refine (bmul_any _ _ _).mono ?_; rintro e w2 ⟨rfl, hb2⟩)
      | (go_at_call 14; refine (wmul_any h3.1 h3.2 h4.1 h4.2 _).mono ?_; rintro e w2 ⟨h', l', R', rfl, hb2⟩))
  go_wp2
  go_ret
  exact ⟨rfl, endS (by assumption)⟩
end Go.Proofs.Ytmndafndopoelaa
