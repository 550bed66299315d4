/- Contracts: a wide number's Int and Sat; fix.Sat. -/
import Derived.Test.YtmndafndopoelaaTells1
import Derived.Laws.Shifts
namespace Go.Proofs.Ytmndafndopoelaa
open Go.RowKit

theorem rep_exact {h l x : Int} (r : Rep h l x) (h1 : -9223372036854775808 ≤ x) (h2 : x ≤ 9223372036854775807) : h = x / 9223372036854775808 ∧ l = x % 18446744073709551616 := by
  obtain ⟨a1, a2, a3, a4, a5⟩ := r
  omega

set_option maxHeartbeats 1000000 in
theorem int_yes {hi lo x : Int} (h0 : 0 ≤ lo ∧ lo ≤ 18446744073709551615) (hx : wrap64 lo = x) (hh : hi = x / 9223372036854775808) (w : World) :
    Calls Try.prog 28 #[.agg #[.int .i64 hi, .int .u64 lo]] w fun e w' => e = .returned (.tuple #[.int .i64 x, .bool true]) ∧ Below w.heap.size w w' := by
  have hb : -9223372036854775808 ≤ x ∧ x ≤ 9223372036854775807 := by subst hx; unfold wrap64; omega
  have hx2 : IntKind.i64.wrap lo = x := by rw [IntKind.wrap_i64, ← hx]; unfold wrap64; rfl
  have hl : x % 18446744073709551616 = lo := by subst hx; unfold wrap64; omega
  subst hh
  have cb := blkA (g := w.heap.size) (t := 24) (cs := #[.int .i64 (x / 9223372036854775808), .int .u64 lo]) (Below.refl _ _) (heap_last w _ rfl)
  go_enter Try.func28, Try.ntmps28
  go_wp2_with fail
  go_region_held3 (fun w' => w'.cell? ⟨w.heap.size, 0, none⟩ = some (.int .i64 (x / 9223372036854775808)) ∧ w'.cell? ⟨w.heap.size, 1, none⟩ = some (.int .u64 lo) ∧ Below w.heap.size w w' ∧ w.heap.size < w'.heap.size)
    (first | exact ⟨cb.1 0, cb.1 1, (belowAlloc _ _).drew, cb.2.2⟩ | (refine stepS ?_ hb2; assumption))
    (first
      | (go_at_call 21; refine (of_any hb.1 hb.2 _).mono ?_; rintro e w2 ⟨h, l, R, rfl, hb2⟩; obtain ⟨rfl, rfl⟩ := rep_exact R hb.1 hb.2))
  go_wp2
  go_ret2
  exact ⟨rfl, endS (by assumption)⟩

theorem not_i64 {T U : Int} (h0 : 0 ≤ T) (h1 : T ≤ 9223372036854775807) (hU : U = -(T + 1)) : bits .xor .i64 (-1) T = U := by
  obtain ⟨t, rfl⟩ := Int.eq_ofNat_of_zero_le h0
  show IntKind.i64.wrap ((BitVec.ofInt 64 (-1) ^^^ BitVec.ofInt 64 (t : Int)).toNat : Int) = U
  have e : BitVec.ofInt 64 (-1) ^^^ BitVec.ofInt 64 (t : Int) = ~~~ (BitVec.ofInt 64 (t : Int)) := by
    have : BitVec.ofInt 64 (-1) = BitVec.allOnes 64 := by decide
    rw [this, BitVec.allOnes_xor]
  rw [e, BitVec.toNat_not, BitVec.ofInt_natCast, BitVec.toNat_ofNat, IntKind.wrap_i64]
  omega

set_option maxHeartbeats 2000000 in
theorem fixsat_core (x n P U : Int) (k : Nat) (hP : (2 : Int) ^ k = P) (hU : U = -P) (h1 : 1 ≤ P) (h2 : P ≤ 4611686018427387904) (hn : (n < 1 ∧ k = 0) ∨ (1 ≤ n ∧ n ≤ 63 ∧ n = k + 1) ∨ (63 < n ∧ k = 62)) (w : World) :
    Calls Try.prog 43 #[.int .i64 x, .int .i64 n] w fun e w' => e = .returned (.int .i64 (held3 x U (P - 1))) ∧ w = w' := by
  have hs : IntKind.i64.signed = true := rfl
  unfold held3
  rcases hn with ⟨hn, rfl⟩ | ⟨hn, hn2, rfl⟩ | ⟨hn, rfl⟩
  · simp at hP
    subst hP
    obtain rfl : U = -1 := by omega
    have hxor : bits .xor .i64 (-1) 0 = -1 := not_i64 (by omega) (by omega) (by omega)
    rw [show (1 : Int) - 1 = 0 from rfl]
    by_cases c1 : x < -1
    · rw [if_pos c1]
      go_enter Try.func43, Try.ntmps43
      go_wp2
      go_ret
      exact ⟨rfl, rfl⟩
    · rw [if_neg c1]
      by_cases c2 : 0 < x
      · rw [if_pos c2]
        go_enter Try.func43, Try.ntmps43
        go_wp2
        go_ret
        exact ⟨rfl, rfl⟩
      · rw [if_neg c2]
        go_enter Try.func43, Try.ntmps43
        go_wp2
        go_ret
        exact ⟨rfl, rfl⟩
  · have hw : wrap64 P = P := by unfold wrap64; omega
    have hw2 : wrap64 (P - 1) = P - 1 := by unfold wrap64; omega
    have hxor : bits .xor .i64 (-1) (P - 1) = U := not_i64 (by omega) (by omega) (by omega)
    have hu1 : U ≤ P - 1 := by omega
    clear hU
    by_cases c1 : x < U
    · rw [if_pos c1]
      go_enter Try.func43, Try.ntmps43
      go_wp2
      go_ret
      exact ⟨rfl, rfl⟩
    · rw [if_neg c1]
      by_cases c2 : P - 1 < x
      · rw [if_pos c2]
        go_enter Try.func43, Try.ntmps43
        go_wp2
        go_ret
        exact ⟨rfl, rfl⟩
      · rw [if_neg c2]
        go_enter Try.func43, Try.ntmps43
        go_wp2
        go_ret
        exact ⟨rfl, rfl⟩
  · obtain rfl : P = 4611686018427387904 := by rw [← hP]; decide
    obtain rfl : U = -4611686018427387904 := by omega
    have hxor : bits .xor .i64 (-1) 4611686018427387903 = -4611686018427387904 := not_i64 (by omega) (by omega) (by omega)
    rw [show (4611686018427387904 : Int) - 1 = 4611686018427387903 from rfl]
    clear hP hU
    by_cases c1 : x < -4611686018427387904
    · rw [if_pos c1]
      go_enter Try.func43, Try.ntmps43
      go_wp2
      go_ret
      exact ⟨rfl, rfl⟩
    · rw [if_neg c1]
      by_cases c2 : 4611686018427387903 < x
      · rw [if_pos c2]
        go_enter Try.func43, Try.ntmps43
        go_wp2
        go_ret
        exact ⟨rfl, rfl⟩
      · rw [if_neg c2]
        go_enter Try.func43, Try.ntmps43
        go_wp2
        go_ret
        exact ⟨rfl, rfl⟩


set_option maxHeartbeats 1000000 in
theorem int_no {hi lo x : Int} (hx : wrap64 lo = x) (hh : (x / 9223372036854775808 == hi) = false) (w : World) :
    Calls Try.prog 28 #[.agg #[.int .i64 hi, .int .u64 lo]] w fun e w' => e = .returned (.tuple #[.int .i64 0, .bool false]) ∧ Below w.heap.size w w' := by
  have hb : -9223372036854775808 ≤ x ∧ x ≤ 9223372036854775807 := by subst hx; unfold wrap64; omega
  have hx2 : IntKind.i64.wrap lo = x := by rw [IntKind.wrap_i64, ← hx]; unfold wrap64; rfl
  have cb := blkA (g := w.heap.size) (t := 24) (cs := #[.int .i64 hi, .int .u64 lo]) (Below.refl _ _) (heap_last w _ rfl)
  go_enter Try.func28, Try.ntmps28
  go_wp2_with fail
  go_region_held3 (fun w' => w'.cell? ⟨w.heap.size, 0, none⟩ = some (.int .i64 hi) ∧ w'.cell? ⟨w.heap.size, 1, none⟩ = some (.int .u64 lo) ∧ Below w.heap.size w w' ∧ w.heap.size < w'.heap.size)
    (first | exact ⟨cb.1 0, cb.1 1, (belowAlloc _ _).drew, cb.2.2⟩ | (refine stepS ?_ hb2; assumption))
    (first
      | (go_at_call 21; refine (of_any hb.1 hb.2 _).mono ?_; rintro e w2 ⟨h, l, R, rfl, hb2⟩; obtain ⟨rfl, rfl⟩ := rep_exact R hb.1 hb.2))
  go_wp2
  go_ret2
  exact ⟨rfl, endS (by assumption)⟩

theorem fixsat_any (x n P U : Int) (k : Nat) (hP : (2 : Int) ^ k = P) (hU : U = -P) (h1 : 1 ≤ P) (h2 : P ≤ 4611686018427387904) (hn : (n < 1 ∧ k = 0) ∨ (1 ≤ n ∧ n ≤ 63 ∧ n = k + 1) ∨ (63 < n ∧ k = 62)) (y : Int) (hy : held3 x U (P - 1) = y) (w : World) :
    Calls Try.prog 43 #[.int .i64 x, .int .i64 n] w fun e w' => e = .returned (.int .i64 y) ∧ w = w' := by
  subst hy
  exact fixsat_core x n P U k hP hU h1 h2 hn w

set_option maxHeartbeats 2000000 in
/-- Sat is the value, held. -/
theorem sat_any (hi lo n P U y : Int) (k : Nat) (b1 : -9223372036854775808 ≤ hi ∧ hi ≤ 9223372036854775807) (b2 : 0 ≤ lo ∧ lo ≤ 18446744073709551615) (hP : (2 : Int) ^ k = P) (hU : U = -P) (h1 : 1 ≤ P) (h2 : P ≤ 4611686018427387904) (hn : (n < 1 ∧ k = 0) ∨ (1 ≤ n ∧ n ≤ 63 ∧ n = k + 1) ∨ (63 < n ∧ k = 62))
    (hy : held3 (hi * 18446744073709551616 + lo) U (P - 1) = y) (w : World) :
    Calls Try.prog 31 #[.agg #[.int .i64 hi, .int .u64 lo], .int .i64 n] w fun e w' => e = .returned (.int .i64 y) ∧ Below w.heap.size w w' := by
  obtain ⟨x, hx⟩ : ∃ x, wrap64 lo = x := ⟨_, rfl⟩
  have hx' := hx
  unfold wrap64 at hx'
  by_cases hfit : hi = x / 9223372036854775808
  · have hv : hi * 18446744073709551616 + lo = x := by omega
    rw [hv] at hy
    have c43 := fun w => fixsat_any x n P U k hP hU h1 h2 hn y hy w
    have c28 := fun w => int_yes b2 hx hfit w
    clear hx' hv hP hU hn hy hx hfit
    go_enter Try.func31, Try.ntmps31
    go_wp2_with (first | (go_at_call 28; refine (c28 _).mono ?_; rintro e w2 ⟨rfl, hb2⟩) | (go_at_call 43; refine (c43 _).mono ?_; rintro e w3 ⟨rfl, rfl⟩))
    go_ret
    exact ⟨rfl, (belowAlloc _ _).trans (hb2.mono (by simp))⟩
  · have hne : (x / 9223372036854775808 == hi) = false := by simp; omega
    have c28 := fun w => int_no hx hne w
    by_cases hneg : hi < 0
    · have hy2 : held3 (-9223372036854775808) U (P - 1) = y := by
        unfold held3 at hy ⊢
        rw [if_pos (by omega)] at hy ⊢
        exact hy
      have c43 := fun w => fixsat_any (-9223372036854775808) n P U k hP hU h1 h2 hn y hy2 w
      clear hx' hP hU hn hy hx hfit hy2 hne
      go_enter Try.func31, Try.ntmps31
      go_wp2_with fail
      refine (c28 _).mono ?_
      rintro e w2 ⟨rfl, hb2⟩
      obtain ⟨k0, f0, hz⟩ := blkA (g := w.heap.size) (t := 24) (cs := #[.int .i64 hi, .int .u64 lo]) hb2 (heap_last w _ rfl)
      have k1 : w2.cell? ⟨w.heap.size, 0, none⟩ = some (.int .i64 hi) := k0 0
      clear k0 f0
      go_wp2_with (go_at_call 43; refine (c43 _).mono ?_; rintro e w3 ⟨rfl, rfl⟩)
      go_ret
      exact ⟨rfl, (belowAlloc _ _).trans (hb2.mono (by simp))⟩
    · have hy2 : held3 9223372036854775807 U (P - 1) = y := by
        unfold held3 at hy ⊢
        rw [if_neg (by omega), if_pos (by omega)] at hy ⊢
        exact hy
      have c43 := fun w => fixsat_any 9223372036854775807 n P U k hP hU h1 h2 hn y hy2 w
      clear hx' hP hU hn hy hx hfit hy2 hne
      go_enter Try.func31, Try.ntmps31
      go_wp2_with fail
      refine (c28 _).mono ?_
      rintro e w2 ⟨rfl, hb2⟩
      obtain ⟨k0, f0, hz⟩ := blkA (g := w.heap.size) (t := 24) (cs := #[.int .i64 hi, .int .u64 lo]) hb2 (heap_last w _ rfl)
      have k1 : w2.cell? ⟨w.heap.size, 0, none⟩ = some (.int .i64 hi) := k0 0
      clear k0 f0
      go_wp2_with (go_at_call 43; refine (c43 _).mono ?_; rintro e w3 ⟨rfl, rfl⟩)
      go_ret
      exact ⟨rfl, (belowAlloc _ _).trans (hb2.mono (by simp))⟩
end Go.Proofs.Ytmndafndopoelaa
