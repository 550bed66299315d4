/- The walk of WideLaws. -/
import Derived.Test.YtmndafndopoelaaTwo
namespace Go.Proofs.Ytmndafndopoelaa
open Go.RowKit

/-- The halves of a number, modulo 2^128. -/
def HH (Z : Int) : Int := (Z / 18446744073709551616 + 9223372036854775808) % 18446744073709551616 - 9223372036854775808
def LL (Z : Int) : Int := Z % 18446744073709551616

theorem rep_can (Z : Int) : Rep (HH Z) (LL Z) Z := by unfold HH LL; constructor <;> omega
theorem can_of {h l Z : Int} (r : Rep h l Z) : h = HH Z ∧ l = LL Z := by
  obtain ⟨a1, a2, a3, a4, a5⟩ := r
  unfold HH LL
  omega

theorem plus_c (S T : Int) (w : World) : Calls Try.prog 17 #[.agg #[.int .i64 (HH S), .int .u64 (LL S)], .agg #[.int .i64 (HH T), .int .u64 (LL T)]] w fun e w' => e = .returned (.agg #[.int .i64 (HH (S + T)), .int .u64 (LL (S + T))]) ∧ Below w.heap.size w w' := by
  refine (plus_any (rep_can S) (rep_can T) w).mono ?_
  rintro e w' ⟨h, l, r, rfl, hb⟩
  obtain ⟨rfl, rfl⟩ := can_of r
  exact ⟨rfl, hb⟩
theorem minus_c (S T : Int) (w : World) : Calls Try.prog 18 #[.agg #[.int .i64 (HH S), .int .u64 (LL S)], .agg #[.int .i64 (HH T), .int .u64 (LL T)]] w fun e w' => e = .returned (.agg #[.int .i64 (HH (S - T)), .int .u64 (LL (S - T))]) ∧ Below w.heap.size w w' := by
  refine (minus_any (rep_can S) (rep_can T) w).mono ?_
  rintro e w' ⟨h, l, r, rfl, hb⟩
  obtain ⟨rfl, rfl⟩ := can_of r
  exact ⟨rfl, hb⟩
theorem neg_c (S : Int) (w : World) : Calls Try.prog 20 #[.agg #[.int .i64 (HH S), .int .u64 (LL S)]] w fun e w' => e = .returned (.agg #[.int .i64 (HH (-S)), .int .u64 (LL (-S))]) ∧ Below w.heap.size w w' := by
  refine (neg_any (rep_can S) w).mono ?_
  rintro e w' ⟨h, l, r, rfl, hb⟩
  obtain ⟨rfl, rfl⟩ := can_of r
  exact ⟨rfl, hb⟩
theorem times_c (S n : Int) (hn : -9223372036854775808 ≤ n ∧ n ≤ 9223372036854775807) (w : World) : Calls Try.prog 11 #[.agg #[.int .i64 (HH S), .int .u64 (LL S)], .int .i64 n] w fun e w' => e = .returned (.agg #[.int .i64 (HH (S * n)), .int .u64 (LL (S * n))]) ∧ Below w.heap.size w w' := by
  refine (times_any (rep_can S) hn.1 hn.2 w).mono ?_
  rintro e w' ⟨h, l, r, rfl, hb⟩
  obtain ⟨rfl, rfl⟩ := can_of r
  exact ⟨rfl, hb⟩
theorem of_c (x : Int) (hn : -9223372036854775808 ≤ x ∧ x ≤ 9223372036854775807) (w : World) : Calls Try.prog 21 #[.int .i64 x] w fun e w' => e = .returned (.agg #[.int .i64 (HH x), .int .u64 (LL x)]) ∧ Below w.heap.size w w' := by
  refine (of_any hn.1 hn.2 w).mono ?_
  rintro e w' ⟨h, l, r, rfl, hb⟩
  obtain ⟨rfl, rfl⟩ := can_of r
  exact ⟨rfl, hb⟩

/-- Which one of two is more, behind a name. -/
def CC (X Y : Int) : Int := cmpW (HH X) (LL X) (HH Y) (LL Y)
theorem cmp_c (X Y : Int) (w : World) : Calls Try.prog 30 #[.agg #[.int .i64 (HH X), .int .u64 (LL X)], .agg #[.int .i64 (HH Y), .int .u64 (LL Y)]] w fun e w' => e = .returned (.int .i64 (CC X Y)) ∧ Below w.heap.size w w' := cmp_any _ _ _ _ w
theorem sgn3_turn (x y : Int) : sgn3 x y = -sgn3 y x := by unfold sgn3; repeat' split; all_goals omega
theorem sgn3_bd (x y : Int) : -1 ≤ sgn3 x y ∧ sgn3 x y ≤ 1 := by unfold sgn3; repeat' split; all_goals omega
theorem CC_turn (X Y : Int) : IntKind.i64.wrap (-CC Y X) = CC X Y := by
  unfold CC cmpW or3
  rw [sgn3_turn (HH X) (HH Y), sgn3_turn (LL X) (LL Y), IntKind.wrap_i64]
  have b1 := sgn3_bd (HH Y) (HH X)
  have b2 := sgn3_bd (LL Y) (LL X)
  generalize sgn3 (HH Y) (HH X) = u at *
  generalize sgn3 (LL Y) (LL X) = v at *
  split <;> split <;> omega
theorem CC_same (X : Int) : CC X X = 0 := by
  have h : ∀ x, sgn3 x x = 0 := fun x => by unfold sgn3; simp
  unfold CC cmpW or3
  rw [h, h]
  rfl

structure Three (w : World) (g : Nat) (X Y Z : Int) (W : World) : Prop where
  a0 : W.cell? ⟨w.heap.size, 0, none⟩ = some (.int .i64 (HH X))
  a1 : W.cell? ⟨w.heap.size, 1, none⟩ = some (.int .u64 (LL X))
  b0 : W.cell? ⟨w.heap.size + 1, 0, none⟩ = some (.int .i64 (HH Y))
  b1 : W.cell? ⟨w.heap.size + 1, 1, none⟩ = some (.int .u64 (LL Y))
  c0 : W.cell? ⟨g, 0, none⟩ = some (.int .i64 (HH Z))
  c1 : W.cell? ⟨g, 1, none⟩ = some (.int .u64 (LL Z))
  below : Below w.heap.size w W
  za : w.heap.size + 1 < W.heap.size
  zg : g < W.heap.size

theorem Three.step {w W W' : World} {g : Nat} {X Y Z : Int} (h : Three w g X Y Z W) (hb : Below W.heap.size W W') : Three w g X Y Z W' := by
  obtain ⟨a0, a1, b0, b1, c0, c1, bl, za, zg⟩ := h
  exact ⟨(hb.cell (p := ⟨w.heap.size, 0, none⟩) (Nat.lt_trans (Nat.lt_succ_self _) za)).trans a0, (hb.cell (p := ⟨w.heap.size, 1, none⟩) (Nat.lt_trans (Nat.lt_succ_self _) za)).trans a1,
    (hb.cell (p := ⟨w.heap.size + 1, 0, none⟩) za).trans b0, (hb.cell (p := ⟨w.heap.size + 1, 1, none⟩) za).trans b1, (hb.cell (p := ⟨g, 0, none⟩) zg).trans c0, (hb.cell (p := ⟨g, 1, none⟩) zg).trans c1,
    bl.trans (hb.mono bl.size), Nat.lt_of_lt_of_le za hb.size, Nat.lt_of_lt_of_le zg hb.size⟩
theorem Three.drew {w W : World} {g : Nat} {X Y Z : Int} (h : Three w g X Y Z W) : Three w g X Y Z W.drew := by
  obtain ⟨a0, a1, b0, b1, c0, c1, bl, za, zg⟩ := h
  exact ⟨a0, a1, b0, b1, c0, c1, bl.drew, za, zg⟩
theorem Three.start {w W : World} {X Y Z : Int} (h : Two w w.heap.size (w.heap.size + 1) (.int .i64 (HH X)) (.int .u64 (LL X)) (.int .i64 (HH Y)) (.int .u64 (LL Y)) W) : Three w W.heap.size X Y Z (W.alloc (.cells #[.int .i64 (HH Z), .int .u64 (LL Z)] 24)) := by
  have h2 := h.step (belowAlloc W (.cells #[.int .i64 (HH Z), .int .u64 (LL Z)] 24))
  obtain ⟨a0, a1, b0, b1, bl, z0, z1⟩ := h2
  obtain ⟨c, -, zc⟩ := blkA (Below.refl _ _) (heap_last W (.cells #[.int .i64 (HH Z), .int .u64 (LL Z)] 24) rfl)
  exact ⟨a0, a1, b0, b1, c 0, c 1, bl, z1, zc⟩
/-- The cells, one by one, for the walk. -/
theorem Three.cells {w W : World} {g : Nat} {X Y Z : Int} (h : Three w g X Y Z W) : W.cell? ⟨w.heap.size, 0, none⟩ = some (.int .i64 (HH X)) ∧ W.cell? ⟨w.heap.size, 1, none⟩ = some (.int .u64 (LL X)) ∧ W.cell? ⟨w.heap.size + 1, 0, none⟩ = some (.int .i64 (HH Y)) ∧ W.cell? ⟨w.heap.size + 1, 1, none⟩ = some (.int .u64 (LL Y)) ∧
    W.cell? ⟨g, 0, none⟩ = some (.int .i64 (HH Z)) ∧ W.cell? ⟨g, 1, none⟩ = some (.int .u64 (LL Z)) ∧ Three w g X Y Z W := ⟨h.a0, h.a1, h.b0, h.b1, h.c0, h.c1, h⟩
theorem Three.of {w W : World} {g : Nat} {X Y Z : Int} (h : W.cell? ⟨w.heap.size, 0, none⟩ = some (.int .i64 (HH X)) ∧ W.cell? ⟨w.heap.size, 1, none⟩ = some (.int .u64 (LL X)) ∧ W.cell? ⟨w.heap.size + 1, 0, none⟩ = some (.int .i64 (HH Y)) ∧ W.cell? ⟨w.heap.size + 1, 1, none⟩ = some (.int .u64 (LL Y)) ∧
    W.cell? ⟨g, 0, none⟩ = some (.int .i64 (HH Z)) ∧ W.cell? ⟨g, 1, none⟩ = some (.int .u64 (LL Z)) ∧ Three w g X Y Z W) : Three w g X Y Z W := h.2.2.2.2.2.2

set_option maxRecDepth 100000 in
set_option maxHeartbeats 8000000 in
theorem laws_core (n X Y : Int) (hn : -9223372036854775808 ≤ n ∧ n ≤ 9223372036854775807) (w : World) :
    Calls Try.prog 8 #[.agg #[.int .i64 (HH X), .int .u64 (LL X)], .agg #[.int .i64 (HH Y), .int .u64 (LL Y)], .int .i64 n] w fun e w' => e = .returned (.bool true) ∧ Below w.heap.size w w' := by
  go_enter Try.func8, Try.ntmps8
  go_wp2_with fail
  refine (awake_any _).mono ?_
  rintro e w1 ⟨rfl, hb⟩
  have kS := awake_two hb
  clear hb
  go_wp2_with fail
  refine (of_c n hn _).mono ?_
  rintro e w2 ⟨rfl, hb2⟩
  have kT := kS.step hb2
  clear kS hb2
  have kU := Three.start (Z := n) kT
  clear kT
  go_wp2_with fail
  simp only [List.append_eq, List.cons_append, List.nil_append]
  have e1 : Y + X = X + Y := Int.add_comm _ _
  have e2 : X + (Y + n) = X + Y + n := (Int.add_assoc _ _ _).symm
  have e3 : X + Y - Y = X := by omega
  have e4 : X + -X = 0 := by omega
  have e5 : X * n + Y * n = (X + Y) * n := (Int.add_mul _ _ _).symm
  have e6 : HH 0 = 0 := by decide
  have e7 : LL 0 = 0 := by decide
  have e8 := CC_turn X Y
  have e9 := CC_same X
  go_region_held3 (fun W => W.cell? ⟨w.heap.size, 0, none⟩ = some (.int .i64 (HH X)) ∧ W.cell? ⟨w.heap.size, 1, none⟩ = some (.int .u64 (LL X)) ∧ W.cell? ⟨w.heap.size + 1, 0, none⟩ = some (.int .i64 (HH Y)) ∧ W.cell? ⟨w.heap.size + 1, 1, none⟩ = some (.int .u64 (LL Y)) ∧
    W.cell? ⟨w2.heap.size, 0, none⟩ = some (.int .i64 (HH n)) ∧ W.cell? ⟨w2.heap.size, 1, none⟩ = some (.int .u64 (LL n)) ∧ Three w w2.heap.size X Y n W)
    (first | exact kU.drew.cells | exact (Three.step (Three.of (by assumption)) hb2).cells)
    (first
      | (go_at_call 17; refine (plus_c _ _ _).mono ?_; rintro e w3 ⟨rfl, hb2⟩)
      | (go_at_call 18; refine (minus_c _ _ _).mono ?_; rintro e w3 ⟨rfl, hb2⟩)
      | (go_at_call 20; refine (neg_c _ _).mono ?_; rintro e w3 ⟨rfl, hb2⟩)
      | (go_at_call 11; refine (times_c _ _ hn _).mono ?_; rintro e w3 ⟨rfl, hb2⟩)
      | (go_at_call 30; refine (cmp_c _ _ _).mono ?_; rintro e w3 ⟨rfl, hb2⟩))
  go_wp2
  go_ret
  exact ⟨rfl, (Three.of (W := w3) (by assumption)).below⟩

theorem laws_walk (h1 l1 h2 l2 n : Int) (a1 : -9223372036854775808 ≤ h1 ∧ h1 ≤ 9223372036854775807) (a2 : 0 ≤ l1 ∧ l1 ≤ 18446744073709551615) (a3 : -9223372036854775808 ≤ h2 ∧ h2 ≤ 9223372036854775807) (a4 : 0 ≤ l2 ∧ l2 ≤ 18446744073709551615) (hn : -9223372036854775808 ≤ n ∧ n ≤ 9223372036854775807) (w : World) :
    Calls Try.prog 8 #[.agg #[.int .i64 h1, .int .u64 l1], .agg #[.int .i64 h2, .int .u64 l2], .int .i64 n] w fun e w' => e = .returned (.bool true) ∧ Below w.heap.size w w' := by
  have r1 : Rep h1 l1 (h1 * 18446744073709551616 + l1) := by constructor <;> omega
  have r2 : Rep h2 l2 (h2 * 18446744073709551616 + l2) := by constructor <;> omega
  obtain ⟨e1, e2⟩ := can_of r1
  obtain ⟨e3, e4⟩ := can_of r2
  have c := laws_core n (h1 * 18446744073709551616 + l1) (h2 * 18446744073709551616 + l2) hn w
  rw [← e1, ← e2, ← e3, ← e4] at c
  exact c
end Go.Proofs.Ytmndafndopoelaa
