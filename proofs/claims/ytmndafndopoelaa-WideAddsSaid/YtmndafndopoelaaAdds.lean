/- The law WideAdds: its walk, the first drawn region by an invariant. -/
import Derived.Test.YtmndafndopoelaaInv
import Derived.Deep.DeepCutAuto
import Derived.Deep.RegionWith
import Derived.Deep.RegionHeld3
namespace Go.Proofs.Ytmndafndopoelaa
open Go.RowKit

theorem bcell {W w1 : World} (hb : Below W.heap.size W w1) : (∀ b o, b < W.heap.size → w1.cell? ⟨b, o, none⟩ = W.cell? ⟨b, o, none⟩) ∧ (∀ b o, b < W.heap.size → w1.frozen? ⟨b, o, none⟩ = W.frozen? ⟨b, o, none⟩) :=
  ⟨fun b o h => hb.cell (p := ⟨b, o, none⟩) h, fun b o h => hb.frozen (p := ⟨b, o, none⟩) h⟩
def DC (X : Int) : Array Value := #[.int .i64 (X % 65536), .int .i64 (X / 65536 % 65536), .int .i64 (X / 4294967296 % 65536), .int .i64 (X / 281474976710656 % 65536),
  .int .i64 (X / 18446744073709551616 % 65536), .int .i64 (X / 1208925819614629174706176 % 65536), .int .i64 (X / 79228162514264337593543950336 % 65536), .int .i64 (X / 5192296858534827628530496329220096 % 65536)]
theorem DC_zero : DC 0 = #[.int .i64 0, .int .i64 0, .int .i64 0, .int .i64 0, .int .i64 0, .int .i64 0, .int .i64 0, .int .i64 0] := by
  unfold DC
  simp
theorem add_exp (S y : Int) (w : World) : Calls Try.prog 15 #[D S, D y] w fun e w' => e = .returned (.agg #[.int .i64 ((S + y) % 65536), .int .i64 ((S + y) / 65536 % 65536), .int .i64 ((S + y) / 4294967296 % 65536), .int .i64 ((S + y) / 281474976710656 % 65536),
  .int .i64 ((S + y) / 18446744073709551616 % 65536), .int .i64 ((S + y) / 1208925819614629174706176 % 65536), .int .i64 ((S + y) / 79228162514264337593543950336 % 65536), .int .i64 ((S + y) / 5192296858534827628530496329220096 % 65536)]) ∧ Below w.heap.size w w' := add_any S y w
theorem blk8 {W : World} {g : Nat} {t : TypeId} {a0 a1 a2 a3 a4 a5 a6 a7 : Value} (h : Blk W g t #[a0, a1, a2, a3, a4, a5, a6, a7]) (u0 u1 u2 u3 u4 u5 u6 u7 : Value) :
    Blk ((((((((W.setCell ⟨g, 0, none⟩ u0).setCell ⟨g, 1, none⟩ u1).setCell ⟨g, 2, none⟩ u2).setCell ⟨g, 3, none⟩ u3).setCell ⟨g, 4, none⟩ u4).setCell ⟨g, 5, none⟩ u5).setCell ⟨g, 6, none⟩ u6).setCell ⟨g, 7, none⟩ u7) g t #[u0, u1, u2, u3, u4, u5, u6, u7] := by
  have := (((((((h.set_ 0 u0).set_ 1 u1).set_ 2 u2).set_ 3 u3).set_ 4 u4).set_ 5 u5).set_ 6 u6).set_ 7 u7
  simpa using this
theorem blkcells {W : World} {g : Nat} {X : Int} (h : Blk W g 27 (DC X)) : W.cell? ⟨g, 0, none⟩ = some (.int .i64 (X % 65536)) ∧ W.cell? ⟨g, 1, none⟩ = some (.int .i64 (X / 65536 % 65536)) ∧ W.cell? ⟨g, 2, none⟩ = some (.int .i64 (X / 4294967296 % 65536)) ∧
    W.cell? ⟨g, 3, none⟩ = some (.int .i64 (X / 281474976710656 % 65536)) ∧ W.cell? ⟨g, 4, none⟩ = some (.int .i64 (X / 18446744073709551616 % 65536)) ∧ W.cell? ⟨g, 5, none⟩ = some (.int .i64 (X / 1208925819614629174706176 % 65536)) ∧
    W.cell? ⟨g, 6, none⟩ = some (.int .i64 (X / 79228162514264337593543950336 % 65536)) ∧ W.cell? ⟨g, 7, none⟩ = some (.int .i64 (X / 5192296858534827628530496329220096 % 65536)) ∧ (∀ i, W.frozen? ⟨g, i, none⟩ = false) ∧ g < W.heap.size ∧ Hid (Blk W g 27 (DC X)) :=
  ⟨h.cell 0, h.cell 1, h.cell 2, h.cell 3, h.cell 4, h.cell 5, h.cell 6, h.cell 7, h.frozen, h.lt, Lib.hid h⟩

theorem eqS (X : Int) (w : World) : (Op.equalIn 10000 27 (.agg #[.int .i64 (X % 65536), .int .i64 (X / 65536 % 65536), .int .i64 (X / 4294967296 % 65536), .int .i64 (X / 281474976710656 % 65536),
  .int .i64 (X / 18446744073709551616 % 65536), .int .i64 (X / 1208925819614629174706176 % 65536), .int .i64 (X / 79228162514264337593543950336 % 65536), .int .i64 (X / 5192296858534827628530496329220096 % 65536)])
  (.agg #[.int .i64 (X % 65536), .int .i64 (X / 65536 % 65536), .int .i64 (X / 4294967296 % 65536), .int .i64 (X / 281474976710656 % 65536),
  .int .i64 (X / 18446744073709551616 % 65536), .int .i64 (X / 1208925819614629174706176 % 65536), .int .i64 (X / 79228162514264337593543950336 % 65536), .int .i64 (X / 5192296858534827628530496329220096 % 65536)])).run Try.prog w = .ok true w := by
  have h := eq8 (X % 65536) (X / 65536 % 65536) (X / 4294967296 % 65536) (X / 281474976710656 % 65536) (X / 18446744073709551616 % 65536) (X / 1208925819614629174706176 % 65536) (X / 79228162514264337593543950336 % 65536) (X / 5192296858534827628530496329220096 % 65536) (X % 65536) (X / 65536 % 65536) (X / 4294967296 % 65536) (X / 281474976710656 % 65536) (X / 18446744073709551616 % 65536) (X / 1208925819614629174706176 % 65536) (X / 79228162514264337593543950336 % 65536) (X / 5192296858534827628530496329220096 % 65536) w
  simpa [Op.equal, Op.maxDepth] using h


theorem c10 (Z : Int) (w : World) : Calls Try.prog 10 #[.agg #[.int .i64 (HH Z), .int .u64 (LL Z)]] w fun e w' => e = .returned (.agg #[.int .i64 (Z % 65536), .int .i64 (Z / 65536 % 65536), .int .i64 (Z / 4294967296 % 65536), .int .i64 (Z / 281474976710656 % 65536), .int .i64 (Z / 18446744073709551616 % 65536), .int .i64 (Z / 1208925819614629174706176 % 65536), .int .i64 (Z / 79228162514264337593543950336 % 65536), .int .i64 (Z / 5192296858534827628530496329220096 % 65536)]) ∧ Below w.heap.size w w' := big_c Z w
theorem c17 (X Y Z : Int) (h : X + Y = Z) (w : World) : Calls Try.prog 17 #[.agg #[.int .i64 (HH X), .int .u64 (LL X)], .agg #[.int .i64 (HH Y), .int .u64 (LL Y)]] w fun e w' => e = .returned (.agg #[.int .i64 (HH Z), .int .u64 (LL Z)]) ∧ Below w.heap.size w w' := h ▸ plus_c X Y w
theorem c18 (X Y Z : Int) (h : X - Y = Z) (w : World) : Calls Try.prog 18 #[.agg #[.int .i64 (HH X), .int .u64 (LL X)], .agg #[.int .i64 (HH Y), .int .u64 (LL Y)]] w fun e w' => e = .returned (.agg #[.int .i64 (HH Z), .int .u64 (LL Z)]) ∧ Below w.heap.size w w' := h ▸ minus_c X Y w
theorem c20 (X Z : Int) (h : -X = Z) (w : World) : Calls Try.prog 20 #[.agg #[.int .i64 (HH X), .int .u64 (LL X)]] w fun e w' => e = .returned (.agg #[.int .i64 (HH Z), .int .u64 (LL Z)]) ∧ Below w.heap.size w w' := h ▸ neg_c X w
theorem c15 (X Y Z : Int) (h : X + Y = Z) (w : World) : Calls Try.prog 15 #[.agg #[.int .i64 (X % 65536), .int .i64 (X / 65536 % 65536), .int .i64 (X / 4294967296 % 65536), .int .i64 (X / 281474976710656 % 65536), .int .i64 (X / 18446744073709551616 % 65536), .int .i64 (X / 1208925819614629174706176 % 65536), .int .i64 (X / 79228162514264337593543950336 % 65536), .int .i64 (X / 5192296858534827628530496329220096 % 65536)], .agg #[.int .i64 (Y % 65536), .int .i64 (Y / 65536 % 65536), .int .i64 (Y / 4294967296 % 65536), .int .i64 (Y / 281474976710656 % 65536), .int .i64 (Y / 18446744073709551616 % 65536), .int .i64 (Y / 1208925819614629174706176 % 65536), .int .i64 (Y / 79228162514264337593543950336 % 65536), .int .i64 (Y / 5192296858534827628530496329220096 % 65536)]] w fun e w' => e = .returned (.agg #[.int .i64 (Z % 65536), .int .i64 (Z / 65536 % 65536), .int .i64 (Z / 4294967296 % 65536), .int .i64 (Z / 281474976710656 % 65536), .int .i64 (Z / 18446744073709551616 % 65536), .int .i64 (Z / 1208925819614629174706176 % 65536), .int .i64 (Z / 79228162514264337593543950336 % 65536), .int .i64 (Z / 5192296858534827628530496329220096 % 65536)]) ∧ Below w.heap.size w w' := h ▸ add_any X Y w
theorem c19 (X Z : Int) (h : -X = Z) (w : World) : Calls Try.prog 19 #[.agg #[.int .i64 (X % 65536), .int .i64 (X / 65536 % 65536), .int .i64 (X / 4294967296 % 65536), .int .i64 (X / 281474976710656 % 65536), .int .i64 (X / 18446744073709551616 % 65536), .int .i64 (X / 1208925819614629174706176 % 65536), .int .i64 (X / 79228162514264337593543950336 % 65536), .int .i64 (X / 5192296858534827628530496329220096 % 65536)]] w fun e w' => e = .returned (.agg #[.int .i64 (Z % 65536), .int .i64 (Z / 65536 % 65536), .int .i64 (Z / 4294967296 % 65536), .int .i64 (Z / 281474976710656 % 65536), .int .i64 (Z / 18446744073709551616 % 65536), .int .i64 (Z / 1208925819614629174706176 % 65536), .int .i64 (Z / 79228162514264337593543950336 % 65536), .int .i64 (Z / 5192296858534827628530496329220096 % 65536)]) ∧ Below w.heap.size w w' := h ▸ bigneg_any X w
theorem c13 (x : Int) (h : -9223372036854775808 ≤ x ∧ x ≤ 9223372036854775807) (w : World) : Calls Try.prog 13 #[.int .i64 x] w fun e w' => e = .returned (.agg #[.int .i64 (x % 65536), .int .i64 (x / 65536 % 65536), .int .i64 (x / 4294967296 % 65536), .int .i64 (x / 281474976710656 % 65536), .int .i64 (x / 18446744073709551616 % 65536), .int .i64 (x / 1208925819614629174706176 % 65536), .int .i64 (x / 79228162514264337593543950336 % 65536), .int .i64 (x / 5192296858534827628530496329220096 % 65536)]) ∧ Below w.heap.size w w' := number_any h.1 h.2 w
/-- What the last test keeps. -/
structure K4 (w : World) (g0 g1 g7 g8 : Nat) (X Y : Int) (W : World) : Prop where
  a : Blk W g0 24 #[.int .i64 (HH X), .int .u64 (LL X)]
  b : Blk W g1 24 #[.int .i64 (HH Y), .int .u64 (LL Y)]
  p : Blk W g7 27 (DC X)
  q : Blk W g8 27 (DC Y)
  below : Below w.heap.size w W
theorem K4.step {w : World} {g0 g1 g7 g8 : Nat} {X Y : Int} {W W' : World} (h : K4 w g0 g1 g7 g8 X Y W) (hb : Below W.heap.size W W') : K4 w g0 g1 g7 g8 X Y W' :=
  ⟨h.a.below hb h.a.lt, h.b.below hb h.b.lt, h.p.below hb h.p.lt, h.q.below hb h.q.lt, h.below.trans (hb.mono h.below.size)⟩
theorem K4.cells {w : World} {g0 g1 g7 g8 : Nat} {X Y : Int} {W : World} (h : K4 w g0 g1 g7 g8 X Y W) : W.cell? ⟨g0, 0, none⟩ = some (.int .i64 (HH X)) ∧ W.cell? ⟨g0, 1, none⟩ = some (.int .u64 (LL X)) ∧ W.cell? ⟨g1, 0, none⟩ = some (.int .i64 (HH Y)) ∧ W.cell? ⟨g1, 1, none⟩ = some (.int .u64 (LL Y)) ∧ W.cell? ⟨g7, 0, none⟩ = some (.int .i64 (X % 65536)) ∧ W.cell? ⟨g7, 1, none⟩ = some (.int .i64 (X / 65536 % 65536)) ∧ W.cell? ⟨g7, 2, none⟩ = some (.int .i64 (X / 4294967296 % 65536)) ∧ W.cell? ⟨g7, 3, none⟩ = some (.int .i64 (X / 281474976710656 % 65536)) ∧ W.cell? ⟨g7, 4, none⟩ = some (.int .i64 (X / 18446744073709551616 % 65536)) ∧ W.cell? ⟨g7, 5, none⟩ = some (.int .i64 (X / 1208925819614629174706176 % 65536)) ∧ W.cell? ⟨g7, 6, none⟩ = some (.int .i64 (X / 79228162514264337593543950336 % 65536)) ∧ W.cell? ⟨g7, 7, none⟩ = some (.int .i64 (X / 5192296858534827628530496329220096 % 65536)) ∧ W.cell? ⟨g8, 0, none⟩ = some (.int .i64 (Y % 65536)) ∧ W.cell? ⟨g8, 1, none⟩ = some (.int .i64 (Y / 65536 % 65536)) ∧ W.cell? ⟨g8, 2, none⟩ = some (.int .i64 (Y / 4294967296 % 65536)) ∧ W.cell? ⟨g8, 3, none⟩ = some (.int .i64 (Y / 281474976710656 % 65536)) ∧ W.cell? ⟨g8, 4, none⟩ = some (.int .i64 (Y / 18446744073709551616 % 65536)) ∧ W.cell? ⟨g8, 5, none⟩ = some (.int .i64 (Y / 1208925819614629174706176 % 65536)) ∧ W.cell? ⟨g8, 6, none⟩ = some (.int .i64 (Y / 79228162514264337593543950336 % 65536)) ∧ W.cell? ⟨g8, 7, none⟩ = some (.int .i64 (Y / 5192296858534827628530496329220096 % 65536)) ∧ K4 w g0 g1 g7 g8 X Y W :=
  ⟨h.a.cell 0, h.a.cell 1, h.b.cell 0, h.b.cell 1, h.p.cell 0, h.p.cell 1, h.p.cell 2, h.p.cell 3, h.p.cell 4, h.p.cell 5, h.p.cell 6, h.p.cell 7, h.q.cell 0, h.q.cell 1, h.q.cell 2, h.q.cell 3, h.q.cell 4, h.q.cell 5, h.q.cell 6, h.q.cell 7, h⟩
theorem K4of {w : World} {g0 g1 g7 g8 : Nat} {X Y : Int} {W : World} (h : W.cell? ⟨g0, 0, none⟩ = some (.int .i64 (HH X)) ∧ W.cell? ⟨g0, 1, none⟩ = some (.int .u64 (LL X)) ∧ W.cell? ⟨g1, 0, none⟩ = some (.int .i64 (HH Y)) ∧ W.cell? ⟨g1, 1, none⟩ = some (.int .u64 (LL Y)) ∧ W.cell? ⟨g7, 0, none⟩ = some (.int .i64 (X % 65536)) ∧ W.cell? ⟨g7, 1, none⟩ = some (.int .i64 (X / 65536 % 65536)) ∧ W.cell? ⟨g7, 2, none⟩ = some (.int .i64 (X / 4294967296 % 65536)) ∧ W.cell? ⟨g7, 3, none⟩ = some (.int .i64 (X / 281474976710656 % 65536)) ∧ W.cell? ⟨g7, 4, none⟩ = some (.int .i64 (X / 18446744073709551616 % 65536)) ∧ W.cell? ⟨g7, 5, none⟩ = some (.int .i64 (X / 1208925819614629174706176 % 65536)) ∧ W.cell? ⟨g7, 6, none⟩ = some (.int .i64 (X / 79228162514264337593543950336 % 65536)) ∧ W.cell? ⟨g7, 7, none⟩ = some (.int .i64 (X / 5192296858534827628530496329220096 % 65536)) ∧ W.cell? ⟨g8, 0, none⟩ = some (.int .i64 (Y % 65536)) ∧ W.cell? ⟨g8, 1, none⟩ = some (.int .i64 (Y / 65536 % 65536)) ∧ W.cell? ⟨g8, 2, none⟩ = some (.int .i64 (Y / 4294967296 % 65536)) ∧ W.cell? ⟨g8, 3, none⟩ = some (.int .i64 (Y / 281474976710656 % 65536)) ∧ W.cell? ⟨g8, 4, none⟩ = some (.int .i64 (Y / 18446744073709551616 % 65536)) ∧ W.cell? ⟨g8, 5, none⟩ = some (.int .i64 (Y / 1208925819614629174706176 % 65536)) ∧ W.cell? ⟨g8, 6, none⟩ = some (.int .i64 (Y / 79228162514264337593543950336 % 65536)) ∧ W.cell? ⟨g8, 7, none⟩ = some (.int .i64 (Y / 5192296858534827628530496329220096 % 65536)) ∧ K4 w g0 g1 g7 g8 X Y W) : K4 w g0 g1 g7 g8 X Y W := h.2.2.2.2.2.2.2.2.2.2.2.2.2.2.2.2.2.2.2.2
theorem edges_end {ops : Array Oper} (h : ∀ b0 b1 b2 b3 b4 b5 b6 b7 : Bool, (!(Region.ready .any ops #[b0, b1, b2, b3, b4, b5, b6, b7]).isEmpty || (b0 && b1 && b2 && b3 && b4 && b5 && b6 && b7)) = true)
    {b0 b1 b2 b3 b4 b5 b6 b7 : Bool} (hr : Region.ready .any ops #[b0, b1, b2, b3, b4, b5, b6, b7] = []) : b4 = true ∧ b5 = true ∧ b6 = true ∧ b7 = true := by
  have := h b0 b1 b2 b3 b4 b5 b6 b7
  rw [hr] at this
  simp at this
  exact ⟨this.1.1.1.2, this.1.1.2, this.1.2, this.2⟩
theorem edges {ops : Array Oper} (h : ∀ b0 b1 b2 b3 b4 b5 b6 b7 : Bool, (Region.ready .any ops #[b0, b1, b2, b3, b4, b5, b6, b7]).all (fun i => decide (i < 8) && (i != 0 || !b0) && (i != 1 || (b0 && !b1)) && (i != 2 || !b2) && (i != 3 || (b2 && !b3)) && (i != 4 || !b4) && (i != 5 || !b5) && (i != 6 || (b4 && b1 && !b6)) && (i != 7 || (b5 && b3 && !b7))) = true)
    {b0 b1 b2 b3 b4 b5 b6 b7 : Bool} {i : Nat} (hi : i ∈ Region.ready .any ops #[b0, b1, b2, b3, b4, b5, b6, b7]) :
    (i = 0 ∧ b0 = false) ∨ (i = 1 ∧ b0 = true ∧ b1 = false) ∨ (i = 2 ∧ b2 = false) ∨ (i = 3 ∧ b2 = true ∧ b3 = false) ∨ (i = 4 ∧ b4 = false) ∨ (i = 5 ∧ b5 = false) ∨ (i = 6 ∧ b4 = true ∧ b1 = true ∧ b6 = false) ∨ (i = 7 ∧ b5 = true ∧ b3 = true ∧ b7 = false) := by
  have := List.all_eq_true.1 (h b0 b1 b2 b3 b4 b5 b6 b7) i hi
  simp only [Bool.and_eq_true, Bool.or_eq_true, decide_eq_true_eq, bne_iff_ne, ne_eq, Bool.not_eq_true'] at this
  obtain ⟨⟨⟨⟨⟨⟨⟨⟨h8, a0⟩, a1⟩, a2⟩, a3⟩, a4⟩, a5⟩, a6⟩, a7⟩ := this
  have hc : i = 0 ∨ i = 1 ∨ i = 2 ∨ i = 3 ∨ i = 4 ∨ i = 5 ∨ i = 6 ∨ i = 7 := by omega
  rcases hc with rfl | rfl | rfl | rfl | rfl | rfl | rfl | rfl
  · exact .inl ⟨rfl, by simpa using a0⟩
  · exact .inr (.inl ⟨rfl, by simpa using a1⟩)
  · exact .inr (.inr (.inl ⟨rfl, by simpa using a2⟩))
  · exact .inr (.inr (.inr (.inl ⟨rfl, by simpa using a3⟩)))
  · exact .inr (.inr (.inr (.inr (.inl ⟨rfl, by simpa using a4⟩))))
  · exact .inr (.inr (.inr (.inr (.inr (.inl ⟨rfl, by simpa using a5⟩)))))
  · exact .inr (.inr (.inr (.inr (.inr (.inr (.inl ⟨rfl, by simpa [and_assoc] using a6⟩))))))
  · exact .inr (.inr (.inr (.inr (.inr (.inr (.inr ⟨rfl, by simpa [and_assoc] using a7⟩))))))

/-- What the first drawn region keeps: what is listed is done. -/
structure RI (w1 : World) (X Y : Int) (b0 b1 b2 b3 b4 b5 b6 b7 : Bool) (v7 v8 v11 v12 v13 v14 : Value) (w : World) : Prop where
  below : Below w1.heap.size w1 w
  e11 : b0 = true → v11 = WV X
  e12 : b1 = true → v12 = D X
  e13 : b2 = true → v13 = WV Y
  e14 : b3 = true → v14 = D Y
  e7 : b4 = true → ∃ g, v7 = .pointer (some ⟨g, 0, none⟩) ∧ w1.heap.size ≤ g ∧ Blk w g 27 (if b6 = true then DC X else DC 0)
  e8 : b5 = true → ∃ g, v8 = .pointer (some ⟨g, 0, none⟩) ∧ w1.heap.size ≤ g ∧ Blk w g 27 (if b7 = true then DC Y else DC 0)
  ne : b4 = true → b5 = true → v7 ≠ v8
  lt6 : b4 = false → b6 = false
  lt7 : b5 = false → b7 = false
theorem RI.next {w1 : World} {X Y : Int} {b0 b1 b2 b3 b4 b5 b6 b7 : Bool} {v7 v8 v11 v12 v13 v14 : Value} {w w' : World} (h : RI w1 X Y b0 b1 b2 b3 b4 b5 b6 b7 v7 v8 v11 v12 v13 v14 w) (hb : Below w.heap.size w w') :
    RI w1 X Y b0 b1 b2 b3 b4 b5 b6 b7 v7 v8 v11 v12 v13 v14 w' :=
  ⟨Below.trans h.below (hb.mono h.below.size), h.e11, h.e12, h.e13, h.e14, fun e => let ⟨g, a, b, c⟩ := h.e7 e; ⟨g, a, b, c.below hb c.lt⟩, fun e => let ⟨g, a, b, c⟩ := h.e8 e; ⟨g, a, b, c.below hb c.lt⟩, h.ne, h.lt6, h.lt7⟩

theorem RI.start (w1 : World) (X Y : Int) (v7 v8 v11 v12 v13 v14 : Value) : RI w1 X Y false false false false false false false false v7 v8 v11 v12 v13 v14 w1.drew :=
  ⟨(Below.refl _ _).drew, (fun h => by cases h), (fun h => by cases h), (fun h => by cases h), (fun h => by cases h), (fun h => by cases h), (fun h => by cases h), (fun h => by cases h), fun _ => rfl, fun _ => rfl⟩
theorem RI.cells {w1 : World} {X Y : Int} {b0 b1 b2 b3 b4 b5 b6 b7 : Bool} {v7 v8 v11 v12 v13 v14 : Value} {w : World} (h : RI w1 X Y b0 b1 b2 b3 b4 b5 b6 b7 v7 v8 v11 v12 v13 v14 w) {g g' : Nat} (hg : g < w1.heap.size) (hg' : g' < w1.heap.size) {a b c d : Value}
    (hk : w1.cell? ⟨g, 0, none⟩ = some a ∧ w1.cell? ⟨g, 1, none⟩ = some b ∧ w1.cell? ⟨g', 0, none⟩ = some c ∧ w1.cell? ⟨g', 1, none⟩ = some d) :
    w.cell? ⟨g, 0, none⟩ = some a ∧ w.cell? ⟨g, 1, none⟩ = some b ∧ w.cell? ⟨g', 0, none⟩ = some c ∧ w.cell? ⟨g', 1, none⟩ = some d :=
  ⟨(h.below.cell (p := ⟨g, 0, none⟩) hg).trans hk.1, (h.below.cell (p := ⟨g, 1, none⟩) hg).trans hk.2.1, (h.below.cell (p := ⟨g', 0, none⟩) hg').trans hk.2.2.1, (h.below.cell (p := ⟨g', 1, none⟩) hg').trans hk.2.2.2⟩
theorem far8 {W : World} {g h : Nat} {t : TypeId} {cs : Array Value} (hB : Blk W h t cs) (hne : h ≠ g) (u0 u1 u2 u3 u4 u5 u6 u7 : Value) :
    Blk ((((((((W.setCell ⟨g, 0, none⟩ u0).setCell ⟨g, 1, none⟩ u1).setCell ⟨g, 2, none⟩ u2).setCell ⟨g, 3, none⟩ u3).setCell ⟨g, 4, none⟩ u4).setCell ⟨g, 5, none⟩ u5).setCell ⟨g, 6, none⟩ u6).setCell ⟨g, 7, none⟩ u7) h t cs :=
  (((((((hB.far hne u0).far hne u1).far hne u2).far hne u3).far hne u4).far hne u5).far hne u6).far hne u7
theorem below8 {W w1 : World} {g : Nat} (hB : Below w1.heap.size w1 W) (hg : w1.heap.size ≤ g) (u0 u1 u2 u3 u4 u5 u6 u7 : Value) :
    Below w1.heap.size w1 ((((((((W.setCell ⟨g, 0, none⟩ u0).setCell ⟨g, 1, none⟩ u1).setCell ⟨g, 2, none⟩ u2).setCell ⟨g, 3, none⟩ u3).setCell ⟨g, 4, none⟩ u4).setCell ⟨g, 5, none⟩ u5).setCell ⟨g, 6, none⟩ u6).setCell ⟨g, 7, none⟩ u7) :=
  (((((((hB.setCell (p := ⟨g, 0, none⟩) hg u0).setCell (p := ⟨g, 1, none⟩) hg u1).setCell (p := ⟨g, 2, none⟩) hg u2).setCell (p := ⟨g, 3, none⟩) hg u3).setCell (p := ⟨g, 4, none⟩) hg u4).setCell (p := ⟨g, 5, none⟩) hg u5).setCell (p := ⟨g, 6, none⟩) hg u6).setCell (p := ⟨g, 7, none⟩) hg u7

set_option maxRecDepth 100000 in
set_option maxHeartbeats 8000000 in
theorem adds_c (X Y x : Int) (a5 : -9223372036854775808 ≤ x ∧ x ≤ 9223372036854775807) (w : World) :
    Calls Try.prog 5 #[.agg #[.int .i64 (HH X), .int .u64 (LL X)], .agg #[.int .i64 (HH Y), .int .u64 (LL Y)], .int .i64 x] w fun e w' => e = .returned (.bool true) ∧ Below w.heap.size w w' := by
  go_enter Try.func5, Try.ntmps5
  go_wp2_with fail
  refine (awake_any _).mono ?_
  rintro e w1 ⟨rfl, hb⟩
  obtain ⟨c0, -, hz0⟩ := blkA (g := w.heap.size) (t := 24) (cs := #[.int .i64 (HH X), .int .u64 (LL X)]) hb (by repeat (first | (with_reducible refine heap_last _ _ ?_; simp; done) | refine heap_keep ?_))
  obtain ⟨c1, -, hz1⟩ := blkA (g := w.heap.size + 1) (t := 24) (cs := #[.int .i64 (HH Y), .int .u64 (LL Y)]) hb (by repeat (first | (with_reducible refine heap_last _ _ ?_; simp; done) | refine heap_keep ?_))
  have k0 : w1.cell? ⟨w.heap.size, 0, none⟩ = some (.int .i64 (HH X)) := c0 0
  have k1 : w1.cell? ⟨w.heap.size, 1, none⟩ = some (.int .u64 (LL X)) := c0 1
  have k2 : w1.cell? ⟨w.heap.size + 1, 0, none⟩ = some (.int .i64 (HH Y)) := c1 0
  have k3 : w1.cell? ⟨w.heap.size + 1, 1, none⟩ = some (.int .u64 (LL Y)) := c1 1
  have hb' : Below w.heap.size w w1 := Below.trans (by repeat (first | (with_reducible exact Below.refl _ _) | (with_reducible assumption) | (with_reducible refine below_drewN ?_ _) | (with_reducible refine Below.drew ?_) | (with_reducible refine Below.setCell ?_ (by (try simp); (try omega)) _) | (with_reducible refine Below.alloc ?_ (by (try simp); (try omega)) _))) (hb.mono (by simp; try omega))
  clear c0 c1
  have hkA : Hid (Blk w1 w.heap.size 24 #[.int .i64 (HH X), .int .u64 (LL X)]) := Lib.hid ((hb.block _ (by simp; try omega)).trans (by repeat (first | (with_reducible refine heap_last _ _ ?_; simp; done) | refine heap_keep ?_)))
  have hkB : Hid (Blk w1 (w.heap.size + 1) 24 #[.int .i64 (HH Y), .int .u64 (LL Y)]) := Lib.hid ((hb.block _ (by simp; try omega)).trans (by repeat (first | (with_reducible refine heap_last _ _ ?_; simp; done) | refine heap_keep ?_)))
  have hk := Lib.hid (And.intro k0 (And.intro k1 (And.intro k2 k3)))
  replace hb' := Lib.hid hb'
  clear k0 k1 k2 k3 hb
  go_upto_region 3 with fail
  go_cut [7, 8] (fun s7 s8 wx => ∃ g7 g8 : Nat, s7 = .pointer (some ⟨g7, 0, none⟩) ∧ s8 = .pointer (some ⟨g8, 0, none⟩) ∧ Blk wx g7 27 (DC X) ∧ Blk wx g8 27 (DC Y) ∧ Below w1.heap.size w1 wx)
  case first =>
    refine wp_region_inv (by kernel_rfl) (fun l a wx => ∃ b0 b1 b2 b3 b4 b5 b6 b7 : Bool, l = #[b0, b1, b2, b3, b4, b5, b6, b7] ∧ ∃ v7 v8 v11 v12 v13 v14 : Value, a = ({ tmps := #[.agg #[.int .i64 (HH X), .int .u64 (LL X)], .agg #[.int .i64 (HH Y), .int .u64 (LL Y)], .int .i64 x, .pointer (some ⟨w.heap.size, 0, none⟩), .pointer (some ⟨w.heap.size + 1, 0, none⟩), undef, .bool false, v7, v8, .bool true, .bool false, v11, v12, v13, v14, undef, undef, undef, undef, undef, undef, undef, undef, undef, undef, undef, undef, undef, undef, undef, undef, undef, undef, undef, undef, undef, undef, undef, undef, undef, undef, undef, undef, undef, undef, undef, undef, undef, undef, undef], defers := [] } : Act) ∧ RI w1 X Y b0 b1 b2 b3 b4 b5 b6 b7 v7 v8 v11 v12 v13 v14 wx) ⟨false, false, false, false, false, false, false, false, rfl, _, _, _, _, _, _, rfl, RI.start _ _ _ _ _ _ _ _ _⟩ ?_ ?_
    · rintro l a wx hr ⟨b0, b1, b2, b3, b4, b5, b6, b7, rfl, v7, v8, v11, v12, v13, v14, rfl, hR⟩
      obtain ⟨rfl, rfl, rfl, rfl⟩ := edges_end (by decide +kernel) hr
      obtain ⟨g7, rfl, _, h7⟩ := hR.e7 rfl
      obtain ⟨g8, rfl, _, h8⟩ := hR.e8 rfl
      rw [if_pos rfl] at h7 h8
      go_wp2_with fail
      go_meet
      exact ⟨g7, g8, rfl, rfl, h7, h8, hR.below⟩
    · rintro l a wx i hi ⟨b0, b1, b2, b3, b4, b5, b6, b7, rfl, v7, v8, v11, v12, v13, v14, rfl, hR⟩ Q K hK
      have hE := edges (by decide +kernel) hi
      clear hi
      rcases hE with ⟨rfl, hb0⟩ | ⟨rfl, hb0, hb1⟩ | ⟨rfl, hb2⟩ | ⟨rfl, hb2, hb3⟩ | ⟨rfl, hb4⟩ | ⟨rfl, hb5⟩ | ⟨rfl, hb4, hb1, hb6⟩ | ⟨rfl, hb5, hb3, hb7⟩
      · refine wpOp_of rfl rfl ?_
        obtain ⟨k0, k1, k2, k3⟩ := hR.cells hz0 hz1 hk.out
        replace hR := Lib.hid hR
        go_simp
        refine hK _ _ ⟨true, b1, b2, b3, b4, b5, b6, b7, rfl, _, _, _, _, _, _, rfl, ⟨hR.out.below, fun _ => rfl, hR.out.e12, hR.out.e13, hR.out.e14, hR.out.e7, hR.out.e8, hR.out.ne, hR.out.lt6, hR.out.lt7⟩⟩
      · refine wpOp_of rfl rfl ?_
        obtain rfl := hR.e11 hb0
        replace hR := Lib.hid hR
        unfold WV
        go_simp
        go_at_call 10
        with_reducible refine Calls.mono (big_c X _) ?_
        rintro e w2 ⟨rfl, hbw⟩
        have hR2 := hR.out.next hbw
        refine hK _ _ ⟨b0, true, b2, b3, b4, b5, b6, b7, rfl, _, _, _, _, _, _, rfl, ⟨hR2.below, hR2.e11, fun _ => rfl, hR2.e13, hR2.e14, hR2.e7, hR2.e8, hR2.ne, hR2.lt6, hR2.lt7⟩⟩
      · refine wpOp_of rfl rfl ?_
        obtain ⟨k0, k1, k2, k3⟩ := hR.cells hz0 hz1 hk.out
        replace hR := Lib.hid hR
        go_simp
        refine hK _ _ ⟨b0, b1, true, b3, b4, b5, b6, b7, rfl, _, _, _, _, _, _, rfl, ⟨hR.out.below, hR.out.e11, hR.out.e12, fun _ => rfl, hR.out.e14, hR.out.e7, hR.out.e8, hR.out.ne, hR.out.lt6, hR.out.lt7⟩⟩
      · refine wpOp_of rfl rfl ?_
        obtain rfl := hR.e13 hb2
        replace hR := Lib.hid hR
        unfold WV
        go_simp
        go_at_call 10
        with_reducible refine Calls.mono (big_c Y _) ?_
        rintro e w2 ⟨rfl, hbw⟩
        have hR2 := hR.out.next hbw
        refine hK _ _ ⟨b0, b1, b2, true, b4, b5, b6, b7, rfl, _, _, _, _, _, _, rfl, ⟨hR2.below, hR2.e11, hR2.e12, hR2.e13, fun _ => rfl, hR2.e7, hR2.e8, hR2.ne, hR2.lt6, hR2.lt7⟩⟩
      · refine wpOp_of rfl rfl ?_
        have hR2 := hR.next (belowAlloc wx (.cells #[.int .i64 0, .int .i64 0, .int .i64 0, .int .i64 0, .int .i64 0, .int .i64 0, .int .i64 0, .int .i64 0] 27))
        have h6 := hR.lt6 hb4
        replace hR := Lib.hid hR
        go_simp
        refine hK _ _ ⟨b0, b1, b2, b3, true, b5, b6, b7, rfl, _, _, _, _, _, _, rfl, ⟨hR2.below, hR2.e11, hR2.e12, hR2.e13, hR2.e14, fun _ => ⟨_, rfl, hR.out.below.size, by rw [h6, if_neg (by decide), DC_zero]; exact Blk.new _ _ _⟩, hR2.e8,
          (fun _ e => by obtain ⟨g, e1, _, e3⟩ := hR.out.e8 e; rw [e1]; intro h; injection h with h; injection h with h; injection h with h _ _; have := e3.lt; omega), (fun h => by cases h), hR2.lt7⟩⟩
      · refine wpOp_of rfl rfl ?_
        have hR2 := hR.next (belowAlloc wx (.cells #[.int .i64 0, .int .i64 0, .int .i64 0, .int .i64 0, .int .i64 0, .int .i64 0, .int .i64 0, .int .i64 0] 27))
        have h7 := hR.lt7 hb5
        replace hR := Lib.hid hR
        go_simp
        refine hK _ _ ⟨b0, b1, b2, b3, b4, true, b6, b7, rfl, _, _, _, _, _, _, rfl, ⟨hR2.below, hR2.e11, hR2.e12, hR2.e13, hR2.e14, hR2.e7, fun _ => ⟨_, rfl, hR.out.below.size, by rw [h7, if_neg (by decide), DC_zero]; exact Blk.new _ _ _⟩,
          (fun e _ => by obtain ⟨g, e1, _, e3⟩ := hR.out.e7 e; rw [e1]; intro h; injection h with h; injection h with h; injection h with h _ _; have := e3.lt; omega), hR2.lt6, (fun h => by cases h)⟩⟩
      · refine wpOp_of rfl rfl ?_
        obtain rfl := hR.e12 hb1
        obtain ⟨g, rfl, hg1, hB⟩ := hR.e7 hb4
        rw [hb6, if_neg (by decide)] at hB
        obtain ⟨z0, z1, z2, z3, z4, z5, z6, z7, zf, zl, zB⟩ := blkcells hB
        replace hR := Lib.hid hR
        clear hB
        unfold D
        go_simp
        refine hK _ _ ⟨b0, b1, b2, b3, b4, b5, true, b7, rfl, _, _, _, _, _, _, rfl, ⟨below8 hR.out.below hg1 _ _ _ _ _ _ _ _, hR.out.e11, fun _ => rfl, hR.out.e13, hR.out.e14, fun _ => ⟨g, rfl, hg1, blk8 (zB.out : Blk _ _ _ #[_, _, _, _, _, _, _, _]) _ _ _ _ _ _ _ _⟩,
          fun e => by
            obtain ⟨g', e1, e2, e3⟩ := hR.out.e8 e
            exact ⟨g', e1, e2, far8 e3 (fun h => hR.out.ne hb4 e (by rw [e1, h])) _ _ _ _ _ _ _ _⟩, hR.out.ne, (fun h => by rw [hb4] at h; cases h), hR.out.lt7⟩⟩
      · refine wpOp_of rfl rfl ?_
        obtain rfl := hR.e14 hb3
        obtain ⟨g, rfl, hg1, hB⟩ := hR.e8 hb5
        rw [hb7, if_neg (by decide)] at hB
        obtain ⟨z0, z1, z2, z3, z4, z5, z6, z7, zf, zl, zB⟩ := blkcells hB
        replace hR := Lib.hid hR
        clear hB
        unfold D
        go_simp
        refine hK _ _ ⟨b0, b1, b2, b3, b4, b5, b6, true, rfl, _, _, _, _, _, _, rfl, ⟨below8 hR.out.below hg1 _ _ _ _ _ _ _ _, hR.out.e11, hR.out.e12, hR.out.e13, fun _ => rfl, fun e => by
            obtain ⟨g', e1, e2, e3⟩ := hR.out.e7 e
            exact ⟨g', e1, e2, far8 e3 (fun h => hR.out.ne e hb5 (by rw [e1, h])) _ _ _ _ _ _ _ _⟩, fun _ => ⟨g, rfl, hg1, blk8 (zB.out : Blk _ _ _ #[_, _, _, _, _, _, _, _]) _ _ _ _ _ _ _ _⟩, hR.out.ne, hR.out.lt6, fun h => by rw [hb5] at h; cases h⟩⟩
  case rest =>
    obtain ⟨g7, g8, rfl, rfl, h7, h8, hb8⟩ := hcut
    have kd : Hid (K4 w w.heap.size (w.heap.size + 1) g7 g8 X Y wc.drew) := Lib.hid (K4.step ⟨hkA.out.below hb8 hkA.out.lt, hkB.out.below hb8 hkB.out.lt, h7, h8, Below.trans hb'.out (hb8.mono hb'.out.size)⟩ ((Below.refl _ _).drew))
    obtain ⟨S1, hS1⟩ : ∃ S, X + Y = S := ⟨_, rfl⟩
    obtain ⟨S2, hS2⟩ : ∃ S, X - Y = S := ⟨_, rfl⟩
    obtain ⟨S3, hS3⟩ : ∃ S, -X = S := ⟨_, rfl⟩
    obtain ⟨N, hN⟩ : ∃ S, -Y = S := ⟨_, rfl⟩
    have hS4 : X + N = S2 := by omega
    have t17 := Lib.hid (c17 X Y S1 hS1)
    have t15 := Lib.hid (c15 X Y S1 hS1)
    have t18 := Lib.hid (c18 X Y S2 hS2)
    have t15b := Lib.hid (c15 X N S2 hS4)
    have t19 := Lib.hid (c19 Y N hN)
    have t20 := Lib.hid (c20 X S3 hS3)
    have t19b := Lib.hid (c19 X S3 hS3)
    have t21 := Lib.hid (of_c x a5)
    have t13 := Lib.hid (c13 x a5)
    have q1 := eqS S1
    have q2 := eqS S2
    have q3 := eqS S3
    have q4 := eqS x
    clear hS1 hS2 hS3 hN hS4 h7 h8 hb8 hk hkA hkB hb'
    go_upto_region 4 with fail
    go_region_held3 (fun W => W.cell? ⟨w.heap.size, 0, none⟩ = some (.int .i64 (HH X)) ∧ W.cell? ⟨w.heap.size, 1, none⟩ = some (.int .u64 (LL X)) ∧ W.cell? ⟨w.heap.size + 1, 0, none⟩ = some (.int .i64 (HH Y)) ∧ W.cell? ⟨w.heap.size + 1, 1, none⟩ = some (.int .u64 (LL Y)) ∧ W.cell? ⟨g7, 0, none⟩ = some (.int .i64 (X % 65536)) ∧ W.cell? ⟨g7, 1, none⟩ = some (.int .i64 (X / 65536 % 65536)) ∧ W.cell? ⟨g7, 2, none⟩ = some (.int .i64 (X / 4294967296 % 65536)) ∧ W.cell? ⟨g7, 3, none⟩ = some (.int .i64 (X / 281474976710656 % 65536)) ∧ W.cell? ⟨g7, 4, none⟩ = some (.int .i64 (X / 18446744073709551616 % 65536)) ∧ W.cell? ⟨g7, 5, none⟩ = some (.int .i64 (X / 1208925819614629174706176 % 65536)) ∧ W.cell? ⟨g7, 6, none⟩ = some (.int .i64 (X / 79228162514264337593543950336 % 65536)) ∧ W.cell? ⟨g7, 7, none⟩ = some (.int .i64 (X / 5192296858534827628530496329220096 % 65536)) ∧ W.cell? ⟨g8, 0, none⟩ = some (.int .i64 (Y % 65536)) ∧ W.cell? ⟨g8, 1, none⟩ = some (.int .i64 (Y / 65536 % 65536)) ∧ W.cell? ⟨g8, 2, none⟩ = some (.int .i64 (Y / 4294967296 % 65536)) ∧ W.cell? ⟨g8, 3, none⟩ = some (.int .i64 (Y / 281474976710656 % 65536)) ∧ W.cell? ⟨g8, 4, none⟩ = some (.int .i64 (Y / 18446744073709551616 % 65536)) ∧ W.cell? ⟨g8, 5, none⟩ = some (.int .i64 (Y / 1208925819614629174706176 % 65536)) ∧ W.cell? ⟨g8, 6, none⟩ = some (.int .i64 (Y / 79228162514264337593543950336 % 65536)) ∧ W.cell? ⟨g8, 7, none⟩ = some (.int .i64 (Y / 5192296858534827628530496329220096 % 65536)) ∧ K4 w w.heap.size (w.heap.size + 1) g7 g8 X Y W)
      (first | assumption | (refine ⟨?_, ?_, ?_, ?_, ?_, ?_, ?_, ?_, ?_, ?_, ?_, ?_, ?_, ?_, ?_, ?_, ?_, ?_, ?_, ?_, ?_⟩ <;> assumption) | (exact kd.out.cells) | (exact (K4.step (K4of (by assumption)) hb2).cells))
      (first
        | (go_at_call 17; with_reducible refine Calls.mono (t17.out _) ?_; rintro e w3 ⟨rfl, hb2⟩)
        | (go_at_call 18; with_reducible refine Calls.mono (t18.out _) ?_; rintro e w3 ⟨rfl, hb2⟩)
        | (go_at_call 20; with_reducible refine Calls.mono (t20.out _) ?_; rintro e w3 ⟨rfl, hb2⟩)
        | (go_at_call 21; with_reducible refine Calls.mono (t21.out _) ?_; rintro e w3 ⟨rfl, hb2⟩)
        | (go_at_call 13; with_reducible refine Calls.mono (t13.out _) ?_; rintro e w3 ⟨rfl, hb2⟩)
        | (go_at_call 10; with_reducible refine Calls.mono (c10 _ _) ?_; rintro e w3 ⟨rfl, hb2⟩)
        | (go_at_call 15; with_reducible refine Calls.mono (t15.out _) ?_; rintro e w3 ⟨rfl, hb2⟩)
        | (go_at_call 15; with_reducible refine Calls.mono (t15b.out _) ?_; rintro e w3 ⟨rfl, hb2⟩)
        | (go_at_call 19; with_reducible refine Calls.mono (t19.out _) ?_; rintro e w3 ⟨rfl, hb2⟩)
        | (go_at_call 19; with_reducible refine Calls.mono (t19b.out _) ?_; rintro e w3 ⟨rfl, hb2⟩))
    go_wp2
    go_ret
    exact ⟨rfl, (K4of (W := w3) (by assumption)).below⟩
theorem adds_walk (h1 l1 h2 l2 x : Int) (a1 : -9223372036854775808 ≤ h1 ∧ h1 ≤ 9223372036854775807) (a2 : 0 ≤ l1 ∧ l1 ≤ 18446744073709551615) (a3 : -9223372036854775808 ≤ h2 ∧ h2 ≤ 9223372036854775807) (a4 : 0 ≤ l2 ∧ l2 ≤ 18446744073709551615) (a5 : -9223372036854775808 ≤ x ∧ x ≤ 9223372036854775807) (w : World) :
    Calls Try.prog 5 #[.agg #[.int .i64 h1, .int .u64 l1], .agg #[.int .i64 h2, .int .u64 l2], .int .i64 x] w fun e w' => e = .returned (.bool true) ∧ Below w.heap.size w w' := by
  have R1 : Rep h1 l1 (h1 * 18446744073709551616 + l1) := by constructor <;> omega
  have R2 : Rep h2 l2 (h2 * 18446744073709551616 + l2) := by constructor <;> omega
  have e1 := can_of R1
  have e2 := can_of R2
  have := adds_c (h1 * 18446744073709551616 + l1) (h2 * 18446744073709551616 + l2) x a5 w
  rw [← e1.1, ← e1.2, ← e2.1, ← e2.2] at this
  exact this
end Go.Proofs.Ytmndafndopoelaa
