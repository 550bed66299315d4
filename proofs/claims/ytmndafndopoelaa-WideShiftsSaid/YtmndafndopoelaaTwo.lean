/- What the laws keep of two boxed wide numbers while calls make memory. -/
import Derived.Test.YtmndafndopoelaaHeld
import Derived.Deep.DeepCutAuto
namespace Go.Proofs.Ytmndafndopoelaa
open Go.RowKit

/-- Two boxed wide numbers are as they were, and nothing that was there has turned. -/
def Two (w : World) (g0 g1 : Nat) (a0 a1 b0 b1 : Value) (W : World) : Prop := W.cell? ⟨g0, 0, none⟩ = some a0 ∧ W.cell? ⟨g0, 1, none⟩ = some a1 ∧ W.cell? ⟨g1, 0, none⟩ = some b0 ∧ W.cell? ⟨g1, 1, none⟩ = some b1 ∧ Below w.heap.size w W ∧ g0 < W.heap.size ∧ g1 < W.heap.size

/-- What is kept of two boxed wide numbers. -/
theorem step2 {w W w2 : World} {g0 g1 : Nat} {a0 a1 b0 b1 : Value} (h : W.cell? ⟨g0, 0, none⟩ = some a0 ∧ W.cell? ⟨g0, 1, none⟩ = some a1 ∧ W.cell? ⟨g1, 0, none⟩ = some b0 ∧ W.cell? ⟨g1, 1, none⟩ = some b1 ∧ Below w.heap.size w W ∧ g0 < W.heap.size ∧ g1 < W.heap.size) (hb : Below W.heap.size W w2) :
    w2.cell? ⟨g0, 0, none⟩ = some a0 ∧ w2.cell? ⟨g0, 1, none⟩ = some a1 ∧ w2.cell? ⟨g1, 0, none⟩ = some b0 ∧ w2.cell? ⟨g1, 1, none⟩ = some b1 ∧ Below w.heap.size w w2 ∧ g0 < w2.heap.size ∧ g1 < w2.heap.size := by
  obtain ⟨h1, h2, h3, h4, h5, h6, h7⟩ := h
  exact ⟨(hb.cell (p := ⟨g0, 0, none⟩) h6).trans h1, (hb.cell (p := ⟨g0, 1, none⟩) h6).trans h2, (hb.cell (p := ⟨g1, 0, none⟩) h7).trans h3, (hb.cell (p := ⟨g1, 1, none⟩) h7).trans h4, h5.trans (hb.mono h5.size), Nat.lt_of_lt_of_le h6 hb.size, Nat.lt_of_lt_of_le h7 hb.size⟩
theorem Two.step {w W w2 : World} {g0 g1 : Nat} {a0 a1 b0 b1 : Value} (h : Two w g0 g1 a0 a1 b0 b1 W) (hb : Below W.heap.size W w2) : Two w g0 g1 a0 a1 b0 b1 w2 := step2 h hb
theorem Two.drew {w W : World} {g0 g1 : Nat} {a0 a1 b0 b1 : Value} (h : Two w g0 g1 a0 a1 b0 b1 W) : Two w g0 g1 a0 a1 b0 b1 W.drew := by
  obtain ⟨h1, h2, h3, h4, h5, h6, h7⟩ := h
  exact ⟨h1, h2, h3, h4, h5.drew, h6, h7⟩
theorem Two.of {w W : World} {g0 g1 : Nat} {a0 a1 b0 b1 : Value} (h : W.cell? ⟨g0, 0, none⟩ = some a0 ∧ W.cell? ⟨g0, 1, none⟩ = some a1 ∧ W.cell? ⟨g1, 0, none⟩ = some b0 ∧ W.cell? ⟨g1, 1, none⟩ = some b1 ∧ Below w.heap.size w W ∧ g0 < W.heap.size ∧ g1 < W.heap.size) : Two w g0 g1 a0 a1 b0 b1 W := h

theorem neqD (X Y : Int) (w : World) : (binOp .neq 27 (D X) (D Y)).run Try.prog w = .ok (.bool (!decide ((X - Y) % 340282366920938463463374607431768211456 = 0))) w := by
  unfold D
  rw [run_neq_struct, eq8]
  simp only [Result.andThen_ok]
  congr 3
  rw [Bool.eq_iff_iff]
  simp only [Bool.and_eq_true, beq_iff_eq, decide_eq_true_eq, and_true]
  omega

theorem awake_two {w : World} {a0 a1 b0 b1 : Value} {w1 : World} (hb : Below (((w.alloc (.cells #[a0, a1] 24)).alloc (.cells #[b0, b1] 24)).heap.size) ((w.alloc (.cells #[a0, a1] 24)).alloc (.cells #[b0, b1] 24)) w1) : Two w w.heap.size (w.heap.size + 1) a0 a1 b0 b1 w1 := by
  obtain ⟨c0, -, hz0⟩ := blkA (g := w.heap.size) (t := 24) (cs := #[a0, a1]) hb (by repeat (first | (with_reducible refine heap_last _ _ ?_; simp; done) | refine heap_keep ?_))
  obtain ⟨c1, -, hz1⟩ := blkA (g := w.heap.size + 1) (t := 24) (cs := #[b0, b1]) hb (by repeat (first | (with_reducible refine heap_last _ _ ?_; simp; done) | refine heap_keep ?_))
  exact ⟨c0 0, c0 1, c1 0, c1 1, Below.trans (by repeat (first | (with_reducible exact Below.refl _ _) | (with_reducible assumption) | (with_reducible refine below_drewN ?_ _) | (with_reducible refine Below.drew ?_) | (with_reducible refine Below.setCell ?_ (by simp; try omega) _) | (with_reducible refine Below.alloc ?_ (by simp; try omega) _))) (hb.mono (by simp; try omega)), hz0, hz1⟩
end Go.Proofs.Ytmndafndopoelaa
