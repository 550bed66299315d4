/- Contracts of count.New, Has and law 10's awake; the laws CountTells, CountGrows, CountNotes. -/
import Derived.Test.YtegjkognlfemgaaBook
namespace Go.Proofs.Ytegjkognlfemgaa
open Go.RowKit

theorem bookV_any (n k : Int) (w : World) (gb gm : Nat) (S : Int → Int → Bool) (h : Book w gb gm S) (hC : Closed S) :
    Calls Try.prog 19 #[.pointer (some ⟨gb, 0, none⟩), .int .i64 n, .int .i64 k] w fun e w' => e = .returned (.int .u64 (VZ n k)) ∧ Book w' gb gm (more S n k) ∧ w.grownBy w' (some gm) :=
  bookV _ n k w gb gm S (Nat.lt_succ_self _) h hC

theorem grown_old {B gm : Nat} {w w' : World} (h : w.grownBy w' (some gm)) (h1 : B ≤ gm) (h2 : B ≤ w.heap.size) : Below B w w' :=
  ⟨h.os, h.tape, h.output, h.size, fun i hi => h.block i (by omega) (by intro e; injection e with e; omega)⟩

def none0 (_ _ : Int) : Bool := false
theorem none0_closed : Closed none0 := ⟨fun _ _ h => (by cases h), fun _ _ h => (by cases h)⟩

/-- A book made since B. -/
structure Fresh (B : Nat) (w w' : World) (gb gm : Nat) (S : Int → Int → Bool) : Prop where
  book : Book w' gb gm S
  closed : Closed S
  gbB : B ≤ gb
  gmB : B ≤ gm
  below : Below B w w'

theorem Fresh.ask {B : Nat} {w w1 w2 : World} {gb gm : Nat} {S : Int → Int → Bool} (h : Fresh B w w1 gb gm S) (n k : Int) (h1 : Book w2 gb gm (more S n k)) (h2 : w1.grownBy w2 (some gm)) : Fresh B w w2 gb gm (more S n k) :=
  ⟨h1, more_closed h.closed n k, h.gbB, h.gmB, Below.trans h.below (grown_old h2 h.gmB (Nat.le_of_lt (Nat.lt_of_le_of_lt h.gbB h.book.ltb)))⟩
theorem Fresh.size {B : Nat} {w w1 : World} {gb gm : Nat} {S : Int → Int → Bool} (h : Fresh B w w1 gb gm S) : B ≤ w1.heap.size := Nat.le_of_lt (Nat.lt_of_le_of_lt h.gbB h.book.ltb)
theorem Fresh.drew {B : Nat} {w w1 : World} {gb gm : Nat} {S : Int → Int → Bool} (h : Fresh B w w1 gb gm S) : Fresh B w w1.drew gb gm S := ⟨h.book.drew, h.closed, h.gbB, h.gmB, h.below.drew⟩
theorem Fresh.drewN {B : Nat} {w w1 : World} {gb gm : Nat} {S : Int → Int → Bool} (h : Fresh B w w1 gb gm S) (n : Nat) : Fresh B w (w1.drewN n) gb gm S := ⟨h.book.drewN n, h.closed, h.gbB, h.gmB, below_drewN h.below n⟩
theorem Fresh.step {B : Nat} {w w1 w2 : World} {gb gm : Nat} {S : Int → Int → Bool} (h : Fresh B w w1 gb gm S) (hb : Below w1.heap.size w1 w2) : Fresh B w w2 gb gm S :=
  ⟨h.book.below hb, h.closed, h.gbB, h.gmB, Below.trans h.below (hb.mono h.size)⟩
theorem Fresh.alloc {B : Nat} {w w1 : World} {gb gm : Nat} {S : Int → Int → Bool} (h : Fresh B w w1 gb gm S) (o : Obj) : Fresh B w (w1.alloc o) gb gm S := h.step (belowAlloc _ _)

set_option maxHeartbeats 1000000 in
theorem new_any (w : World) : Calls Try.prog 18 #[] w fun e w' => e = .returned (.pointer (some ⟨w.heap.size + 1, 0, none⟩)) ∧ Fresh w.heap.size w w' (w.heap.size + 1) w.heap.size none0 := by
  have hmm := @run_makeMap Try.prog
  go_enter Try.func18, Try.ntmps18
  go_wp2
  go_ret
  refine ⟨rfl, ⟨?_, [], ⟨0, ?_⟩, fun n k => rfl⟩, none0_closed, by omega, by omega, ?_⟩
  · exact heap_last _ _ (by simp)
  · exact heap_keep (heap_last _ _ rfl)
  · exact Below.trans (belowAlloc _ _) ((belowAlloc _ _).mono (by simp))

set_option maxHeartbeats 2000000 in
theorem has_any (n k : Int) (w : World) (gb gm : Nat) (S : Int → Int → Bool) (h : Book w gb gm S) :
    Calls Try.prog 22 #[.pointer (some ⟨gb, 0, none⟩), .agg #[.int .i64 n, .int .i64 k]] w fun e w' => e = .returned (.bool (S n k)) ∧ Below w.heap.size w w' := by
  have hB2 := h.alloc (.cells #[.int .i64 n, .int .i64 k] 32)
  have hcell : ∀ nq, ((w.alloc (.cells #[.int .i64 n, .int .i64 k] 32)).drewN nq).cell? ⟨gb, 0, none⟩ = some (.map (some gm)) := fun nq => (hB2.drewN nq).cell
  obtain ⟨l, hl, hlook⟩ := hB2.map
  by_cases hs : S n k = true
  · have hlk : ∀ nq, (Instr.lookup 67 (.map (some gm)) (.agg #[.int .i64 n, .int .i64 k]) true).run Try.prog ((w.alloc (.cells #[.int .i64 n, .int .i64 k] 32)).drewN nq) = .ok (.tuple #[.int .u64 (VZ n k), .bool true]) ((w.alloc (.cells #[.int .i64 n, .int .i64 k] 32)).drewN nq) :=
      fun nq => look_yes (w := (w.alloc (.cells #[.int .i64 n, .int .i64 k] 32)).drewN nq) (isMap_same hl rfl) (by rw [hlook, if_pos hs])
    have kS := Lib.hid hs
    clear h hB2 hl hlook hs
    go_enter Try.func22, Try.ntmps22
    go_wp2_with fail
    go_quiet (fail)
    go_wp2
    go_ret
    refine ⟨by rw [kS.out]; rfl, below_drewN (belowAlloc _ _) _⟩
  · have hlk : ∀ nq, (Instr.lookup 67 (.map (some gm)) (.agg #[.int .i64 n, .int .i64 k]) true).run Try.prog ((w.alloc (.cells #[.int .i64 n, .int .i64 k] 32)).drewN nq) = .ok (.tuple #[.int .u64 0, .bool false]) ((w.alloc (.cells #[.int .i64 n, .int .i64 k] 32)).drewN nq) :=
      fun nq => look_no (w := (w.alloc (.cells #[.int .i64 n, .int .i64 k] 32)).drewN nq) (isMap_same hl rfl) (by rw [hlook, if_neg hs])
    have kS := Lib.hid hs
    clear h hB2 hl hlook hs
    go_enter Try.func22, Try.ntmps22
    go_wp2_with fail
    go_quiet (fail)
    go_wp2
    go_ret
    refine ⟨by have := kS.out; simp at this; rw [this]; rfl, below_drewN (belowAlloc _ _) _⟩

theorem v23 : VZ 2 3 = 12 := by decide +kernel
theorem v32 : VZ 3 2 = 18 := by decide +kernel
theorem noted23 : more (more none0 2 3) 3 2 2 3 = true := by decide +kernel

set_option maxHeartbeats 2000000 in
theorem awake10 (w : World) : Calls Try.prog 17 #[] w fun e w' => e = .returned (.bool true) ∧ Below w.heap.size w w' := by
  have e1 := v23
  have e2 := v32
  have e3 := Lib.hid noted23
  go_enter Try.func17, Try.ntmps17
  go_wp2_with fail
  refine (new_any _).mono ?_
  rintro e w1 ⟨rfl, f1⟩
  have f1 := Lib.hid f1
  go_wp2_with fail
  refine (bookV_any _ _ _ _ _ _ f1.out.book f1.out.closed).mono ?_
  rintro e w2 ⟨rfl, b2, g2⟩
  have f2 := Lib.hid (f1.out.ask _ _ b2 g2)
  clear b2 g2
  go_wp2_with fail
  refine (bookV_any _ _ _ _ _ _ f2.out.book f2.out.closed).mono ?_
  rintro e w3 ⟨rfl, b3, g3⟩
  have f3 := Lib.hid (f2.out.ask _ _ b3 g3)
  clear b3 g3
  go_wp2_with fail
  refine (has_any _ _ _ _ _ _ f3.out.book).mono ?_
  rintro e w4 ⟨rfl, b4⟩
  have f4 := Lib.hid (f3.out.step b4)
  clear b4
  rw [e3.out]
  go_wp2_with fail
  go_ret
  exact ⟨rfl, f4.out.below⟩

set_option maxHeartbeats 2000000 in
theorem countTells_walk (n k : Int) (w : World) : Calls Try.prog 3 #[.int .i64 n, .int .i64 k] w fun e w' => e = .returned (.bool true) ∧ Below w.heap.size w w' := by
  go_enter Try.func3, Try.ntmps3
  go_wp2_with fail
  refine (awake10 _).mono ?_
  rintro e w0 ⟨rfl, b0⟩
  have b0 := Lib.hid b0
  go_wp2_with fail
  refine (new_any _).mono ?_
  rintro e w1 ⟨rfl, f1⟩
  have f1 := Lib.hid f1
  go_wp2_with fail
  refine (bookV_any _ _ _ _ _ _ f1.out.book f1.out.closed).mono ?_
  rintro e w2 ⟨rfl, b2, g2⟩
  have f2 := Lib.hid (f1.out.ask _ _ b2 g2)
  clear b2 g2
  go_wp2_with fail
  refine (refV_any _ _ _).mono ?_
  rintro e w3 ⟨rfl, rfl⟩
  go_wp2_with fail
  go_ret
  exact ⟨rfl, Below.trans b0.out (f2.out.below.mono b0.out.size)⟩
end Go.Proofs.Ytegjkognlfemgaa
