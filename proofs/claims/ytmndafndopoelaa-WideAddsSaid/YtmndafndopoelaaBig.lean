import Derived.Test.YtmndafndopoelaaAcc
import Derived.WalkKit
import Derived.Below
import Derived.Outline
import Derived.Deep.QuietTactic
import Derived.BigQuiet
namespace Go.Proofs.Ytmndafndopoelaa
open Go.RowKit


set_option maxHeartbeats 2000000 in
theorem add_core (a0 a1 a2 a3 a4 a5 a6 a7 b0 b1 b2 b3 b4 b5 b6 b7 : Int) 
   (ha0 : 0 ≤ a0 ∧ a0 ≤ 65535) (ha1 : 0 ≤ a1 ∧ a1 ≤ 65535) (ha2 : 0 ≤ a2 ∧ a2 ≤ 65535) (ha3 : 0 ≤ a3 ∧ a3 ≤ 65535)
   (ha4 : 0 ≤ a4 ∧ a4 ≤ 65535) (ha5 : 0 ≤ a5 ∧ a5 ≤ 65535) (ha6 : 0 ≤ a6 ∧ a6 ≤ 65535) (ha7 : 0 ≤ a7 ∧ a7 ≤ 65535)
   (hb0 : 0 ≤ b0 ∧ b0 ≤ 65535) (hb1 : 0 ≤ b1 ∧ b1 ≤ 65535) (hb2 : 0 ≤ b2 ∧ b2 ≤ 65535) (hb3 : 0 ≤ b3 ∧ b3 ≤ 65535)
   (hb4 : 0 ≤ b4 ∧ b4 ≤ 65535) (hb5 : 0 ≤ b5 ∧ b5 ≤ 65535) (hb6 : 0 ≤ b6 ∧ b6 ≤ 65535) (hb7 : 0 ≤ b7 ∧ b7 ≤ 65535) (R : Value)
   (hR : Hid (Value.agg #[.int .i64 ((a0 + b0) % 65536),
        .int .i64 ((a1 + b1 + (a0 + b0) / 65536) % 65536),
        .int .i64 ((a2 + b2 + (a1 + b1 + (a0 + b0) / 65536) / 65536) % 65536),
        .int .i64 ((a3 + b3 + (a2 + b2 + (a1 + b1 + (a0 + b0) / 65536) / 65536) / 65536) % 65536),
        .int .i64 ((a4 + b4 + (a3 + b3 + (a2 + b2 + (a1 + b1 + (a0 + b0) / 65536) / 65536) / 65536) / 65536) % 65536),
        .int .i64 ((a5 + b5 + (a4 + b4 + (a3 + b3 + (a2 + b2 + (a1 + b1 + (a0 + b0) / 65536) / 65536) / 65536) / 65536) / 65536) % 65536),
        .int .i64 ((a6 + b6 + (a5 + b5 + (a4 + b4 + (a3 + b3 + (a2 + b2 + (a1 + b1 + (a0 + b0) / 65536) / 65536) / 65536) / 65536) / 65536) / 65536) % 65536),
        .int .i64 ((a7 + b7 + (a6 + b6 + (a5 + b5 + (a4 + b4 + (a3 + b3 + (a2 + b2 + (a1 + b1 + (a0 + b0) / 65536) / 65536) / 65536) / 65536) / 65536) / 65536) / 65536) % 65536)] = R)) (w : World) :
    Calls Try.prog 15 #[.agg #[.int .i64 a0, .int .i64 a1, .int .i64 a2, .int .i64 a3, .int .i64 a4, .int .i64 a5, .int .i64 a6, .int .i64 a7],
       .agg #[.int .i64 b0, .int .i64 b1, .int .i64 b2, .int .i64 b3, .int .i64 b4, .int .i64 b5, .int .i64 b6, .int .i64 b7]] w fun e w' => e = .returned R ∧ Below w.heap.size w w' := by
  go_enter Try.func15, Try.ntmps15
  go_wp2
  refine wp_loop_rounds 9 ?_
  iterate 8 (rw [rounds_succ]; go_wp2; go_quiet (fail); go_wp2)
  rw [rounds_succ]
  go_wp2
  refine bodyPost_ret (v := R) ?_ rfl ⟨rfl, ?_⟩
  · skip
    rw [← hR.out]
    simp [results, Try.results15, go_sem]
  repeat (first | (with_reducible exact Below.refl _ _) | (with_reducible refine below_drewN ?_ _) | (with_reducible refine Below.drew ?_) | (with_reducible refine Below.setCell ?_ (by simp; try omega) _) | (with_reducible refine Below.alloc ?_ (by simp; try omega) _))

theorem add_any (S T : Int) (w : World) : Calls Try.prog 15 #[D S, D T] w fun e w' => e = .returned (D (S + T)) ∧ Below w.heap.size w w' := by
  have F := add_digits S T
  rw [← carry7, ← carry6, ← carry5, ← carry4, ← carry3, ← carry2] at F
  refine add_core _ _ _ _ _ _ _ _ _ _ _ _ _ _ _ _ ?_ ?_ ?_ ?_ ?_ ?_ ?_ ?_ ?_ ?_ ?_ ?_ ?_ ?_ ?_ ?_ _ F w <;> omega

end Go.Proofs.Ytmndafndopoelaa
