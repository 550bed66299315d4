import Derived.Test.YtmndafndopoelaaMul
import Derived.ChangeKeysEq
import Derived.Laws.StructEq
namespace Go.Proofs.Ytmndafndopoelaa
open Go.RowKit

theorem info3 : (Try.prog.info? 3).map (fun i => (i.zero, i.size, i.bytes)) = some (some (.int .i64 0), 1, 8) := by kernel_rfl
theorem cells3 : Try.prog.cellsOf 3 = 1 := by kernel_rfl
theorem guard27 : Try.prog.eqGuardType Try.prog.depth 27 = false := by kernel_rfl

theorem part_int (xs : Array Value) (j : Nat) (a : Int) (hx : xs[j]? = some (.int .i64 a)) (w : World) : (part 3 xs (j * 1)).run Try.prog w = .ok (.int .i64 a) w := by
  go_simp

theorem eqItem {d : Nat} {w : World} {xs ys : Array Value} {a b : Int} {j : Nat} {js : List Nat} {r : Bool} (hx : xs[j]? = some (.int .i64 a)) (hy : ys[j]? = some (.int .i64 b))
    (hr : (Op.eqItems (d + 1) 3 1 xs ys js).run Try.prog w = .ok r w) : (Op.eqItems (d + 1) 3 1 xs ys (j :: js)).run Try.prog w = .ok (a == b && r) w := by
  simp only [Op.eqItems, Sem.run_bind, part_int xs j a hx, part_int ys j b hy, run_equalIn_int w d 3 .i64 .i64 a b Try.underlying3, Result.andThen_ok]
  cases h : (a == b)
  · simp
  · simpa using hr

/-- Two lists of eight digits are one, if their digits are. -/
theorem eq8 (a0 a1 a2 a3 a4 a5 a6 a7 b0 b1 b2 b3 b4 b5 b6 b7 : Int) (w : World) :
    (Op.equalIn 10000 27 (.agg #[.int .i64 a0, .int .i64 a1, .int .i64 a2, .int .i64 a3, .int .i64 a4, .int .i64 a5, .int .i64 a6, .int .i64 a7])
      (.agg #[.int .i64 b0, .int .i64 b1, .int .i64 b2, .int .i64 b3, .int .i64 b4, .int .i64 b5, .int .i64 b6, .int .i64 b7])).run Try.prog w =
    .ok (a0 == b0 && (a1 == b1 && (a2 == b2 && (a3 == b3 && (a4 == b4 && (a5 == b5 && (a6 == b6 && (a7 == b7 && true)))))))) w := by
  obtain ⟨i0, hi, hz0, hz1, hz2⟩ := info_parts info3
  rw [run_equalIn_array w 9999 _ _ Try.underlying27 hi, cells3]
  refine eqItem rfl rfl ?_
  refine eqItem rfl rfl ?_
  refine eqItem rfl rfl ?_
  refine eqItem rfl rfl ?_
  refine eqItem rfl rfl ?_
  refine eqItem rfl rfl ?_
  refine eqItem rfl rfl ?_
  refine eqItem rfl rfl ?_
  simp [Op.eqItems]

theorem eqD (X Y : Int) (w : World) : (binOp .eql 27 (D X) (D Y)).run Try.prog w = .ok (.bool (decide ((X - Y) % 340282366920938463463374607431768211456 = 0))) w := by
  unfold D
  rw [run_eql_struct, eq8]
  simp only [Result.andThen_ok]
  congr 2
  rw [Bool.eq_iff_iff]
  simp only [Bool.and_eq_true, beq_iff_eq, decide_eq_true_eq, and_true]
  omega

theorem eqD_refl (X : Int) (w : World) : (binOp .eql 27 (D X) (D X)).run Try.prog w = .ok (.bool true) w := by
  rw [eqD]
  simp
theorem guardD (o : BinOp) (x y : Operand) (X Y : Int) (w : World) : (eqGuard o 27 x y (D X) (D Y)).run Try.prog w = .ok () w := by
  unfold D
  exact run_eqGuard_agg _ _ _ _ _ _ _ guard27
end Go.Proofs.Ytmndafndopoelaa
