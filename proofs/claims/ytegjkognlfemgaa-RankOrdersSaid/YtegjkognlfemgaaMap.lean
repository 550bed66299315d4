/- The book's map: look-ups and new entries, of a map keyed by pairs of numbers. -/
import Derived.Test.YtegjkognlfemgaaProg
import Derived.WalkKit
import Derived.Below
import Derived.Outline
import Derived.Laws.StructEq
import Derived.Lib.Hide
namespace Go.Proofs.Ytegjkognlfemgaa
open Go.RowKit

/-- An entry. -/
def ent (e : Int × Int × Int × Nat) : MapEntry := ⟨.agg #[.int .i64 e.1, .int .i64 e.2.1], .int .u64 e.2.2.1, e.2.2.2⟩

theorem eqPair (n k n' k' : Int) (w : World) : (Op.equal 32 (.agg #[.int .i64 n, .int .i64 k]) (.agg #[.int .i64 n', .int .i64 k'])).run Try.prog w = .ok (n == n' && (k == k')) w := by
  unfold Op.equal Op.maxDepth
  go_simp
  by_cases h1 : n = n' <;> by_cases h2 : k = k' <;> simp [h1, h2]

theorem checkPair (b : Bool) (n k : Int) (w : World) : (Instr.checkKey b 10000 32 (.agg #[.int .i64 n, .int .i64 k])).run Try.prog w = .ok () w := by kernel_rfl

/-- What a look-up finds: the value at a pair, and whether there is one. -/
def look (n k : Int) : List (Int × Int × Int × Nat) → Option Int
  | [] => none
  | e :: r => if n = e.1 ∧ k = e.2.1 then some e.2.2.1 else look n k r

theorem asking (n k : Int) (w : World) : ∀ (l : List (Int × Int × Int × Nat)) (i : Nat), ∃ r, (Instr.findAsking 32 (.agg #[.int .i64 n, .int .i64 k]) (l.map ent) i).run Try.prog w = .ok r w ∧ r.map (·.2) = (look n k l).map (Value.int .u64)
  | [], i => ⟨none, by simp [Instr.findAsking], rfl⟩
  | e :: l, i => by
    obtain ⟨r, h1, h2⟩ := asking n k w l (i + 1)
    by_cases hc : n = e.1 ∧ k = e.2.1
    · refine ⟨some (i, .int .u64 e.2.2.1), ?_, by simp [look, hc]⟩
      have hb : (n == e.1 && (k == e.2.1)) = true := by simp [hc]
      simp only [List.map_cons, Instr.findAsking, ent, Sem.run_bind, eqPair, Result.andThen_ok, hb, if_true]
      rfl
    · refine ⟨r, ?_, by rw [h2]; simp [look, hc]⟩
      have hb : (n == e.1 && (k == e.2.1)) = false := by
        rw [Bool.and_eq_false_iff, beq_eq_false_iff_ne, beq_eq_false_iff_ne]
        by_cases h : n = e.1
        · exact .inr (fun h' => hc ⟨h, h'⟩)
        · exact .inl h
      simp only [List.map_cons, Instr.findAsking, ent, Sem.run_bind, eqPair, Result.andThen_ok, hb]
      exact h1

theorem finding (n k : Int) (w : World) (l : List (Int × Int × Int × Nat)) : ∃ r, (Instr.findKey 32 (.agg #[.int .i64 n, .int .i64 k]) (l.map ent)).run Try.prog w = .ok r w ∧ r.map (·.2) = (look n k l).map (Value.int .u64) := by
  cases l with
  | nil =>
    refine ⟨none, ?_, rfl⟩
    simp only [Instr.findKey, Sem.run_bind, run_underlying Try.underlying32, Result.andThen_ok, List.map_nil, Instr.findNow]
    rfl
  | cons e l =>
    obtain ⟨r, h1, h2⟩ := asking n k w (e :: l) 0
    refine ⟨r, ?_, h2⟩
    simp only [Instr.findKey, Sem.run_bind, run_underlying Try.underlying32, Result.andThen_ok]
    exact h1

/-- Block gm is a map of these entries. -/
def IsMap (w : World) (gm : Nat) (l : List (Int × Int × Int × Nat)) : Prop := ∃ c, w.heap[gm]? = some (.map (l.map ent).toArray c)

theorem look_yes {w : World} {gm : Nat} {l : List (Int × Int × Int × Nat)} (h : IsMap w gm l) {n k v : Int} (hl : look n k l = some v) :
    (Instr.lookup 67 (.map (some gm)) (.agg #[.int .i64 n, .int .i64 k]) true).run Try.prog w = .ok (.tuple #[.int .u64 v, .bool true]) w := by
  obtain ⟨c, hc⟩ := h
  obtain ⟨r, h1, h2⟩ := finding n k w l
  rw [hl] at h2
  cases r with
  | none => simp at h2
  | some p =>
    obtain ⟨i, x⟩ := p
    simp at h2
    subst h2
    simp only [Instr.lookup, Sem.run_bind, run_underlying Try.underlying67, Result.andThen_ok]
    rw [show (getObj gm).run Try.prog w = .ok (.map (l.map ent).toArray c) w from by simp [getObj, Sem.run, hc]]
    simp only [Result.andThen_ok, Sem.run_bind, Sem.run_pure, checkPair, h1]
    rfl

theorem zero23 (w : World) : (zeroValue 23).run Try.prog w = .ok (.int .u64 0) w := by kernel_rfl

theorem look_no {w : World} {gm : Nat} {l : List (Int × Int × Int × Nat)} (h : IsMap w gm l) {n k : Int} (hl : look n k l = none) :
    (Instr.lookup 67 (.map (some gm)) (.agg #[.int .i64 n, .int .i64 k]) true).run Try.prog w = .ok (.tuple #[.int .u64 0, .bool false]) w := by
  obtain ⟨c, hc⟩ := h
  obtain ⟨r, h1, h2⟩ := finding n k w l
  rw [hl] at h2
  cases r with
  | some p => simp at h2
  | none =>
    simp only [Instr.lookup, Sem.run_bind, run_underlying Try.underlying67, Result.andThen_ok]
    rw [show (getObj gm).run Try.prog w = .ok (.map (l.map ent).toArray c) w from by simp [getObj, Sem.run, hc]]
    simp only [Result.andThen_ok, Sem.run_bind, Sem.run_pure, checkPair, h1, zero23]
    rfl

/-- A new entry. -/
theorem put_new {w : World} {gm : Nat} {l : List (Int × Int × Int × Nat)} (h : IsMap w gm l) {n k v : Int} (hl : look n k l = none) :
    ∃ b w', (Instr.mapUpdate 67 (.map (some gm)) (.agg #[.int .i64 n, .int .i64 k]) (.int .u64 v)).run Try.prog w = .ok () w' ∧ IsMap w' gm (l ++ [(n, k, v, b)]) ∧ w.grownBy w' (some gm) := by
  obtain ⟨c, hc⟩ := h
  obtain ⟨r, h1, h2⟩ := finding n k w l
  rw [hl] at h2
  cases r with
  | some p => simp at h2
  | none =>
    have hlt : gm < w.heap.size := by
      rcases Nat.lt_or_ge gm w.heap.size with hx | hx
      · exact hx
      · rw [Array.getElem?_eq_none hx] at hc; cases hc
    refine ⟨c, { w with heap := w.heap.setIfInBounds gm (.map ((l.map ent).toArray.push ⟨.agg #[.int .i64 n, .int .i64 k], .int .u64 v, c⟩) (c + 1)) }, ?_, ⟨c + 1, ?_⟩, ?_⟩
    · simp only [Instr.mapUpdate, Sem.run_bind, run_underlying Try.underlying67, Result.andThen_ok]
      rw [show (getObj gm).run Try.prog w = .ok (.map (l.map ent).toArray c) w from by simp [getObj, Sem.run, hc]]
      simp only [Result.andThen_ok, Sem.run_bind, checkPair, h1]
      simp [setObj, Sem.run, hc]
    · simp [Array.getElem?_setIfInBounds_self_of_lt hlt, ent]
    · refine ⟨rfl, rfl, rfl, by simp, fun i hi hne => ?_⟩
      show (w.heap.setIfInBounds gm _)[i]? = _
      rw [Array.getElem?_setIfInBounds_ne (fun e => hne (by rw [e]))]
end Go.Proofs.Ytegjkognlfemgaa
