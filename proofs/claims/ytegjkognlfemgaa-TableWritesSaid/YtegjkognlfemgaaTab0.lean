/- The table in memory; the contract of table.New. -/
import Derived.Test.YtegjkognlfemgaaRankM
import Derived.StillTailTactics
import Derived.Laws.Rows
namespace Go.Proofs.Ytegjkognlfemgaa
open Go.RowKit

/-- Block g holds a table's cells, as T tells them. -/
structure Tab (w : World) (g : Nat) (T : Nat → Nat) : Prop where
  ex : ∃ cs : Array Value, w.heap[g]? = some (.cells cs 77 (0, 0)) ∧ cs.size = 1139 ∧ ∀ p, p < 1139 → cs[p]? = some (.int .u64 (T p : Nat))
def upd (T : Nat → Nat) (p x : Nat) : Nat → Nat := fun q => if q = p then x else T q
theorem upd_at (T : Nat → Nat) (p x : Nat) : upd T p x p = x := if_pos rfl
theorem upd_ne {T : Nat → Nat} {p x q : Nat} (h : q ≠ p) : upd T p x q = T q := if_neg h

theorem Tab.lt {w : World} {g : Nat} {T : Nat → Nat} (h : Tab w g T) : g < w.heap.size := by
  obtain ⟨cs, h1, _⟩ := h.ex
  exact heap_lt h1
theorem Tab.cell {w : World} {g : Nat} {T : Nat → Nat} (h : Tab w g T) {p : Nat} (hp : p < 1139) : w.cell? ⟨g, p, none⟩ = some (.int .u64 (T p : Nat)) := by
  obtain ⟨cs, h1, h2, h3⟩ := h.ex
  rw [cellOf h1]
  exact h3 p hp
theorem Tab.frozen {w : World} {g : Nat} {T : Nat → Nat} (h : Tab w g T) (p : Nat) : w.frozen? ⟨g, p, none⟩ = false := by
  obtain ⟨cs, h1, _⟩ := h.ex
  simp [World.frozen?, h1]
theorem Tab.below {w w' : World} {g : Nat} {T : Nat → Nat} (h : Tab w g T) (hb : Below w.heap.size w w') : Tab w' g T := by
  have hl := h.lt
  obtain ⟨cs, h1, h2⟩ := h.ex
  exact ⟨cs, (hb.block g hl).trans h1, h2⟩
theorem Tab.drew {w : World} {g : Nat} {T : Nat → Nat} (h : Tab w g T) : Tab w.drew g T := h.below ((Below.refl _ _).drew)
theorem Tab.drewN {w : World} {g : Nat} {T : Nat → Nat} (h : Tab w g T) (n : Nat) : Tab (w.drewN n) g T := h.below (below_drewN (Below.refl _ _) n)
theorem Tab.set_ {w : World} {g : Nat} {T : Nat → Nat} (h : Tab w g T) {p : Nat} (hp : p < 1139) (x : Nat) : Tab (w.setCell ⟨g, p, none⟩ (.int .u64 x)) g (upd T p x) := by
  obtain ⟨cs, h1, h2, h3⟩ := h.ex
  refine ⟨cs.setIfInBounds p (.int .u64 x), ?_, by simpa using h2, fun q hq => ?_⟩
  · simp [World.setCell, Array.getElem?_modify, h1]
  · by_cases e : q = p
    · subst e
      rw [upd_at]
      simp [h2, hp]
    · rw [upd_ne e, Array.getElem?_setIfInBounds_ne (fun e2 => e e2.symm)]
      exact h3 q hq
theorem Tab.far {w : World} {g : Nat} {T : Nat → Nat} (h : Tab w g T) {p : Addr} (hp : g ≠ p.block) (v : Value) : Tab (w.setCell p v) g T := by
  obtain ⟨cs, h1, h2⟩ := h.ex
  exact ⟨cs, (Below.heap_setCell w p v g hp).trans h1, h2⟩
theorem Tab.grown {w w' : World} {g : Nat} {T : Nat → Nat} {row : Option Nat} (h : Tab w g T) (hg : w.grownBy w' row) (hr : row ≠ some g) : Tab w' g T := by
  have hl := h.lt
  obtain ⟨cs, h1, h2⟩ := h.ex
  exact ⟨cs, (hg.block g hl (fun e => hr e.symm)).trans h1, h2⟩

/-- A row of the table is as it shall be. -/
def RowOK (T : Nat → Nat) (r : Nat) : Prop := (∀ q, q < 33 → T (r * 67 + q) = V r q) ∧ (∀ q, q < 34 → T (r * 67 + 33 + q) = cum r q)
theorem RowOK.upd {T : Nat → Nat} {r p x : Nat} (h : RowOK T r) (hp : (r + 1) * 67 ≤ p) : RowOK (upd T p x) r :=
  ⟨fun q hq => by rw [upd_ne (by omega)]; exact h.1 q hq, fun q hq => by rw [upd_ne (by omega)]; exact h.2 q hq⟩
/-- Ahead of row n. -/
def S0 (n : Nat) (T : Nat → Nat) : Prop := (∀ r, r < n → RowOK T r) ∧ ∀ p, n * 67 ≤ p → T p = if p = 0 then 1 else 0
/-- k of row n's numbers are there. -/
def S1 (n k : Nat) (T : Nat → Nat) : Prop := (∀ r, r < n → RowOK T r) ∧ (∀ q, q < k → T (n * 67 + q) = V n q) ∧ ∀ p, n * 67 + k ≤ p → T p = 0
/-- .. and the sums up to k. -/
def S2 (n k : Nat) (T : Nat → Nat) : Prop := (∀ r, r < n → RowOK T r) ∧ (∀ q, q < 33 → T (n * 67 + q) = V n q) ∧ (∀ q, q ≤ k → T (n * 67 + 33 + q) = cum n q) ∧ ∀ p, n * 67 + 33 + k < p → T p = 0

theorem S0.zero : S0 0 (upd (fun _ => 0) 0 1) := ⟨fun r hr => by omega, fun p _ => by unfold Go.Proofs.Ytegjkognlfemgaa.upd; rfl⟩
theorem S0.first {T : Nat → Nat} (h : S0 0 T) : S1 0 33 T := by
  refine ⟨fun r hr => by omega, fun q hq => ?_, fun p hp => ?_⟩
  · rw [h.2 _ (by omega)]
    cases q with
    | zero => rfl
    | succ q =>
      rw [if_neg (by omega)]
      exact (V_none q (by omega)).symm
  · rw [h.2 p (by omega), if_neg (by omega)]
theorem S0.start {n : Nat} {T : Nat → Nat} (h : S0 (n + 1) T) (hn : n < 16) : S1 (n + 1) 1 (upd T ((n + 1) * 67) 1) := by
  refine ⟨fun r hr => (h.1 r hr).upd (by omega), fun q hq => ?_, fun p hp => ?_⟩
  · obtain rfl : q = 0 := by omega
    show upd T ((n + 1) * 67) 1 ((n + 1) * 67) = V (n + 1) 0
    rw [upd_at]
    exact (V_zero (n + 1) (by omega)).symm
  · rw [upd_ne (by omega), h.2 p (by omega), if_neg (by omega)]
theorem S1.step {n k : Nat} {T : Nat → Nat} (h : S1 (n + 1) (k + 1) T) (hn : n < 16) (hk : k < 32) :
    T (n * 67 + (k + 1)) = V n (k + 1) ∧ T ((n + 1) * 67 + k) = V (n + 1) k ∧ T (n * 67 + k) = V n k ∧ V n (k + 1) + V (n + 1) k + V n k = V (n + 1) (k + 1) ∧ S1 (n + 1) (k + 2) (upd T ((n + 1) * 67 + (k + 1)) (V (n + 1) (k + 1))) := by
  refine ⟨(h.1 n (by omega)).1 _ (by omega), h.2.1 k (by omega), (h.1 n (by omega)).1 _ (by omega), (V_step n hn k (by omega)).symm, fun r hr => (h.1 r hr).upd (by omega), fun q hq => ?_, fun p hp => ?_⟩
  · by_cases e : q = k + 1
    · subst e
      rw [upd_at]
    · rw [upd_ne (by omega)]
      exact h.2.1 q (by omega)
  · rw [upd_ne (by omega)]
    exact h.2.2 p (by omega)
theorem S1.sums {n : Nat} {T : Nat → Nat} (h : S1 n 33 T) : S2 n 0 T := by
  refine ⟨h.1, h.2.1, fun q hq => ?_, fun p hp => h.2.2 p (by omega)⟩
  obtain rfl : q = 0 := by omega
  rw [h.2.2 _ (by omega)]
  rfl
theorem S2.step {n k : Nat} {T : Nat → Nat} (h : S2 n k T) (hk : k < 33) : T (n * 67 + 33 + k) = cum n k ∧ cum n k + V n k = cum n (k + 1) ∧ S2 n (k + 1) (upd T (n * 67 + 33 + (k + 1)) (cum n (k + 1))) := by
  refine ⟨h.2.2.1 k (Nat.le_refl _), rfl, fun r hr => (h.1 r hr).upd (by omega), fun q hq => ?_, fun q hq => ?_, fun p hp => ?_⟩
  · rw [upd_ne (by omega)]
    exact h.2.1 q hq
  · by_cases e : q = k + 1
    · subst e
      rw [upd_at]
    · rw [upd_ne (by omega)]
      exact h.2.2.1 q (by omega)
  · rw [upd_ne (by omega)]
    exact h.2.2.2 p (by omega)
theorem S2.done {n : Nat} {T : Nat → Nat} (h : S2 n 33 T) : S0 (n + 1) T := by
  refine ⟨fun r hr => ?_, fun p hp => ?_⟩
  · by_cases e : r = n
    · subst e
      exact ⟨h.2.1, fun q hq => h.2.2.1 q (by omega)⟩
    · exact h.1 r (by omega)
  · rw [h.2.2.2 p (by omega), if_neg (by omega)]
theorem cum_lt : ∀ n, n < 17 → ∀ k, k < 34 → cum n k < 1000000000000000000 := by
  intro n hn k hk
  rcases Nat.lt_or_ge n 16 with h | h
  · rcases Nat.lt_or_ge k 33 with h2 | h2
    · have := top_is n h k h2
      have := V_lt (n + 1) (by omega) k h2
      omega
    · obtain rfl : k = 33 := by omega
      have e : cum n 33 = cum n 32 + V n 32 := rfl
      have := top_is n h 32 (by omega)
      have := V_lt (n + 1) (by omega) 32 (by omega)
      omega
  · obtain rfl : n = 16 := by omega
    have mono : ∀ d, cum 16 k ≤ cum 16 (k + d) := fun d => by
      induction d with
      | zero => exact Nat.le_refl _
      | succ d ih => exact Nat.le_trans ih (Nat.le_add_right _ _)
    have := mono (33 - k)
    rw [show k + (33 - k) = 33 from by omega] at this
    have h33 : cum 16 33 < 1000000000000000000 := by decide +kernel
    omega

/-- An array's cells, read out of the middle of a block. -/
theorem wpList_load_part {ops : Array Oper} {rest : List Oper} {o : Oper} {a : Act} {w : World} {Q : Exit → Act → World → Prop} (hgd : o.guard = none) (ty : TypeId) (x : Operand) (ho : o.op = .load ty x)
    (g off : Nat) (hx : a.eval x = .pointer (some ⟨g, off, none⟩)) (xs : List Value) (hc : ∀ (j : Nat) (v : Value), xs[j]? = some v → w.cell? ⟨g, off + j, none⟩ = some v) (d : TypeDesc)
    (hu : Try.prog.underlying ty = some d) (hd : (match d with | .struct _ | .array _ _ => true | _ => false) = true) (hi : (Try.prog.info? ty).map (·.size) = some xs.length)
    (h : wpList Try.prog ops Q rest (a.put o.dst (.agg xs.toArray)) w) : wpList Try.prog ops Q (o :: rest) a w := by
  have hl : (loadCells ⟨g, off, none⟩ xs.length).run Try.prog w = .ok xs.toArray w :=
    run_loadCells_list (P := Try.prog) w ⟨g, off, none⟩ xs (fun j v hv => by
      rw [Go.WideShapes.add_plain]
      exact hc j v hv)
  have hrun : (loadVar ty ⟨g, off, none⟩).run Try.prog w = .ok (.agg xs.toArray) w := by
    cases hq : Try.prog.info? ty with
    | none => simp [hq] at hi
    | some i =>
      have hs : i.size = xs.length := by simpa [hq] using hi
      have hagg : (isAgg ty).run Try.prog w = .ok true w := by
        unfold isAgg
        rw [Sem.run_bind, run_underlying hu w]
        cases d <;> simp_all
      simp [loadVar, Sem.run_bind, hagg, sizeOf, typeInfo, hq, hs, hl]
  refine wpList_plain hgd fun _ hK => ?_
  unfold Oper.wp execOp
  simp only [ho, hx, Instr.loadAt, Instr.sureAddr, Sem.run_bind, Sem.run_pure, Result.andThen_ok, hrun]
  exact hK _ _ h

def Z77 : Array Value := Array.replicate 1139 (.int .u64 0)
theorem build77 (w : World) : (Instr.build 77 #[]).run Try.prog w = .ok (.agg Z77) w := by kernel_rfl
end Go.Proofs.Ytegjkognlfemgaa
