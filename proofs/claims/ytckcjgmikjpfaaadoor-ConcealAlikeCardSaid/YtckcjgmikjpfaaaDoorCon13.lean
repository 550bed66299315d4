/- The contracts of New and of the maker's In. -/
import Derived.Test.YtckcjgmikjpfaaaDoorCon12
import Derived.Lib.SliceRun
import Derived.BigFrame
import Derived.StillTailTactics
namespace Go.Proofs.YtckcjgmikjpfaaaDoor
open Go.RowKit

theorem cell_far {w : World} {a b : Addr} {v : Value} (h : a ≠ b) : (w.setCell a v).cell? b = w.cell? b := World.cell?_setCell_other _ _ _ _ h
theorem heap_new (w : World) (o : Obj) : (w.alloc o).heap[w.heap.size]? = some o := by
  show (w.heap.push _)[w.heap.size]? = _
  simp
theorem frozen_new (w : World) (c : Array Value) (t : TypeId) (j : Nat) : (w.alloc (.cells c t)).frozen? ⟨w.heap.size, j, none⟩ = false := by
  simp only [World.frozen?, heap_new]
  simp

/-- A maker in memory: its own block, its room. -/
structure Mk (w : World) (n mb rb : Nat) : Prop where
  ne : mb ≠ rb
  ltm : mb < w.heap.size
  ltr : rb < w.heap.size
  hd : w.cell? ⟨mb, 0, none⟩ = some (.slice (some ⟨rb, 0, none⟩) n n)
  fz : ∀ j, w.frozen? ⟨rb, j, none⟩ = false
  cell : ∀ j, j < n → ∃ x, w.cell? ⟨rb, j, none⟩ = some (.int .i64 x)

/-- Two worlds that differ at two blocks alone, and in new ones. -/
structure Fr (a b : Nat) (w w' : World) : Prop where
  os : w'.os = w.os
  tape : w'.tape = w.tape
  output : w'.output = w.output
  size : w.heap.size ≤ w'.heap.size
  block : ∀ k, k < w.heap.size → k ≠ a → k ≠ b → w'.heap[k]? = w.heap[k]?
theorem Fr.refl (a b : Nat) (w : World) : Fr a b w w := ⟨rfl, rfl, rfl, Nat.le_refl _, fun _ _ _ _ => rfl⟩
theorem Fr.trans {a b : Nat} {w1 w2 w3 : World} (h : Fr a b w1 w2) (k : Fr a b w2 w3) : Fr a b w1 w3 :=
  ⟨k.os.trans h.os, k.tape.trans h.tape, k.output.trans h.output, Nat.le_trans h.size k.size, fun i hi ha hb => (k.block i (Nat.lt_of_lt_of_le hi h.size) ha hb).trans (h.block i hi ha hb)⟩
theorem Fr.setCell {a b : Nat} {w w' : World} (h : Fr a b w w') {p : Addr} (hp : p.block = a ∨ p.block = b) (u : Value) : Fr a b w (w'.setCell p u) :=
  h.trans ⟨rfl, rfl, rfl, by simp, fun k _ ha hb => Below.heap_setCell w' p u k (by rcases hp with e | e <;> rw [e] <;> assumption)⟩
theorem Fr.drewN {a b : Nat} {w w' : World} (h : Fr a b w w') (n : Nat) : Fr a b w (w'.drewN n) := ⟨h.os, h.tape, h.output, h.size, h.block⟩
theorem Fr.below {a b B : Nat} {w w' : World} (h : Fr a b w w') (hB : B ≤ w.heap.size) (ha : B ≤ a) (hb : B ≤ b) : Below B w w' :=
  ⟨h.os, h.tape, h.output, h.size, fun k hk => h.block k (by omega) (by omega) (by omega)⟩
theorem Fr.cell {a b : Nat} {w w' : World} (h : Fr a b w w') {p : Addr} (hp : p.block < w.heap.size) (ha : p.block ≠ a) (hb : p.block ≠ b) : w'.cell? p = w.cell? p := World.cell?_of_block (h.block _ hp ha hb)
theorem Fr.frozen {a b : Nat} {w w' : World} (h : Fr a b w w') {p : Addr} (hp : p.block < w.heap.size) (ha : p.block ≠ a) (hb : p.block ≠ b) : w'.frozen? p = w.frozen? p := World.frozen?_of_block (h.block _ hp ha hb)
theorem Fr.setCells {a b c : Nat} (hc : c = a ∨ c = b) : ∀ (vs : List Value) (o : Nat) (w w' : World), Fr a b w w' → Fr a b w (w'.setCells c o vs)
  | [], _, _, _, h => h
  | _ :: r, o, _, _, h => Fr.setCells hc r (o + 1) _ _ (h.setCell hc _)

theorem mk_made (n : Nat) : ∃ Z : Array Value, madeCells (Value.int .i64 0).cells (n * 1) = Z ∧ ∀ j, j < n → Z[j]? = some (.int .i64 0) := by
  refine ⟨_, rfl, fun j hj => ?_⟩
  simp [madeCells, hj, Value.cells, Nat.mod_one]

theorem mk_new (w : World) (n : Nat) (Z : Array Value) (hz : ∀ j, j < n → Z[j]? = some (.int .i64 0)) :
    Mk ((w.alloc (.cells Z 2)).alloc (.cells #[.slice (some ⟨w.heap.size, 0, none⟩) n n] 48)) n (w.heap.size + 1) w.heap.size := by
  have b1 := belowAlloc (w.alloc (.cells Z 2)) (.cells #[.slice (some ⟨w.heap.size, 0, none⟩) n n] 48)
  have e1 : (w.alloc (.cells Z 2)).heap.size = w.heap.size + 1 := by simp
  refine ⟨by omega, by simp, by simp; omega, ?_, fun j => ?_, fun j hj => ⟨0, ?_⟩⟩
  · rw [← e1, World.cell?_alloc_new]
    rfl
  · rw [b1.frozen (p := ⟨w.heap.size, j, none⟩) (by simp), frozen_new]
  · rw [b1.cell (p := ⟨w.heap.size, j, none⟩) (by simp), World.cell?_alloc_new, hz j hj]

set_option maxHeartbeats 4000000 in
theorem new_no (n : Nat) (ht : thr n = false) (w : World) : Calls Tryd.prog 12 #[.int .i64 n] w fun e w' => e = .returned (.tuple #[.pointer none, .int .i64 2]) ∧ w = w' := by
  have ct := Lib.hid (there_any n w)
  rw [ht] at ct
  clear ht
  go_enter Tryd.func12, Tryd.ntmps12
  go_wp2_with fail
  with_reducible refine Calls.mono ct.out ?_
  rintro e w1 ⟨rfl, rfl⟩
  go_wp2_with fail
  go_ret2
  exact ⟨rfl, rfl⟩

set_option maxHeartbeats 4000000 in
theorem new_yes (n : Nat) (ht : thr n = true) (w : World) : Calls Tryd.prog 12 #[.int .i64 n] w fun e w' =>
    e = .returned (.tuple #[.pointer (some ⟨w.heap.size + 1, 0, none⟩), .int .i64 0]) ∧ Mk w' n (w.heap.size + 1) w.heap.size ∧ Below w.heap.size w w' ∧ w'.heap.size = w.heap.size + 2 := by
  have hc := thr_cases ht
  have ct := Lib.hid (there_any n w)
  rw [ht] at ct
  obtain ⟨i0, hti, ti0, ti1, ti2⟩ := info_parts info2
  have hmk := fun W => run_make (P := Tryd.prog) W 29 2 i0 (.int .i64 0) Tryd.underlying29 hti ti0 .i64 .i64 (n : Int) (n : Int) (by omega) (by omega) (by rw [ti2]; omega) (by omega)
  simp only [Int.toNat_natCast, ti1] at hmk
  obtain ⟨Z, hZ, hz⟩ := mk_made n
  rw [hZ] at hmk
  replace hz := Lib.hid hz
  clear hZ hc ht
  go_enter Tryd.func12, Tryd.ntmps12
  go_wp2_with fail
  with_reducible refine Calls.mono ct.out ?_
  rintro e w1 ⟨rfl, rfl⟩
  go_wp2_with fail
  go_ret2
  exact ⟨rfl, mk_new w n Z hz.out, ((Below.refl _ _).alloc (Nat.le_refl _) _).alloc (by simp) _, by simp⟩
end Go.Proofs.YtckcjgmikjpfaaaDoor
