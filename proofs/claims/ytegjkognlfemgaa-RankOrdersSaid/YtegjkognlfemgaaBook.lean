/- Contracts of the book: New, right, V, Has. -/
import Derived.Test.YtegjkognlfemgaaMap
import Derived.Test.YtegjkognlfemgaaRef10
namespace Go.Proofs.Ytegjkognlfemgaa
open Go.RowKit

theorem below_drewN {B : Nat} {a w : World} (h : Below B a w) (n : Nat) : Below B a (w.drewN n) := ⟨h.os, h.tape, h.output, h.size, h.block⟩
theorem heap_last (W : World) (o : Obj) {g : Nat} (h : g = W.heap.size) : (W.alloc o).heap[g]? = some o := by
  subst h
  exact heap_alloc_new W o
theorem heap_lt {W : World} {g : Nat} {o : Obj} (h : W.heap[g]? = some o) : g < W.heap.size := by
  rcases Nat.lt_or_ge g W.heap.size with hl | hl
  · exact hl
  · rw [Array.getElem?_eq_none hl] at h; cases h
theorem heap_keep {W : World} {o x : Obj} {g : Nat} (h : W.heap[g]? = some x) : (W.alloc o).heap[g]? = some x := (Below.heap_alloc W o g (heap_lt h)).trans h

def RightP (n k : Int) : Prop := 0 ≤ n ∧ n ≤ 16 ∧ 0 ≤ k ∧ k ≤ 32

set_option maxHeartbeats 1000000 in
theorem right_yes (n k : Int) (h : RightP n k) (w : World) : Calls Try.prog 41 #[.agg #[.int .i64 n, .int .i64 k]] w fun e w' => e = .returned (.bool true) ∧ w.alloc (.cells #[.int .i64 n, .int .i64 k] 32) = w' := by
  obtain ⟨h1, h2, h3, h4⟩ := h
  go_enter Try.func41, Try.ntmps41
  go_wp2
  go_ret
  exact ⟨rfl, rfl⟩
set_option maxHeartbeats 1000000 in
theorem right_no (n k : Int) (h : ¬ RightP n k) (w : World) : Calls Try.prog 41 #[.agg #[.int .i64 n, .int .i64 k]] w fun e w' => e = .returned (.bool false) ∧ w.alloc (.cells #[.int .i64 n, .int .i64 k] 32) = w' := by
  unfold RightP at h
  by_cases h1 : n < 0
  · have d1 : decide (0 ≤ n) = false := by simp; omega
    clear h
    go_enter Try.func41, Try.ntmps41
    go_wp2
    go_ret
    exact ⟨rfl, rfl⟩
  · by_cases h2 : 16 < n
    · have d1 : decide (n ≤ 16) = false := by simp; omega
      clear h
      go_enter Try.func41, Try.ntmps41
      go_wp2
      go_ret
      exact ⟨rfl, rfl⟩
    · by_cases h3 : k < 0
      · have d1 : decide (0 ≤ k) = false := by simp; omega
        clear h
        go_enter Try.func41, Try.ntmps41
        go_wp2
        go_ret
        exact ⟨rfl, rfl⟩
      · have h4 : 32 < k := by omega
        have d1 : decide (k ≤ 32) = false := by simp; omega
        clear h
        go_enter Try.func41, Try.ntmps41
        go_wp2
        go_ret
        exact ⟨rfl, rfl⟩

/-- The book at block gb, with its map at block gm: what is noted (S) has its V. -/
structure Book (w : World) (gb gm : Nat) (S : Int → Int → Bool) : Prop where
  ptr : w.heap[gb]? = some (.cells #[.map (some gm)] 69 (0, 0))
  map : ∃ l, IsMap w gm l ∧ ∀ n k : Int, look n k l = if S n k = true then some (VZ n k) else none

theorem Book.same {w w' : World} {gb gm : Nat} {S : Int → Int → Bool} (h : Book w gb gm S) (h1 : w'.heap[gb]? = w.heap[gb]?) (h2 : w'.heap[gm]? = w.heap[gm]?) : Book w' gb gm S := by
  obtain ⟨p, l, ⟨c, hc⟩, hl⟩ := h
  exact ⟨h1.trans p, l, ⟨c, h2.trans hc⟩, hl⟩
theorem Book.ltb {w : World} {gb gm : Nat} {S : Int → Int → Bool} (h : Book w gb gm S) : gb < w.heap.size := heap_lt h.ptr
theorem Book.ltm {w : World} {gb gm : Nat} {S : Int → Int → Bool} (h : Book w gb gm S) : gm < w.heap.size := by
  obtain ⟨l, ⟨c, hc⟩, _⟩ := h.map
  exact heap_lt hc
theorem Book.ne {w : World} {gb gm : Nat} {S : Int → Int → Bool} (h : Book w gb gm S) : gb ≠ gm := by
  obtain ⟨l, ⟨c, hc⟩, _⟩ := h.map
  rintro rfl
  have := h.ptr
  rw [hc] at this
  cases this
theorem Book.alloc {w : World} {gb gm : Nat} {S : Int → Int → Bool} (h : Book w gb gm S) (o : Obj) : Book (w.alloc o) gb gm S := h.same (Below.heap_alloc w o gb h.ltb) (Below.heap_alloc w o gm h.ltm)
theorem Book.drewN {w : World} {gb gm : Nat} {S : Int → Int → Bool} (h : Book w gb gm S) (n : Nat) : Book (w.drewN n) gb gm S := h.same rfl rfl
theorem Book.drew {w : World} {gb gm : Nat} {S : Int → Int → Bool} (h : Book w gb gm S) : Book w.drew gb gm S := h.same rfl rfl
theorem Book.below {w w' : World} {gb gm : Nat} {S : Int → Int → Bool} (h : Book w gb gm S) (hb : Below w.heap.size w w') : Book w' gb gm S := h.same (hb.block _ h.ltb) (hb.block _ h.ltm)
theorem Book.cell {w : World} {gb gm : Nat} {S : Int → Int → Bool} (h : Book w gb gm S) : w.cell? ⟨gb, 0, none⟩ = some (.map (some gm)) := by
  simp [World.cell?, h.ptr]

/-- What is noted holds all with no more numbers and no more pulses. -/
structure Closed (S : Int → Int → Bool) : Prop where
  right : ∀ n k, S n k = true → 1 ≤ n ∧ n ≤ 16 ∧ 1 ≤ k ∧ k ≤ 32
  down : ∀ n k, S n k = true → ∀ a b, 1 ≤ a → a ≤ n → 1 ≤ b → b ≤ k → S a b = true

def rect (n k : Int) (a b : Int) : Bool := decide (1 ≤ a ∧ a ≤ n ∧ 1 ≤ b ∧ b ≤ k)
/-- What is noted behind a question. -/
def more (S : Int → Int → Bool) (n k : Int) (a b : Int) : Bool := S a b || (decide (n ≤ 16 ∧ k ≤ 32) && rect n k a b)

theorem more_closed {S : Int → Int → Bool} (h : Closed S) (n k : Int) : Closed (more S n k) := by
  constructor
  · intro a b hab
    unfold more rect at hab
    simp only [Bool.or_eq_true, Bool.and_eq_true, decide_eq_true_eq] at hab
    rcases hab with hab | hab
    · exact h.right a b hab
    · omega
  · intro a b hab c d h1 h2 h3 h4
    unfold more rect at hab ⊢
    simp only [Bool.or_eq_true, Bool.and_eq_true, decide_eq_true_eq] at hab ⊢
    rcases hab with hab | hab
    · exact .inl (h.down a b hab c d h1 h2 h3 h4)
    · exact .inr (by omega)

theorem more_nothing {S : Int → Int → Bool} {n k : Int} (h : ¬ (1 ≤ n ∧ n ≤ 16 ∧ 1 ≤ k ∧ k ≤ 32)) : more S n k = S := by
  funext a b
  unfold more rect
  rw [Bool.eq_iff_iff]
  simp only [Bool.or_eq_true, Bool.and_eq_true, decide_eq_true_eq]
  constructor
  · rintro (h' | h')
    · exact h'
    · omega
  · exact .inl

theorem more_noted {S : Int → Int → Bool} (hc : Closed S) {n k : Int} (h : S n k = true) : more S n k = S := by
  funext a b
  unfold more rect
  rw [Bool.eq_iff_iff]
  simp only [Bool.or_eq_true, Bool.and_eq_true, decide_eq_true_eq]
  constructor
  · rintro (h' | h')
    · exact h'
    · exact hc.down n k h a b (by omega) (by omega) (by omega) (by omega)
  · exact .inl

/-- The three questions and the new entry. -/
theorem more_three {S : Int → Int → Bool} {n k : Int} (h : 1 ≤ n ∧ n ≤ 16 ∧ 1 ≤ k ∧ k ≤ 32) (a b : Int) :
    more (more (more S (n - 1) k) n (k - 1)) (n - 1) (k - 1) a b = true ∨ (a = n ∧ b = k) ↔ more S n k a b = true := by
  unfold more rect
  simp only [Bool.or_eq_true, Bool.and_eq_true, decide_eq_true_eq]
  constructor
  · rintro ((((h' | h') | h') | h') | h')
    · exact .inl h'
    · exact .inr (by omega)
    · exact .inr (by omega)
    · exact .inr (by omega)
    · exact .inr (by omega)
  · rintro (h' | h')
    · exact .inl (.inl (.inl (.inl h')))
    · by_cases e1 : a = n
      · by_cases e2 : b = k
        · exact .inr ⟨e1, e2⟩
        · exact .inl (.inl (.inr (by omega)))
      · exact .inl (.inl (.inl (.inr (by omega))))
theorem more_new {S : Int → Int → Bool} {n k : Int} (h : S n k = false) : more (more (more S (n - 1) k) n (k - 1)) (n - 1) (k - 1) n k = false := by
  unfold more rect
  rw [h]
  simp
  omega

theorem VZ_step {n k : Int} (h : 1 ≤ n ∧ n ≤ 16 ∧ 1 ≤ k ∧ k ≤ 32) : IntKind.u64.wrap (IntKind.u64.wrap (VZ (n - 1) k + VZ n (k - 1)) + VZ (n - 1) (k - 1)) = VZ n k := by
  obtain ⟨m, rfl⟩ : ∃ m : Nat, n = (m : Int) + 1 := ⟨(n - 1).toNat, by omega⟩
  obtain ⟨j, rfl⟩ : ∃ j : Nat, k = (j : Int) + 1 := ⟨(k - 1).toNat, by omega⟩
  unfold VZ
  rw [if_pos (by omega), if_pos (by omega), if_pos (by omega), if_pos (by omega)]
  rw [show ((m : Int) + 1 - 1).toNat = m from by omega, show ((j : Int) + 1).toNat = j + 1 from by omega, show ((m : Int) + 1).toNat = m + 1 from by omega, show ((j : Int) + 1 - 1).toNat = j from by omega]
  have e := V_step m (by omega) j (by omega)
  have b1 := V_lt m (by omega) (j + 1) (by omega)
  have b2 := V_lt (m + 1) (by omega) j (by omega)
  have b3 := V_lt m (by omega) j (by omega)
  rw [IntKind.wrap_u64, IntKind.wrap_u64, e]
  omega
theorem VZ_zero {n k : Int} (h : RightP n k) (hk : k = 0) : VZ n k = 1 := by
  subst hk
  obtain ⟨h1, h2, h3, h4⟩ := h
  unfold VZ
  rw [if_pos ⟨h1, h2, h3, h4⟩]
  have := V_zero n.toNat (by omega)
  simp [this]
theorem VZ_none {n k : Int} (h : RightP n k) (hk : k ≠ 0) (hn : n = 0) : VZ n k = 0 := by
  subst hn
  obtain ⟨h1, h2, h3, h4⟩ := h
  unfold VZ
  rw [if_pos ⟨h1, h2, h3, h4⟩]
  obtain ⟨j, rfl⟩ : ∃ j : Nat, k = (j : Int) + 1 := ⟨(k - 1).toNat, by omega⟩
  have := V_none j (by omega)
  rw [show ((j : Int) + 1).toNat = j + 1 from by omega]
  simp [this]
theorem VZ_out {n k : Int} (h : ¬ RightP n k) : VZ n k = 0 := by
  unfold VZ
  exact if_neg h

/-- What a call may change of memory: the book's map, and what is new. -/
theorem grown_trans {a b c : World} {g : Nat} (h : a.grownBy b (some g)) (k : b.grownBy c (some g)) : a.grownBy c (some g) :=
  ⟨k.os.trans h.os, k.tape.trans h.tape, k.output.trans h.output, Nat.le_trans h.size k.size, fun i hi hne => (k.block i (Nat.lt_of_lt_of_le hi h.size) hne).trans (h.block i hi hne)⟩
theorem grown_below {a b : World} {g : Nat} (h : Below a.heap.size a b) : a.grownBy b (some g) := ⟨h.os, h.tape, h.output, h.size, fun i hi _ => h.block i hi⟩
theorem grown_drewN {a b : World} {g : Nat} (h : a.grownBy b (some g)) (n : Nat) : a.grownBy (b.drewN n) (some g) := ⟨h.os, h.tape, h.output, h.size, h.block⟩
theorem grown_drew {a b : World} {g : Nat} (h : a.grownBy b (some g)) : a.grownBy b.drew (some g) := ⟨h.os, h.tape, h.output, h.size, h.block⟩
theorem grown_alloc {a b : World} {g : Nat} (h : a.grownBy b (some g)) (o : Obj) : a.grownBy (b.alloc o) (some g) := grown_trans h (World.grownBy_alloc _ _ _)
theorem belowAlloc (W : World) (o : Obj) : Below W.heap.size W (W.alloc o) := (Below.refl _ _).alloc (Nat.le_refl _) o

theorem look_new (n k v : Int) (b : Nat) (n' k' : Int) : ∀ l : List (Int × Int × Int × Nat), look n' k' (l ++ [(n, k, v, b)]) = match look n' k' l with | some x => some x | none => if n' = n ∧ k' = k then some v else none
  | [] => by simp [look]
  | e :: l => by
    simp only [List.cons_append, look]
    split
    · rfl
    · exact look_new n k v b n' k' l

/-- The last write. -/
theorem book_put {w : World} {gb gm : Nat} {S : Int → Int → Bool} (h : Book w gb gm S) (n k : Int) (hS : S n k = false) (T : Int → Int → Bool) (hT : ∀ a b, S a b = true ∨ (a = n ∧ b = k) ↔ T a b = true) :
    ∃ w', (Instr.mapUpdate 67 (.map (some gm)) (.agg #[.int .i64 n, .int .i64 k]) (.int .u64 (VZ n k))).run Try.prog w = .ok () w' ∧ Book w' gb gm T ∧ w.grownBy w' (some gm) := by
  obtain ⟨l, hl, hlook⟩ := h.map
  obtain ⟨b, w', h1, h2, h3⟩ := put_new hl (n := n) (k := k) (v := VZ n k) (by rw [hlook, if_neg (by simp [hS])])
  refine ⟨w', h1, ⟨?_, _, h2, ?_⟩, h3⟩
  · rw [h3.block gb h.ltb (by simpa using h.ne)]
    exact h.ptr
  · intro n' k'
    rw [look_new, hlook]
    by_cases e1 : S n' k' = true
    · have e2 := (hT n' k').mp (.inl e1)
      rw [if_pos e1, if_pos e2]
    · rw [if_neg e1]
      by_cases e3 : n' = n ∧ k' = k
      · obtain ⟨rfl, rfl⟩ := e3
        simp [(hT n' k').mp (.inr ⟨rfl, rfl⟩)]
      · have e4 : ¬ T n' k' = true := fun h => by
          rcases (hT n' k').mpr h with h' | h'
          · exact e1 h'
          · exact e3 h'
        simp [e3, e4]

theorem cellOf {W : World} {g : Nat} {cs : Array Value} {t : TypeId} {q : Nat × Nat} (h : W.heap[g]? = some (.cells cs t q)) (i : Nat) : W.cell? ⟨g, i, none⟩ = cs[i]? := by
  simp [World.cell?, h]

theorem isMap_same {w w' : World} {gm : Nat} {l : List (Int × Int × Int × Nat)} (h : IsMap w gm l) (h2 : w'.heap[gm]? = w.heap[gm]?) : IsMap w' gm l := by
  obtain ⟨c, hc⟩ := h
  exact ⟨c, h2.trans hc⟩

set_option maxHeartbeats 4000000 in
/-- V of any numbers: what is told, and what is noted then. -/
theorem bookV (f : Nat) : ∀ (n k : Int) (w : World) (gb gm : Nat) (S : Int → Int → Bool), n.toNat + k.toNat < f → Book w gb gm S → Closed S →
    Calls Try.prog 19 #[.pointer (some ⟨gb, 0, none⟩), .int .i64 n, .int .i64 k] w fun e w' => e = .returned (.int .u64 (VZ n k)) ∧ Book w' gb gm (more S n k) ∧ w.grownBy w' (some gm) := by
  induction f with
  | zero => intro n k w gb gm S hf; omega
  | succ f ih =>
    intro n k w gb gm S hf hB hC
    have hgm := hB.ltm
    have hB2 := (hB.alloc (.cells #[.int .i64 n, .int .i64 k] 32)).alloc (.cells #[.int .i64 n, .int .i64 k] 32)
    have hG2 : w.grownBy ((w.alloc (.cells #[.int .i64 n, .int .i64 k] 32)).alloc (.cells #[.int .i64 n, .int .i64 k] 32)) (some gm) := grown_below (Below.trans (belowAlloc _ _) ((belowAlloc _ _).mono (by simp)))
    by_cases hr : RightP n k
    · by_cases hk : k = 0
      · have hv := Lib.hid (VZ_zero hr hk)
        have hm := Lib.hid (more_nothing (S := S) (n := n) (k := k) (by omega))
        subst hk
        have kB := Lib.hid hB2
        have kG := Lib.hid hG2
        clear hB hC hf hB2 hG2 ih
        go_enter Try.func19, Try.ntmps19
        go_wp2_with (go_at_call 41; refine (right_yes _ _ hr _).mono ?_; rintro e w' ⟨rfl, rfl⟩)
        go_ret
        refine ⟨by rw [hv.out]; rfl, by rw [hm.out]; exact kB.out, kG.out⟩
      · have hkb : (k == 0) = false := by simpa using hk
        by_cases hn : n = 0
        · have hv := Lib.hid (VZ_none hr hk hn)
          have hm := Lib.hid (more_nothing (S := S) (n := n) (k := k) (by omega))
          subst hn
          have kB := Lib.hid hB2
          have kG := Lib.hid hG2
          clear hB hC hf hB2 hG2 ih
          go_enter Try.func19, Try.ntmps19
          go_wp2_with (go_at_call 41; refine (right_yes _ _ hr _).mono ?_; rintro e w' ⟨rfl, rfl⟩)
          go_ret
          refine ⟨by rw [hv.out]; rfl, by rw [hm.out]; exact kB.out, kG.out⟩
        · have hnb : (n == 0) = false := by simpa using hn
          have hin : 1 ≤ n ∧ n ≤ 16 ∧ 1 ≤ k ∧ k ≤ 32 := by unfold RightP at hr; omega
          have hcell : ∀ nq, (((w.alloc (.cells #[.int .i64 n, .int .i64 k] 32)).alloc (.cells #[.int .i64 n, .int .i64 k] 32)).drewN nq).cell? ⟨gb, 0, none⟩ = some (.map (some gm)) := fun nq => (hB2.drewN nq).cell
          obtain ⟨l, hl, hlook⟩ := hB2.map
          by_cases hs : S n k = true
          · have hm := Lib.hid (more_noted hC hs)
            have hlk : ∀ nq, (Instr.lookup 67 (.map (some gm)) (.agg #[.int .i64 n, .int .i64 k]) true).run Try.prog (((w.alloc (.cells #[.int .i64 n, .int .i64 k] 32)).alloc (.cells #[.int .i64 n, .int .i64 k] 32)).drewN nq) = .ok (.tuple #[.int .u64 (VZ n k), .bool true]) (((w.alloc (.cells #[.int .i64 n, .int .i64 k] 32)).alloc (.cells #[.int .i64 n, .int .i64 k] 32)).drewN nq) :=
              fun nq => look_yes (w := ((w.alloc (.cells #[.int .i64 n, .int .i64 k] 32)).alloc (.cells #[.int .i64 n, .int .i64 k] 32)).drewN nq) (isMap_same hl rfl) (by rw [hlook, if_pos hs])
            have kB := Lib.hid hB2
            have kG := Lib.hid hG2
            clear hB hC hf hB2 hG2 ih hl hlook hin hn hk hs
            go_enter Try.func19, Try.ntmps19
            go_wp2_with (go_at_call 41; refine (right_yes _ _ hr _).mono ?_; rintro e w' ⟨rfl, rfl⟩)
            go_quiet (fail)
            go_wp2
            go_ret
            refine ⟨rfl, by rw [hm.out]; exact kB.out.drewN _, grown_drewN kG.out _⟩
          · have hlk : ∀ nq, (Instr.lookup 67 (.map (some gm)) (.agg #[.int .i64 n, .int .i64 k]) true).run Try.prog (((w.alloc (.cells #[.int .i64 n, .int .i64 k] 32)).alloc (.cells #[.int .i64 n, .int .i64 k] 32)).drewN nq) = .ok (.tuple #[.int .u64 0, .bool false]) (((w.alloc (.cells #[.int .i64 n, .int .i64 k] 32)).alloc (.cells #[.int .i64 n, .int .i64 k] 32)).drewN nq) :=
              fun nq => look_no (w := ((w.alloc (.cells #[.int .i64 n, .int .i64 k] 32)).alloc (.cells #[.int .i64 n, .int .i64 k] 32)).drewN nq) (isMap_same hl rfl) (by rw [hlook, if_neg hs])
            have kB := Lib.hid hB2
            have kG := Lib.hid hG2
            have kC := Lib.hid hC
            have kS := Lib.hid hs
            have kI := Lib.hid ih
            have kf := Lib.hid hf
            clear hB hC hf hB2 hG2 ih hl hlook hn hk hs
            go_enter Try.func19, Try.ntmps19
            go_wp2_with (go_at_call 41; refine (right_yes _ _ hr _).mono ?_; rintro e w' ⟨rfl, rfl⟩)
            go_quiet (fail)
            go_wp2_with fail
            have g0 := grown_drewN kG.out nq
            have hs0 : S n k = false := by have := kS.out; simpa using this
            refine (kI.out (n - 1) k _ gb gm S (by have := kf.out; omega) (kB.out.drewN nq) kC.out).mono ?_
            rintro e w1 ⟨rfl, kB1, g1⟩
            have C1 := Lib.hid (more_closed kC.out (n - 1) k)
            have kB1 := Lib.hid kB1
            have g1 := Lib.hid g1
            go_wp2_with fail
            refine (kI.out n (k - 1) _ gb gm _ (by have := kf.out; omega) kB1.out C1.out).mono ?_
            rintro e w2 ⟨rfl, kB2, g2⟩
            have C2 := Lib.hid (more_closed C1.out n (k - 1))
            have kB2 := Lib.hid kB2
            have g2 := Lib.hid g2
            go_wp2_with fail
            refine (kI.out (n - 1) (k - 1) _ gb gm _ (by have := kf.out; omega) kB2.out C2.out).mono ?_
            rintro e w3 ⟨rfl, kB3, g3⟩
            have hV := Lib.hid (VZ_step hin)
            have gg := grown_trans g0 (grown_trans g1.out (grown_trans g2.out g3))
            have hne : gb ≠ gm := kB3.ne
            have hblk : w3.heap[w.heap.size]? = some (.cells #[.int .i64 n, .int .i64 k] 32) := by
              rw [(grown_trans g1.out (grown_trans g2.out g3)).block _ (by simp; omega) (by simpa using Nat.ne_of_gt hgm)]
              exact heap_keep (heap_last _ _ rfl)
            have hc0 : w3.drew.cell? ⟨w.heap.size, 0, none⟩ = some (.int .i64 n) := cellOf (W := w3) hblk 0
            have hc1 : w3.drew.cell? ⟨w.heap.size, 1, none⟩ = some (.int .i64 k) := cellOf (W := w3) hblk 1
            have hcl : w3.drew.cell? ⟨gb, 0, none⟩ = some (.map (some gm)) := kB3.drew.cell
            obtain ⟨w', hrun, hres⟩ := book_put kB3.drew n k (more_new hs0) _ (more_three hin)
            have gg := Lib.hid gg
            clear hcell hlk hblk kB3 g3
            go_wp2_with fail
            rw [hV.out]
            go_region
            go_wp2
            go_ret
            exact ⟨rfl, hres.1, grown_trans (grown_drew gg.out) hres.2⟩
    · have hv := Lib.hid (VZ_out hr)
      have hm := Lib.hid (more_nothing (S := S) (n := n) (k := k) (by unfold RightP at hr; omega))
      have kB := Lib.hid hB2
      have kG := Lib.hid hG2
      clear hB hC hf hB2 hG2 ih
      go_enter Try.func19, Try.ntmps19
      go_wp2_with (go_at_call 41; refine (right_no _ _ hr _).mono ?_; rintro e w' ⟨rfl, rfl⟩)
      go_ret
      refine ⟨by rw [hv.out]; rfl, by rw [hm.out]; exact kB.out, kG.out⟩
end Go.Proofs.Ytegjkognlfemgaa
