/- The law CountBooks: its walk. -/
import Derived.Test.YtegjkognlfemgaaRow
namespace Go.Proofs.Ytegjkognlfemgaa
open Go.RowKit

/-- In the round: the book, and the pair that is asked, in a block of the round's own. -/
structure Rd (B : Nat) (w : World) (gb gm bk : Nat) (p q : Int) (wr : World) : Prop where
  fresh : ∃ S, Fresh B w wr gb gm S
  blk : wr.heap[bk]? = some (.cells #[.int .i64 p, .int .i64 q] 36)
  ne : bk ≠ gm
theorem Rd.step {B : Nat} {w wr w1 : World} {gb gm bk : Nat} {p q : Int} (h : Rd B w gb gm bk p q wr) (hb : Below wr.heap.size wr w1) : Rd B w gb gm bk p q w1 := by
  obtain ⟨⟨S, h1⟩, h2, h3⟩ := h
  exact ⟨⟨S, h1.step hb⟩, (hb.block _ (heap_lt h2)).trans h2, h3⟩
theorem Rd.ask {B : Nat} {w wr w1 : World} {gb gm bk : Nat} {p q : Int} (h : Rd B w gb gm bk p q wr) {S : Int → Int → Bool} (hB : Book w1 gb gm S) (hC : Closed S) (hg : wr.grownBy w1 (some gm)) : Rd B w gb gm bk p q w1 := by
  obtain ⟨⟨T, h1⟩, h2, h3⟩ := h
  refine ⟨⟨S, hB, hC, h1.gbB, h1.gmB, Below.trans h1.below (grown_old hg h1.gmB h1.size)⟩, ?_, h3⟩
  rw [hg.block _ (heap_lt h2) (by intro e; injection e with e; exact h3 e)]
  exact h2
theorem Rd.cells {B : Nat} {w wr : World} {gb gm bk : Nat} {p q : Int} (h : Rd B w gb gm bk p q wr) : wr.cell? ⟨bk, 0, none⟩ = some (.int .i64 p) ∧ wr.cell? ⟨bk, 1, none⟩ = some (.int .i64 q) := ⟨cellOf h.blk 0, cellOf h.blk 1⟩

theorem more_self {S : Int → Int → Bool} (hC : Closed S) (n k : Int) : more S n k n k = decide (1 ≤ n ∧ n ≤ 16 ∧ 1 ≤ k ∧ k ≤ 32) := by
  rw [Bool.eq_iff_iff]
  unfold more rect
  simp only [Bool.or_eq_true, Bool.and_eq_true, decide_eq_true_eq]
  constructor
  · rintro (h | h)
    · exact hC.right n k h
    · omega
  · intro h
    exact .inr (by omega)

set_option maxHeartbeats 4000000 in
theorem row_out (n : Int) (hn : n < 0 ∨ 16 < n) (k : Int) (w : World) (gb : Nat) :
    Calls Try.prog 23 #[.pointer (some ⟨gb, 0, none⟩), .int .i64 n, .int .i64 k] w fun e w' => e = .returned (.slice none 0 0) ∧ Below w.heap.size w w' := by
  have hr : ¬ RightP n 0 := by unfold RightP; omega
  clear hn
  go_enter Try.func23, Try.ntmps23
  go_wp2_with (go_at_call 41; refine (right_no _ _ hr _).mono ?_; rintro e w' ⟨rfl, rfl⟩)
  go_ret
  exact ⟨rfl, belowAlloc _ _⟩

/-- The list of pairs, as it lies in memory. -/
def IsPairs (w : World) (v : Value) (len : Nat) (f g : Nat → Int) : Prop :=
  (∃ ao cap, v = .slice ao 0 cap ∧ len = 0) ∨ ∃ b off cap, v = .slice (some ⟨b, off, none⟩) len cap ∧ len ≤ cap ∧ b < w.heap.size ∧
    ∀ j, j < len → w.cell? ⟨b, off + j * 2, none⟩ = some (.int .i64 (f j)) ∧ w.cell? ⟨b, off + j * 2 + 1, none⟩ = some (.int .i64 (g j))

theorem Fresh.rowed {B : Nat} {w w1 w2 : World} {gb gm : Nat} {S : Int → Int → Bool} {n : Int} {j : Nat} {v : Value} (h : Fresh B w w1 gb gm S) (hr : RowR w1 gb gm n j v w2) {T : Int → Int → Bool} (hB : Book w2 gb gm T) (hC : Closed T) : Fresh B w w2 gb gm T :=
  ⟨hB, hC, h.gbB, h.gmB, Below.trans h.below (grown_old hr.grown h.gmB h.size)⟩

theorem RowR.shape {w wr : World} {gb gm : Nat} {n : Int} {j : Nat} {v : Value} (h : RowR w gb gm n (j + 1) v wr) : ∃ g cap, v = .slice (some ⟨g, 0, none⟩) (j + 1) cap ∧ ∀ m, m < j + 1 → wr.cell? ⟨g, m, none⟩ = some (.int .u64 (VZ n m)) := by
  have ho := h.own
  rcases ho.2 with ⟨_, h0⟩ | ⟨g, cap, cur, rfl, _⟩
  · omega
  · refine ⟨g, cap, rfl, fun m hm => ?_⟩
    have := ho.cells (g := g) rfl m (.int .u64 (VZ n m)) (by simp [rowL, hm])
    rwa [Go.WideShapes.add_plain, Nat.zero_add] at this

set_option maxRecDepth 20000 in
set_option maxHeartbeats 16000000 in
theorem countBooks_some (k : Int) (K : Nat) (hK : k < 0 ∧ K = 0 ∨ (0 ≤ k ∧ k ≤ 32 ∧ k = (K : Int)) ∨ (32 < k ∧ K = 32)) (b off len cap : Nat) (f g : Nat → Int) (hlen : len ≤ 60) (hcap : len ≤ cap) (w : World) (hb : b < w.heap.size)
    (hc : ∀ j, j < len → w.cell? ⟨b, off + j * 2, none⟩ = some (.int .i64 (f j)) ∧ w.cell? ⟨b, off + j * 2 + 1, none⟩ = some (.int .i64 (g j))) :
    Calls Try.prog 7 #[.slice (some ⟨b, off, none⟩) len cap, .int .i64 k] w fun e w' => e = .returned (.bool true) ∧ Below w.heap.size w w' := by
  have hc := Lib.hid hc
  have hb := Lib.hid hb
  go_enter Try.func7, Try.ntmps7
  go_wp2_with fail
  refine (awake10 _).mono ?_
  rintro e w0 ⟨rfl, b0⟩
  have b0 := Lib.hid b0
  go_wp2_with fail
  refine (new_any _).mono ?_
  rintro e w1 ⟨rfl, f1⟩
  have f1 := Lib.hid f1
  go_wp2_with fail
  go_loopw [22] (fun i wr => ∃ j : Nat, j ≤ len ∧ i = .int .i64 j ∧ ∃ S, Fresh w0.heap.size w0 wr (w0.heap.size + 1) w0.heap.size S) (fun i _ => len - (intOf i).toNat)
  case atStart => exact ⟨0, by omega, rfl, _, f1.out⟩
  case round =>
    obtain ⟨j, hj, rfl, S, hF⟩ := hrel
    have hF := Lib.hid hF
    by_cases hl : j < len
    · have hcell := (hc.out j hl)
      have hbel : Below w.heap.size w wr := Below.trans b0.out (hF.out.below.mono b0.out.size)
      have c0 : wr.cell? ⟨b, off + j * 2, none⟩ = some (.int .i64 (f j)) := (hbel.cell (by exact hb.out)).trans hcell.1
      have c1 : wr.cell? ⟨b, off + j * 2 + 1, none⟩ = some (.int .i64 (g j)) := (hbel.cell (by exact hb.out)).trans hcell.2
      clear hcell hbel
      obtain ⟨p, hp⟩ : ∃ p, p = f j := ⟨_, rfl⟩
      obtain ⟨q, hq⟩ : ∃ q, q = g j := ⟨_, rfl⟩
      rw [← hp] at c0
      rw [← hq] at c1
      clear hp hq
      go_wp2_with fail
      have hR : Rd w0.heap.size w0 (w0.heap.size + 1) w0.heap.size wr.heap.size p q (wr.alloc (.cells #[.int .i64 p, .int .i64 q] 36)) :=
        ⟨⟨S, hF.out.alloc _⟩, heap_last _ _ rfl, by have := hF.out.size; have := hF.out.book.ltm; omega⟩
      have hR := Lib.hid hR
      have hF1 := Lib.hid (hF.out.alloc (.cells #[.int .i64 p, .int .i64 q] 36))
      have hsz := Lib.hid hF.out.size
      clear hF c0 c1
      refine (refV_any _ _ _).mono ?_
      rintro e w2 ⟨rfl, rfl⟩
      go_wp2_with fail
      refine (bookV_any _ _ _ _ _ _ hF1.out.book hF1.out.closed).mono ?_
      rintro e w2 ⟨rfl, b2, g2⟩
      have hF2 := Lib.hid (hF1.out.ask _ _ b2 g2)
      have hR2 := Lib.hid (hR.out.ask b2 (more_closed hF1.out.closed _ _) g2)
      clear b2 g2 hF1 hR
      obtain ⟨d0, d1⟩ := hR2.out.cells
      go_wp2_with fail
      refine (bookV_any _ _ _ _ _ _ hF2.out.book hF2.out.closed).mono ?_
      rintro e w3 ⟨rfl, b3, g3⟩
      have hF3 := Lib.hid (hF2.out.ask _ _ b3 g3)
      have hR3 := Lib.hid (hR2.out.ask b3 (more_closed hF2.out.closed _ _) g3)
      have hS3 := Lib.hid (more_self hF2.out.closed p q)
      clear b3 g3 hF2 hR2 d0 d1
      obtain ⟨d0, d1⟩ := hR3.out.cells
      have hways : (p < 0 ∨ 16 < p) ∨ (0 ≤ p ∧ p ≤ 16) := by omega
      rcases hways with hpo | hpi
      · have hd : decide (1 ≤ p ∧ p ≤ 16 ∧ 1 ≤ q ∧ q ≤ 32) = false := by simp; omega
        have hro := Lib.hid (row_out p hpo k)
        have hK := Lib.hid hK
        rcases hpo with hp1 | hp1
        all_goals
          have hp2 : decide (1 ≤ p ∧ p ≤ 16) = false := by simp; omega
          go_wp2_with fail
          refine (has_any _ _ _ _ _ _ hF3.out.book).mono ?_
          rintro e w4 ⟨rfl, b4⟩
          rw [hS3.out, hd]
          have hF4 := Lib.hid (hF3.out.step b4)
          have hR4 := Lib.hid (hR3.out.step b4)
          clear b4 hF3 hR3 hS3 d0 d1
          obtain ⟨d0, d1⟩ := hR4.out.cells
          go_wp2_with fail
          refine (hro.out _ _).mono ?_
          rintro e w5 ⟨rfl, b5⟩
          have hF5 := Lib.hid (hF4.out.step b5)
          have hR5 := Lib.hid (hR4.out.step b5)
          clear b5 hF4 hR4 d0 d1
          obtain ⟨d0, d1⟩ := hR5.out.cells
          rcases hK.out with ⟨h1, hK⟩ | ⟨h1, h2, rfl⟩ | ⟨h1, hK⟩
          all_goals
            go_wp2_with fail
            go_loop [99] (fun i => i = .int .i64 0) (fun _ => 0)
            case atStart => rfl
            case round =>
              obtain rfl := hrel
              go_wp2_with fail
              exact ⟨⟨j + 1, by omega, by go_num, _, hF5.out⟩, by simp [intOf]; omega⟩
      · have hways : (1 ≤ p ∧ 1 ≤ q ∧ q ≤ 32) ∨ p < 1 ∨ (1 ≤ p ∧ q < 1) ∨ (1 ≤ p ∧ 32 < q) := by omega
        have hcomp : ∃ c, decide (1 ≤ p ∧ p ≤ 16 ∧ 1 ≤ q ∧ q ≤ 32) = c := ⟨_, rfl⟩
        obtain ⟨c, hcc⟩ := hcomp
        have hS4 := Lib.hid (hS3.out.trans hcc)
        clear hS3
        have hKh := Lib.hid hK
        clear hK
        rcases hways with hp | hp | hp | hp
        · obtain rfl : true = c := by rw [← hcc]; simp; omega
          clear hcc
          go_wp2_with fail
          refine (has_any _ _ _ _ _ _ hF3.out.book).mono ?_
          rintro e w4 ⟨rfl, b4⟩
          rw [hS4.out]
          have hF4 := Lib.hid (hF3.out.step b4)
          have hR4 := Lib.hid (hR3.out.step b4)
          clear b4 hF3 hR3 hS4 d0 d1
          obtain ⟨d0, d1⟩ := hR4.out.cells
          go_wp2_with fail
          refine (row_in p hpi k K hKh.out _ _ _ _ hF4.out.book hF4.out.closed).mono ?_
          rintro e w5 ⟨v, rfl, hrow⟩
          obtain ⟨S5, b5, c5⟩ := hrow.book
          have hF5 := Lib.hid (hF4.out.rowed hrow b5 c5)
          have hR5 := Lib.hid (hR4.out.ask b5 c5 hrow.grown)
          obtain ⟨rg, rc, rfl, hrc⟩ := hrow.shape
          have hrc := Lib.hid hrc
          clear hrow b5 c5 hF4 hR4 d0 d1
          obtain ⟨d0, d1⟩ := hR5.out.cells
          rcases hKh.out with ⟨h1, hK⟩ | ⟨h1, h2, hK⟩ | ⟨h1, hK⟩
          · subst hK
            go_wp2_with fail
            go_loop [99] (fun i => ∃ m : Nat, m ≤ 1 ∧ i = .int .i64 m) (fun i => 1 - (intOf i).toNat)
            case atStart => exact ⟨0, by omega, rfl⟩
            case round =>
              obtain ⟨m, hm, rfl⟩ := hrel
              by_cases hlm : m < 1
              · have hcl := hrc.out m (by omega)
                go_wp2_with fail
                refine (refV_any _ _ _).mono ?_
                rintro e w6 ⟨rfl, rfl⟩
                go_wp2_with fail
                exact ⟨⟨m + 1, by omega, by go_num⟩, by simp [intOf]; omega⟩
              · obtain rfl : m = 1 := by omega
                go_wp2_with fail
                exact ⟨⟨j + 1, by omega, by go_num, _, hF5.out⟩, by simp [intOf]; omega⟩
          · subst hK
            go_wp2_with fail
            go_loop [99] (fun i => ∃ m : Nat, m ≤ K + 1 ∧ i = .int .i64 m) (fun i => K + 1 - (intOf i).toNat)
            case atStart => exact ⟨0, by omega, rfl⟩
            case round =>
              obtain ⟨m, hm, rfl⟩ := hrel
              by_cases hlm : m < K + 1
              · have hcl := hrc.out m (by omega)
                go_wp2_with fail
                refine (refV_any _ _ _).mono ?_
                rintro e w6 ⟨rfl, rfl⟩
                go_wp2_with fail
                exact ⟨⟨m + 1, by omega, by go_num⟩, by simp [intOf]; omega⟩
              · obtain rfl : m = K + 1 := by omega
                go_wp2_with fail
                exact ⟨⟨j + 1, by omega, by go_num, _, hF5.out⟩, by simp [intOf]; omega⟩
          · subst hK
            go_wp2_with fail
            go_loop [99] (fun i => ∃ m : Nat, m ≤ 33 ∧ i = .int .i64 m) (fun i => 33 - (intOf i).toNat)
            case atStart => exact ⟨0, by omega, rfl⟩
            case round =>
              obtain ⟨m, hm, rfl⟩ := hrel
              by_cases hlm : m < 33
              · have hcl := hrc.out m (by omega)
                go_wp2_with fail
                refine (refV_any _ _ _).mono ?_
                rintro e w6 ⟨rfl, rfl⟩
                go_wp2_with fail
                exact ⟨⟨m + 1, by omega, by go_num⟩, by simp [intOf]; omega⟩
              · obtain rfl : m = 33 := by omega
                go_wp2_with fail
                exact ⟨⟨j + 1, by omega, by go_num, _, hF5.out⟩, by simp [intOf]; omega⟩
        · obtain rfl : false = c := by rw [← hcc]; simp; omega
          have hp2 : decide (1 ≤ p) = false := by simp; omega
          clear hcc
          go_wp2_with fail
          refine (has_any _ _ _ _ _ _ hF3.out.book).mono ?_
          rintro e w4 ⟨rfl, b4⟩
          rw [hS4.out]
          have hF4 := Lib.hid (hF3.out.step b4)
          have hR4 := Lib.hid (hR3.out.step b4)
          clear b4 hF3 hR3 hS4 d0 d1
          obtain ⟨d0, d1⟩ := hR4.out.cells
          go_wp2_with fail
          refine (row_in p hpi k K hKh.out _ _ _ _ hF4.out.book hF4.out.closed).mono ?_
          rintro e w5 ⟨v, rfl, hrow⟩
          obtain ⟨S5, b5, c5⟩ := hrow.book
          have hF5 := Lib.hid (hF4.out.rowed hrow b5 c5)
          have hR5 := Lib.hid (hR4.out.ask b5 c5 hrow.grown)
          obtain ⟨rg, rc, rfl, hrc⟩ := hrow.shape
          have hrc := Lib.hid hrc
          clear hrow b5 c5 hF4 hR4 d0 d1
          obtain ⟨d0, d1⟩ := hR5.out.cells
          rcases hKh.out with ⟨h1, hK⟩ | ⟨h1, h2, hK⟩ | ⟨h1, hK⟩
          · subst hK
            go_wp2_with fail
            go_loop [99] (fun i => ∃ m : Nat, m ≤ 1 ∧ i = .int .i64 m) (fun i => 1 - (intOf i).toNat)
            case atStart => exact ⟨0, by omega, rfl⟩
            case round =>
              obtain ⟨m, hm, rfl⟩ := hrel
              by_cases hlm : m < 1
              · have hcl := hrc.out m (by omega)
                go_wp2_with fail
                refine (refV_any _ _ _).mono ?_
                rintro e w6 ⟨rfl, rfl⟩
                go_wp2_with fail
                exact ⟨⟨m + 1, by omega, by go_num⟩, by simp [intOf]; omega⟩
              · obtain rfl : m = 1 := by omega
                go_wp2_with fail
                exact ⟨⟨j + 1, by omega, by go_num, _, hF5.out⟩, by simp [intOf]; omega⟩
          · subst hK
            go_wp2_with fail
            go_loop [99] (fun i => ∃ m : Nat, m ≤ K + 1 ∧ i = .int .i64 m) (fun i => K + 1 - (intOf i).toNat)
            case atStart => exact ⟨0, by omega, rfl⟩
            case round =>
              obtain ⟨m, hm, rfl⟩ := hrel
              by_cases hlm : m < K + 1
              · have hcl := hrc.out m (by omega)
                go_wp2_with fail
                refine (refV_any _ _ _).mono ?_
                rintro e w6 ⟨rfl, rfl⟩
                go_wp2_with fail
                exact ⟨⟨m + 1, by omega, by go_num⟩, by simp [intOf]; omega⟩
              · obtain rfl : m = K + 1 := by omega
                go_wp2_with fail
                exact ⟨⟨j + 1, by omega, by go_num, _, hF5.out⟩, by simp [intOf]; omega⟩
          · subst hK
            go_wp2_with fail
            go_loop [99] (fun i => ∃ m : Nat, m ≤ 33 ∧ i = .int .i64 m) (fun i => 33 - (intOf i).toNat)
            case atStart => exact ⟨0, by omega, rfl⟩
            case round =>
              obtain ⟨m, hm, rfl⟩ := hrel
              by_cases hlm : m < 33
              · have hcl := hrc.out m (by omega)
                go_wp2_with fail
                refine (refV_any _ _ _).mono ?_
                rintro e w6 ⟨rfl, rfl⟩
                go_wp2_with fail
                exact ⟨⟨m + 1, by omega, by go_num⟩, by simp [intOf]; omega⟩
              · obtain rfl : m = 33 := by omega
                go_wp2_with fail
                exact ⟨⟨j + 1, by omega, by go_num, _, hF5.out⟩, by simp [intOf]; omega⟩
        · obtain rfl : false = c := by rw [← hcc]; simp; omega
          have hp2 : decide (1 ≤ q) = false := by simp; omega
          clear hcc
          go_wp2_with fail
          refine (has_any _ _ _ _ _ _ hF3.out.book).mono ?_
          rintro e w4 ⟨rfl, b4⟩
          rw [hS4.out]
          have hF4 := Lib.hid (hF3.out.step b4)
          have hR4 := Lib.hid (hR3.out.step b4)
          clear b4 hF3 hR3 hS4 d0 d1
          obtain ⟨d0, d1⟩ := hR4.out.cells
          go_wp2_with fail
          refine (row_in p hpi k K hKh.out _ _ _ _ hF4.out.book hF4.out.closed).mono ?_
          rintro e w5 ⟨v, rfl, hrow⟩
          obtain ⟨S5, b5, c5⟩ := hrow.book
          have hF5 := Lib.hid (hF4.out.rowed hrow b5 c5)
          have hR5 := Lib.hid (hR4.out.ask b5 c5 hrow.grown)
          obtain ⟨rg, rc, rfl, hrc⟩ := hrow.shape
          have hrc := Lib.hid hrc
          clear hrow b5 c5 hF4 hR4 d0 d1
          obtain ⟨d0, d1⟩ := hR5.out.cells
          rcases hKh.out with ⟨h1, hK⟩ | ⟨h1, h2, hK⟩ | ⟨h1, hK⟩
          · subst hK
            go_wp2_with fail
            go_loop [99] (fun i => ∃ m : Nat, m ≤ 1 ∧ i = .int .i64 m) (fun i => 1 - (intOf i).toNat)
            case atStart => exact ⟨0, by omega, rfl⟩
            case round =>
              obtain ⟨m, hm, rfl⟩ := hrel
              by_cases hlm : m < 1
              · have hcl := hrc.out m (by omega)
                go_wp2_with fail
                refine (refV_any _ _ _).mono ?_
                rintro e w6 ⟨rfl, rfl⟩
                go_wp2_with fail
                exact ⟨⟨m + 1, by omega, by go_num⟩, by simp [intOf]; omega⟩
              · obtain rfl : m = 1 := by omega
                go_wp2_with fail
                exact ⟨⟨j + 1, by omega, by go_num, _, hF5.out⟩, by simp [intOf]; omega⟩
          · subst hK
            go_wp2_with fail
            go_loop [99] (fun i => ∃ m : Nat, m ≤ K + 1 ∧ i = .int .i64 m) (fun i => K + 1 - (intOf i).toNat)
            case atStart => exact ⟨0, by omega, rfl⟩
            case round =>
              obtain ⟨m, hm, rfl⟩ := hrel
              by_cases hlm : m < K + 1
              · have hcl := hrc.out m (by omega)
                go_wp2_with fail
                refine (refV_any _ _ _).mono ?_
                rintro e w6 ⟨rfl, rfl⟩
                go_wp2_with fail
                exact ⟨⟨m + 1, by omega, by go_num⟩, by simp [intOf]; omega⟩
              · obtain rfl : m = K + 1 := by omega
                go_wp2_with fail
                exact ⟨⟨j + 1, by omega, by go_num, _, hF5.out⟩, by simp [intOf]; omega⟩
          · subst hK
            go_wp2_with fail
            go_loop [99] (fun i => ∃ m : Nat, m ≤ 33 ∧ i = .int .i64 m) (fun i => 33 - (intOf i).toNat)
            case atStart => exact ⟨0, by omega, rfl⟩
            case round =>
              obtain ⟨m, hm, rfl⟩ := hrel
              by_cases hlm : m < 33
              · have hcl := hrc.out m (by omega)
                go_wp2_with fail
                refine (refV_any _ _ _).mono ?_
                rintro e w6 ⟨rfl, rfl⟩
                go_wp2_with fail
                exact ⟨⟨m + 1, by omega, by go_num⟩, by simp [intOf]; omega⟩
              · obtain rfl : m = 33 := by omega
                go_wp2_with fail
                exact ⟨⟨j + 1, by omega, by go_num, _, hF5.out⟩, by simp [intOf]; omega⟩
        · obtain rfl : false = c := by rw [← hcc]; simp; omega
          have hp2 : decide (q ≤ 32) = false := by simp; omega
          clear hcc
          go_wp2_with fail
          refine (has_any _ _ _ _ _ _ hF3.out.book).mono ?_
          rintro e w4 ⟨rfl, b4⟩
          rw [hS4.out]
          have hF4 := Lib.hid (hF3.out.step b4)
          have hR4 := Lib.hid (hR3.out.step b4)
          clear b4 hF3 hR3 hS4 d0 d1
          obtain ⟨d0, d1⟩ := hR4.out.cells
          go_wp2_with fail
          refine (row_in p hpi k K hKh.out _ _ _ _ hF4.out.book hF4.out.closed).mono ?_
          rintro e w5 ⟨v, rfl, hrow⟩
          obtain ⟨S5, b5, c5⟩ := hrow.book
          have hF5 := Lib.hid (hF4.out.rowed hrow b5 c5)
          have hR5 := Lib.hid (hR4.out.ask b5 c5 hrow.grown)
          obtain ⟨rg, rc, rfl, hrc⟩ := hrow.shape
          have hrc := Lib.hid hrc
          clear hrow b5 c5 hF4 hR4 d0 d1
          obtain ⟨d0, d1⟩ := hR5.out.cells
          rcases hKh.out with ⟨h1, hK⟩ | ⟨h1, h2, hK⟩ | ⟨h1, hK⟩
          · subst hK
            go_wp2_with fail
            go_loop [99] (fun i => ∃ m : Nat, m ≤ 1 ∧ i = .int .i64 m) (fun i => 1 - (intOf i).toNat)
            case atStart => exact ⟨0, by omega, rfl⟩
            case round =>
              obtain ⟨m, hm, rfl⟩ := hrel
              by_cases hlm : m < 1
              · have hcl := hrc.out m (by omega)
                go_wp2_with fail
                refine (refV_any _ _ _).mono ?_
                rintro e w6 ⟨rfl, rfl⟩
                go_wp2_with fail
                exact ⟨⟨m + 1, by omega, by go_num⟩, by simp [intOf]; omega⟩
              · obtain rfl : m = 1 := by omega
                go_wp2_with fail
                exact ⟨⟨j + 1, by omega, by go_num, _, hF5.out⟩, by simp [intOf]; omega⟩
          · subst hK
            go_wp2_with fail
            go_loop [99] (fun i => ∃ m : Nat, m ≤ K + 1 ∧ i = .int .i64 m) (fun i => K + 1 - (intOf i).toNat)
            case atStart => exact ⟨0, by omega, rfl⟩
            case round =>
              obtain ⟨m, hm, rfl⟩ := hrel
              by_cases hlm : m < K + 1
              · have hcl := hrc.out m (by omega)
                go_wp2_with fail
                refine (refV_any _ _ _).mono ?_
                rintro e w6 ⟨rfl, rfl⟩
                go_wp2_with fail
                exact ⟨⟨m + 1, by omega, by go_num⟩, by simp [intOf]; omega⟩
              · obtain rfl : m = K + 1 := by omega
                go_wp2_with fail
                exact ⟨⟨j + 1, by omega, by go_num, _, hF5.out⟩, by simp [intOf]; omega⟩
          · subst hK
            go_wp2_with fail
            go_loop [99] (fun i => ∃ m : Nat, m ≤ 33 ∧ i = .int .i64 m) (fun i => 33 - (intOf i).toNat)
            case atStart => exact ⟨0, by omega, rfl⟩
            case round =>
              obtain ⟨m, hm, rfl⟩ := hrel
              by_cases hlm : m < 33
              · have hcl := hrc.out m (by omega)
                go_wp2_with fail
                refine (refV_any _ _ _).mono ?_
                rintro e w6 ⟨rfl, rfl⟩
                go_wp2_with fail
                exact ⟨⟨m + 1, by omega, by go_num⟩, by simp [intOf]; omega⟩
              · obtain rfl : m = 33 := by omega
                go_wp2_with fail
                exact ⟨⟨j + 1, by omega, by go_num, _, hF5.out⟩, by simp [intOf]; omega⟩
    · obtain rfl : j = len := by omega
      go_wp2
      go_ret
      exact ⟨rfl, Below.trans b0.out (hF.out.below.mono b0.out.size)⟩

set_option maxHeartbeats 4000000 in
theorem countBooks_many (ao : Option Addr) (len cap : Nat) (hlen : 60 < len) (k : Int) (w : World) :
    Calls Try.prog 7 #[.slice ao len cap, .int .i64 k] w fun e w' => e = .returned (.bool true) ∧ Below w.heap.size w w' := by
  go_enter Try.func7, Try.ntmps7
  go_wp2_with fail
  refine (awake10 _).mono ?_
  rintro e w0 ⟨rfl, b0⟩
  have b0 := Lib.hid b0
  go_wp2_with fail
  go_ret
  exact ⟨rfl, b0.out⟩

set_option maxHeartbeats 4000000 in
theorem countBooks_none (ao : Option Addr) (cap : Nat) (k : Int) (w : World) :
    Calls Try.prog 7 #[.slice ao 0 cap, .int .i64 k] w fun e w' => e = .returned (.bool true) ∧ Below w.heap.size w w' := by
  go_enter Try.func7, Try.ntmps7
  go_wp2_with fail
  refine (awake10 _).mono ?_
  rintro e w0 ⟨rfl, b0⟩
  have b0 := Lib.hid b0
  go_wp2_with fail
  refine (new_any _).mono ?_
  rintro e w1 ⟨rfl, f1⟩
  have f1 := Lib.hid f1
  go_wp2_with fail
  go_loop [22] (fun i => i = .int .i64 0) (fun _ => 0)
  case atStart => rfl
  case round =>
    obtain rfl := hrel
    go_wp2_with fail
    go_ret
    exact ⟨rfl, Below.trans b0.out (f1.out.below.mono b0.out.size)⟩

theorem countBooks_walk (v : Value) (len : Nat) (f g : Nat → Int) (k : Int) (w : World) (h : IsPairs w v len f g) :
    Calls Try.prog 7 #[v, .int .i64 k] w fun e w' => e = .returned (.bool true) ∧ Below w.heap.size w w' := by
  rcases h with ⟨ao, cap, rfl, rfl⟩ | ⟨b, off, cap, rfl, h1, h2, h3⟩
  · exact countBooks_none ao cap k w
  · by_cases hl : 60 < len
    · exact countBooks_many _ len cap hl k w
    · have hK : ∃ K : Nat, k < 0 ∧ K = 0 ∨ (0 ≤ k ∧ k ≤ 32 ∧ k = (K : Int)) ∨ (32 < k ∧ K = 32) := by
        by_cases a1 : k < 0
        · exact ⟨0, by omega⟩
        · by_cases a2 : 32 < k
          · exact ⟨32, by omega⟩
          · exact ⟨k.toNat, by omega⟩
      obtain ⟨K, hK⟩ := hK
      exact countBooks_some k K hK b off len cap f g (by omega) h1 w h2 h3
end Go.Proofs.Ytegjkognlfemgaa
