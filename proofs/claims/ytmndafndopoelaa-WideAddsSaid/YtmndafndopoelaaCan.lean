/- Wide numbers by their halves; the contracts of Plus, Minus, Neg, Of, big over them. -/
import Derived.Test.YtmndafndopoelaaTells0
import Derived.LoopTactic
import Derived.Laws.OwnMore
import Derived.Laws.Rows
namespace Go.Proofs.Ytmndafndopoelaa
open Go.RowKit

/-- The halves of a number, modulo 2^128. -/
def HH (Z : Int) : Int := (Z / 18446744073709551616 + 9223372036854775808) % 18446744073709551616 - 9223372036854775808
def LL (Z : Int) : Int := Z % 18446744073709551616
theorem rep_can (Z : Int) : Rep (HH Z) (LL Z) Z := by unfold HH LL; constructor <;> omega
theorem can_of {h l Z : Int} (r : Rep h l Z) : h = HH Z ∧ l = LL Z := by
  obtain ⟨a1, a2, a3, a4, a5⟩ := r
  unfold HH LL
  omega
/-- A wide number as a value. -/
def WV (Z : Int) : Value := .agg #[.int .i64 (HH Z), .int .u64 (LL Z)]

theorem plus_c (S T : Int) (w : World) : Calls Try.prog 17 #[.agg #[.int .i64 (HH S), .int .u64 (LL S)], .agg #[.int .i64 (HH T), .int .u64 (LL T)]] w fun e w' => e = .returned (.agg #[.int .i64 (HH (S + T)), .int .u64 (LL (S + T))]) ∧ Below w.heap.size w w' := by
  refine (plus_any (rep_can S) (rep_can T) w).mono ?_
  rintro e w' ⟨h, l, r, rfl, hb⟩
  obtain ⟨rfl, rfl⟩ := can_of r
  exact ⟨rfl, hb⟩
theorem minus_c (S T : Int) (w : World) : Calls Try.prog 18 #[.agg #[.int .i64 (HH S), .int .u64 (LL S)], .agg #[.int .i64 (HH T), .int .u64 (LL T)]] w fun e w' => e = .returned (.agg #[.int .i64 (HH (S - T)), .int .u64 (LL (S - T))]) ∧ Below w.heap.size w w' := by
  refine (minus_any (rep_can S) (rep_can T) w).mono ?_
  rintro e w' ⟨h, l, r, rfl, hb⟩
  obtain ⟨rfl, rfl⟩ := can_of r
  exact ⟨rfl, hb⟩
theorem neg_c (S : Int) (w : World) : Calls Try.prog 20 #[.agg #[.int .i64 (HH S), .int .u64 (LL S)]] w fun e w' => e = .returned (.agg #[.int .i64 (HH (-S)), .int .u64 (LL (-S))]) ∧ Below w.heap.size w w' := by
  refine (neg_any (rep_can S) w).mono ?_
  rintro e w' ⟨h, l, r, rfl, hb⟩
  obtain ⟨rfl, rfl⟩ := can_of r
  exact ⟨rfl, hb⟩
theorem of_c (x : Int) (hn : -9223372036854775808 ≤ x ∧ x ≤ 9223372036854775807) (w : World) : Calls Try.prog 21 #[.int .i64 x] w fun e w' => e = .returned (.agg #[.int .i64 (HH x), .int .u64 (LL x)]) ∧ Below w.heap.size w w' := by
  refine (of_any hn.1 hn.2 w).mono ?_
  rintro e w' ⟨h, l, r, rfl, hb⟩
  obtain ⟨rfl, rfl⟩ := can_of r
  exact ⟨rfl, hb⟩
theorem big_c (Z : Int) (w : World) : Calls Try.prog 10 #[.agg #[.int .i64 (HH Z), .int .u64 (LL Z)]] w fun e w' => e = .returned (D Z) ∧ Below w.heap.size w w' := big_any (rep_can Z) w
theorem HH_zero : HH 0 = 0 := by decide
theorem LL_zero : LL 0 = 0 := by decide

/-- A block known whole. -/
def Blk (w : World) (g : Nat) (t : TypeId) (cs : Array Value) : Prop := w.heap[g]? = some (.cells cs t (0, 0))
section
variable {w w' : World} {g : Nat} {t : TypeId} {cs : Array Value}
theorem Blk.lt (h : Blk w g t cs) : g < w.heap.size := by
  rcases Nat.lt_or_ge g w.heap.size with hlt | hge
  · exact hlt
  · unfold Blk at h; rw [Array.getElem?_eq_none hge] at h; cases h
theorem Blk.cell (h : Blk w g t cs) (i : Nat) : w.cell? ⟨g, i, none⟩ = cs[i]? := by
  unfold Blk at h
  simp [World.cell?, h]
theorem Blk.frozen (h : Blk w g t cs) (i : Nat) : w.frozen? ⟨g, i, none⟩ = false := by
  unfold Blk at h
  simp [World.frozen?, h]
theorem Blk.set_ (h : Blk w g t cs) (i : Nat) (u : Value) : Blk (w.setCell ⟨g, i, none⟩ u) g t (cs.setIfInBounds i u) := by
  unfold Blk at h ⊢
  simp [World.setCell, Array.getElem?_modify, h]
theorem Blk.far (h : Blk w g t cs) {p : Addr} (hp : g ≠ p.block) (u : Value) : Blk (w.setCell p u) g t cs := (Below.heap_setCell w p u g hp).trans h
theorem Blk.below {B : Nat} (h : Blk w g t cs) (hb : Below B w w') (hg : g < B) : Blk w' g t cs := (hb.block g hg).trans h
theorem Blk.alloc (h : Blk w g t cs) (o : Obj) : Blk (w.alloc o) g t cs := (Below.heap_alloc w o g h.lt).trans h
end
theorem Blk.new (w : World) (t : TypeId) (cs : Array Value) : Blk (w.alloc (.cells cs t)) w.heap.size t cs := heap_alloc_new w _

/-- A list of wide numbers, as it lies in memory. -/
def IsAccs (w : World) (v : Value) (L : List Int) : Prop :=
  ∃ A cap, v = .slice A L.length cap ∧ ∀ j, j < L.length → ∃ b off, A = some ⟨b, off, none⟩ ∧ L.length ≤ cap ∧ b < w.heap.size ∧ w.cell? ⟨b, off + j * 2, none⟩ = some (.int .i64 (HH (L.getD j 0))) ∧ w.cell? ⟨b, off + j * 2 + 1, none⟩ = some (.int .u64 (LL (L.getD j 0)))
theorem IsAccs.below {w w' : World} {v : Value} {L : List Int} {B : Nat} (h : IsAccs w v L) (hb : Below B w w') (hB : B = w.heap.size) : IsAccs w' v L := by
  subst hB
  obtain ⟨A, cap, hv, h⟩ := h
  refine ⟨A, cap, hv, fun j hj => ?_⟩
  obtain ⟨b, off, h1, h2, h3, h4, h5⟩ := h j hj
  exact ⟨b, off, h1, h2, Nat.lt_of_lt_of_le h3 hb.size, (hb.cell (p := ⟨b, off + j * 2, none⟩) h3).trans h4, (hb.cell (p := ⟨b, off + j * 2 + 1, none⟩) h3).trans h5⟩
def sumL : List Int → Int
  | [] => 0
  | x :: r => x + sumL r
theorem sumL_take : ∀ (L : List Int) (j : Nat), j < L.length → sumL (L.take (j + 1)) = sumL (L.take j) + L.getD j 0
  | x :: r, 0, _ => by simp [sumL]
  | x :: r, j + 1, h => by
    have := sumL_take r j (by simpa using h)
    simp only [List.take_succ_cons, sumL, List.getD_cons_succ]
    omega

set_option maxHeartbeats 8000000 in
theorem sum_any (L : List Int) (hl : L.length ≤ 1000) (v : Value) (w : World) (hv : IsAccs w v L) :
    Calls Try.prog 16 #[v] w fun e w' => e = .returned (.agg #[.int .i64 (HH (sumL L)), .int .u64 (LL (sumL L))]) ∧ Below w.heap.size w w' := by
  obtain ⟨A, cap, rfl, hat⟩ := hv
  replace hat := Lib.hid hat
  obtain ⟨len, hlen⟩ : ∃ len, len = L.length := ⟨_, rfl⟩
  rw [← hlen] at hl ⊢
  replace hlen := Lib.hid hlen
  go_enter Try.func16, Try.ntmps16
  go_wp2_with fail
  go_loopw [8] (fun i wr => ∃ j : Nat, j ≤ len ∧ i = .int .i64 j ∧ Blk wr w.heap.size 24 #[.int .i64 0, .int .u64 0] ∧ Blk wr (w.heap.size + 1) 24 #[.int .i64 (HH (sumL (L.take j))), .int .u64 (LL (sumL (L.take j)))] ∧ Below w.heap.size w wr) (fun i _ => len - (intOf i).toNat)
  case atStart =>
    refine ⟨0, by omega, rfl, (Blk.new w 24 _).alloc _, ?_, ?_⟩
    · have := Blk.new (w.alloc (.cells #[.int .i64 0, .int .u64 0] 24)) 24 #[.int .i64 0, .int .u64 0]
      simpa [sumL, HH_zero, LL_zero] using this
    · exact ((Below.refl _ _).alloc (Nat.le_refl _) _).alloc (by simp) _
  case round =>
    obtain ⟨j, hj, rfl, hR, hS, hb⟩ := hrel
    have r0 := hR.cell 0
    have r1 := hR.cell 1
    have s0 := hS.cell 0
    have s1 := hS.cell 1
    simp at r0 r1 s0 s1
    have fr := hR.frozen
    have fs := hS.frozen
    have zs := hS.lt
    replace hR := Lib.hid hR
    replace hS := Lib.hid hS
    replace hb := Lib.hid hb
    by_cases hlt : j < len
    · have g1 : j < L.length := by rw [← hlen.out]; exact hlt
      obtain ⟨b, off, rfl, hcap, hbl, c0, c1⟩ := hat.out j g1
      have hcap : len ≤ cap := by rw [hlen.out]; exact hcap
      have c0 : wr.cell? ⟨b, off + j * 2, none⟩ = _ := (hb.out.cell (p := ⟨b, off + j * 2, none⟩) hbl).trans c0
      have c1 : wr.cell? ⟨b, off + j * 2 + 1, none⟩ = _ := (hb.out.cell (p := ⟨b, off + j * 2 + 1, none⟩) hbl).trans c1
      have hst := Lib.hid (sumL_take L j g1)
      obtain ⟨y, hy⟩ : ∃ y, y = L.getD j 0 := ⟨_, rfl⟩
      obtain ⟨S, hSS⟩ : ∃ S, S = sumL (L.take j) := ⟨_, rfl⟩
      rw [← hy] at c0 c1 hst
      rw [← hSS] at s0 s1 hst hS
      clear hy hSS g1
      go_wp2_with fail
      with_reducible refine Calls.mono (plus_c _ _ _) ?_
      rintro e w3 ⟨rfl, hb3⟩
      have hlt4 := Lib.hid hS.out.lt
      have hS3 := (hS.out.alloc (.cells #[.int .i64 (HH y), .int .u64 (LL y)] 24)).below hb3 (by simp; have := hlt4.out; omega)
      have hR3 := Lib.hid ((hR.out.alloc (.cells #[.int .i64 (HH y), .int .u64 (LL y)] 24)).below hb3 (by simp; have := hlt4.out; omega))
      have hb4 := Lib.hid (Below.trans (hb.out.alloc hb.out.size (.cells #[.int .i64 (HH y), .int .u64 (LL y)] 24)) (hb3.mono (by simp; have := hb.out.size; omega)))
      have q0 := hS3.cell 0
      have q1 := hS3.cell 1
      simp at q0 q1
      have fq := hS3.frozen
      have hN := Lib.hid (((hS3.set_ 0 (.int .i64 (HH (S + y)))).set_ 1 (.int .u64 (LL (S + y)))))
      replace hS3 := Lib.hid hS3
      clear r0 r1 s0 s1 c0 c1 fr fs hb3
      go_wp2_with fail
      refine ⟨⟨j + 1, by omega, by go_num, ?_, ?_, ?_⟩, by simp [intOf]; omega⟩
      · exact (hR3.out.far (p := ⟨w.heap.size + 1, 0, none⟩) (by simp) _).far (p := ⟨w.heap.size + 1, 1, none⟩) (by simp) _
      · rw [hst.out]
        exact hN.out
      · exact (hb4.out.setCell (by simp) _).setCell (by simp) _
    · obtain rfl : j = len := by omega
      have ht : L.take j = L := by rw [hlen.out]; exact List.take_length
      rw [ht] at s0 s1
      obtain ⟨S, hSS⟩ : ∃ S, S = sumL L := ⟨_, rfl⟩
      rw [← hSS] at s0 s1
      have hN := Lib.hid (((hR.out.set_ 0 (.int .i64 (HH S))).set_ 1 (.int .u64 (LL S))))
      have hSh := Lib.hid hSS
      clear ht hSS
      go_wp2_with fail
      have n0 := hN.out.cell 0
      have n1 := hN.out.cell 1
      simp at n0 n1
      refine bodyPost_ret (v := .agg #[.int .i64 (HH S), .int .u64 (LL S)]) (by simp [results, Try.results16, go_sem, n0, n1]) rfl ⟨by rw [hSh.out], ?_⟩
      exact (hb.out.setCell (by simp) _).setCell (by simp) _
end Go.Proofs.Ytmndafndopoelaa
