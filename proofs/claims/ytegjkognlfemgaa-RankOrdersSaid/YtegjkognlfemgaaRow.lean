/- The contract of the book's Row. -/
import Derived.Test.YtegjkognlfemgaaGrows
import Derived.OwnWalk
namespace Go.Proofs.Ytegjkognlfemgaa
open Go.RowKit

theorem info23 : (Try.prog.info? 23).map (fun i => (i.zero, i.size, i.bytes)) = some (some (.int .u64 0), 1, 8) := by kernel_rfl
def rowL (n : Int) (j : Nat) : List Int := (List.range j).map (fun (i : Nat) => VZ n i)
theorem rowL_succ (n : Int) (j : Nat) : rowL n (j + 1) = rowL n j ++ [VZ n j] := by
  unfold rowL
  rw [List.range_succ, List.map_append]
  rfl
theorem rowL_len (n : Int) (j : Nat) : (rowL n j).length = j := by simp [rowL]

/-- What Row's rounds keep. -/
structure RowR (w : World) (gb gm : Nat) (n : Int) (j : Nat) (v : Value) (wr : World) : Prop where
  book : ∃ S, Book wr gb gm S ∧ Closed S
  grown : w.grownBy wr (some gm)
  own : wr.ownsRow w.heap.size 23 1 v j ((rowL n j).map (Value.int .u64))

theorem own_ne {w : World} {base gm : Nat} {e : TypeId} {size : Nat} {v : Value} {n : Nat} {xs : List Value} (h : w.ownsRow base e size v n xs) (hlt : gm < base) : v.ownBlock = none ∨ v.ownBlock ≠ some gm := by
  rcases hv : v.ownBlock with _ | k
  · exact .inl rfl
  · have := h.lt k hv
    exact .inr (by intro e; injection e with e; omega)

theorem RowR.asked {w wr w1 : World} {gb gm : Nat} {n : Int} {j : Nat} {v : Value} (h : RowR w gb gm n j v wr) (hm : gm < w.heap.size) {S : Int → Int → Bool} (hB : Book w1 gb gm S) (hC : Closed S) (hg : wr.grownBy w1 (some gm)) : RowR w gb gm n j v w1 :=
  ⟨⟨S, hB, hC⟩, grown_trans h.grown hg, h.own.kept hg (own_ne h.own hm)⟩
theorem RowR.alloc {w wr : World} {gb gm : Nat} {n : Int} {j : Nat} {v : Value} (h : RowR w gb gm n j v wr) (o : Obj) : RowR w gb gm n j v (wr.alloc o) := by
  obtain ⟨S, h1, h2⟩ := h.book
  exact ⟨⟨S, h1.alloc o, h2⟩, grown_alloc h.grown o, h.own.alloc o⟩
theorem grown_own {a b c : World} {gm : Nat} {row : Option Nat} (h : a.grownBy b (some gm)) (k : b.grownBy c row) (hrow : ∀ x, row = some x → a.heap.size ≤ x) : a.grownBy c (some gm) :=
  ⟨k.os.trans h.os, k.tape.trans h.tape, k.output.trans h.output, Nat.le_trans h.size k.size, fun i hi hne => (k.block i (Nat.lt_of_lt_of_le hi h.size) (fun e => by have := hrow i e.symm; omega)).trans (h.block i hi hne)⟩
theorem RowR.put {w wr w1 : World} {gb gm : Nat} {n : Int} {j : Nat} {v v' : Value} (h : RowR w gb gm n j v wr) (hb : gb < w.heap.size) (hm : gm < w.heap.size)
    (ho : w1.ownsRow w.heap.size 23 1 v' (j + 1) ((rowL n j).map (Value.int .u64) ++ [.int .u64 (VZ n j)])) (hg : wr.grownBy w1 v.ownBlock) : RowR w gb gm n (j + 1) v' w1 := by
  obtain ⟨S, h1, h2⟩ := h.book
  have hlt := h.own.lt
  have hk : ∀ x, x < w.heap.size → w1.heap[x]? = wr.heap[x]? := fun x hx => hg.block x (Nat.lt_of_lt_of_le hx h.grown.size) (fun e => by have := hlt x e.symm; omega)
  refine ⟨⟨S, h1.same (hk gb hb) (hk gm hm), h2⟩, grown_own h.grown hg (fun x hx => (hlt x hx).1), ?_⟩
  rw [rowL_succ, List.map_append]
  exact ho

set_option maxHeartbeats 4000000 in
theorem row_in (n : Int) (hn : 0 ≤ n ∧ n ≤ 16) (k : Int) (K : Nat) (hK : k < 0 ∧ K = 0 ∨ (0 ≤ k ∧ k ≤ 32 ∧ k = (K : Int)) ∨ (32 < k ∧ K = 32)) (w : World) (gb gm : Nat) (S : Int → Int → Bool) (hB : Book w gb gm S) (hC : Closed S) :
    Calls Try.prog 23 #[.pointer (some ⟨gb, 0, none⟩), .int .i64 n, .int .i64 k] w fun e w' => ∃ v, e = .returned v ∧ RowR w gb gm n (K + 1) v w' := by
  have hKb : K ≤ 32 := by omega
  have hR0 : RowR w gb gm n 0 (.slice none 0 0) (w.alloc (.cells #[.int .i64 n, .int .i64 0] 32)) :=
    ⟨⟨S, hB.alloc _, hC⟩, grown_below (belowAlloc _ _), World.ownsRow_nil _ _ _ _⟩
  have hR0 := Lib.hid hR0
  have hb := Lib.hid hB.ltb
  have hm := Lib.hid hB.ltm
  have hr : RightP n 0 := ⟨hn.1, hn.2, by omega, by omega⟩
  obtain ⟨i0, hi, hz0, hz1, hz2⟩ := info_parts info23
  clear hB hC
  rcases hK with ⟨h1, hK⟩ | ⟨h1, h2, rfl⟩ | ⟨h1, hK⟩
  all_goals
    go_enter Try.func23, Try.ntmps23
    go_wp2_with (go_at_call 41; refine (right_yes _ _ hr _).mono ?_; rintro e w' ⟨rfl, rfl⟩)
    go_loopw [7, 17] (fun v i wr => ∃ j : Nat, j ≤ K + 1 ∧ i = .int .i64 j ∧ RowR w gb gm n j v wr) (fun _ i _ => K + 1 - (intOf i).toNat)
    case atStart => exact ⟨0, by omega, rfl, hR0.out⟩
    case round =>
      obtain ⟨j, hj, rfl, hR⟩ := hrel
      have hR := Lib.hid hR
      by_cases hl : j < K + 1
      · obtain ⟨S, hS, hC⟩ := hR.out.book
        have hS := Lib.hid hS
        have hC := Lib.hid hC
        go_wp2_with fail
        refine (bookV_any _ _ _ _ _ _ hS.out hC.out).mono ?_
        rintro e w1 ⟨rfl, b1, g1⟩
        have hR1 := Lib.hid (hR.out.asked hm.out b1 (more_closed hC.out _ _) g1)
        clear b1 g1 hS hC hR
        go_wp2_with (at_builtin; refine wpList_append_own _ rfl _ _ 37 rfl w.heap.size 23 i0 (.int .u64 0) 1 8 Try.underlying37 hi hz0 hz1 hz2 rfl (by decide) _ _ _ rfl (hR1.out.own.alloc _) ⟨w1.heap.size, 0, none⟩ 1 1 [.int .u64 (VZ n j)] rfl rfl ?c1 ?c2 ?c3 ?c4 ?c5 ?_)
        case c1 =>
          intro j u hj
          match j, hj with
          | 0, hj => simp at hj; subst hj; simp [Addr.add]
        case c2 => intro u hu; simp at hu; subst hu; rfl
        case c3 => unfold maxLen; omega
        case c4 => omega
        case c5 => have := hR1.out.grown.size; simp; omega
        intro v' w2 hown hgrow _
        have hR2 := Lib.hid ((hR1.out.alloc _).put hb.out hm.out hown hgrow)
        clear hown hgrow hR1
        go_wp2_with fail
        exact ⟨⟨j + 1, by omega, by go_num, hR2.out⟩, by simp [intOf]; omega⟩
      · obtain rfl : j = K + 1 := by omega
        go_wp2
        go_ret
        exact ⟨_, rfl, hR.out⟩
end Go.Proofs.Ytegjkognlfemgaa
