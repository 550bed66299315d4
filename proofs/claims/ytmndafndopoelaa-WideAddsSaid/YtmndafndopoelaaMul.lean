import Derived.Test.YtmndafndopoelaaMul0
import Derived.Test.YtmndafndopoelaaBig2
import Derived.LoopTactic
namespace Go.Proofs.Ytmndafndopoelaa
open Go.RowKit

theorem D_eq (X : Int) : D X = .agg #[.int .i64 (X % 65536), .int .i64 (X / 65536 % 65536), .int .i64 (X / 4294967296 % 65536), .int .i64 (X / 281474976710656 % 65536),
  .int .i64 (X / 18446744073709551616 % 65536), .int .i64 (X / 1208925819614629174706176 % 65536), .int .i64 (X / 79228162514264337593543950336 % 65536), .int .i64 (X / 5192296858534827628530496329220096 % 65536)] := rfl

theorem cell_far {w : World} {a b : Addr} {v : Value} (h : a ≠ b) : (w.setCell a v).cell? b = w.cell? b := by
  apply World.cell?_setCell_other
  exact h
theorem cell_same {w : World} {a : Addr} {u v : Value} (h : w.cell? a = some u) : (w.setCell a v).cell? a = some v := by
  apply World.cell?_setCell_same
  exact h

/-- What the loops of Mul keep of memory: the two factors' boxes, the result's box, the digits so far. -/
structure MulMem (w wr : World) (S T : Int) (o : Nat → Int) : Prop where
  below : Below w.heap.size w wr
  size : w.heap.size + 1 + 1 + 1 < wr.heap.size
  ca : ∀ i, i < 8 → wr.cell? ⟨w.heap.size, i, none⟩ = some (.int .i64 (dig S i))
  cb : ∀ i, i < 8 → wr.cell? ⟨w.heap.size + 1, i, none⟩ = some (.int .i64 (dig T i))
  cr : ∀ i, wr.cell? ⟨w.heap.size + 1 + 1, i, none⟩ = (#[.int .i64 0, .int .i64 0, .int .i64 0, .int .i64 0, .int .i64 0, .int .i64 0, .int .i64 0, .int .i64 0] : Array Value)[i]?
  fr : ∀ i, wr.frozen? ⟨w.heap.size + 1 + 1, i, none⟩ = false
  co : ∀ i, i < 8 → wr.cell? ⟨w.heap.size + 1 + 1 + 1, i, none⟩ = some (.int .i64 (o i))
  fo : ∀ i, wr.frozen? ⟨w.heap.size + 1 + 1 + 1, i, none⟩ = false

/-- A digit is written. -/
theorem MulMem.put {w wr : World} {S T : Int} {o : Nat → Int} (h : MulMem w wr S T o) (nq j : Nat) (x : Int) (hj : j < 8) :
    MulMem w ((wr.drewN nq).setCell ⟨w.heap.size + 1 + 1 + 1, j, none⟩ (.int .i64 x)) S T (upd o j x) := by
  obtain ⟨hb, hs, ca, cb, cr, fr, co, fo⟩ := h
  constructor
  · exact (below_drewN hb nq).setCell (by simp; omega) _
  · simpa [World.setCell] using hs
  · intro i hi
    rw [cell_far (by simp)]
    exact ca i hi
  · intro i hi
    rw [cell_far (by simp)]
    exact cb i hi
  · intro i
    rw [cell_far (by simp)]
    exact cr i
  · intro i
    rw [World.frozen?_setCell]
    exact fr i
  · intro i hi
    unfold upd
    by_cases e : i = j
    · subst e
      rw [if_pos rfl, cell_same (u := .int .i64 (o i)) (by exact co i hi)]
    · rw [if_neg e, cell_far (by simp; try omega)]
      exact co i hi
  · intro i
    rw [World.frozen?_setCell]
    exact fo i

set_option maxHeartbeats 2000000 in
theorem bmul_any (S T : Int) (w : World) : Calls Try.prog 12 #[D S, D T] w fun e w' => e = .returned (D (S * T)) ∧ Below w.heap.size w w' := by
  go_enter Try.func12, Try.ntmps12
  rw [D_eq S, D_eq T]
  go_wp2
  go_loopw [6] (fun i wr => ∃ (n : Nat) (o : Nat → Int), n ≤ 8 ∧ i = .int .i64 n ∧ Rows8 S T n o ∧ MulMem w wr S T o) (fun i _ => 8 - (intOf i).toNat)
  case atStart =>
    refine ⟨0, fun _ => 0, by omega, rfl, rows_start S T, ?_⟩
    constructor
    · repeat (first | (with_reducible exact Below.refl _ _) | (with_reducible assumption) | (with_reducible refine below_drewN ?_ _) | (with_reducible refine Below.drew ?_) | (with_reducible refine Below.setCell ?_ (by (try simp); (try omega)) _) | (with_reducible refine Below.alloc ?_ (by (try simp); (try omega)) _))
    · simp
    · intro i hi
      refine ((blkA (Below.refl _ _) (by repeat (first | (with_reducible refine heap_last _ _ ?_; simp; done) | refine heap_keep ?_))).1 i).trans ?_
      rcases lt8 hi with rfl | rfl | rfl | rfl | rfl | rfl | rfl | rfl <;> simp [dig]
    · intro i hi
      refine ((blkA (Below.refl _ _) (by repeat (first | (with_reducible refine heap_last _ _ ?_; simp; done) | refine heap_keep ?_))).1 i).trans ?_
      rcases lt8 hi with rfl | rfl | rfl | rfl | rfl | rfl | rfl | rfl <;> simp [dig]
    · intro i
      exact (blkA (Below.refl _ _) (by repeat (first | (with_reducible refine heap_last _ _ ?_; simp; done) | refine heap_keep ?_))).1 i
    · intro i
      exact (blkA (Below.refl _ _) (by repeat (first | (with_reducible refine heap_last _ _ ?_; simp; done) | refine heap_keep ?_))).2.1 i
    · intro i hi
      refine ((blkA (Below.refl _ _) (by repeat (first | (with_reducible refine heap_last _ _ ?_; simp; done) | refine heap_keep ?_))).1 i).trans ?_
      rcases lt8 hi with rfl | rfl | rfl | rfl | rfl | rfl | rfl | rfl <;> rfl
    · intro i
      exact (blkA (Below.refl _ _) (by repeat (first | (with_reducible refine heap_last _ _ ?_; simp; done) | refine heap_keep ?_))).2.1 i
  case round =>
    obtain ⟨n, o, hn, rfl, hR, hM⟩ := hrel
    by_cases hlt : n < 8
    · go_wp2
      go_loopw [7, 8] (fun c k wr => ∃ (m : Nat) (cc : Int) (o : Nat → Int), n + m ≤ 8 ∧ k = .int .i64 m ∧ c = .int .i64 cc ∧ Row S T n m o cc ∧ MulMem w wr S T o) (fun _ k _ => 8 - (intOf k).toNat)
      case atStart => exact ⟨0, 0, o, by omega, rfl, rfl, row_start hR, hM⟩
      case round =>
        obtain ⟨m, cc, o, hm, rfl, rfl, hR, hM⟩ := hrel
        by_cases hlt2 : n + m < 8
        · have hM' := hM
          obtain ⟨hb, hs, ca, cb, cr, fr, co, fo⟩ := hM'
          have RS := Lib.hid (row_step hR hlt2)
          have HM := Lib.hid hM
          have a1 := ca n hlt
          have b1 := cb m (by omega)
          have o1 := co (n + m) hlt2
          have f1 := fo (n + m)
          obtain ⟨h1, h2, h3, -⟩ := hR
          have hob := h1 (n + m) hlt2
          have pb := prod_bd (dig_bd S n) (dig_bd T m)
          have da := dig_bd S n
          have db := dig_bd T m
          clear hM ca cb cr fr co fo h1
          go_wp2
          go_quiet (fail)
          go_wp2
          exact ⟨⟨m + 1, _, _, by omega, by go_num, rfl, RS.out, HM.out.put _ _ _ hlt2⟩, by simp [intOf]; omega⟩
        · have RE := row_end hR (by omega)
          go_wp2
          exact ⟨⟨n + 1, _, by omega, by go_num, RE, hM⟩, by simp [intOf]; omega⟩
    · obtain rfl : n = 8 := by omega
      obtain ⟨hb, hs, ca, cb, cr, fr, co, fo⟩ := hM
      have H := Lib.hid (rows_digits hR)
      have o0 := co 0 (by omega)
      have o1 := co 1 (by omega)
      have o2 := co 2 (by omega)
      have o3 := co 3 (by omega)
      have o4 := co 4 (by omega)
      have o5 := co 5 (by omega)
      have o6 := co 6 (by omega)
      have o7 := co 7 (by omega)
      clear ca cb co fo hR
      go_wp2
      refine bodyPost_ret (v := D (S * T)) (by rw [← H.out]; simp [results, Try.results12, go_sem, cr]) rfl ⟨rfl, ?_⟩
      repeat (first | (with_reducible exact Below.refl _ _) | (with_reducible assumption) | (with_reducible refine below_drewN ?_ _) | (with_reducible refine Below.drew ?_) | (with_reducible refine Below.setCell ?_ (by (try simp); (try omega)) _) | (with_reducible refine Below.alloc ?_ (by (try simp); (try omega)) _))
end Go.Proofs.Ytmndafndopoelaa
