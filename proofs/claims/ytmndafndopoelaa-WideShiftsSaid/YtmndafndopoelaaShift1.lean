/- Contracts: the reference's Bit and Shr of digits. -/
import Derived.Test.YtmndafndopoelaaShift0
import Derived.Test.YtmndafndopoelaaTells0
namespace Go.Proofs.Ytmndafndopoelaa
open Go.RowKit

theorem box_dig (w : World) (T : Int) (q : Nat) (hq : q < 8) : (w.alloc (.cells #[.int .i64 (T % 65536), .int .i64 (T / 65536 % 65536), .int .i64 (T / 4294967296 % 65536), .int .i64 (T / 281474976710656 % 65536),
  .int .i64 (T / 18446744073709551616 % 65536), .int .i64 (T / 1208925819614629174706176 % 65536), .int .i64 (T / 79228162514264337593543950336 % 65536), .int .i64 (T / 5192296858534827628530496329220096 % 65536)] 27)).cell? ⟨w.heap.size, q, none⟩ = some (.int .i64 (dig T q)) := by
  refine ((blkA (Below.refl _ _) (heap_last w _ rfl)).1 q).trans ?_
  rcases lt8 hq with rfl | rfl | rfl | rfl | rfl | rfl | rfl | rfl <;> simp [dig]

set_option maxHeartbeats 1000000 in
theorem bit_core (T : Int) (n m q r : Nat) (hn : n ≤ 254) (hm : (if 127 < n then 127 else n) = m) (hq : q = m / 16) (hr : r = m % 16) (w : World) :
    Calls Try.prog 38 #[D T, .int .i64 n] w fun e w' => e = .returned (.int .i64 (bit T m)) ∧ Below w.heap.size w w' := by
  have hm2 : m ≤ 127 := by rw [← hm]; split <;> omega
  have cell := box_dig w T q (by omega)
  have hb := bit_dig T m
  rw [← hq, ← hr] at hb
  have HB := Lib.hid hb
  have hd := dig_bd T q
  have e1 : (m : Int) / 16 = q := by omega
  have e2 : (m : Int) % 16 = r := by omega
  have hq8 : q < 8 := by omega
  have hr16 : r < 16 := by omega
  clear hq hr hb
  rw [D_eq T]
  by_cases hbig : 127 < n
  · rw [if_pos hbig] at hm
    subst hm
    have e1' : q = 7 := by omega
    have e2' : r = 15 := by omega
    subst e1' e2'
    clear e1 e2
    go_enter Try.func38, Try.ntmps38
    go_wp2
    go_loop [5, 6] (fun x i => ∃ k : Nat, k ≤ 15 ∧ i = .int .i64 k ∧ x = .int .i64 (dig T 7 / 2 ^ k)) (fun _ i => 15 - (intOf i).toNat)
    case atStart => exact ⟨0, by omega, rfl, by simp⟩
    case round =>
      obtain ⟨k, hk, rfl, rfl⟩ := hrel
      have hs := Lib.hid (div_succ (dig T 7) k)
      have hx0 : 0 ≤ dig T 7 / 2 ^ k := Int.ediv_nonneg hd.1 (Int.le_of_lt (pow_pos2 k))
      have hx1 : dig T 7 / 2 ^ k ≤ 65535 := by
        have := Int.ediv_le_self (b := 2 ^ k) hd.1
        omega
      by_cases hlt : k < 15
      · obtain ⟨x, hx⟩ : ∃ x, x = dig T 7 / 2 ^ k := ⟨_, rfl⟩
        rw [← hx] at hx0 hx1 ⊢
        have hX := Lib.hid hx
        clear hx
        go_wp2
        refine ⟨⟨k + 1, by omega, by go_num, by rw [hX.out, hs.out]⟩, by simp [intOf]; omega⟩
      · obtain rfl : k = 15 := by omega
        go_wp2
        go_ret
        refine ⟨congrArg (fun z => Ending.returned (Value.int .i64 z)) HB.out, ?_⟩
        repeat (first | (with_reducible exact Below.refl _ _) | (with_reducible assumption) | (with_reducible refine below_drewN ?_ _) | (with_reducible refine Below.drew ?_) | (with_reducible refine Below.setCell ?_ (by simp; try omega) _) | (with_reducible refine Below.alloc ?_ (by simp; try omega) _))
  · rw [if_neg hbig] at hm
    subst hm
    go_enter Try.func38, Try.ntmps38
    go_wp2
    go_loop [5, 6] (fun x i => ∃ k : Nat, k ≤ r ∧ i = .int .i64 k ∧ x = .int .i64 (dig T q / 2 ^ k)) (fun _ i => r - (intOf i).toNat)
    case atStart => exact ⟨0, by omega, rfl, by simp⟩
    case round =>
      obtain ⟨k, hk, rfl, rfl⟩ := hrel
      have hs := Lib.hid (div_succ (dig T q) k)
      have hx0 : 0 ≤ dig T q / 2 ^ k := Int.ediv_nonneg hd.1 (Int.le_of_lt (pow_pos2 k))
      have hx1 : dig T q / 2 ^ k ≤ 65535 := by
        have := Int.ediv_le_self (b := 2 ^ k) hd.1
        omega
      by_cases hlt : k < r
      · obtain ⟨x, hx⟩ : ∃ x, x = dig T q / 2 ^ k := ⟨_, rfl⟩
        rw [← hx] at hx0 hx1 ⊢
        have hX := Lib.hid hx
        clear hx
        go_wp2
        refine ⟨⟨k + 1, by omega, by go_num, by rw [hX.out, hs.out]⟩, by simp [intOf]; omega⟩
      · obtain rfl : k = r := by omega
        go_wp2
        go_ret
        refine ⟨congrArg (fun z => Ending.returned (Value.int .i64 z)) HB.out, ?_⟩
        repeat (first | (with_reducible exact Below.refl _ _) | (with_reducible assumption) | (with_reducible refine below_drewN ?_ _) | (with_reducible refine Below.drew ?_) | (with_reducible refine Below.setCell ?_ (by simp; try omega) _) | (with_reducible refine Below.alloc ?_ (by simp; try omega) _))
/-- What the loop of Shr keeps of memory: the box of the number, the result's box, the digits so far. -/
structure ShrMem (w wr : World) (T : Int) (o : Nat → Int) : Prop where
  below : Below w.heap.size w wr
  size : w.heap.size + 1 + 1 < wr.heap.size
  ca : wr.cell? ⟨w.heap.size, 0, none⟩ = some (.int .i64 (T % 65536)) ∧ wr.cell? ⟨w.heap.size, 1, none⟩ = some (.int .i64 (T / 65536 % 65536)) ∧ wr.cell? ⟨w.heap.size, 2, none⟩ = some (.int .i64 (T / 4294967296 % 65536)) ∧ wr.cell? ⟨w.heap.size, 3, none⟩ = some (.int .i64 (T / 281474976710656 % 65536)) ∧ wr.cell? ⟨w.heap.size, 4, none⟩ = some (.int .i64 (T / 18446744073709551616 % 65536)) ∧ wr.cell? ⟨w.heap.size, 5, none⟩ = some (.int .i64 (T / 1208925819614629174706176 % 65536)) ∧ wr.cell? ⟨w.heap.size, 6, none⟩ = some (.int .i64 (T / 79228162514264337593543950336 % 65536)) ∧ wr.cell? ⟨w.heap.size, 7, none⟩ = some (.int .i64 (T / 5192296858534827628530496329220096 % 65536))
  cr : ∀ i, wr.cell? ⟨w.heap.size + 1, i, none⟩ = (#[.int .i64 0, .int .i64 0, .int .i64 0, .int .i64 0, .int .i64 0, .int .i64 0, .int .i64 0, .int .i64 0] : Array Value)[i]?
  fr : ∀ i, wr.frozen? ⟨w.heap.size + 1, i, none⟩ = false
  co : ∀ i, i < 8 → wr.cell? ⟨w.heap.size + 1 + 1, i, none⟩ = some (.int .i64 (o i))
  fo : ∀ i, wr.frozen? ⟨w.heap.size + 1 + 1, i, none⟩ = false

theorem ShrMem.step {w W W' : World} {T : Int} {o : Nat → Int} (h : ShrMem w W T o) (hb : Below W.heap.size W W') : ShrMem w W' T o := by
  obtain ⟨bl, hs, ⟨x0, x1, x2, x3, x4, x5, x6, x7⟩, cr, fr, co, fo⟩ := h
  have l0 : w.heap.size < W.heap.size := by omega
  have l1 : w.heap.size + 1 < W.heap.size := by omega
  refine ⟨bl.trans (hb.mono bl.size), Nat.lt_of_lt_of_le hs hb.size, ⟨?_, ?_, ?_, ?_, ?_, ?_, ?_, ?_⟩, fun i => ?_, fun i => ?_, fun i hi => ?_, fun i => ?_⟩
  · exact (hb.cell (p := ⟨w.heap.size, 0, none⟩) l0).trans x0
  · exact (hb.cell (p := ⟨w.heap.size, 1, none⟩) l0).trans x1
  · exact (hb.cell (p := ⟨w.heap.size, 2, none⟩) l0).trans x2
  · exact (hb.cell (p := ⟨w.heap.size, 3, none⟩) l0).trans x3
  · exact (hb.cell (p := ⟨w.heap.size, 4, none⟩) l0).trans x4
  · exact (hb.cell (p := ⟨w.heap.size, 5, none⟩) l0).trans x5
  · exact (hb.cell (p := ⟨w.heap.size, 6, none⟩) l0).trans x6
  · exact (hb.cell (p := ⟨w.heap.size, 7, none⟩) l0).trans x7
  · exact (hb.cell (p := ⟨w.heap.size + 1, i, none⟩) l1).trans (cr i)
  · exact (hb.frozen (p := ⟨w.heap.size + 1, i, none⟩) l1).trans (fr i)
  · exact (hb.cell (p := ⟨w.heap.size + 1 + 1, i, none⟩) hs).trans (co i hi)
  · exact (hb.frozen (p := ⟨w.heap.size + 1 + 1, i, none⟩) hs).trans (fo i)
theorem ShrMem.drew {w W : World} {T : Int} {o : Nat → Int} (h : ShrMem w W T o) : ShrMem w W.drew T o := ⟨h.below.drew, h.size, h.ca, h.cr, h.fr, h.co, h.fo⟩
theorem ShrMem.put {w W : World} {T : Int} {o : Nat → Int} (h : ShrMem w W T o) (j : Nat) (x : Int) (hj : j < 8) : ShrMem w (W.setCell ⟨w.heap.size + 1 + 1, j, none⟩ (.int .i64 x)) T (upd o j x) := by
  obtain ⟨bl, hs, ⟨x0, x1, x2, x3, x4, x5, x6, x7⟩, cr, fr, co, fo⟩ := h
  refine ⟨bl.setCell (by simp; omega) _, by simpa [World.setCell] using hs, ⟨?_, ?_, ?_, ?_, ?_, ?_, ?_, ?_⟩, fun i => ?_, fun i => ?_, fun i hi => ?_, fun i => ?_⟩
  · rw [cell_far (by simp; try omega)]; exact x0
  · rw [cell_far (by simp; try omega)]; exact x1
  · rw [cell_far (by simp; try omega)]; exact x2
  · rw [cell_far (by simp; try omega)]; exact x3
  · rw [cell_far (by simp; try omega)]; exact x4
  · rw [cell_far (by simp; try omega)]; exact x5
  · rw [cell_far (by simp; try omega)]; exact x6
  · rw [cell_far (by simp; try omega)]; exact x7
  · rw [cell_far (by simp)]; exact cr i
  · rw [World.frozen?_setCell]; exact fr i
  · unfold upd
    by_cases e : i = j
    · subst e
      rw [if_pos rfl, cell_same (u := .int .i64 (o i)) (co i hi)]
    · rw [if_neg e, cell_far (by simp; try omega)]
      exact co i hi
  · rw [World.frozen?_setCell]; exact fo i

theorem bit_c (T : Int) (n : Int) (m : Nat) (h0 : 0 ≤ n) (hn : n ≤ 254) (hm : (if 127 < n.toNat then 127 else n.toNat) = m) (w : World) :
    Calls Try.prog 38 #[.agg #[.int .i64 (T % 65536), .int .i64 (T / 65536 % 65536), .int .i64 (T / 4294967296 % 65536), .int .i64 (T / 281474976710656 % 65536), .int .i64 (T / 18446744073709551616 % 65536), .int .i64 (T / 1208925819614629174706176 % 65536), .int .i64 (T / 79228162514264337593543950336 % 65536), .int .i64 (T / 5192296858534827628530496329220096 % 65536)], .int .i64 n] w fun e w' => e = .returned (.int .i64 (bit T m)) ∧ Below w.heap.size w w' := by
  obtain ⟨k, rfl⟩ := Int.eq_ofNat_of_zero_le h0
  have c := bit_core T k m (m / 16) (m % 16) (by omega) (by simpa using hm) rfl rfl w
  rw [D_eq T] at c
  exact c

set_option maxHeartbeats 4000000 in
theorem shr_core (T Q : Int) (s : Nat) (hT : -170141183460469231731687303715884105728 ≤ T ∧ T < 170141183460469231731687303715884105728) (hs : s ≤ 127) (hQ : Q = T / 2 ^ s) (w : World) :
    Calls Try.prog 24 #[D T, .int .i64 s] w fun e w' => e = .returned (D Q) ∧ Below w.heap.size w w' := by
  have hbq := Lib.hid (fun i => bit_quot hT s i)
  rw [← hQ] at hbq
  clear hQ hT
  rw [D_eq T]
  go_enter Try.func24, Try.ntmps24
  go_wp2
  go_loopw [6] (fun i wr => ∃ (k : Nat) (z : Int), k ≤ 128 ∧ z + 1 = k ∧ i = .int .i64 z ∧ Hid (ShrMem w wr T (part Q k))) (fun i _ => (intOf i + 1).toNat)
  case atStart =>
    refine ⟨128, 127, by omega, by omega, rfl, ?_⟩
    refine ⟨?_, by simp, ?_, fun i => ?_, fun i => ?_, fun i hi => ?_, fun i => ?_⟩
    · repeat (first | (with_reducible exact Below.refl _ _) | (with_reducible assumption) | (with_reducible refine below_drewN ?_ _) | (with_reducible refine Below.drew ?_) | (with_reducible refine Below.setCell ?_ (by simp; try omega) _) | (with_reducible refine Below.alloc ?_ (by simp; try omega) _))
    · have c := (blkA (g := w.heap.size) (t := 27) (cs := #[.int .i64 (T % 65536), .int .i64 (T / 65536 % 65536), .int .i64 (T / 4294967296 % 65536), .int .i64 (T / 281474976710656 % 65536), .int .i64 (T / 18446744073709551616 % 65536), .int .i64 (T / 1208925819614629174706176 % 65536), .int .i64 (T / 79228162514264337593543950336 % 65536), .int .i64 (T / 5192296858534827628530496329220096 % 65536)]) (Below.refl _ (((w.alloc (.cells (#[.int .i64 (T % 65536), .int .i64 (T / 65536 % 65536), .int .i64 (T / 4294967296 % 65536), .int .i64 (T / 281474976710656 % 65536), .int .i64 (T / 18446744073709551616 % 65536), .int .i64 (T / 1208925819614629174706176 % 65536), .int .i64 (T / 79228162514264337593543950336 % 65536), .int .i64 (T / 5192296858534827628530496329220096 % 65536)]) 27)).alloc (.cells #[.int .i64 0, .int .i64 0, .int .i64 0, .int .i64 0, .int .i64 0, .int .i64 0, .int .i64 0, .int .i64 0] 27)).alloc (.cells #[.int .i64 0, .int .i64 0, .int .i64 0, .int .i64 0, .int .i64 0, .int .i64 0, .int .i64 0, .int .i64 0] 27))) (by repeat (first | (with_reducible refine heap_last _ _ ?_; simp; done) | refine heap_keep ?_))).1
      exact ⟨c 0, c 1, c 2, c 3, c 4, c 5, c 6, c 7⟩
    · exact (blkA (Below.refl _ _) (by repeat (first | (with_reducible refine heap_last _ _ ?_; simp; done) | refine heap_keep ?_))).1 i
    · exact (blkA (Below.refl _ _) (by repeat (first | (with_reducible refine heap_last _ _ ?_; simp; done) | refine heap_keep ?_))).2.1 i
    · rw [part_start Q i hi]
      refine ((blkA (Below.refl _ _) (by repeat (first | (with_reducible refine heap_last _ _ ?_; simp; done) | refine heap_keep ?_))).1 i).trans ?_
      rcases lt8 hi with rfl | rfl | rfl | rfl | rfl | rfl | rfl | rfl <;> rfl
    · exact (blkA (Below.refl _ _) (by repeat (first | (with_reducible refine heap_last _ _ ?_; simp; done) | refine heap_keep ?_))).2.1 i
  case round =>
    obtain ⟨k, z, hk, hz, rfl, hM⟩ := hrel
    rcases Nat.eq_zero_or_pos k with hk0 | hk0
    · obtain rfl : z = -1 := by omega
      subst hk0
      obtain ⟨bl, hsz, ca, cr, fr, co, fo⟩ := hM.out
      have o0 := co 0 (by omega)
      have o1 := co 1 (by omega)
      have o2 := co 2 (by omega)
      have o3 := co 3 (by omega)
      have o4 := co 4 (by omega)
      have o5 := co 5 (by omega)
      have o6 := co 6 (by omega)
      have o7 := co 7 (by omega)
      rw [part_end] at o0 o1 o2 o3 o4 o5 o6 o7
      have hD := Lib.hid (show Value.agg #[.int .i64 (dig Q 0), .int .i64 (dig Q 1), .int .i64 (dig Q 2), .int .i64 (dig Q 3), .int .i64 (dig Q 4), .int .i64 (dig Q 5), .int .i64 (dig Q 6), .int .i64 (dig Q 7)] = D Q from by apply D_of <;> simp [dig])
      clear hM ca co fo hz hk hbq
      go_wp2
      refine bodyPost_ret (v := D Q) (by rw [← hD.out]; simp [results, Try.results24, go_sem, cr]) rfl ⟨rfl, ?_⟩
      repeat (first | (with_reducible exact Below.refl _ _) | (with_reducible assumption) | (with_reducible refine below_drewN ?_ _) | (with_reducible refine Below.drew ?_) | (with_reducible refine Below.setCell ?_ (by simp; try omega) _) | (with_reducible refine Below.alloc ?_ (by simp; try omega) _))
    · obtain ⟨m, rfl⟩ : ∃ m, k = m + 1 := ⟨k - 1, by omega⟩
      obtain rfl : z = (m : Int) := by omega
      have hm16 : m / 16 < 8 := by omega
      have e1 : (m : Int) / 16 = ((m / 16 : Nat) : Int) := by omega
      obtain ⟨q, hq⟩ : ∃ q, q = m / 16 := ⟨_, rfl⟩
      rw [← hq] at hm16 e1
      have hq2 := Lib.hid hq
      clear hq
      have kM := hM.out.drew
      have kH := Lib.hid kM
      obtain ⟨bl, hsz, ⟨x0, x1, x2, x3, x4, x5, x6, x7⟩, cr, fr, co, fo⟩ := kM
      have o1 := co q hm16
      have f1 := fo q
      have pb := part_bd Q (m + 1) q
      have bb := bit_bd Q m
      have hb1 := hbq.out m
      have c38 := fun w => bit_c T ((m : Int) + s) (if 127 < m + s then 127 else m + s) (by omega) (by omega) (by rw [show ((m : Int) + (s : Int)).toNat = m + s from by omega]) w
      rw [hb1] at c38
      have e2 : (m : Int).tdiv 16 = (q : Int) := by rw [Int.tdiv_eq_ediv_of_nonneg (by omega)]; exact e1
      have e3 : IntKind.i64.wrap (q : Int) = q := by rw [IntKind.wrap_i64]; omega
      have e4 : (q : Int) < 8 := by omega
      have w1 : IntKind.i64.wrap ((m : Int) + s) = m + s := by rw [IntKind.wrap_i64]; omega
      have w2' : IntKind.i64.wrap (part Q (m + 1) q * 2) = part Q (m + 1) q * 2 := by rw [IntKind.wrap_i64]; omega
      have w3' : IntKind.i64.wrap (part Q (m + 1) q * 2 + bit Q m) = part Q (m + 1) q * 2 + bit Q m := by rw [IntKind.wrap_i64]; omega
      clear hbq hb1 cr fr co fo hz hM
      go_wp2_with fail
      go_region_with (go_at_call 38; refine (c38 _).mono ?_; rintro e w2 ⟨rfl, hb2⟩; have kM2 := kH.out.step hb2; have o1 := kM2.co q hm16; have f1 := kM2.fo q)
      all_goals
        have P := part_step Q m
        rw [← hq2.out] at P
        have kE := kM2.put q (part Q (m + 1) q * 2 + bit Q m) hm16
        rw [P] at kE
        have kF := Lib.hid kE
        clear P kE kM2 o1 f1 x0 x1 x2 x3 x4 x5 x6 x7 kH
        go_wp2
        exact ⟨⟨m, (m : Int) - 1, by omega, by omega, rfl, kF.out⟩, by simp [intOf]⟩
end Go.Proofs.Ytmndafndopoelaa
