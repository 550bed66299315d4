import Derived.Test.YtmndafndopoelaaAcc2
import Derived.Test.YtmndafndopoelaaBig
namespace Go.Proofs.Ytmndafndopoelaa
open Go.RowKit

theorem blkA {W w' : World} {g : Nat} {cs : Array Value} {t : TypeId} (hb : Below W.heap.size W w') (h : W.heap[g]? = some (.cells cs t (0, 0))) :
    (∀ i, w'.cell? ⟨g, i, none⟩ = cs[i]?) ∧ (∀ i, w'.frozen? ⟨g, i, none⟩ = false) ∧ g < w'.heap.size := by
  have hg : g < W.heap.size := by
    rcases Nat.lt_or_ge g W.heap.size with hl | hl
    · exact hl
    · rw [Array.getElem?_eq_none hl] at h; cases h
  have h' := (hb.block g hg).trans h
  refine ⟨fun i => ?_, fun i => ?_, Nat.lt_of_lt_of_le hg hb.size⟩ <;> simp [World.cell?, World.frozen?, h']

set_option maxHeartbeats 1000000 in
theorem put_any {hi lo X : Int} (r : Rep hi lo X) (w : World) :
    Calls Try.prog 33 #[.int .i64 hi, .int .u64 lo] w fun e w' => e = .returned (D X) ∧ Below w.heap.size w w' := by
  obtain ⟨u, hu⟩ : ∃ u, IntKind.u64.wrap hi = u := ⟨_, rfl⟩
  have hu' := hu
  rw [IntKind.wrap_u64] at hu'
  have H := Lib.hid (put_digits r hu'.symm)
  have h1 : 0 ≤ u := by omega
  have h2 : u ≤ 18446744073709551615 := by omega
  have h3 := r.llo
  have h4 := r.lhi
  clear hu'
  go_enter Try.func33, Try.ntmps33
  go_wp2
  refine wp_loop_rounds 5 ?_
  iterate 5 (rw [rounds_succ]; go_wp2)
  refine bodyPost_ret (v := D X) (by rw [← H.out]; simp [results, Try.results33, go_sem]) rfl ⟨rfl, ?_⟩
  repeat (first | (with_reducible exact Below.refl _ _) | (with_reducible assumption) | (with_reducible refine below_drewN ?_ _) | (with_reducible refine Below.drew ?_) | (with_reducible refine Below.setCell ?_ (by (try simp); (try omega)) _) | (with_reducible refine Below.alloc ?_ (by (try simp); (try omega)) _))

set_option maxHeartbeats 1000000 in
theorem big_any {hi lo X : Int} (r : Rep hi lo X) (w : World) :
    Calls Try.prog 10 #[.agg #[.int .i64 hi, .int .u64 lo]] w fun e w' => e = .returned (D X) ∧ Below w.heap.size w w' := by
  go_enter Try.func10, Try.ntmps10
  go_wp2_with fail
  refine (put_any r _).mono ?_
  rintro e w1 ⟨rfl, hb⟩
  obtain ⟨c0, f0, hz⟩ := blkA (g := w.heap.size + 1) (t := 27) (cs := #[.int .i64 0, .int .i64 0, .int .i64 0, .int .i64 0, .int .i64 0, .int .i64 0, .int .i64 0, .int .i64 0]) hb (by repeat (first | (with_reducible refine heap_last _ _ ?_; simp; done) | refine heap_keep ?_))
  have hb' : Below w.heap.size w w1 := Below.trans (by repeat (first | (with_reducible exact Below.refl _ _) | (with_reducible assumption) | (with_reducible refine below_drewN ?_ _) | (with_reducible refine Below.drew ?_) | (with_reducible refine Below.setCell ?_ (by (try simp); (try omega)) _) | (with_reducible refine Below.alloc ?_ (by (try simp); (try omega)) _))) (hb.mono (by simp; omega))
  clear hb
  unfold D
  go_wp2
  refine bodyPost_ret (v := D X) (by unfold D; simp [results, Try.results10, go_sem, c0]) rfl ⟨rfl, ?_⟩
  repeat (first | (with_reducible exact Below.refl _ _) | (with_reducible assumption) | (with_reducible refine below_drewN ?_ _) | (with_reducible refine Below.drew ?_) | (with_reducible refine Below.setCell ?_ (by (try simp); (try omega)) _) | (with_reducible refine Below.alloc ?_ (by (try simp); (try omega)) _))

theorem D_bounds (T : Int) : (0 ≤ T % 65536 ∧ T % 65536 ≤ 65535) ∧ (0 ≤ T / 65536 % 65536 ∧ T / 65536 % 65536 ≤ 65535) ∧ (0 ≤ T / 4294967296 % 65536 ∧ T / 4294967296 % 65536 ≤ 65535) ∧ (0 ≤ T / 281474976710656 % 65536 ∧ T / 281474976710656 % 65536 ≤ 65535) ∧
    (0 ≤ T / 18446744073709551616 % 65536 ∧ T / 18446744073709551616 % 65536 ≤ 65535) ∧ (0 ≤ T / 1208925819614629174706176 % 65536 ∧ T / 1208925819614629174706176 % 65536 ≤ 65535) ∧ (0 ≤ T / 79228162514264337593543950336 % 65536 ∧ T / 79228162514264337593543950336 % 65536 ≤ 65535) ∧
    (0 ≤ T / 5192296858534827628530496329220096 % 65536 ∧ T / 5192296858534827628530496329220096 % 65536 ≤ 65535) := by omega

theorem D_one : D 1 = .agg #[.int .i64 1, .int .i64 0, .int .i64 0, .int .i64 0, .int .i64 0, .int .i64 0, .int .i64 0, .int .i64 0] := by
  symm; apply D_of <;> omega
theorem D_compl (T : Int) : D (-T - 1) = .agg #[.int .i64 (65535 - T % 65536), .int .i64 (65535 - T / 65536 % 65536), .int .i64 (65535 - T / 4294967296 % 65536), .int .i64 (65535 - T / 281474976710656 % 65536),
  .int .i64 (65535 - T / 18446744073709551616 % 65536), .int .i64 (65535 - T / 1208925819614629174706176 % 65536), .int .i64 (65535 - T / 79228162514264337593543950336 % 65536), .int .i64 (65535 - T / 5192296858534827628530496329220096 % 65536)] := by
  symm; apply D_of <;> omega

theorem add_compl (a0 a1 a2 a3 a4 a5 a6 a7 T : Int) (w : World) (h : D T = .agg #[.int .i64 a0, .int .i64 a1, .int .i64 a2, .int .i64 a3, .int .i64 a4, .int .i64 a5, .int .i64 a6, .int .i64 a7]) :
    Calls Try.prog 15 #[.agg #[.int .i64 (65535 - a0), .int .i64 (65535 - a1), .int .i64 (65535 - a2), .int .i64 (65535 - a3), .int .i64 (65535 - a4), .int .i64 (65535 - a5), .int .i64 (65535 - a6), .int .i64 (65535 - a7)],
      .agg #[.int .i64 1, .int .i64 0, .int .i64 0, .int .i64 0, .int .i64 0, .int .i64 0, .int .i64 0, .int .i64 0]] w fun e w' => e = .returned (D (-T)) ∧ Below w.heap.size w w' := by
  have c := add_any (-T - 1) 1 w
  unfold D at h
  simp at h
  obtain ⟨rfl, rfl, rfl, rfl, rfl, rfl, rfl, rfl⟩ := h
  rw [D_compl, D_one, show -T - 1 + 1 = -T from by omega] at c
  exact c

set_option maxHeartbeats 1000000 in
theorem bigneg_core (a0 a1 a2 a3 a4 a5 a6 a7 T : Int) (w : World) (h : Hid (D T = .agg #[.int .i64 a0, .int .i64 a1, .int .i64 a2, .int .i64 a3, .int .i64 a4, .int .i64 a5, .int .i64 a6, .int .i64 a7]))
    (ha0 : 0 ≤ a0 ∧ a0 ≤ 65535) (ha1 : 0 ≤ a1 ∧ a1 ≤ 65535) (ha2 : 0 ≤ a2 ∧ a2 ≤ 65535) (ha3 : 0 ≤ a3 ∧ a3 ≤ 65535)
    (ha4 : 0 ≤ a4 ∧ a4 ≤ 65535) (ha5 : 0 ≤ a5 ∧ a5 ≤ 65535) (ha6 : 0 ≤ a6 ∧ a6 ≤ 65535) (ha7 : 0 ≤ a7 ∧ a7 ≤ 65535) :
    Calls Try.prog 19 #[.agg #[.int .i64 a0, .int .i64 a1, .int .i64 a2, .int .i64 a3, .int .i64 a4, .int .i64 a5, .int .i64 a6, .int .i64 a7]] w fun e w' => e = .returned (D (-T)) ∧ Below w.heap.size w w' := by
  go_enter Try.func19, Try.ntmps19
  go_wp2
  refine wp_loop_rounds 9 ?_
  iterate 9 (rw [rounds_succ]; go_wp2_with fail)
  refine (add_compl a0 a1 a2 a3 a4 a5 a6 a7 T _ h.out).mono ?_
  rintro e w1 ⟨rfl, hb⟩
  obtain ⟨c0, f0, hz⟩ := blkA (g := w.heap.size + 1) (t := 27) (cs := #[.int .i64 0, .int .i64 0, .int .i64 0, .int .i64 0, .int .i64 0, .int .i64 0, .int .i64 0, .int .i64 0]) hb (by repeat (first | (with_reducible refine heap_last _ _ ?_; simp; done) | refine heap_keep ?_))
  have hb' : Below w.heap.size w w1 := Below.trans (by repeat (first | (with_reducible exact Below.refl _ _) | (with_reducible assumption) | (with_reducible refine below_drewN ?_ _) | (with_reducible refine Below.drew ?_) | (with_reducible refine Below.setCell ?_ (by (try simp); (try omega)) _) | (with_reducible refine Below.alloc ?_ (by (try simp); (try omega)) _))) (hb.mono (by simp; try omega))
  clear hb
  unfold D
  go_wp2
  refine bodyPost_ret (v := D (-T)) (by unfold D; simp [results, Try.results19, go_sem, c0]) rfl ⟨rfl, ?_⟩
  repeat (first | (with_reducible exact Below.refl _ _) | (with_reducible assumption) | (with_reducible refine below_drewN ?_ _) | (with_reducible refine Below.drew ?_) | (with_reducible refine Below.setCell ?_ (by (try simp); (try omega)) _) | (with_reducible refine Below.alloc ?_ (by (try simp); (try omega)) _))

theorem bigneg_any (T : Int) (w : World) : Calls Try.prog 19 #[D T] w fun e w' => e = .returned (D (-T)) ∧ Below w.heap.size w w' := by
  obtain ⟨b0, b1, b2, b3, b4, b5, b6, b7⟩ := D_bounds T
  exact bigneg_core _ _ _ _ _ _ _ _ T w rfl b0 b1 b2 b3 b4 b5 b6 b7

theorem rep_small {x : Int} (h1 : 0 ≤ x) (h2 : x ≤ 18446744073709551615) : Rep 0 x x := by constructor <;> omega

set_option maxHeartbeats 1000000 in
theorem number_pos {x : Int} (h1 : 0 ≤ x) (h2 : x ≤ 9223372036854775807) (w : World) :
    Calls Try.prog 13 #[.int .i64 x] w fun e w' => e = .returned (D x) ∧ Below w.heap.size w w' := by
  have hw : IntKind.u64.wrap x = x := by rw [IntKind.wrap_u64]; omega
  go_enter Try.func13, Try.ntmps13
  go_wp2_with fail
  refine (put_any (rep_small h1 (by omega)) _).mono ?_
  rintro e w1 ⟨rfl, hb⟩
  obtain ⟨c0, f0, hz⟩ := blkA (g := w.heap.size) (t := 27) (cs := #[.int .i64 0, .int .i64 0, .int .i64 0, .int .i64 0, .int .i64 0, .int .i64 0, .int .i64 0, .int .i64 0]) hb (by repeat (first | (with_reducible refine heap_last _ _ ?_; simp; done) | refine heap_keep ?_))
  have hb' : Below w.heap.size w w1 := Below.trans (by repeat (first | (with_reducible exact Below.refl _ _) | (with_reducible assumption) | (with_reducible refine below_drewN ?_ _) | (with_reducible refine Below.drew ?_) | (with_reducible refine Below.setCell ?_ (by (try simp); (try omega)) _) | (with_reducible refine Below.alloc ?_ (by (try simp); (try omega)) _))) (hb.mono (by simp; try omega))
  clear hb
  unfold D
  go_wp2
  refine bodyPost_ret (v := D (x)) (by unfold D; simp [results, Try.results13, go_sem, c0]) rfl ⟨rfl, ?_⟩
  repeat (first | (with_reducible exact Below.refl _ _) | (with_reducible assumption) | (with_reducible refine below_drewN ?_ _) | (with_reducible refine Below.drew ?_) | (with_reducible refine Below.setCell ?_ (by (try simp); (try omega)) _) | (with_reducible refine Below.alloc ?_ (by (try simp); (try omega)) _))

set_option maxHeartbeats 1000000 in
theorem number_neg {x : Int} (h1 : -9223372036854775808 ≤ x) (h2 : x < 0) (w : World) :
    Calls Try.prog 13 #[.int .i64 x] w fun e w' => e = .returned (D x) ∧ Below w.heap.size w w' := by
  obtain ⟨y, hy⟩ : ∃ y, wrap64 (-(x + 1)) = y := ⟨_, rfl⟩
  go_enter Try.func13, Try.ntmps13
  go_wp2_with fail
  refine (put_any (X := -x) (show Rep 0 (-(x + 1) + 1) (-x) from by constructor <;> omega) _).mono ?_
  rintro e w1 ⟨rfl, hb⟩
  obtain ⟨c0, f0, hz⟩ := blkA (g := w.heap.size) (t := 27) (cs := #[.int .i64 0, .int .i64 0, .int .i64 0, .int .i64 0, .int .i64 0, .int .i64 0, .int .i64 0, .int .i64 0]) hb (by repeat (first | (with_reducible refine heap_last _ _ ?_; simp; done) | refine heap_keep ?_))
  have hb' : Below w.heap.size w w1 := Below.trans (by repeat (first | (with_reducible exact Below.refl _ _) | (with_reducible assumption) | (with_reducible refine below_drewN ?_ _) | (with_reducible refine Below.drew ?_) | (with_reducible refine Below.setCell ?_ (by (try simp); (try omega)) _) | (with_reducible refine Below.alloc ?_ (by (try simp); (try omega)) _))) (hb.mono (by simp; try omega))
  clear hb
  go_wp2_with fail
  refine (bigneg_any (-x) _).mono ?_
  rintro e w2 ⟨rfl, hb2⟩
  have k0 : ∀ i, w2.cell? ⟨w.heap.size, i, none⟩ = (#[.int .i64 0, .int .i64 0, .int .i64 0, .int .i64 0, .int .i64 0, .int .i64 0, .int .i64 0, .int .i64 0] : Array Value)[i]? := fun i => (hb2.cell (p := ⟨w.heap.size, i, none⟩) hz).trans (c0 i)
  have g0 : ∀ i, w2.frozen? ⟨w.heap.size, i, none⟩ = false := fun i => (hb2.frozen (p := ⟨w.heap.size, i, none⟩) hz).trans (f0 i)
  have hb3 : Below w.heap.size w w2 := hb'.trans (hb2.mono (by omega))
  clear hb2 hb' c0 f0
  rw [Int.neg_neg]
  unfold D
  go_wp2
  refine bodyPost_ret (v := D x) (by unfold D; simp [results, Try.results13, go_sem, k0]) rfl ⟨rfl, ?_⟩
  repeat (first | (with_reducible exact Below.refl _ _) | (with_reducible assumption) | (with_reducible refine below_drewN ?_ _) | (with_reducible refine Below.drew ?_) | (with_reducible refine Below.setCell ?_ (by (try simp); (try omega)) _) | (with_reducible refine Below.alloc ?_ (by (try simp); (try omega)) _))

theorem number_any {x : Int} (h1 : -9223372036854775808 ≤ x) (h2 : x ≤ 9223372036854775807) (w : World) :
    Calls Try.prog 13 #[.int .i64 x] w fun e w' => e = .returned (D x) ∧ Below w.heap.size w w' := by
  rcases Int.lt_or_le x 0 with h | h
  · exact number_neg h1 h w
  · exact number_pos h h2 w
end Go.Proofs.Ytmndafndopoelaa
