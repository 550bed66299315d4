/- Contract: the reference's Round of digits. -/
import Derived.Test.YtmndafndopoelaaShift3
namespace Go.Proofs.Ytmndafndopoelaa
open Go.RowKit

structure RMem (w : World) (T B : Int) (W : World) : Prop where
  ca : ∀ i, W.cell? ⟨w.heap.size, i, none⟩ = (#[.int .i64 (T % 65536), .int .i64 (T / 65536 % 65536), .int .i64 (T / 4294967296 % 65536), .int .i64 (T / 281474976710656 % 65536), .int .i64 (T / 18446744073709551616 % 65536), .int .i64 (T / 1208925819614629174706176 % 65536), .int .i64 (T / 79228162514264337593543950336 % 65536), .int .i64 (T / 5192296858534827628530496329220096 % 65536)] : Array Value)[i]?
  cr : ∀ i, W.cell? ⟨w.heap.size + 1, i, none⟩ = (#[.int .i64 0, .int .i64 0, .int .i64 0, .int .i64 0, .int .i64 0, .int .i64 0, .int .i64 0, .int .i64 0] : Array Value)[i]?
  fr : ∀ i, W.frozen? ⟨w.heap.size + 1, i, none⟩ = false
  cb : ∀ i, W.cell? ⟨w.heap.size + 1 + 1, i, none⟩ = (#[.int .i64 B, .int .i64 0, .int .i64 0, .int .i64 0, .int .i64 0, .int .i64 0, .int .i64 0, .int .i64 0] : Array Value)[i]?
  fb : ∀ i, W.frozen? ⟨w.heap.size + 1 + 1, i, none⟩ = false
  below : Below w.heap.size w W
  z : w.heap.size + 1 + 1 < W.heap.size
theorem RMem.step {w W W' : World} {T B : Int} (h : RMem w T B W) (hb : Below W.heap.size W W') : RMem w T B W' := by
  obtain ⟨ca, cr, fr, cb, fb, bl, z⟩ := h
  exact ⟨fun i => (hb.cell (p := ⟨w.heap.size, i, none⟩) (by show w.heap.size < _; omega)).trans (ca i), fun i => (hb.cell (p := ⟨w.heap.size + 1, i, none⟩) (by show w.heap.size + 1 < _; omega)).trans (cr i), fun i => (hb.frozen (p := ⟨w.heap.size + 1, i, none⟩) (by show w.heap.size + 1 < _; omega)).trans (fr i),
    fun i => (hb.cell (p := ⟨w.heap.size + 1 + 1, i, none⟩) z).trans (cb i), fun i => (hb.frozen (p := ⟨w.heap.size + 1 + 1, i, none⟩) z).trans (fb i), bl.trans (hb.mono bl.size), Nat.lt_of_lt_of_le z hb.size⟩
theorem RMem.drew {w W : World} {T B : Int} (h : RMem w T B W) : RMem w T B W.drew := ⟨h.ca, h.cr, h.fr, h.cb, h.fb, h.below.drew, h.z⟩
theorem RMem.start (w : World) (T : Int) : RMem w T 0 (((w.alloc (.cells (#[.int .i64 (T % 65536), .int .i64 (T / 65536 % 65536), .int .i64 (T / 4294967296 % 65536), .int .i64 (T / 281474976710656 % 65536), .int .i64 (T / 18446744073709551616 % 65536), .int .i64 (T / 1208925819614629174706176 % 65536), .int .i64 (T / 79228162514264337593543950336 % 65536), .int .i64 (T / 5192296858534827628530496329220096 % 65536)]) 27)).alloc (.cells #[.int .i64 0, .int .i64 0, .int .i64 0, .int .i64 0, .int .i64 0, .int .i64 0, .int .i64 0, .int .i64 0] 27)).alloc (.cells #[.int .i64 0, .int .i64 0, .int .i64 0, .int .i64 0, .int .i64 0, .int .i64 0, .int .i64 0, .int .i64 0] 27)) := by
  refine ⟨fun i => ?_, fun i => ?_, fun i => ?_, fun i => ?_, fun i => ?_, ?_, by simp⟩
  · exact (blkA (Below.refl _ _) (by repeat (first | (with_reducible refine heap_last _ _ ?_; simp; done) | refine heap_keep ?_))).1 i
  · exact (blkA (Below.refl _ _) (by repeat (first | (with_reducible refine heap_last _ _ ?_; simp; done) | refine heap_keep ?_))).1 i
  · exact (blkA (Below.refl _ _) (by repeat (first | (with_reducible refine heap_last _ _ ?_; simp; done) | refine heap_keep ?_))).2.1 i
  · exact (blkA (Below.refl _ _) (by repeat (first | (with_reducible refine heap_last _ _ ?_; simp; done) | refine heap_keep ?_))).1 i
  · exact (blkA (Below.refl _ _) (by repeat (first | (with_reducible refine heap_last _ _ ?_; simp; done) | refine heap_keep ?_))).2.1 i
  · repeat (first | (with_reducible exact Below.refl _ _) | (with_reducible assumption) | (with_reducible refine below_drewN ?_ _) | (with_reducible refine Below.drew ?_) | (with_reducible refine Below.setCell ?_ (by simp; try omega) _) | (with_reducible refine Below.alloc ?_ (by simp; try omega) _))
theorem RMem.put {w W : World} {T : Int} (B : Int) (h : RMem w T 0 W) : RMem w T B (W.setCell ⟨w.heap.size + 1 + 1, 0, none⟩ (.int .i64 B)) := by
  obtain ⟨ca, cr, fr, cb, fb, bl, z⟩ := h
  refine ⟨fun i => ?_, fun i => ?_, fun i => ?_, fun i => ?_, fun i => ?_, bl.setCell (by show w.heap.size ≤ w.heap.size + 1 + 1; omega) _, by simpa [World.setCell] using z⟩
  · rw [cell_far (by simp; try omega)]; exact ca i
  · rw [cell_far (by simp)]; exact cr i
  · rw [World.frozen?_setCell]; exact fr i
  · rcases Nat.eq_zero_or_pos i with e | e
    · subst e
      rw [cell_same (cb 0)]
      rfl
    · rw [cell_far (by simp; try omega), cb i]
      obtain ⟨m, rfl⟩ : ∃ m, i = m + 1 := ⟨i - 1, by omega⟩
      simp
  · rw [World.frozen?_setCell]; exact fb i

theorem D_bit {B : Int} (hb : 0 ≤ B ∧ B ≤ 1) : D B = .agg #[.int .i64 B, .int .i64 0, .int .i64 0, .int .i64 0, .int .i64 0, .int .i64 0, .int .i64 0, .int .i64 0] := by
  symm; apply D_of <;> omega

set_option maxHeartbeats 4000000 in
theorem bround_any (T Q : Int) (k : Nat) (hT : -170141183460469231731687303715884105728 ≤ T ∧ T < 170141183460469231731687303715884105728) (hk : k ≤ 127) (hQ : Q = rnd T k) (w : World) :
    Calls Try.prog 26 #[D T, .int .i64 k] w fun e w' => e = .returned (D Q) ∧ Below w.heap.size w w' := by
  have c24 := fun w => shr_core T (T / 2 ^ k) k hT hk rfl w
  rw [D_eq T]
  rw [D_eq T] at c24
  by_cases hz : k = 0
  · subst hz
    have hq := Lib.hid (show Value.agg #[.int .i64 (T % 65536), .int .i64 (T / 65536 % 65536), .int .i64 (T / 4294967296 % 65536), .int .i64 (T / 281474976710656 % 65536), .int .i64 (T / 18446744073709551616 % 65536), .int .i64 (T / 1208925819614629174706176 % 65536), .int .i64 (T / 79228162514264337593543950336 % 65536), .int .i64 (T / 5192296858534827628530496329220096 % 65536)] = D Q from by rw [hQ]; rfl)
    clear hQ c24 hT
    go_enter Try.func26, Try.ntmps26
    go_wp2
    refine bodyPost_ret (v := D Q) (by rw [← hq.out]; simp [results, Try.results26, go_sem]) rfl ⟨rfl, ?_⟩
    repeat (first | (with_reducible exact Below.refl _ _) | (with_reducible assumption) | (with_reducible refine below_drewN ?_ _) | (with_reducible refine Below.drew ?_) | (with_reducible refine Below.setCell ?_ (by simp; try omega) _) | (with_reducible refine Below.alloc ?_ (by simp; try omega) _))
  · have hq := Lib.hid (show T / 2 ^ k + bit T (k - 1) = Q from by rw [hQ]; unfold rnd bit; rw [if_neg hz])
    have hzb : ((k : Int) == 0) = false := by simp; omega
    have hbb := bit_bd T (k - 1)
    have c15 := fun w => add_any (T / 2 ^ k) (bit T (k - 1)) w
    rw [D_bit hbb, hq.out] at c15
    have c38 := fun w => bit_c T ((k : Int) - 1) (k - 1) (by omega) (by omega) (by rw [show ((k : Int) - 1).toNat = k - 1 from by omega, if_neg (by omega)]) w
    have kS := RMem.start w T
    have hk1 : 1 ≤ (k : Int) := by omega
    have hk2 : (k : Int) ≤ 127 := by omega
    generalize bit T (k - 1) = B at *
    clear hQ hT hz hq
    go_enter Try.func26, Try.ntmps26
    go_wp2_with fail
    refine (c38 _).mono ?_
    rintro e w1 ⟨rfl, hb1⟩
    have kT := kS.step hb1
    have kV := kT
    obtain ⟨ca, cr, fr, cb, fb, -, -⟩ := kV
    have kU := (kT.put B).drew
    clear kS hb1 kT
    go_wp2_with fail
    clear ca cr fr cb fb
    have kV := kU
    obtain ⟨ca, cr, fr, cb, fb, -, -⟩ := kV
    go_region_with (first
      | (go_at_call 24; refine (c24 _).mono ?_; rintro e w2 ⟨rfl, hb2⟩; have kT := RMem.step (by assumption) hb2; clear kU; have kU := kT; obtain ⟨ca, cr, fr, cb, fb, -, -⟩ := kT)
      | (go_at_call 15; refine (c15 _).mono ?_; rintro e w2 ⟨rfl, hb2⟩; have kT := RMem.step (by assumption) hb2; clear kU; have kU := kT; obtain ⟨ca, cr, fr, cb, fb, -, -⟩ := kT; simp only [D_eq Q]))
    all_goals
      have bl := kU.below
      clear kU c24 c15 c38 ca cb fb
      go_wp2
      refine bodyPost_ret (v := D Q) (by unfold D; simp [results, Try.results26, go_sem, cr]) rfl ⟨rfl, ?_⟩
      repeat (first | (with_reducible exact Below.refl _ _) | (with_reducible assumption) | (with_reducible refine below_drewN ?_ _) | (with_reducible refine Below.drew ?_) | (with_reducible refine Below.setCell ?_ (by simp; try omega) _) | (with_reducible refine Below.alloc ?_ (by simp; try omega) _))
end Go.Proofs.Ytmndafndopoelaa
