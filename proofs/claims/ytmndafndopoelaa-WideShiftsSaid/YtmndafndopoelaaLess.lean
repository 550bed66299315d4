/- Contracts: the reference's Minus, Less and Held of digits. -/
import Derived.Test.YtmndafndopoelaaTells2
namespace Go.Proofs.Ytmndafndopoelaa
open Go.RowKit

def negB (S : Int) : Bool := decide (S < 0)
def lessB (S T : Int) : Bool := decide (S < T)

theorem minus_core (S : Int) (h : -170141183460469231731687303715884105728 ≤ S ∧ S < 170141183460469231731687303715884105728) : decide (32768 ≤ S / 5192296858534827628530496329220096 % 65536) = negB S := by
  unfold negB
  by_cases h0 : S < 0
  · rw [decide_eq_true h0]; simp; omega
  · rw [decide_eq_false h0]; simp; omega

set_option maxHeartbeats 1000000 in
theorem bminus_any (S : Int) (h : -170141183460469231731687303715884105728 ≤ S ∧ S < 170141183460469231731687303715884105728) (w : World) :
    Calls Try.prog 39 #[D S] w fun e w' => e = .returned (.bool (negB S)) ∧ Below w.heap.size w w' := by
  have hm := Lib.hid (minus_core S h)
  rw [D_eq S]
  clear h
  go_enter Try.func39, Try.ntmps39
  go_wp2
  go_ret
  refine ⟨congrArg (fun b => Ending.returned (Value.bool b)) hm.out, ?_⟩
  repeat (first | (with_reducible exact Below.refl _ _) | (with_reducible assumption) | (with_reducible refine below_drewN ?_ _) | (with_reducible refine Below.drew ?_) | (with_reducible refine Below.setCell ?_ (by simp; try omega) _) | (with_reducible refine Below.alloc ?_ (by simp; try omega) _))

/-- Where the upper digits are the same, and the next ones differ, these tell which is less. -/
theorem less_at {S T : Int} {k : Nat} (hq : S / 65536 ^ (k + 1) = T / 65536 ^ (k + 1)) (hne : dig S k ≠ dig T k) : decide (dig S k < dig T k) = lessB S T := by
  have hp : (0 : Int) < 65536 ^ k := Int.pow_pos (by omega)
  have e : ∀ X : Int, X / 65536 ^ (k + 1) = X / 65536 ^ k / 65536 := fun X => by rw [Int.pow_succ, Int.ediv_ediv_of_nonneg (Int.le_of_lt hp)]
  rw [e, e] at hq
  unfold dig at hne ⊢
  have hS := Int.mul_ediv_add_emod S (65536 ^ k)
  have hT := Int.mul_ediv_add_emod T (65536 ^ k)
  have hS0 := Int.emod_nonneg S (Int.ne_of_gt hp)
  have hT0 := Int.emod_nonneg T (Int.ne_of_gt hp)
  have hS1 := Int.emod_lt_of_pos S hp
  have hT1 := Int.emod_lt_of_pos T hp
  have key : (S / 65536 ^ k < T / 65536 ^ k) ↔ S < T := by
    generalize (65536 : Int) ^ k = p at *
    generalize S / p = a at *
    generalize T / p = b at *
    generalize S % p = c at *
    generalize T % p = d at *
    have hne' : a ≠ b := fun h => hne (by rw [h])
    constructor
    · intro hab
      have : p * (a + 1) ≤ p * b := Int.mul_le_mul_of_nonneg_left (by omega) (by omega)
      rw [Int.mul_add, Int.mul_one] at this
      omega
    · intro hst
      rcases Int.lt_or_le a b with h | h
      · exact h
      · have : p * (b + 1) ≤ p * a := Int.mul_le_mul_of_nonneg_left (by omega) (by omega)
        rw [Int.mul_add, Int.mul_one] at this
        omega
  unfold lessB
  rw [Bool.eq_iff_iff, decide_eq_true_iff, decide_eq_true_iff, ← key]
  generalize S / 65536 ^ k = a at *
  generalize T / 65536 ^ k = b at *
  omega

theorem less_same {S T : Int} {k : Nat} (hq : S / 65536 ^ (k + 1) = T / 65536 ^ (k + 1)) (he : dig S k = dig T k) : S / 65536 ^ k = T / 65536 ^ k := by
  have hp : (0 : Int) < 65536 ^ k := Int.pow_pos (by omega)
  have e : ∀ X : Int, X / 65536 ^ (k + 1) = X / 65536 ^ k / 65536 := fun X => by rw [Int.pow_succ, Int.ediv_ediv_of_nonneg (Int.le_of_lt hp)]
  rw [e, e] at hq
  unfold dig at he
  omega

theorem sign_same {S T : Int} (hS : -170141183460469231731687303715884105728 ≤ S ∧ S < 170141183460469231731687303715884105728) (hT : -170141183460469231731687303715884105728 ≤ T ∧ T < 170141183460469231731687303715884105728) (h : negB S = negB T) : S / 65536 ^ 8 = T / 65536 ^ 8 := by
  have e8 : (65536 : Int) ^ 8 = 340282366920938463463374607431768211456 := by decide
  rw [e8]
  unfold negB at h
  simp at h
  omega

theorem less_sign {S T : Int} (h : negB S ≠ negB T) : lessB S T = negB S := by
  unfold negB lessB at *
  rw [Bool.eq_iff_iff]
  simp at *
  omega

structure LessMem (w wr : World) (S T : Int) : Prop where
  below : Below w.heap.size w wr
  size : w.heap.size + 1 < wr.heap.size
  ca : ∀ i, i < 8 → wr.cell? ⟨w.heap.size, i, none⟩ = some (.int .i64 (dig S i))
  cb : ∀ i, i < 8 → wr.cell? ⟨w.heap.size + 1, i, none⟩ = some (.int .i64 (dig T i))

theorem LessMem.drewN {w wr : World} {S T : Int} (h : LessMem w wr S T) (n : Nat) : LessMem w (wr.drewN n) S T := ⟨below_drewN h.below n, h.size, h.ca, h.cb⟩
theorem LessMem.drew {w wr : World} {S T : Int} (h : LessMem w wr S T) : LessMem w wr.drew S T := ⟨h.below.drew, h.size, h.ca, h.cb⟩
theorem LessMem.step {w W W' : World} {S T : Int} (h : LessMem w W S T) (hb : Below W.heap.size W W') : LessMem w W' S T :=
  ⟨h.below.trans (hb.mono h.below.size), Nat.lt_of_lt_of_le h.size hb.size, fun i hi => (hb.cell (p := ⟨w.heap.size, i, none⟩) (Nat.lt_trans (Nat.lt_succ_self _) h.size)).trans (h.ca i hi), fun i hi => (hb.cell (p := ⟨w.heap.size + 1, i, none⟩) h.size).trans (h.cb i hi)⟩

theorem LessMem.start (w : World) (S T : Int) : LessMem w ((w.alloc (.cells (#[.int .i64 (S % 65536), .int .i64 (S / 65536 % 65536), .int .i64 (S / 4294967296 % 65536), .int .i64 (S / 281474976710656 % 65536),
  .int .i64 (S / 18446744073709551616 % 65536), .int .i64 (S / 1208925819614629174706176 % 65536), .int .i64 (S / 79228162514264337593543950336 % 65536), .int .i64 (S / 5192296858534827628530496329220096 % 65536)]) 27)).alloc (.cells (#[.int .i64 (T % 65536), .int .i64 (T / 65536 % 65536), .int .i64 (T / 4294967296 % 65536), .int .i64 (T / 281474976710656 % 65536),
  .int .i64 (T / 18446744073709551616 % 65536), .int .i64 (T / 1208925819614629174706176 % 65536), .int .i64 (T / 79228162514264337593543950336 % 65536), .int .i64 (T / 5192296858534827628530496329220096 % 65536)]) 27)) S T := by
  constructor
  · repeat (first | (with_reducible exact Below.refl _ _) | (with_reducible assumption) | (with_reducible refine below_drewN ?_ _) | (with_reducible refine Below.drew ?_) | (with_reducible refine Below.setCell ?_ (by simp; try omega) _) | (with_reducible refine Below.alloc ?_ (by simp; try omega) _))
  · simp
  · intro i hi
    refine ((blkA (Below.refl _ _) (by repeat (first | (with_reducible refine heap_last _ _ ?_; simp; done) | refine heap_keep ?_))).1 i).trans ?_
    rcases lt8 hi with rfl | rfl | rfl | rfl | rfl | rfl | rfl | rfl <;> simp [dig]
  · intro i hi
    refine ((blkA (Below.refl _ _) (by repeat (first | (with_reducible refine heap_last _ _ ?_; simp; done) | refine heap_keep ?_))).1 i).trans ?_
    rcases lt8 hi with rfl | rfl | rfl | rfl | rfl | rfl | rfl | rfl <;> simp [dig]

/-- The sixteen cells, one by one. -/
theorem LessMem.cells {w W : World} {S T : Int} (h : LessMem w W S T) : (W.cell? ⟨w.heap.size, 0, none⟩ = some (.int .i64 (S % 65536)) ∧ W.cell? ⟨w.heap.size, 1, none⟩ = some (.int .i64 (S / 65536 % 65536)) ∧ W.cell? ⟨w.heap.size, 2, none⟩ = some (.int .i64 (S / 4294967296 % 65536)) ∧ W.cell? ⟨w.heap.size, 3, none⟩ = some (.int .i64 (S / 281474976710656 % 65536)) ∧ W.cell? ⟨w.heap.size, 4, none⟩ = some (.int .i64 (S / 18446744073709551616 % 65536)) ∧ W.cell? ⟨w.heap.size, 5, none⟩ = some (.int .i64 (S / 1208925819614629174706176 % 65536)) ∧ W.cell? ⟨w.heap.size, 6, none⟩ = some (.int .i64 (S / 79228162514264337593543950336 % 65536)) ∧ W.cell? ⟨w.heap.size, 7, none⟩ = some (.int .i64 (S / 5192296858534827628530496329220096 % 65536)) ∧ W.cell? ⟨w.heap.size + 1, 0, none⟩ = some (.int .i64 (T % 65536)) ∧ W.cell? ⟨w.heap.size + 1, 1, none⟩ = some (.int .i64 (T / 65536 % 65536)) ∧ W.cell? ⟨w.heap.size + 1, 2, none⟩ = some (.int .i64 (T / 4294967296 % 65536)) ∧ W.cell? ⟨w.heap.size + 1, 3, none⟩ = some (.int .i64 (T / 281474976710656 % 65536)) ∧ W.cell? ⟨w.heap.size + 1, 4, none⟩ = some (.int .i64 (T / 18446744073709551616 % 65536)) ∧ W.cell? ⟨w.heap.size + 1, 5, none⟩ = some (.int .i64 (T / 1208925819614629174706176 % 65536)) ∧ W.cell? ⟨w.heap.size + 1, 6, none⟩ = some (.int .i64 (T / 79228162514264337593543950336 % 65536)) ∧ W.cell? ⟨w.heap.size + 1, 7, none⟩ = some (.int .i64 (T / 5192296858534827628530496329220096 % 65536))) ∧ LessMem w W S T := by
  have a := h.ca
  have b := h.cb
  refine ⟨⟨?_, ?_, ?_, ?_, ?_, ?_, ?_, ?_, ?_, ?_, ?_, ?_, ?_, ?_, ?_, ?_⟩, h⟩
  · simpa [dig] using a 0 (by omega)
  · simpa [dig] using a 1 (by omega)
  · simpa [dig] using a 2 (by omega)
  · simpa [dig] using a 3 (by omega)
  · simpa [dig] using a 4 (by omega)
  · simpa [dig] using a 5 (by omega)
  · simpa [dig] using a 6 (by omega)
  · simpa [dig] using a 7 (by omega)
  · simpa [dig] using b 0 (by omega)
  · simpa [dig] using b 1 (by omega)
  · simpa [dig] using b 2 (by omega)
  · simpa [dig] using b 3 (by omega)
  · simpa [dig] using b 4 (by omega)
  · simpa [dig] using b 5 (by omega)
  · simpa [dig] using b 6 (by omega)
  · simpa [dig] using b 7 (by omega)

theorem LessMem.held {w W : World} {S T : Int} (h : (W.cell? ⟨w.heap.size, 0, none⟩ = some (.int .i64 (S % 65536)) ∧ W.cell? ⟨w.heap.size, 1, none⟩ = some (.int .i64 (S / 65536 % 65536)) ∧ W.cell? ⟨w.heap.size, 2, none⟩ = some (.int .i64 (S / 4294967296 % 65536)) ∧ W.cell? ⟨w.heap.size, 3, none⟩ = some (.int .i64 (S / 281474976710656 % 65536)) ∧ W.cell? ⟨w.heap.size, 4, none⟩ = some (.int .i64 (S / 18446744073709551616 % 65536)) ∧ W.cell? ⟨w.heap.size, 5, none⟩ = some (.int .i64 (S / 1208925819614629174706176 % 65536)) ∧ W.cell? ⟨w.heap.size, 6, none⟩ = some (.int .i64 (S / 79228162514264337593543950336 % 65536)) ∧ W.cell? ⟨w.heap.size, 7, none⟩ = some (.int .i64 (S / 5192296858534827628530496329220096 % 65536)) ∧ W.cell? ⟨w.heap.size + 1, 0, none⟩ = some (.int .i64 (T % 65536)) ∧ W.cell? ⟨w.heap.size + 1, 1, none⟩ = some (.int .i64 (T / 65536 % 65536)) ∧ W.cell? ⟨w.heap.size + 1, 2, none⟩ = some (.int .i64 (T / 4294967296 % 65536)) ∧ W.cell? ⟨w.heap.size + 1, 3, none⟩ = some (.int .i64 (T / 281474976710656 % 65536)) ∧ W.cell? ⟨w.heap.size + 1, 4, none⟩ = some (.int .i64 (T / 18446744073709551616 % 65536)) ∧ W.cell? ⟨w.heap.size + 1, 5, none⟩ = some (.int .i64 (T / 1208925819614629174706176 % 65536)) ∧ W.cell? ⟨w.heap.size + 1, 6, none⟩ = some (.int .i64 (T / 79228162514264337593543950336 % 65536)) ∧ W.cell? ⟨w.heap.size + 1, 7, none⟩ = some (.int .i64 (T / 5192296858534827628530496329220096 % 65536))) ∧ LessMem w W S T) : LessMem w W S T := h.2

set_option maxHeartbeats 4000000 in
theorem less_any (S T : Int) (hS : -170141183460469231731687303715884105728 ≤ S ∧ S < 170141183460469231731687303715884105728) (hT : -170141183460469231731687303715884105728 ≤ T ∧ T < 170141183460469231731687303715884105728) (w : World) :
    Calls Try.prog 27 #[D S, D T] w fun e w' => e = .returned (.bool (lessB S T)) ∧ Below w.heap.size w w' := by
  have kS := LessMem.start w S T
  have cS := fun w => bminus_any S hS w
  have cT := fun w => bminus_any T hT w
  rw [D_eq S, D_eq T]
  rw [D_eq S] at cS
  rw [D_eq T] at cT
  by_cases hsg : negB S = negB T
  · have hq := Lib.hid (sign_same hS hT hsg)
    have hb2 : (negB S == negB T) = true := by simp [hsg]
    clear hsg hS hT
    go_enter Try.func27, Try.ntmps27
    go_wp2_with fail
    go_region_held3 (fun W => (W.cell? ⟨w.heap.size, 0, none⟩ = some (.int .i64 (S % 65536)) ∧ W.cell? ⟨w.heap.size, 1, none⟩ = some (.int .i64 (S / 65536 % 65536)) ∧ W.cell? ⟨w.heap.size, 2, none⟩ = some (.int .i64 (S / 4294967296 % 65536)) ∧ W.cell? ⟨w.heap.size, 3, none⟩ = some (.int .i64 (S / 281474976710656 % 65536)) ∧ W.cell? ⟨w.heap.size, 4, none⟩ = some (.int .i64 (S / 18446744073709551616 % 65536)) ∧ W.cell? ⟨w.heap.size, 5, none⟩ = some (.int .i64 (S / 1208925819614629174706176 % 65536)) ∧ W.cell? ⟨w.heap.size, 6, none⟩ = some (.int .i64 (S / 79228162514264337593543950336 % 65536)) ∧ W.cell? ⟨w.heap.size, 7, none⟩ = some (.int .i64 (S / 5192296858534827628530496329220096 % 65536)) ∧ W.cell? ⟨w.heap.size + 1, 0, none⟩ = some (.int .i64 (T % 65536)) ∧ W.cell? ⟨w.heap.size + 1, 1, none⟩ = some (.int .i64 (T / 65536 % 65536)) ∧ W.cell? ⟨w.heap.size + 1, 2, none⟩ = some (.int .i64 (T / 4294967296 % 65536)) ∧ W.cell? ⟨w.heap.size + 1, 3, none⟩ = some (.int .i64 (T / 281474976710656 % 65536)) ∧ W.cell? ⟨w.heap.size + 1, 4, none⟩ = some (.int .i64 (T / 18446744073709551616 % 65536)) ∧ W.cell? ⟨w.heap.size + 1, 5, none⟩ = some (.int .i64 (T / 1208925819614629174706176 % 65536)) ∧ W.cell? ⟨w.heap.size + 1, 6, none⟩ = some (.int .i64 (T / 79228162514264337593543950336 % 65536)) ∧ W.cell? ⟨w.heap.size + 1, 7, none⟩ = some (.int .i64 (T / 5192296858534827628530496329220096 % 65536))) ∧ LessMem w W S T)
      (first | exact (LessMem.drew kS).cells | (exact (LessMem.step (And.right (by assumption)) hb2).cells))
      (first
        | (go_at_call_of 39 S; refine (cS _).mono ?_; rintro e w2 ⟨rfl, hb2⟩)
        | (go_at_call_of 39 T; refine (cT _).mono ?_; rintro e w2 ⟨rfl, hb2⟩))
    have hM := LessMem.held (W := w2) (by assumption)
    have kH := Lib.hid hM
    clear kS cS cT hM
    go_wp2_with fail
    go_loopw [5] (fun i wr => ∃ (k : Nat) (z : Int), k ≤ 8 ∧ z + 1 = k ∧ i = .int .i64 z ∧ Hid (S / 65536 ^ k = T / 65536 ^ k) ∧ Hid (LessMem w wr S T)) (fun i _ => (intOf i + 1).toNat)
    case atStart => exact ⟨8, 7, by omega, by omega, rfl, hq.out, kH.out⟩
    case round =>
      obtain ⟨k, z, hk, hz, rfl, hqk, hMk⟩ := hrel
      clear hq kH
      rcases Nat.eq_zero_or_pos k with hk0 | hk0
      · obtain rfl : z = -1 := by omega
        subst hk0
        have hst := hqk.out
        rw [Int.pow_zero, Int.ediv_one, Int.ediv_one] at hst
        have hf : false = lessB S T := by unfold lessB; simp [hst]
        have hF := Lib.hid hf
        clear hf hst hqk hz hk
        go_wp2
        go_ret
        exact ⟨congrArg (fun b => Ending.returned (Value.bool b)) hF.out, hMk.out.below⟩
      · obtain ⟨m, rfl⟩ : ∃ m, k = m + 1 := ⟨k - 1, by omega⟩
        obtain rfl : z = (m : Int) := by omega
        have a := hMk.out.ca m (by omega)
        have b := hMk.out.cb m (by omega)
        have da := dig_bd S m
        have db := dig_bd T m
        by_cases he : dig S m = dig T m
        · have hq2 := Lib.hid (less_same hqk.out he)
          have he2 : (dig S m == dig T m) = true := by simp [he]
          clear he hqk hz
          go_wp2
          go_quiet (fail)
          go_wp2
          refine ⟨⟨m, (m : Int) - 1, by omega, by omega, rfl, hq2.out, (hMk.out.drewN _)⟩, by simp [intOf]⟩
        · have hq2 := Lib.hid (less_at hqk.out he)
          have he2 : (dig S m == dig T m) = false := by simp [he]
          clear he hqk hz
          go_wp2
          go_quiet (fail)
          go_wp2
          go_quiet (fail)
          go_wp2
          go_ret
          refine ⟨congrArg (fun b => Ending.returned (Value.bool b)) hq2.out, ?_⟩
          exact below_drewN (below_drewN hMk.out.below _) _
  · have hq := Lib.hid (less_sign hsg)
    have hb2 : (negB S == negB T) = false := by simp [hsg]
    clear hsg hS hT
    go_enter Try.func27, Try.ntmps27
    go_wp2_with fail
    go_region_held3 (fun W => (W.cell? ⟨w.heap.size, 0, none⟩ = some (.int .i64 (S % 65536)) ∧ W.cell? ⟨w.heap.size, 1, none⟩ = some (.int .i64 (S / 65536 % 65536)) ∧ W.cell? ⟨w.heap.size, 2, none⟩ = some (.int .i64 (S / 4294967296 % 65536)) ∧ W.cell? ⟨w.heap.size, 3, none⟩ = some (.int .i64 (S / 281474976710656 % 65536)) ∧ W.cell? ⟨w.heap.size, 4, none⟩ = some (.int .i64 (S / 18446744073709551616 % 65536)) ∧ W.cell? ⟨w.heap.size, 5, none⟩ = some (.int .i64 (S / 1208925819614629174706176 % 65536)) ∧ W.cell? ⟨w.heap.size, 6, none⟩ = some (.int .i64 (S / 79228162514264337593543950336 % 65536)) ∧ W.cell? ⟨w.heap.size, 7, none⟩ = some (.int .i64 (S / 5192296858534827628530496329220096 % 65536)) ∧ W.cell? ⟨w.heap.size + 1, 0, none⟩ = some (.int .i64 (T % 65536)) ∧ W.cell? ⟨w.heap.size + 1, 1, none⟩ = some (.int .i64 (T / 65536 % 65536)) ∧ W.cell? ⟨w.heap.size + 1, 2, none⟩ = some (.int .i64 (T / 4294967296 % 65536)) ∧ W.cell? ⟨w.heap.size + 1, 3, none⟩ = some (.int .i64 (T / 281474976710656 % 65536)) ∧ W.cell? ⟨w.heap.size + 1, 4, none⟩ = some (.int .i64 (T / 18446744073709551616 % 65536)) ∧ W.cell? ⟨w.heap.size + 1, 5, none⟩ = some (.int .i64 (T / 1208925819614629174706176 % 65536)) ∧ W.cell? ⟨w.heap.size + 1, 6, none⟩ = some (.int .i64 (T / 79228162514264337593543950336 % 65536)) ∧ W.cell? ⟨w.heap.size + 1, 7, none⟩ = some (.int .i64 (T / 5192296858534827628530496329220096 % 65536))) ∧ LessMem w W S T)
      (first | exact (LessMem.drew kS).cells | (exact (LessMem.step (And.right (by assumption)) hb2).cells))
      (first
        | (go_at_call_of 39 S; refine (cS _).mono ?_; rintro e w2 ⟨rfl, hb2⟩)
        | (go_at_call_of 39 T; refine (cT _).mono ?_; rintro e w2 ⟨rfl, hb2⟩))
    have hM := LessMem.held (W := w2) (by assumption)
    have cl := LessMem.cells hM
    have kH := Lib.hid hM
    obtain ⟨⟨x0, x1, x2, x3, x4, x5, x6, x7, -⟩, -⟩ := cl
    clear kS cT hM
    go_wp2_with (go_at_call_of 39 S; refine (cS _).mono ?_; rintro e w3 ⟨rfl, hb3⟩)
    go_ret
    refine ⟨congrArg (fun b => Ending.returned (Value.bool b)) hq.out.symm, (kH.out.step hb3).below⟩
end Go.Proofs.Ytmndafndopoelaa
