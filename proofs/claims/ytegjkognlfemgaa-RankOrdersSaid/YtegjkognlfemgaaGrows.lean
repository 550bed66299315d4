/- The laws CountGrows and CountNotes: their walks. -/
import Derived.Test.YtegjkognlfemgaaCount
namespace Go.Proofs.Ytegjkognlfemgaa
open Go.RowKit

theorem V_grows : ∀ n, n < 14 → ∀ k, k < 31 → V (n + 2) (k + 1) < V (n + 2) (k + 2) ∧ V (n + 2) (k + 1) < V (n + 3) (k + 1) ∧ V (n + 2) (k + 1) % 2 = 0 := by decide +kernel
theorem VZ_nat {n k : Int} (h : RightP n k) : VZ n k = (V n.toNat k.toNat : Nat) := by
  unfold VZ
  exact if_pos h
theorem VZ_grows {n k : Int} (h1 : 2 ≤ n) (h2 : n ≤ 15) (h3 : 1 ≤ k) (h4 : k ≤ 31) : VZ n k < VZ n (k + 1) ∧ VZ n k < VZ (n + 1) k ∧ (VZ n k).tmod 2 = 0 := by
  obtain ⟨m, rfl⟩ : ∃ m : Nat, n = ((m + 2 : Nat) : Int) := ⟨(n - 2).toNat, by omega⟩
  obtain ⟨j, rfl⟩ : ∃ j : Nat, k = ((j + 1 : Nat) : Int) := ⟨(k - 1).toNat, by omega⟩
  have e := V_grows m (by omega) j (by omega)
  have t1 : (((m + 2 : Nat) : Int) + 1).toNat = m + 3 := by omega
  have t2 : (((j + 1 : Nat) : Int) + 1).toNat = j + 2 := by omega
  rw [VZ_nat (n := ((m + 2 : Nat) : Int)) (k := ((j + 1 : Nat) : Int)) ⟨by omega, by omega, by omega, by omega⟩, VZ_nat (n := ((m + 2 : Nat) : Int)) (k := ((j + 1 : Nat) : Int) + 1) ⟨by omega, by omega, by omega, by omega⟩, VZ_nat (n := ((m + 2 : Nat) : Int) + 1) (k := ((j + 1 : Nat) : Int)) ⟨by omega, by omega, by omega, by omega⟩, t1, t2, Int.toNat_natCast, Int.toNat_natCast]
  refine ⟨by omega, by omega, ?_⟩
  rw [Int.tmod_eq_emod_of_nonneg (Int.natCast_nonneg _)]
  omega

theorem u8_rem (a m : Int) (h : 0 ≤ a) (hm : 0 < m) : ∃ x, a.tmod m = x ∧ 0 ≤ x ∧ x < m := by
  refine ⟨_, rfl, ?_, ?_⟩
  · exact Int.tmod_nonneg _ h
  · exact Int.tmod_lt_of_pos _ hm

set_option maxHeartbeats 4000000 in
theorem countGrows_walk (a b : Int) (ha : 0 ≤ a ∧ a ≤ 255) (hb : 0 ≤ b ∧ b ≤ 255) (w : World) : Calls Try.prog 5 #[.int .u8 a, .int .u8 b] w fun e w' => e = .returned (.bool true) ∧ Below w.heap.size w w' := by
  obtain ⟨x, hx, x1, x2⟩ := u8_rem a 14 ha.1 (by omega)
  obtain ⟨y, hy, y1, y2⟩ := u8_rem b 31 hb.1 (by omega)
  go_enter Try.func5, Try.ntmps5
  go_wp2_with fail
  refine (awake10 _).mono ?_
  rintro e w0 ⟨rfl, b0⟩
  have b0 := Lib.hid b0
  go_wp2_with fail
  refine (new_any _).mono ?_
  rintro e w1 ⟨rfl, f1⟩
  have f1 := Lib.hid f1
  go_wp2_with fail
  obtain ⟨n, hn⟩ : ∃ n, n = 2 + x := ⟨_, rfl⟩
  obtain ⟨k, hk⟩ : ∃ k, k = 1 + y := ⟨_, rfl⟩
  rw [← hn, ← hk]
  obtain ⟨v1, v2, v3⟩ := VZ_grows (n := n) (k := k) (by omega) (by omega) (by omega) (by omega)
  have v4 := VZ_step (n := n + 1) (k := k + 1) (by omega)
  rw [show n + 1 - 1 = n from by omega, show k + 1 - 1 = k from by omega] at v4
  have n1 : 2 ≤ n := by omega
  have n2 : n ≤ 15 := by omega
  have k1 : 1 ≤ k := by omega
  have k2 : k ≤ 31 := by omega
  clear hn hk hx hy x1 x2 y1 y2 ha hb
  refine (bookV_any _ _ _ _ _ _ f1.out.book f1.out.closed).mono ?_
  rintro e w2 ⟨rfl, b2, g2⟩
  have f2 := Lib.hid (f1.out.ask _ _ b2 g2)
  clear b2 g2
  go_wp2_with fail
  refine (bookV_any _ _ _ _ _ _ f2.out.book f2.out.closed).mono ?_
  rintro e w3 ⟨rfl, b3, g3⟩
  have f3 := Lib.hid (f2.out.ask _ _ b3 g3)
  clear b3 g3
  go_wp2_with fail
  refine (bookV_any _ _ _ _ _ _ f3.out.book f3.out.closed).mono ?_
  rintro e w4 ⟨rfl, b4, g4⟩
  have f4 := Lib.hid (f3.out.ask _ _ b4 g4)
  clear b4 g4
  go_wp2_with fail
  refine (bookV_any _ _ _ _ _ _ f4.out.book f4.out.closed).mono ?_
  rintro e w5 ⟨rfl, b5, g5⟩
  have f5 := Lib.hid (f4.out.ask _ _ b5 g5)
  clear b5 g5
  go_wp2_with fail
  refine (bookV_any _ _ _ _ _ _ f5.out.book f5.out.closed).mono ?_
  rintro e w6 ⟨rfl, b6, g6⟩
  have f6 := Lib.hid (f5.out.ask _ _ b6 g6)
  clear b6 g6
  go_wp2_with fail
  refine (bookV_any _ _ _ _ _ _ f6.out.book f6.out.closed).mono ?_
  rintro e w7 ⟨rfl, b7, g7⟩
  have f7 := Lib.hid (f6.out.ask _ _ b7 g7)
  clear b7 g7
  go_wp2_with fail
  go_ret
  exact ⟨rfl, Below.trans b0.out (f7.out.below.mono b0.out.size)⟩

theorem noted_is (n k a b : Int) (h : n ≤ 16 ∧ k ≤ 32) : more none0 n k a b = decide (1 ≤ a ∧ a ≤ n ∧ 1 ≤ b ∧ b ≤ k) := by
  unfold more rect none0
  simp [h]

set_option maxHeartbeats 4000000 in
theorem countNotes_walk (a b : Int) (ha : 0 ≤ a ∧ a ≤ 255) (hb : 0 ≤ b ∧ b ≤ 255) (p q : Int) (w : World) : Calls Try.prog 6 #[.int .u8 a, .int .u8 b, .agg #[.int .i64 p, .int .i64 q]] w fun e w' => e = .returned (.bool true) ∧ Below w.heap.size w w' := by
  obtain ⟨n, hn, n1, n2⟩ := u8_rem a 17 ha.1 (by omega)
  obtain ⟨k, hk, k1, k2⟩ := u8_rem b 33 hb.1 (by omega)
  go_enter Try.func6, Try.ntmps6
  go_wp2_with fail
  refine (awake10 _).mono ?_
  rintro e w0 ⟨rfl, b0⟩
  have b0 := Lib.hid b0
  go_wp2_with fail
  refine (new_any _).mono ?_
  rintro e w1 ⟨rfl, f1⟩
  have f1 := Lib.hid f1
  go_wp2_with fail
  refine (bookV_any _ _ _ _ _ _ f1.out.book f1.out.closed).mono ?_
  rintro e w2 ⟨rfl, b2, g2⟩
  have f2 := Lib.hid (f1.out.ask _ _ b2 g2)
  clear b2 g2
  have bb : Below (w.alloc (.cells #[.int .i64 p, .int .i64 q] 32)).heap.size (w.alloc (.cells #[.int .i64 p, .int .i64 q] 32)) w2 := Below.trans b0.out (f2.out.below.mono b0.out.size)
  have hblk : w2.heap[w.heap.size]? = some (.cells #[.int .i64 p, .int .i64 q] 32) := (bb.block _ (by simp)).trans (heap_last _ _ rfl)
  have bw := Lib.hid (Below.trans (belowAlloc w (.cells #[.int .i64 p, .int .i64 q] 32)) (bb.mono (by simp)))
  have c0 : w2.cell? ⟨w.heap.size, 0, none⟩ = some (.int .i64 p) := cellOf hblk 0
  have c1 : w2.cell? ⟨w.heap.size, 1, none⟩ = some (.int .i64 q) := cellOf hblk 1
  have hT := Lib.hid (noted_is n k p q (by omega))
  clear hblk bb ha hb hn hk
  have key : ∀ e w4, e = Ending.returned (.bool (more none0 n k p q)) ∧ Below w2.heap.size w2 w4 → e = Ending.returned (.bool (decide (1 ≤ p ∧ p ≤ n ∧ 1 ≤ q ∧ q ≤ k))) ∧ Below w2.heap.size w2 w4 := by
    rintro e w4 ⟨rfl, h⟩
    exact ⟨by rw [hT.out], h⟩
  have hx := fun W (hW : W = w2) => ((has_any p q W _ _ _ (hW ▸ f2.out.book)).mono (fun e w4 h => key e w4 (hW ▸ h)))
  have hx2 := Lib.hid (hx w2 rfl)
  clear key hx hT
  by_cases h1 : 1 ≤ p
  · by_cases h2 : p ≤ n
    · by_cases h3 : 1 ≤ q
      · by_cases h4 : q ≤ k
        · have hd : decide (1 ≤ p ∧ p ≤ n ∧ 1 ≤ q ∧ q ≤ k) = true := by simp; omega
          rw [hd] at hx2
          go_wp2_with fail
          refine hx2.out.mono ?_
          rintro e w4 ⟨rfl, b4⟩
          go_wp2_with fail
          go_ret
          exact ⟨rfl, Below.trans bw.out (b4.mono (by have := bw.out.size; omega))⟩
        · have hd : decide (1 ≤ p ∧ p ≤ n ∧ 1 ≤ q ∧ q ≤ k) = false := by simp; omega
          have h5 : decide (q ≤ k) = false := by simp; omega
          rw [hd] at hx2
          go_wp2_with fail
          refine hx2.out.mono ?_
          rintro e w4 ⟨rfl, b4⟩
          go_wp2_with fail
          go_ret
          exact ⟨rfl, Below.trans bw.out (b4.mono (by have := bw.out.size; omega))⟩
      · have hd : decide (1 ≤ p ∧ p ≤ n ∧ 1 ≤ q ∧ q ≤ k) = false := by simp; omega
        have h5 : decide (1 ≤ q) = false := by simp; omega
        rw [hd] at hx2
        go_wp2_with fail
        refine hx2.out.mono ?_
        rintro e w4 ⟨rfl, b4⟩
        go_wp2_with fail
        go_ret
        exact ⟨rfl, Below.trans bw.out (b4.mono (by have := bw.out.size; omega))⟩
    · have hd : decide (1 ≤ p ∧ p ≤ n ∧ 1 ≤ q ∧ q ≤ k) = false := by simp; omega
      have h5 : decide (p ≤ n) = false := by simp; omega
      rw [hd] at hx2
      go_wp2_with fail
      refine hx2.out.mono ?_
      rintro e w4 ⟨rfl, b4⟩
      go_wp2_with fail
      go_ret
      exact ⟨rfl, Below.trans bw.out (b4.mono (by have := bw.out.size; omega))⟩
  · have hd : decide (1 ≤ p ∧ p ≤ n ∧ 1 ≤ q ∧ q ≤ k) = false := by simp; omega
    have h5 : decide (1 ≤ p) = false := by simp; omega
    rw [hd] at hx2
    go_wp2_with fail
    refine hx2.out.mono ?_
    rintro e w4 ⟨rfl, b4⟩
    go_wp2_with fail
    go_ret
    exact ⟨rfl, Below.trans bw.out (b4.mono (by have := bw.out.size; omega))⟩

end Go.Proofs.Ytegjkognlfemgaa
