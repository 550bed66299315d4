/- The law CountLists: its walk. -/
import Derived.Test.YtegjkognlfemgaaAll2
namespace Go.Proofs.Ytegjkognlfemgaa
open Go.RowKit

set_option maxHeartbeats 4000000 in
theorem countLists_walk (a b : Int) (ha : 0 ≤ a ∧ a ≤ 255) (hb : 0 ≤ b ∧ b ≤ 255) (w : World) : Calls Try.prog 4 #[.int .u8 a, .int .u8 b] w fun e w' => e = .returned (.bool true) ∧ Below w.heap.size w w' := by
  obtain ⟨x, hx, x1, x2⟩ := u8_rem a 5 ha.1 (by omega)
  obtain ⟨y, hy, y1, y2⟩ := u8_rem b 6 hb.1 (by omega)
  obtain ⟨n, rfl⟩ := Int.eq_ofNat_of_zero_le x1
  obtain ⟨k, rfl⟩ := Int.eq_ofNat_of_zero_le y1
  have hV := Lib.hid (allN_len n (by omega) k (by omega))
  have hVZ := Lib.hid (VZ_nat (n := n) (k := k) ⟨by omega, by omega, by omega, by omega⟩)
  have hsm := Lib.hid (V_small n (by omega) k (by omega))
  have hA := Lib.hid (all_any n (by omega) k (by omega))
  go_enter Try.func4, Try.ntmps4
  go_wp2_with fail
  refine (awake10 _).mono ?_
  rintro e w0 ⟨rfl, b0⟩
  have b0 := Lib.hid b0
  go_wp2_with fail
  refine (new_any _).mono ?_
  rintro e w1 ⟨rfl, f1⟩
  have f1 := Lib.hid f1
  go_wp2_with fail
  refine (bookV_any _ _ _ _ _ _ f1.out.book f1.out.closed).mono ?_
  rintro e w2 ⟨rfl, b2, g2⟩
  have f2 := Lib.hid (f1.out.ask _ _ b2 g2)
  clear b2 g2
  go_wp2_with fail
  refine (hA.out _).mono ?_
  rintro e w3 ⟨v, rfl, hb3, hL⟩
  obtain ⟨ao, cp, rfl⟩ := hL.shape
  have f3 := Lib.hid (f2.out.step hb3)
  rw [hV.out]
  have hv : VZ n k = ((V n k : Nat) : Int) := hVZ.out
  have hsm2 : V n k < 1000 := hsm.out
  clear hL hb3
  go_wp2_with fail
  go_ret
  exact ⟨rfl, Below.trans b0.out (f3.out.below.mono b0.out.size)⟩
end Go.Proofs.Ytegjkognlfemgaa
