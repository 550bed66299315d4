/- The contract of rank's ahead. -/
import Derived.Test.YtegjkognlfemgaaRank0
namespace Go.Proofs.Ytegjkognlfemgaa
open Go.RowKit

/-- How many vectors have one of the first p numbers ahead of the rest. -/
def aheadS (n k : Int) : Nat → Int
  | 0 => 0
  | p + 1 => IntKind.u64.wrap (aheadS n k p + VZ (n - 1) (k - mag (sq p)))

set_option maxHeartbeats 4000000 in
theorem ahead_any (n k x : Int) (hn : 1 ≤ n ∧ n ≤ 16) (hk : -1000 ≤ k ∧ k ≤ 32) (hx : -1000 ≤ x ∧ x ≤ 1000) (B : Nat) (w0 w : World) (gb gm : Nat) (S : Int → Int → Bool) (hF : Fresh B w0 w gb gm S) :
    Calls Try.prog 43 #[.pointer (some ⟨gb, 0, none⟩), .int .i64 n, .int .i64 k, .int .i64 x] w fun e w' => e = .returned (.int .u64 (aheadS n k (pl x))) ∧ ∃ S', Fresh B w0 w' gb gm S' := by
  have hF := Lib.hid hF
  have hpl : pl x ≤ 2000 := by unfold pl; split <;> omega
  have hsp := Lib.hid (sq_pl x)
  have hps := Lib.hid pl_sq
  go_enter Try.func43, Try.ntmps43
  go_wp2
  go_loopw [9, 10] (fun r y wr => ∃ p : Nat, p ≤ pl x ∧ y = .int .i64 (sq p) ∧ r = .int .u64 (aheadS n k p) ∧ ∃ S, Fresh B w0 wr gb gm S) (fun _ y _ => pl x - pl (intOf y))
  case atStart => exact ⟨0, by omega, rfl, rfl, _, hF.out⟩
  case round =>
    clear hF
    obtain ⟨p, hp, rfl, rfl, S, hF⟩ := hrel
    have hF := Lib.hid hF
    by_cases hl : p = pl x
    · have hq : sq p = x := by rw [hl]; exact hsp.out
      rw [hq, hl]
      clear hq
      go_wp2
      go_ret
      exact ⟨rfl, _, hF.out⟩
    · have hne : (sq p == x) = false := by
        simp
        intro e
        apply hl
        rw [← e, hps.out]
      have hbq : -1001 ≤ sq p ∧ sq p ≤ 1001 := by unfold sq; split <;> omega
      have hm := mag_sq p (by omega)
      obtain ⟨M, hM⟩ : ∃ M, M = mag (sq p) := ⟨_, rfl⟩
      have hMb : 0 ≤ M ∧ M ≤ 1000 := by omega
      have cm := fun w => mag_any (sq p) (by omega) w
      have cn := fun w => next_any p (by omega) w
      rw [← hM] at cm
      have hM2 := Lib.hid hM
      clear hM hm
      go_wp2_with fail
      refine (cm _).mono ?_
      rintro e w1 ⟨rfl, rfl⟩
      go_wp2_with fail
      refine (bookV_any _ _ _ _ _ _ hF.out.book hF.out.closed).mono ?_
      rintro e w2 ⟨rfl, b2, g2⟩
      have f2 := Lib.hid (hF.out.ask _ _ b2 g2)
      clear b2 g2 hF
      go_wp2_with fail
      refine (cn _).mono ?_
      rintro e w3 ⟨rfl, rfl⟩
      go_wp2_with fail
      go_roundw
      case rel => exact ⟨p + 1, by omega, rfl, by rw [hM2.out]; rfl, _, f2.out⟩
      case measure => simp only [intOf]; simp [hps.out]; omega
end Go.Proofs.Ytegjkognlfemgaa
