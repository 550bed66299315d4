/- The walk of WideTells. -/
import Derived.Test.YtmndafndopoelaaTwo
import Derived.Deep.CutBlock
namespace Go.Proofs.Ytmndafndopoelaa
open Go.RowKit

theorem cmpW_is {h1 l1 h2 l2 : Int} (a2 : 0 ≤ l1 ∧ l1 ≤ 18446744073709551615) (a4 : 0 ≤ l2 ∧ l2 ≤ 18446744073709551615) : cmpW h1 l1 h2 l2 = sgn3 (h1 * 18446744073709551616 + l1) (h2 * 18446744073709551616 + l2) := by
  unfold cmpW or3 sgn3
  repeat' split
  all_goals omega

set_option maxHeartbeats 8000000 in
theorem tells_core (h1 l1 h2 l2 n X Y c x P U y : Int) (k : Nat) (fit : Bool) (xv : Int) (hxv : (fit = true → xv = x) ∧ (fit = false → xv = 0)) (R1 : Rep h1 l1 X) (R2 : Rep h2 l2 Y) (WX : WideB X) (WY : WideB Y) (hc : sgn3 X Y = c) (c30 : ∀ w, Calls Try.prog 30 #[.agg #[.int .i64 h1, .int .u64 l1], .agg #[.int .i64 h2, .int .u64 l2]] w fun e w' => e = .returned (.int .i64 c) ∧ Below w.heap.size w w')
    (hx : -9223372036854775808 ≤ x ∧ x ≤ 9223372036854775807) (hlx : IntKind.i64.wrap l1 = x)
    (c28 : ∀ w, Calls Try.prog 28 #[.agg #[.int .i64 h1, .int .u64 l1]] w fun e w' => e = .returned (.tuple #[.int .i64 xv, .bool fit]) ∧ Below w.heap.size w w')
    (heq : ∀ w, (binOp .eql 27 (D X) (D x)).run Try.prog w = .ok (.bool fit) w)
    (c22 : ∀ w, Calls Try.prog 22 #[.int .i64 n, .int .i64 1, .int .i64 63] w fun e w' => e = .returned (.int .i64 ((k : Int) + 1)) ∧ w = w')
    (hk : k ≤ 62) (hP : (2 : Int) ^ k = P) (hP1 : 1 ≤ P) (hP2 : P ≤ 4611686018427387904) (hU : -P = U) (hy : held3 X U (P - 1) = y)
    (c31 : ∀ w, Calls Try.prog 31 #[.agg #[.int .i64 h1, .int .u64 l1], .int .i64 n] w fun e w' => e = .returned (.int .i64 y) ∧ Below w.heap.size w w') (w : World) :
    Calls Try.prog 7 #[.agg #[.int .i64 h1, .int .u64 l1], .agg #[.int .i64 h2, .int .u64 l2], .int .i64 n] w fun e w' => e = .returned (.bool true) ∧ Below w.heap.size w w' := by
  have hUb : -4611686018427387904 ≤ U ∧ U ≤ -1 := by omega
  have hyb : -9223372036854775808 ≤ y ∧ y ≤ 9223372036854775807 := by
    subst hy; unfold held3; split
    · omega
    · split <;> omega
  have c29 := fun w => pow_any k hk w
  rw [hP] at c29
  have c32 := fun w => bheld_any X U (P - 1) WX (show WideB U from ⟨by omega, by omega⟩) (show WideB (P - 1) from ⟨by omega, by omega⟩) w
  rw [hy] at c32
  have hk0 : (0 : Int) ≤ k := by omega
  have hk2 : (k : Int) ≤ 62 := by omega
  clear hy hP
  go_enter Try.func7, Try.ntmps7
  go_wp2_with fail
  refine (awake_any _).mono ?_
  rintro e w1 ⟨rfl, hb⟩
  have kS := awake_two hb
  clear hb
  have eqg := guardD
  go_upto_block 0 with fail
  go_cut [7] (fun s7 wx => s7 = .int .i64 c ∧ Two w w.heap.size (w.heap.size + 1) (.int .i64 h1) (.int .u64 l1) (.int .i64 h2) (.int .u64 l2) wx)
  case first =>
    clear c28 heq c22 c31 c29 c32 hU hlx c30
    have c27 := fun w => less_any X Y WX WY w
    by_cases h1' : X < Y
    · have e1 : lessB X Y = true := by unfold lessB; simp [h1']
      have e2 : c = -1 := by rw [← hc]; unfold sgn3; rw [if_pos h1']
      subst e2
      rw [e1] at c27
      clear hc e1 h1'
      go_wp2_with fail
      go_region_held3 (fun w' => w'.cell? ⟨w.heap.size, 0, none⟩ = some (.int .i64 h1) ∧ w'.cell? ⟨w.heap.size, 1, none⟩ = some (.int .u64 l1) ∧ w'.cell? ⟨w.heap.size + 1, 0, none⟩ = some (.int .i64 h2) ∧ w'.cell? ⟨w.heap.size + 1, 1, none⟩ = some (.int .u64 l2) ∧ Below w.heap.size w w' ∧ w.heap.size < w'.heap.size ∧ w.heap.size + 1 < w'.heap.size)
        (first | exact kS.drew | (exact step2 (by assumption) hb2))
        (first
        | (go_at_call 10; refine (big_any (by assumption) _).mono ?_; rintro e w2 ⟨rfl, hb2⟩)
        | (go_at_call 27; refine (c27 _).mono ?_; rintro e w2 ⟨rfl, hb2⟩))
      go_wp2_with fail
      go_meet
      exact ⟨rfl, Two.of (by assumption)⟩
    · have e1 : lessB X Y = false := by unfold lessB; simp [h1']
      rw [e1] at c27
      by_cases h2' : Y < X
      · have e2 : c = 1 := by rw [← hc]; unfold sgn3; rw [if_neg h1', if_pos h2']
        have neq := fun w => neqD X Y w
        have e3 : decide ((X - Y) % 340282366920938463463374607431768211456 = 0) = false := by
          unfold WideB at WX WY
          simp; omega
        rw [e3] at neq
        subst e2
        clear hc e1 h1' h2' e3
        go_wp2_with fail
        go_region_held3 (fun w' => w'.cell? ⟨w.heap.size, 0, none⟩ = some (.int .i64 h1) ∧ w'.cell? ⟨w.heap.size, 1, none⟩ = some (.int .u64 l1) ∧ w'.cell? ⟨w.heap.size + 1, 0, none⟩ = some (.int .i64 h2) ∧ w'.cell? ⟨w.heap.size + 1, 1, none⟩ = some (.int .u64 l2) ∧ Below w.heap.size w w' ∧ w.heap.size < w'.heap.size ∧ w.heap.size + 1 < w'.heap.size)
          (first | exact kS.drew | (exact step2 (by assumption) hb2))
          (first
        | (go_at_call 10; refine (big_any (by assumption) _).mono ?_; rintro e w2 ⟨rfl, hb2⟩)
        | (go_at_call 27; refine (c27 _).mono ?_; rintro e w2 ⟨rfl, hb2⟩))
        have kS2 := Two.of (W := w2) (by assumption)
        clear kS
        have kS := kS2
        clear kS2
        go_wp2_with fail
        go_region_held3 (fun w' => w'.cell? ⟨w.heap.size, 0, none⟩ = some (.int .i64 h1) ∧ w'.cell? ⟨w.heap.size, 1, none⟩ = some (.int .u64 l1) ∧ w'.cell? ⟨w.heap.size + 1, 0, none⟩ = some (.int .i64 h2) ∧ w'.cell? ⟨w.heap.size + 1, 1, none⟩ = some (.int .u64 l2) ∧ Below w.heap.size w w' ∧ w.heap.size < w'.heap.size ∧ w.heap.size + 1 < w'.heap.size)
          (first | exact kS.drew | (exact step2 (by assumption) hb2))
          (first
        | (go_at_call 10; refine (big_any (by assumption) _).mono ?_; rintro e w2 ⟨rfl, hb2⟩)
        | (go_at_call 27; refine (c27 _).mono ?_; rintro e w2 ⟨rfl, hb2⟩))
        go_wp2_with fail
        go_meet
        exact ⟨rfl, Two.of (by assumption)⟩
      · obtain rfl : X = Y := by omega
        have e2 : c = 0 := by rw [← hc]; unfold sgn3; rw [if_neg h1', if_neg h2']
        have neq := fun w => neqD X X w
        have e3 : decide ((X - X) % 340282366920938463463374607431768211456 = 0) = true := by simp
        rw [e3] at neq
        subst e2
        clear hc e1 h1' h2' e3
        go_wp2_with fail
        go_region_held3 (fun w' => w'.cell? ⟨w.heap.size, 0, none⟩ = some (.int .i64 h1) ∧ w'.cell? ⟨w.heap.size, 1, none⟩ = some (.int .u64 l1) ∧ w'.cell? ⟨w.heap.size + 1, 0, none⟩ = some (.int .i64 h2) ∧ w'.cell? ⟨w.heap.size + 1, 1, none⟩ = some (.int .u64 l2) ∧ Below w.heap.size w w' ∧ w.heap.size < w'.heap.size ∧ w.heap.size + 1 < w'.heap.size)
          (first | exact kS.drew | (exact step2 (by assumption) hb2))
          (first
        | (go_at_call 10; refine (big_any (by assumption) _).mono ?_; rintro e w2 ⟨rfl, hb2⟩)
        | (go_at_call 27; refine (c27 _).mono ?_; rintro e w2 ⟨rfl, hb2⟩))
        have kS2 := Two.of (W := w2) (by assumption)
        clear kS
        have kS := kS2
        clear kS2
        go_wp2_with fail
        go_region_held3 (fun w' => w'.cell? ⟨w.heap.size, 0, none⟩ = some (.int .i64 h1) ∧ w'.cell? ⟨w.heap.size, 1, none⟩ = some (.int .u64 l1) ∧ w'.cell? ⟨w.heap.size + 1, 0, none⟩ = some (.int .i64 h2) ∧ w'.cell? ⟨w.heap.size + 1, 1, none⟩ = some (.int .u64 l2) ∧ Below w.heap.size w w' ∧ w.heap.size < w'.heap.size ∧ w.heap.size + 1 < w'.heap.size)
          (first | exact kS.drew | (exact step2 (by assumption) hb2))
          (first
        | (go_at_call 10; refine (big_any (by assumption) _).mono ?_; rintro e w2 ⟨rfl, hb2⟩)
        | (go_at_call 27; refine (c27 _).mono ?_; rintro e w2 ⟨rfl, hb2⟩))
        go_wp2_with fail
        go_meet
        exact ⟨rfl, Two.of (by assumption)⟩
  case rest =>
    obtain ⟨rfl, hT⟩ := hcut
    clear kS
    clear hc
    have hT2 := hT
    obtain ⟨k0, k1, k2, k3, -⟩ := hT2
    cases fit
    · obtain rfl : xv = 0 := hxv.2 rfl
      go_wp2_with fail
      refine (c28 _).mono ?_
      rintro e w2 ⟨rfl, hb2⟩
      have kS := hT.step hb2
      clear k0 k1 k2 k3 hb2 c28 hT
      go_wp2_with fail
      go_region_held3 (fun w' => w'.cell? ⟨w.heap.size, 0, none⟩ = some (.int .i64 h1) ∧ w'.cell? ⟨w.heap.size, 1, none⟩ = some (.int .u64 l1) ∧ w'.cell? ⟨w.heap.size + 1, 0, none⟩ = some (.int .i64 h2) ∧ w'.cell? ⟨w.heap.size + 1, 1, none⟩ = some (.int .u64 l2) ∧ Below w.heap.size w w' ∧ w.heap.size < w'.heap.size ∧ w.heap.size + 1 < w'.heap.size)
        (first | exact kS.drew | (exact step2 (by assumption) hb2))
        (first
        | (go_at_call 31; refine (c31 _).mono ?_; rintro e w2 ⟨rfl, hb2⟩)
        | (go_at_call 10; refine (big_any R1 _).mono ?_; rintro e w2 ⟨rfl, hb2⟩)
        | (go_at_call 13; refine (number_any (by omega) (by omega) _).mono ?_; rintro e w2 ⟨rfl, hb2⟩)
        | (go_at_call 32; refine (c32 _).mono ?_; rintro e w2 ⟨rfl, hb2⟩))
      have hT := Two.of (W := w2) (by assumption)
      have hT2 := hT
      obtain ⟨k0, k1, k2, k3, -⟩ := hT2
      clear kS
      go_wp2_with (first | (go_at_call 22; refine (c22 _).mono ?_; rintro e w3 ⟨rfl, rfl⟩) | (go_at_call 29; refine (c29 _).mono ?_; rintro e w3 ⟨rfl, rfl⟩))
      refine (c30 _).mono ?_
      rintro e w3 ⟨rfl, hb2⟩
      have kS := hT.step hb2
      have hT2 := kS
      clear k0 k1 k2 k3 hb2 c30 hT
      obtain ⟨k0, k1, k2, k3, -⟩ := hT2
      go_wp2_with fail
      have hw1 : IntKind.i64.wrap U = U := by rw [IntKind.wrap_i64]; omega
      have hw2 : IntKind.i64.wrap (P - 1) = P - 1 := by rw [IntKind.wrap_i64]; omega
      have eqr := eqD_refl
      go_region_held3 (fun w' => w'.cell? ⟨w.heap.size, 0, none⟩ = some (.int .i64 h1) ∧ w'.cell? ⟨w.heap.size, 1, none⟩ = some (.int .u64 l1) ∧ w'.cell? ⟨w.heap.size + 1, 0, none⟩ = some (.int .i64 h2) ∧ w'.cell? ⟨w.heap.size + 1, 1, none⟩ = some (.int .u64 l2) ∧ Below w.heap.size w w' ∧ w.heap.size < w'.heap.size ∧ w.heap.size + 1 < w'.heap.size)
        (first | exact kS.drew | (exact step2 (by assumption) hb2))
        (first
        | (go_at_call 31; refine (c31 _).mono ?_; rintro e w2 ⟨rfl, hb2⟩)
        | (go_at_call 10; refine (big_any R1 _).mono ?_; rintro e w2 ⟨rfl, hb2⟩)
        | (go_at_call 13; refine (number_any (by omega) (by omega) _).mono ?_; rintro e w2 ⟨rfl, hb2⟩)
        | (go_at_call 32; refine (c32 _).mono ?_; rintro e w2 ⟨rfl, hb2⟩))
      go_wp2
      go_ret
      exact ⟨rfl, (Two.of (W := w2) (by assumption)).2.2.2.2.1⟩
    · obtain rfl : xv = x := hxv.1 rfl
      go_wp2_with fail
      refine (c28 _).mono ?_
      rintro e w2 ⟨rfl, hb2⟩
      have kS := hT.step hb2
      clear k0 k1 k2 k3 hb2 c28 hT
      go_wp2_with fail
      go_region_held3 (fun w' => w'.cell? ⟨w.heap.size, 0, none⟩ = some (.int .i64 h1) ∧ w'.cell? ⟨w.heap.size, 1, none⟩ = some (.int .u64 l1) ∧ w'.cell? ⟨w.heap.size + 1, 0, none⟩ = some (.int .i64 h2) ∧ w'.cell? ⟨w.heap.size + 1, 1, none⟩ = some (.int .u64 l2) ∧ Below w.heap.size w w' ∧ w.heap.size < w'.heap.size ∧ w.heap.size + 1 < w'.heap.size)
        (first | exact kS.drew | (exact step2 (by assumption) hb2))
        (first
        | (go_at_call 31; refine (c31 _).mono ?_; rintro e w2 ⟨rfl, hb2⟩)
        | (go_at_call 10; refine (big_any R1 _).mono ?_; rintro e w2 ⟨rfl, hb2⟩)
        | (go_at_call 13; refine (number_any (by omega) (by omega) _).mono ?_; rintro e w2 ⟨rfl, hb2⟩)
        | (go_at_call 32; refine (c32 _).mono ?_; rintro e w2 ⟨rfl, hb2⟩))
      have hT := Two.of (W := w2) (by assumption)
      have hT2 := hT
      obtain ⟨k0, k1, k2, k3, -⟩ := hT2
      clear kS
      go_wp2_with (first | (go_at_call 22; refine (c22 _).mono ?_; rintro e w3 ⟨rfl, rfl⟩) | (go_at_call 29; refine (c29 _).mono ?_; rintro e w3 ⟨rfl, rfl⟩))
      refine (c30 _).mono ?_
      rintro e w3 ⟨rfl, hb2⟩
      have kS := hT.step hb2
      have hT2 := kS
      clear k0 k1 k2 k3 hb2 c30 hT
      obtain ⟨k0, k1, k2, k3, -⟩ := hT2
      go_wp2_with fail
      have hw1 : IntKind.i64.wrap U = U := by rw [IntKind.wrap_i64]; omega
      have hw2 : IntKind.i64.wrap (P - 1) = P - 1 := by rw [IntKind.wrap_i64]; omega
      have eqr := eqD_refl
      go_region_held3 (fun w' => w'.cell? ⟨w.heap.size, 0, none⟩ = some (.int .i64 h1) ∧ w'.cell? ⟨w.heap.size, 1, none⟩ = some (.int .u64 l1) ∧ w'.cell? ⟨w.heap.size + 1, 0, none⟩ = some (.int .i64 h2) ∧ w'.cell? ⟨w.heap.size + 1, 1, none⟩ = some (.int .u64 l2) ∧ Below w.heap.size w w' ∧ w.heap.size < w'.heap.size ∧ w.heap.size + 1 < w'.heap.size)
        (first | exact kS.drew | (exact step2 (by assumption) hb2))
        (first
        | (go_at_call 31; refine (c31 _).mono ?_; rintro e w2 ⟨rfl, hb2⟩)
        | (go_at_call 10; refine (big_any R1 _).mono ?_; rintro e w2 ⟨rfl, hb2⟩)
        | (go_at_call 13; refine (number_any (by omega) (by omega) _).mono ?_; rintro e w2 ⟨rfl, hb2⟩)
        | (go_at_call 32; refine (c32 _).mono ?_; rintro e w2 ⟨rfl, hb2⟩))
      go_wp2
      go_ret
      exact ⟨rfl, (Two.of (W := w2) (by assumption)).2.2.2.2.1⟩
end Go.Proofs.Ytmndafndopoelaa
