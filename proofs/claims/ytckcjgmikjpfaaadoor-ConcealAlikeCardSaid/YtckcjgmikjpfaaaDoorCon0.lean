/- Contracts of conceal's held, there, Fade and part. -/
import Derived.Test.YtckcjgmikjpfaaaDoorProg
import Derived.WalkKit
import Derived.Below
import Derived.Outline
import Derived.LoopTactic
import Derived.Lib.Hide
import Derived.Deep.QuietTactic
import Derived.BigQuiet
import Derived.WalkLawsBesides
namespace Go.Proofs.YtckcjgmikjpfaaaDoor
open Go.RowKit

/-- A number within its bounds. -/
def hd (x : Int) : Int := if x < -16777216 then -16777216 else if 16777216 < x then 16777216 else x
theorem hd_b (x : Int) : -16777216 ≤ hd x ∧ hd x ≤ 16777216 := by unfold hd; split <;> (try split) <;> omega
def I32 (x : Int) : Prop := -2147483648 ≤ x ∧ x ≤ 2147483647

set_option maxHeartbeats 1000000 in
theorem held_any (x : Int) (hx : I32 x) (w : World) : Calls Tryd.prog 22 #[.int .i32 x] w fun e w' => e = .returned (.int .i64 (hd x)) ∧ w = w' := by
  unfold I32 at hx
  have h1 : hd x = min (max x (-16777216)) 16777216 := by unfold hd; split <;> (try split) <;> omega
  rw [h1]
  by_cases a : x < -16777216
  · have e1 : max x (-16777216) = -16777216 := by omega
    rw [e1]
    have e2 : min (-16777216 : Int) 16777216 = -16777216 := by omega
    rw [e2]
    clear h1
    go_enter Tryd.func22, Tryd.ntmps22
    go_wp2
    go_ret
    exact ⟨rfl, rfl⟩
  · have e1 : max x (-16777216) = x := by omega
    rw [e1]
    by_cases b : 16777216 < x
    · have e2 : min x 16777216 = 16777216 := by omega
      rw [e2]
      clear h1
      go_enter Tryd.func22, Tryd.ntmps22
      go_wp2
      go_ret
      exact ⟨rfl, rfl⟩
    · have e2 : min x 16777216 = x := by omega
      rw [e2]
      clear h1
      go_enter Tryd.func22, Tryd.ntmps22
      go_wp2
      go_ret
      exact ⟨rfl, rfl⟩

/-- Is there such a length? -/
def thr (n : Nat) : Bool := n == 8 || n == 16 || n == 32

set_option maxHeartbeats 4000000 in
theorem there_small : ∀ n : Nat, n ≤ 32 → ∀ w, Calls Tryd.prog 20 #[.int .i64 n] w fun e w' => e = .returned (.bool (thr n)) ∧ w = w' := by
  intro n hn w
  by_cases h : n < 8
  · have ht : thr n = false := by unfold thr; simp; omega
    rw [ht]
    clear ht
    go_enter Tryd.func20, Tryd.ntmps20
    go_wp2
    go_ret
    exact ⟨rfl, rfl⟩
  · have hc : n = 8 ∨ n = 9 ∨ n = 10 ∨ n = 11 ∨ n = 12 ∨ n = 13 ∨ n = 14 ∨ n = 15 ∨ n = 16 ∨ n = 17 ∨ n = 18 ∨ n = 19 ∨ n = 20 ∨ n = 21 ∨ n = 22 ∨ n = 23 ∨ n = 24 ∨ n = 25 ∨ n = 26 ∨ n = 27 ∨ n = 28 ∨ n = 29 ∨ n = 30 ∨ n = 31 ∨ n = 32 := by omega
    clear h hn
    rcases hc with rfl | rfl | rfl | rfl | rfl | rfl | rfl | rfl | rfl | rfl | rfl | rfl | rfl | rfl | rfl | rfl | rfl | rfl | rfl | rfl | rfl | rfl | rfl | rfl | rfl
    all_goals
      as_aux_lemma =>
        go_enter Tryd.func20, Tryd.ntmps20
        go_wp2
        go_ret
        exact ⟨rfl, rfl⟩
theorem there_big (n : Int) (hn : 32 < n) (w : World) : Calls Tryd.prog 20 #[.int .i64 n] w fun e w' => e = .returned (.bool false) ∧ w = w' := by
  go_enter Tryd.func20, Tryd.ntmps20
  go_wp2
  go_ret
  exact ⟨rfl, rfl⟩

/-- The fades, as they lie in memory. -/
def fdv (k : Int) : Int := if k = 1 then 29491 else if k = 2 then 22937 else if k = 3 then 13107 else if k = 4 then 4915 else 0
def Fades (w : World) : Prop := ∀ i : Nat, i < 5 → w.cell? ⟨0, i, none⟩ = some (.int .i32 (fdv i))
theorem fdv_b (k : Int) : 0 ≤ fdv k ∧ fdv k ≤ 29491 := by unfold fdv; (repeat' split) <;> omega

set_option maxHeartbeats 1000000 in
theorem fade_any (k : Int) (w : World) (hF : Fades w) : Calls Tryd.prog 8 #[.int .i64 k] w fun e w' => e = .returned (.int .i32 (fdv k)) ∧ w = w' := by
  by_cases h1 : k < 0
  · have e : fdv k = 0 := by unfold fdv; (repeat' split) <;> omega
    rw [e]
    clear e
    go_enter Tryd.func8, Tryd.ntmps8
    go_wp2
    go_ret
    exact ⟨rfl, rfl⟩
  · by_cases h2 : 5 ≤ k
    · have e : fdv k = 0 := by unfold fdv; (repeat' split) <;> omega
      rw [e]
      clear e
      go_enter Tryd.func8, Tryd.ntmps8
      go_wp2
      go_ret
      exact ⟨rfl, rfl⟩
    · obtain ⟨n, rfl⟩ := Int.eq_ofNat_of_zero_le (show 0 ≤ k by omega)
      have hc := hF n (by omega)
      obtain ⟨X, hX⟩ : ∃ X, X = fdv n := ⟨_, rfl⟩
      rw [← hX] at hc ⊢
      clear hX hF
      go_enter Tryd.func8, Tryd.ntmps8
      go_wp2
      go_ret
      exact ⟨rfl, rfl⟩

/-- A number's part. -/
def prt (x f : Int) : Int := (hd x * f).tdiv 32768
theorem prt_b (x f : Int) (hf : 0 ≤ f ∧ f ≤ 32767) : -16777216 ≤ prt x f ∧ prt x f ≤ 16777216 := by
  obtain ⟨h1, h2⟩ := hd_b x
  unfold prt
  have m1 : -16777216 * 32768 ≤ hd x * f := by
    rcases Int.le_total 0 (hd x) with h | h
    · have := Int.mul_nonneg h hf.1
      omega
    · have a := Int.mul_le_mul_of_nonneg_left (show f ≤ 32768 by omega) (show 0 ≤ -hd x by omega)
      rw [Int.neg_mul] at a
      omega
  have m2 : hd x * f ≤ 16777216 * 32768 := by
    rcases Int.le_total 0 (hd x) with h | h
    · have a := Int.mul_le_mul_of_nonneg_left (show f ≤ 32768 by omega) h
      omega
    · have a := Int.mul_nonneg (show 0 ≤ -hd x by omega) hf.1
      rw [Int.neg_mul] at a
      omega
  rcases Int.le_total 0 (hd x * f) with h | h
  · rw [Int.tdiv_eq_ediv_of_nonneg h]
    omega
  · have e : hd x * f = -(-(hd x * f)) := by omega
    rw [e, Int.neg_tdiv, Int.tdiv_eq_ediv_of_nonneg (by omega)]
    omega

set_option maxHeartbeats 1000000 in
theorem part_any (x f : Int) (hx : I32 x) (hf : 0 ≤ f ∧ f ≤ 32767) (w : World) : Calls Tryd.prog 19 #[.int .i32 x, .int .i32 f] w fun e w' => e = .returned (.int .i32 (prt x f)) ∧ w = w' := by
  have ch := Lib.hid (fun w => held_any x hx w)
  have hb := prt_b x f hf
  obtain ⟨h1, h2⟩ := hd_b x
  have m1 : -549755813888 ≤ hd x * f ∧ hd x * f ≤ 549755813888 := by
    constructor
    · rcases Int.le_total 0 (hd x) with h | h
      · have := Int.mul_nonneg h hf.1
        omega
      · have a := Int.mul_le_mul_of_nonneg_left (show f ≤ 32768 by omega) (show 0 ≤ -hd x by omega)
        rw [Int.neg_mul] at a
        omega
    · rcases Int.le_total 0 (hd x) with h | h
      · have a := Int.mul_le_mul_of_nonneg_left (show f ≤ 32768 by omega) h
        omega
      · have a := Int.mul_nonneg (show 0 ≤ -hd x by omega) hf.1
        rw [Int.neg_mul] at a
        omega
  unfold prt at hb ⊢
  obtain ⟨H, hH⟩ : ∃ H, H = hd x := ⟨_, rfl⟩
  rw [← hH] at ch hb m1 ⊢
  obtain ⟨M, hM⟩ : ∃ M, H * f = M := ⟨_, rfl⟩
  rw [hM] at hb m1 ⊢
  clear hH h1 h2
  have e1 : IntKind.i64.wrap M = M := by rw [IntKind.wrap_i64]; omega
  have e2 : IntKind.i32.wrap (M.tdiv 32768) = M.tdiv 32768 := by rw [IntKind.wrap_i32]; omega
  have e3 : wrap64 M = M := by unfold wrap64; omega
  obtain ⟨R, hR⟩ : ∃ R, M.tdiv 32768 = R := ⟨_, rfl⟩
  rw [hR] at hb e2 ⊢
  go_enter Tryd.func19, Tryd.ntmps19
  go_wp2_with fail
  with_reducible refine Calls.mono (ch.out _) ?_
  rintro e w1 ⟨rfl, rfl⟩
  go_wp2_with fail
  go_ret
  exact ⟨rfl, rfl⟩
end Go.Proofs.YtckcjgmikjpfaaaDoor
