/- Contracts of the reference's Pulses, Right and Rank. -/
import Derived.Test.YtegjkognlfemgaaRank2
import Derived.Test.YtegjkognlfemgaaRankM
namespace Go.Proofs.Ytegjkognlfemgaa
open Go.RowKit

theorem quietL {f : FuncId} {args : Array Value} {w : World} {n : Nat} {v : Value} (h : Calls Try.prog f args (w.drewN n) fun e w' => e = .returned v ∧ w.drewN n = w') :
    Calls Try.prog f args (w.drewN n) fun e w'' => e = .returned v ∧ ∃ m, w'' = w.drewN m := h.mono fun _ _ ⟨he, hm⟩ => ⟨he, n, hm.symm⟩
theorem quietAL {f : FuncId} {args : Array Value} {w : World} {a n : Nat} {v : Value} (h : Calls Try.prog f args (w.drewN (a + n)) fun e w' => e = .returned v ∧ w.drewN (a + n) = w') :
    Calls Try.prog f args (w.drewN (a + n)) fun e w'' => e = .returned v ∧ ∃ m, w'' = w.drewN (a + m) := h.mono fun _ _ ⟨he, hm⟩ => ⟨he, n, hm.symm⟩

theorem IsVec.form {w : World} {v : Value} {zs : List Int} (h : IsVec w v zs) : ∃ A cap, v = .slice A zs.length cap ∧ ∀ j, j < zs.length → ∃ b off, A = some ⟨b, off, none⟩ ∧ zs.length ≤ cap ∧ b < w.heap.size ∧ w.cell? ⟨b, off + j, none⟩ = some (.int .i64 (zs.getD j 0)) := by
  rcases h with ⟨ao, cap, rfl, rfl⟩ | ⟨b, off, cap, rfl, h1, h2, h3⟩
  · exact ⟨ao, cap, rfl, fun j hj => by simp at hj⟩
  · exact ⟨_, cap, rfl, fun j hj => ⟨b, off, rfl, h1, h2, h3 j hj⟩⟩
theorem IsVec.below {w w' : World} {v : Value} {zs : List Int} (h : IsVec w v zs) (hb : Below w.heap.size w w') : IsVec w' v zs := by
  rcases h with h | ⟨b, off, cap, rfl, h1, h2, h3⟩
  · exact .inl h
  · exact .inr ⟨b, off, cap, rfl, h1, Nat.lt_of_lt_of_le h2 hb.size, fun j hj => (hb.cell (p := ⟨b, off + j, none⟩) h2).trans (h3 j hj)⟩
theorem ms_take : ∀ (zs : List Int) (j : Nat), j < zs.length → ms (zs.take (j + 1)) = ms (zs.take j) + (zs.getD j 0).natAbs
  | x :: r, 0, _ => by simp [ms]
  | x :: r, j + 1, h => by
    have := ms_take r j (by simpa using h)
    simp only [List.take_succ_cons, ms, List.getD_cons_succ]
    omega
theorem ms_mem : ∀ (zs : List Int) (j : Nat), (zs.getD j 0).natAbs ≤ ms zs
  | [], j => by simp
  | x :: r, 0 => by simp [ms]
  | x :: r, j + 1 => by
    have := ms_mem r j
    simp only [List.getD_cons_succ, ms]
    omega
theorem ms_take_le (zs : List Int) (j : Nat) : ms (zs.take j) ≤ ms zs := by
  induction zs generalizing j with
  | nil => simp [ms]
  | cons x r ih =>
    cases j with
    | zero => simp [ms]
    | succ j => have := ih j; simp only [List.take_succ_cons, ms]; omega

set_option maxHeartbeats 4000000 in
theorem refPulses_any (zs : List Int) (hm : ms zs ≤ 32) (hlen : zs.length ≤ 1000) (v : Value) (w : World) (hv : IsVec w v zs) :
    Calls Try.prog 29 #[v] w fun e w' => e = .returned (.int .i64 (ms zs : Nat)) ∧ w = w' := by
  obtain ⟨A, cap, rfl, hat⟩ := hv.form
  replace hat := Lib.hid hat
  clear hv
  obtain ⟨len, hlen2⟩ : ∃ len, len = zs.length := ⟨_, rfl⟩
  rw [← hlen2] at hlen ⊢
  have hL := Lib.hid hlen2
  clear hlen2
  have hmh := Lib.hid hm
  clear hm
  go_enter Try.func29, Try.ntmps29
  go_wp2
  go_loop [3, 4] (fun s i => ∃ j : Nat, j ≤ len ∧ i = .int .i64 j ∧ s = .int .i64 (ms (zs.take j) : Nat)) (fun _ i => len - (intOf i).toNat)
  case atStart => exact ⟨0, by omega, rfl, rfl⟩
  case round =>
    obtain ⟨j, hj, rfl, rfl⟩ := hrel
    by_cases hl : j < len
    · obtain ⟨b, off, rfl, hcap, _, hcell⟩ := hat.out j (by rw [← hL.out]; exact hl)
      have hcap : len ≤ cap := by rw [hL.out]; exact hcap
      have hst := Lib.hid (ms_take zs j (by rw [← hL.out]; exact hl))
      have hx := ms_mem zs j
      have ht := ms_take_le zs j
      have hmm := hmh.out
      have hy : -1000 ≤ zs.getD j 0 ∧ zs.getD j 0 ≤ 1000 := by omega
      have cm := fun w => size_any (zs.getD j 0) hy w
      rw [mag_small _ hy] at cm
      obtain ⟨y, hye⟩ : ∃ y, y = zs.getD j 0 := ⟨_, rfl⟩
      obtain ⟨Y, hYe⟩ : ∃ Y, Y = y.natAbs := ⟨_, rfl⟩
      obtain ⟨T, hT⟩ : ∃ T, T = ms (zs.take j) := ⟨_, rfl⟩
      have hTb : T ≤ 32 := by omega
      have hYb : Y ≤ 32 := by rw [hYe, hye]; omega
      rw [← hye] at cm hcell hst
      rw [← hYe] at cm hst
      rw [← hT] at hst ⊢
      clear hx ht hmm hy hye hYe hT
      go_wp2_with fail
      refine (cm _).mono ?_
      rintro e w1 ⟨rfl, rfl⟩
      go_wp2_with fail
      exact ⟨⟨j + 1, by omega, by go_num, by rw [hst.out]; go_num⟩, by simp [intOf]; omega⟩
    · obtain rfl : j = len := by omega
      have ht : zs.take j = zs := by rw [hL.out]; exact List.take_length
      rw [ht]
      clear ht
      go_wp2
      go_ret
      exact ⟨rfl, rfl⟩

/-- A vector of no more than 16 numbers and 32 pulses. -/
def right (zs : List Int) : Bool := decide (zs.length ≤ 16 ∧ ms zs ≤ 32)
def small (zs : List Int) : Prop := ∀ j, (zs.getD j 0).natAbs ≤ 32
theorem right_small {zs : List Int} (h : right zs = true) : small zs := fun j => by
  unfold right at h
  have := ms_mem zs j
  simp at h
  omega

set_option maxHeartbeats 4000000 in
theorem right_any (zs : List Int) (hlen : zs.length ≤ 1000) (v : Value) (w : World) (hv : IsVec w v zs) :
    Calls Try.prog 26 #[v] w fun e w' => e = .returned (.bool (right zs)) ∧ w = w' := by
  obtain ⟨A, cap, rfl, hat⟩ := hv.form
  replace hat := Lib.hid hat
  clear hv
  obtain ⟨len, hlen2⟩ : ∃ len, len = zs.length := ⟨_, rfl⟩
  rw [← hlen2] at hlen ⊢
  have hL := Lib.hid hlen2
  clear hlen2
  by_cases h16 : 16 < len
  · have hr : right zs = false := by unfold right; rw [← hL.out]; simp; omega
    rw [hr]
    clear hr
    go_enter Try.func26, Try.ntmps26
    go_wp2
    go_ret
    exact ⟨rfl, rfl⟩
  · go_enter Try.func26, Try.ntmps26
    go_wp2
    go_loop [3, 4] (fun s i => ∃ j : Nat, j ≤ len ∧ i = .int .i64 j ∧ s = .int .i64 (ms (zs.take j) : Nat) ∧ ms (zs.take j) ≤ 32 * j) (fun _ i => len - (intOf i).toNat)
    case atStart => exact ⟨0, by omega, rfl, rfl, by simp [ms]⟩
    case round =>
      obtain ⟨j, hj, rfl, rfl, hT0⟩ := hrel
      by_cases hl : j < len
      · obtain ⟨b, off, rfl, hcap, _, hcell⟩ := hat.out j (by rw [← hL.out]; exact hl)
        have hcap : len ≤ cap := by rw [hL.out]; exact hcap
        have hst := Lib.hid (ms_take zs j (by rw [← hL.out]; exact hl))
        have hx := Lib.hid (ms_mem zs j)
        obtain ⟨T, hT⟩ : ∃ T, T = ms (zs.take j) := ⟨_, rfl⟩
        rw [← hT] at hst hT0 ⊢
        clear hT
        obtain ⟨y, hye⟩ : ∃ y, y = zs.getD j 0 := ⟨_, rfl⟩
        rw [← hye] at hcell hst hx
        clear hye
        by_cases h1 : 32 < y
        · have hr : right zs = false := by have := hx.out; unfold right; rw [← hL.out]; simp; omega
          replace hr := Lib.hid hr
          go_wp2_with fail
          go_ret
          exact ⟨by rw [hr.out]; rfl, rfl⟩
        · by_cases h2 : y < -32
          · have hr : right zs = false := by have := hx.out; unfold right; rw [← hL.out]; simp; omega
            replace hr := Lib.hid hr
            go_wp2_with fail
            go_ret
            exact ⟨by rw [hr.out]; rfl, rfl⟩
          · have cm := fun w => size_any y (by omega) w
            rw [mag_small _ (by omega)] at cm
            obtain ⟨Y, hYe⟩ : ∃ Y, Y = y.natAbs := ⟨_, rfl⟩
            have hYb : Y ≤ 32 := by omega
            rw [← hYe] at cm hst
            clear hYe
            go_wp2_with fail
            refine (cm _).mono ?_
            rintro e w1 ⟨rfl, rfl⟩
            go_wp2_with fail
            exact ⟨⟨j + 1, by omega, by go_num, by rw [hst.out]; go_num, by rw [hst.out]; omega⟩, by simp [intOf]; omega⟩
      · obtain rfl : j = len := by omega
        have ht : zs.take j = zs := by rw [hL.out]; exact List.take_length
        rw [ht] at hT0 ⊢
        clear ht
        have hr : right zs = decide (((ms zs : Nat) : Int) ≤ 32) := by
          unfold right
          rw [← hL.out, Bool.eq_iff_iff, decide_eq_true_eq, decide_eq_true_eq]
          omega
        replace hr := Lib.hid hr
        go_wp2
        go_ret
        exact ⟨by rw [hr.out]; rfl, rfl⟩
end Go.Proofs.Ytegjkognlfemgaa
