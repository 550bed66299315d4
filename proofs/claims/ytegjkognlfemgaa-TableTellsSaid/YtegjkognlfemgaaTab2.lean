/- Contracts of the table's V and of a row's ahead. -/
import Derived.Test.YtegjkognlfemgaaTab0
namespace Go.Proofs.Ytegjkognlfemgaa
open Go.RowKit

/-- A whole table. -/
def TabOK (T : Nat → Nat) : Prop := ∀ r, r < 17 → RowOK T r
def IsTab (w : World) (g : Nat) : Prop := ∃ T, Tab w g T ∧ TabOK T
theorem IsTab.v {w : World} {g : Nat} (h : IsTab w g) {n k : Nat} (hn : n < 17) (hk : k < 33) : w.cell? ⟨g, n * 67 + k, none⟩ = some (.int .u64 (V n k : Nat)) := by
  obtain ⟨T, h1, h2⟩ := h
  rw [h1.cell (by omega), (h2 n hn).1 k hk]
theorem IsTab.s {w : World} {g : Nat} (h : IsTab w g) {n k : Nat} (hn : n < 17) (hk : k < 34) : w.cell? ⟨g, n * 67 + 33 + k, none⟩ = some (.int .u64 (cum n k : Nat)) := by
  obtain ⟨T, h1, h2⟩ := h
  rw [h1.cell (by omega), (h2 n hn).2 k hk]
theorem IsTab.below {w w' : World} {g : Nat} (h : IsTab w g) (hb : Below w.heap.size w w') : IsTab w' g := by
  obtain ⟨T, h1, h2⟩ := h
  exact ⟨T, h1.below hb, h2⟩
theorem IsTab.drewN {w : World} {g : Nat} (h : IsTab w g) (n : Nat) : IsTab (w.drewN n) g := h.below (below_drewN (Below.refl _ _) n)
theorem IsTab.grown {w w' : World} {g : Nat} {row : Option Nat} (h : IsTab w g) (hg : w.grownBy w' row) (hr : row ≠ some g) : IsTab w' g := by
  obtain ⟨T, h1, h2⟩ := h
  exact ⟨T, h1.grown hg hr, h2⟩
theorem IsTab.lt {w : World} {g : Nat} (h : IsTab w g) : g < w.heap.size := by
  obtain ⟨T, h1, h2⟩ := h
  exact h1.lt

set_option maxHeartbeats 4000000 in
theorem tabV_any (n k : Int) (w : World) (g : Nat) (h : IsTab w g) :
    Calls Try.prog 33 #[.pointer (some ⟨g, 0, none⟩), .int .i64 n, .int .i64 k] w fun e w' => e = .returned (.int .u64 (VZ n k)) ∧ w = w' := by
  by_cases hr : 0 ≤ n ∧ n ≤ 16 ∧ 0 ≤ k ∧ k ≤ 32
  · obtain ⟨n, rfl⟩ := Int.eq_ofNat_of_zero_le hr.1
    obtain ⟨k, rfl⟩ := Int.eq_ofNat_of_zero_le hr.2.2.1
    have hc := h.v (n := n) (k := k) (by omega) (by omega)
    have hV : VZ n k = ((V n k : Nat) : Int) := by rw [VZ_nat ⟨by omega, by omega, by omega, by omega⟩, Int.toNat_natCast, Int.toNat_natCast]
    rw [hV]
    clear hV h
    have h1 : ¬ ((n : Int) < 0) := by omega
    have h2 : ¬ (16 < (n : Int)) := by omega
    have h3 : ¬ ((k : Int) < 0) := by omega
    have h4 : ¬ (32 < (k : Int)) := by omega
    go_enter Try.func33, Try.ntmps33
    go_wp2
    go_ret
    exact ⟨rfl, rfl⟩
  · have hV : VZ n k = 0 := VZ_out (by unfold RightP; exact hr)
    rw [hV]
    clear hV h
    by_cases h1 : n < 0
    · go_enter Try.func33, Try.ntmps33
      go_wp2
      go_ret
      exact ⟨rfl, rfl⟩
    · by_cases h2 : 16 < n
      · go_enter Try.func33, Try.ntmps33
        go_wp2
        go_ret
        exact ⟨rfl, rfl⟩
      · by_cases h3 : k < 0
        · go_enter Try.func33, Try.ntmps33
          go_wp2
          go_ret
          exact ⟨rfl, rfl⟩
        · have h4 : 32 < k := by omega
          go_enter Try.func33, Try.ntmps33
          go_wp2
          go_ret
          exact ⟨rfl, rfl⟩

theorem ahead_sum (n k m : Nat) (hm : 1 ≤ m) (hmk : m ≤ k) : ahN n k (2 * m - 1) + 2 * cum n (k - m + 1) = V n k + 2 * cum n k := by
  have h := ahN_odd n k (m - 1) (by omega)
  rw [show 2 * (m - 1) + 1 = 2 * m - 1 from by omega, show k - (m - 1) = k - m + 1 from by omega] at h
  exact h

set_option maxHeartbeats 4000000 in
theorem tahead_any (n k m : Nat) (hn : n < 16) (hm : 1 ≤ m) (hmk : m ≤ k) (hk : k ≤ 32) (w : World) (g : Nat) (h : IsTab w g) (k' m' : Int) (ek : k' = k) (em : m' = m) :
    Calls Try.prog 47 #[.pointer (some ⟨g, n * 67, none⟩), .int .i64 k', .int .i64 m'] w fun e w' => e = .returned (.int .u64 (ahN n k (2 * m - 1) : Nat)) ∧ ∃ d, w' = w.drewN d := by
  subst ek em
  have c0 := h.v (n := n) (k := k) (by omega) (by omega)
  have c1 := h.s (n := n) (k := k) (by omega) (by omega)
  have c2 := h.s (n := n) (k := k - m + 1) (by omega) (by omega)
  have hs := ahead_sum n k m hm hmk
  have hle := ahN_le n k (2 * m - 1) (by omega) (by omega)
  have hVb := V_lt (n + 1) (by omega) k (by omega)
  have hC1 := cum_lt n (by omega) k (by omega)
  have hC2 := cum_lt n (by omega) (k - m + 1) (by omega)
  have hV0 := V_lt n (by omega) k (by omega)
  obtain ⟨A, hA⟩ : ∃ A, A = ahN n k (2 * m - 1) := ⟨_, rfl⟩
  obtain ⟨C1, hC1e⟩ : ∃ C, C = cum n k := ⟨_, rfl⟩
  obtain ⟨C2, hC2e⟩ : ∃ C, C = cum n (k - m + 1) := ⟨_, rfl⟩
  obtain ⟨V0, hV0e⟩ : ∃ C, C = V n k := ⟨_, rfl⟩
  rw [← hA] at hs hle ⊢
  rw [← hC1e] at hs c1 hC1
  rw [← hC2e] at hs c2 hC2
  rw [← hV0e] at hs c0 hV0
  have hCC : C2 ≤ C1 + V0 := by omega
  have e1 : IntKind.i64.wrap ((k : Int) - (m : Int)) = ((k - m : Nat) : Int) := by rw [IntKind.wrap_i64]; omega
  have e2 : IntKind.i64.wrap (((k - m : Nat) : Int) + 1) = ((k - m + 1 : Nat) : Int) := by rw [IntKind.wrap_i64]; omega
  have e3 : IntKind.u64.wrap ((V0 : Int) + IntKind.u64.wrap (2 * IntKind.u64.wrap ((C1 : Int) - (C2 : Int)))) = (A : Int) := by
    rw [IntKind.wrap_u64, IntKind.wrap_u64, IntKind.wrap_u64]
    omega
  obtain ⟨X1, hX1⟩ : ∃ X, X = IntKind.u64.wrap ((C1 : Int) - (C2 : Int)) := ⟨_, rfl⟩
  rw [← hX1] at e3
  obtain ⟨X2, hX2⟩ : ∃ X, X = IntKind.u64.wrap (2 * X1) := ⟨_, rfl⟩
  rw [← hX2] at e3
  obtain ⟨K, hK⟩ : ∃ K, K = k - m := ⟨_, rfl⟩
  rw [← hK] at e1 e2 c2
  have hKb : K + 1 ≤ 33 := by omega
  have hKb2 : 0 ≤ (K : Int) + 1 := by omega
  replace hX1 := hX1.symm
  replace hX2 := hX2.symm
  clear hs hle hVb hC1 hC2 hV0 hA hC1e hC2e hV0e hCC hK h
  go_enter Try.func47, Try.ntmps47
  go_wp2_with fail
  go_quiet (fail)
  go_wp2_with fail
  go_ret
  exact ⟨rfl, _, rfl⟩
end Go.Proofs.Ytegjkognlfemgaa
