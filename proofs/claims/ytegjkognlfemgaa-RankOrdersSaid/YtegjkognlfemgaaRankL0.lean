/- Which of two vectors goes ahead, by their ranks. -/
import Derived.Test.YtegjkognlfemgaaRank9
namespace Go.Proofs.Ytegjkognlfemgaa
open Go.RowKit

theorem unr_small0 {n k i : Nat} (hn : n ≤ 16) (hk : k ≤ 32) (hi : i < V n k) : ∀ x ∈ unr n k i, -32 ≤ x ∧ x ≤ 32 := by
  obtain ⟨h1, h2, h3⟩ := unr_spec n k i hn hk hi
  intro x hx
  obtain ⟨j, hj⟩ := List.getElem?_of_mem hx
  have hm := ms_mem (unr n k i) j
  have : (unr n k i).getD j 0 = x := by rw [List.getD_eq_getElem?_getD, hj]; rfl
  rw [this] at hm
  omega

theorem small_within0 {zs : List Int} (h : ∀ x ∈ zs, -32 ≤ x ∧ x ≤ 32) : within zs := fun j => by
  by_cases hj : j < zs.length
  · have := h (zs.getD j 0) (by simp [hj])
    omega
  · simp [show ¬ j < zs.length from hj]
theorem bef_unr0 {a c i j : Nat} (ha : a ≤ 16) (hc : c ≤ 32) (hi : i < V a c) (hj : j < V a c) : befL (unr a c i) (unr a c j) = decide (i < j) := by
  obtain ⟨h1, h2, h3⟩ := unr_spec a c i ha hc hi
  obtain ⟨k1, k2, k3⟩ := unr_spec a c j ha hc hj
  unfold befL
  rw [bef_rk _ _ (by omega) (by omega) (by omega) (by omega), h1, k1, h3, k3]
  simp


end Go.Proofs.Ytegjkognlfemgaa
