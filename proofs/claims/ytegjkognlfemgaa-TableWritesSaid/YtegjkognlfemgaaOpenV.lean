/- Arguments opened: a slice of numbers. -/
import Derived.Test.YtegjkognlfemgaaRank2
import Derived.OpenShut
import Derived.Deep.Slices
import Derived.Lib.SmallJoins
import Derived.ChangeSlices
namespace Go.Proofs.Ytegjkognlfemgaa
open Go.ChangeShapes Go.WideShapes Go.RowKit Go.Joins

theorem lt_of_cell {w : World} {b : Nat} {off : Nat} {v : Value} (h : w.cell? ⟨b, off, none⟩ = some v) : b < w.heap.size := by
  rcases Nat.lt_or_ge b w.heap.size with hl | hl
  · exact hl
  · simp [World.cell?, Array.getElem?_eq_none hl] at h

theorem open_vec {H : Type} {enc : TypeId × Value → H} {w : World} {base b0 : Nat} {spare : Nat → Bool} {held : Bool} {r : Reach} {v : Value} {d : DataW H} {p : List MemPlace}
    (h : DataW.Trod enc Try.prog w base spare held 40 v d p) (hv : Value.okWide Try.prog w r b0 40 v) : ∃ zs, IsVec w v zs ∧ (∀ x ∈ zs, Num x) ∧ zs.length ≤ 9223372036854775807 := by
  obtain ⟨a, len, cap, rfl⟩ := okWide_slice Try.underlying40 hv
  obtain ⟨fuel, hf⟩ := h
  rcases open_ints Try.underlying40 Try.underlying3 (by kernel_rfl) hf with ⟨hcs, _⟩ | ⟨x, l, c, zs, hcs, _, hl, hm, hz, _, hcell, hwz⟩
  · simp [Value.cells] at hcs
    obtain ⟨rfl, rfl, rfl⟩ := hcs
    exact ⟨[], .inl ⟨_, _, rfl, rfl⟩, by simp, by simp⟩
  · simp [Value.cells] at hcs
    obtain ⟨rfl, rfl, rfl⟩ := hcs
    have hle : len ≤ zs.length := by rw [hz]; split <;> omega
    have hlen : (zs.take len).length = len := by rw [List.length_take]; omega
    unfold maxLen at hm
    refine ⟨zs.take len, ?_, ?_, by omega⟩
    · rcases Nat.eq_zero_or_pos len with h0 | hp
      · subst h0
        exact .inl ⟨_, _, rfl, by simp⟩
      · have hspot : x.spot = none := by simpa [Addr.add] using World.cell?_spot (hcell 0 (by omega))
        obtain ⟨b, off, s⟩ := x
        simp only at hspot
        subst hspot
        have hc : ∀ j, j < len → w.cell? ⟨b, off + j, none⟩ = some (.int .i64 ((zs.take len).getD j 0)) := by
          intro j hj
          have := hcell j (by omega)
          rw [add_plain] at this
          rw [this]
          have hx : j < zs.length := by omega
          simp [hj, hx]
        exact .inr ⟨b, off, cap, by rw [hlen], by omega, lt_of_cell (hc 0 hp), fun j hj => hc j (by omega)⟩
    · intro y hy
      have := hwz y (List.mem_of_mem_take hy)
      exact bounds_i64 this
end Go.Proofs.Ytegjkognlfemgaa
