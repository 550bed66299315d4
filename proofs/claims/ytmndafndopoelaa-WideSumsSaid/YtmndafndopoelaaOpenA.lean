/- Arguments opened: a slice of wide numbers. -/
import Derived.Test.YtmndafndopoelaaCan
import Derived.OpenShut
import Derived.Deep.Slices
import Derived.Lib.SmallJoins
namespace Go.Proofs.Ytmndafndopoelaa
open Go.RowKit
open Go.ChangeShapes Go.WideShapes Go.Joins

theorem cell_hasA {w : World} {b o : Nat} {x : Value} (h : w.cell? ⟨b, o, none⟩ = some x) : b < w.heap.size := by
  rcases Nat.lt_or_ge b w.heap.size with hl | hl
  · exact hl
  · simp [World.cell?, Array.getElem?_eq_none hl] at h
theorem open_accs {H : Type} {enc : TypeId × Value → H} {w : World} {base b0 : Nat} {spare : Nat → Bool} {held : Bool} {r : Reach} {v : Value} {d : DataW H} {p : List MemPlace}
    (h : DataW.Trod enc Try.prog w base spare held 34 v d p) (hv : Value.okWide Try.prog w r b0 34 v) : ∃ L, IsAccs w v L ∧ L.length ≤ 9223372036854775807 := by
  obtain ⟨a, len, cap, rfl⟩ := okWide_slice Try.underlying34 hv
  obtain ⟨fuel, hf⟩ := h
  rcases Go.Deep.open_slice Try.underlying34 hf with ⟨hcs, _⟩ | ⟨x, l, c, m, n, D, Pl, hcs, _, hl, hm, hmm, _, hx⟩
  · simp [Value.cells] at hcs
    obtain ⟨rfl, rfl, rfl⟩ := hcs
    exact ⟨[], ⟨none, 0, rfl, fun j hj => by simp at hj⟩, by simp⟩
  · simp [Value.cells] at hcs
    obtain ⟨rfl, rfl, rfl⟩ := hcs
    have hlm : len ≤ m := by rw [hmm]; split <;> omega
    have each : ∀ i, i < m → ∃ Z : Int, w.cell? (x.add (i * 2)) = some (.int .i64 (HH Z)) ∧ w.cell? (x.add (i * 2 + 1)) = some (.int .u64 (LL Z)) := by
      intro i hi
      obtain ⟨cs, h1, h2⟩ := hx i hi
      have c24 : Try.prog.cellsOf 24 = 2 := by kernel_rfl
      have c2 : Try.prog.cellsOf 2 = 1 := by kernel_rfl
      have c22 : Try.prog.cellsOf 22 = 1 := by kernel_rfl
      rw [c24] at h1
      obtain ⟨_, hlen, hcell⟩ := World.cells?_some h1
      obtain ⟨y0, y1, k, _, _, g0, g1⟩ := trod_struct2 Try.underlying24 h2
      match cs, hlen with
      | [v0, v1], _ =>
        simp only [c2, c22] at g0 g1
        have e0 := hcell 0 (by omega)
        have e1 := hcell 1 (by omega)
        rw [Go.Deep.add_add] at e0 e1
        obtain ⟨z0, r0, -, w0⟩ := DataW.trod_int Try.underlying2 g0
        obtain ⟨z1, r1, -, w1⟩ := DataW.trod_int Try.underlying22 g1
        simp at r0 r1
        subst r0
        subst r1
        have b0 := bounds_i64 w0
        have b1 := bounds_u64 w1
        have R : Rep z0 z1 (z0 * 18446744073709551616 + z1) := by constructor <;> omega
        obtain ⟨k0, k1⟩ := can_of R
        refine ⟨z0 * 18446744073709551616 + z1, ?_, ?_⟩
        · rw [← k0]; simpa using e0
        · rw [← k1]; simpa using e1
    obtain ⟨q, hq⟩ := Go.Deep.choose_lt each
    have hlen : ((List.range len).map q).length = len := by simp
    unfold maxLen at hm
    refine ⟨(List.range len).map q, ⟨some x, cap, by rw [hlen], fun j hj => ?_⟩, by omega⟩
    rw [hlen] at hj ⊢
    obtain ⟨q0, q1⟩ := hq j (by omega)
    have hspot : x.spot = none := by simpa [Addr.add] using World.cell?_spot (hq 0 (by omega)).1
    obtain ⟨b, off, s⟩ := x
    simp only at hspot
    subst hspot
    rw [add_plain] at q0 q1
    have hg : ((List.range len).map q).getD j 0 = q j := by simp [hj]
    rw [hg]
    exact ⟨b, off, rfl, hl, cell_hasA q0, q0, q1⟩
end Go.Proofs.Ytmndafndopoelaa
