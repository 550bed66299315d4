/- Arguments opened: a slice of arrays of two numbers. -/
import Derived.Test.YtegjkognlfemgaaBooks
import Derived.OpenShut
import Derived.Deep.Slices
import Derived.Lib.SmallJoins
namespace Go.Proofs.Ytegjkognlfemgaa
open Go.ChangeShapes Go.WideShapes Go.RowKit Go.Joins

theorem cell_lt {w : World} {b : Nat} {off : Nat} {v : Value} (h : w.cell? ⟨b, off, none⟩ = some v) : b < w.heap.size := by
  rcases Nat.lt_or_ge b w.heap.size with hl | hl
  · exact hl
  · simp [World.cell?, Array.getElem?_eq_none hl] at h

theorem plain_of {w : World} {a : Addr} {v : Value} (h : w.cell? a = some v) (hs : a.spot = none) : ∃ b off, a = ⟨b, off, none⟩ := by
  obtain ⟨b, off, s⟩ := a
  exact ⟨b, off, by simp_all⟩

theorem open_pairs {H : Type} {enc : TypeId × Value → H} {w : World} {base b0 : Nat} {spare : Nat → Bool} {held : Bool} {r : Reach} {v : Value} {d : DataW H} {p : List MemPlace}
    (h : DataW.Trod enc Try.prog w base spare held 35 v d p) (hv : Value.okWide Try.prog w r b0 35 v) : ∃ len f g, IsPairs w v len f g := by
  obtain ⟨a, len, cap, rfl⟩ := okWide_slice Try.underlying35 hv
  obtain ⟨fuel, hf⟩ := h
  rcases Go.Deep.open_slice Try.underlying35 hf with ⟨hcs, _⟩ | ⟨x, l, c, m, n, D, Pl, hcs, _, hl, hm, hmm, _, hx⟩
  · simp [Value.cells] at hcs
    obtain ⟨rfl, rfl, rfl⟩ := hcs
    exact ⟨0, fun _ => 0, fun _ => 0, .inl ⟨_, _, rfl, rfl⟩⟩
  · simp [Value.cells] at hcs
    obtain ⟨rfl, rfl, rfl⟩ := hcs
    have hlm : len ≤ m := by rw [hmm]; split <;> omega
    have each : ∀ i, i < m → ∃ q : Int × Int, w.cell? (x.add (i * 2)) = some (.int .i64 q.1) ∧ w.cell? (x.add (i * 2 + 1)) = some (.int .i64 q.2) := by
      intro i hi
      obtain ⟨cs, h1, h2⟩ := hx i hi
      have c36 : Try.prog.cellsOf 36 = 2 := by kernel_rfl
      have c3 : Try.prog.cellsOf 3 = 1 := by kernel_rfl
      rw [c36] at h1
      obtain ⟨_, hlen, hcell⟩ := World.cells?_some h1
      obtain ⟨xs, k, _, _, _, hxl, hxe⟩ := DataW.trod_array Try.underlying36 h2
      match cs, hlen, xs, hxl with
      | [v0, v1], _, [y0, y1], _ =>
        have g0 := hxe 0 (by omega)
        have g1 := hxe 1 (by omega)
        rw [c3] at g0 g1
        have e0 := hcell 0 (by omega)
        have e1 := hcell 1 (by omega)
        rw [Go.Deep.add_add] at e0 e1
        obtain ⟨z0, r0, -, -⟩ := DataW.trod_int Try.underlying3 g0
        obtain ⟨z1, r1, -, -⟩ := DataW.trod_int Try.underlying3 g1
        simp at r0 r1
        subst r0
        subst r1
        exact ⟨(z0, z1), by simpa using e0, by simpa using e1⟩
    obtain ⟨q, hq⟩ := Go.Deep.choose_lt each
    rcases Nat.eq_zero_or_pos len with h0 | hp
    · subst h0
      exact ⟨0, fun _ => 0, fun _ => 0, .inl ⟨_, _, rfl, rfl⟩⟩
    · have hspot : x.spot = none := by simpa [Addr.add] using World.cell?_spot (hq 0 (by omega)).1
      obtain ⟨b, off, s⟩ := x
      simp only at hspot
      subst hspot
      refine ⟨len, fun i => (q i).1, fun i => (q i).2, .inr ⟨b, off, cap, rfl, hl, ?_, ?_⟩⟩
      · have := (hq 0 (by omega)).1
        rw [add_plain] at this
        exact cell_lt this
      · intro j hj
        have := hq j (by omega)
        rw [add_plain, add_plain] at this
        exact this
end Go.Proofs.Ytegjkognlfemgaa
