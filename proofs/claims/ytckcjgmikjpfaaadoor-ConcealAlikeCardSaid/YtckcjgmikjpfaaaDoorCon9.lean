/- What the rows of the conceal laws share: the fades out of the listed variable, an array of 32 numbers opened. -/
import Derived.Test.YtckcjgmikjpfaaaDoorRows
import Derived.Test.YtckcjgmikjpfaaaDoorCon7
import Derived.ProofKit
import Derived.LaidMore
import Derived.OpenShut
import Derived.Lay
import Derived.LaidOnce
import Derived.Stop.Joined
import Derived.Deep.Slices
import Derived.Lib.SmallJoins
import Derived.ChangeSlices
namespace Go.Proofs.YtckcjgmikjpfaaaDoor
open Go.ChangeShapes Go.WideShapes Go.ChangeAt Go.RowKit Go.Joins

noncomputable def laidU : List (String × DataW Unit) := [("spinet/conceal.fades", Rows.laid_spinet_conceal_fades)]
theorem gFades : Tryd.prog.globalNamed "spinet/conceal.fades" = some 0 := by kernel_rfl
theorem tFades : (Tryd.prog.globals[0]?).map (·.type) = some 44 := by kernel_rfl
theorem cells21 : Tryd.prog.cellsOf 21 = 1 := by kernel_rfl
theorem cells22 : Tryd.prog.cellsOf 22 = 32 := by kernel_rfl
theorem cells44 : Tryd.prog.cellsOf 44 = 5 := by kernel_rfl

/-- What the condition gives the walks: the table's five cells. -/
theorem fades_var {W : World} (h : laidMetH Tryd.prog laidU W) : W.var? Tryd.prog "spinet/conceal.fades" = some #[.int .i32 0, .int .i32 29491, .int .i32 22937, .int .i32 13107, .int .i32 4915] := by
  rw [MakeChecks.laidMetH_plain _ _ _ (by kernel_rfl)] at h
  obtain ⟨ps, ⟨g, t, cs, fuel, p, q, hg, ht, hv, hd, _, _⟩, _, _⟩ := h
  obtain rfl := Option.some.inj (gFades.symm.trans hg)
  obtain rfl := Option.some.inj (tFades.symm.trans ht)
  obtain ⟨xs, m, _, ex, hlen, hl, hel⟩ := DataW.trod_array Tryd.underlying44 hd
  rw [cells44] at hlen
  obtain ⟨l⟩ := cs
  match l, hlen with
  | [a, b, c, d, e], _ =>
    match xs, hl with
    | [x0, x1, x2, x3, x4], _ =>
      have e3 := (DataW.agg.inj (Prod.mk.inj ex).1)
      simp only [List.map_cons, List.map_nil, List.cons.injEq, and_true] at e3
      have k0 := hel 0 (by omega)
      have k1 := hel 1 (by omega)
      have k2 := hel 2 (by omega)
      have k3 := hel 3 (by omega)
      have k4 := hel 4 (by omega)
      rw [cells21] at k0 k1 k2 k3 k4
      obtain ⟨z0, a0, b0, _⟩ := DataW.trod_int Tryd.underlying21 k0
      obtain ⟨z1, a1, b1, _⟩ := DataW.trod_int Tryd.underlying21 k1
      obtain ⟨z2, a2, b2, _⟩ := DataW.trod_int Tryd.underlying21 k2
      obtain ⟨z3, a3, b3, _⟩ := DataW.trod_int Tryd.underlying21 k3
      obtain ⟨z4, a4, b4, _⟩ := DataW.trod_int Tryd.underlying21 k4
      rw [hv]
      simp_all
theorem fades_of_laid {W : World} (h : laidMetH Tryd.prog laidU W) : Fades W ∧ 0 < W.heap.size := by
  have hv := fades_var h
  have hcell := fun j => World.var?_cell gFades hv j
  have hc : ∀ i : Nat, i < 5 → W.cell? ⟨0, i, none⟩ = some (.int .i32 (fdv i)) := fun i hi => by
    rw [hcell]
    have : i = 0 ∨ i = 1 ∨ i = 2 ∨ i = 3 ∨ i = 4 := by omega
    rcases this with rfl | rfl | rfl | rfl | rfl <;> rfl
  refine ⟨hc, ?_⟩
  have h0 := hc 0 (by omega)
  rcases Nat.eq_zero_or_pos W.heap.size with h | h
  · simp [World.cell?, h] at h0
  · exact h

/-- A laid world meets the condition. -/
theorem laid_met (os : Os) (args : Array Value) : laidMetH Tryd.prog laidU ((World.laidAll Tryd.prog os laidU).forCall (fun _ _ => 0) ⟨#[], args, []⟩).memory := by
  rw [MakeChecks.laidMetH_plain _ _ _ (by kernel_rfl)]
  exact laidMet_laidAll _ (by kernel_rfl) (by kernel_rfl)

/-- An array of 32 numbers, opened. -/
theorem open_hist {H : Type} {enc : TypeId × Value → H} {W : World} {base b0 : Nat} {spare : Nat → Bool} {held : Bool} {r : Reach} {v : Value} {d : DataW H} {p : List MemPlace}
    (h : DataW.Trod enc Tryd.prog W base spare held 22 v d p) (hv : Value.okWide Tryd.prog W r b0 22 v) :
    ∃ hs : List Int, v = .agg (hs.map (Value.int .i32)).toArray ∧ hs.length = 32 ∧ ∀ j, I32 (hs.getD j 0) := by
  obtain ⟨cs, rfl, hsz, _⟩ : ∃ cs, v = .agg cs ∧ cs.size = Tryd.prog.cellsOf 22 ∧ Row.okWide Tryd.prog W r b0 22 cs := by
    simpa [Value.okWide, Tryd.underlying22] using hv
  rw [cells22] at hsz
  obtain ⟨fuel, hf⟩ := h
  obtain ⟨xs, m, _, _, _, hl, hel⟩ := DataW.trod_array Tryd.underlying22 hf
  have hall : ∀ i, i < 32 → ∃ n, cs[i]? = some (.int .i32 n) ∧ (Lit.int .i32 n).wf = true := fun i hi => by
    have he := hel i hi
    rw [cells21] at he
    have hx : ∃ x, xs[i]? = some x := ⟨xs[i]'(by omega), by rw [List.getElem?_eq_getElem]⟩
    obtain ⟨x, hx⟩ := hx
    rw [hx] at he
    obtain ⟨n, e1, _, e3⟩ := DataW.trod_int Tryd.underlying21 he
    refine ⟨n, ?_, e3⟩
    have e1' : ((Value.agg cs).cells.toList.drop (i * 1)).take 1 = [.int .i32 n] := e1
    have : cs.toList[i]? = some (.int .i32 n) := by
      have e2 := congrArg (·[0]?) e1'
      have e3 : (Value.agg cs).cells = cs := rfl
      rw [e3] at e2
      simpa using e2
    simpa using this
  refine ⟨cs.toList.map intOf, ?_, by simpa using hsz, fun j => ?_⟩
  · congr 1
    apply Array.ext
    · simp
    · intro i h1 h2
      obtain ⟨n, e1, _⟩ := hall i (by omega)
      have e1 : cs[i] = .int .i32 n := by
        rw [Array.getElem?_eq_getElem h1] at e1
        exact Option.some.inj e1
      simp [e1, intOf]
  · by_cases hj : j < 32
    · obtain ⟨n, e1, e2⟩ := hall j hj
      have e3 : (cs.toList.map intOf).getD j 0 = n := by
        rw [List.getD_eq_getElem?_getD, List.getElem?_map, Array.getElem?_toList, e1]
        rfl
      rw [e3]
      unfold I32
      simpa [Lit.wf, IntKind.min, IntKind.max, IntKind.signed, IntKind.bits] using e2
    · rw [List.getD_eq_getElem?_getD, List.getElem?_eq_none (by simp [hsz]; omega)]
      unfold I32
      simp
theorem lt_of_cell {w : World} {b : Nat} {off : Nat} {v : Value} (h : w.cell? ⟨b, off, none⟩ = some v) : b < w.heap.size := by
  rcases Nat.lt_or_ge b w.heap.size with hl | hl
  · exact hl
  · simp [World.cell?, Array.getElem?_eq_none hl] at h
/-- A slice of numbers, opened. -/
theorem open_h32 {H : Type} {enc : TypeId × Value → H} {w : World} {base b0 : Nat} {spare : Nat → Bool} {held : Bool} {r : Reach} {v : Value} {d : DataW H} {p : List MemPlace}
    (h : DataW.Trod enc Tryd.prog w base spare held 24 v d p) (hv : Value.okWide Tryd.prog w r b0 24 v) : ∃ zs, IsH w v zs := by
  obtain ⟨a, len, cap, rfl⟩ := okWide_slice Tryd.underlying24 hv
  obtain ⟨fuel, hf⟩ := h
  rcases open_ints Tryd.underlying24 Tryd.underlying21 (by kernel_rfl) hf with ⟨hcs, _⟩ | ⟨x, l, c, zs, hcs, _, hl, hm, hz, _, hcell, hwz⟩
  · simp [Value.cells] at hcs
    obtain ⟨rfl, rfl, rfl⟩ := hcs
    exact ⟨[], _, _, rfl, fun j hj => by simp at hj⟩
  · simp [Value.cells] at hcs
    obtain ⟨rfl, rfl, rfl⟩ := hcs
    have hle : len ≤ zs.length := by rw [hz]; split <;> omega
    have hlen : (zs.take len).length = len := by rw [List.length_take]; omega
    refine ⟨zs.take len, some x, cap, by rw [hlen], fun j hj => ?_⟩
    rw [hlen] at hj
    have hspot : x.spot = none := by simpa [Addr.add] using World.cell?_spot (hcell 0 (by omega))
    obtain ⟨b, off, s⟩ := x
    simp only at hspot
    subst hspot
    have hx : j < zs.length := by omega
    have hc : w.cell? ⟨b, off + j, none⟩ = some (.int .i32 ((zs.take len).getD j 0)) := by
      have := hcell j (by omega)
      rw [add_plain] at this
      rw [this]
      simp [hj, hx]
    refine ⟨b, off, rfl, by rw [hlen]; exact hl, lt_of_cell hc, hc, ?_⟩
    have e : (zs.take len).getD j 0 = zs[j] := by simp [hj, hx]
    rw [e]
    have := hwz zs[j] (List.getElem_mem hx)
    unfold I32
    simpa [Lit.wf, IntKind.min, IntKind.max, IntKind.signed, IntKind.bits] using this
end Go.Proofs.YtckcjgmikjpfaaaDoor
