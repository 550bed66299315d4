/- The law ConcealAlike: its walk, whole; a slice of losses opened. -/
import Derived.Test.YtckcjgmikjpfaaaDoorCon17
import Derived.Test.YtckcjgmikjpfaaaDoorCon9
namespace Go.Proofs.YtckcjgmikjpfaaaDoor
open Go.ChangeShapes Go.WideShapes Go.ChangeAt Go.RowKit Go.Joins

theorem alike_walk (s : Int) (hs : List Int) (ls : List Int) (hs0 : 0 ≤ s ∧ s ≤ 255) (hl : hs.length = 32) (hb : ∀ j, I32 (hs.getD j 0)) (v : Value) (w : World) (hv : IsL w v ls) (hF : Fades w) (h0 : 0 < w.heap.size) :
    Calls Tryd.prog 6 #[.int .u8 s, .agg (hs.map (Value.int .i32)).toArray, v] w fun e w' => e = .returned (.bool true) ∧ Below w.heap.size w w' := by
  by_cases h : 12 < ls.length
  · exact alike_big s _ ls h v w hv hF h0
  · exact alike_some s hs ls hs0 hl hb (by omega) v w hv hF h0
/-- A slice of losses, opened. -/
theorem open_l8 {H : Type} {enc : TypeId × Value → H} {w : World} {base b0 : Nat} {spare : Nat → Bool} {held : Bool} {r : Reach} {v : Value} {d : DataW H} {p : List MemPlace}
    (h : DataW.Trod enc Tryd.prog w base spare held 41 v d p) (hv : Value.okWide Tryd.prog w r b0 41 v) : ∃ zs, IsL w v zs := by
  obtain ⟨a, len, cap, rfl⟩ := okWide_slice Tryd.underlying41 hv
  obtain ⟨fuel, hf⟩ := h
  rcases open_ints Tryd.underlying41 Tryd.underlying42 (by kernel_rfl) hf with ⟨hcs, _⟩ | ⟨x, l, c, zs, hcs, _, hl, hm, hz, _, hcell, hwz⟩
  · simp [Value.cells] at hcs
    obtain ⟨rfl, rfl, rfl⟩ := hcs
    exact ⟨[], _, _, rfl, fun j hj => by simp at hj⟩
  · simp [Value.cells] at hcs
    obtain ⟨rfl, rfl, rfl⟩ := hcs
    have hle : len ≤ zs.length := by rw [hz]; split <;> omega
    have hlen : (zs.take len).length = len := by rw [List.length_take]; omega
    refine ⟨zs.take len, some x, cap, by rw [hlen], fun j hj => ?_⟩
    rw [hlen] at hj
    have hspot : x.spot = none := by simpa [Addr.add] using World.cell?_spot (hcell 0 (by omega))
    obtain ⟨b, off, s⟩ := x
    simp only at hspot
    subst hspot
    have hx : j < zs.length := by omega
    have hc : w.cell? ⟨b, off + j, none⟩ = some (.int .i8 ((zs.take len).getD j 0)) := by
      have := hcell j (by omega)
      rw [add_plain] at this
      rw [this]
      simp [hj, hx]
    refine ⟨b, off, rfl, by rw [hlen]; exact hl, lt_of_cell hc, hc, ?_⟩
    have e : (zs.take len).getD j 0 = zs[j] := by simp [hj, hx]
    rw [e]
    have := hwz zs[j] (List.getElem_mem hx)
    simpa [Lit.wf, IntKind.min, IntKind.max, IntKind.signed, IntKind.bits] using this
end Go.Proofs.YtckcjgmikjpfaaaDoor
