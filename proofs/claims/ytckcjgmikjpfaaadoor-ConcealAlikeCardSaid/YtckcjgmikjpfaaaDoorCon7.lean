/- The contract of the laws' awake. -/
import Derived.Test.YtckcjgmikjpfaaaDoorCon6
namespace Go.Proofs.YtckcjgmikjpfaaaDoor
open Go.RowKit

theorem plL_len (hs : List Int) (k : Int) (m : Nat) : (plL hs k m).length = m := by simp [plL]
theorem plL_get (hs : List Int) (k : Int) {m j : Nat} (hj : j < m) : (plL hs k m).getD j 0 = prt (hs.getD (hs.length - lagN hs + j % lagN hs) 0) (fdv k) := by
  unfold plL
  rw [List.getD_eq_getElem?_getD, List.getElem?_map, List.getElem?_range hj]
  rfl
theorem plL_b (hs : List Int) (k : Int) (m j : Nat) : I32 ((plL hs k m).getD j 0) := by
  by_cases h : j < m
  · rw [plL_get hs k h]
    have := prt_b (hs.getD (hs.length - lagN hs + j % lagN hs) 0) (fdv k) (by have := fdv_b k; omega)
    unfold I32
    omega
  · rw [List.getD_eq_getElem?_getD, List.getElem?_eq_none (by rw [plL_len]; omega)]
    unfold I32
    simp

/-- A row that is owned, as cells. -/
theorem own_at {w : World} {base n : Nat} {t : TypeId} {v : Value} {ik : IntKind} {xs : List Int} (h : w.ownsRow base t 1 v n (xs.map (Value.int ik))) (h0 : 0 < n) :
    ∃ g cap, v = .slice (some ⟨g, 0, none⟩) n cap ∧ n ≤ cap ∧ base ≤ g ∧ g < w.heap.size ∧ (∀ j, w.frozen? ⟨g, j, none⟩ = false) ∧ ∀ j, j < n → w.cell? ⟨g, j, none⟩ = some (.int ik (xs.getD j 0)) := by
  have hx := h.1
  have hx : xs.length = n := by simpa using hx
  rcases h.2 with ⟨_, e⟩ | ⟨g, cap, cur, rfl, hb, hg, hc, _, hs, ht⟩
  · omega
  · refine ⟨g, cap, rfl, hc, hb, heap_lt hg, fun j => by simp [World.frozen?, hg], fun j hj => ?_⟩
    have hk : cur.toList[j]? = some (.int ik (xs.getD j 0)) := by
      have e : (cur.toList.take (n * 1))[j]? = cur.toList[j]? := by rw [List.getElem?_take]; simp; omega
      rw [← e, ht]
      simp [hx, hj]
    simp only [World.cell?, hg]
    simpa using hk

theorem PR.isH {w wr : World} {hs : List Int} {k : Int} {m : Nat} {v : Value} (h : PR w hs k m v wr) (h0 : 0 < m) : IsH wr v (plL hs k m) := by
  obtain ⟨g, cap, rfl, hc, _, hl, _, hcell⟩ := own_at h.own h0
  refine ⟨some ⟨g, 0, none⟩, cap, by rw [plL_len], fun j hj => ⟨g, 0, rfl, by rw [plL_len]; exact hc, hl, ?_, plL_b _ _ _ _⟩⟩
  rw [plL_len] at hj
  simpa using hcell j hj

/-- The document's example: the history. -/
def hsA : List Int := [1, 2, 3, 4, 1, 2, 3, 4]
theorem lagA : lagN hsA = 4 := by decide +kernel
theorem plA : plL hsA 1 8 = [0, 1, 2, 3, 0, 1, 2, 3] := by decide +kernel
theorem isH_A (w : World) : IsH (w.alloc (.cells #[.int .i32 1, .int .i32 2, .int .i32 3, .int .i32 4, .int .i32 1, .int .i32 2, .int .i32 3, .int .i32 4] 21)) (.slice (some ⟨w.heap.size, 0, none⟩) 8 8) hsA := by
  refine ⟨_, _, rfl, fun j hj => ⟨w.heap.size, 0, rfl, by decide, by simp, ?_, ?_⟩⟩
  · rw [Nat.zero_add, World.cell?_alloc_new]
    simp only [hsA, List.length_cons, List.length_nil] at hj
    have hc : j = 0 ∨ j = 1 ∨ j = 2 ∨ j = 3 ∨ j = 4 ∨ j = 5 ∨ j = 6 ∨ j = 7 := by omega
    rcases hc with rfl | rfl | rfl | rfl | rfl | rfl | rfl | rfl <;> rfl
  · have hc : j = 0 ∨ j = 1 ∨ j = 2 ∨ j = 3 ∨ j = 4 ∨ j = 5 ∨ j = 6 ∨ j = 7 := by simp only [hsA, List.length_cons, List.length_nil] at hj; omega
    unfold I32
    rcases hc with rfl | rfl | rfl | rfl | rfl | rfl | rfl | rfl <;> decide

set_option maxRecDepth 20000 in
set_option maxHeartbeats 4000000 in
theorem awake_any (w : World) (hF : Fades w) (h0 : 0 < w.heap.size) : Calls Tryd.prog 7 #[] w fun e w' => e = .returned (.bool true) ∧ Below w.heap.size w w' := by
  have hI := Lib.hid (isH_A w)
  obtain ⟨W, hW⟩ : ∃ W, W = w.alloc (.cells #[.int .i32 1, .int .i32 2, .int .i32 3, .int .i32 4, .int .i32 1, .int .i32 2, .int .i32 3, .int .i32 4] 21) := ⟨_, rfl⟩
  have hbW : Below w.heap.size w W := by rw [hW]; exact belowAlloc w _
  have hFW : Fades W := hF.below h0 hbW
  have hWs : 0 < W.heap.size := Nat.lt_of_lt_of_le h0 hbW.size
  have hIW : IsH W (.slice (some ⟨w.heap.size, 0, none⟩) 8 8) hsA := by rw [hW]; exact hI.out
  have cp := Lib.hid (plain_yes hsA (by decide) 1 _ W hIW hFW hWs)
  have cl := Lib.hid (fun w2 (h : Below W.heap.size W w2) => lag_yes hsA (by decide) _ w2 (hIW.below h))
  rw [lagA] at cl
  replace hbW := Lib.hid hbW
  replace hW := Lib.hid hW
  clear hF hI hFW hWs hIW
  go_enter Tryd.func7, Tryd.ntmps7
  go_wp2_with fail
  rw [← hW.out]
  with_reducible refine Calls.mono cp.out ?_
  rintro e w2 ⟨v2, rfl, hR⟩
  obtain ⟨g, cap, rfl, hcap, _, hg, _, hcell⟩ := own_at hR.own (by decide)
  have hB := Lib.hid hR.below
  rw [show hsA.length = 8 from rfl] at hcap hcell ⊢
  rw [plA] at hcell
  have c0 := hcell 0 (by decide)
  have c1 := hcell 1 (by decide)
  have c7 := hcell 7 (by decide)
  simp only [List.getD_cons_zero, List.getD_cons_succ] at c0 c1 c7
  clear hcell hR
  go_wp2_with fail
  with_reducible refine Calls.mono (cl.out _ hB.out) ?_
  rintro e w3 ⟨rfl, d, rfl⟩
  go_wp2_with fail
  go_ret
  exact ⟨rfl, below_drewN (Below.trans hbW.out (hB.out.mono hbW.out.size)) _⟩
end Go.Proofs.YtckcjgmikjpfaaaDoor
