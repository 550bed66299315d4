/- Vectors and numbers without a rank; law 11's awake. -/
import Derived.Test.YtegjkognlfemgaaRank6
import Derived.Deep.AppendLies
namespace Go.Proofs.Ytegjkognlfemgaa
open Go.RowKit

set_option maxHeartbeats 4000000 in
theorem rank_no (zs : List Int) (hr : right zs = false) (hlen : zs.length ≤ 1000) (hz : ∀ x ∈ zs, Num x) (v : Value) (w : World) (gb : Nat) (hv : IsVec w v zs) :
    Calls Try.prog 25 #[.pointer (some ⟨gb, 0, none⟩), v] w fun e w' => e = .returned (.tuple #[.int .u64 0, .int .i64 2]) ∧ w = w' := by
  have cp := Lib.hid (fun w hv => pulses_any zs hz hlen v w hv)
  have hb := msum_bound zs
  have hways : 16 < zs.length ∨ (zs.length ≤ 16 ∧ 32 < msum zs) := by
    unfold right at hr
    simp only [decide_eq_false_iff_not] at hr
    by_cases h1 : 16 < zs.length
    · exact .inl h1
    · exact .inr ⟨by omega, msum_big zs (by omega)⟩
  have hvh := Lib.hid hv
  obtain ⟨A, cap, rfl, hat⟩ := hv.form
  obtain ⟨len, hlen2⟩ : ∃ len, len = zs.length := ⟨_, rfl⟩
  rw [← hlen2] at hways hlen cp hvh hb ⊢
  obtain ⟨K, hK⟩ : ∃ K, K = msum zs := ⟨_, rfl⟩
  rw [← hK] at hways cp hb
  clear hat hv hlen2 hK hr hz
  rcases hways with h | ⟨h, h2⟩
  all_goals
    go_enter Try.func25, Try.ntmps25
    go_wp2_with fail
    with_reducible refine Calls.mono (cp.out _ hvh.out) ?_
    rintro e w1 ⟨rfl, rfl⟩
    go_wp2_with fail
    go_ret2
    exact ⟨rfl, rfl⟩

set_option maxHeartbeats 4000000 in
theorem unrank_no (n k i : Int) (hi : VZ n k ≤ i) (w : World) (gb gm : Nat) (hF : BookAt w gb gm) :
    Calls Try.prog 30 #[.pointer (some ⟨gb, 0, none⟩), .int .i64 n, .int .i64 k, .int .u64 i] w fun e w' => e = .returned (.tuple #[.slice none 0 0, .int .i64 2]) ∧ BookAt w' gb gm ∧ w.grownBy w' (some gm) := by
  replace hF := Lib.hid hF
  go_enter Try.func30, Try.ntmps30
  go_wp2_with fail
  with_reducible refine Calls.mono (hF.out.ask _ _) ?_
  rintro e w1 ⟨rfl, b1, g1⟩
  replace b1 := Lib.hid b1
  replace g1 := Lib.hid g1
  go_wp2_with fail
  go_ret2
  exact ⟨rfl, b1.out, g1.out⟩

theorem own_vec {w : World} {base : Nat} {v : Value} {zs : List Int} {n : Nat} (hn : n = zs.length) (h : w.ownsRow base 3 1 v n (zs.map (Value.int .i64))) : IsVec w v zs := by
  subst hn
  rcases Nat.eq_zero_or_pos zs.length with h0 | hp
  · have hz : zs = [] := List.eq_nil_of_length_eq_zero h0
    subst hz
    rcases h.2 with ⟨rfl, _⟩ | ⟨g, cap, cur, rfl, _⟩
    · exact .inl ⟨_, _, rfl, rfl⟩
    · exact .inl ⟨_, _, rfl, rfl⟩
  · obtain ⟨g, cap, hv, _, hlt⟩ := h.form hp
    subst hv
    have hc : zs.length ≤ cap := by
      rcases h.2 with ⟨_, h0⟩ | ⟨g', cap', cur, he, _, _, h1, _⟩
      · omega
      · injection he with _ _ e3
        omega
    refine .inr ⟨g, 0, cap, rfl, hc, hlt, fun j hj => ?_⟩
    have := h.cells (g := g) rfl j (.int .i64 (zs.getD j 0)) (by simp [hj])
    rwa [Go.WideShapes.add_plain] at this

theorem right_20 : right [-2, 0] = true := by decide +kernel
theorem rk_20 : rkN [-2, 0] = 7 := by decide +kernel
theorem unr_220 : unr 2 2 0 = [0, 2] := by decide +kernel
theorem V_22 : 0 < V 2 2 := by decide +kernel

set_option maxHeartbeats 4000000 in
theorem awake11 (w : World) : Calls Try.prog 24 #[] w fun e w' => e = .returned (.bool true) ∧ Below w.heap.size w w' := by
  have c1 := Lib.hid (fun w gb gm v hv hF => rank_yes [-2, 0] right_20 (by intro x hx; simp at hx; unfold Num; omega) v w gb gm hv hF)
  rw [rk_20] at c1
  have c2 := Lib.hid (fun w gb gm hF => unrank_yes 2 2 0 (by omega) (by omega) V_22 w gb gm hF)
  rw [unr_220] at c2
  go_enter Try.func24, Try.ntmps24
  go_wp2_with fail
  refine (new_any _).mono ?_
  rintro e w1 ⟨rfl, f1⟩
  replace f1 := Lib.hid f1
  go_wp2_with fail
  have hv : IsVec (w1.alloc (.cells #[.int .i64 (-2), .int .i64 0] 3)) (.slice (some ⟨w1.heap.size, 0, none⟩) 2 2) [-2, 0] := by
    refine .inr ⟨w1.heap.size, 0, 2, rfl, by simp, by simp, fun j hj => ?_⟩
    have hb := heap_last w1 (.cells #[.int .i64 (-2), .int .i64 0] 3) (g := w1.heap.size) rfl
    match j, hj with
    | 0, _ => exact cellOf hb 0
    | 1, _ => exact cellOf hb 1
  have f2 := Lib.hid (f1.out.alloc (.cells #[.int .i64 (-2), .int .i64 0] 3))
  replace hv := Lib.hid hv
  clear f1
  with_reducible refine Calls.mono (c1.out _ _ _ _ hv.out f2.out.at_) ?_
  rintro e w2 ⟨rfl, b2, g2⟩
  obtain ⟨S2, f3⟩ := f2.out.grow b2 g2
  replace f3 := Lib.hid f3
  clear b2 g2 hv f2 c1
  go_wp2_with fail
  refine (new_any _).mono ?_
  rintro e w3 ⟨rfl, f4⟩
  have hb4 := Lib.hid f3.out.below
  replace f4 := Lib.hid f4
  clear f3
  go_wp2_with fail
  with_reducible refine Calls.mono (c2.out _ _ _ f4.out.at_) ?_
  rintro e w5 ⟨v, rfl, hown, b5, g5⟩
  obtain ⟨S5, f5⟩ := f4.out.grow b5 g5
  have hb5 := Lib.hid (Below.trans hb4.out (f5.below.mono hb4.out.size))
  have hvec := own_vec (zs := [0, 2]) rfl hown
  obtain ⟨g, cap, rfl, hc, hlt⟩ := hown.form (by omega)
  have c0 : w5.cell? ⟨g, 0, none⟩ = some (.int .i64 0) := hown.cells (g := g) rfl 0 _ (by simp)
  have c1 : w5.cell? ⟨g, 1, none⟩ = some (.int .i64 2) := hown.cells (g := g) rfl 1 _ (by simp)
  clear hown hvec b5 g5 f4 hb4 f5 c2 hlt
  go_wp2_with fail
  go_ret
  exact ⟨rfl, hb5.out⟩
end Go.Proofs.Ytegjkognlfemgaa
