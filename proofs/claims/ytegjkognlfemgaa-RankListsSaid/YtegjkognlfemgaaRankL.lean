/- The law RankLists: its walk. -/
import Derived.Test.YtegjkognlfemgaaRankT
import Derived.Test.YtegjkognlfemgaaAll2
namespace Go.Proofs.Ytegjkognlfemgaa
open Go.RowKit

theorem allN_unr : ∀ n, n < 5 → ∀ k, k < 6 → allN n k = (List.range (V n k)).map (unr n k) := by decide +kernel
theorem cell_has {w : World} {b o : Nat} {x : Value} (h : w.cell? ⟨b, o, none⟩ = some x) : b < w.heap.size := by
  rcases Nat.lt_or_ge b w.heap.size with hl | hl
  · exact hl
  · simp [World.cell?, Array.getElem?_eq_none hl] at h
theorem cell_grown {w w' : World} {gb gm : Nat} (hB : BookAt w gb gm) (hg : w.grownBy w' (some gm)) {b o : Nat} {x : Value} (h : w.cell? ⟨b, o, none⟩ = some x) : w'.cell? ⟨b, o, none⟩ = some x := by
  obtain ⟨S, hB, _⟩ := hB
  obtain ⟨l, ⟨c, hl⟩, _⟩ := hB.map
  have hne : b ≠ gm := fun e => by
    subst e
    simp [World.cell?, hl] at h
  have hb : w'.heap[b]? = w.heap[b]? := hg.block b (cell_has h) (fun e => hne (by injection e))
  rw [← h]
  simp [World.cell?, hb]

/-- A list of vectors, as it lies in memory. -/
def IsLists (w : World) (v : Value) (L : List (List Int)) : Prop :=
  ∃ A cap, v = .slice A L.length cap ∧ ∀ j (h : j < L.length), ∃ b off x, A = some ⟨b, off, none⟩ ∧ L.length ≤ cap ∧ w.cell? ⟨b, off + j, none⟩ = some x ∧ IsVec w x L[j]
theorem IsLists.grown {w w' : World} {v : Value} {L : List (List Int)} {gb gm : Nat} (h : IsLists w v L) (hB : BookAt w gb gm) (hg : w.grownBy w' (some gm)) : IsLists w' v L := by
  obtain ⟨A, cap, hv, h⟩ := h
  refine ⟨A, cap, hv, fun j hj => ?_⟩
  obtain ⟨b, off, x, h1, h2, h3, h4⟩ := h j hj
  exact ⟨b, off, x, h1, h2, cell_grown hB hg h3, h4.grown hB hg⟩
theorem IsLists.below {w w' : World} {v : Value} {L : List (List Int)} (h : IsLists w v L) (hb : Below w.heap.size w w') : IsLists w' v L := by
  obtain ⟨A, cap, hv, h⟩ := h
  refine ⟨A, cap, hv, fun j hj => ?_⟩
  obtain ⟨b, off, x, h1, h2, h3, h4⟩ := h j hj
  exact ⟨b, off, x, h1, h2, (hb.cell (p := ⟨b, off + j, none⟩) (cell_has h3)).trans h3, h4.below hb⟩
theorem Lists.isLists {base : Nat} {w : World} {v : Value} {L : List (List Int)} (h : Lists base w v L) : IsLists w v L := by
  obtain ⟨vs, h1, h2⟩ := h
  rcases Nat.eq_zero_or_pos L.length with h0 | hp
  · rcases h1.2 with ⟨rfl, _⟩ | ⟨g, cap, cur, rfl, _⟩
    · exact ⟨none, 0, by rw [h0], fun j hj => by omega⟩
    · exact ⟨_, cap, rfl, fun j hj => by omega⟩
  · obtain ⟨g, cap, rfl, _, _⟩ := h1.form hp
    have hc : L.length ≤ cap := by
      rcases h1.2 with ⟨_, h0⟩ | ⟨g', cap', cur, he, _, _, h1, _⟩
      · omega
      · injection he with _ _ e3
        omega
    refine ⟨_, cap, rfl, fun j hj => ?_⟩
    obtain ⟨x, hx, ho⟩ := h2 j hj
    refine ⟨g, 0, x, rfl, hc, ?_, own_vec rfl ho⟩
    have := h1.cellAt j (by omega)
    rw [hx] at this
    rwa [Nat.zero_add]

theorem small_within {zs : List Int} (h : ∀ x ∈ zs, -32 ≤ x ∧ x ≤ 32) : within zs := fun j => by
  by_cases hj : j < zs.length
  · have := h (zs.getD j 0) (by simp [hj])
    omega
  · simp [show ¬ j < zs.length from hj]
theorem bef_unr {a c i j : Nat} (ha : a ≤ 16) (hc : c ≤ 32) (hi : i < V a c) (hj : j < V a c) : befL (unr a c i) (unr a c j) = decide (i < j) := by
  obtain ⟨h1, h2, h3⟩ := unr_spec a c i ha hc hi
  obtain ⟨k1, k2, k3⟩ := unr_spec a c j ha hc hj
  unfold befL
  rw [bef_rk _ _ (by omega) (by omega) (by omega) (by omega), h1, k1, h3, k3]
  simp

set_option maxRecDepth 100000 in
set_option maxHeartbeats 16000000 in
theorem rankLists_walk (n k : Int) (hn : 0 ≤ n ∧ n ≤ 255) (hk : 0 ≤ k ∧ k ≤ 255) (w : World) :
    Calls Try.prog 14 #[.int .u8 n, .int .u8 k] w fun e w' => e = .returned (.bool true) ∧ Below w.heap.size w w' := by
  obtain ⟨x, hx, x1, x2⟩ := u8_rem n 5 hn.1 (by omega)
  obtain ⟨y, hy, y1, y2⟩ := u8_rem k 6 hk.1 (by omega)
  obtain ⟨a, rfl⟩ := Int.eq_ofNat_of_zero_le x1
  obtain ⟨c, rfl⟩ := Int.eq_ofNat_of_zero_le y1
  have ha : a < 5 := by omega
  have hc : c < 6 := by omega
  have hA := Lib.hid (all_any a ha c hc)
  have hlen : (allN a c).length = V a c := allN_len a ha c hc
  have hget : ∀ j (h : j < (allN a c).length), (allN a c)[j] = unr a c j := fun j h => by
    have e := allN_unr a ha c hc
    have : (allN a c)[j]? = ((List.range (V a c)).map (unr a c))[j]? := by rw [← e]
    rw [List.getElem?_eq_getElem h, List.getElem?_map, List.getElem?_range (by omega)] at this
    simpa using this
  have hsm := V_small a ha c hc
  have hVZ : VZ a c = ((V a c : Nat) : Int) := VZ_at (by omega) (by omega) _ _ rfl rfl
  obtain ⟨L, hL⟩ : ∃ L, L = allN a c := ⟨_, rfl⟩
  rw [← hL] at hA hlen
  have hget : ∀ j (h : j < L.length), L[j] = unr a c j := by subst hL; exact hget
  obtain ⟨T, hT⟩ : ∃ T, T = V a c := ⟨_, rfl⟩
  rw [← hT] at hlen hsm hVZ
  replace hlen := Lib.hid hlen
  replace hget := Lib.hid hget
  replace hT := Lib.hid hT
  replace hVZ := Lib.hid hVZ
  clear hL
  go_enter Try.func14, Try.ntmps14
  go_wp2_with fail
  refine (awake11 _).mono ?_
  rintro e w0 ⟨rfl, b0⟩
  replace b0 := Lib.hid b0
  go_wp2_with fail
  refine (hA.out _).mono ?_
  rintro e w1 ⟨v, rfl, hb1, hL⟩
  have hl1 := hL.isLists
  replace hb1 := Lib.hid (Below.trans b0.out (hb1.mono b0.out.size))
  go_wp2_with fail
  refine (new_any _).mono ?_
  rintro e w2 ⟨rfl, f2⟩
  have hl2 := hl1.below f2.below
  replace f2 := Lib.hid f2
  obtain ⟨A, cap, hv, hat⟩ := hl2
  rw [hlen.out] at hv
  subst hv
  have hl2 := Lib.hid (show IsLists w2 (.slice A T cap) L from ⟨A, cap, by rw [hlen.out], hat⟩)
  clear hat hl1 hL
  go_wp2_with fail
  go_loopw [29] (fun i wr => ∃ j : Nat, j ≤ T ∧ i = .int .i64 j ∧ (∃ S, Fresh w1.heap.size w1 wr (w1.heap.size + 1) w1.heap.size S) ∧ IsLists wr (.slice A T cap) L) (fun i _ => T - (intOf i).toNat)
  case atStart => exact ⟨0, by omega, rfl, ⟨_, f2.out⟩, hl2.out⟩
  case round =>
    clear hl2 f2
    obtain ⟨j, hj, rfl, ⟨S, hF⟩, hls⟩ := hrel
    replace hF := Lib.hid hF
    by_cases hl : j < T
    · obtain ⟨A', cap', he, hat⟩ := hls
      rw [hlen.out] at he
      injection he with e1 e2 e3
      subst e1 e3
      obtain ⟨b, off, x, rfl, hcap, hcell, hvec⟩ := hat j (by rw [hlen.out]; exact hl)
      rw [hget.out j (by rw [hlen.out]; exact hl)] at hvec
      rw [hlen.out] at hcap
      have hls := Lib.hid (show IsLists wr (.slice (some ⟨b, off, none⟩) T cap) L from ⟨_, cap, by rw [hlen.out], hat⟩)
      clear hat
      have hunr := unr_spec a c j (by omega) (by omega) (by rw [← hT.out]; exact hl)
      have hunN := unr_small (n := a) (k := c) (i := j) (by omega) (by omega) (by rw [← hT.out]; exact hl)
      replace hvec := Lib.hid hvec
      replace hunr := Lib.hid hunr
      replace hunN := Lib.hid hunN
      have hsame : same (unr a c j) (unr a c j) = true := by unfold same; simp
      go_wp2_with fail
      with_reducible refine Calls.mono (unrankB a c j (by omega) (by omega) (by rw [← hT.out]; exact hl) _ _ _ hF.out.at_ _ _ _ (by omega) (by omega) (by omega)) ?_
      rintro e w3 ⟨v3, rfl, hown, b3, g3⟩
      have hvx := Lib.hid (own_vec hunr.out.1.symm hown)
      replace hls := Lib.hid (hls.out.grown hF.out.at_ g3)
      replace hvec := Lib.hid (hvec.out.grown hF.out.at_ g3)
      obtain ⟨S3, f3⟩ := hF.out.grow b3 g3
      replace f3 := Lib.hid f3
      clear b3 g3 hF hown
      go_wp2_with fail
      with_reducible refine Calls.mono (ints_any (unr a c j) (unr a c j) (by have := hunr.out.1; omega) (by have := hunr.out.1; omega) _ _ _ hvx.out hvec.out) ?_
      rintro e w4 ⟨rfl, d, rfl⟩
      rw [hsame]
      replace f3 := Lib.hid (f3.out.drewN d)
      replace hvx := Lib.hid (hvx.out.below (below_drewN (Below.refl _ _) d))
      replace hls := Lib.hid (hls.out.below (below_drewN (Below.refl _ _) d))
      clear hvec hcell hsame
      by_cases h0 : j = 0
      · have hd1 : decide (0 < (j : Int)) = false := by simp; omega
        have hd2 : decide (0 < j) = false := by simp; omega
        replace h0 := Lib.hid h0
        go_wp2_with fail
        go_roundw
        case rel => exact ⟨j + 1, by omega, by go_num, ⟨_, f3.out⟩, hls.out⟩
        case measure => simp [intOf]; omega
      · have hd1 : decide (0 < (j : Int)) = true := by simp; omega
        have hd2 : decide (0 < j) = true := by simp; omega
        obtain ⟨A', cap', he, hat⟩ := hls.out
        rw [hlen.out] at he
        injection he with e1 e2 e3
        subst e3
        obtain ⟨b', off', x', e4, _, hcell, hvec⟩ := hat (j - 1) (by rw [hlen.out]; omega)
        rw [← e1] at e4
        injection e4 with e4
        injection e4 with e5 e6 _
        subst e5 e6
        rw [hget.out (j - 1) (by rw [hlen.out]; omega)] at hvec
        have hunP := unr_small (n := a) (k := c) (i := j - 1) (by omega) (by omega) (by rw [← hT.out]; omega)
        have hlP := unr_spec a c (j - 1) (by omega) (by omega) (by rw [← hT.out]; omega)
        have hbf : befL (unr a c (j - 1)) (unr a c j) = true := by rw [bef_unr (by omega) (by omega) (by rw [← hT.out]; omega) (by rw [← hT.out]; omega)]; simp; omega
        replace hvec := Lib.hid hvec
        replace hunP := Lib.hid hunP
        replace hlP := Lib.hid hlP
        have hj1 : 1 ≤ j := by omega
        clear hat h0 e1 e2
        go_wp2_with fail
        with_reducible refine Calls.mono (before_any (unr a c (j - 1)) (unr a c j) (small_within hunP.out) (small_within hunN.out) (by have := hlP.out.1; omega) (by have := hunr.out.1; omega) _ _ _ hvec.out hvx.out) ?_
        rintro e w5 ⟨rfl, d5, rfl⟩
        rw [hbf]
        replace f3 : Hid (Fresh w1.heap.size w1 (w3.drewN (d + d5)) (w1.heap.size + 1) w1.heap.size S3) := Lib.hid (by rw [← World.drewN_drewN]; exact f3.out.drewN d5)
        have hls5 := hls.out.below (below_drewN (Below.refl _ _) d5)
        rw [World.drewN_drewN] at hls5
        replace hls5 := Lib.hid hls5
        go_wp2_with fail
        go_roundw
        case rel => exact ⟨j + 1, by omega, by go_num, ⟨_, f3.out⟩, hls5.out⟩
        case measure => simp [intOf]; omega
    · obtain rfl : j = T := by omega
      replace hls := Lib.hid hls
      go_wp2_with fail
      with_reducible refine Calls.mono (unrank_no _ _ _ (by rw [hVZ.out]; omega) _ _ _ hF.out.at_) ?_
      rintro e w3 ⟨rfl, b3, g3⟩
      obtain ⟨S3, f3⟩ := hF.out.grow b3 g3
      replace f3 := Lib.hid f3
      clear b3 g3
      go_wp2_with fail
      go_ret
      exact ⟨rfl, Below.trans hb1.out (f3.out.below.mono hb1.out.size)⟩
end Go.Proofs.Ytegjkognlfemgaa
