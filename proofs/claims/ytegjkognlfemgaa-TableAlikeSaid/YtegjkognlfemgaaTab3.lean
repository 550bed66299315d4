/- The contract of the table's Rank. -/
import Derived.Test.YtegjkognlfemgaaTab2
import Derived.Test.YtegjkognlfemgaaRank5
namespace Go.Proofs.Ytegjkognlfemgaa
open Go.RowKit

theorem abs_max (y : Int) : max y (-y) = ((y.natAbs : Nat) : Int) := by omega

set_option maxRecDepth 100000 in
set_option maxHeartbeats 8000000 in
theorem tabRank_yes (zs : List Int) (hr : right zs = true) (v : Value) (w : World) (g : Nat) (hv : IsVec w v zs) (hT : IsTab w g) :
    Calls Try.prog 36 #[.pointer (some ⟨g, 0, none⟩), v] w fun e w' => e = .returned (.tuple #[.int .u64 (rkN zs : Nat), .bool true]) ∧ ∃ d, w' = w.drewN d := by
  have hr2 := hr
  unfold right at hr2
  simp only [decide_eq_true_eq] at hr2
  obtain ⟨h16, h32⟩ := hr2
  have hrb := rk_bound hr
  have hsm := right_small hr
  obtain ⟨A, cap, rfl, hat⟩ := hv.form
  obtain ⟨len, hlen2⟩ : ∃ len, len = zs.length := ⟨_, rfl⟩
  rw [← hlen2] at h16 ⊢
  have hL := Lib.hid hlen2
  obtain ⟨R, hRe⟩ : ∃ R, R = rkN zs := ⟨_, rfl⟩
  rw [← hRe] at hrb ⊢
  replace hRe := Lib.hid hRe
  replace hat := Lib.hid hat
  replace h32 := Lib.hid h32
  replace hsm := Lib.hid hsm
  replace hT := Lib.hid hT
  clear hv hlen2 hr
  have hk33 : ¬ 32 < ms zs := by have := h32.out; omega
  go_enter Try.func36, Try.ntmps36
  go_wp2_with fail
  go_loop [6, 19] (fun s i => ∃ j : Nat, j ≤ len ∧ i = .int .i64 j ∧ s = .int .i64 (ms (zs.take j) : Nat)) (fun _ i => len - (intOf i).toNat)
  case atStart => exact ⟨0, by omega, rfl, rfl⟩
  case round =>
    obtain ⟨j, hj, rfl, rfl⟩ := hrel
    by_cases hl : j < len
    · have hj2 : j < zs.length := by rw [← hL.out]; exact hl
      obtain ⟨b, off, rfl, hcap, _, hcell⟩ := hat.out j hj2
      have hcap2 : len ≤ cap := by rw [hL.out]; exact hcap
      have hst := Lib.hid (ms_take zs j hj2)
      have hx := hsm.out j
      have ht := ms_take_le zs j
      have h3 := h32.out
      obtain ⟨y, hye⟩ : ∃ y, y = zs.getD j 0 := ⟨_, rfl⟩
      obtain ⟨T, hTe⟩ : ∃ T, T = ms (zs.take j) := ⟨_, rfl⟩
      rw [← hye] at hcell hst hx
      rw [← hTe] at hst ht ⊢
      have hy : -32 ≤ y ∧ y ≤ 32 := by omega
      have hTb : T ≤ 32 := by omega
      have hmax := abs_max y
      obtain ⟨Y, hY⟩ : ∃ Y, Y = y.natAbs := ⟨_, rfl⟩
      rw [← hY] at hst hmax hx
      clear hye hTe ht h3 hj2 hcap hY
      go_wp2_with fail
      exact ⟨⟨j + 1, by omega, by go_num, by rw [hst.out]; go_num⟩, by simp [intOf]; omega⟩
    · obtain rfl : j = len := by omega
      have ht : zs.take j = zs := by rw [hL.out]; exact List.take_length
      rw [ht]
      clear ht
      obtain ⟨K, hKe⟩ : ∃ K, K = ms zs := ⟨_, rfl⟩
      rw [← hKe] at hk33 ⊢
      replace hKe := Lib.hid hKe
      go_wp2_with fail
      obtain ⟨wo, hwo⟩ : ∃ wo : World, wo = w := ⟨_, rfl⟩
      go_loopw [6, 9, 40] (fun k s i wr => ∃ m d : Nat, m ≤ j ∧ i = .int .i64 m ∧ k = .int .i64 (ms (zs.drop m) : Nat) ∧ s = .int .u64 (R - rkN (zs.drop m) : Nat) ∧ wr = w.drewN d) (fun _ _ i _ => j - (intOf i).toNat)
      case atStart => exact ⟨0, 0, by omega, rfl, by rw [hKe.out]; rfl, by rw [hRe.out, List.drop_zero, Nat.sub_self]; rfl, rfl⟩
      case round =>
        obtain ⟨m, d, hm, rfl, rfl, rfl, hw⟩ := hrel
        by_cases hl2 : m < j
        · have hm2 : m < zs.length := by rw [← hL.out]; exact hl2
          have hd := drop_at zs m hm2
          have hdl : (zs.drop (m + 1)).length = j - 1 - m := by rw [List.length_drop, ← hL.out]; omega
          have hx := hsm.out m
          have hk1 := ms_drop_le zs m
          have hr1 := rk_drop_le zs m
          have hr2 := rk_drop_le zs (m + 1)
          have h3 := h32.out
          have em : ms (zs.drop m) = (zs.getD m 0).natAbs + ms (zs.drop (m + 1)) := by rw [hd]; rfl
          have er : rkN (zs.drop m) = ahN (j - 1 - m) (ms (zs.drop m)) (pl (zs.getD m 0)) + rkN (zs.drop (m + 1)) := by
            rw [← hdl]
            conv => lhs; rw [hd]
            conv => rhs; rw [hd]
            rfl
          obtain ⟨b, off, rfl, hcap, _, hcell⟩ := hat.out m hm2
          have hcap2 : j ≤ cap := by rw [hL.out]; exact hcap
          have hcell : wr.cell? ⟨b, off + m, none⟩ = some (.int .i64 (zs.getD m 0)) := by rw [hw]; exact hcell
          have hTw : IsTab wr g := by rw [hw]; exact hT.out.drewN d
          rw [← hRe.out] at hr1 hr2
          obtain ⟨y, hy⟩ : ∃ y, y = zs.getD m 0 := ⟨_, rfl⟩
          rw [← hy] at em er hx hcell
          obtain ⟨k0, hk0⟩ : ∃ k0, k0 = ms (zs.drop m) := ⟨_, rfl⟩
          obtain ⟨k2, hk2⟩ : ∃ k2, k2 = ms (zs.drop (m + 1)) := ⟨_, rfl⟩
          obtain ⟨r0, hr0⟩ : ∃ r0, r0 = rkN (zs.drop m) := ⟨_, rfl⟩
          obtain ⟨r2, hr3⟩ : ∃ r2, r2 = rkN (zs.drop (m + 1)) := ⟨_, rfl⟩
          rw [← hk0] at hk1 em er ⊢
          rw [← hr0] at hr1 er ⊢
          rw [← hk2] at em
          rw [← hr3] at hr2 er
          have hk2h := Lib.hid hk2
          have hr3h := Lib.hid hr3
          have hyb : -32 ≤ y ∧ y ≤ 32 := by omega
          obtain ⟨N, hN⟩ : ∃ N, N = j - 1 - m := ⟨_, rfl⟩
          have hN2 : (j : Int) - 1 - m = (N : Int) := by omega
          have hN15 : N < 16 := by omega
          rw [← hN] at er
          have hk0b : k0 ≤ 32 := by omega
          have hmax := abs_max y
          obtain ⟨Y, hY⟩ : ∃ Y, Y = y.natAbs := ⟨_, rfl⟩
          rw [← hY] at em hmax
          have hYb : Y ≤ 32 := by omega
          have hNh := Lib.hid hN
          replace hw := Lib.hid hw
          obtain ⟨S0, hS0⟩ : ∃ S0, S0 = R - r0 := ⟨_, rfl⟩
          have hS0b : S0 ≤ 1000000000000000000 := by omega
          rw [← hS0] at ⊢
          by_cases hz : y = 0
          · as_aux_lemma =>
              subst hz
              have hY0 : Y = 0 := by omega
              have e1 : k0 = k2 := by omega
              have e2 : r0 = r2 := by
                rw [show pl 0 = 0 from rfl] at er
                have : ahN N k0 0 = 0 := rfl
                omega
              have e3 : S0 = R - r2 := by omega
              replace e1 := Lib.hid e1
              replace e3 := Lib.hid e3
              have hmax0 : max (0 : Int) (-0) = 0 := by omega
              clear hd hdl hx hk1 hr1 hr2 h3 em er hy hk0 hr0 hk2 hr3 hY hS0 hcap hm2 hN hN2 hY0 e2 hmax
              go_wp2_with fail
              exact ⟨⟨m + 1, d, by omega, by go_num, by rw [e1.out, hk2h.out], by rw [e3.out, hr3h.out], hw.out⟩, by simp [intOf]; omega⟩
          · have hY1 : 1 ≤ Y := by omega
            have ca := fun k' m' ek em => tahead_any N k0 Y hN15 hY1 (by omega) hk0b wr g hTw k' m' ek em
            have cV := hTw.v (n := N) (k := k0 - Y) (by omega) (by omega)
            have ahb := ahN_le N k0 (2 * Y - 1) (by omega) (by omega)
            have hVb := V_lt (N + 1) (by omega) k0 (by omega)
            by_cases hp : 0 < y
            · as_aux_lemma =>
                have hpl : pl y = 2 * Y - 1 := by unfold pl; rw [if_pos hp]; omega
                rw [hpl] at er
                obtain ⟨X, hX⟩ : ∃ X, X = ahN N k0 (2 * Y - 1) := ⟨_, rfl⟩
                rw [← hX] at ca er ahb
                have e1 : (k0 : Int) - (Y : Int) = (k2 : Int) := by omega
                have e3 : (S0 : Int) + (X : Int) = ((R - r2 : Nat) : Int) := by omega
                have hXb : X ≤ 1000000000000000000 := by omega
                replace e1 := Lib.hid e1
                replace e3 := Lib.hid e3
                replace ca := Lib.hid ca
                obtain rfl : y = (Y : Int) := by omega
                have hYz : ((Y : Int) == 0) = false := by simp; omega
                have hYz2 : (Y == 0) = false := by simp; omega
                clear hd hdl hx hk1 hr1 hr2 h3 em er hy hk0 hr0 hk2 hr3 hY hS0 hcap hm2 hN hX hpl cV ahb hVb hTw hz
                go_wp2_with fail
                with_reducible refine Calls.mono (ca.out _ _ rfl rfl) ?_
                rintro e w2 ⟨rfl, d2, rfl⟩
                go_wp2_with fail
                exact ⟨⟨m + 1, d + d2, by omega, by go_num, by rw [e1.out, hk2h.out], by rw [e3.out, hr3h.out], by rw [hw.out, World.drewN_drewN]⟩, by simp [intOf]; omega⟩
            · as_aux_lemma =>
                have hpl : pl y = 2 * Y - 1 + 1 := by unfold pl; rw [if_neg hp]; omega
                have et : ahN N k0 (2 * Y - 1 + 1) = ahN N k0 (2 * Y - 1) + V N (k0 - Y) := by
                  have t : ahN N k0 (2 * Y - 1 + 1) = ahN N k0 (2 * Y - 1) + tN N k0 (2 * Y - 1) := rfl
                  rw [t, tN_in (by omega), show (2 * Y - 1 + 1) / 2 = Y from by omega]
                rw [hpl, et] at er
                have hVc := V_lt N (by omega) (k0 - Y) (by omega)
                obtain ⟨X, hX⟩ : ∃ X, X = ahN N k0 (2 * Y - 1) := ⟨_, rfl⟩
                obtain ⟨X2, hX2⟩ : ∃ X2, X2 = V N (k0 - Y) := ⟨_, rfl⟩
                rw [← hX] at ca er ahb
                rw [← hX2] at cV er hVc
                have e1 : (k0 : Int) - (Y : Int) = (k2 : Int) := by omega
                have e3 : (S0 : Int) + (X : Int) + (X2 : Int) = ((R - r2 : Nat) : Int) := by omega
                have hXb : X ≤ 1000000000000000000 := by omega
                have hXc : X2 ≤ 1000000000000000000 := by omega
                have hYk : Y ≤ k0 := by omega
                replace e1 := Lib.hid e1
                replace e3 := Lib.hid e3
                replace ca := Lib.hid ca
                obtain rfl : y = -(Y : Int) := by omega
                have hYz : ((Y : Int) == 0) = false := by simp; omega
                have hYz2 : (Y == 0) = false := by simp; omega
                have hcc : ∀ d2, (wr.drewN d2).cell? ⟨g, N * 67 + (k0 - Y), none⟩ = some (.int .u64 (X2 : Nat)) := fun _ => cV
                clear hd hdl hx hk1 hr1 hr2 h3 em er hy hk0 hr0 hk2 hr3 hY hS0 hcap hm2 hN hX hpl cV ahb hVb hTw hz hX2 hVc et
                go_wp2_with fail
                with_reducible refine Calls.mono (ca.out _ _ rfl rfl) ?_
                rintro e w2 ⟨rfl, d2, rfl⟩
                have hc2 := hcc d2
                clear hcc
                go_wp2_with fail
                exact ⟨⟨m + 1, d + d2, by omega, by go_num, by rw [e1.out, hk2h.out], by rw [e3.out, hr3h.out], by rw [hw.out, World.drewN_drewN]⟩, by simp [intOf]; omega⟩
        · obtain rfl : m = j := by omega
          have ht : zs.drop m = [] := by rw [hL.out]; exact List.drop_length
          rw [ht]
          clear ht
          replace hw := Lib.hid hw
          go_wp2_with fail
          go_ret2
          exact ⟨rfl, _, hw.out⟩

set_option maxRecDepth 100000 in
set_option maxHeartbeats 8000000 in
theorem tabRank_no (zs : List Int) (hr : right zs = false) (hlen : zs.length ≤ 1000) (v : Value) (w : World) (g : Nat) (hv : IsVec w v zs) :
    Calls Try.prog 36 #[.pointer (some ⟨g, 0, none⟩), v] w fun e w' => e = .returned (.tuple #[.int .u64 0, .bool false]) ∧ w = w' := by
  have hr2 : 16 < zs.length ∨ 32 < ms zs := by
    unfold right at hr
    simp only [decide_eq_false_iff_not] at hr
    omega
  obtain ⟨A, cap, rfl, hat⟩ := hv.form
  obtain ⟨len, hlen2⟩ : ∃ len, len = zs.length := ⟨_, rfl⟩
  rw [← hlen2] at hlen hr2 ⊢
  have hL := Lib.hid hlen2
  replace hat := Lib.hid hat
  clear hv hlen2 hr
  by_cases h16 : 16 < len
  · go_enter Try.func36, Try.ntmps36
    go_wp2_with fail
    go_ret2
    exact ⟨rfl, rfl⟩
  · have h32 := Lib.hid (show 32 < ms zs by omega)
    clear hr2
    go_enter Try.func36, Try.ntmps36
    go_wp2_with fail
    go_loop [6, 19] (fun s i => ∃ j : Nat, j ≤ len ∧ i = .int .i64 j ∧ s = .int .i64 (ms (zs.take j) : Nat) ∧ ms (zs.take j) ≤ 32 * j) (fun _ i => len - (intOf i).toNat)
    case atStart => exact ⟨0, by omega, rfl, rfl, by simp [ms]⟩
    case round =>
      obtain ⟨j, hj, rfl, rfl, hT0⟩ := hrel
      by_cases hl : j < len
      · obtain ⟨b, off, rfl, hcap, _, hcell⟩ := hat.out j (by rw [← hL.out]; exact hl)
        have hcap2 : len ≤ cap := by rw [hL.out]; exact hcap
        have hst := Lib.hid (ms_take zs j (by rw [← hL.out]; exact hl))
        obtain ⟨T, hT⟩ : ∃ T, T = ms (zs.take j) := ⟨_, rfl⟩
        rw [← hT] at hst hT0 ⊢
        obtain ⟨y, hye⟩ : ∃ y, y = zs.getD j 0 := ⟨_, rfl⟩
        rw [← hye] at hcell hst
        clear hT hye hcap
        by_cases h1 : 32 < y
        · go_wp2_with fail
          go_ret2
          exact ⟨rfl, rfl⟩
        · by_cases h2 : y < -32
          · go_wp2_with fail
            go_ret2
            exact ⟨rfl, rfl⟩
          · have hmax := abs_max y
            obtain ⟨Y, hYe⟩ : ∃ Y, Y = y.natAbs := ⟨_, rfl⟩
            have hYb : Y ≤ 32 := by omega
            rw [← hYe] at hst hmax
            clear hYe
            go_wp2_with fail
            exact ⟨⟨j + 1, by omega, by go_num, by rw [hst.out]; go_num, by rw [hst.out]; omega⟩, by simp [intOf]; omega⟩
      · obtain rfl : j = len := by omega
        have ht : zs.take j = zs := by rw [hL.out]; exact List.take_length
        rw [ht] at hT0 ⊢
        clear ht
        have hb : 32 < ms zs := h32.out
        obtain ⟨K, hK⟩ : ∃ K, K = ms zs := ⟨_, rfl⟩
        rw [← hK] at hT0 hb ⊢
        clear hK
        go_wp2_with fail
        go_ret2
        exact ⟨rfl, rfl⟩
end Go.Proofs.Ytegjkognlfemgaa
