/- The law TableNext: its walk. -/
import Derived.Test.YtegjkognlfemgaaTab5
import Derived.Test.YtegjkognlfemgaaRankL0
import Derived.RegionTactic
import Derived.Deep.DeepCutAuto
namespace Go.Proofs.Ytegjkognlfemgaa
open Go.RowKit

theorem V_two : ∀ n, n < 16 → ∀ k, k < 32 → 2 ≤ V (n + 1) (k + 1) := by decide +kernel
/-- Two slices of the call's own, and the table. -/
def TwoR (w : World) (g B A bx by' : Nat) (xs ys : List Value) (W : World) : Prop :=
  W.ownsRow B 3 1 (.slice (some ⟨bx, 0, none⟩) A A) A xs ∧ W.ownsRow B 3 1 (.slice (some ⟨by', 0, none⟩) A A) A ys ∧ IsTab W g ∧ Below w.heap.size w W ∧ bx ≠ by' ∧ g ≠ bx ∧ g ≠ by' ∧ B ≤ W.heap.size ∧ w.heap.size ≤ B ∧ B ≤ bx ∧ B ≤ by'
theorem own_madeB (w : World) (B n : Nat) (hn : n ≤ maxLen) (hB : B ≤ w.heap.size) : (w.alloc (.cells (Array.replicate n (.int .i64 0)) 3)).ownsRow B 3 1 (.slice (some ⟨w.heap.size, 0, none⟩) n n) n (List.replicate n (.int .i64 0)) := by
  refine ⟨by simp, .inr ⟨w.heap.size, n, Array.replicate n (.int .i64 0), rfl, hB, heap_alloc_new w _, Nat.le_refl _, hn, by simp, by simp⟩⟩
theorem two_made {w W : World} {g A : Nat} (hA : A ≤ 16) (ht : IsTab W g) (hb : Below w.heap.size w W) :
    TwoR w g W.heap.size A W.heap.size (W.heap.size + 1) (List.replicate A (.int .i64 0)) (List.replicate A (.int .i64 0)) ((W.alloc (.cells (Array.replicate A (.int .i64 0)) 3)).alloc (.cells (Array.replicate A (.int .i64 0)) 3)) ∧
    TwoR w g W.heap.size A (W.heap.size + 1) W.heap.size (List.replicate A (.int .i64 0)) (List.replicate A (.int .i64 0)) ((W.alloc (.cells (Array.replicate A (.int .i64 0)) 3)).alloc (.cells (Array.replicate A (.int .i64 0)) 3)) := by
  have hm : A ≤ maxLen := by unfold maxLen; omega
  have o1 := own_belowT (own_madeB W W.heap.size A hm (Nat.le_refl _)) (belowAlloc (W.alloc (.cells (Array.replicate A (.int .i64 0)) 3)) (.cells (Array.replicate A (.int .i64 0)) 3))
  have o2 := own_madeB (W.alloc (.cells (Array.replicate A (.int .i64 0)) 3)) W.heap.size A hm (by simp)
  have e2 : (W.alloc (.cells (Array.replicate A (.int .i64 0)) 3)).heap.size = W.heap.size + 1 := by simp
  rw [e2] at o2
  have hlt := ht.lt
  have t1 := (ht.below (belowAlloc W (.cells (Array.replicate A (.int .i64 0)) 3))).below (belowAlloc _ (.cells (Array.replicate A (.int .i64 0)) 3))
  have b1 := (hb.alloc hb.size (.cells (Array.replicate A (.int .i64 0)) 3)).alloc (by have := hb.size; simp; omega) (.cells (Array.replicate A (.int .i64 0)) 3)
  have hs := hb.size
  exact ⟨⟨o1, o2, t1, b1, by omega, by omega, by omega, by simp; omega, by omega, by omega, by omega⟩, ⟨o2, o1, t1, b1, by omega, by omega, by omega, by simp; omega, by omega, by omega, by omega⟩⟩

theorem twoR_drew {w : World} {g B A bx by' : Nat} {xs ys : List Value} {W : World} (h : TwoR w g B A bx by' xs ys W) : TwoR w g B A bx by' xs ys W.drew := by
  obtain ⟨h1, h2, h3, h4, h5⟩ := h
  exact ⟨h1, h2, h3.below ((Below.refl _ _).drew), h4.drew, h5⟩

set_option maxRecDepth 100000 in
set_option maxHeartbeats 16000000 in
theorem tableNext_walk (n k i : Int) (hn : 0 ≤ n ∧ n ≤ 255) (hk : 0 ≤ k ∧ k ≤ 255) (hi : 0 ≤ i ∧ i ≤ 18446744073709551615) (w : World) :
    Calls Try.prog 11 #[.int .u8 n, .int .u8 k, .int .u64 i] w fun e w' => e = .returned (.bool true) ∧ Below w.heap.size w w' := by
  obtain ⟨x, hx, x1, x2⟩ := u8_rem n 16 hn.1 (by omega)
  obtain ⟨y, hy, y1, y2⟩ := u8_rem k 32 hk.1 (by omega)
  obtain ⟨A, hA⟩ : ∃ A : Nat, 1 + x = (A : Int) := ⟨(1 + x).toNat, by omega⟩
  obtain ⟨C, hC⟩ : ∃ C : Nat, 1 + y = (C : Int) := ⟨(1 + y).toNat, by omega⟩
  have hA1 : 1 ≤ A := by omega
  have hA2 : A ≤ 16 := by omega
  have hC1 : 1 ≤ C := by omega
  have hC2 : C ≤ 32 := by omega
  have hV2 : 2 ≤ V A C := by
    obtain ⟨a, rfl⟩ : ∃ a, A = a + 1 := ⟨A - 1, by omega⟩
    obtain ⟨c, rfl⟩ : ∃ c, C = c + 1 := ⟨C - 1, by omega⟩
    exact V_two a (by omega) c (by omega)
  have hVb := V_lt A (by omega) C (by omega)
  have hVZ : VZ (A : Int) (C : Int) = ((V A C : Nat) : Int) := VZ_at2 hA2 hC2 _ _ rfl rfl
  obtain ⟨T, hT⟩ : ∃ T, T = V A C := ⟨_, rfl⟩
  rw [← hT] at hV2 hVb hVZ
  replace hT := Lib.hid hT
  replace hVZ := Lib.hid hVZ
  obtain ⟨J, hJ⟩ : ∃ J : Nat, (J : Int) = i % ((T : Int) - 1) := ⟨(i % ((T : Int) - 1)).toNat, by have := Int.emod_nonneg i (show (T : Int) - 1 ≠ 0 by omega); omega⟩
  have hJT : J + 1 < T := by have := Int.emod_lt_of_pos i (show (0 : Int) < (T : Int) - 1 by omega); omega
  replace hJ := Lib.hid hJ
  have hmk : ∀ w, (Instr.makeSlice 40 (.int .i64 A) (.int .i64 A)).run Try.prog w = .ok (.slice (some ⟨w.heap.size, 0, none⟩) A A) (w.alloc (.cells (Array.replicate A (.int .i64 0)) 3)) := fun w => mk40 w A hA2
  obtain ⟨cs, hcs⟩ : ∃ cs : Array Value, cs = Array.replicate A (.int .i64 0) := ⟨_, rfl⟩
  rw [← hcs] at hmk
  replace hcs := Lib.hid hcs
  go_enter Try.func11, Try.ntmps11
  go_wp2_with fail
  refine (awake12 _).mono ?_
  rintro e w0 ⟨rfl, b0⟩
  replace b0 := Lib.hid b0
  go_wp2_with fail
  refine (tabNew_any _).mono ?_
  rintro e w1 ⟨rfl, ht, hb⟩
  have hb1 := Lib.hid (Below.trans b0.out (hb.mono b0.out.size))
  replace ht := Lib.hid ht
  clear hb
  go_wp2_with fail
  with_reducible refine Calls.mono (tabV_any _ _ _ _ ht.out) ?_
  rintro e w2 ⟨rfl, rfl⟩
  rw [hVZ.out]
  have hT2 : decide (T < 2) = false := by simp; omega
  go_upto_region 8 with fail
  go_cut [11, 12] from 31 to 34 (fun sx sy wx => ∃ bx by', sx = .slice (some ⟨bx, 0, none⟩) A A ∧ sy = .slice (some ⟨by', 0, none⟩) A A ∧ TwoR w w0.heap.size w1.heap.size A bx by' (List.replicate A (.int .i64 0)) (List.replicate A (.int .i64 0)) wx)
  case first =>
    have htm := two_made hA2 ht.out hb1.out
    rw [← hcs.out] at htm
    obtain ⟨t1, t2⟩ := htm
    replace t1 := Lib.hid t1
    replace t2 := Lib.hid t2
    go_region
    all_goals
      go_wp2_with fail
      go_meet
      first
        | exact ⟨_, _, rfl, rfl, twoR_drew t1.out⟩
        | exact ⟨_, _, rfl, rfl, twoR_drew t2.out⟩
        | exact ⟨_, _, rfl, rfl, t1.out⟩
        | exact ⟨_, _, rfl, rfl, t2.out⟩
  case rest =>
    obtain ⟨bx, by', rfl, rfl, hR⟩ := hcut
    obtain ⟨ox, oy, ht2, hb2, hne, hg1, hg2, hB, hwB, hbx, hby⟩ := hR
    replace ox := Lib.hid ox
    replace oy := Lib.hid oy
    replace ht2 := Lib.hid ht2
    replace hb2 := Lib.hid hb2
    replace hne := Lib.hid hne
    replace hg1 := Lib.hid hg1
    replace hg2 := Lib.hid hg2
    have hJr : i % ((T : Int) - 1) = (J : Int) := hJ.out.symm
    have hJV : J < V A C := by rw [← hT.out]; omega
    have hJV2 : J + 1 < V A C := by rw [← hT.out]; omega
    have sx := unr_small0 hA2 hC2 hJV
    have sy := unr_small0 hA2 hC2 hJV2
    have lx := (unr_spec A C J hA2 hC2 hJV).1
    have ly := (unr_spec A C (J + 1) hA2 hC2 hJV2).1
    have b1 : befL (unr A C J) (unr A C (J + 1)) = true := by rw [bef_unr0 hA2 hC2 hJV hJV2]; simp
    have b2 : befL (unr A C (J + 1)) (unr A C J) = false := by rw [bef_unr0 hA2 hC2 hJV2 hJV]; simp
    have cxy := Lib.hid (fun v v2 w h1 h2 => before_any (unr A C J) (unr A C (J + 1)) (small_within0 sx) (small_within0 sy) (by omega) (by omega) v v2 w h1 h2)
    have cyx := Lib.hid (fun v v2 w h1 h2 => before_any (unr A C (J + 1)) (unr A C J) (small_within0 sy) (small_within0 sx) (by omega) (by omega) v v2 w h1 h2)
    rw [b1] at cxy
    rw [b2] at cyx
    have cI := Lib.hid (fun b xs0 hx0 w g h hgb ho k' i' ek ei => intoB A C J hA2 hA1 hC2 hJV b A w1.heap.size xs0 hx0 w g h hgb (Nat.le_refl _) ho k' i' ek ei)
    have cI2 := Lib.hid (fun b xs0 hx0 w g h hgb ho k' i' ek ei => intoB A C (J + 1) hA2 hA1 hC2 hJV2 b A w1.heap.size xs0 hx0 w g h hgb (Nat.le_refl _) ho k' i' ek ei)
    obtain ⟨X, hX⟩ : ∃ X, X = unr A C J := ⟨_, rfl⟩
    obtain ⟨Y, hY⟩ : ∃ Y, Y = unr A C (J + 1) := ⟨_, rfl⟩
    rw [← hX] at cxy cyx cI lx
    rw [← hY] at cxy cyx cI2 ly
    replace lx := Lib.hid lx
    replace ly := Lib.hid ly
    clear hX hY sx sy b1 b2 hJV hJV2 hJ
    go_wp2_with fail
    with_reducible refine Calls.mono (cI.out _ _ (by simp) _ _ ht2.out hg1.out ox.out _ _ rfl rfl) ?_
    rintro e w3 ⟨rfl, ox3, ht3, gr3⟩
    have oy3 := Lib.hid (oy.out.kept gr3 (.inr (by intro e; injection e with e; exact hne.out e.symm)))
    have hb3 := Lib.hid (Below.trans hb2.out (grown_old gr3 (show w.heap.size ≤ bx by omega) hb2.out.size))
    replace ox3 := Lib.hid ox3
    replace ht3 := Lib.hid ht3
    clear gr3 ox oy ht2
    go_wp2_with fail
    with_reducible refine Calls.mono (cI2.out _ _ (by simp) _ _ ht3.out hg2.out oy3.out _ _ rfl (by go_num)) ?_
    rintro e w4 ⟨rfl, oy4, ht4, gr4⟩
    have ox4 := ox3.out.kept gr4 (.inr (by intro e; injection e with e; exact hne.out e))
    have hb4 := Lib.hid (Below.trans hb3.out (grown_old gr4 (show w.heap.size ≤ by' by omega) hb3.out.size))
    have vx := Lib.hid (own_vec lx.out.symm ox4)
    have vy := Lib.hid (own_vec ly.out.symm oy4)
    clear gr4 ox3 oy3 ht3 ht4 ox4 oy4
    go_wp2_with fail
    with_reducible refine Calls.mono (cxy.out _ _ _ vx.out vy.out) ?_
    rintro e w5 ⟨rfl, d5, rfl⟩
    replace vx := Lib.hid (vx.out.below (below_drewN (Below.refl _ _) d5))
    replace vy := Lib.hid (vy.out.below (below_drewN (Below.refl _ _) d5))
    go_wp2_with fail
    with_reducible refine Calls.mono (cyx.out _ _ _ vy.out vx.out) ?_
    rintro e w6 ⟨rfl, d6, rfl⟩
    go_wp2_with fail
    go_ret
    exact ⟨rfl, by first | exact below_drewN (below_drewN hb4.out _) _ | exact below_drewN hb4.out _⟩
end Go.Proofs.Ytegjkognlfemgaa
