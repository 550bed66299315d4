/- The contract of rank's Rank. -/
import Derived.Test.YtegjkognlfemgaaRank3
namespace Go.Proofs.Ytegjkognlfemgaa
open Go.RowKit

/-- A book in memory. -/
def BookAt (w : World) (gb gm : Nat) : Prop := ∃ S, Book w gb gm S ∧ Closed S
theorem BookAt.below {w w' : World} {gb gm : Nat} (h : BookAt w gb gm) (hb : Below w.heap.size w w') : BookAt w' gb gm := by
  obtain ⟨S, h1, h2⟩ := h
  exact ⟨S, h1.below hb, h2⟩
theorem BookAt.alloc {w : World} {gb gm : Nat} (h : BookAt w gb gm) (o : Obj) : BookAt (w.alloc o) gb gm := h.below (belowAlloc w o)
theorem BookAt.drewN {w : World} {gb gm : Nat} (h : BookAt w gb gm) (n : Nat) : BookAt (w.drewN n) gb gm := h.below (below_drewN (Below.refl _ _) n)
theorem Fresh.at_ {B : Nat} {w w1 : World} {gb gm : Nat} {S : Int → Int → Bool} (h : Fresh B w w1 gb gm S) : BookAt w1 gb gm := ⟨S, h.book, h.closed⟩
theorem Fresh.grow {B : Nat} {w w1 w2 : World} {gb gm : Nat} {S : Int → Int → Bool} (h : Fresh B w w1 gb gm S) (h1 : BookAt w2 gb gm) (h2 : w1.grownBy w2 (some gm)) : ∃ T, Fresh B w w2 gb gm T := by
  obtain ⟨T, hB, hC⟩ := h1
  exact ⟨T, hB, hC, h.gbB, h.gmB, Below.trans h.below (grown_old h2 h.gmB h.size)⟩
theorem BookAt.ask {w1 : World} {gb gm : Nat} (h : BookAt w1 gb gm) (n k : Int) : Calls Try.prog 19 #[.pointer (some ⟨gb, 0, none⟩), .int .i64 n, .int .i64 k] w1 fun e w' => e = .returned (.int .u64 (VZ n k)) ∧ BookAt w' gb gm ∧ w1.grownBy w' (some gm) := by
  obtain ⟨S, h1, h2⟩ := h
  exact (bookV_any n k w1 gb gm S h1 h2).mono fun e w' ⟨he, hb, hg⟩ => ⟨he, ⟨_, hb, more_closed h2 _ _⟩, hg⟩
theorem IsVec.grown {w w' : World} {v : Value} {zs : List Int} {gb gm : Nat} (h : IsVec w v zs) (hB : BookAt w gb gm) (hg : w.grownBy w' (some gm)) : IsVec w' v zs := by
  obtain ⟨S, hB, _⟩ := hB
  rcases h with h | ⟨b, off, cap, rfl, h1, h2, h3⟩
  · exact .inl h
  · rcases Nat.eq_zero_or_pos zs.length with h0 | hp
    · exact .inl ⟨some ⟨b, off, none⟩, cap, by rw [h0], List.eq_nil_of_length_eq_zero h0⟩
    · obtain ⟨l, ⟨c, hl⟩, _⟩ := hB.map
      have hne : b ≠ gm := fun e => by
        have := h3 0 hp
        subst e
        simp [World.cell?, hl] at this
      have hb : w'.heap[b]? = w.heap[b]? := hg.block b h2 (fun e => hne (by injection e))
      refine .inr ⟨b, off, cap, rfl, h1, Nat.lt_of_lt_of_le h2 hg.size, fun j hj => ?_⟩
      rw [← h3 j hj]
      simp [World.cell?, hb]

theorem drop_at (zs : List Int) (j : Nat) (h : j < zs.length) : zs.drop j = zs.getD j 0 :: zs.drop (j + 1) := by
  rw [List.drop_eq_getElem_cons h]
  simp [h]

set_option maxHeartbeats 4000000 in
theorem aheadB (N k : Nat) (n' k' x : Int) (hn : N < 16) (hk : k ≤ 32) (en : n' = (N : Int) + 1) (ek : k' = k) (hx : -1000 ≤ x ∧ x ≤ 1000) (w : World) (gb gm : Nat) (hF : BookAt w gb gm) :
    Calls Try.prog 43 #[.pointer (some ⟨gb, 0, none⟩), .int .i64 n', .int .i64 k', .int .i64 x] w fun e w' => e = .returned (.int .u64 (ahN N k (pl x) : Nat)) ∧ BookAt w' gb gm ∧ w.grownBy w' (some gm) := by
  replace hF := Lib.hid hF
  have hpl : pl x ≤ 2000 := by unfold pl; split <;> omega
  have hsp := Lib.hid (sq_pl x)
  have hps := Lib.hid pl_sq
  have hS := Lib.hid (aheadS_is N k hn hk)
  have hn1 : 1 ≤ n' := by omega
  have hn2 : n' ≤ 16 := by omega
  have hk1 : 0 ≤ k' := by omega
  have hk2 : k' ≤ 32 := by omega
  rw [← en, ← ek] at hS
  clear en ek hk
  go_enter Try.func43, Try.ntmps43
  go_wp2
  go_loopw [9, 10] (fun r y wr => ∃ p : Nat, p ≤ pl x ∧ y = .int .i64 (sq p) ∧ r = .int .u64 (aheadS n' k' p) ∧ BookAt wr gb gm ∧ w.grownBy wr (some gm)) (fun _ y _ => pl x - pl (intOf y))
  case atStart => exact ⟨0, by omega, rfl, rfl, hF.out, World.grownBy.refl w _⟩
  case round =>
    clear hF
    obtain ⟨p, hp, rfl, rfl, hF, hg⟩ := hrel
    replace hF := Lib.hid hF
    replace hg := Lib.hid hg
    by_cases hl : p = pl x
    · have hq : sq p = x := by rw [hl]; exact hsp.out
      have hSp := Lib.hid (hS.out p (by omega))
      rw [hq]
      rw [hl] at hSp ⊢
      clear hq
      go_wp2
      go_ret
      exact ⟨by rw [← hSp.out]; rfl, hF.out, hg.out⟩
    · have hne : (sq p == x) = false := by
        simp
        intro e
        apply hl
        rw [← e, hps.out]
      have hbq : -1001 ≤ sq p ∧ sq p ≤ 1001 := by unfold sq; split <;> omega
      have hm := mag_sq p (by omega)
      obtain ⟨M, hM⟩ : ∃ M, M = mag (sq p) := ⟨_, rfl⟩
      have hMb : 0 ≤ M ∧ M ≤ 1000 := by omega
      have cm := fun w => mag_any (sq p) (by omega) w
      have cn := fun w => next_any p (by omega) w
      rw [← hM] at cm
      have hM2 := Lib.hid hM
      clear hM hm
      go_wp2_with fail
      refine (cm _).mono ?_
      rintro e w1 ⟨rfl, rfl⟩
      go_wp2_with fail
      refine (hF.out.ask _ _).mono ?_
      rintro e w2 ⟨rfl, b2, g2⟩
      have f2 := Lib.hid b2
      have g3 := Lib.hid (grown_trans hg.out g2)
      clear b2 g2 hF hg
      go_wp2_with fail
      refine (cn _).mono ?_
      rintro e w3 ⟨rfl, rfl⟩
      go_wp2_with fail
      go_roundw
      case rel => exact ⟨p + 1, by omega, rfl, by rw [hM2.out]; rfl, f2.out, g3.out⟩
      case measure => simp only [intOf]; simp [hps.out]; omega

/-- .. of a vector that has a rank. -/
theorem rk_bound {zs : List Int} (h : right zs = true) : rkN zs < 1000000000000000000 := by
  unfold right at h
  simp only [decide_eq_true_eq] at h
  exact Nat.lt_trans (rkN_lt zs h.1 h.2) (V_lt _ (by omega) _ (by omega))
theorem msum_ms : ∀ zs : List Int, ms zs ≤ 32 → msum zs = (ms zs : Nat)
  | [], _ => rfl
  | x :: r, h => by
    have e : ms (x :: r) = x.natAbs + ms r := rfl
    have ih := msum_ms r (by omega)
    have m := mag_small x (by omega)
    show mag x + msum r = _
    omega
theorem msum_big : ∀ zs : List Int, 32 < ms zs → 32 < msum zs
  | [], h => by simp [ms] at h
  | x :: r, h => by
    have e : ms (x :: r) = x.natAbs + ms r := rfl
    have b := mag_bound x
    have c := msum_bound r
    show 32 < mag x + msum r
    by_cases h1 : 32 < ms r
    · have := msum_big r h1
      omega
    · have h2 := msum_ms r (by omega)
      by_cases hx : -1000 ≤ x ∧ x ≤ 1000
      · have := mag_small x hx
        omega
      · unfold mag
        split
        · omega
        · split
          · omega
          · split <;> omega
theorem ms_drop_le (zs : List Int) (j : Nat) : ms (zs.drop j) ≤ ms zs := by
  induction zs generalizing j with
  | nil => simp [ms]
  | cons x r ih =>
    cases j with
    | zero => simp
    | succ j => have := ih j; simp only [List.drop_succ_cons, ms]; omega
theorem rk_drop_le (zs : List Int) (j : Nat) : rkN (zs.drop j) ≤ rkN zs := by
  induction zs generalizing j with
  | nil => simp
  | cons x r ih =>
    cases j with
    | zero => simp
    | succ j => have := ih j; simp only [List.drop_succ_cons, rkN]; omega

set_option maxHeartbeats 8000000 in
theorem rank_yes (zs : List Int) (hr : right zs = true) (hz : ∀ x ∈ zs, Num x) (v : Value) (w : World) (gb gm : Nat) (hv : IsVec w v zs) (hF : BookAt w gb gm) :
    Calls Try.prog 25 #[.pointer (some ⟨gb, 0, none⟩), v] w fun e w' => e = .returned (.tuple #[.int .u64 (rkN zs : Nat), .int .i64 0]) ∧ BookAt w' gb gm ∧ w.grownBy w' (some gm) := by
  have hr2 := hr
  unfold right at hr2
  simp only [decide_eq_true_eq] at hr2
  obtain ⟨h16, h32⟩ := hr2
  have hrb := rk_bound hr
  have cp := fun w hv => pulses_any zs hz (by omega) v w hv
  rw [msum_ms zs h32] at cp
  replace cp := Lib.hid cp
  have hvh := Lib.hid hv
  replace hF := Lib.hid hF
  obtain ⟨A, cap, rfl, hat⟩ := hv.form
  obtain ⟨len, hlen2⟩ : ∃ len, len = zs.length := ⟨_, rfl⟩
  rw [← hlen2] at h16 cp hvh ⊢
  have hL := Lib.hid hlen2
  have h32h := Lib.hid h32
  obtain ⟨R, hRe⟩ : ∃ R, R = rkN zs := ⟨_, rfl⟩
  obtain ⟨K, hKe⟩ : ∃ K, K = ms zs := ⟨_, rfl⟩
  rw [← hRe] at hrb ⊢
  rw [← hKe] at cp h32
  have hRh := Lib.hid hRe
  have hKh := Lib.hid hKe
  clear hat hv hlen2 hRe hKe hr hz
  go_enter Try.func25, Try.ntmps25
  go_wp2_with fail
  refine (cp.out _ hvh.out).mono ?_
  rintro e w1 ⟨rfl, rfl⟩
  go_wp2_with fail
  go_loopw [6, 7, 21] (fun k s i wr => ∃ j : Nat, j ≤ len ∧ i = .int .i64 j ∧ k = .int .i64 (ms (zs.drop j) : Nat) ∧ s = .int .u64 (R - rkN (zs.drop j) : Nat) ∧ BookAt wr gb gm ∧ w.grownBy wr (some gm)) (fun _ _ i _ => len - (intOf i).toNat)
  case atStart => exact ⟨0, by omega, rfl, by rw [hKh.out]; rfl, by rw [hRh.out, List.drop_zero, Nat.sub_self]; rfl, hF.out, World.grownBy.refl w _⟩
  case round =>
    obtain ⟨j, hj, rfl, rfl, rfl, hB, hg⟩ := hrel
    have hvw := hvh.out.grown hF.out hg
    replace hB := Lib.hid hB
    replace hg := Lib.hid hg
    by_cases hl : j < len
    · have hj2 : j < zs.length := by rw [← hL.out]; exact hl
      have hd := drop_at zs j hj2
      have hdl : (zs.drop (j + 1)).length = len - (j + 1) := by rw [List.length_drop, hL.out]
      have hx := ms_mem zs j
      have hk1 := ms_drop_le zs j
      have hr1 := rk_drop_le zs j
      have hr2 := rk_drop_le zs (j + 1)
      have hm3 := h32h.out
      have em : ms (zs.drop j) = (zs.getD j 0).natAbs + ms (zs.drop (j + 1)) := by rw [hd]; rfl
      have er : rkN (zs.drop j) = ahN (len - (j + 1)) (ms (zs.drop j)) (pl (zs.getD j 0)) + rkN (zs.drop (j + 1)) := by
        rw [← hdl]
        conv => lhs; rw [hd]
        conv => rhs; rw [hd]
        rfl
      obtain ⟨A', cap', he, hat⟩ := hvw.form
      obtain ⟨b, off, rfl, hcap, _, hcell⟩ := hat j hj2
      rw [← hL.out] at he hcap
      injection he with he1 _ he2
      subst he1
      subst he2
      rw [← hRh.out] at hr1 hr2
      obtain ⟨y, hy⟩ : ∃ y, y = zs.getD j 0 := ⟨_, rfl⟩
      rw [← hy] at em er hx hcell
      have hyb : -32 ≤ y ∧ y ≤ 32 := by omega
      have cm := fun w => mag_any y (by omega) w
      rw [mag_small y (by omega)] at cm
      obtain ⟨k0, hk0⟩ : ∃ k0, k0 = ms (zs.drop j) := ⟨_, rfl⟩
      obtain ⟨k2, hk2⟩ : ∃ k2, k2 = ms (zs.drop (j + 1)) := ⟨_, rfl⟩
      obtain ⟨r0, hr0⟩ : ∃ r0, r0 = rkN (zs.drop j) := ⟨_, rfl⟩
      obtain ⟨r2, hr3⟩ : ∃ r2, r2 = rkN (zs.drop (j + 1)) := ⟨_, rfl⟩
      rw [← hk0] at hk1 em er ⊢
      rw [← hr0] at hr1 er ⊢
      rw [← hk2] at em
      rw [← hr3] at hr2 er
      have ca := fun (w : World) (n' k' : Int) e1 e2 hb => aheadB (len - (j + 1)) k0 n' k' y (by omega) (by omega) e1 e2 (by omega) w gb gm hb
      obtain ⟨T, hT⟩ : ∃ T, T = ahN (len - (j + 1)) k0 (pl y) := ⟨_, rfl⟩
      rw [← hT] at ca er
      obtain ⟨Y, hY⟩ : ∃ Y, Y = y.natAbs := ⟨_, rfl⟩
      rw [← hY] at cm em
      have hYb : Y ≤ 32 := by omega
      have hk2h := Lib.hid hk2
      have hr3h := Lib.hid hr3
      have hTb : R - r0 + T ≤ R := by omega
      have e1 : ((R - r0 : Nat) : Int) + (T : Int) = ((R - r2 : Nat) : Int) := by omega
      have e2 : (k0 : Int) - (Y : Int) = (k2 : Int) := by omega
      replace e1 := Lib.hid e1
      replace e2 := Lib.hid e2
      replace ca := Lib.hid ca
      have hcap2 : len ≤ cap := hcap
      have hS : ((R - r0 : Nat) : Int) ≤ 1000000000000000000 := by omega
      have hS2 : ((R - r0 : Nat) : Int) + T ≤ 1000000000000000000 := by omega
      obtain ⟨S0, hS0⟩ : ∃ S0, S0 = R - r0 := ⟨_, rfl⟩
      rw [← hS0] at hS hS2 e1 ⊢
      have hk0b : k0 ≤ 32 := by omega
      clear hd hdl hx hk1 hr1 hr2 hm3 em er hat hy hk0 hr0 hk2 hr3 hT hY hTb hvw hS0 hcap hj2
      go_wp2_with fail
      with_reducible refine Calls.mono (ca.out _ _ _ (by omega) rfl hB.out) ?_
      rintro e w2 ⟨rfl, b2, g2⟩
      have hB2 := Lib.hid b2
      have hg2 := Lib.hid (grown_trans hg.out g2)
      clear b2 g2 hB hg
      go_wp2_with fail
      with_reducible refine Calls.mono (cm _) ?_
      rintro e w3 ⟨rfl, rfl⟩
      go_wp2_with fail
      go_roundw
      case rel => exact ⟨j + 1, by omega, by go_num, by rw [e2.out, hk2h.out], by rw [e1.out, hr3h.out], hB2.out, hg2.out⟩
      case measure => simp [intOf]; omega
    · obtain rfl : j = len := by omega
      have ht : zs.drop j = [] := by rw [hL.out]; exact List.drop_length
      rw [ht]
      clear ht
      go_wp2
      go_ret2
      exact ⟨rfl, hB.out, hg.out⟩
end Go.Proofs.Ytegjkognlfemgaa
