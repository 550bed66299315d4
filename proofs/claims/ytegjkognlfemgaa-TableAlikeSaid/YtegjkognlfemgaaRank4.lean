/- The contract of the reference's Rank. -/
import Derived.Test.YtegjkognlfemgaaRank3
namespace Go.Proofs.Ytegjkognlfemgaa
open Go.RowKit

theorem ahN_min (N K c P : Nat) : ahN N K (min (c + 1) P) = ahN N K (min c P) + if c < P then tN N K c else 0 := by
  by_cases h : c < P
  · rw [if_pos h, show min (c + 1) P = c + 1 from by omega, show min c P = c from by omega]
    rfl
  · rw [if_neg h, show min (c + 1) P = min c P from by omega]
    rfl
def cA (m : Nat) : Nat := 2 * m - 1
def cB (m : Nat) : Nat := if m = 0 then 1 else 2 * m
def cC (m : Nat) : Nat := 2 * m + 1
theorem pl_pos (m : Nat) : pl (m : Int) = cA m := by unfold pl cA; split <;> omega
theorem pl_neg (m : Nat) : pl (-(m : Int)) = 2 * m := by unfold pl; split <;> omega
theorem stepA (N K m P : Nat) (hm : m ≤ K) : ahN N K (min (cB m) P) = ahN N K (min (cA m) P) + if cA m < P then V N (K - m) else 0 := by
  have e : cB m = cA m + 1 := by unfold cA cB; split <;> omega
  have t : tN N K (cA m) = V N (K - m) := by
    have h : (cA m + 1) / 2 = m := by unfold cA; omega
    rw [tN_in (by omega), h]
  rw [e, ahN_min, t]
theorem stepB (N K m P : Nat) (hm : m ≤ K) (h0 : m ≠ 0) : ahN N K (min (cC m) P) = ahN N K (min (cB m) P) + if 2 * m < P then V N (K - m) else 0 := by
  have e : cB m = 2 * m := by unfold cB; rw [if_neg h0]
  have t : tN N K (2 * m) = V N (K - m) := by
    have h : (2 * m + 1) / 2 = m := by omega
    rw [tN_in (by omega), h]
  rw [e, ← t, ← ahN_min]
  rfl
theorem stepZ (N K m P : Nat) (h0 : m = 0) : ahN N K (min (cC m) P) = ahN N K (min (cB m) P) := by subst h0; rfl

theorem VZ_in {n k : Nat} (hn : n ≤ 16) (hk : k ≤ 32) (a b : Int) (ha : a = n) (hb : b = k) : VZ a b = ((V n k : Nat) : Int) := by
  subst ha hb
  rw [VZ_nat ⟨by omega, by omega, by omega, by omega⟩, Int.toNat_natCast, Int.toNat_natCast]

set_option maxRecDepth 100000 in
set_option maxHeartbeats 8000000 in
theorem refRank_any : ∀ (zs : List Int) (_ : right zs = true) (v : Value) (w : World) (_ : IsVec w v zs),
    Calls Try.prog 27 #[v] w fun e w' => e = .returned (.int .u64 (rkN zs : Nat)) ∧ ∃ d, w' = w.drewN d
  | [], hr, v, w, hv => by
    obtain ⟨A, cap, rfl, hat⟩ := hv.form
    clear hat hv hr
    go_enter Try.func27, Try.ntmps27
    go_wp2
    go_ret
    exact ⟨rfl, 0, rfl⟩
  | x :: r, hr, v, w, hv => by
    have hr2 := hr
    unfold right at hr2
    simp only [decide_eq_true_eq] at hr2
    have ex : ms (x :: r) = x.natAbs + ms r := rfl
    have el : (x :: r).length = r.length + 1 := rfl
    have hrr : right r = true := by unfold right; simp only [decide_eq_true_eq]; omega
    have ih := Lib.hid (refRank_any r hrr)
    have cp := Lib.hid (fun w' (h : IsVec w' v (x :: r)) => refPulses_any (x :: r) hr2.2 (by omega) v w' h)
    have hvh := Lib.hid hv
    rcases hv with ⟨_, _, _, he⟩ | ⟨b, off, cap, rfl, h1, h2, h3⟩
    · cases he
    have hR1 : rkN (x :: r) = ahN r.length (ms (x :: r)) (pl x) + rkN r := rfl
    have hRb := rkN_lt r (by omega) (by omega)
    have hVr := V_lt r.length (by omega) (ms r) (by omega)
    have c0 : w.cell? ⟨b, off, none⟩ = some (.int .i64 x) := h3 0 (by simp)
    have hvr : IsVec w (if cap = 1 then .slice (some ⟨b, off, none⟩) r.length (cap - 1) else .slice (some ⟨b, off + 1, none⟩) r.length (cap - 1)) r := by
      by_cases hc : cap = 1
      · rw [if_pos hc]
        have : r = [] := List.eq_nil_of_length_eq_zero (by omega)
        subst this
        exact .inl ⟨_, _, rfl, rfl⟩
      · rw [if_neg hc]
        refine .inr ⟨b, off + 1, cap - 1, rfl, by omega, h2, fun j hj => ?_⟩
        have := h3 (j + 1) (by omega)
        rwa [show off + (j + 1) = off + 1 + j from by omega] at this
    have hP : pl x ≤ 2 * ms (x :: r) := by unfold pl; split <;> omega
    have hx : -32 ≤ x ∧ x ≤ 32 := by omega
    have hal := fun p => ahN_le r.length (ms (x :: r)) p (by omega) (by omega)
    have hVt := V_lt (r.length + 1) (by omega) (ms (x :: r)) (by omega)
    have hK : ms (x :: r) ≤ 32 := hr2.2
    have cV := fun (w : World) (m : Nat) (hm : m ≤ ms (x :: r)) (a b : Int) (ha : a = r.length) (hb : b = ((ms (x :: r) : Nat) : Int) - m) =>
      (VZ_in (n := r.length) (k := ms (x :: r) - m) (by omega) (by omega) a b ha (by omega)) ▸ refV_any a b w
    have hVb := fun m => V_lt r.length (by omega) (ms (x :: r) - m) (by omega)
    have sA := stepA r.length (ms (x :: r))
    have sB := stepB r.length (ms (x :: r))
    have sZ := stepZ r.length (ms (x :: r))
    have hfin : ∀ m, ms (x :: r) < m → min (cA m) (pl x) = pl x := fun m hm => by unfold cA; omega
    have cX := fun w => place_any x (by omega) w
    have hN : r.length ≤ 15 := by omega
    clear h3 ex hr2 hr hrr el
    obtain ⟨N, hNe⟩ : ∃ N, N = r.length := ⟨_, rfl⟩
    obtain ⟨K, hKe⟩ : ∃ K, K = ms (x :: r) := ⟨_, rfl⟩
    obtain ⟨R, hRe⟩ : ∃ R, R = rkN r := ⟨_, rfl⟩
    obtain ⟨P, hPe⟩ : ∃ P, P = pl x := ⟨_, rfl⟩
    rw [hR1]
    simp only [List.length_cons] at *
    have hRb : R ≤ 1000000000000000000 := by omega
    simp only [← hNe, ← hKe, ← hRe, ← hPe] at *
    obtain ⟨F, hF⟩ : ∃ F : Nat → Nat, F = fun m => ahN N K (min (cA m) P) + R := ⟨_, rfl⟩
    have F0 : F 0 = R := by rw [hF]; simp [cA, ahN]
    have F0 := Lib.hid F0
    have Fs : ∀ m, m ≤ K → F (m + 1) = F m + (if cA m < P then V N (K - m) else 0) + (if m ≠ 0 ∧ 2 * m < P then V N (K - m) else 0) := by
      intro m hm
      have e : F (m + 1) = ahN N K (min (cC m) P) + R := by rw [hF]; rfl
      have e' : F m = ahN N K (min (cA m) P) + R := by rw [hF]
      rw [e, e']
      have e1 := sA m P hm
      by_cases h0 : m = 0
      · have e2 := sZ m P h0
        rw [show (if m ≠ 0 ∧ 2 * m < P then V N (K - m) else 0) = 0 from if_neg (by omega)]
        omega
      · have e2 := sB m P hm h0
        have e3 : (if m ≠ 0 ∧ 2 * m < P then V N (K - m) else 0) = if 2 * m < P then V N (K - m) else 0 := by
          by_cases hh : 2 * m < P
          · rw [if_pos ⟨h0, hh⟩, if_pos hh]
          · rw [if_neg (by omega), if_neg hh]
        rw [e3]
        omega
    obtain ⟨W, hW⟩ : ∃ W : Nat → Nat, W = fun m => V N (K - m) := ⟨_, rfl⟩
    have hWm : ∀ m, V N (K - m) = W m := fun m => by rw [hW]
    simp only [hWm] at Fs hVb cV
    clear hW hWm
    replace Fs := Lib.hid Fs
    have Fe : ∀ m, K < m → F m = ahN N K P + R := fun m hm => by rw [hF]; simp only; rw [hfin m hm]
    replace Fe := Lib.hid Fe
    have Fb : ∀ m, F m ≤ 2000000000000000000 := fun m => by
      have := hal (min (cA m) P)
      rw [hF]
      simp only
      omega
    replace Fb := Lib.hid Fb
    replace hVb := Lib.hid hVb
    clear hal sA sB sZ hfin hF
    replace cV := Lib.hid cV
    replace hvr := Lib.hid hvr
    clear hNe hKe hRe hPe hR1 hVr
    have hways : ∃ A cap', IsVec w (.slice A N cap') r ∧ (cap = 1 ∧ N = 0 ∧ A = some ⟨b, off, none⟩ ∧ cap' = 0 ∨ cap ≠ 1 ∧ A = some ⟨b, off + 1, none⟩ ∧ cap' = cap - 1) := by
      by_cases hc : cap = 1
      · rw [if_pos hc] at hvr
        exact ⟨_, _, hvr.out, .inl ⟨hc, by omega, rfl, by omega⟩⟩
      · rw [if_neg hc] at hvr
        exact ⟨_, _, hvr.out, .inr ⟨hc, rfl, rfl⟩⟩
    clear hvr
    obtain ⟨A, cap', hvr, hways⟩ := hways
    replace hvr := Lib.hid hvr
    rcases hways with ⟨rfl, rfl, rfl, rfl⟩ | ⟨hc, rfl, rfl⟩
    all_goals
      go_enter Try.func27, Try.ntmps27
      go_wp2_with fail
      refine (cp.out _ hvh.out).mono ?_
      rintro e w1 ⟨rfl, rfl⟩
      go_wp2_with fail
      with_reducible refine Calls.mono (ih.out _ _ hvr.out) ?_
      rintro e w2 ⟨rfl, d0, rfl⟩
      trace "B"
      go_wp2_with fail
      go_loopw [4, 5] (fun s i wr => ∃ m d : Nat, m ≤ K + 1 ∧ i = .int .i64 m ∧ s = .int .u64 (F m : Nat) ∧ wr = w.drewN d) (fun _ i _ => K + 1 - (intOf i).toNat)
      case atStart => exact ⟨0, d0, by omega, rfl, by rw [F0.out], rfl⟩
      case round =>
        obtain ⟨m, d, hm, rfl, rfl, hw⟩ := hrel
        have cw : wr.cell? ⟨b, off, none⟩ = some (.int .i64 x) := by rw [hw]; exact c0
        replace hw := Lib.hid hw
        clear c0
        by_cases hl : m ≤ K
        · have hst := Fs.out m hl
          have cM := fun w => place_any (m : Int) (by omega) w
          have cN := fun w => place_any (-(m : Int)) (by omega) w
          rw [pl_pos] at cM
          rw [pl_neg] at cN
          have cT := fun w a b ha hb => cV.out w m hl a b ha hb
          have hTb := hVb.out m
          have hSb := Fb.out m
          obtain ⟨T, hT⟩ : ∃ T, T = W m := ⟨_, rfl⟩
          rw [← hT] at cT hTb hst
          obtain ⟨S0, hS0⟩ : ∃ S0, S0 = F m := ⟨_, rfl⟩
          rw [← hS0] at hSb hst ⊢
          obtain ⟨a, ha⟩ : ∃ a, a = cA m := ⟨_, rfl⟩
          rw [← ha] at cM hst
          obtain ⟨b2, hb2⟩ : ∃ b2, b2 = 2 * m := ⟨_, rfl⟩
          rw [← hb2] at cN hst
          clear hT hS0 ha hb2
          by_cases h0 : m = 0
          · have hd : decide (0 < (m : Int)) = false := by simp; omega
            have hd2 : decide (0 < m) = false := by simp; omega
            have h0h := Lib.hid h0
            replace hst := Lib.hid hst
            clear h0
            go_wp2_with fail
            go_quiet ((first | (go_at_call 40; with_reducible exact quietL (cM _)) | (go_at_call 40; with_reducible exact quietL (cX _))))
            obtain ⟨w2, hw2⟩ : ∃ w2, w2 = wr.drewN nq := ⟨_, rfl⟩
            rw [← hw2]
            have cw2 : w2.cell? ⟨b, off, none⟩ = some (.int .i64 x) := by rw [hw2]; exact cw
            replace hw2 : Hid (w2 = w.drewN (d + nq)) := Lib.hid (by rw [hw2, hw.out, World.drewN_drewN])
            clear cw hw
            by_cases hA : a < P
            · as_aux_lemma =>
                replace hst := hst.out
                rw [if_pos hA] at hst
                replace hst := Lib.hid hst
                go_wp2_with fail
                with_reducible refine Calls.mono (cT _ _ _ (by omega) (by omega)) ?_
                rintro e w3 ⟨rfl, rfl⟩
                go_wp2_with fail
                go_quiet ((first | (go_at_call 40; with_reducible exact quietL (cN _)) | (go_at_call 40; with_reducible exact quietL (cX _))))
                replace hst := hst.out
                rw [if_neg (fun h => h.1 h0h.out)] at hst
                have hend := Lib.hid hst
                clear hst
                go_wp2_with fail
                exact ⟨⟨m + 1, _, by omega, by go_num, by rw [hend.out]; go_num, by rw [hw2.out, World.drewN_drewN]⟩, by simp [intOf]; omega⟩
            · as_aux_lemma =>
                replace hst := hst.out
                rw [if_neg hA] at hst
                replace hst := Lib.hid hst
                go_wp2_with fail
                go_quiet ((first | (go_at_call 40; with_reducible exact quietL (cN _)) | (go_at_call 40; with_reducible exact quietL (cX _))))
                replace hst := hst.out
                rw [if_neg (fun h => h.1 h0h.out)] at hst
                have hend := Lib.hid hst
                clear hst
                go_wp2_with fail
                exact ⟨⟨m + 1, _, by omega, by go_num, by rw [hend.out]; go_num, by rw [hw2.out, World.drewN_drewN]⟩, by simp [intOf]; omega⟩
          · have hd : decide (0 < (m : Int)) = true := by simp; omega
            have hd2 : decide (0 < m) = true := by simp; omega
            have h0h := Lib.hid h0
            replace hst := Lib.hid hst
            clear h0
            go_wp2_with fail
            go_quiet ((first | (go_at_call 40; with_reducible exact quietL (cM _)) | (go_at_call 40; with_reducible exact quietL (cX _))))
            obtain ⟨w2, hw2⟩ : ∃ w2, w2 = wr.drewN nq := ⟨_, rfl⟩
            rw [← hw2]
            have cw2 : w2.cell? ⟨b, off, none⟩ = some (.int .i64 x) := by rw [hw2]; exact cw
            replace hw2 : Hid (w2 = w.drewN (d + nq)) := Lib.hid (by rw [hw2, hw.out, World.drewN_drewN])
            clear cw hw
            by_cases hA : a < P
            · as_aux_lemma =>
                replace hst := hst.out
                rw [if_pos hA] at hst
                replace hst := Lib.hid hst
                go_wp2_with fail
                with_reducible refine Calls.mono (cT _ _ _ (by omega) (by omega)) ?_
                rintro e w3 ⟨rfl, rfl⟩
                go_wp2_with fail
                go_quiet ((first | (go_at_call 40; with_reducible exact quietL (cN _)) | (go_at_call 40; with_reducible exact quietL (cX _))))
                by_cases hB : b2 < P
                · replace hst := hst.out
                  rw [if_pos ⟨h0h.out, hB⟩] at hst
                  have hend := Lib.hid hst
                  clear hst
                  go_wp2_with fail
                  with_reducible refine Calls.mono (cT _ _ _ (by omega) (by omega)) ?_
                  rintro e w3 ⟨rfl, rfl⟩
                  go_wp2_with fail
                  exact ⟨⟨m + 1, _, by omega, by go_num, by rw [hend.out]; go_num, by rw [hw2.out, World.drewN_drewN]⟩, by simp [intOf]; omega⟩
                · replace hst := hst.out
                  rw [if_neg (fun h => hB h.2)] at hst
                  have hend := Lib.hid hst
                  clear hst
                  go_wp2_with fail
                  exact ⟨⟨m + 1, _, by omega, by go_num, by rw [hend.out]; go_num, by rw [hw2.out, World.drewN_drewN]⟩, by simp [intOf]; omega⟩
            · as_aux_lemma =>
                replace hst := hst.out
                rw [if_neg hA] at hst
                replace hst := Lib.hid hst
                go_wp2_with fail
                go_quiet ((first | (go_at_call 40; with_reducible exact quietL (cN _)) | (go_at_call 40; with_reducible exact quietL (cX _))))
                by_cases hB : b2 < P
                · replace hst := hst.out
                  rw [if_pos ⟨h0h.out, hB⟩] at hst
                  have hend := Lib.hid hst
                  clear hst
                  go_wp2_with fail
                  with_reducible refine Calls.mono (cT _ _ _ (by omega) (by omega)) ?_
                  rintro e w3 ⟨rfl, rfl⟩
                  go_wp2_with fail
                  exact ⟨⟨m + 1, _, by omega, by go_num, by rw [hend.out]; go_num, by rw [hw2.out, World.drewN_drewN]⟩, by simp [intOf]; omega⟩
                · replace hst := hst.out
                  rw [if_neg (fun h => hB h.2)] at hst
                  have hend := Lib.hid hst
                  clear hst
                  go_wp2_with fail
                  exact ⟨⟨m + 1, _, by omega, by go_num, by rw [hend.out]; go_num, by rw [hw2.out, World.drewN_drewN]⟩, by simp [intOf]; omega⟩
        · have hf := Lib.hid (Fe.out m (by omega))
          go_wp2_with fail
          go_ret
          exact ⟨by rw [← hf.out]; rfl, _, hw.out⟩
end Go.Proofs.Ytegjkognlfemgaa
