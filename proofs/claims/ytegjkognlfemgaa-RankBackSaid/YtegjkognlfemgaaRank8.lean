/- The laws RankTells and RankBack: their walks. -/
import Derived.Test.YtegjkognlfemgaaRank7
import Derived.Test.YtegjkognlfemgaaRank4
namespace Go.Proofs.Ytegjkognlfemgaa
open Go.RowKit

theorem IsVec.drewN {w : World} {v : Value} {zs : List Int} (h : IsVec w v zs) (n : Nat) : IsVec (w.drewN n) v zs := h.below (below_drewN (Below.refl _ _) n)

set_option maxHeartbeats 8000000 in
theorem rankTells_walk (zs : List Int) (hz : ∀ x ∈ zs, Num x) (hlen : zs.length ≤ 9223372036854775807) (v : Value) (w : World) (hv : IsVec w v zs) :
    Calls Try.prog 8 #[v] w fun e w' => e = .returned (.bool true) ∧ Below w.heap.size w w' := by
  by_cases h60 : 60 < zs.length
  · obtain ⟨A, cap, rfl, hat⟩ := hv.form
    obtain ⟨len, hlen2⟩ : ∃ len, len = zs.length := ⟨_, rfl⟩
    rw [← hlen2] at hlen h60 ⊢
    clear hat hv hlen2 hz
    go_enter Try.func8, Try.ntmps8
    go_wp2_with fail
    refine (awake11 _).mono ?_
    rintro e w0 ⟨rfl, b0⟩
    replace b0 := Lib.hid b0
    go_wp2_with fail
    go_ret
    exact ⟨rfl, b0.out⟩
  · have cr := Lib.hid (fun w (h : IsVec w v zs) => right_any zs (by omega) v w h)
    have cn := Lib.hid (fun (hr : right zs = false) w gb (h : IsVec w v zs) => rank_no zs hr (by omega) hz v w gb h)
    have cy := Lib.hid (fun (hr : right zs = true) w gb gm (h : IsVec w v zs) hF => rank_yes zs hr hz v w gb gm h hF)
    have cR := Lib.hid (fun (hr : right zs = true) w (h : IsVec w v zs) => refRank_any zs hr v w h)
    have cp := Lib.hid (fun w hv => pulses_any zs hz (by omega) v w hv)
    have cq := Lib.hid (fun (hr : right zs = true) w (h : IsVec w v zs) => refPulses_any zs (by unfold right at hr; simp only [decide_eq_true_eq] at hr; omega) (by omega) v w h)
    have hms := Lib.hid (fun (hr : right zs = true) => msum_ms zs (by unfold right at hr; simp only [decide_eq_true_eq] at hr; omega))
    have hvh := Lib.hid hv
    obtain ⟨A, cap, rfl, hat⟩ := hv.form
    obtain ⟨len, hlen2⟩ : ∃ len, len = zs.length := ⟨_, rfl⟩
    rw [← hlen2] at hlen h60 cr cn cy cR cp cq hvh ⊢
    obtain ⟨R, hR⟩ : ∃ R, R = right zs := ⟨_, rfl⟩
    rw [← hR] at cr cn cy cR cq hms
    clear hat hv hlen2 hz hR
    cases R with
    | false =>
      go_enter Try.func8, Try.ntmps8
      go_wp2_with fail
      refine (awake11 _).mono ?_
      rintro e w0 ⟨rfl, b0⟩
      replace hvh := Lib.hid (hvh.out.below b0)
      replace b0 := Lib.hid b0
      go_wp2_with fail
      refine (new_any _).mono ?_
      rintro e w1 ⟨rfl, f1⟩
      replace hvh := Lib.hid (hvh.out.below f1.below)
      replace f1 := Lib.hid f1
      go_wp2_with fail
      with_reducible refine Calls.mono (cn.out (by simp) _ _ hvh.out) ?_
      rintro e w2 ⟨rfl, rfl⟩
      go_wp2_with fail
      with_reducible refine Calls.mono (cr.out _ hvh.out) ?_
      rintro e w2 ⟨rfl, rfl⟩
      go_wp2_with fail
      go_ret
      exact ⟨rfl, Below.trans b0.out (f1.out.below.mono b0.out.size)⟩
    | true =>
      have hms := hms.out rfl
      rw [hms] at cp
      obtain ⟨K, hK⟩ : ∃ K, K = ms zs := ⟨_, rfl⟩
      obtain ⟨I, hI⟩ : ∃ I, I = rkN zs := ⟨_, rfl⟩
      rw [← hK] at cp cq
      rw [← hI] at cy cR
      clear hms hK hI
      go_enter Try.func8, Try.ntmps8
      go_wp2_with fail
      refine (awake11 _).mono ?_
      rintro e w0 ⟨rfl, b0⟩
      replace hvh := Lib.hid (hvh.out.below b0)
      replace b0 := Lib.hid b0
      go_wp2_with fail
      refine (new_any _).mono ?_
      rintro e w1 ⟨rfl, f1⟩
      replace hvh := Lib.hid (hvh.out.below f1.below)
      replace f1 := Lib.hid f1
      go_wp2_with fail
      with_reducible refine Calls.mono (cy.out (by simp) _ _ _ hvh.out f1.out.at_) ?_
      rintro e w2 ⟨rfl, b2, g2⟩
      replace hvh := Lib.hid (hvh.out.grown f1.out.at_ g2)
      obtain ⟨S2, f2⟩ := f1.out.grow b2 g2
      replace f2 := Lib.hid f2
      clear b2 g2 f1
      go_wp2_with fail
      with_reducible refine Calls.mono (cr.out _ hvh.out) ?_
      rintro e w3 ⟨rfl, rfl⟩
      go_wp2_with fail
      with_reducible refine Calls.mono (cR.out (by simp) _ hvh.out) ?_
      rintro e w3 ⟨rfl, d, rfl⟩
      replace hvh := Lib.hid (hvh.out.drewN d)
      go_wp2_with fail
      with_reducible refine Calls.mono (cp.out _ hvh.out) ?_
      rintro e w3 ⟨rfl, rfl⟩
      go_wp2_with fail
      with_reducible refine Calls.mono (cq.out (by simp) _ hvh.out) ?_
      rintro e w3 ⟨rfl, rfl⟩
      go_wp2_with fail
      go_ret
      exact ⟨rfl, below_drewN (Below.trans b0.out (f2.out.below.mono b0.out.size)) _⟩

theorem unr_num {n k i : Nat} (hn : n ≤ 16) (hk : k ≤ 32) (hi : i < V n k) : right (unr n k i) = true ∧ ∀ x ∈ unr n k i, Num x := by
  obtain ⟨h1, h2, h3⟩ := unr_spec n k i hn hk hi
  constructor
  · unfold right
    simp only [decide_eq_true_eq]
    omega
  · intro x hx
    obtain ⟨j, hj⟩ := List.getElem?_of_mem hx
    have hm := ms_mem (unr n k i) j
    have : (unr n k i).getD j 0 = x := by rw [List.getD_eq_getElem?_getD, hj]; rfl
    rw [this] at hm
    unfold Num
    omega

set_option maxHeartbeats 8000000 in
theorem rankBack_walk (n k i : Int) (hi0 : 0 ≤ i) (w : World) :
    Calls Try.prog 9 #[.int .i64 n, .int .i64 k, .int .u64 i] w fun e w' => e = .returned (.bool true) ∧ Below w.heap.size w w' := by
  by_cases hi : VZ n k ≤ i
  · have cn := Lib.hid (fun w gb gm hF => unrank_no n k i hi w gb gm hF)
    go_enter Try.func9, Try.ntmps9
    go_wp2_with fail
    refine (awake11 _).mono ?_
    rintro e w0 ⟨rfl, b0⟩
    replace b0 := Lib.hid b0
    go_wp2_with fail
    refine (new_any _).mono ?_
    rintro e w1 ⟨rfl, f1⟩
    replace f1 := Lib.hid f1
    go_wp2_with fail
    with_reducible refine Calls.mono (cn.out _ _ _ f1.out.at_) ?_
    rintro e w2 ⟨rfl, b2, g2⟩
    obtain ⟨S2, f2⟩ := f1.out.grow b2 g2
    replace f2 := Lib.hid f2
    clear b2 g2 f1
    go_wp2_with fail
    refine (refV_any _ _ _).mono ?_
    rintro e w3 ⟨rfl, rfl⟩
    go_wp2_with fail
    go_ret
    exact ⟨rfl, Below.trans b0.out (f2.out.below.mono b0.out.size)⟩
  · have hP : RightP n k := Classical.byContradiction fun h => by rw [VZ_out h] at hi; omega
    have hP2 := hP
    unfold RightP at hP2
    obtain ⟨n, rfl⟩ := Int.eq_ofNat_of_zero_le hP2.1
    obtain ⟨k, rfl⟩ := Int.eq_ofNat_of_zero_le hP2.2.2.1
    obtain ⟨i, rfl⟩ := Int.eq_ofNat_of_zero_le hi0
    have hn : n ≤ 16 := by omega
    have hk : k ≤ 32 := by omega
    rw [VZ_nat hP, Int.toNat_natCast, Int.toNat_natCast] at hi
    have hiV : i < V n k := by omega
    have hVb := V_lt n (by omega) k (by omega)
    have hVZ := Lib.hid (VZ_nat hP)
    obtain ⟨hr, hz⟩ := unr_num hn hk hiV
    obtain ⟨s1, s2, s3⟩ := unr_spec n k i hn hk hiV
    have cu := Lib.hid (fun w gb gm hF => unrank_yes n k i hn hk hiV w gb gm hF)
    have cy := Lib.hid (fun v w gb gm h hF => rank_yes (unr n k i) hr hz v w gb gm h hF)
    have cR := Lib.hid (fun v w h => refRank_any (unr n k i) hr v w h)
    have cq := Lib.hid (fun v w h => refPulses_any (unr n k i) (by omega) (by omega) v w h)
    rw [s2] at cq
    rw [s3] at cy cR
    obtain ⟨zs, hzs⟩ : ∃ zs, zs = unr n k i := ⟨_, rfl⟩
    rw [← hzs] at cu cy cR cq s1
    have hs1 := Lib.hid s1
    obtain ⟨T, hT⟩ : ∃ T, T = V n k := ⟨_, rfl⟩
    rw [← hT] at hi hiV hVb
    replace hVZ : Hid (VZ (n : Int) (k : Int) = (T : Int)) := Lib.hid (by rw [hVZ.out, hT]; rfl)
    have hTi : decide (T ≤ i) = false := by simp; omega
    clear hz hr s1 s2 s3 hzs hT hP hP2 hi hi0
    go_enter Try.func9, Try.ntmps9
    go_wp2_with fail
    refine (awake11 _).mono ?_
    rintro e w0 ⟨rfl, b0⟩
    replace b0 := Lib.hid b0
    go_wp2_with fail
    refine (new_any _).mono ?_
    rintro e w1 ⟨rfl, f1⟩
    replace f1 := Lib.hid f1
    go_wp2_with fail
    with_reducible refine Calls.mono (cu.out _ _ _ f1.out.at_) ?_
    rintro e w2 ⟨v, rfl, hown, b2, g2⟩
    have hv := own_vec hs1.out.symm hown
    obtain ⟨S2, f2⟩ := f1.out.grow b2 g2
    replace f2 := Lib.hid f2
    replace hv := Lib.hid hv
    clear b2 g2 f1 hown
    obtain ⟨A, cap, rfl, hat⟩ := hv.out.form
    rw [hs1.out] at hv
    rw [hs1.out]
    clear hat
    go_wp2_with fail
    refine (refV_any _ _ _).mono ?_
    rintro e w3 ⟨rfl, rfl⟩
    rw [hVZ.out]
    go_wp2_with fail
    with_reducible refine Calls.mono (cq.out _ _ hv.out) ?_
    rintro e w3 ⟨rfl, rfl⟩
    go_wp2_with fail
    with_reducible refine Calls.mono (cR.out _ _ hv.out) ?_
    rintro e w3 ⟨rfl, d, rfl⟩
    replace hv := Lib.hid (hv.out.drewN d)
    replace f2 := Lib.hid (f2.out.drewN d)
    go_wp2_with fail
    with_reducible refine Calls.mono (cy.out _ _ _ _ hv.out f2.out.at_) ?_
    rintro e w4 ⟨rfl, b4, g4⟩
    obtain ⟨S4, f4⟩ := f2.out.grow b4 g4
    replace f4 := Lib.hid f4
    clear b4 g4 f2
    go_wp2_with fail
    go_ret
    exact ⟨rfl, Below.trans b0.out (f4.out.below.mono b0.out.size)⟩
end Go.Proofs.Ytegjkognlfemgaa
