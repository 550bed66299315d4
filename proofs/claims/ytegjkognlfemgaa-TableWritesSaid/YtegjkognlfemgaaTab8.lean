/- The law TableWrites: its walk. -/
import Derived.Test.YtegjkognlfemgaaTab6
import Derived.Test.YtegjkognlfemgaaRankL0
namespace Go.Proofs.Ytegjkognlfemgaa
open Go.RowKit

theorem own_shape3 {w : World} {base e size n : Nat} {v : Value} {xs : List Value} (h : w.ownsRow base e size v n xs) : ∃ ao cap, v = .slice ao n cap := by
  rcases h.2 with ⟨rfl, rfl⟩ | ⟨g, cap, cur, rfl, _⟩
  · exact ⟨_, _, rfl⟩
  · exact ⟨_, _, rfl⟩
theorem intoU (n k i : Nat) (hn : n ≤ 16) (hk : k ≤ 32) (hi : i < V n k) (base : Nat) (xs0 : List Value) (v : Value) (w : World) (g : Nat) (h : IsTab w g) (hgb : g < base) (hbw : base ≤ w.heap.size)
    (ho : w.ownsRow base 3 1 v n xs0) (k' i' : Int) (ek : k' = k) (ei : i' = i) :
    Calls Try.prog 34 #[.pointer (some ⟨g, 0, none⟩), v, .int .i64 k', .int .u64 i'] w fun e w' => e = .returned (.bool true) ∧ w'.ownsRow base 3 1 v n ((unr n k i).map (Value.int .i64)) ∧ IsTab w' g ∧ Below base w w' := by
  rcases Nat.eq_zero_or_pos n with h0 | hp
  · subst h0 ek ei
    obtain ⟨ao, cap, rfl⟩ := own_shape3 ho
    refine (into_zero k i hk hi ao cap w g h).mono ?_
    rintro e w' ⟨rfl, rfl⟩
    have hx : xs0 = [] := List.eq_nil_of_length_eq_zero (by simpa using ho.1)
    subst hx
    exact ⟨rfl, ho, h, Below.refl _ _⟩
  · obtain ⟨b, cap, rfl, hb, _⟩ := ho.form hp
    have hcap : n ≤ cap := by
      rcases ho.2 with ⟨_, h0⟩ | ⟨g', cap', cur, he, _, _, h1, _⟩
      · omega
      · injection he with _ _ e3
        omega
    refine (intoB n k i hn hp hk hi b cap base xs0 (by simpa using ho.1) w g h (by omega) hcap ho k' i' ek ei).mono ?_
    rintro e w' ⟨rfl, h1, h2, h3⟩
    exact ⟨rfl, h1, h2, grown_old h3 hb hbw⟩

set_option maxRecDepth 100000 in
set_option maxHeartbeats 16000000 in
theorem tableWrites_walk (zs : List Int) (hz : ∀ x ∈ zs, Num x) (hlen : zs.length ≤ 9223372036854775807) (v : Value) (k i : Int) (hi0 : 0 ≤ i ∧ i ≤ 18446744073709551615) (w : World) (hv : IsVec w v zs) :
    Calls Try.prog 13 #[v, .int .i64 k, .int .u64 i] w fun e w' => e = .returned (.bool true) ∧ Below w.heap.size w w' := by
  by_cases h60 : 60 < zs.length
  · obtain ⟨A, cap, rfl, hat⟩ := hv.form
    obtain ⟨len, hlen2⟩ : ∃ len, len = zs.length := ⟨_, rfl⟩
    rw [← hlen2] at hlen h60 ⊢
    clear hat hv hlen2 hz
    go_enter Try.func13, Try.ntmps13
    go_wp2_with fail
    refine (awake12 _).mono ?_
    rintro e w0 ⟨rfl, b0⟩
    replace b0 := Lib.hid b0
    go_wp2_with fail
    go_ret
    exact ⟨rfl, b0.out⟩
  · have cs := Lib.hid (fun v1 v2 w (h1 : IsVec w v1 zs) (h2 : IsVec w v2 zs) => ints_any zs zs (by omega) (by omega) v1 v2 w h1 h2)
    have hsame : same zs zs = true := by unfold same; simp
    rw [hsame] at cs
    have hshape : ∃ A cap, v = .slice A zs.length cap := by obtain ⟨A, cap, h, _⟩ := hv.form; exact ⟨A, cap, h⟩
    obtain ⟨A, cap, rfl⟩ := hshape
    have hvh := Lib.hid hv
    obtain ⟨len, hlen2⟩ : ∃ len, len = zs.length := ⟨_, rfl⟩
    rw [← hlen2] at hlen h60 hvh ⊢
    replace hlen2 := Lib.hid hlen2
    clear hv hz hsame
    by_cases hway : VZ (len : Int) k ≤ i
    · have cN := Lib.hid (fun A' cap' w g h => into_no len k i (by omega) hway A' cap' w g h)
      have cV : ∀ (a : Int) (w : World), a = (len : Int) → Calls Try.prog 38 #[.int .i64 a, .int .i64 k] w fun e w' => e = .returned (.int .u64 (VZ len k)) ∧ w = w' := fun a w ha => by subst ha; exact refV12_any _ _ w
      obtain ⟨Z, hZ⟩ : ∃ Z, Z = VZ (len : Int) k := ⟨_, rfl⟩
      rw [← hZ] at cV hway
      replace cV := Lib.hid cV
      clear hZ
      go_enter Try.func13, Try.ntmps13
      go_wp2_with fail
      refine (awake12 _).mono ?_
      rintro e w0 ⟨rfl, b0⟩
      replace hvh := Lib.hid (hvh.out.below b0)
      replace b0 := Lib.hid b0
      go_wp2_with fail
      refine (tabNew_any _).mono ?_
      rintro e w1 ⟨rfl, ht, hb⟩
      replace hvh := Lib.hid (hvh.out.below hb)
      have hb1 := Lib.hid (Below.trans b0.out (hb.mono b0.out.size))
      have hglt := Lib.hid ht.lt
      replace ht := Lib.hid ht
      clear hb
      obtain ⟨i0, hti, ti0, ti1, ti2⟩ := info_parts infoI
      have key : ∀ v' w2, w2.ownsRow w1.heap.size 3 1 v' len (zs.map (Value.int .i64)) → Below w1.heap.size w1 w2 → IsVec w2 v' zs ∧ IsVec w2 (.slice A len cap) zs ∧ IsTab w2 w0.heap.size ∧ Below w.heap.size w w2 ∧ w2.ownsRow w1.heap.size 3 1 v' len (zs.map (Value.int .i64)) ∧ w1.heap.size ≤ w2.heap.size := fun v' w2 h1 h2 =>
        ⟨own_vec hlen2.out h1, hvh.out.below h2, ht.out.below h2, Below.trans hb1.out (h2.mono hb1.out.size), h1, h2.size⟩
      replace key := Lib.hid key
      have hsrc := vec_src hvh.out
      rcases hsrc with ⟨cap', he, hze⟩ | ⟨ad, cap', he, hS⟩
      · as_aux_lemma =>
          injection he with e1 e2 e3
          subst e1 e3
          have hl0 : len = 0 := e2
          subst hl0
          have hown : (w1.alloc (.cells #[] 3)).ownsRow w1.heap.size 3 1 (.slice (some ⟨w1.heap.size, 0, none⟩) 0 0) 0 (zs.map (Value.int .i64)) := by rw [hze]; exact own_empty2 w1 _ (Nat.le_refl _)
          obtain ⟨k1, k2, k3, k4, k5, k6⟩ := key.out _ _ hown (belowAlloc w1 _)
          have hrun := append_nil w1.heap.size cap (w1.alloc (.cells #[] 3))
          replace hze := Lib.hid hze
          obtain ⟨w2, hw2⟩ : ∃ w2, w2 = w1.alloc (.cells #[] 3) := ⟨_, rfl⟩
          rw [← hw2] at k1 k2 k3 k4 k5 k6 hrun
          replace hw2 := hw2.symm
          replace k1 := Lib.hid k1
          replace k2 := Lib.hid k2
          replace k3 := Lib.hid k3
          replace k4 := Lib.hid k4
          replace k5 := Lib.hid k5
          replace k6 := Lib.hid k6
          clear hown key
          go_wp2_with fail
          with_reducible refine Calls.mono (cV.out _ _ (by first | rfl | simp)) ?_
          rintro e w3 ⟨rfl, rfl⟩
          go_wp2_with fail
          with_reducible refine Calls.mono (cN.out _ _ _ _ k3.out) ?_
          rintro e w3 ⟨rfl, rfl⟩
          go_wp2_with fail
          with_reducible refine Calls.mono (cs.out _ _ _ k2.out k1.out) ?_
          rintro e w3 ⟨rfl, d, rfl⟩
          go_wp2_with fail
          go_ret
          exact ⟨rfl, below_drewN k4.out _⟩
      · as_aux_lemma =>
          injection he with e1 e2 e3
          subst e1 e3
          have l0 : Hid ((zs.map (Value.int .i64)).length = len * 1) := Lib.hid (by rw [hlen2.out]; exact hS.l0)
          have l1 := Lib.hid hS.l1
          have l2 := Lib.hid hS.l2
          have l3 : Hid (0 + len ≤ maxLen) := Lib.hid (by unfold maxLen; omega)
          have l4 : Hid ((0 + len) * 8 ≤ 140737488355328) := Lib.hid (by omega)
          have l5 : Hid (w1.heap.size ≤ (w1.alloc (.cells #[] 3)).heap.size) := Lib.hid (by simp)
          clear hS e2
          go_wp2_with (at_builtin; refine wpList_append_own _ rfl _ _ 40 rfl w1.heap.size 3 i0 (.int .i64 0) 1 8 Try.underlying40 hti ti0 ti1 ti2 rfl (by decide) _ _ _ rfl (own_empty2 w1 _ (Nat.le_refl _)) ad len cap (zs.map (Value.int .i64)) rfl l0.out l1.out l2.out l3.out l4.out l5.out ?_)
          intro v' w2 hown hgrow _
          try simp only [Nat.zero_add, List.nil_append] at hown
          have hb2 : Below w1.heap.size w1 w2 := Below.trans (belowAlloc w1 _) (grown_old (gm := w1.heap.size) hgrow (Nat.le_refl _) (by simp))
          obtain ⟨k1, k2, k3, k4, k5, k6⟩ := key.out v' w2 hown hb2
          obtain ⟨ao', cap'', rfl⟩ := own_shape3 hown
          replace k1 := Lib.hid k1
          replace k2 := Lib.hid k2
          replace k3 := Lib.hid k3
          replace k4 := Lib.hid k4
          replace k5 := Lib.hid k5
          replace k6 := Lib.hid k6
          clear hown hgrow hb2 l0 l1 l2 l3 l4 l5 key
          go_wp2_with fail
          with_reducible refine Calls.mono (cV.out _ _ (by first | rfl | simp)) ?_
          rintro e w3 ⟨rfl, rfl⟩
          go_wp2_with fail
          with_reducible refine Calls.mono (cN.out _ _ _ _ k3.out) ?_
          rintro e w3 ⟨rfl, rfl⟩
          go_wp2_with fail
          with_reducible refine Calls.mono (cs.out _ _ _ k2.out k1.out) ?_
          rintro e w3 ⟨rfl, d, rfl⟩
          go_wp2_with fail
          go_ret
          exact ⟨rfl, below_drewN k4.out _⟩
    · have hP : RightP (len : Int) k := Classical.byContradiction fun h => by rw [VZ_out h] at hway; omega
      have hP2 := hP
      unfold RightP at hP2
      obtain ⟨k, rfl⟩ := Int.eq_ofNat_of_zero_le hP2.2.2.1
      obtain ⟨i, rfl⟩ := Int.eq_ofNat_of_zero_le hi0.1
      have hn : len ≤ 16 := by omega
      have hk : k ≤ 32 := by omega
      have hVZ : VZ (len : Int) (k : Int) = ((V len k : Nat) : Int) := VZ_at2 hn hk _ _ rfl rfl
      have hiV : i < V len k := by rw [hVZ] at hway; omega
      have hVb := V_lt len (by omega) k (by omega)
      obtain ⟨hr, hzs⟩ : right (unr len k i) = true ∧ (unr len k i).length = len := by
        obtain ⟨h1, h2, h3⟩ := unr_spec len k i hn hk hiV
        exact ⟨by unfold right; simp only [decide_eq_true_eq]; omega, h1⟩
      obtain ⟨s1, s2, s3⟩ := unr_spec len k i hn hk hiV
      have cI := Lib.hid (fun base xs0 v w g h h1 h2 h3 k' i' e1 e2 => intoU len k i hn hk hiV base xs0 v w g h h1 h2 h3 k' i' e1 e2)
      have cP := Lib.hid (fun v w h => refPulses_any (unr len k i) (by omega) (by omega) v w h)
      have cr := Lib.hid (fun v w h => right_any (unr len k i) (by omega) v w h)
      have cT := Lib.hid (fun v w g h1 h2 => tabRank_yes (unr len k i) hr v w g h1 h2)
      have cR := Lib.hid (fun v w h => refRank_any (unr len k i) hr v w h)
      rw [s2] at cP
      rw [hr] at cr
      rw [s3] at cT cR
      obtain ⟨X, hX⟩ : ∃ X, X = unr len k i := ⟨_, rfl⟩
      rw [← hX] at cI cP cr cT cR s1
      replace s1 := Lib.hid s1
      obtain ⟨T, hT⟩ : ∃ T, T = V len k := ⟨_, rfl⟩
      rw [← hT] at hVZ hiV hVb
      have cV : ∀ (a : Int) (w : World), a = (len : Int) → Calls Try.prog 38 #[.int .i64 a, .int .i64 k] w fun e w' => e = .returned (.int .u64 (T : Nat)) ∧ w = w' := fun a w ha => by subst ha; rw [← hVZ]; exact refV12_any _ _ w
      replace cV := Lib.hid cV
      clear hVZ
      have hTi : decide (T ≤ i) = false := by simp; omega
      clear hP hP2 hX hT s2 s3 hr hzs hway
      go_enter Try.func13, Try.ntmps13
      go_wp2_with fail
      refine (awake12 _).mono ?_
      rintro e w0 ⟨rfl, b0⟩
      replace hvh := Lib.hid (hvh.out.below b0)
      replace b0 := Lib.hid b0
      go_wp2_with fail
      refine (tabNew_any _).mono ?_
      rintro e w1 ⟨rfl, ht, hb⟩
      replace hvh := Lib.hid (hvh.out.below hb)
      have hb1 := Lib.hid (Below.trans b0.out (hb.mono b0.out.size))
      have hglt := Lib.hid ht.lt
      replace ht := Lib.hid ht
      clear hb
      obtain ⟨i0, hti, ti0, ti1, ti2⟩ := info_parts infoI
      have key : ∀ v' w2, w2.ownsRow w1.heap.size 3 1 v' len (zs.map (Value.int .i64)) → Below w1.heap.size w1 w2 → IsVec w2 v' zs ∧ IsVec w2 (.slice A len cap) zs ∧ IsTab w2 w0.heap.size ∧ Below w.heap.size w w2 ∧ w2.ownsRow w1.heap.size 3 1 v' len (zs.map (Value.int .i64)) ∧ w1.heap.size ≤ w2.heap.size := fun v' w2 h1 h2 =>
        ⟨own_vec hlen2.out h1, hvh.out.below h2, ht.out.below h2, Below.trans hb1.out (h2.mono hb1.out.size), h1, h2.size⟩
      replace key := Lib.hid key
      have hsrc := vec_src hvh.out
      rcases hsrc with ⟨cap', he, hze⟩ | ⟨ad, cap', he, hS⟩
      · as_aux_lemma =>
          injection he with e1 e2 e3
          subst e1 e3
          have hl0 : len = 0 := e2
          subst hl0
          have hown : (w1.alloc (.cells #[] 3)).ownsRow w1.heap.size 3 1 (.slice (some ⟨w1.heap.size, 0, none⟩) 0 0) 0 (zs.map (Value.int .i64)) := by rw [hze]; exact own_empty2 w1 _ (Nat.le_refl _)
          obtain ⟨k1, k2, k3, k4, k5, k6⟩ := key.out _ _ hown (belowAlloc w1 _)
          have hrun := append_nil w1.heap.size cap (w1.alloc (.cells #[] 3))
          replace hze := Lib.hid hze
          obtain ⟨w2, hw2⟩ : ∃ w2, w2 = w1.alloc (.cells #[] 3) := ⟨_, rfl⟩
          rw [← hw2] at k1 k2 k3 k4 k5 k6 hrun
          replace hw2 := hw2.symm
          replace k1 := Lib.hid k1
          replace k2 := Lib.hid k2
          replace k3 := Lib.hid k3
          replace k4 := Lib.hid k4
          replace k5 := Lib.hid k5
          replace k6 := Lib.hid k6
          clear hown key
          go_wp2_with fail
          with_reducible refine Calls.mono (cV.out _ _ (by first | rfl | simp)) ?_
          rintro e w3 ⟨rfl, rfl⟩
          go_wp2_with fail
          with_reducible refine Calls.mono (cI.out _ _ _ _ _ k3.out hglt.out k6.out k5.out _ _ rfl rfl) ?_
          rintro e w3 ⟨rfl, own3, ht3, hb3⟩
          have v3 := Lib.hid (own_vec s1.out.symm own3)
          have hbb := Lib.hid (Below.trans k4.out (hb3.mono hb1.out.size))
          replace ht3 := Lib.hid ht3
          clear own3 hb3 k1 k2 k3 k4 k5 k6
          go_wp2_with fail
          with_reducible refine Calls.mono (cP.out _ _ v3.out) ?_
          rintro e w4 ⟨rfl, rfl⟩
          go_wp2_with fail
          with_reducible refine Calls.mono (cr.out _ _ v3.out) ?_
          rintro e w4 ⟨rfl, rfl⟩
          go_wp2_with fail
          with_reducible refine Calls.mono (cT.out _ _ _ v3.out ht3.out) ?_
          rintro e w4 ⟨rfl, d, rfl⟩
          go_wp2_with fail
          with_reducible refine Calls.mono (cR.out _ _ (v3.out.below (below_drewN (Below.refl _ _) d))) ?_
          rintro e w4 ⟨rfl, d2, rfl⟩
          go_wp2_with fail
          go_ret
          exact ⟨rfl, by first | exact below_drewN (below_drewN hbb.out _) _ | exact below_drewN hbb.out _⟩
      · as_aux_lemma =>
          injection he with e1 e2 e3
          subst e1 e3
          have l0 : Hid ((zs.map (Value.int .i64)).length = len * 1) := Lib.hid (by rw [hlen2.out]; exact hS.l0)
          have l1 := Lib.hid hS.l1
          have l2 := Lib.hid hS.l2
          have l3 : Hid (0 + len ≤ maxLen) := Lib.hid (by unfold maxLen; omega)
          have l4 : Hid ((0 + len) * 8 ≤ 140737488355328) := Lib.hid (by omega)
          have l5 : Hid (w1.heap.size ≤ (w1.alloc (.cells #[] 3)).heap.size) := Lib.hid (by simp)
          clear hS e2
          go_wp2_with (at_builtin; refine wpList_append_own _ rfl _ _ 40 rfl w1.heap.size 3 i0 (.int .i64 0) 1 8 Try.underlying40 hti ti0 ti1 ti2 rfl (by decide) _ _ _ rfl (own_empty2 w1 _ (Nat.le_refl _)) ad len cap (zs.map (Value.int .i64)) rfl l0.out l1.out l2.out l3.out l4.out l5.out ?_)
          intro v' w2 hown hgrow _
          try simp only [Nat.zero_add, List.nil_append] at hown
          have hb2 : Below w1.heap.size w1 w2 := Below.trans (belowAlloc w1 _) (grown_old (gm := w1.heap.size) hgrow (Nat.le_refl _) (by simp))
          obtain ⟨k1, k2, k3, k4, k5, k6⟩ := key.out v' w2 hown hb2
          obtain ⟨ao', cap'', rfl⟩ := own_shape3 hown
          replace k1 := Lib.hid k1
          replace k2 := Lib.hid k2
          replace k3 := Lib.hid k3
          replace k4 := Lib.hid k4
          replace k5 := Lib.hid k5
          replace k6 := Lib.hid k6
          clear hown hgrow hb2 l0 l1 l2 l3 l4 l5 key
          go_wp2_with fail
          with_reducible refine Calls.mono (cV.out _ _ (by first | rfl | simp)) ?_
          rintro e w3 ⟨rfl, rfl⟩
          go_wp2_with fail
          with_reducible refine Calls.mono (cI.out _ _ _ _ _ k3.out hglt.out k6.out k5.out _ _ rfl rfl) ?_
          rintro e w3 ⟨rfl, own3, ht3, hb3⟩
          have v3 := Lib.hid (own_vec s1.out.symm own3)
          have hbb := Lib.hid (Below.trans k4.out (hb3.mono hb1.out.size))
          replace ht3 := Lib.hid ht3
          clear own3 hb3 k1 k2 k3 k4 k5 k6
          go_wp2_with fail
          with_reducible refine Calls.mono (cP.out _ _ v3.out) ?_
          rintro e w4 ⟨rfl, rfl⟩
          go_wp2_with fail
          with_reducible refine Calls.mono (cr.out _ _ v3.out) ?_
          rintro e w4 ⟨rfl, rfl⟩
          go_wp2_with fail
          with_reducible refine Calls.mono (cT.out _ _ _ v3.out ht3.out) ?_
          rintro e w4 ⟨rfl, d, rfl⟩
          go_wp2_with fail
          with_reducible refine Calls.mono (cR.out _ _ (v3.out.below (below_drewN (Below.refl _ _) d))) ?_
          rintro e w4 ⟨rfl, d2, rfl⟩
          go_wp2_with fail
          go_ret
          exact ⟨rfl, by first | exact below_drewN (below_drewN hbb.out _) _ | exact below_drewN hbb.out _⟩
end Go.Proofs.Ytegjkognlfemgaa
