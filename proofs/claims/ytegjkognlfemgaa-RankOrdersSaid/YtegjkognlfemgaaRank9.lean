/- Contracts of rank's size, earlier and Before, and of law 11's Ints. -/
import Derived.Test.YtegjkognlfemgaaRank7
namespace Go.Proofs.Ytegjkognlfemgaa
open Go.RowKit

theorem size_neg (x : Int) (h : -1000 ≤ x ∧ x < 0) : IntKind.u64.wrap (-IntKind.u64.wrap x) = (x.natAbs : Int) := by
  rw [IntKind.wrap_u64, IntKind.wrap_u64]
  omega
set_option maxHeartbeats 1000000 in
theorem usize_any (x : Int) (hx : -1000 ≤ x ∧ x ≤ 1000) (w : World) : Calls Try.prog 49 #[.int .i64 x] w fun e w' => e = .returned (.int .u64 (x.natAbs : Nat)) ∧ w = w' := by
  by_cases h : x < 0
  · have he := Lib.hid (size_neg x (by omega))
    go_enter Try.func49, Try.ntmps49
    go_wp2
    go_ret
    exact ⟨by rw [← he.out]; rfl, rfl⟩
  · have he : Hid (((x.natAbs : Nat) : Int) = x) := Lib.hid (by omega)
    go_enter Try.func49, Try.ntmps49
    go_wp2
    go_ret
    exact ⟨by rw [he.out]; rfl, rfl⟩

set_option maxHeartbeats 4000000 in
theorem earlier_any (a c : Int) (ha : -1000 ≤ a ∧ a ≤ 1000) (hc : -1000 ≤ c ∧ c ≤ 1000) (w : World) : Calls Try.prog 48 #[.int .i64 a, .int .i64 c] w fun e w' => e = .returned (.bool (decide (pl a < pl c))) ∧ w = w' := by
  have cA := fun w => usize_any a ha w
  have cC := fun w => usize_any c hc w
  have hways : (a.natAbs < c.natAbs ∧ decide (pl a < pl c) = true) ∨ (c.natAbs < a.natAbs ∧ decide (pl a < pl c) = false) ∨ (a.natAbs = c.natAbs ∧ decide (pl a < pl c) = decide (c < a)) := by
    unfold pl
    rcases Nat.lt_trichotomy a.natAbs c.natAbs with h | h | h
    · left
      refine ⟨h, ?_⟩
      simp only [decide_eq_true_eq]
      split <;> split <;> omega
    · right
      right
      refine ⟨h, ?_⟩
      rw [Bool.eq_iff_iff, decide_eq_true_eq, decide_eq_true_eq]
      split <;> split <;> omega
    · right
      left
      refine ⟨h, ?_⟩
      simp only [decide_eq_false_iff_not]
      split <;> split <;> omega
  obtain ⟨R, hR⟩ : ∃ R, R = decide (pl a < pl c) := ⟨_, rfl⟩
  rw [← hR] at hways ⊢
  clear hR
  obtain ⟨A, hA⟩ : ∃ A, A = a.natAbs := ⟨_, rfl⟩
  obtain ⟨C, hC⟩ : ∃ C, C = c.natAbs := ⟨_, rfl⟩
  rw [← hA] at cA hways
  rw [← hC] at cC hways
  clear hA hC
  rcases hways with ⟨h, rfl⟩ | ⟨h, rfl⟩ | ⟨h, rfl⟩
  · go_enter Try.func48, Try.ntmps48
    go_wp2_with fail
    with_reducible refine Calls.mono (cA _) ?_
    rintro e w1 ⟨rfl, rfl⟩
    go_wp2_with fail
    with_reducible refine Calls.mono (cC _) ?_
    rintro e w1 ⟨rfl, rfl⟩
    go_wp2_with fail
    go_ret
    exact ⟨rfl, rfl⟩
  · have hd1 : decide (A < C) = false := by simp; omega
    have hd2 : (A == C) = false := by simp; omega
    have hd3 : ((A : Int) == (C : Int)) = false := by simp; omega
    go_enter Try.func48, Try.ntmps48
    go_wp2_with fail
    with_reducible refine Calls.mono (cA _) ?_
    rintro e w1 ⟨rfl, rfl⟩
    go_wp2_with fail
    with_reducible refine Calls.mono (cC _) ?_
    rintro e w1 ⟨rfl, rfl⟩
    go_wp2_with fail
    with_reducible refine Calls.mono (cA _) ?_
    rintro e w1 ⟨rfl, rfl⟩
    go_wp2_with fail
    with_reducible refine Calls.mono (cC _) ?_
    rintro e w1 ⟨rfl, rfl⟩
    go_wp2_with fail
    go_ret
    exact ⟨rfl, rfl⟩
  · subst h
    go_enter Try.func48, Try.ntmps48
    go_wp2_with fail
    with_reducible refine Calls.mono (cA _) ?_
    rintro e w1 ⟨rfl, rfl⟩
    go_wp2_with fail
    with_reducible refine Calls.mono (cC _) ?_
    rintro e w1 ⟨rfl, rfl⟩
    go_wp2_with fail
    with_reducible refine Calls.mono (cA _) ?_
    rintro e w1 ⟨rfl, rfl⟩
    go_wp2_with fail
    with_reducible refine Calls.mono (cC _) ?_
    rintro e w1 ⟨rfl, rfl⟩
    go_wp2_with fail
    go_ret
    exact ⟨rfl, rfl⟩

/-- What Before tells. -/
def befL (xs ys : List Int) : Bool := decide (xs.length = ys.length) && bef xs ys
def within (xs : List Int) : Prop := ∀ j, -1000 ≤ xs.getD j 0 ∧ xs.getD j 0 ≤ 1000
theorem bef_drop {xs ys : List Int} {j : Nat} (h1 : j < xs.length) (h2 : j < ys.length) : bef (xs.drop j) (ys.drop j) = if xs.getD j 0 = ys.getD j 0 then bef (xs.drop (j + 1)) (ys.drop (j + 1)) else decide (pl (xs.getD j 0) < pl (ys.getD j 0)) := by
  rw [drop_at xs j h1, drop_at ys j h2]
  rfl

set_option maxRecDepth 20000 in
set_option maxHeartbeats 8000000 in
theorem before_any (xs ys : List Int) (hx : within xs) (hy : within ys) (hlx : xs.length ≤ 1000) (hly : ys.length ≤ 1000) (v v2 : Value) (w : World) (hv : IsVec w v xs) (hv2 : IsVec w v2 ys) :
    Calls Try.prog 35 #[v, v2] w fun e w' => e = .returned (.bool (befL xs ys)) ∧ ∃ d, w' = w.drewN d := by
  obtain ⟨A, cap, rfl, hat⟩ := hv.form
  obtain ⟨A2, cap2, rfl, hat2⟩ := hv2.form
  replace hat := Lib.hid hat
  replace hat2 := Lib.hid hat2
  clear hv hv2
  by_cases hne : xs.length = ys.length
  · have hr : befL xs ys = bef xs ys := by unfold befL; simp [hne]
    rw [hr]
    clear hr
    have hL := Lib.hid hne
    obtain ⟨len, hlen⟩ : ∃ len, len = xs.length := ⟨_, rfl⟩
    rw [← hne]
    rw [← hlen] at hlx ⊢
    have hL1 := Lib.hid hlen
    clear hlen hne hly
    replace hx := Lib.hid hx
    replace hy := Lib.hid hy
    go_enter Try.func35, Try.ntmps35
    go_wp2_with fail
    go_loopw [13] (fun i wr => ∃ j d : Nat, j ≤ len ∧ i = .int .i64 j ∧ bef xs ys = bef (xs.drop j) (ys.drop j) ∧ wr = w.drewN d) (fun i _ => len - (intOf i).toNat)
    case atStart => exact ⟨0, 0, by omega, rfl, rfl, rfl⟩
    case round =>
      obtain ⟨j, d, hj, rfl, hb, hw⟩ := hrel
      by_cases hl : j < len
      · have g1 : j < xs.length := by rw [← hL1.out]; exact hl
        have g2 : j < ys.length := by rw [← hL.out]; exact g1
        obtain ⟨b, off, rfl, hcap, _, hc⟩ := hat.out j g1
        obtain ⟨b2, off2, rfl, hcap2, _, hc2⟩ := hat2.out j g2
        have hd := bef_drop g1 g2
        have hx1 := hx.out j
        have hy1 := hy.out j
        have hc : wr.cell? ⟨b, off + j, none⟩ = some (.int .i64 (xs.getD j 0)) := by rw [hw]; exact hc
        have hc2 : wr.cell? ⟨b2, off2 + j, none⟩ = some (.int .i64 (ys.getD j 0)) := by rw [hw]; exact hc2
        have k1 : len ≤ cap := by rw [hL1.out]; exact hcap
        have k2 : len ≤ cap2 := by rw [hL1.out, hL.out]; exact hcap2
        obtain ⟨p, hp⟩ : ∃ p, p = xs.getD j 0 := ⟨_, rfl⟩
        obtain ⟨q, hq⟩ : ∃ q, q = ys.getD j 0 := ⟨_, rfl⟩
        rw [← hp] at hc hd hx1
        rw [← hq] at hc2 hd hy1
        have ce := fun w => earlier_any p q hx1 hy1 w
        obtain ⟨R, hR⟩ : ∃ R, R = decide (pl p < pl q) := ⟨_, rfl⟩
        rw [← hR] at ce hd
        replace hw := Lib.hid hw
        replace hd := Lib.hid (hb.trans hd)
        clear hp hq hR hb g1 g2 hcap hcap2
        by_cases hpq : p = q
        · as_aux_lemma =>
            subst hpq
            have hd2 := hd.out
            rw [if_pos rfl] at hd2
            replace hd2 := Lib.hid hd2
            clear hd ce
            go_wp2_with fail
            go_quiet (fail)
            go_wp2_with fail
            exact ⟨⟨j + 1, d + nq, by omega, by go_num, hd2.out, by rw [hw.out, World.drewN_drewN]⟩, by simp [intOf]; omega⟩
        · as_aux_lemma =>
            have hd2 := hd.out
            rw [if_neg hpq] at hd2
            replace hd2 := Lib.hid hd2
            have hn1 : (p == q) = false := by simpa using hpq
            have hn2 : (p != q) = true := by simpa using hpq
            clear hd
            go_wp2_with fail
            go_quiet (fail)
            go_wp2_with fail
            obtain ⟨w2, hw2⟩ : ∃ w2, w2 = wr.drewN nq := ⟨_, rfl⟩
            rw [← hw2]
            have e1 : w2.cell? ⟨b, off + j, none⟩ = some (.int .i64 p) := by rw [hw2]; exact hc
            have e2 : w2.cell? ⟨b2, off2 + j, none⟩ = some (.int .i64 q) := by rw [hw2]; exact hc2
            replace hw2 : Hid (w2 = w.drewN (d + nq)) := Lib.hid (by rw [hw2, hw.out, World.drewN_drewN])
            clear hc hc2 hw
            go_quiet ((go_at_call 48; with_reducible exact quietL (ce _)))
            go_wp2_with fail
            go_ret
            exact ⟨by rw [hd2.out]; rfl, _, by rw [hw2.out, World.drewN_drewN]⟩
      · obtain rfl : j = len := by omega
        have hb2 : bef xs ys = false := by
          rw [hb, hL1.out, List.drop_length]
          cases ys.drop xs.length <;> rfl
        replace hb2 := Lib.hid hb2
        clear hb
        replace hw := Lib.hid hw
        go_wp2_with fail
        go_ret
        exact ⟨by rw [hb2.out]; rfl, _, hw.out⟩
  · have hr : befL xs ys = false := by unfold befL; simp [hne]
    rw [hr]
    clear hr
    obtain ⟨l1, h1⟩ : ∃ l1, l1 = xs.length := ⟨_, rfl⟩
    obtain ⟨l2, h2⟩ : ∃ l2, l2 = ys.length := ⟨_, rfl⟩
    rw [← h1, ← h2] at hne
    rw [← h1] at hlx ⊢
    rw [← h2] at hly ⊢
    clear h1 h2 hat hat2
    have hn1 : (l1 == l2) = false := by simpa using hne
    have hn2 : (l1 != l2) = true := by simpa using hne
    have hn3 : ((l1 : Int) == (l2 : Int)) = false := by simp; omega
    have hn4 : ((l1 : Int) != (l2 : Int)) = true := by simp; omega
    go_enter Try.func35, Try.ntmps35
    go_wp2_with fail
    go_ret
    exact ⟨rfl, 0, rfl⟩

/-- Are two lists one? -/
def same (xs ys : List Int) : Bool := decide (xs = ys)

set_option maxRecDepth 20000 in
set_option maxHeartbeats 8000000 in
theorem ints_any (xs ys : List Int) (hlx : xs.length ≤ 1000) (hly : ys.length ≤ 1000) (v v2 : Value) (w : World) (hv : IsVec w v xs) (hv2 : IsVec w v2 ys) :
    Calls Try.prog 39 #[v, v2] w fun e w' => e = .returned (.bool (same xs ys)) ∧ ∃ d, w' = w.drewN d := by
  obtain ⟨A, cap, rfl, hat⟩ := hv.form
  obtain ⟨A2, cap2, rfl, hat2⟩ := hv2.form
  replace hat := Lib.hid hat
  replace hat2 := Lib.hid hat2
  clear hv hv2
  by_cases hne : xs.length = ys.length
  · have hL := Lib.hid hne
    obtain ⟨len, hlen⟩ : ∃ len, len = xs.length := ⟨_, rfl⟩
    rw [← hne]
    rw [← hlen] at hlx ⊢
    have hL1 := Lib.hid hlen
    clear hlen hne hly
    go_enter Try.func39, Try.ntmps39
    go_wp2_with fail
    go_loopw [13] (fun i wr => ∃ j d : Nat, j ≤ len ∧ i = .int .i64 j ∧ same xs ys = same (xs.drop j) (ys.drop j) ∧ wr = w.drewN d) (fun i _ => len - (intOf i).toNat)
    case atStart => exact ⟨0, 0, by omega, rfl, rfl, rfl⟩
    case round =>
      obtain ⟨j, d, hj, rfl, hb, hw⟩ := hrel
      by_cases hl : j < len
      · have g1 : j < xs.length := by rw [← hL1.out]; exact hl
        have g2 : j < ys.length := by rw [← hL.out]; exact g1
        obtain ⟨b, off, rfl, hcap, _, hc⟩ := hat.out j g1
        obtain ⟨b2, off2, rfl, hcap2, _, hc2⟩ := hat2.out j g2
        have hd : same (xs.drop j) (ys.drop j) = (decide (xs.getD j 0 = ys.getD j 0) && same (xs.drop (j + 1)) (ys.drop (j + 1))) := by
          rw [drop_at xs j g1, drop_at ys j g2]
          unfold same
          rw [Bool.eq_iff_iff]
          simp
        have hc : wr.cell? ⟨b, off + j, none⟩ = some (.int .i64 (xs.getD j 0)) := by rw [hw]; exact hc
        have hc2 : wr.cell? ⟨b2, off2 + j, none⟩ = some (.int .i64 (ys.getD j 0)) := by rw [hw]; exact hc2
        have k1 : len ≤ cap := by rw [hL1.out]; exact hcap
        have k2 : len ≤ cap2 := by rw [hL1.out, hL.out]; exact hcap2
        obtain ⟨p, hp⟩ : ∃ p, p = xs.getD j 0 := ⟨_, rfl⟩
        obtain ⟨q, hq⟩ : ∃ q, q = ys.getD j 0 := ⟨_, rfl⟩
        rw [← hp] at hc hd
        rw [← hq] at hc2 hd
        replace hw := Lib.hid hw
        replace hd := Lib.hid (hb.trans hd)
        clear hp hq hb g1 g2 hcap hcap2
        by_cases hpq : p = q
        · as_aux_lemma =>
            subst hpq
            have hd2 := hd.out
            simp only [decide_true, Bool.true_and] at hd2
            replace hd2 := Lib.hid hd2
            clear hd
            go_wp2_with fail
            go_quiet (fail)
            go_wp2_with fail
            exact ⟨⟨j + 1, d + nq, by omega, by go_num, hd2.out, by rw [hw.out, World.drewN_drewN]⟩, by simp [intOf]; omega⟩
        · as_aux_lemma =>
            have hd2 := hd.out
            rw [decide_eq_false hpq, Bool.false_and] at hd2
            replace hd2 := Lib.hid hd2
            have hn1 : (p == q) = false := by simpa using hpq
            have hn2 : (p != q) = true := by simpa using hpq
            clear hd
            go_wp2_with fail
            go_quiet (fail)
            go_wp2_with fail
            go_ret
            exact ⟨by rw [hd2.out]; rfl, _, by rw [hw.out, World.drewN_drewN]⟩
      · obtain rfl : j = len := by omega
        have hb2 : same xs ys = true := by
          rw [hb, hL1.out, List.drop_length]
          conv => lhs; rw [hL.out]
          rw [List.drop_length]
          rfl
        replace hb2 := Lib.hid hb2
        clear hb
        replace hw := Lib.hid hw
        go_wp2_with fail
        go_ret
        exact ⟨by rw [hb2.out]; rfl, _, hw.out⟩
  · have hr : same xs ys = false := by unfold same; simp; intro h; exact hne (by rw [h])
    rw [hr]
    clear hr
    obtain ⟨l1, h1⟩ : ∃ l1, l1 = xs.length := ⟨_, rfl⟩
    obtain ⟨l2, h2⟩ : ∃ l2, l2 = ys.length := ⟨_, rfl⟩
    rw [← h1, ← h2] at hne
    rw [← h1] at hlx ⊢
    rw [← h2] at hly ⊢
    clear h1 h2 hat hat2
    have hn1 : (l1 == l2) = false := by simpa using hne
    have hn2 : (l1 != l2) = true := by simpa using hne
    have hn3 : ((l1 : Int) == (l2 : Int)) = false := by simp; omega
    have hn4 : ((l1 : Int) != (l2 : Int)) = true := by simp; omega
    go_enter Try.func39, Try.ntmps39
    go_wp2_with fail
    go_ret
    exact ⟨rfl, 0, rfl⟩
end Go.Proofs.Ytegjkognlfemgaa
