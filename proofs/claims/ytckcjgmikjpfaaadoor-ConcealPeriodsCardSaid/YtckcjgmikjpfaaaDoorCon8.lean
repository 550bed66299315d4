/- The law ConcealBounds: its walk. -/
import Derived.Test.YtckcjgmikjpfaaaDoorCon7
namespace Go.Proofs.YtckcjgmikjpfaaaDoor
open Go.RowKit

/-- The greatest magnitude of the first m. -/
def pk (zs : List Int) : Nat → Int
  | 0 => 0
  | m + 1 => max (max (pk zs m) (zs.getD m 0)) (-(zs.getD m 0))
theorem pk_if (zs : List Int) (m : Nat) : pk zs (m + 1) = if (if pk zs m < zs.getD m 0 then zs.getD m 0 else pk zs m) < -(zs.getD m 0) then -(zs.getD m 0) else if pk zs m < zs.getD m 0 then zs.getD m 0 else pk zs m := by
  simp only [pk]
  (repeat' split) <;> omega
theorem pk_nn (zs : List Int) (m : Nat) : 0 ≤ pk zs m := by
  induction m with
  | zero => exact Int.le_refl _
  | succ m ih => simp only [pk]; omega
theorem pk_le (zs : List Int) (m : Nat) (hb : ∀ j, j < m → -16777216 ≤ zs.getD j 0 ∧ zs.getD j 0 ≤ 16777216) : pk zs m ≤ 16777216 := by
  induction m with
  | zero => simp [pk]
  | succ m ih =>
    have := ih (fun j hj => hb j (by omega))
    have := hb m (by omega)
    simp only [pk]
    omega
theorem pk_ge (zs : List Int) (m j : Nat) (hj : j < m) : zs.getD j 0 ≤ pk zs m ∧ -(zs.getD j 0) ≤ pk zs m := by
  induction m with
  | zero => omega
  | succ m ih =>
    simp only [pk]
    by_cases h : j = m
    · subst h; omega
    · have := ih (by omega); omega
theorem prt_le (x p f : Int) (hx : -16777216 ≤ x ∧ x ≤ 16777216) (h1 : x ≤ p) (h2 : -x ≤ p) (hf : 0 ≤ f) : prt x f ≤ (p * f) / 32768 ∧ -(prt x f) ≤ (p * f) / 32768 := by
  have e : hd x = x := by unfold hd; rw [if_neg (by omega), if_neg (by omega)]
  unfold prt
  rw [e]
  have a := Int.mul_le_mul_of_nonneg_right h1 hf
  have b := Int.mul_le_mul_of_nonneg_right h2 hf
  rw [Int.neg_mul] at b
  rcases Int.le_total 0 (x * f) with h | h
  · rw [Int.tdiv_eq_ediv_of_nonneg h]
    omega
  · have e2 : x * f = -(-(x * f)) := by omega
    rw [e2, Int.neg_tdiv, Int.tdiv_eq_ediv_of_nonneg (by omega)]
    omega
theorem fdv_fall (k : Int) (hk : 2 ≤ k) : fdv k ≤ fdv (k - 1) := by unfold fdv; (repeat' split) <;> omega
theorem fdv_end (k : Int) (hk : 5 ≤ k) : fdv k = 0 := by unfold fdv; (repeat' split) <;> omega
theorem prt_end (x : Int) : prt x 0 = 0 := by simp [prt]
theorem sliceA (W : World) (a : Addr) (n : Nat) (hn : n ≤ 32) : (Instr.sliceAt 22 (.pointer (some a)) none (some (.int .i64 (n : Int))) none).run Tryd.prog W = .ok (.slice (some a) n 32) W := by
  have hal : Tryd.prog.arrayLen 22 = 32 := by kernel_rfl
  rw [run_sliceAt_array_h W 22 a (by rw [Tryd.underlying22]; kernel_rfl) .i64 n (by omega) (by rw [hal]; omega), hal]
  rfl

set_option maxRecDepth 100000 in
set_option maxHeartbeats 4000000 in
theorem bounds_walk (s : Int) (hs : List Int) (loss : Int) (hs0 : 0 ≤ s ∧ s ≤ 255) (hl0 : 0 ≤ loss ∧ loss ≤ 255) (hl : hs.length = 32) (hb : ∀ j, I32 (hs.getD j 0)) (w : World) (hF : Fades w) (h0 : 0 < w.heap.size) :
    Calls Tryd.prog 3 #[.int .u8 s, .agg (hs.map (Value.int .i32)).toArray, .int .u8 loss] w fun e w' => e = .returned (.bool true) ∧ Below w.heap.size w w' := by
  obtain ⟨C, hC⟩ : ∃ C, C = (hs.map (Value.int .i32)).toArray := ⟨_, rfl⟩
  rw [← hC]
  obtain ⟨n, hn, hn8⟩ : ∃ n : Nat, wrap64 (8 * 2 ^ (s % 3).toNat) = (n : Int) ∧ thr n = true := by
    have h3 : s % 3 = 0 ∨ s % 3 = 1 ∨ s % 3 = 2 := by omega
    rcases h3 with h | h | h <;> rw [h]
    · exact ⟨8, by unfold wrap64; decide, by decide⟩
    · exact ⟨16, by unfold wrap64; decide, by decide⟩
    · exact ⟨32, by unfold wrap64; decide, by decide⟩
  obtain ⟨k, hk⟩ : ∃ k, 1 + loss % 8 = k := ⟨_, rfl⟩
  have hk1 : 1 ≤ k ∧ k ≤ 8 := by omega
  have hn32 : n ≤ 32 := by have := thr_cases hn8; omega
  have hn0 : 8 ≤ n := by have := thr_cases hn8; omega
  obtain ⟨zs, hzs⟩ : ∃ zs, zs = hs.take n := ⟨_, rfl⟩
  have hzl : zs.length = n := by rw [hzs]; simp; omega
  have hzg : ∀ j, j < n → zs.getD j 0 = hs.getD j 0 := fun j hj => by rw [hzs]; simp [List.getD_eq_getElem?_getD, hj]
  have ca := Lib.hid (fun w2 (h : Below w.heap.size w w2) => awake_any w2 (hF.below h0 h) (Nat.lt_of_lt_of_le h0 h.size))
  have hsl := fun W a => sliceA W a n hn32
  have hcell : Hid (∀ W, Below (w.alloc (.cells C 22)).heap.size (w.alloc (.cells C 22)) W → ∀ j, j < n → W.cell? ⟨w.heap.size, j, none⟩ = some (.int .i32 (zs.getD j 0)) ∧ I32 (zs.getD j 0)) := Lib.hid fun W hB j hj => by
    refine ⟨?_, by rw [hzg j hj]; exact hb j⟩
    rw [hB.cell (p := ⟨w.heap.size, j, none⟩) (by simp), World.cell?_alloc_new, hC, hzg j hj]
    have : j < hs.length := by omega
    simp [this]
  have hIs := Lib.hid (fun W (hB : Below (w.alloc (.cells C 22)).heap.size (w.alloc (.cells C 22)) W) => (⟨some ⟨w.heap.size, 0, none⟩, 32, by rw [hzl], fun j hj => ⟨w.heap.size, 0, rfl, by omega, Nat.lt_of_lt_of_le (by simp) hB.size, by rw [Nat.zero_add]; exact (hcell.out W hB j (by omega)).1, (hcell.out W hB j (by omega)).2⟩⟩ : IsH W (.slice (some ⟨w.heap.size, 0, none⟩) n 32) zs))
  replace hC := Lib.hid hC
  replace hF := Lib.hid hF
  replace hzl := Lib.hid hzl
  clear hb hzg hl hzs
  replace hn8 := Lib.hid hn8
  go_enter Tryd.func3, Tryd.ntmps3
  go_wp2_with fail
  with_reducible refine Calls.mono (ca.out _ (by repeat (first | (with_reducible exact Below.refl _ _) | (with_reducible assumption) | (with_reducible refine below_drewN ?_ _) | (with_reducible refine Below.drew ?_) | (with_reducible refine Below.setCell ?_ (by simp; try omega) _) | (with_reducible refine Below.alloc ?_ (by simp; try omega) _)))) ?_
  rintro e w2 ⟨rfl, hB⟩
  have hbW : Hid (Below w.heap.size w w2) := Lib.hid (Below.trans (belowAlloc w _) (hB.mono (belowAlloc w _).size))
  replace hB := Lib.hid hB
  go_wp2_with fail
  go_loopw [9, 28] (fun p i wr => ∃ m : Nat, m ≤ n ∧ i = .int .i64 m ∧ p = .int .i64 (pk zs m) ∧ (∀ j, j < m → -16777216 ≤ zs.getD j 0 ∧ zs.getD j 0 ≤ 16777216) ∧ wr = w2) (fun _ i _ => n - (intOf i).toNat)
  case atStart => exact ⟨0, by omega, rfl, rfl, fun j hj => by omega, rfl⟩
  case round =>
    obtain ⟨m, hm, rfl, rfl, hall, rfl⟩ := hrel
    by_cases hlt : m < n
    · obtain ⟨c0, x0⟩ := hcell.out _ hB.out m hlt
      have hall2 : Hid (-16777216 ≤ zs.getD m 0 ∧ zs.getD m 0 ≤ 16777216 → ∀ j, j < m + 1 → -16777216 ≤ zs.getD j 0 ∧ zs.getD j 0 ≤ 16777216) := Lib.hid fun h j hj => by
        by_cases e : j = m
        · rw [e]; exact h
        · exact hall j (by omega)
      have hP0 := pk_nn zs m
      have hP1 := pk_le zs m hall
      have hPS := pk_if zs m
      obtain ⟨x, hx⟩ : ∃ x, x = zs.getD m 0 := ⟨_, rfl⟩
      obtain ⟨P, hP⟩ : ∃ P, P = pk zs m := ⟨_, rfl⟩
      rw [← hx] at c0 x0 hall2 hPS
      rw [← hP] at hP0 hP1 hPS ⊢
      unfold I32 at x0
      replace hPS := Lib.hid hPS
      clear hall hx hP hk
      by_cases hb1 : 16777216 < x
      · as_aux_lemma =>
          clear hPS hall2
          go_wp2_with fail
          go_ret
          exact ⟨rfl, hbW.out⟩
      · by_cases hb2 : x < -16777216
        · as_aux_lemma =>
            clear hPS hall2
            go_wp2_with fail
            go_ret
            exact ⟨rfl, hbW.out⟩
        · as_aux_lemma =>
            go_wp2_with fail
            exact ⟨⟨m + 1, by omega, by go_num, by rw [hPS.out], hall2.out (by omega), trivial⟩, by simp [intOf]; omega⟩
    · obtain rfl : m = n := by omega
      have hFw := hF.out.below h0 hbW.out
      have hp0 := Lib.hid (Nat.lt_of_lt_of_le h0 hbW.out.size)
      have hiw := hIs.out _ hB.out
      have cf := Lib.hid (fun k' => fade_any k' _ hFw)
      have cp := Lib.hid (plain_yes zs (by rw [hzl.out]; exact hn8.out) k _ _ hiw hFw hp0.out)
      rw [hzl.out] at cp
      have hfin : Hid (∀ j, j < m → (plL zs k m).getD j 0 ≤ (pk zs m * fdv k) / 32768 ∧ -((plL zs k m).getD j 0) ≤ (pk zs m * fdv k) / 32768 ∧ (5 ≤ k → (plL zs k m).getD j 0 = 0) ∧ I32 ((plL zs k m).getD j 0)) := Lib.hid fun j hj => by
        have hL := lagN_b zs (by rw [hzl.out]; exact hn32)
        rw [hzl.out] at hL
        have hb := plL_b zs k m j
        have hr : j % lagN zs < lagN zs := Nat.mod_lt _ (by omega)
        rw [plL_get zs k hj, hzl.out] at hb ⊢
        have hi : m - lagN zs + j % lagN zs < m := by omega
        have a1 := hall _ hi
        have a2 := pk_ge zs m _ hi
        have a3 := prt_le _ _ (fdv k) a1 a2.1 a2.2 (fdv_b k).1
        exact ⟨a3.1, a3.2, fun h5 => by rw [fdv_end k h5, prt_end], hb⟩
      have hP0 := pk_nn zs m
      have hP1 := pk_le zs m hall
      have hF0 := fdv_b k
      obtain ⟨P, hP⟩ : ∃ P, P = pk zs m := ⟨_, rfl⟩
      obtain ⟨F, hFe⟩ : ∃ F, F = fdv k := ⟨_, rfl⟩
      rw [← hP] at hP0 hP1 hfin ⊢
      rw [← hFe] at hF0
      simp only [← hFe] at hfin
      have hcf := Lib.hid (cf.out k)
      rw [← hFe] at hcf
      have hPF : 0 ≤ P * F ∧ P * F ≤ 16777216 * 29491 := ⟨Int.mul_nonneg hP0 hF0.1, Int.le_trans (Int.mul_le_mul_of_nonneg_left hF0.2 hP0) (Int.mul_le_mul_of_nonneg_right hP1 (by decide))⟩
      obtain ⟨M, hM⟩ : ∃ M, P * F = M := ⟨_, rfl⟩
      rw [hM] at hPF hfin
      obtain ⟨Q, hQ⟩ : ∃ Q, M / 32768 = Q := ⟨_, rfl⟩
      rw [hQ] at hfin
      have hQb : 0 ≤ Q ∧ Q ≤ 15099392 := by omega
      replace hFe := Lib.hid hFe
      clear hall hP hFw hiw hcell
      go_wp2_with fail
      with_reducible refine Calls.mono hcf.out ?_
      rintro e w3 ⟨rfl, rfl⟩
      go_wp2_with fail
      with_reducible refine Calls.mono cp.out ?_
      rintro e w4 ⟨v4, rfl, hR⟩
      obtain ⟨g, cap, rfl, hcap, _, hg, _, hc4⟩ := own_at hR.own (by omega)
      have hb4 := Lib.hid (Below.trans hbW.out (hR.below.mono hbW.out.size))
      have cf4 := Lib.hid (fun k' => fade_any k' w4 (hF.out.below h0 hb4.out))
      replace hc4 := Lib.hid hc4
      clear hR cp hcf cf hIs hp0 hbW hF hB
      go_wp2_with fail
      go_loopw [58] (fun i wr => ∃ q : Nat, q ≤ m ∧ i = .int .i64 q ∧ wr = w4) (fun i _ => m - (intOf i).toNat)
      case atStart => exact ⟨0, by omega, rfl, rfl⟩
      case round =>
        obtain ⟨q, hq, rfl, rfl⟩ := hrel
        by_cases hlt : q < m
        · have c0 := hc4.out q hlt
          obtain ⟨d1, d2, d3, d4⟩ := hfin.out q hlt
          obtain ⟨x, hx⟩ : ∃ x, x = (plL zs k m).getD q 0 := ⟨_, rfl⟩
          rw [← hx] at c0 d1 d2 d3 d4
          unfold I32 at d4
          clear hx hc4 hfin
          by_cases h5 : 5 ≤ k
          · as_aux_lemma =>
              obtain rfl : x = 0 := d3 h5
              clear d3
              go_wp2_with fail
              exact ⟨⟨q + 1, by omega, by go_num, trivial⟩, by simp [intOf]; omega⟩
          · as_aux_lemma =>
              clear d3
              go_wp2_with fail
              exact ⟨⟨q + 1, by omega, by go_num, trivial⟩, by simp [intOf]; omega⟩
        · obtain rfl : q = m := by omega
          clear hc4 hfin
          by_cases h1 : k = 1
          · subst h1
            have ca1 := Lib.hid (cf4.out 1)
            have ca0 := Lib.hid (cf4.out 0)
            rw [show fdv 1 = 29491 from rfl] at ca1
            rw [show fdv 0 = 0 from rfl] at ca0
            clear cf4
            go_wp2_with (first | (with_reducible refine Calls.mono ca1.out ?_; rintro e w5 ⟨rfl, rfl⟩) | (with_reducible refine Calls.mono ca0.out ?_; rintro e w5 ⟨rfl, rfl⟩))
            go_ret
            exact ⟨rfl, hb4.out⟩
          · have cak := Lib.hid (cf4.out k)
            have cal := Lib.hid (cf4.out (k - 1))
            have hfall := fdv_fall k (by omega)
            have hb1 := fdv_b k
            have hb2 := fdv_b (k - 1)
            obtain ⟨F1, hF1⟩ : ∃ F1, F1 = fdv k := ⟨_, rfl⟩
            obtain ⟨F2, hF2⟩ : ∃ F2, F2 = fdv (k - 1) := ⟨_, rfl⟩
            rw [← hF1] at cak hfall hb1
            rw [← hF2] at cal hfall hb2
            clear cf4 hF1 hF2
            go_wp2_with (first | (with_reducible refine Calls.mono cak.out ?_; rintro e w5 ⟨rfl, rfl⟩) | (with_reducible refine Calls.mono cal.out ?_; rintro e w5 ⟨rfl, rfl⟩))
            go_ret
            exact ⟨rfl, hb4.out⟩
end Go.Proofs.YtckcjgmikjpfaaaDoor
