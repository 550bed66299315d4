/- The contract of conceal's Lag. -/
import Derived.Test.YtckcjgmikjpfaaaDoorCon1
namespace Go.Proofs.YtckcjgmikjpfaaaDoor
open Go.RowKit

/-- The best lag of the first q + 1, from n / 4 on, and how much the history is like itself there. -/
def bst (hs : List Int) : Nat → Nat × Int
  | 0 => (hs.length / 4, alk hs (hs.length / 4) (hs.length / 2))
  | q + 1 => if (bst hs q).2 < alk hs (hs.length / 4 + (q + 1)) (hs.length / 2) then (hs.length / 4 + (q + 1), alk hs (hs.length / 4 + (q + 1)) (hs.length / 2)) else bst hs q
def lagN (hs : List Int) : Nat := (bst hs (hs.length / 2 - hs.length / 4)).1
theorem bst_b (hs : List Int) (hn : hs.length ≤ 32) (q : Nat) : hs.length / 4 ≤ (bst hs q).1 ∧ (bst hs q).1 ≤ hs.length / 4 + q ∧ -9007199254740992 ≤ (bst hs q).2 ∧ (bst hs q).2 ≤ 9007199254740992 := by
  have hb : ∀ p, -9007199254740992 ≤ alk hs p (hs.length / 2) ∧ alk hs p (hs.length / 2) ≤ 9007199254740992 := fun p => by
    have := alk_b hs p (hs.length / 2)
    omega
  induction q with
  | zero =>
    have := hb (hs.length / 4)
    simp only [bst]
    omega
  | succ q ih =>
    have := hb (hs.length / 4 + (q + 1))
    simp only [bst]
    split
    · simp only
      omega
    · omega
theorem lagN_b (hs : List Int) (hn : hs.length ≤ 32) : hs.length / 4 ≤ lagN hs ∧ lagN hs ≤ hs.length / 2 := by
  have := bst_b hs hn (hs.length / 2 - hs.length / 4)
  unfold lagN
  omega

theorem thr_cases {n : Nat} (h : thr n = true) : n = 8 ∨ n = 16 ∨ n = 32 := by
  unfold thr at h
  simp at h
  omega
theorem there_any (n : Nat) (w : World) : Calls Tryd.prog 20 #[.int .i64 n] w fun e w' => e = .returned (.bool (thr n)) ∧ w = w' := by
  by_cases h : n ≤ 32
  · exact there_small n h w
  · have ht : thr n = false := by unfold thr; simp; omega
    rw [ht]
    exact there_big n (by omega) w

set_option maxHeartbeats 4000000 in
theorem lag_no (hs : List Int) (ht : thr hs.length = false) (v : Value) (w : World) (hv : IsH w v hs) : Calls Tryd.prog 10 #[v] w fun e w' => e = .returned (.int .i64 0) ∧ w = w' := by
  obtain ⟨A, cap, rfl, _⟩ := hv
  have ct := Lib.hid (there_any hs.length w)
  rw [ht] at ct
  obtain ⟨n, hn⟩ : ∃ n, n = hs.length := ⟨_, rfl⟩
  rw [← hn] at ct ⊢
  clear ht hn
  go_enter Tryd.func10, Tryd.ntmps10
  go_wp2_with fail
  with_reducible refine Calls.mono ct.out ?_
  rintro e w1 ⟨rfl, rfl⟩
  go_wp2_with fail
  go_ret
  exact ⟨rfl, rfl⟩

set_option maxRecDepth 20000 in
set_option maxHeartbeats 4000000 in
theorem lag_yes (hs : List Int) (ht : thr hs.length = true) (v : Value) (w : World) (hv : IsH w v hs) : Calls Tryd.prog 10 #[v] w fun e w' => e = .returned (.int .i64 (lagN hs : Nat)) ∧ ∃ d, w' = w.drewN d := by
  have hvh := Lib.hid hv
  obtain ⟨A, cap, rfl, _⟩ := hv
  have ct := Lib.hid (there_any hs.length w)
  rw [ht] at ct
  have hc := thr_cases ht
  have hb := fun q => bst_b hs (by omega) q
  have ca := fun p (hp : p ≤ hs.length / 2) w h p' e => alike_any hs (by omega) p hp (.slice A hs.length cap) w h p' e
  have hs0 : bst hs 0 = (hs.length / 4, alk hs (hs.length / 4) (hs.length / 2)) := rfl
  have hsS : ∀ q, bst hs (q + 1) = if (bst hs q).2 < alk hs (hs.length / 4 + (q + 1)) (hs.length / 2) then (hs.length / 4 + (q + 1), alk hs (hs.length / 4 + (q + 1)) (hs.length / 2)) else bst hs q := fun q => rfl
  have hL : lagN hs = (bst hs (hs.length / 2 - hs.length / 4)).1 := rfl
  obtain ⟨n, hn⟩ : ∃ n, n = hs.length := ⟨_, rfl⟩
  rw [← hn] at ct hc ca hs0 hL hvh ⊢
  simp only [← hn] at hsS hb
  obtain ⟨h4, hh4⟩ : ∃ h4, h4 = n / 4 := ⟨_, rfl⟩
  obtain ⟨h2, hh2⟩ : ∃ h2, h2 = n / 2 := ⟨_, rfl⟩
  have e4 : (n : Int) / 4 = (h4 : Int) := by omega
  have e2 : (n : Int) / 2 = (h2 : Int) := by omega
  have hle : h4 ≤ h2 := by omega
  have hn32 : n ≤ 32 := by omega
  have hb2 : h2 ≤ 16 := by omega
  simp only [← hh4, ← hh2] at ca hs0 hsS hL hb
  obtain ⟨B, hB⟩ : ∃ B, B = bst hs := ⟨_, rfl⟩
  simp only [← hB] at hs0 hsS hL hb
  rw [hL]
  replace hs0 := Lib.hid hs0
  replace hsS := Lib.hid hsS
  replace hb := Lib.hid hb
  replace ca := Lib.hid ca
  clear hc ht hn hh4 hh2 hB hL
  go_enter Tryd.func10, Tryd.ntmps10
  go_wp2_with fail
  with_reducible refine Calls.mono ct.out ?_
  rintro e w1 ⟨rfl, rfl⟩
  go_wp2_with fail
  with_reducible refine Calls.mono (ca.out h4 hle _ hvh.out _ rfl) ?_
  rintro e w2 ⟨rfl, d0, rfl⟩
  go_wp2_with fail
  go_loopw [4, 5, 6] (fun bv mv pv wr => ∃ q d : Nat, h4 + q ≤ h2 ∧ pv = .int .i64 ((h4 : Int) + q + 1) ∧ bv = .int .i64 ((B q).1 : Nat) ∧ mv = .int .i64 (B q).2 ∧ wr = w.drewN d) (fun _ _ pv _ => h2 + 1 - (intOf pv).toNat)
  case atStart => exact ⟨0, d0, by omega, by go_num, by rw [hs0.out], by rw [hs0.out], rfl⟩
  case round =>
    obtain ⟨q, d, hq, rfl, rfl, rfl, hw⟩ := hrel
    obtain ⟨b1, b2, b3, b4⟩ := hb.out q
    have hst := hsS.out q
    obtain ⟨bq, hbq⟩ : ∃ x, x = (B q).1 := ⟨_, rfl⟩
    obtain ⟨mq, hmq⟩ : ∃ x, x = (B q).2 := ⟨_, rfl⟩
    rw [← hmq] at hst b3 b4 ⊢
    rw [← hbq] at ⊢
    by_cases hlt : h4 + q < h2
    · have cq := ca.out (h4 + (q + 1)) (by omega) wr (by rw [hw]; exact hvh.out.below (below_drewN (Below.refl _ _) d)) ((h4 : Int) + q + 1) (by omega)
      obtain ⟨S, hS⟩ : ∃ S, S = alk hs (h4 + (q + 1)) h2 := ⟨_, rfl⟩
      rw [← hS] at cq hst
      replace cq := Lib.hid cq
      replace hw := Lib.hid hw
      by_cases hc : mq < S
      · as_aux_lemma =>
          rw [if_pos hc] at hst
          replace hst := Lib.hid hst
          clear b1 b2 b3 b4 hbq hmq hS
          go_wp2_with fail
          with_reducible refine Calls.mono cq.out ?_
          rintro e w3 ⟨rfl, d3, rfl⟩
          go_wp2_with fail
          exact ⟨⟨q + 1, d + d3, by omega, by go_num, by rw [hst.out]; go_num, by rw [hst.out], by rw [hw.out, World.drewN_drewN]⟩, by simp [intOf]; omega⟩
      · as_aux_lemma =>
          rw [if_neg hc] at hst
          replace hst := Lib.hid hst
          replace hbq := Lib.hid hbq
          replace hmq := Lib.hid hmq
          clear b1 b2 b3 b4 hS
          go_wp2_with fail
          with_reducible refine Calls.mono cq.out ?_
          rintro e w3 ⟨rfl, d3, rfl⟩
          go_wp2_with fail
          exact ⟨⟨q + 1, d + d3, by omega, by go_num, by rw [hst.out, hbq.out], by rw [hst.out, hmq.out], by rw [hw.out, World.drewN_drewN]⟩, by simp [intOf]; omega⟩
    · have hqe : q = h2 - h4 := by omega
      rw [hqe] at hbq
      replace hbq := Lib.hid hbq
      replace hw := Lib.hid hw
      clear hst b1 b2 b3 b4 hmq hqe
      go_wp2_with fail
      go_ret
      exact ⟨by rw [← hbq.out]; rfl, _, hw.out⟩
end Go.Proofs.YtckcjgmikjpfaaaDoor
