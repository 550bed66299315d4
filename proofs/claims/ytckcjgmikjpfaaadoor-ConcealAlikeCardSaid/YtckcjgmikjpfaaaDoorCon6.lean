/- The contract of the reference Lag. -/
import Derived.Test.YtckcjgmikjpfaaaDoorCon5
namespace Go.Proofs.YtckcjgmikjpfaaaDoor
open Go.RowKit

theorem i64_cells (xs : List Int) : ∀ u ∈ xs.map (Value.int .i64), u.oneCell' = true := by
  intro u hu; simp at hu; obtain ⟨_, _, rfl⟩ := hu; rfl
/-- What the reference's Held has made: its cells. -/
theorem HR.at_ {w w1 : World} {hs : List Int} {n : Nat} {v : Value} (h : HR w hs n v w1) (hn : n = hs.length) (h0 : 0 < n) :
    ∃ g cap, v = .slice (some ⟨g, 0, none⟩) n cap ∧ g < w1.heap.size ∧ ∀ j, j < n → w1.cell? ⟨g, j, none⟩ = some (.int .i64 (hd (hs.getD j 0))) := by
  obtain ⟨g, cap, rfl, _, hlt⟩ := h.own.form h0
  refine ⟨g, cap, rfl, hlt, fun j hj => ?_⟩
  have hc := h.own.cells rfl j (.int .i64 (hd (hs.getD j 0))) (by
    unfold hdL
    have : j < hs.length := by omega
    simp [hn, this])
  have e : (⟨g, 0, none⟩ : Addr).add j = ⟨g, j, none⟩ := by
    by_cases h : j = 0
    · subst h; simp [Addr.add]
    · simp [Addr.add, h]
  rw [e] at hc
  exact hc

theorem alkH (hs : List Int) (H : Nat → Int) (hH : ∀ j, H j = hd (hs.getD j 0)) (p m : Nat) : alk hs p (m + 1) = alk hs p m + H (hs.length - 1 - m) * H (hs.length - 1 - m - p) := by
  rw [hH, hH]
  rfl

/-- The best so far of the reference's Lag: q rounds lie behind. -/
def best (B : Nat → Nat × Int) : Nat → Nat × Int
  | 0 => (0, 0)
  | q + 1 => B q

set_option maxRecDepth 20000 in
set_option maxHeartbeats 8000000 in
theorem refLag_any (hs : List Int) (ht : thr hs.length = true) (v : Value) (w : World) (hv : IsJ w v hs) :
    Calls Tryd.prog 18 #[v] w fun e w' => e = .returned (.int .i64 (lagN hs : Nat)) ∧ Below w.heap.size w w' := by
  have hc := thr_cases ht
  have ch := Lib.hid (refHeldL_any hs (by omega) v w hv)
  obtain ⟨A, cap, rfl, _⟩ := hv
  have hb := fun q => bst_b hs (by omega) q
  have hs0 : bst hs 0 = (hs.length / 4, alk hs (hs.length / 4) (hs.length / 2)) := rfl
  have hsS : ∀ q, bst hs (q + 1) = if (bst hs q).2 < alk hs (hs.length / 4 + (q + 1)) (hs.length / 2) then (hs.length / 4 + (q + 1), alk hs (hs.length / 4 + (q + 1)) (hs.length / 2)) else bst hs q := fun q => rfl
  have hL : lagN hs = (bst hs (hs.length / 2 - hs.length / 4)).1 := rfl
  have hAb := fun p m => alk_b hs p m
  obtain ⟨H, hH⟩ : ∃ H : Nat → Int, ∀ j, H j = hd (hs.getD j 0) := ⟨_, fun _ => rfl⟩
  have hAS := fun p m => alkH hs H hH p m
  have hA0 : ∀ p, alk hs p 0 = 0 := fun p => rfl
  have hPb : ∀ i j, -281474976710656 ≤ H i * H j ∧ H i * H j ≤ 281474976710656 := fun i j => by rw [hH, hH]; exact prod_b _ _
  obtain ⟨n, hn⟩ : ∃ n, n = hs.length := ⟨_, rfl⟩
  have hat := fun w1 v (h : HR w hs n v w1) (h0 : 0 < n) => h.at_ hn h0
  rw [← hn] at ch hc hs0 hL ⊢
  simp only [← hn] at hsS hb hAS
  simp only [← hH] at hat
  obtain ⟨AK, hAK⟩ : ∃ AK, AK = alk hs := ⟨_, rfl⟩
  obtain ⟨B, hB⟩ : ∃ B, B = bst hs := ⟨_, rfl⟩
  simp only [← hAK] at hs0 hsS hAS hAb hA0
  simp only [← hB] at hs0 hsS hL hb
  rw [hL]
  replace hs0 := Lib.hid hs0
  replace hsS := Lib.hid hsS
  replace hb := Lib.hid hb
  replace hAS := Lib.hid hAS
  replace hAb := Lib.hid hAb
  replace hA0 := Lib.hid hA0
  replace hPb := Lib.hid hPb
  replace hat := Lib.hid hat
  clear hn hL hAK hB hH ht
  obtain ⟨h4, hh4⟩ : ∃ h4, h4 = n / 4 := ⟨_, rfl⟩
  obtain ⟨h2, hh2⟩ : ∃ h2, h2 = n / 2 := ⟨_, rfl⟩
  have e4 : (n : Int) / 4 = (h4 : Int) := by omega
  have e2 : (n : Int) / 2 = (h2 : Int) := by omega
  have hle : h4 ≤ h2 := by omega
  have h42 : 2 ≤ h4 := by omega
  have hn32 : n ≤ 32 := by omega
  have h2n : 2 * h2 ≤ n := by omega
  rw [← hh4, ← hh2]
  simp only [← hh4, ← hh2] at hs0 hsS hb
  obtain ⟨l, hl⟩ : ∃ l : Nat, (n : Int) - 1 = (l : Int) := ⟨n - 1, by omega⟩
  have hln : l + 1 = n := by omega
  clear hc hh4 hh2
  go_enter Tryd.func18, Tryd.ntmps18
  go_wp2_with fail
  with_reducible refine Calls.mono ch.out ?_
  rintro e w1 ⟨v1, rfl, hR⟩
  have bw := Lib.hid hR.below
  obtain ⟨g, cp, rfl, hg, hcell⟩ := hat.out w1 v1 hR (by omega)
  replace hcell := Lib.hid hcell
  clear hR ch hat
  go_wp2_with fail
  go_loopw [5, 6, 7, 8, 9] (fun bv mv pv sv iv wr => ∃ q d : Nat, h4 + q ≤ h2 + 1 ∧ pv = .int .i64 ((h4 : Int) + q) ∧ bv = .int .i64 ((best B q).1 : Nat) ∧ mv = .int .i64 (best B q).2 ∧ wr = w1.drewN d) (fun _ _ pv _ _ _ => h2 + 1 - (intOf pv).toNat)
  case atStart => exact ⟨0, 0, by omega, by go_num, rfl, rfl, rfl⟩
  case round =>
    obtain ⟨q, d, hq, rfl, rfl, rfl, hw⟩ := hrel
    by_cases hlt : h4 + q ≤ h2
    · obtain ⟨bq, hbq⟩ : ∃ x, x = (best B q).1 := ⟨_, rfl⟩
      obtain ⟨mq, hmq⟩ : ∃ x, x = (best B q).2 := ⟨_, rfl⟩
      rw [← hbq, ← hmq]
      replace hbq := Lib.hid hbq
      replace hmq := Lib.hid hmq
      have ea : ∀ m, AK (h4 + q) (m + 1) = AK (h4 + q) m + H (n - 1 - m) * H (n - 1 - m - (h4 + q)) := fun m => hAS.out (h4 + q) m
      obtain ⟨p, hp⟩ : ∃ p, p = h4 + q := ⟨_, rfl⟩
      rw [← hp] at ea
      have epI : (h4 : Int) + (q : Int) = (p : Int) := by omega
      rw [epI]
      have hp2 : p ≤ h2 := by omega
      replace hp := Lib.hid hp
      replace epI := Lib.hid epI
      replace ea := Lib.hid ea
      have hwr := Lib.hid hw
      replace hw := Lib.hid hw
      go_wp2_with fail
      go_loopw [8, 9] (fun s i wx => ∃ m d' : Nat, m ≤ h2 ∧ i = .int .i64 m ∧ s = .int .i64 (AK p m) ∧ wx = w1.drewN d') (fun _ i _ => h2 - (intOf i).toNat)
      case atStart => exact ⟨0, d, by omega, rfl, by rw [hA0.out], hw.out⟩
      case round =>
        obtain ⟨m, d', hm, rfl, rfl, hx⟩ := hrel
        by_cases hmt : m < h2
        · as_aux_lemma =>
            have c0 := hcell.out (l - m) (by omega)
            have c1 := hcell.out (l - m - p) (by omega)
            have eam := ea.out m
            rw [show n - 1 - m = l - m from by omega] at eam
            have sb := hAb.out p m
            have sb2 := hAb.out p (m + 1)
            have pb := hPb.out (l - m) (l - m - p)
            obtain ⟨X, hX⟩ : ∃ X, X = H (l - m) := ⟨_, rfl⟩
            obtain ⟨Y, hY⟩ : ∃ Y, Y = H (l - m - p) := ⟨_, rfl⟩
            rw [← hX] at c0 eam pb
            rw [← hY] at c1 eam pb
            obtain ⟨M, hM⟩ : ∃ M, X * Y = M := ⟨_, rfl⟩
            rw [hM] at eam pb
            obtain ⟨S, hS⟩ : ∃ S, S = AK p m := ⟨_, rfl⟩
            obtain ⟨S2, hS2⟩ : ∃ S2, S2 = AK p (m + 1) := ⟨_, rfl⟩
            rw [← hS] at eam sb ⊢
            rw [← hS2] at eam sb2
            replace hS2 := Lib.hid hS2
            have u0 : IntKind.i64.wrap ((n : Int) - 1) = (l : Int) := by rw [IntKind.wrap_i64]; omega
            have u1 : IntKind.i64.wrap ((l : Int) - (m : Int)) = ((l - m : Nat) : Int) := by rw [IntKind.wrap_i64]; omega
            have u2 : IntKind.i64.wrap (((l - m : Nat) : Int) - (p : Int)) = ((l - m - p : Nat) : Int) := by rw [IntKind.wrap_i64]; omega
            have u3 : IntKind.i64.wrap M = M := by rw [IntKind.wrap_i64]; omega
            have u4 : IntKind.i64.wrap (S + M) = S2 := by rw [IntKind.wrap_i64]; omega
            obtain ⟨i0, hi0⟩ : ∃ i0, i0 = l - m := ⟨_, rfl⟩
            rw [← hi0] at u1 u2 c0 c1
            obtain ⟨i1, hi1⟩ : ∃ i1, i1 = i0 - p := ⟨_, rfl⟩
            rw [← hi1] at u2 c1
            have v0 : i0 < n := by omega
            have v1 : i1 < n := by omega
            have v2 : (i0 : Int) < (n : Int) := by omega
            have v3 : (i1 : Int) < (n : Int) := by omega
            replace hx := Lib.hid hx
            have c0 : wr.cell? ⟨g, i0, none⟩ = some (.int .i64 X) := by rw [hx.out]; exact c0
            have c1 : wr.cell? ⟨g, i1, none⟩ = some (.int .i64 Y) := by rw [hx.out]; exact c1
            clear hi0 hi1 eam sb sb2 pb hX hY hS
            go_wp2_with fail
            go_quiet (fail)
            go_wp2_with fail
            exact ⟨⟨m + 1, d' + nq, by omega, by go_num, by rw [hS2.out], by rw [hx.out, World.drewN_drewN]⟩, by simp [intOf]; omega⟩
        · obtain rfl : m = h2 := by omega
          have e0 := hs0.out
          have eS := hsS.out
          have hpo := hp.out
          have hepo := epI.out
          obtain ⟨S, hS⟩ : ∃ S, S = AK p m := ⟨_, rfl⟩
          rw [← hS]
          replace hx := Lib.hid hx
          rcases q with _ | r
          · as_aux_lemma =>
              obtain rfl : bq = 0 := hbq.out
              obtain rfl : mq = 0 := hmq.out
              have hn1 : Hid (best B (0 + 1) = (p, S)) := Lib.hid (by show B 0 = _; rw [e0, hS, hpo]; rfl)
              clear e0 eS hS
              replace hpo := Lib.hid hpo
              replace hepo := Lib.hid hepo
              go_wp2_with fail
              exact ⟨⟨0 + 1, d', by omega, by have := hepo.out; go_num, by rw [hn1.out], by rw [hn1.out], hx.out⟩, by simp [intOf]; omega⟩
          · have er := eS r
            have hbb := hb.out r
            have hb1 : bq = (B r).1 := hbq.out
            have hm1 : mq = (B r).2 := hmq.out
            have hne : ((bq : Int) == 0) = false := by simp; omega
            have hne2 : ¬ bq = 0 := by omega
            rw [← hm1, ← hpo, ← hS] at er
            by_cases hc : mq < S
            · as_aux_lemma =>
                rw [if_pos hc] at er
                have hn1 : Hid (best B (r + 1 + 1) = (p, S)) := Lib.hid er
                clear e0 eS hS er hbb hb1 hm1
                replace hpo := Lib.hid hpo
                replace hepo := Lib.hid hepo
                go_wp2_with fail
                exact ⟨⟨r + 1 + 1, d', by omega, by have := hepo.out; go_num, by rw [hn1.out], by rw [hn1.out], hx.out⟩, by simp [intOf]; omega⟩
            · as_aux_lemma =>
                rw [if_neg hc] at er
                have hn1 : Hid ((best B (r + 1 + 1)).1 = bq) := Lib.hid (by rw [hb1]; show (B (r + 1)).1 = _; rw [er])
                have hn2 : Hid ((best B (r + 1 + 1)).2 = mq) := Lib.hid (by rw [hm1]; show (B (r + 1)).2 = _; rw [er])
                clear e0 eS hS er hbb hb1 hm1
                replace hpo := Lib.hid hpo
                replace hepo := Lib.hid hepo
                go_wp2_with fail
                exact ⟨⟨r + 1 + 1, d', by omega, by have := hepo.out; go_num, by rw [hn1.out], by rw [hn2.out], hx.out⟩, by simp [intOf]; omega⟩
    · obtain ⟨r, rfl⟩ : ∃ r, q = r + 1 := ⟨q - 1, by omega⟩
      have hr : h2 - h4 = r := by omega
      have hbr : (best B (r + 1)).1 = (B (h2 - h4)).1 := by rw [hr]; rfl
      obtain ⟨bq, hbq⟩ : ∃ x, x = (best B (r + 1)).1 := ⟨_, rfl⟩
      obtain ⟨mq, hmq⟩ : ∃ x, x = (best B (r + 1)).2 := ⟨_, rfl⟩
      rw [← hbq] at hbr ⊢
      rw [← hmq]
      replace hbr := Lib.hid hbr
      replace hw := Lib.hid hw
      clear hbq hmq hr
      go_wp2_with fail
      go_ret
      exact ⟨by rw [hbr.out]; rfl, by rw [hw.out]; exact below_drewN bw.out _⟩
end Go.Proofs.YtckcjgmikjpfaaaDoor
