/- The contracts of New and of the maker's lag. -/
import Derived.Test.YtckcjgmikjpfaaaDoorCon11
import Derived.Laws.MakeOwn
namespace Go.Proofs.YtckcjgmikjpfaaaDoor
open Go.RowKit

/-- A sum. -/
def su (f : Nat → Int) : Nat → Int
  | 0 => 0
  | m + 1 => su f m + f m
theorem su_front (f : Nat → Int) (m : Nat) : su f (m + 1) = f 0 + su (fun i => f (i + 1)) m := by
  induction m with
  | zero => simp [su]
  | succ m ih => rw [su, ih, su]; omega
theorem su_congr (f g : Nat → Int) (m : Nat) (h : ∀ i, i < m → f i = g i) : su f m = su g m := by
  induction m with
  | zero => rfl
  | succ m ih => rw [su, su, ih (fun i hi => h i (by omega)), h m (by omega)]
theorem su_rev (f : Nat → Int) (m : Nat) : su (fun i => f (m - 1 - i)) m = su f m := by
  induction m with
  | zero => rfl
  | succ m ih =>
    rw [su_front, su]
    have : su (fun i => f (m + 1 - 1 - (i + 1))) m = su f m := by
      rw [← ih]
      exact su_congr _ _ _ (fun i hi => by rw [show m + 1 - 1 - (i + 1) = m - 1 - i from by omega])
    rw [this]
    simp only [Nat.sub_zero, Nat.add_sub_cancel]
    omega
theorem alk_su (hs : List Int) (p m : Nat) : alk hs p m = su (fun i => hd (hs.getD (hs.length - 1 - i) 0) * hd (hs.getD (hs.length - 1 - i - p) 0)) m := by
  induction m with
  | zero => rfl
  | succ m ih => rw [alk, su, ih]
/-- The same sum, from the front on. -/
def alu (hs : List Int) (p : Nat) (m : Nat) : Int := su (fun i => hd (hs.getD (hs.length / 2 - p + i) 0) * hd (hs.getD (hs.length / 2 + i) 0)) m
theorem alu_alk (hs : List Int) (p h2 : Nat) (h : hs.length = 2 * h2) (hp : p ≤ h2) : alu hs p h2 = alk hs p h2 := by
  unfold alu
  rw [alk_su, ← su_rev (fun i => hd (hs.getD (hs.length - 1 - i) 0) * hd (hs.getD (hs.length - 1 - i - p) 0))]
  refine su_congr _ _ _ (fun i hi => ?_)
  rw [show hs.length - 1 - (h2 - 1 - i) = hs.length / 2 + i from by omega, show hs.length / 2 + i - p = hs.length / 2 - p + i from by omega, Int.mul_comm]
theorem alu_b (hs : List Int) (p m : Nat) : -281474976710656 * m ≤ alu hs p m ∧ alu hs p m ≤ 281474976710656 * m := by
  induction m with
  | zero => simp [alu, su]
  | succ m ih =>
    have := prod_b (hs.getD (hs.length / 2 - p + m) 0) (hs.getD (hs.length / 2 + m) 0)
    unfold alu at ih ⊢
    rw [su]
    omega

set_option maxRecDepth 20000 in
set_option maxHeartbeats 8000000 in
theorem mlag_any (hs : List Int) (ht : thr hs.length = true) (mb rb : Nat) (w : World) (hm : w.cell? ⟨mb, 0, none⟩ = some (.slice (some ⟨rb, 0, none⟩) hs.length hs.length))
    (hr : ∀ j, j < hs.length → w.cell? ⟨rb, j, none⟩ = some (.int .i64 (hd (hs.getD j 0)))) :
    Calls Tryd.prog 23 #[.pointer (some ⟨mb, 0, none⟩)] w fun e w' => e = .returned (.int .i64 (lagN hs : Nat)) ∧ w = w' := by
  have hc := thr_cases ht
  have hb := fun q => bst_b hs (by omega) q
  have hs0 : bst hs 0 = (hs.length / 4, alu hs (hs.length / 4) (hs.length / 2)) := by rw [alu_alk _ _ _ (by omega) (by omega)]; rfl
  have hsS : ∀ q, hs.length / 4 + (q + 1) ≤ hs.length / 2 → bst hs (q + 1) = if (bst hs q).2 < alu hs (hs.length / 4 + (q + 1)) (hs.length / 2) then (hs.length / 4 + (q + 1), alu hs (hs.length / 4 + (q + 1)) (hs.length / 2)) else bst hs q := fun q hq => by rw [alu_alk _ _ _ (by omega) hq]; rfl
  have hL : lagN hs = (bst hs (hs.length / 2 - hs.length / 4)).1 := rfl
  have hAb := fun p m => alu_b hs p m
  obtain ⟨H, hH⟩ : ∃ H : Nat → Int, ∀ j, H j = hd (hs.getD j 0) := ⟨_, fun _ => rfl⟩
  have hAS : ∀ p m, alu hs p (m + 1) = alu hs p m + H (hs.length / 2 - p + m) * H (hs.length / 2 + m) := fun p m => by rw [hH, hH]; rfl
  have hA0 : ∀ p, alu hs p 0 = 0 := fun p => rfl
  have hPb : ∀ i j, -281474976710656 ≤ H i * H j ∧ H i * H j ≤ 281474976710656 := fun i j => by rw [hH, hH]; exact prod_b _ _
  simp only [← hH] at hr
  obtain ⟨n, hn⟩ : ∃ n, n = hs.length := ⟨_, rfl⟩
  rw [← hn] at hc hs0 hL hm hr
  simp only [← hn] at hsS hb hAS
  obtain ⟨AK, hAK⟩ : ∃ AK, AK = alu hs := ⟨_, rfl⟩
  obtain ⟨B, hB⟩ : ∃ B, B = bst hs := ⟨_, rfl⟩
  simp only [← hAK] at hs0 hsS hAS hAb hA0
  simp only [← hB] at hs0 hsS hL hb
  rw [hL]
  replace hs0 := Lib.hid hs0
  replace hb := Lib.hid hb
  replace hAb := Lib.hid hAb
  replace hA0 := Lib.hid hA0
  replace hPb := Lib.hid hPb
  replace hr := Lib.hid hr
  clear hn hL hAK hB hH ht
  obtain ⟨h4, hh4⟩ : ∃ h4, h4 = n / 4 := ⟨_, rfl⟩
  obtain ⟨h2, hh2⟩ : ∃ h2, h2 = n / 2 := ⟨_, rfl⟩
  have e4 : (n : Int) / 4 = (h4 : Int) := by omega
  have e2 : (n : Int) / 2 = (h2 : Int) := by omega
  have hle : h4 ≤ h2 := by omega
  have h42 : 2 ≤ h4 := by omega
  have hn32 : n ≤ 32 := by omega
  have h2n : 2 * h2 = n := by omega
  rw [← hh4, ← hh2]
  simp only [← hh4, ← hh2] at hs0 hsS hb hAS
  replace hsS := Lib.hid hsS
  replace hAS := Lib.hid hAS
  have h2n' : 2 * h2 ≤ n := by omega
  have h2n3 : n ≤ 2 * h2 := by omega
  have enh : n - h2 = h2 := by omega
  clear hc hh4 hh2 h2n
  go_enter Tryd.func23, Tryd.ntmps23
  go_wp2_with fail
  go_loopw [5, 6, 7] (fun bv mv pv wr => ∃ q : Nat, h4 + q ≤ h2 + 1 ∧ pv = .int .i64 ((h4 : Int) + q) ∧ bv = .int .i64 ((best B q).1 : Nat) ∧ mv = .int .i64 (best B q).2 ∧ wr = w) (fun _ _ pv _ => h2 + 1 - (intOf pv).toNat)
  case atStart => exact ⟨0, by omega, by go_num, rfl, rfl, rfl⟩
  case round =>
    obtain ⟨q, hq, rfl, rfl, rfl, rfl⟩ := hrel
    by_cases hlt : h4 + q ≤ h2
    · obtain ⟨bq, hbq⟩ : ∃ x, x = (best B q).1 := ⟨_, rfl⟩
      obtain ⟨mq, hmq⟩ : ∃ x, x = (best B q).2 := ⟨_, rfl⟩
      rw [← hbq, ← hmq]
      replace hbq := Lib.hid hbq
      replace hmq := Lib.hid hmq
      have ea : ∀ m, AK (h4 + q) (m + 1) = AK (h4 + q) m + H (h2 - (h4 + q) + m) * H (h2 + m) := fun m => hAS.out (h4 + q) m
      obtain ⟨p, hp⟩ : ∃ p, p = h4 + q := ⟨_, rfl⟩
      rw [← hp] at ea
      have epI : (h4 : Int) + (q : Int) = (p : Int) := by omega
      rw [epI]
      have hp2 : p ≤ h2 := by omega
      replace hp := Lib.hid hp
      replace epI := Lib.hid epI
      obtain ⟨d, hdp⟩ : ∃ d, d = h2 - p := ⟨_, rfl⟩
      rw [← hdp] at ea
      obtain ⟨e, hep⟩ : ∃ e, e = d + h2 := ⟨_, rfl⟩
      have ed1 : (h2 : Int) - (p : Int) = (d : Int) := by omega
      have ed2 : (n : Int) - (p : Int) = (e : Int) := by omega
      have ed3 : e - d = h2 := by omega
      have ed4 : d ≤ e := by omega
      have ed5 : e ≤ n := by omega
      have ed6 : d ≤ h2 := by omega
      replace hdp := Lib.hid hdp
      replace hep := Lib.hid hep
      replace ea := Lib.hid ea
      go_wp2_with fail
      go_loopw [8, 44] (fun s i wx => ∃ m : Nat, m ≤ h2 ∧ i = .int .i64 m ∧ s = .int .i64 (AK p m) ∧ wx = wr) (fun _ i _ => h2 - (intOf i).toNat)
      case atStart => exact ⟨0, by omega, rfl, by rw [hA0.out], rfl⟩
      case round =>
        obtain ⟨m, hm, rfl, rfl, rfl⟩ := hrel
        by_cases hmt : m < h2
        · as_aux_lemma =>
            have c0 := hr.out (d + m) (by omega)
            have c1 := hr.out (h2 + m) (by omega)
            have eam := ea.out m
            have sb := hAb.out p m
            have sb2 := hAb.out p (m + 1)
            have pb := hPb.out (d + m) (h2 + m)
            obtain ⟨X, hX⟩ : ∃ X, X = H (d + m) := ⟨_, rfl⟩
            obtain ⟨Y, hY⟩ : ∃ Y, Y = H (h2 + m) := ⟨_, rfl⟩
            rw [← hX] at c0 eam pb
            rw [← hY] at c1 eam pb
            obtain ⟨M, hM⟩ : ∃ M, X * Y = M := ⟨_, rfl⟩
            rw [hM] at eam pb
            obtain ⟨S, hS⟩ : ∃ S, S = AK p m := ⟨_, rfl⟩
            obtain ⟨S2, hS2⟩ : ∃ S2, S2 = AK p (m + 1) := ⟨_, rfl⟩
            rw [← hS] at eam sb ⊢
            rw [← hS2] at eam sb2
            replace hS2 := Lib.hid hS2
            have u4 : S + M = S2 := eam.symm
            have u5 : -9007199254740992 ≤ S2 ∧ S2 ≤ 9007199254740992 := by omega
            clear hX hY hS eam sb sb2
            go_wp2_with fail
            exact ⟨⟨m + 1, by omega, by go_num, by rw [hS2.out], trivial⟩, by simp [intOf]; omega⟩
        · obtain rfl : m = h2 := by omega
          have e0 := hs0.out
          have eS := hsS.out
          have hpo := hp.out
          have hepo := epI.out
          obtain ⟨S, hS⟩ : ∃ S, S = AK p m := ⟨_, rfl⟩
          rw [← hS]
          rcases q with _ | r
          · as_aux_lemma =>
              obtain rfl : bq = 0 := hbq.out
              obtain rfl : mq = 0 := hmq.out
              have hn1 : Hid (best B (0 + 1) = (p, S)) := Lib.hid (by show B 0 = _; rw [e0, hS, hpo]; rfl)
              clear e0 eS hS
              replace hpo := Lib.hid hpo
              replace hepo := Lib.hid hepo
              go_wp2_with fail
              exact ⟨⟨0 + 1, by omega, by have := hepo.out; go_num, by rw [hn1.out], by rw [hn1.out], trivial⟩, by simp [intOf]; omega⟩
          · have er := eS r (by omega)
            have hbb := hb.out r
            have hb1 : bq = (B r).1 := hbq.out
            have hm1 : mq = (B r).2 := hmq.out
            have hne : ((bq : Int) == 0) = false := by simp; omega
            have hne2 : ¬ bq = 0 := by omega
            rw [← hm1, ← hpo, ← hS] at er
            by_cases hc : mq < S
            · as_aux_lemma =>
                rw [if_pos hc] at er
                have hn1 : Hid (best B (r + 1 + 1) = (p, S)) := Lib.hid er
                clear e0 eS hS er hbb hb1 hm1
                replace hpo := Lib.hid hpo
                replace hepo := Lib.hid hepo
                go_wp2_with fail
                exact ⟨⟨r + 1 + 1, by omega, by have := hepo.out; go_num, by rw [hn1.out], by rw [hn1.out], trivial⟩, by simp [intOf]; omega⟩
            · as_aux_lemma =>
                rw [if_neg hc] at er
                have hn1 : Hid ((best B (r + 1 + 1)).1 = bq) := Lib.hid (by rw [hb1]; show (B (r + 1)).1 = _; rw [er])
                have hn2 : Hid ((best B (r + 1 + 1)).2 = mq) := Lib.hid (by rw [hm1]; show (B (r + 1)).2 = _; rw [er])
                clear e0 eS hS er hbb hb1 hm1
                replace hpo := Lib.hid hpo
                replace hepo := Lib.hid hepo
                go_wp2_with fail
                exact ⟨⟨r + 1 + 1, by omega, by have := hepo.out; go_num, by rw [hn1.out], by rw [hn2.out], trivial⟩, by simp [intOf]; omega⟩
    · obtain ⟨r, rfl⟩ : ∃ r, q = r + 1 := ⟨q - 1, by omega⟩
      have hr : h2 - h4 = r := by omega
      have hbr : (best B (r + 1)).1 = (B (h2 - h4)).1 := by rw [hr]; rfl
      obtain ⟨bq, hbq⟩ : ∃ x, x = (best B (r + 1)).1 := ⟨_, rfl⟩
      obtain ⟨mq, hmq⟩ : ∃ x, x = (best B (r + 1)).2 := ⟨_, rfl⟩
      rw [← hbq] at hbr ⊢
      rw [← hmq]
      replace hbr := Lib.hid hbr
      clear hbq hmq hr
      go_wp2_with fail
      go_ret
      exact ⟨by rw [hbr.out]; rfl, rfl⟩
end Go.Proofs.YtckcjgmikjpfaaaDoor
