/- The contract of rank's Unrank, and of a vector without a rank. -/
import Derived.Test.YtegjkognlfemgaaRank5
import Derived.Test.YtegjkognlfemgaaRow
namespace Go.Proofs.Ytegjkognlfemgaa
open Go.RowKit

theorem infoI : (Try.prog.info? 3).map (fun i => (i.zero, i.size, i.bytes)) = some (some (.int .i64 0), 1, 8) := by kernel_rfl

theorem BookAt.lt {w : World} {gb gm : Nat} (h : BookAt w gb gm) : gb < w.heap.size ∧ gm < w.heap.size := by
  obtain ⟨S, h1, _⟩ := h
  exact ⟨h1.ltb, h1.ltm⟩
theorem BookAt.kept {w w1 : World} {gb gm : Nat} {row : Option Nat} (h : BookAt w gb gm) (hg : w.grownBy w1 row) (h1 : row ≠ some gb) (h2 : row ≠ some gm) : BookAt w1 gb gm := by
  obtain ⟨S, hB, hC⟩ := h
  exact ⟨S, hB.same (hg.block gb hB.ltb (fun e => h1 e.symm)) (hg.block gm hB.ltm (fun e => h2 e.symm)), hC⟩
theorem BookAt.tN {w : World} {gb gm : Nat} (h : BookAt w gb gm) (n k p : Nat) (hn : n ≤ 16) (hk : k ≤ 32) (hp : p ≤ 2000) (a b : Int) (ha : a = n) (hb : b = (k : Int) - mag (sq p)) :
    Calls Try.prog 19 #[.pointer (some ⟨gb, 0, none⟩), .int .i64 a, .int .i64 b] w fun e w' => e = .returned (.int .u64 (tN n k p : Nat)) ∧ BookAt w' gb gm ∧ w.grownBy w' (some gm) := by
  subst ha hb
  rw [← VZ_tN n k p hn hk hp]
  exact h.ask _ _

/-- What Unrank's rounds keep. -/
structure UnR (w : World) (gb gm : Nat) (n k i : Nat) (m k' i' : Nat) (P : List Int) (v : Value) (wr : World) : Prop where
  at_ : BookAt wr gb gm
  grown : w.grownBy wr (some gm)
  own : wr.ownsRow w.heap.size 3 1 v P.length (P.map (Value.int .i64))
  all : P ++ unr m k' i' = unr n k i
  len : m + P.length = n
  lt : i' < V m k'
  kb : k' ≤ 32
theorem UnR.asked {w wr w1 : World} {gb gm n k i m k' i' : Nat} {P : List Int} {v : Value} (h : UnR w gb gm n k i m k' i' P v wr) (hm : gm < w.heap.size) (hB : BookAt w1 gb gm) (hg : wr.grownBy w1 (some gm)) : UnR w gb gm n k i m k' i' P v w1 :=
  ⟨hB, grown_trans h.grown hg, h.own.kept hg (own_ne h.own hm), h.all, h.len, h.lt, h.kb⟩
theorem UnR.alloc {w wr : World} {gb gm n k i m k' i' : Nat} {P : List Int} {v : Value} (h : UnR w gb gm n k i m k' i' P v wr) (o : Obj) : UnR w gb gm n k i m k' i' P v (wr.alloc o) :=
  ⟨h.at_.alloc o, grown_alloc h.grown o, h.own.alloc o, h.all, h.len, h.lt, h.kb⟩

/-- In the search: at place p, j is left. -/
structure UnS (m k' i' p j : Nat) : Prop where
  run : ∃ f, f + p = 2 * k' + 1 ∧ fd m k' f p j = fd m k' (2 * k' + 1) 0 i'
  sum : ahN m k' p + j = i'
theorem UnS.start (m k' i' : Nat) : UnS m k' i' 0 i' := ⟨⟨2 * k' + 1, rfl, rfl⟩, by simp [ahN]⟩
theorem UnS.place {m k' i' p j : Nat} (h : UnS m k' i' p j) (hm : m < 16) (hk : k' ≤ 32) (hi : i' < V (m + 1) k') : p ≤ 2 * k' := by
  obtain ⟨⟨f, h1, _⟩, h2⟩ := h
  rcases Nat.lt_or_ge (2 * k') p with hp | hp
  · obtain rfl : p = 2 * k' + 1 := by omega
    have := ahN_top m k' hm (by omega)
    omega
  · exact hp
theorem UnS.next {m k' i' p j : Nat} (h : UnS m k' i' p j) (hp : p ≤ 2 * k') (hj : ¬ j < tN m k' p) : UnS m k' i' (p + 1) (j - tN m k' p) := by
  obtain ⟨⟨f, h1, h2⟩, h3⟩ := h
  obtain ⟨f, rfl⟩ : ∃ g, f = g + 1 := ⟨f - 1, by omega⟩
  unfold fd at h2
  rw [if_neg hj] at h2
  exact ⟨⟨f, by omega, h2⟩, by show ahN m k' p + tN m k' p + _ = _; omega⟩
theorem UnS.found {m k' i' p j : Nat} (h : UnS m k' i' p j) (hp : p ≤ 2 * k') (hj : j < tN m k' p) : fd m k' (2 * k' + 1) 0 i' = (p, j) := by
  obtain ⟨⟨f, h1, h2⟩, h3⟩ := h
  obtain ⟨f, rfl⟩ : ∃ g, f = g + 1 := ⟨f - 1, by omega⟩
  rw [← h2]
  unfold fd
  rw [if_pos hj]
theorem UnR.put {w wr w1 : World} {gb gm n k i m k' i' p j : Nat} {P : List Int} {v v' : Value} (h : UnR w gb gm n k i (m + 1) k' i' P v wr) (hb : gb < w.heap.size) (hm : gm < w.heap.size) (hs : UnS m k' i' p j) (hp : p ≤ 2 * k') (hj : j < tN m k' p)
    (ho : w1.ownsRow w.heap.size 3 1 v' (P.length + 1) (P.map (Value.int .i64) ++ [.int .i64 (sq p)])) (hg : wr.grownBy w1 v.ownBlock) : UnR w gb gm n k i m (k' - (p + 1) / 2) j (P ++ [sq p]) v' w1 := by
  have hlt := h.own.lt
  have hle : (p + 1) / 2 ≤ k' := by
    rcases Nat.lt_or_ge k' ((p + 1) / 2) with hx | hx
    · rw [tN_out (by omega)] at hj; omega
    · exact hx
  refine ⟨h.at_.kept hg (fun e => by have := hlt gb e; omega) (fun e => by have := hlt gm e; omega), grown_own h.grown hg (fun x hx => (hlt x hx).1), ?_, ?_, ?_, ?_, ?_⟩
  · rw [List.length_append, List.map_append]
    exact ho
  · rw [← h.all, List.append_assoc]
    congr 1
    show _ = sq (fd m k' (2 * k' + 1) 0 i').1 :: unr m (k' - ((fd m k' (2 * k' + 1) 0 i').1 + 1) / 2) (fd m k' (2 * k' + 1) 0 i').2
    rw [hs.found hp hj]
    rfl
  · have := h.len
    simp
    omega
  · rw [← tN_in hle]
    exact hj
  · have := h.kb
    omega

set_option maxHeartbeats 16000000 in
theorem unrank_yes (n k i : Nat) (hn : n ≤ 16) (hk : k ≤ 32) (hi : i < V n k) (w : World) (gb gm : Nat) (hF : BookAt w gb gm) :
    Calls Try.prog 30 #[.pointer (some ⟨gb, 0, none⟩), .int .i64 n, .int .i64 k, .int .u64 i] w fun e w' => ∃ v, e = .returned (.tuple #[v, .int .i64 0]) ∧ w'.ownsRow w.heap.size 3 1 v n ((unr n k i).map (Value.int .i64)) ∧ BookAt w' gb gm ∧ w.grownBy w' (some gm) := by
  have hgb := Lib.hid hF.lt.1
  have hgm := Lib.hid hF.lt.2
  have hVZ := Lib.hid (VZ_nat (n := n) (k := k) ⟨by omega, by omega, by omega, by omega⟩)
  have hVb := V_lt n (by omega) k (by omega)
  obtain ⟨T, hT⟩ : ∃ T, T = V n k := ⟨_, rfl⟩
  obtain ⟨i0, hti, hz0, hz1, hz2⟩ := info_parts infoI
  have hul := unr_spec n k i hn hk hi
  have hul := Lib.hid hul.1
  have h0 : UnR w gb gm n k i n k i [] (.slice none 0 0) w := ⟨hF, World.grownBy.refl w _, World.ownsRow_nil _ _ _ _, by simp, by simp, hi, hk⟩
  rw [← hT] at hi hVb
  have hT2 := Lib.hid hT
  clear hT
  have hVT : VZ (n : Int) (k : Int) = (T : Int) := by rw [hVZ.out, hT2.out]; simp
  replace hVT := Lib.hid hVT
  have hTi : decide (T ≤ i) = false := by simp; omega
  replace hF := Lib.hid hF
  replace h0 := Lib.hid h0
  go_enter Try.func30, Try.ntmps30
  go_wp2_with fail
  with_reducible refine Calls.mono (hF.out.ask _ _) ?_
  rintro e w1 ⟨rfl, b1, g1⟩
  rw [hVT.out]
  replace h0 := Lib.hid (h0.out.asked hgm.out b1 g1)
  clear b1 g1 hF
  go_wp2_with fail
  go_loopw [1, 2, 3, 10, 11] (fun sn sk si so _ wr => ∃ m k' i' P, sn = .int .i64 (m : Nat) ∧ sk = .int .i64 (k' : Nat) ∧ si = .int .u64 (i' : Nat) ∧ m ≤ 16 ∧ UnR w gb gm n k i m k' i' P so wr) (fun sn _ _ _ _ _ => (intOf sn).toNat)
  case atStart => exact ⟨n, k, i, [], rfl, rfl, rfl, hn, h0.out⟩
  case round =>
    clear h0
    obtain ⟨m, k', i', P, rfl, rfl, rfl, hm, hR⟩ := hrel
    have hkb := hR.kb
    replace hR := Lib.hid hR
    by_cases hl : m = 0
    · have hm0 : ¬ (0 < (m : Int)) := by omega
      have hm1 : decide (0 < m) = false := by simp; omega
      have hP : P = unr n k i := by
        have := hR.out.all
        rw [hl] at this
        rw [← this]
        show P = P ++ []
        simp
      replace hP := Lib.hid hP
      replace hl := Lib.hid hl
      go_wp2_with fail
      go_ret2
      refine ⟨_, rfl, ?_, hR.out.at_, hR.out.grown⟩
      have := hR.out.own
      rw [hP.out, hul.out] at this
      exact this
    · obtain ⟨m, rfl⟩ : ∃ m', m = m' + 1 := ⟨m - 1, by omega⟩
      have hlt := Lib.hid hR.out.lt
      have hib : i' ≤ 1000000000000000000 := by
        have h1 := hlt.out
        have h2 := V_lt (m + 1) (by omega) k' (by omega)
        omega
      have ecast : ((m + 1 : Nat) : Int) = (m : Int) + 1 := by omega
      rw [ecast]
      clear ecast
      go_wp2_with fail
      obtain ⟨wo, rfl⟩ : ∃ wo : World, wo = wr := ⟨_, rfl⟩
      go_loopw [3, 11] (fun si sv wr => ∃ p j : Nat, sv = .int .i64 (sq p) ∧ si = .int .u64 (j : Nat) ∧ j ≤ 1000000000000000000 ∧ UnS m k' i' p j ∧ UnR w gb gm n k i (m + 1) k' i' P _ wr) (fun _ sv _ => 2 * k' + 1 - pl (intOf sv))
      case atStart => exact ⟨0, i', rfl, rfl, hib, UnS.start m k' i', hR.out⟩
      case round =>
        clear hR
        obtain ⟨p, j, rfl, rfl, hjb, hs, hR⟩ := hrel
        have hp : p ≤ 2 * k' := hs.place (by omega) hkb hlt.out
        replace hs := Lib.hid hs
        replace hR := Lib.hid hR
        have hbq : -1001 ≤ sq p ∧ sq p ≤ 1001 := by unfold sq; split <;> omega
        have hm4 := mag_sq p (by omega)
        obtain ⟨M, hM⟩ : ∃ M, M = mag (sq p) := ⟨_, rfl⟩
        have hMb : 0 ≤ M ∧ M ≤ 1000 := by omega
        have cm := fun w => mag_any (sq p) (by omega) w
        have cn := fun w => next_any p (by omega) w
        have ct := fun (w : World) (h : BookAt w gb gm) a b ha hb => h.tN m k' p (by omega) hkb (by omega) a b ha hb
        have hnx := Lib.hid (fun h : ¬ j < tN m k' p => hs.out.next hp h)
        have hsh := hs
        obtain ⟨T2, hT2⟩ : ∃ T2, T2 = tN m k' p := ⟨_, rfl⟩
        rw [← hM] at cm hm4 ct
        rw [← hT2] at ct hnx
        have hTh := Lib.hid hT2
        have hle : j < T2 → (p + 1) / 2 ≤ k' := fun h => by
          rcases Nat.lt_or_ge k' ((p + 1) / 2) with hx | hx
          · rw [hT2, tN_out (by omega)] at h; omega
          · exact hx
        replace ct := Lib.hid ct
        have hTb : T2 ≤ 1000000000000000000 := by
          rw [hT2]
          unfold tN
          split
          · exact Nat.le_of_lt (V_lt m (by omega) _ (by omega))
          · omega
        have hM2 := Lib.hid hm4
        have hpq := Lib.hid (pl_sq p)
        have hpq2 := Lib.hid (pl_sq (p + 1))
        clear hM hm4 hT2 hs
        by_cases hj : j < T2
        · have hle := hle hj
          have hjT : Hid (j < tN m k' p) := Lib.hid (by rw [← hTh.out]; exact hj)
          go_wp2_with fail
          with_reducible refine Calls.mono (cm _) ?_
          rintro e w2 ⟨rfl, rfl⟩
          go_wp2_with fail
          with_reducible refine Calls.mono (ct.out _ hR.out.at_ _ _ (by omega) rfl) ?_
          rintro e w2 ⟨rfl, b2, g2⟩
          have hR2 := Lib.hid (hR.out.asked hgm.out b2 g2)
          have hpt2 := Lib.hid (fun w1 v' ho hg => (hR2.out.alloc (.cells #[.int .i64 (sq p)] 3)).put (w1 := w1) (v' := v') hgb.out hgm.out hsh.out hp hjT.out ho hg)
          clear b2 g2 hR hnx
          go_wp2_with (at_builtin; refine wpList_append_own _ rfl _ _ 40 rfl w.heap.size 3 i0 (.int .i64 0) 1 8 Try.underlying40 hti hz0 hz1 hz2 rfl (by decide) _ _ _ rfl (hR2.out.own.alloc _) ⟨w2.heap.size, 0, none⟩ 1 1 [.int .i64 (sq p)] rfl rfl ?c1 ?c2 ?c3 ?c4 ?c5 ?_)
          case c1 =>
            intro j u hj
            match j, hj with
            | 0, hj => simp at hj; subst hj; simp [Addr.add]
          case c2 => intro u hu; simp at hu; subst hu; rfl
          case c3 => have := hR2.out.len; unfold maxLen; omega
          case c4 => have := hR2.out.len; omega
          case c5 => have := hR2.out.grown.size; simp; omega
          intro v' w3 hown hgrow _
          have hR3 := Lib.hid (hpt2.out w3 v' hown hgrow)
          clear hown hgrow hpt2 hR2
          go_wp2_with fail
          with_reducible refine Calls.mono (cm _) ?_
          rintro e w4 ⟨rfl, rfl⟩
          go_wp2_with fail
          go_roundw
          case rel => exact ⟨m, k' - (p + 1) / 2, j, P ++ [sq p], rfl, by have h1 := hM2.out; rw [show ((k' - (p + 1) / 2 : Nat) : Int) = (k' : Int) - M from by omega], rfl, by omega, hR3.out⟩
          case measure => simp [intOf]
        · have hnx2 := Lib.hid (hnx.out hj)
          clear hnx hle
          go_wp2_with fail
          with_reducible refine Calls.mono (cm _) ?_
          rintro e w2 ⟨rfl, rfl⟩
          go_wp2_with fail
          with_reducible refine Calls.mono (ct.out _ hR.out.at_ _ _ (by omega) rfl) ?_
          rintro e w2 ⟨rfl, b2, g2⟩
          have hR2 := Lib.hid (hR.out.asked hgm.out b2 g2)
          clear b2 g2 hR
          go_wp2_with fail
          with_reducible refine Calls.mono (cm _) ?_
          rintro e w3 ⟨rfl, rfl⟩
          go_wp2_with fail
          with_reducible refine Calls.mono (ct.out _ hR2.out.at_ _ _ (by omega) rfl) ?_
          rintro e w3 ⟨rfl, b3, g3⟩
          have hR3 := Lib.hid (hR2.out.asked hgm.out b3 g3)
          clear b3 g3 hR2
          go_wp2_with fail
          with_reducible refine Calls.mono (cn _) ?_
          rintro e w4 ⟨rfl, rfl⟩
          go_wp2_with fail
          go_roundw
          case rel => exact ⟨p + 1, j - T2, rfl, by rw [show ((j - T2 : Nat) : Int) = (j : Int) - T2 from by omega], by omega, hnx2.out, hR3.out⟩
          case measure => simp only [intOf]; rw [hpq.out, hpq2.out]; omega
end Go.Proofs.Ytegjkognlfemgaa
