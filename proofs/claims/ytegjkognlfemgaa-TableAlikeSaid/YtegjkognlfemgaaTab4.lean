/- The contract of the table's Into. -/
import Derived.Test.YtegjkognlfemgaaTab3
import Derived.Test.YtegjkognlfemgaaRank7
import Derived.Laws.OwnMore
namespace Go.Proofs.Ytegjkognlfemgaa
open Go.RowKit

theorem IsTab.far {w : World} {g : Nat} (h : IsTab w g) {p : Addr} (hp : g ≠ p.block) (v : Value) : IsTab (w.setCell p v) g := by
  obtain ⟨T, h1, h2⟩ := h
  exact ⟨T, h1.far hp v, h2⟩
theorem VZ_at2 {n k : Nat} (hn : n ≤ 16) (hk : k ≤ 32) (a b : Int) (ha : a = n) (hb : b = k) : VZ a b = ((V n k : Nat) : Int) := by
  subst ha hb
  rw [VZ_nat ⟨by omega, by omega, by omega, by omega⟩, Int.toNat_natCast, Int.toNat_natCast]
theorem ahN_one (n k : Nat) : ahN n k 1 = V n k := by
  show 0 + tN n k 0 = V n k
  rw [tN_in (by omega)]
  simp

theorem own_drewN {w : World} {base e size n : Nat} {v : Value} {xs : List Value} (h : w.ownsRow base e size v n xs) (d : Nat) : (w.drewN d).ownsRow base e size v n xs := h
theorem sq_odd (M : Nat) (h : 1 ≤ M) : sq (2 * M - 1) = (M : Int) := by unfold sq; rw [if_pos (by omega)]; omega
theorem sq_even (M : Nat) : sq (2 * M) = -(M : Int) := by unfold sq; rw [if_neg (by omega)]; omega

/-- What Into's rounds keep. -/
structure InR (w : World) (base g b n cap k i : Nat) (xs0 : List Value) (j k' i' : Nat) (P : List Int) (wr : World) : Prop where
  tab : IsTab wr g
  grown : w.grownBy wr (some b)
  own : wr.ownsRow base 3 1 (.slice (some ⟨b, 0, none⟩) n cap) n (P.map (Value.int .i64) ++ xs0.drop j)
  all : P ++ unr (n - j) k' i' = unr n k i
  len : P.length = j
  lt : i' < V (n - j) k'
  kb : k' ≤ 32
theorem InR.put {w wr W : World} {base g b n cap k i : Nat} {xs0 : List Value} {j k' i' : Nat} {P : List Int} (h : InR w base g b n cap k i xs0 j k' i' P wr) (hj : j < n) (hx : xs0.length = n) (hn : n ≤ 16) {p : Nat}
    (h1 : ahN (n - 1 - j) k' p ≤ i') (h2 : i' < ahN (n - 1 - j) k' (p + 1))
    (ho : W.ownsRow base 3 1 (.slice (some ⟨b, 0, none⟩) n cap) n ((P.map (Value.int .i64) ++ xs0.drop j).set j (.int .i64 (sq p)))) (hg : wr.grownBy W (some b)) (hT : IsTab W g) :
    InR w base g b n cap k i xs0 (j + 1) (k' - (p + 1) / 2) (i' - ahN (n - 1 - j) k' p) (P ++ [sq p]) W := by
  have hkb := h.kb
  have hf := fd_is (n := n - 1 - j) (k := k') (by omega) (by omega) h1 h2
  have hs : ahN (n - 1 - j) k' (p + 1) = ahN (n - 1 - j) k' p + tN (n - 1 - j) k' p := rfl
  have hle : (p + 1) / 2 ≤ k' := by
    rcases Nat.lt_or_ge k' ((p + 1) / 2) with hx | hx
    · rw [tN_out (by omega)] at hs; omega
    · exact hx
  refine ⟨hT, grown_trans h.grown hg, ?_, ?_, by simp [h.len], ?_, by omega⟩
  · have e : (P.map (Value.int .i64) ++ xs0.drop j).set j (.int .i64 (sq p)) = (P ++ [sq p]).map (Value.int .i64) ++ xs0.drop (j + 1) := by
      have hl : (P.map (Value.int .i64)).length = j := by simp [h.len]
      rw [List.set_append_right _ _ (by omega), hl, Nat.sub_self, List.drop_eq_getElem_cons (by omega), List.set_cons_zero, List.map_append, List.append_assoc]
      rfl
    rw [← e]
    exact ho
  · rw [← h.all, List.append_assoc]
    congr 1
    rw [show n - j = (n - 1 - j) + 1 from by omega]
    show _ = sq (fd (n - 1 - j) k' (2 * k' + 1) 0 i').1 :: unr (n - 1 - j) (k' - ((fd (n - 1 - j) k' (2 * k' + 1) 0 i').1 + 1) / 2) (fd (n - 1 - j) k' (2 * k' + 1) 0 i').2
    rw [hf, show n - (j + 1) = n - 1 - j from by omega]
    rfl
  · rw [show n - (j + 1) = n - 1 - j from by omega, ← tN_in hle]
    omega

set_option maxHeartbeats 4000000 in
theorem into_no (n : Nat) (k i : Int) (hn : n ≤ 1000) (hi : VZ n k ≤ i) (A : Option Addr) (cap : Nat) (w : World) (g : Nat) (h : IsTab w g) :
    Calls Try.prog 34 #[.pointer (some ⟨g, 0, none⟩), .slice A n cap, .int .i64 k, .int .u64 i] w fun e w' => e = .returned (.bool false) ∧ w = w' := by
  have cv := Lib.hid (fun k' => tabV_any n k' w g h)
  clear h
  go_enter Try.func34, Try.ntmps34
  go_wp2_with fail
  with_reducible refine Calls.mono (cv.out _) ?_
  rintro e w1 ⟨rfl, rfl⟩
  go_wp2_with fail
  go_ret
  exact ⟨rfl, rfl⟩

set_option maxRecDepth 100000 in
set_option maxHeartbeats 16000000 in
theorem into_some (n k i : Nat) (hn : n ≤ 16) (hn0 : 0 < n) (hk : k ≤ 32) (hi : i < V n k) (b cap base : Nat) (xs0 : List Value) (hx0 : xs0.length = n) (w : World) (g : Nat) (h : IsTab w g) (hgb : g ≠ b) (hcap : n ≤ cap)
    (ho : w.ownsRow base 3 1 (.slice (some ⟨b, 0, none⟩) n cap) n xs0) :
    Calls Try.prog 34 #[.pointer (some ⟨g, 0, none⟩), .slice (some ⟨b, 0, none⟩) n cap, .int .i64 k, .int .u64 i] w fun e w' => e = .returned (.bool true) ∧ w'.ownsRow base 3 1 (.slice (some ⟨b, 0, none⟩) n cap) n ((unr n k i).map (Value.int .i64)) ∧ IsTab w' g ∧ w.grownBy w' (some b) := by
  have h0 : InR w base g b n cap k i xs0 0 k i [] w := ⟨h, World.grownBy.refl w _, ho, by simp, rfl, hi, hk⟩
  have cv := Lib.hid (tabV_any n k w g h)
  have hV : VZ n k = ((V n k : Nat) : Int) := VZ_at2 hn hk _ _ rfl rfl
  have hVb := V_lt n (by omega) k (by omega)
  obtain ⟨T, hT⟩ : ∃ T, T = V n k := ⟨_, rfl⟩
  rw [hV, ← hT] at cv
  rw [← hT] at hi hVb
  have hTi : decide (T ≤ i) = false := by simp; omega
  replace h0 := Lib.hid h0
  replace hgb := Lib.hid hgb
  replace hx0 := Lib.hid hx0
  clear h ho hV hT
  go_enter Try.func34, Try.ntmps34
  go_wp2_with fail
  with_reducible refine Calls.mono cv.out ?_
  rintro e w1 ⟨rfl, rfl⟩
  go_wp2_with fail
  go_loopw [2, 3, 21] (fun sk si sj wr => ∃ j k' i' P, j ≤ n ∧ sj = .int .i64 (j : Nat) ∧ sk = .int .i64 (k' : Nat) ∧ si = .int .u64 (i' : Nat) ∧ InR w base g b n cap k i xs0 j k' i' P wr) (fun _ _ sj _ => n - (intOf sj).toNat)
  case atStart => exact ⟨0, k, i, [], by omega, rfl, rfl, rfl, h0.out⟩
  case round =>
    clear h0
    obtain ⟨j, k', i', P, hj, rfl, rfl, rfl, hR⟩ := hrel
    by_cases hl : j < n
    · have hkb := hR.kb
      have hlt := hR.lt
      rw [show n - j = (n - 1 - j) + 1 from by omega] at hlt
      have hVb2 := V_lt ((n - 1 - j) + 1) (by omega) k' (by omega)
      have hN2 : (n : Int) - 1 - j = ((n - 1 - j : Nat) : Int) := by omega
      have hN15 : n - 1 - j < 16 := by omega
      have hput := Lib.hid (fun p h1 h2 W ho hg hT => InR.put (W := W) hR hl hx0.out hn (p := p) h1 h2 ho hg hT)
      have hown := hR.own
      have hlen : (P.map (Value.int .i64) ++ xs0.drop j).length = n := by simp [hR.len, hx0.out]; omega
      have htab := hR.tab
      obtain ⟨XS, hXS⟩ : ∃ XS, XS = P.map (Value.int .i64) ++ xs0.drop j := ⟨_, rfl⟩
      rw [← hXS] at hput hown hlen
      obtain ⟨m, hm⟩ : ∃ m, m = n - 1 - j := ⟨_, rfl⟩
      rw [← hm] at hlt hVb2 hN2 hN15 hput
      replace hm := Lib.hid hm
      obtain ⟨u0, c0⟩ : ∃ u0, wr.cell? ⟨b, j, none⟩ = some u0 := ⟨_, (hown.cellAt j (by omega)).trans (List.getElem?_eq_getElem (by omega))⟩
      have f0 := hown.frozenAt j
      obtain ⟨own1, gr1⟩ := hown.stored j (.int .i64 0)
      have tab1 := htab.far (p := ⟨b, j, none⟩) hgb.out (.int .i64 0)
      obtain ⟨w1, hw1⟩ : ∃ w1, w1 = wr.setCell ⟨b, j, none⟩ (.int .i64 0) := ⟨_, rfl⟩
      rw [← hw1] at own1 gr1 tab1
      have cV : w1.cell? ⟨g, m * 67 + k', none⟩ = some (.int .u64 (V m k' : Nat)) := tab1.v (by omega) (by omega)
      have hk33 : k' < 33 := by omega
      by_cases hA : i' < V m k'
      · as_aux_lemma =>
          have hp := hput.out 0 (Nat.zero_le _) (by rw [ahN_one]; exact hA) w1 own1 gr1 tab1
          replace hp := Lib.hid hp
          rw [hw1] at cV
          have hV0 := V_lt m (by omega) k' (by omega)
          obtain ⟨X, hX⟩ : ∃ X, X = V m k' := ⟨_, rfl⟩
          rw [← hX] at hA cV hV0
          have hAd : decide (i' < X) = true := by simp; omega
          replace hw1 := Lib.hid hw1
          clear hput hown hlen htab hXS hR own1 gr1 tab1 hlt hVb2 hX
          trace "A0"
          go_wp2_with fail
          trace "A1"
          exact ⟨⟨j + 1, _, _, _, by omega, by go_num, rfl, rfl, by rw [← hw1.out]; exact hp.out⟩, by simp [intOf]; omega⟩
      · have hk1 : 1 ≤ k' := by
          rcases Nat.eq_zero_or_pos k' with h | h
          · subst h
            rw [V_zero (m + 1) (by omega)] at hlt
            rw [V_zero m (by omega)] at hA
            omega
          · exact h
        have htop := ahN_top m k' hN15 (by omega)
        have ca := Lib.hid (fun (M d : Nat) h1 h2 ka ma e1 e2 => tahead_any m k' M hN15 h1 h2 hkb (w1.drewN d) g (tab1.drewN d) ka ma e1 e2)
        have hle : V m k' ≤ i' := by omega
        have hV0 := V_lt m (by omega) k' (by omega)
        replace hle := Lib.hid hle
        replace hlt := Lib.hid hlt
        replace htop := Lib.hid htop
        have hbig : i' ≤ 1000000000000000000 := by have := hlt.out; omega
        rw [hw1] at cV
        have hAd : decide (i' < V m k') = false := by simp; omega
        obtain ⟨Y, hY⟩ : ∃ Y, Y = V m k' := ⟨_, rfl⟩
        rw [← hY] at cV hAd hA hV0
        replace hw1 := Lib.hid hw1
        clear hR htab hown hXS hY
        replace own1 := Lib.hid own1
        replace gr1 := Lib.hid gr1
        replace tab1 := Lib.hid tab1
        go_wp2_with fail
        go_loopw [11] (fun s wq => ∃ M d : Nat, 1 ≤ M ∧ M ≤ k' ∧ s = .int .i64 M ∧ ahN m k' (2 * M - 1) ≤ i' ∧ wq = w1.drewN d) (fun s _ => k' - (intOf s).toNat)
        case atStart => exact ⟨1, 0, by omega, hk1, rfl, by rw [ahN_one]; exact hle.out, hw1.out.symm⟩
        case round =>
          obtain ⟨M, d, hM1, hM2, rfl, hMi, rfl⟩ := hrel
          have ca1 := Lib.hid (fun h => ca.out (M + 1) d (by omega) h)
          rw [show 2 * (M + 1) - 1 = 2 * M + 1 from by omega] at ca1
          by_cases hgo : M < k' ∧ ahN m k' (2 * M + 1) ≤ i'
          · as_aux_lemma =>
              obtain ⟨g1, g2⟩ := hgo
              have hg2 := Lib.hid g2
              obtain ⟨X, hX⟩ : ∃ X, X = ahN m k' (2 * M + 1) := ⟨_, rfl⟩
              rw [← hX] at ca1 g2
              clear hX
              have c1 := ca1.out (by omega)
              replace c1 := Lib.hid c1
              replace hMi := Lib.hid hMi
              go_wp2_with fail
              with_reducible refine Calls.mono (c1.out _ _ rfl (by go_num)) ?_
              rintro e w4 ⟨rfl, d2, rfl⟩
              go_wp2_with fail
              exact ⟨⟨M + 1, d + d2, by omega, by omega, by go_num, by rw [show 2 * (M + 1) - 1 = 2 * M + 1 from by omega]; exact hg2.out, by simp [World.drewN_drewN]⟩, by simp [intOf]; omega⟩
          · have hi2 : i' < ahN m k' (2 * M + 1) := by
              rcases Nat.lt_or_ge i' (ahN m k' (2 * M + 1)) with hx | hx
              · exact hx
              · have : M = k' := by
                  rcases Nat.lt_or_ge M k' with h1 | h1
                  · exact absurd ⟨h1, hx⟩ hgo
                  · omega
                subst this
                have := hlt.out
                have := htop.out
                omega
            replace own1 := own1.out
            replace gr1 := gr1.out
            replace tab1 := tab1.out
            replace hlt := hlt.out
            clear hgo htop
            by_cases hMk2 : M < k'
            · as_aux_lemma =>
                obtain ⟨X, hX⟩ : ∃ X, X = ahN m k' (2 * M + 1) := ⟨_, rfl⟩
                rw [← hX] at ca1
                have hXi : i' < X := by rw [hX]; exact hi2
                have hXi2 : decide (X ≤ i') = false := by simp; omega
                replace hX := Lib.hid hX
                have c1 := Lib.hid (ca1.out (by omega))
                have hi2h := Lib.hid hi2
                have hMih := Lib.hid hMi
                clear hi2 hMi ca1
                go_wp2_with fail
                with_reducible refine Calls.mono (c1.out _ _ rfl (by go_num)) ?_
                rintro e w3 ⟨rfl, d2, rfl⟩
                go_wp2_with fail
                trace "B1"
                have hi2 := hi2h.out
                have hMi := hMih.out
                obtain ⟨W, hW⟩ : ∃ W, W = w1.drewN (d + d2) := ⟨_, rfl⟩
                rw [← hW]
                have tabW : IsTab W g := by rw [hW]; exact tab1.drewN _
                have ownW : W.ownsRow base 3 1 (.slice (some ⟨b, 0, none⟩) n cap) n (XS.set j (.int .i64 0)) := by rw [hW]; exact own_drewN own1 _
                have grW : wr.grownBy W (some b) := by rw [hW]; exact grown_drewN gr1 _
                have ca2 := Lib.hid (tahead_any m k' M hN15 hM1 hM2 hkb W g tabW)
                have hput2 := hput
                have hodd := sq_odd M hM1
                have heven := sq_even M
                have hX2e : ahN m k' (2 * M - 1 + 1) = ahN m k' (2 * M - 1) + V m (k' - M) := by
                  have t : ahN m k' (2 * M - 1 + 1) = ahN m k' (2 * M - 1) + tN m k' (2 * M - 1) := rfl
                  rw [t, tN_in (by omega), show (2 * M - 1 + 1) / 2 = M from by omega]
                have p1 := Lib.hid (fun h1 h2 W ho hg hT => hput.out (2 * M - 1) h1 h2 W ho hg hT)
                have p2 := Lib.hid (fun h1 h2 W ho hg hT => hput.out (2 * M) h1 h2 W ho hg hT)
                rw [show (2 * M - 1 + 1) / 2 = M from by omega, hodd] at p1
                rw [show (2 * M + 1) / 2 = M from by omega, heven] at p2
                have hbb := ahN_le m k' (2 * M + 1) hN15 (by omega)
                have hmn := ahN_mono m k' (show 2 * M ≤ 2 * M + 1 from by omega)
                rw [show 2 * M - 1 + 1 = 2 * M from by omega] at p1 hX2e
                obtain ⟨X1, hX1⟩ : ∃ X1, X1 = ahN m k' (2 * M - 1) := ⟨_, rfl⟩
                obtain ⟨X2, hX2⟩ : ∃ X2, X2 = V m (k' - M) := ⟨_, rfl⟩
                rw [← hX1] at ca2 p1 hX2e hMi
                rw [← hX2] at hX2e
                rw [hX2e] at p1 p2 hmn
                have hXb : X1 + X2 ≤ 1000000000000000000 := by omega
                have hX2h := Lib.hid hX2
                have hMk : k' - M < 33 := by omega
                replace tabW := Lib.hid tabW
                replace ownW := Lib.hid ownW
                replace grW := Lib.hid grW
                replace hi2 := Lib.hid hi2
                have hi3 : i' ≤ 1000000000000000000 := by omega
                clear hX1 hX2 hX2e hmn hbb hput hput2 hW own1 gr1 tab1 hodd heven ca hlt hVb2
                with_reducible refine Calls.mono (ca2.out _ _ rfl rfl) ?_
                rintro e w4 ⟨rfl, d4, rfl⟩
                obtain ⟨W4, hW4⟩ : ∃ W4, W4 = W.drewN d4 := ⟨_, rfl⟩
                rw [← hW4]
                have tab4 : IsTab W4 g := by rw [hW4]; exact tabW.out.drewN _
                have own4 : W4.ownsRow base 3 1 (.slice (some ⟨b, 0, none⟩) n cap) n (XS.set j (.int .i64 0)) := by rw [hW4]; exact own_drewN ownW.out _
                have gr4 : wr.grownBy W4 (some b) := by rw [hW4]; exact grown_drewN grW.out _
                have c4 : W4.cell? ⟨b, j, none⟩ = some (.int .i64 0) := by
                  rw [own4.cellAt j (by omega)]
                  simp [hlen, hl]
                have f4 := own4.frozenAt j
                obtain ⟨own5, gr5⟩ := own4.stored j (.int .i64 (M : Int))
                have tab5 := tab4.far (p := ⟨b, j, none⟩) hgb.out (.int .i64 (M : Int))
                have c5 : (W4.setCell ⟨b, j, none⟩ (.int .i64 (M : Int))).cell? ⟨g, m * 67 + (k' - M), none⟩ = some (.int .u64 (X2 : Nat)) := by rw [hX2h.out]; exact tab5.v (by omega) hMk
                have gr5 := Lib.hid (grown_trans gr4 gr5)
                rw [List.set_set] at own5
                by_cases hB : i' - X1 < X2
                · have q1 := Lib.hid (p1.out hMi (by omega) _ own5 gr5.out tab5)
                  have hBi : (i' : Int) - (X1 : Int) < (X2 : Int) := by omega
                  have es : ((i' : Int) - (X1 : Int)) = ((i' - X1 : Nat) : Int) := by omega
                  have ek : ((k' : Int) - (M : Int)) = ((k' - M : Nat) : Int) := by omega
                  replace es := Lib.hid es
                  replace ek := Lib.hid ek
                  clear own5 tab5 gr5 own4 tab4 gr4 hW4 p1 p2
                  go_wp2_with fail
                  exact ⟨⟨j + 1, _, _, _, by omega, by go_num, by rw [ek.out], by rw [es.out], q1.out⟩, by simp [intOf]; omega⟩
                · obtain ⟨own6, gr6⟩ := own5.stored j (.int .i64 (-(M : Int)))
                  have tab6 := tab5.far (p := ⟨b, j, none⟩) hgb.out (.int .i64 (-(M : Int)))
                  rw [List.set_set] at own6
                  have q2 := Lib.hid (p2.out (by omega) hi2.out _ own6 (grown_trans gr5.out gr6) tab6)
                  have hBi : (X2 : Int) ≤ (i' : Int) - (X1 : Int) := by omega
                  have es : ((i' : Int) - (X1 : Int) - (X2 : Int)) = ((i' - (X1 + X2) : Nat) : Int) := by omega
                  have ek : ((k' : Int) - (M : Int)) = ((k' - M : Nat) : Int) := by omega
                  replace es := Lib.hid es
                  replace ek := Lib.hid ek
                  clear own5 tab5 gr5 own4 tab4 gr4 hW4 p1 p2 own6 gr6 tab6
                  go_wp2_with fail
                  trace "Z"
                  exact ⟨⟨j + 1, _, _, _, by omega, by go_num, by rw [ek.out], by rw [es.out], q2.out⟩, by simp [intOf]; omega⟩
            · as_aux_lemma =>
                have hi2h := Lib.hid hi2
                have hMih := Lib.hid hMi
                clear hi2 hMi ca1
                go_wp2_with fail
                trace "B2"
                have hi2 := hi2h.out
                have hMi := hMih.out
                obtain ⟨W, hW⟩ : ∃ W, W = w1.drewN d := ⟨_, rfl⟩
                rw [← hW]
                have tabW : IsTab W g := by rw [hW]; exact tab1.drewN _
                have ownW : W.ownsRow base 3 1 (.slice (some ⟨b, 0, none⟩) n cap) n (XS.set j (.int .i64 0)) := by rw [hW]; exact own_drewN own1 _
                have grW : wr.grownBy W (some b) := by rw [hW]; exact grown_drewN gr1 _
                have ca2 := Lib.hid (tahead_any m k' M hN15 hM1 hM2 hkb W g tabW)
                have hput2 := hput
                have hodd := sq_odd M hM1
                have heven := sq_even M
                have hX2e : ahN m k' (2 * M - 1 + 1) = ahN m k' (2 * M - 1) + V m (k' - M) := by
                  have t : ahN m k' (2 * M - 1 + 1) = ahN m k' (2 * M - 1) + tN m k' (2 * M - 1) := rfl
                  rw [t, tN_in (by omega), show (2 * M - 1 + 1) / 2 = M from by omega]
                have p1 := Lib.hid (fun h1 h2 W ho hg hT => hput.out (2 * M - 1) h1 h2 W ho hg hT)
                have p2 := Lib.hid (fun h1 h2 W ho hg hT => hput.out (2 * M) h1 h2 W ho hg hT)
                rw [show (2 * M - 1 + 1) / 2 = M from by omega, hodd] at p1
                rw [show (2 * M + 1) / 2 = M from by omega, heven] at p2
                have hbb := ahN_le m k' (2 * M + 1) hN15 (by omega)
                have hmn := ahN_mono m k' (show 2 * M ≤ 2 * M + 1 from by omega)
                rw [show 2 * M - 1 + 1 = 2 * M from by omega] at p1 hX2e
                obtain ⟨X1, hX1⟩ : ∃ X1, X1 = ahN m k' (2 * M - 1) := ⟨_, rfl⟩
                obtain ⟨X2, hX2⟩ : ∃ X2, X2 = V m (k' - M) := ⟨_, rfl⟩
                rw [← hX1] at ca2 p1 hX2e hMi
                rw [← hX2] at hX2e
                rw [hX2e] at p1 p2 hmn
                have hXb : X1 + X2 ≤ 1000000000000000000 := by omega
                have hX2h := Lib.hid hX2
                have hMk : k' - M < 33 := by omega
                replace tabW := Lib.hid tabW
                replace ownW := Lib.hid ownW
                replace grW := Lib.hid grW
                replace hi2 := Lib.hid hi2
                have hi3 : i' ≤ 1000000000000000000 := by omega
                clear hX1 hX2 hX2e hmn hbb hput hput2 hW own1 gr1 tab1 hodd heven ca hlt hVb2
                with_reducible refine Calls.mono (ca2.out _ _ rfl rfl) ?_
                rintro e w4 ⟨rfl, d4, rfl⟩
                obtain ⟨W4, hW4⟩ : ∃ W4, W4 = W.drewN d4 := ⟨_, rfl⟩
                rw [← hW4]
                have tab4 : IsTab W4 g := by rw [hW4]; exact tabW.out.drewN _
                have own4 : W4.ownsRow base 3 1 (.slice (some ⟨b, 0, none⟩) n cap) n (XS.set j (.int .i64 0)) := by rw [hW4]; exact own_drewN ownW.out _
                have gr4 : wr.grownBy W4 (some b) := by rw [hW4]; exact grown_drewN grW.out _
                have c4 : W4.cell? ⟨b, j, none⟩ = some (.int .i64 0) := by
                  rw [own4.cellAt j (by omega)]
                  simp [hlen, hl]
                have f4 := own4.frozenAt j
                obtain ⟨own5, gr5⟩ := own4.stored j (.int .i64 (M : Int))
                have tab5 := tab4.far (p := ⟨b, j, none⟩) hgb.out (.int .i64 (M : Int))
                have c5 : (W4.setCell ⟨b, j, none⟩ (.int .i64 (M : Int))).cell? ⟨g, m * 67 + (k' - M), none⟩ = some (.int .u64 (X2 : Nat)) := by rw [hX2h.out]; exact tab5.v (by omega) hMk
                have gr5 := Lib.hid (grown_trans gr4 gr5)
                rw [List.set_set] at own5
                by_cases hB : i' - X1 < X2
                · have q1 := Lib.hid (p1.out hMi (by omega) _ own5 gr5.out tab5)
                  have hBi : (i' : Int) - (X1 : Int) < (X2 : Int) := by omega
                  have es : ((i' : Int) - (X1 : Int)) = ((i' - X1 : Nat) : Int) := by omega
                  have ek : ((k' : Int) - (M : Int)) = ((k' - M : Nat) : Int) := by omega
                  replace es := Lib.hid es
                  replace ek := Lib.hid ek
                  clear own5 tab5 gr5 own4 tab4 gr4 hW4 p1 p2
                  go_wp2_with fail
                  exact ⟨⟨j + 1, _, _, _, by omega, by go_num, by rw [ek.out], by rw [es.out], q1.out⟩, by simp [intOf]; omega⟩
                · obtain ⟨own6, gr6⟩ := own5.stored j (.int .i64 (-(M : Int)))
                  have tab6 := tab5.far (p := ⟨b, j, none⟩) hgb.out (.int .i64 (-(M : Int)))
                  rw [List.set_set] at own6
                  have q2 := Lib.hid (p2.out (by omega) hi2.out _ own6 (grown_trans gr5.out gr6) tab6)
                  have hBi : (X2 : Int) ≤ (i' : Int) - (X1 : Int) := by omega
                  have es : ((i' : Int) - (X1 : Int) - (X2 : Int)) = ((i' - (X1 + X2) : Nat) : Int) := by omega
                  have ek : ((k' : Int) - (M : Int)) = ((k' - M : Nat) : Int) := by omega
                  replace es := Lib.hid es
                  replace ek := Lib.hid ek
                  clear own5 tab5 gr5 own4 tab4 gr4 hW4 p1 p2 own6 gr6 tab6
                  go_wp2_with fail
                  trace "Z"
                  exact ⟨⟨j + 1, _, _, _, by omega, by go_num, by rw [ek.out], by rw [es.out], q2.out⟩, by simp [intOf]; omega⟩
    · obtain rfl : j = n := by omega
      have hall : P = unr j k i := by
        have := hR.all
        rw [Nat.sub_self] at this
        rw [← this]
        show P = P ++ []
        simp
      have hown := hR.own
      rw [List.drop_eq_nil_of_le (by rw [hx0.out]; omega), List.append_nil, hall] at hown
      have ht := Lib.hid hR.tab
      have hg := Lib.hid hR.grown
      replace hown := Lib.hid hown
      clear hR hall
      go_wp2_with fail
      go_ret
      exact ⟨rfl, hown.out, ht.out, hg.out⟩

set_option maxHeartbeats 4000000 in
theorem into_zero (k i : Nat) (hk : k ≤ 32) (hi : i < V 0 k) (A : Option Addr) (cap : Nat) (w : World) (g : Nat) (h : IsTab w g) :
    Calls Try.prog 34 #[.pointer (some ⟨g, 0, none⟩), .slice A 0 cap, .int .i64 k, .int .u64 i] w fun e w' => e = .returned (.bool true) ∧ w = w' := by
  have cv := Lib.hid (fun (n' : Int) (e : n' = 0) => (tabV_any n' k w g h))
  have hV : ∀ n' : Int, n' = 0 → VZ n' k = ((V 0 k : Nat) : Int) := fun n' e => VZ_at2 (by omega) hk _ _ (by simpa using e) rfl
  replace hV := Lib.hid hV
  have hVb := V_lt 0 (by omega) k (by omega)
  obtain ⟨T, hT⟩ : ∃ T, T = V 0 k := ⟨_, rfl⟩
  rw [← hT] at hV hi hVb
  have hTi : decide (T ≤ i) = false := by simp; omega
  clear h hT
  go_enter Try.func34, Try.ntmps34
  go_wp2_with fail
  with_reducible refine Calls.mono (cv.out _ (by rfl)) ?_
  rintro e w1 ⟨rfl, rfl⟩
  rw [hV.out _ rfl]
  go_wp2_with fail
  go_loop [21] (fun s => s = .int .i64 0) (fun _ => 0)
  case atStart => rfl
  case round =>
    obtain rfl := hrel
    go_wp2_with fail
    go_ret
    exact ⟨rfl, rfl⟩
end Go.Proofs.Ytegjkognlfemgaa
