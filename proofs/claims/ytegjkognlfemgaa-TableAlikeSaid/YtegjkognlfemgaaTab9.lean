/- The law TableAlike: its walk. -/
import Derived.Test.YtegjkognlfemgaaTab7
import Derived.Test.YtegjkognlfemgaaRank6
import Derived.OpenShut
import Derived.Deep.Slices
import Derived.Lib.SmallJoins
import Derived.ChangeSlices
namespace Go.Proofs.Ytegjkognlfemgaa
open Go.RowKit
open Go.ChangeShapes Go.WideShapes Go.Joins

/-- A slice of 64-bit numbers, as it lies in memory. -/
def IsU (w : World) (v : Value) (L : List Int) : Prop :=
  ∃ A cap, v = .slice A L.length cap ∧ ∀ j, j < L.length → ∃ b off, A = some ⟨b, off, none⟩ ∧ L.length ≤ cap ∧ b < w.heap.size ∧ w.cell? ⟨b, off + j, none⟩ = some (.int .u64 (L.getD j 0)) ∧ 0 ≤ L.getD j 0 ∧ L.getD j 0 ≤ 18446744073709551615
theorem open_u64s {H : Type} {enc : TypeId × Value → H} {w : World} {base b0 : Nat} {spare : Nat → Bool} {held : Bool} {r : Reach} {v : Value} {d : DataW H} {p : List MemPlace}
    (h : DataW.Trod enc Try.prog w base spare held 37 v d p) (hv : Value.okWide Try.prog w r b0 37 v) : ∃ L, IsU w v L ∧ L.length ≤ 9223372036854775807 := by
  obtain ⟨a, len, cap, rfl⟩ := okWide_slice Try.underlying37 hv
  obtain ⟨fuel, hf⟩ := h
  rcases open_ints Try.underlying37 Try.underlying23 (by kernel_rfl) hf with ⟨hcs, _⟩ | ⟨x, l, c, zs, hcs, _, hl, hm, hz, _, hcell, hwz⟩
  · simp [Value.cells] at hcs
    obtain ⟨rfl, rfl, rfl⟩ := hcs
    exact ⟨[], ⟨none, 0, rfl, fun j hj => by simp at hj⟩, by simp⟩
  · simp [Value.cells] at hcs
    obtain ⟨rfl, rfl, rfl⟩ := hcs
    have hle : len ≤ zs.length := by rw [hz]; split <;> omega
    have hlen : (zs.take len).length = len := by rw [List.length_take]; omega
    unfold maxLen at hm
    refine ⟨zs.take len, ⟨some x, cap, by rw [hlen], fun j hj => ?_⟩, by omega⟩
    rw [hlen] at hj ⊢
    have hc := hcell j (by omega)
    have hspot : x.spot = none := by simpa [Addr.add] using World.cell?_spot (hcell 0 (by omega))
    obtain ⟨b, off, s⟩ := x
    simp only at hspot
    subst hspot
    rw [add_plain] at hc
    have hx : j < zs.length := by omega
    have hg : (zs.take len).getD j 0 = zs.getD j 0 := by simp [hj, hx]
    rw [hg]
    refine ⟨b, off, rfl, hl, ?_, hc, bounds_u64 (hwz (zs.getD j 0) (by simp [hx]))⟩
    rcases Nat.lt_or_ge b w.heap.size with hb | hb
    · exact hb
    · simp [World.cell?, Array.getElem?_eq_none hb] at hc

/-- What the rounds keep. -/
structure AlR (w : World) (B g gb gm bx A : Nat) (W : World) : Prop where
  tab : IsTab W g
  book : BookAt W gb gm
  own : ∃ xs, xs.length = A ∧ W.ownsRow B 3 1 (.slice (some ⟨bx, 0, none⟩) A A) A xs
  below : Below w.heap.size w W
  n1 : g ≠ bx
  n2 : g ≠ gm
  n3 : bx ≠ gm
  n4 : bx ≠ gb
  l1 : w.heap.size ≤ bx
  l2 : w.heap.size ≤ gm
  l3 : bx < W.heap.size
theorem AlR.asked {w W W1 : World} {B g gb gm bx A : Nat} (h : AlR w B g gb gm bx A W) (hb : BookAt W1 gb gm) (hg : W.grownBy W1 (some gm)) : AlR w B g gb gm bx A W1 := by
  obtain ⟨t, b, ⟨xs, hx, o⟩, bl, n1, n2, n3, n4, l1, l2, l3⟩ := h
  exact ⟨t.grown hg (by intro e; injection e with e; exact n2 e.symm), hb, ⟨xs, hx, o.kept hg (.inr (by intro e; injection e with e; exact n3 e))⟩, Below.trans bl (grown_old hg l2 bl.size), n1, n2, n3, n4, l1, l2, Nat.lt_of_lt_of_le l3 hg.size⟩
theorem AlR.wrote {w W W1 : World} {B g gb gm bx A : Nat} (h : AlR w B g gb gm bx A W) {xs : List Value} (hx : xs.length = A) (ho : W1.ownsRow B 3 1 (.slice (some ⟨bx, 0, none⟩) A A) A xs) (ht : IsTab W1 g) (hg : W.grownBy W1 (some bx)) : AlR w B g gb gm bx A W1 := by
  obtain ⟨t, b, _, bl, n1, n2, n3, n4, l1, l2, l3⟩ := h
  exact ⟨ht, b.kept hg (by intro e; injection e with e; exact n4 e) (by intro e; injection e with e; exact n3 e), ⟨xs, hx, ho⟩, Below.trans bl (grown_old hg l1 bl.size), n1, n2, n3, n4, l1, l2, Nat.lt_of_lt_of_le l3 hg.size⟩
theorem AlR.drewN {w W : World} {B g gb gm bx A : Nat} (h : AlR w B g gb gm bx A W) (d : Nat) : AlR w B g gb gm bx A (W.drewN d) := by
  obtain ⟨t, b, o, bl, n1, n2, n3, n4, l1, l2, l3⟩ := h
  exact ⟨t.drewN d, b.drewN d, o, below_drewN bl d, n1, n2, n3, n4, l1, l2, l3⟩
theorem V_posA : ∀ n, n < 16 → ∀ k, k < 33 → 0 < V (n + 1) k := by decide +kernel

set_option maxRecDepth 100000 in
set_option maxHeartbeats 16000000 in
theorem tableAlike_walk (n k : Int) (L : List Int) (hlen : L.length ≤ 9223372036854775807) (v : Value) (hn : 0 ≤ n ∧ n ≤ 255) (hk : 0 ≤ k ∧ k ≤ 255) (w : World) (hv : IsU w v L) :
    Calls Try.prog 16 #[.int .u8 n, .int .u8 k, v] w fun e w' => e = .returned (.bool true) ∧ Below w.heap.size w w' := by
  obtain ⟨AL, capL, rfl, hat⟩ := hv
  replace hat := Lib.hid hat
  obtain ⟨len, hlen2⟩ : ∃ len, len = L.length := ⟨_, rfl⟩
  rw [← hlen2] at hlen ⊢
  replace hlen2 := Lib.hid hlen2
  by_cases h60 : 60 < len
  · go_enter Try.func16, Try.ntmps16
    go_wp2_with fail
    refine (awake12 _).mono ?_
    rintro e w0 ⟨rfl, b0⟩
    replace b0 := Lib.hid b0
    go_wp2_with fail
    go_ret
    exact ⟨rfl, b0.out⟩
  · obtain ⟨x, hx, x1, x2⟩ := u8_rem n 16 hn.1 (by omega)
    obtain ⟨y, hy, y1, y2⟩ := u8_rem k 33 hk.1 (by omega)
    obtain ⟨A, hA⟩ : ∃ A : Nat, 1 + x = (A : Int) := ⟨(1 + x).toNat, by omega⟩
    obtain ⟨C, rfl⟩ := Int.eq_ofNat_of_zero_le y1
    have hA1 : 1 ≤ A := by omega
    have hA2 : A ≤ 16 := by omega
    have hC2 : C ≤ 32 := by omega
    have hVp : 0 < V A C := by
      obtain ⟨a, rfl⟩ : ∃ a, A = a + 1 := ⟨A - 1, by omega⟩
      exact V_posA a (by omega) C (by omega)
    have hVb := V_lt A (by omega) C (by omega)
    have hVZ : VZ (A : Int) (C : Int) = ((V A C : Nat) : Int) := VZ_at2 hA2 hC2 _ _ rfl rfl
    obtain ⟨T, hT⟩ : ∃ T, T = V A C := ⟨_, rfl⟩
    rw [← hT] at hVp hVb hVZ
    replace hT := Lib.hid hT
    replace hVZ := Lib.hid hVZ
    have hmk : ∀ w, (Instr.makeSlice 40 (.int .i64 A) (.int .i64 A)).run Try.prog w = .ok (.slice (some ⟨w.heap.size, 0, none⟩) A A) (w.alloc (.cells (Array.replicate A (.int .i64 0)) 3)) := fun w => mk40 w A hA2
    obtain ⟨cs, hcs⟩ : ∃ cs : Array Value, cs = Array.replicate A (.int .i64 0) := ⟨_, rfl⟩
    rw [← hcs] at hmk
    replace hcs := Lib.hid hcs
    have hT0 : (T == 0) = false := by simp; omega
    have hT0i : ((T : Int) == 0) = false := by simp; omega
    go_enter Try.func16, Try.ntmps16
    go_wp2_with fail
    refine (awake12 _).mono ?_
    rintro e w0 ⟨rfl, b0⟩
    replace b0 := Lib.hid b0
    go_wp2_with fail
    refine (tabNew_any _).mono ?_
    rintro e w1 ⟨rfl, ht, hb⟩
    have hglt := ht.lt
    have hb1 := Lib.hid (Below.trans b0.out (hb.mono b0.out.size))
    go_wp2_with fail
    refine (new_any _).mono ?_
    rintro e w2 ⟨rfl, f2⟩
    have ht2 := ht.below f2.below
    have hb2 := Below.trans hb1.out (f2.below.mono hb1.out.size)
    have hlt2 := f2.at_.lt
    have hsz : w.heap.size ≤ w1.heap.size := hb1.out.size
    have hcv := Lib.hid (tabV_any A C w2 w0.heap.size ht2)
    have hmkA : ∀ w3, BookAt w3 (w1.heap.size + 1) w1.heap.size → w2.grownBy w3 (some w1.heap.size) → AlR w w3.heap.size w0.heap.size (w1.heap.size + 1) w1.heap.size w3.heap.size A (w3.alloc (.cells cs 3)) := fun w3 b3 g3 => by
      have hown : (w3.alloc (.cells cs 3)).ownsRow w3.heap.size 3 1 (.slice (some ⟨w3.heap.size, 0, none⟩) A A) A (List.replicate A (.int .i64 0)) := by rw [hcs.out]; exact own_made w3 A (by unfold maxLen; omega)
      have hb3 : Below w.heap.size w w3 := Below.trans hb2 (grown_old g3 hsz hb2.size)
      have hs3 := g3.size
      exact ⟨(ht2.grown g3 (by intro e; injection e with e; omega)).below (belowAlloc _ _), b3.alloc _, ⟨_, by simp, hown⟩, hb3.alloc hb3.size _, by omega, by omega, by omega, by omega, by omega, by omega, by simp⟩
    replace hmkA := Lib.hid hmkA
    have hcb := Lib.hid f2.at_
    clear ht ht2 hb hb2 f2 hlt2 hglt hsz
    go_wp2_with fail
    with_reducible refine Calls.mono hcv.out ?_
    rintro e w3 ⟨rfl, rfl⟩
    rw [hVZ.out]
    go_wp2_with fail
    with_reducible refine Calls.mono (hcb.out.ask _ _) ?_
    rintro e w3 ⟨rfl, b3, g3⟩
    rw [hVZ.out]
    have hR0 := Lib.hid (hmkA.out w3 b3 g3)
    clear b3 g3 hmkA hcb hcv
    have hmk3 := hmk w3
    clear hmk
    obtain ⟨bx, hbx⟩ : ∃ bx, w3.heap.size = bx := ⟨_, rfl⟩
    rw [hbx] at hR0 hmk3
    go_wp2_with fail
    clear hmk3
    replace hbx := Lib.hid hbx
    go_loopw [53] (fun s wr => ∃ j : Nat, j ≤ len ∧ s = .int .i64 j ∧ AlR w bx w0.heap.size (w1.heap.size + 1) w1.heap.size bx A wr) (fun s _ => len - (intOf s).toNat)
    case atStart => exact ⟨0, by omega, rfl, hR0.out⟩
    case round =>
      clear hR0
      obtain ⟨j, hj, rfl, hR⟩ := hrel
      by_cases hl : j < len
      · as_aux_lemma =>
          obtain ⟨b, off, rfl, hcap, hbl, hcell, hu0, hu1⟩ := hat.out j (by rw [← hlen2.out]; exact hl)
          have hcap2 : len ≤ capL := by rw [hlen2.out]; exact hcap
          have hc : wr.cell? ⟨b, off + j, none⟩ = some (.int .u64 (L.getD j 0)) := (hR.below.cell (p := ⟨b, off + j, none⟩) hbl).trans hcell
          obtain ⟨q, hq⟩ : ∃ q, q = L.getD j 0 := ⟨_, rfl⟩
          rw [← hq] at hc hu0 hu1
          obtain ⟨J, hJ⟩ : ∃ J : Nat, q % (T : Int) = (J : Int) := ⟨(q % (T : Int)).toNat, by have := Int.emod_nonneg q (show (T : Int) ≠ 0 by omega); omega⟩
          have hJT : J < T := by have := Int.emod_lt_of_pos q (show (0 : Int) < (T : Int) by omega); omega
          have hJV : J < V A C := by rw [← hT.out]; exact hJT
          obtain ⟨hr, hz⟩ : right (unr A C J) = true ∧ (∀ x ∈ unr A C J, Num x) := by
            obtain ⟨h1, h2, h3⟩ := unr_spec A C J hA2 hC2 hJV
            refine ⟨by unfold right; simp only [decide_eq_true_eq]; omega, fun x hx => ?_⟩
            have := unr_small0 hA2 hC2 hJV x hx
            unfold Num
            omega
          obtain ⟨s1, s2, s3⟩ := unr_spec A C J hA2 hC2 hJV
          have cU := Lib.hid (fun w gb gm hF => unrank_yes A C J hA2 hC2 hJV w gb gm hF)
          have cI := Lib.hid (fun b xs0 hx0 w g h hgb ho k' i' ek ei => intoB A C J hA2 hA1 hC2 hJV b A bx xs0 hx0 w g h hgb (Nat.le_refl _) ho k' i' ek ei)
          have cS := Lib.hid (fun v v2 w h1 h2 => ints_any (unr A C J) (unr A C J) (by omega) (by omega) v v2 w h1 h2)
          have hsame : same (unr A C J) (unr A C J) = true := by unfold same; simp
          rw [hsame] at cS
          have cR := Lib.hid (fun v w gb gm h hF => rank_yes (unr A C J) hr hz v w gb gm h hF)
          have cT := Lib.hid (fun v w g h1 h2 => tabRank_yes (unr A C J) hr v w g h1 h2)
          rw [s3] at cR cT
          obtain ⟨X, hX⟩ : ∃ X, X = unr A C J := ⟨_, rfl⟩
          rw [← hX] at cU cI cS cR cT s1
          replace s1 := Lib.hid s1
          replace hR := Lib.hid hR
          have hJb : J < 1000000000000000000 := by omega
          clear hq hJV hr hz s2 s3 hsame hX hcell hcap hbl
          go_wp2_with fail
          with_reducible refine Calls.mono (cU.out _ _ _ hR.out.book) ?_
          rintro e w4 ⟨vy, rfl, hown4, b4, g4⟩
          have hR4 := Lib.hid (hR.out.asked b4 g4)
          have hlv := Lib.hid hR.out.l3
          replace hown4 := Lib.hid hown4
          clear b4 g4 hR
          go_wp2_with fail
          obtain ⟨xs, hxl, hox⟩ := hR4.out.own
          with_reducible refine Calls.mono (cI.out _ _ hxl _ _ hR4.out.tab hR4.out.n1 hox _ _ rfl rfl) ?_
          rintro e w5 ⟨rfl, hox5, ht5, g5⟩
          have hR5 := Lib.hid (hR4.out.wrote (by simp; exact s1.out) hox5 ht5 g5)
          have hy5 := hown4.out.kept g5 (by
            rcases hvb : vy.ownBlock with _ | kk
            · exact .inl rfl
            · have := (hown4.out.lt kk hvb).1
              exact .inr (by intro e; injection e with e; have := hlv.out; omega))
          have vx := Lib.hid (own_vec s1.out.symm hox5)
          have vy5 := Lib.hid (own_vec s1.out.symm hy5)
          clear hxl hox hox5 ht5 g5 hy5 hown4 hR4 hlv
          go_wp2_with fail
          with_reducible refine Calls.mono (cS.out _ _ _ vx.out vy5.out) ?_
          rintro e w6 ⟨rfl, d6, rfl⟩
          have hR6 := Lib.hid (hR5.out.drewN d6)
          have vx6 := Lib.hid (vx.out.below (below_drewN (Below.refl _ _) d6))
          clear hR5 vx vy5
          go_wp2_with fail
          with_reducible refine Calls.mono (cR.out _ _ _ _ vx6.out hR6.out.book) ?_
          rintro e w7 ⟨rfl, b7, g7⟩
          have vx7 := Lib.hid (vx6.out.grown hR6.out.book g7)
          have hR7 := Lib.hid (hR6.out.asked b7 g7)
          clear b7 g7 vx6 hR6
          go_wp2_with fail
          with_reducible refine Calls.mono (cT.out _ _ _ vx7.out hR7.out.tab) ?_
          rintro e w8 ⟨rfl, d8, rfl⟩
          have hR8 := Lib.hid (hR7.out.drewN d8)
          clear hR7 vx7
          go_wp2_with fail
          exact ⟨⟨j + 1, by omega, by go_num, hR8.out⟩, by simp [intOf]; omega⟩
      · obtain rfl : j = len := by omega
        have hbl := Lib.hid hR.below
        clear hR
        go_wp2_with fail
        go_ret
        exact ⟨rfl, hbl.out⟩
end Go.Proofs.Ytegjkognlfemgaa
