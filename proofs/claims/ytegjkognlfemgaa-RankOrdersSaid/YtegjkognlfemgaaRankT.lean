/- The law RankTurns: its walk. -/
import Derived.Test.YtegjkognlfemgaaRank9
import Derived.Laws.OwnMore
import Derived.RegionTactic
namespace Go.Proofs.Ytegjkognlfemgaa
open Go.RowKit

theorem VZ_at {n k : Nat} (hn : n ≤ 16) (hk : k ≤ 32) (a b : Int) (ha : a = n) (hb : b = k) : VZ a b = ((V n k : Nat) : Int) := by
  subst ha hb
  rw [VZ_nat ⟨by omega, by omega, by omega, by omega⟩, Int.toNat_natCast, Int.toNat_natCast]
theorem V_posn : ∀ n, n < 16 → ∀ k, k < 33 → 0 < V (n + 1) k := by decide +kernel
theorem ahN_zero (n k : Nat) : ahN n k 0 = 0 := rfl
theorem pl_zero : pl 0 = 0 := rfl

/-- A vector whose first number that isn't 0 is turned. -/
theorem turned : ∀ (zs : List Int) (j : Nat), j < zs.length → (∀ i, i < j → zs.getD i 0 = 0) →
    (zs.set j (-(zs.getD j 0))).length = zs.length ∧ ms (zs.set j (-(zs.getD j 0))) = ms zs ∧
    (0 < zs.getD j 0 → rkN (zs.set j (-(zs.getD j 0))) = rkN zs + V (zs.length - 1 - j) (ms zs - (zs.getD j 0).natAbs)) ∧
    (zs.getD j 0 < 0 → rkN zs = rkN (zs.set j (-(zs.getD j 0))) + V (zs.length - 1 - j) (ms zs - (zs.getD j 0).natAbs))
  | [], j, h, _ => by simp at h
  | x :: r, 0, _, _ => by
    have e1 : (x :: r).getD 0 0 = x := rfl
    have e2 : (x :: r).set 0 (-x) = -x :: r := rfl
    rw [e1, e2]
    have m : ms (-x :: r) = ms (x :: r) := by simp [ms]
    have m1 : ms (x :: r) = x.natAbs + ms r := rfl
    have k1 : rkN (x :: r) = ahN r.length (ms (x :: r)) (pl x) + rkN r := rfl
    have k2 : rkN (-x :: r) = ahN r.length (ms (x :: r)) (pl (-x)) + rkN r := by rw [← m]; rfl
    have l : (x :: r).length - 1 - 0 = r.length := rfl
    rw [l]
    refine ⟨rfl, m, fun hx => ?_, fun hx => ?_⟩
    · have p : pl (-x) = pl x + 1 := by unfold pl; (repeat' split) <;> omega
      have t : ahN r.length (ms (x :: r)) (pl x + 1) = ahN r.length (ms (x :: r)) (pl x) + tN r.length (ms (x :: r)) (pl x) := rfl
      rw [tN_rest] at t
      rw [k1, k2, p, t, show ms (x :: r) - x.natAbs = ms r from by omega]
      omega
    · have p : pl x = pl (-x) + 1 := by unfold pl; (repeat' split) <;> omega
      have t : ahN r.length (ms (-x :: r)) (pl (-x) + 1) = ahN r.length (ms (-x :: r)) (pl (-x)) + tN r.length (ms (-x :: r)) (pl (-x)) := rfl
      rw [tN_rest, m] at t
      rw [k1, k2, p, t, show ms (x :: r) - x.natAbs = ms r from by omega]
      omega
  | x :: r, j + 1, h, hz => by
    have hx : x = 0 := hz 0 (by omega)
    subst hx
    obtain ⟨h1, h2, h3, h4⟩ := turned r j (by simpa using h) (fun i hi => hz (i + 1) (by omega))
    have e1 : (0 :: r : List Int).getD (j + 1) 0 = r.getD j 0 := rfl
    have e2 : (0 :: r : List Int).set (j + 1) (-(r.getD j 0)) = 0 :: r.set j (-(r.getD j 0)) := rfl
    have z : ∀ s : List Int, rkN (0 :: s) = rkN s := fun s => by
      show ahN s.length (ms (0 :: s)) (pl 0) + rkN s = rkN s
      rw [pl_zero, ahN_zero]
      omega
    have m : ∀ s : List Int, ms (0 :: s) = ms s := fun s => by simp [ms]
    rw [e1, e2, z, z, m, m, show (0 :: r : List Int).length - 1 - (j + 1) = r.length - 1 - j from by simp; omega]
    exact ⟨by simp [h1], h2, h3, h4⟩
theorem getD_set_num (zs : List Int) (j : Nat) (h : ∀ x ∈ zs, -32 ≤ x ∧ x ≤ 32) (v : Int) (hv : -32 ≤ v ∧ v ≤ 32) : ∀ x ∈ zs.set j v, -32 ≤ x ∧ x ≤ 32 := by
  intro x hx
  rcases List.mem_or_eq_of_mem_set hx with h1 | rfl
  · exact h x h1
  · exact hv
theorem first_there : ∀ (zs : List Int), 0 < ms zs → (∀ i, i < zs.length - 1 → zs.getD i 0 = 0) → zs.getD (zs.length - 1) 0 ≠ 0
  | [], h, _ => by simp [ms] at h
  | [x], h, _ => by
    simp [ms] at h
    simpa using h
  | x :: y :: r, h, hz => by
    have hx : x = 0 := hz 0 (by simp)
    subst hx
    have := first_there (y :: r) (by simpa [ms] using h) (fun i hi => by
      have := hz (i + 1) (by simp at hi ⊢; omega)
      exact this)
    exact this
theorem unr_small {n k i : Nat} (hn : n ≤ 16) (hk : k ≤ 32) (hi : i < V n k) : ∀ x ∈ unr n k i, -32 ≤ x ∧ x ≤ 32 := by
  obtain ⟨h1, h2, h3⟩ := unr_spec n k i hn hk hi
  intro x hx
  obtain ⟨j, hj⟩ := List.getElem?_of_mem hx
  have hm := ms_mem (unr n k i) j
  have : (unr n k i).getD j 0 = x := by rw [List.getD_eq_getElem?_getD, hj]; rfl
  rw [this] at hm
  omega

/-- What is wanted of the vector and of the turned one. -/
structure Turn (zs ys : List Int) (a c j : Nat) (v : Int) (T : Nat) : Prop where
  la : zs.length = a
  lb : ys.length = a
  rz : right zs = true
  ry : right ys = true
  nz : ∀ x ∈ zs, Num x
  ny : ∀ x ∈ ys, Num x
  my : ms ys = c
  up : 0 < v → rkN ys = rkN zs + T
  down : v < 0 → rkN zs = rkN ys + T
  vb : v.natAbs ≤ c
theorem turn_of {a c i j : Nat} (ha : a ≤ 16) (hc : c ≤ 32) (hi : i < V a c) (hj : j < a) (hz : ∀ i', i' < j → (unr a c i).getD i' 0 = 0) :
    Turn (unr a c i) ((unr a c i).set j (-((unr a c i).getD j 0))) a c j ((unr a c i).getD j 0) (V (a - 1 - j) (c - ((unr a c i).getD j 0).natAbs)) := by
  obtain ⟨h1, h2, h3⟩ := unr_spec a c i ha hc hi
  have hs := unr_small ha hc hi
  have hmem := ms_mem (unr a c i) j
  generalize unr a c i = zs at *
  obtain ⟨t1, t2, t3, t4⟩ := turned zs j (by omega) hz
  rw [h1, h2] at t3 t4
  have hv : -32 ≤ -(zs.getD j 0) ∧ -(zs.getD j 0) ≤ 32 := by omega
  have hs2 := getD_set_num zs j hs _ hv
  refine ⟨h1, by omega, ?_, ?_, ?_, ?_, by omega, t3, t4, by omega⟩
  · unfold right; simp only [decide_eq_true_eq]; omega
  · unfold right; simp only [decide_eq_true_eq]; omega
  · intro x hx; have := hs x hx; unfold Num; omega
  · intro x hx; have := hs2 x hx; unfold Num; omega

/-- An empty slice of the call's own. -/
theorem own_empty (w : World) (base : Nat) (hb : base ≤ w.heap.size) : (w.alloc (.cells #[] 3)).ownsRow base 3 1 (.slice (some ⟨w.heap.size, 0, none⟩) 0 0) 0 [] :=
  ⟨rfl, .inr ⟨w.heap.size, 0, #[], rfl, hb, heap_alloc_new w _, Nat.le_refl _, by unfold maxLen; omega, rfl, rfl⟩⟩

theorem unrankB (n k i : Nat) (hn : n ≤ 16) (hk : k ≤ 32) (hi : i < V n k) (w : World) (gb gm : Nat) (hF : BookAt w gb gm) (n' k' i' : Int) (e1 : n' = n) (e2 : k' = k) (e3 : i' = i) :
    Calls Try.prog 30 #[.pointer (some ⟨gb, 0, none⟩), .int .i64 n', .int .i64 k', .int .u64 i'] w fun e w' => ∃ v, e = .returned (.tuple #[v, .int .i64 0]) ∧ w'.ownsRow w.heap.size 3 1 v n ((unr n k i).map (Value.int .i64)) ∧ BookAt w' gb gm ∧ w.grownBy w' (some gm) := by
  subst e1 e2 e3
  exact unrank_yes n k i hn hk hi w gb gm hF
theorem own_capv {w : World} {base : Nat} {g cap n : Nat} {xs : List Value} (hp : 0 < n) (h : w.ownsRow base 3 1 (.slice (some ⟨g, 0, none⟩) n cap) n xs) : n ≤ cap := by
  rcases h.2 with ⟨_, h0⟩ | ⟨g', cap', cur, he, _, _, h1, _⟩
  · omega
  · injection he with _ _ e3
    omega
theorem own_at {w : World} {base : Nat} {g cap n : Nat} {zs : List Int} (hn : n = zs.length) (h : w.ownsRow base 3 1 (.slice (some ⟨g, 0, none⟩) n cap) n (zs.map (Value.int .i64))) {j : Nat} (hj : j < n) : w.cell? ⟨g, j, none⟩ = some (.int .i64 (zs.getD j 0)) := by
  rw [h.cellAt j (by omega)]
  simp [show j < zs.length by omega]

theorem BookAt.askV {w : World} {gb gm : Nat} (h : BookAt w gb gm) (n k : Nat) (hn : n ≤ 16) (hk : k ≤ 32) (a b : Int) (ha : a = n) (hb : b = k) :
    Calls Try.prog 19 #[.pointer (some ⟨gb, 0, none⟩), .int .i64 a, .int .i64 b] w fun e w' => e = .returned (.int .u64 (V n k : Nat)) ∧ BookAt w' gb gm ∧ w.grownBy w' (some gm) := by
  rw [← VZ_at hn hk a b ha hb]
  exact h.ask _ _
theorem IsVec.at0 {w : World} {g n cap : Nat} {zs : List Int} (h : IsVec w (.slice (some ⟨g, 0, none⟩) n cap) zs) {j : Nat} (hj : j < zs.length) : w.cell? ⟨g, j, none⟩ = some (.int .i64 (zs.getD j 0)) := by
  obtain ⟨A, cap', he, hat⟩ := h.form
  obtain ⟨b, off, rfl, _, _, hc⟩ := hat j hj
  injection he with he1 _ _
  injection he1 with he1
  injection he1 with e1 e2 _
  subst e1 e2
  rwa [Nat.zero_add] at hc

set_option maxRecDepth 100000 in
set_option maxHeartbeats 16000000 in
theorem rankTurns_walk (n k i : Int) (hn : 0 ≤ n ∧ n ≤ 255) (hk : 0 ≤ k ∧ k ≤ 255) (hi : 0 ≤ i ∧ i ≤ 18446744073709551615) (w : World) :
    Calls Try.prog 10 #[.int .u8 n, .int .u8 k, .int .u64 i] w fun e w' => e = .returned (.bool true) ∧ Below w.heap.size w w' := by
  obtain ⟨x, hx, x1, x2⟩ := u8_rem n 16 hn.1 (by omega)
  obtain ⟨y, hy, y1, y2⟩ := u8_rem k 32 hk.1 (by omega)
  obtain ⟨a, rfl⟩ := Int.eq_ofNat_of_zero_le x1
  obtain ⟨c, rfl⟩ := Int.eq_ofNat_of_zero_le y1
  have hVp := V_posn a (by omega) (c + 1) (by omega)
  have hVb := V_lt (a + 1) (by omega) (c + 1) (by omega)
  have hVZ : VZ (1 + (a : Int)) (1 + (c : Int)) = ((V (a + 1) (c + 1) : Nat) : Int) := VZ_at (by omega) (by omega) _ _ (by omega) (by omega)
  obtain ⟨T, hT⟩ : ∃ T, T = V (a + 1) (c + 1) := ⟨_, rfl⟩
  rw [← hT] at hVp hVb hVZ
  have hT2 := Lib.hid hT
  replace hVZ := Lib.hid hVZ
  clear hT
  obtain ⟨I, hI⟩ : ∃ I : Nat, (I : Int) = i % (T : Int) := ⟨(i % (T : Int)).toNat, by have := Int.emod_nonneg i (show (T : Int) ≠ 0 by omega); omega⟩
  have hIT : I < T := by have := Int.emod_lt_of_pos i (show (0 : Int) < T by omega); omega
  have hI2 := Lib.hid hI
  clear hI
  go_enter Try.func10, Try.ntmps10
  go_wp2_with fail
  refine (awake11 _).mono ?_
  rintro e w0 ⟨rfl, b0⟩
  replace b0 := Lib.hid b0
  go_wp2_with fail
  refine (new_any _).mono ?_
  rintro e w1 ⟨rfl, f1⟩
  replace f1 := Lib.hid f1
  go_wp2_with fail
  with_reducible refine Calls.mono (f1.out.at_.ask _ _) ?_
  rintro e w2 ⟨rfl, b2, g2⟩
  rw [hVZ.out]
  obtain ⟨S2, f2⟩ := f1.out.grow b2 g2
  replace f2 := Lib.hid f2
  clear b2 g2 f1
  go_wp2_with fail
  have hi1 : (i % (T : Int)) = (I : Int) := hI2.out.symm
  rw [hi1]
  clear hi1
  with_reducible refine Calls.mono (unrankB (a + 1) (c + 1) I (by omega) (by omega) (by rw [← hT2.out]; exact hIT) _ _ _ f2.out.at_ _ _ _ (by omega) (by omega) rfl) ?_
  rintro e w3 ⟨v, rfl, hown, b3, g3⟩
  obtain ⟨S3, f3⟩ := f2.out.grow b3 g3
  obtain ⟨g, cap, rfl, hbase, hlt⟩ := hown.form (by omega)
  have hcap := own_capv (by omega) hown
  have hul := (unr_spec (a + 1) (c + 1) I (by omega) (by omega) (by rw [← hT2.out]; exact hIT))
  have hturn := Lib.hid (fun (j : Nat) (hj : j < a + 1) hz => turn_of (a := a + 1) (c := c + 1) (i := I) (j := j) (by omega) (by omega) (by rw [← hT2.out]; exact hIT) hj hz)
  have hfirst : (∀ i', i' < a → (unr (a + 1) (c + 1) I).getD i' 0 = 0) → (unr (a + 1) (c + 1) I).getD a 0 ≠ 0 := fun h => by
    have := first_there (unr (a + 1) (c + 1) I) (by omega) (by rw [hul.1]; exact h)
    rwa [hul.1] at this
  have hsml := unr_small (n := a + 1) (k := c + 1) (i := I) (by omega) (by omega) (by rw [← hT2.out]; exact hIT)
  have hlen : a + 1 = (unr (a + 1) (c + 1) I).length := hul.1.symm
  obtain ⟨zs, hzs⟩ : ∃ zs, zs = unr (a + 1) (c + 1) I := ⟨_, rfl⟩
  rw [← hzs] at hown hfirst hturn hsml hlen
  replace f3 := Lib.hid f3
  replace hown := Lib.hid hown
  replace hfirst := Lib.hid hfirst
  replace hsml := Lib.hid hsml
  replace hlen := Lib.hid hlen
  replace hbase := Lib.hid hbase
  clear b3 g3 f2 hul hzs hI2
  have hTb : decide (T < 1) = false := by simp; omega
  go_wp2_with fail
  go_loop [12] (fun s => ∃ j : Nat, j ≤ a ∧ s = .int .i64 j ∧ ∀ i', i' < j → zs.getD i' 0 = 0) (fun s => a - (intOf s).toNat)
  case atStart => exact ⟨0, by omega, rfl, fun i' h => by omega⟩
  case round =>
    obtain ⟨j, hj, rfl, hz⟩ := hrel
    replace hz := Lib.hid hz
    have hc := own_at hlen.out hown.out (j := j) (by omega)
    obtain ⟨v0, hv0⟩ : ∃ v0, v0 = zs.getD j 0 := ⟨_, rfl⟩
    rw [← hv0] at hc
    have hv0h := Lib.hid hv0
    have hv0b : -32 ≤ v0 ∧ v0 ≤ 32 := by
      have hj2 : j < zs.length := by have := hlen.out; omega
      have := hsml.out (zs.getD j 0) (by simp [hj2])
      rwa [← hv0] at this
    clear hv0
    by_cases hgo : j < a ∧ v0 = 0
    · obtain ⟨hl, rfl⟩ := hgo
      go_wp2_with fail
      exact ⟨⟨j + 1, by omega, by go_num, fun i' h => by
        by_cases e : i' = j
        · subst e; exact hv0h.out.symm
        · exact hz.out i' (by omega)⟩, by simp [intOf]; omega⟩
    · have hexit : (j = a ∧ decide (j < a) = false ∧ v0 ≠ 0) ∨ (j < a ∧ v0 ≠ 0) := by
        by_cases h : j < a
        · exact .inr ⟨h, fun h2 => hgo ⟨h, h2⟩⟩
        · obtain rfl : j = a := by omega
          exact .inl ⟨rfl, by simp, by rw [hv0h.out]; exact hfirst.out hz.out⟩
      have hT5 := hturn.out j (by omega) hz.out
      rw [← hv0h.out] at hT5
      obtain ⟨ys, hys⟩ : ∃ ys, ys = zs.set j (-v0) := ⟨_, rfl⟩
      rw [← hys] at hT5
      obtain ⟨O, hO⟩ : ∃ O, O = V (a + 1 - 1 - j) (c + 1 - v0.natAbs) := ⟨_, rfl⟩
      have hOb : O < 1000000000000000000 := by rw [hO]; exact V_lt _ (by omega) _ (by have := hT5.vb; omega)
      have hVO : VZ ((1 + a : Int) - 1 - j) (1 + c - v0.natAbs) = (O : Int) := by
        have := hT5.vb
        rw [hO]
        exact VZ_at (by omega) (by omega) _ _ (by omega) (by omega)
      rw [← hO] at hT5
      have hvb := hT5.vb
      replace hys := Lib.hid hys
      replace hO := Lib.hid hO
      replace hVO := Lib.hid hVO
      replace hT5 := Lib.hid hT5
      replace hbase := hbase
      clear hgo hfirst hturn hsml
      have hc2 : ∀ W, Below w3.heap.size w3 W → W.cell? ⟨g, j, none⟩ = some (.int .i64 v0) := fun W hW => (hW.cell (p := ⟨g, j, none⟩) hlt).trans hc
      have hmax : max v0 (-v0) = ((v0.natAbs : Nat) : Int) := by omega
      have hrR := rk_bound hT5.out.rz
      have hrQ := rk_bound hT5.out.ry
      have crx := Lib.hid (fun v w gb gm h hF => rank_yes zs hT5.out.rz hT5.out.nz v w gb gm h hF)
      have cry := Lib.hid (fun v w gb gm h hF => rank_yes ys hT5.out.ry hT5.out.ny v w gb gm h hF)
      have cpy := Lib.hid (fun v w h => pulses_any ys hT5.out.ny (by have := hT5.out.lb; omega) v w h)
      rw [msum_ms ys (by have := hT5.out.my; omega), hT5.out.my] at cpy
      have hup := Lib.hid hT5.out.up
      have hdn := Lib.hid hT5.out.down
      obtain ⟨R, hR⟩ : ∃ R, R = rkN zs := ⟨_, rfl⟩
      obtain ⟨Q, hQ⟩ : ∃ Q, Q = rkN ys := ⟨_, rfl⟩
      rw [← hR] at hrR crx hup hdn
      rw [← hQ] at hrQ cry hup hdn
      replace hc2 := Lib.hid hc2
      replace hvb : v0.natAbs ≤ c + 1 := hvb
      obtain ⟨m, hm⟩ : ∃ m, m = v0.natAbs := ⟨_, rfl⟩
      rw [← hm] at hmax hVO hvb
      have hmh := Lib.hid hm
      clear hR hQ hm
      have hd : (j < a ∨ a ≤ j) ∧ v0 ≠ 0 := by
        rcases hexit with ⟨_, h1, h2⟩ | ⟨h1, h2⟩
        · exact ⟨.inr (by simp at h1; omega), h2⟩
        · exact ⟨.inl h1, h2⟩
      clear hexit
      obtain ⟨hd, hnz⟩ := hd
      have hnz1 : (v0 == 0) = false := by simpa using hnz
      rcases hd with hd | hd
      all_goals
        as_aux_lemma =>
          obtain ⟨i0, hti, ti0, ti1, ti2⟩ := info_parts infoI
          have l0 : Hid ((zs.map (Value.int .i64)).length = (a + 1) * 1) := Lib.hid (by have := hlen.out; simp; omega)
          have l1 : Hid (∀ j' u, (zs.map (Value.int .i64))[j']? = some u → (w3.alloc (.cells #[] 3)).cell? ((⟨g, 0, none⟩ : Addr).add j') = some u) := Lib.hid (by
            intro j' u hj'
            refine (((belowAlloc w3 _).cell (p := (⟨g, 0, none⟩ : Addr).add j') ?_)).trans (hown.out.cells (g := g) rfl j' u hj')
            rw [Go.WideShapes.add_plain]
            exact hlt)
          have l2 : Hid (∀ u ∈ zs.map (Value.int .i64), u.oneCell' = true) := Lib.hid (by intro u hu; simp at hu; obtain ⟨_, _, rfl⟩ := hu; rfl)
          have l3 : Hid (0 + (a + 1) ≤ maxLen) := Lib.hid (by unfold maxLen; omega)
          have l4 : Hid ((0 + (a + 1)) * 8 ≤ 140737488355328) := Lib.hid (by omega)
          have l5 : Hid (w3.heap.size ≤ (w3.alloc (.cells #[] 3)).heap.size) := Lib.hid (by simp)
          go_wp2_with (at_builtin; refine wpList_append_own _ rfl _ _ 40 rfl w3.heap.size 3 i0 (.int .i64 0) 1 8 Try.underlying40 hti ti0 ti1 ti2 rfl (by decide) _ _ _ rfl (own_empty w3 _ (Nat.le_refl _)) ⟨g, 0, none⟩ (a + 1) cap (zs.map (Value.int .i64)) rfl l0.out l1.out l2.out l3.out l4.out l5.out ?_)
          intro v' w4 hown4 hgrow _
          try simp only [Nat.zero_add, List.nil_append] at hown4
          have hb4 : Below w3.heap.size w3 w4 := Below.trans (belowAlloc w3 _) (grown_old (gm := w3.heap.size) hgrow (Nat.le_refl _) (by simp))
          obtain ⟨g2, cap2, rfl, hbs2, hlt2⟩ := hown4.form (by omega)
          have hcap2 := own_capv (by omega) hown4
          have c4 : w4.cell? ⟨g2, j, none⟩ = some (.int .i64 v0) := by rw [hv0h.out]; exact own_at hlen.out hown4 (by omega)
          have fr4 : w4.frozen? ⟨g2, j, none⟩ = false := hown4.frozenAt j
          obtain ⟨hs5, _⟩ := hown4.stored j (.int .i64 (-v0))
          have hb5 : Below w3.heap.size w3 (w4.setCell ⟨g2, j, none⟩ (.int .i64 (-v0))) := hb4.setCell hbs2 _
          have hys5 : (zs.map (Value.int .i64)).set j (.int .i64 (-v0)) = ys.map (Value.int .i64) := by rw [hys.out, List.map_set]
          rw [hys5] at hs5
          replace hs5 := Lib.hid hs5
          replace hb5 := Lib.hid hb5
          clear hown4 hgrow hb4 hys5 hbs2 hlt2
          go_wp2_with fail
          trace "F"
          obtain ⟨w5, hw5⟩ : ∃ w5, w5 = w4.setCell ⟨g2, j, none⟩ (.int .i64 (-v0)) := ⟨_, rfl⟩
          rw [← hw5] at hs5 hb5 ⊢
          clear hw5 c4 fr4
          have hvx := Lib.hid ((own_vec hlen.out hown.out).below hb5.out)
          have hvy := Lib.hid (own_vec hT5.out.lb.symm hs5.out)
          have f5 := Lib.hid (f3.out.step hb5.out)
          clear hs5
          with_reducible refine Calls.mono (crx.out _ _ _ _ hvx.out f5.out.at_) ?_
          rintro e w6 ⟨rfl, b6, g6⟩
          replace hvx := Lib.hid (hvx.out.grown f5.out.at_ g6)
          replace hvy := Lib.hid (hvy.out.grown f5.out.at_ g6)
          obtain ⟨S6, f6⟩ := f5.out.grow b6 g6
          replace f6 := Lib.hid f6
          clear b6 g6 f5
          go_wp2_with fail
          with_reducible refine Calls.mono (cry.out _ _ _ _ hvy.out f6.out.at_) ?_
          rintro e w7 ⟨rfl, b7, g7⟩
          replace hvx := Lib.hid (hvx.out.grown f6.out.at_ g7)
          replace hvy := Lib.hid (hvy.out.grown f6.out.at_ g7)
          obtain ⟨S7, f7⟩ := f6.out.grow b7 g7
          replace f7 := Lib.hid f7
          clear b7 g7 f6
          go_wp2_with fail
          with_reducible refine Calls.mono (cpy.out _ _ hvy.out) ?_
          rintro e w8 ⟨rfl, rfl⟩
          go_wp2_with fail
          have c7 : w7.cell? ⟨g, j, none⟩ = some (.int .i64 v0) := by rw [hv0h.out]; exact hvx.out.at0 (by have := hlen.out; omega)
          by_cases hv : 0 < v0
          · have hq := hup.out hv
            have hE : ((Q : Int) - (R : Int) == (O : Int)) = true := by simp; omega
            have hq1 : Q ≤ R + O := by omega
            have hq2 : R + O ≤ Q := by omega
            clear hq
            go_quiet (fail)
            go_wp2_with fail
            replace hvx := Lib.hid (hvx.out.below (below_drewN (Below.refl _ _) nq))
            replace f7 := Lib.hid (f7.out.drewN nq)
            with_reducible refine Calls.mono (f7.out.at_.askV (a - j) (c + 1 - m) (by omega) (by omega) _ _ (by omega) (by omega)) ?_
            rintro e w9 ⟨rfl, b9, g9⟩
            replace hvx := Lib.hid (hvx.out.grown f7.out.at_ g9)
            obtain ⟨S9, f9⟩ := f7.out.grow b9 g9
            replace f9 := Lib.hid f9
            clear b9 g9 f7 c7
            have hO2 : V (a - j) (c + 1 - m) = O := by have := hO.out; rw [this, ← hmh.out]; rfl
            rw [hO2]
            clear hO2
            have c9 : w9.cell? ⟨g, j, none⟩ = some (.int .i64 v0) := by rw [hv0h.out]; exact hvx.out.at0 (by have := hlen.out; omega)
            go_wp2_with fail
            go_ret
            exact ⟨rfl, Below.trans b0.out (f9.out.below.mono b0.out.size)⟩
          · have hv2 : v0 < 0 := by omega
            have hq := hdn.out hv2
            have hE : ((R : Int) - (Q : Int) == (O : Int)) = true := by simp; omega
            have hq1 : R ≤ Q + O := by omega
            have hq2 : Q + O ≤ R := by omega
            clear hq
            go_quiet (fail)
            go_wp2_with fail
            replace hvx := Lib.hid (hvx.out.below (below_drewN (Below.refl _ _) nq))
            replace f7 := Lib.hid (f7.out.drewN nq)
            with_reducible refine Calls.mono (f7.out.at_.askV (a - j) (c + 1 - m) (by omega) (by omega) _ _ (by omega) (by omega)) ?_
            rintro e w9 ⟨rfl, b9, g9⟩
            replace hvx := Lib.hid (hvx.out.grown f7.out.at_ g9)
            obtain ⟨S9, f9⟩ := f7.out.grow b9 g9
            replace f9 := Lib.hid f9
            clear b9 g9 f7 c7
            have hO2 : V (a - j) (c + 1 - m) = O := by have := hO.out; rw [this, ← hmh.out]; rfl
            rw [hO2]
            clear hO2
            have c9 : w9.cell? ⟨g, j, none⟩ = some (.int .i64 v0) := by rw [hv0h.out]; exact hvx.out.at0 (by have := hlen.out; omega)
            go_wp2_with fail
            go_ret
            exact ⟨rfl, Below.trans b0.out (f9.out.below.mono b0.out.size)⟩
end Go.Proofs.Ytegjkognlfemgaa
