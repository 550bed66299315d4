/- The contracts of the reference's Made, of Wide and of Same. -/
import Derived.Test.YtckcjgmikjpfaaaDoorCon7
namespace Go.Proofs.YtckcjgmikjpfaaaDoor
open Go.RowKit

/-- What is owned, as a history of the reference. -/
theorem own_isJ {w : World} {base n : Nat} {v : Value} {xs : List Int} (h : w.ownsRow base 2 1 v n (xs.map (Value.int .i64))) : IsJ w v xs := by
  have hx := h.1
  have hx : xs.length = n := by simpa using hx
  rcases Nat.eq_zero_or_pos n with h0 | h0
  · rcases h.2 with ⟨rfl, _⟩ | ⟨g, cap, cur, rfl, _⟩
    · exact ⟨none, 0, by rw [hx, h0], fun j hj => by omega⟩
    · exact ⟨some ⟨g, 0, none⟩, cap, by rw [hx], fun j hj => by omega⟩
  · obtain ⟨g, cap, rfl, hc, _, hl, _, hcell⟩ := own_at h h0
    exact ⟨some ⟨g, 0, none⟩, cap, by rw [hx], fun j hj => ⟨g, 0, rfl, by rw [hx]; exact hc, hl, by rw [Nat.zero_add]; exact hcell j (by omega)⟩⟩

/-- The first m numbers of a function. -/
def jl (f : Nat → Int) (m : Nat) : List Int := (List.range m).map f
theorem jl_succ (f : Nat → Int) (m : Nat) : jl f (m + 1) = jl f m ++ [f m] := by simp [jl, List.range_succ]
/-- What the rounds keep of a row of the reference: its first m numbers. -/
structure JR (w : World) (f : Nat → Int) (m : Nat) (v : Value) (wr : World) : Prop where
  own : wr.ownsRow w.heap.size 2 1 v m ((jl f m).map (Value.int .i64))
  below : Below w.heap.size w wr
theorem JR.start (w : World) (f : Nat → Int) {wr : World} (hb : Below w.heap.size w wr) : JR w f 0 (.slice none 0 0) wr := ⟨World.ownsRow_nil _ _ _ _, hb⟩
theorem JR.put {w wr W W2 : World} {f : Nat → Int} {m : Nat} {v v' : Value} (h : JR w f m v wr) (hW : Below wr.heap.size wr W) {x : Int} (hx : x = f m)
    (ho : W2.ownsRow w.heap.size 2 1 v' (m + 1) ((jl f m).map (Value.int .i64) ++ [.int .i64 x])) (hg : W.grownBy W2 v.ownBlock) : JR w f (m + 1) v' W2 := by
  have hlt := h.own.lt
  have b1 : Below w.heap.size w W := Below.trans h.below (hW.mono h.below.size)
  refine ⟨by rw [jl_succ, List.map_append]; subst hx; exact ho, Below.trans b1 (belowOf hg (fun k e => (hlt k e).1) b1.size)⟩
theorem range_getD (hs : List Int) : jl (fun j => hs.getD j 0) hs.length = hs := by
  unfold jl
  apply List.ext_getElem
  · simp
  · intro i h1 h2
    simp [h2]

set_option maxRecDepth 20000 in
set_option maxHeartbeats 4000000 in
theorem wide_any (hs : List Int) (hn : hs.length ≤ 1000000) (v : Value) (w : World) (hv : IsH w v hs) :
    Calls Tryd.prog 11 #[v] w fun e w' => ∃ v', e = .returned v' ∧ IsJ w' v' hs ∧ Below w.heap.size w w' := by
  obtain ⟨A, cap, rfl, hat⟩ := hv
  replace hat := Lib.hid hat
  have hfin : Hid (∀ v' wr, JR w (fun j => hs.getD j 0) hs.length v' wr → IsJ wr v' hs ∧ Below w.heap.size w wr) := Lib.hid fun v' wr h => by
    have := own_isJ h.own
    rw [range_getD] at this
    exact ⟨this, h.below⟩
  obtain ⟨f, hf⟩ : ∃ f, f = fun j => hs.getD j 0 := ⟨_, rfl⟩
  rw [← hf] at hfin
  have hR0 : Hid (JR w f 0 (.slice none 0 0) w) := Lib.hid (JR.start w f (Below.refl _ _))
  obtain ⟨n, hne⟩ : ∃ n, n = hs.length := ⟨_, rfl⟩
  rw [← hne] at hn hfin ⊢
  obtain ⟨i0, hti, ti0, ti1, ti2⟩ := info_parts info2
  replace hne := Lib.hid hne
  replace hf := Lib.hid hf
  go_enter Tryd.func11, Tryd.ntmps11
  go_wp2_with fail
  go_loopw [3, 8] (fun v i wr => ∃ m : Nat, m ≤ n ∧ i = .int .i64 m ∧ JR w f m v wr) (fun _ i _ => n - (intOf i).toNat)
  case atStart => exact ⟨0, by omega, rfl, hR0.out⟩
  case round =>
    clear hR0
    obtain ⟨m, hm, rfl, hR⟩ := hrel
    by_cases hlt : m < n
    · obtain ⟨b, off, rfl, hcap, hbl, q0, q1⟩ := hat.out m (by rw [← hne.out]; exact hlt)
      rw [← hne.out] at hcap
      have r0 : wr.cell? ⟨b, off + m, none⟩ = some (.int .i32 (hs.getD m 0)) := (hR.below.cell (p := ⟨b, off + m, none⟩) hbl).trans q0
      have hxm : hs.getD m 0 = f m := by rw [hf.out]
      obtain ⟨x, hx⟩ : ∃ x, x = hs.getD m 0 := ⟨_, rfl⟩
      rw [← hx] at r0 q1 hxm
      have hput := Lib.hid (fun W W2 v' (a1 : Below wr.heap.size wr W) a2 a3 => JR.put (W := W) (W2 := W2) (v' := v') hR a1 hxm a2 a3)
      replace hR := Lib.hid hR
      unfold I32 at q1
      have n1 := Lib.hid (new1 · (.int .i64 x) 2)
      have n2 := Lib.hid (one64 x)
      have l3 : Hid (m + 1 ≤ maxLen) := Lib.hid (by unfold maxLen; omega)
      have l4 : Hid ((m + 1) * 8 ≤ 140737488355328) := Lib.hid (by omega)
      have hbs := Lib.hid hR.out.below.size
      clear q0 hx hxm
      go_wp2_with (at_builtin; refine wpList_append_own _ rfl _ _ 29 rfl w.heap.size 2 i0 (.int .i64 0) 1 8 Tryd.underlying29 hti ti0 ti1 ti2 rfl (by decide) _ _ _ rfl (hR.out.own.alloc _) ⟨wr.heap.size, 0, none⟩ 1 1 [.int .i64 x] rfl rfl (n1.out _) n2.out l3.out l4.out (by have := hbs.out; simp; omega) ?_)
      intro v' w4 ho hg _
      have hR4 := Lib.hid (hput.out _ _ _ ((Below.refl wr.heap.size wr).alloc (Nat.le_refl _) _) ho hg)
      clear ho hg hput
      go_wp2_with fail
      exact ⟨⟨m + 1, by omega, by go_num, hR4.out⟩, by simp [intOf]; omega⟩
    · obtain rfl : m = n := by omega
      go_wp2_with fail
      go_ret
      exact ⟨_, rfl, hfin.out _ _ hR⟩

set_option maxRecDepth 20000 in
set_option maxHeartbeats 4000000 in
theorem same_yes (hs : List Int) (hn : hs.length ≤ 1000000) (x y : Value) (w : World) (hx : IsH w x hs) (hy : IsJ w y hs) :
    Calls Tryd.prog 14 #[x, y] w fun e w' => e = .returned (.bool true) ∧ ∃ d, w' = w.drewN d := by
  obtain ⟨A, cap, rfl, hat⟩ := hx
  obtain ⟨A2, cap2, rfl, hat2⟩ := hy
  replace hat := Lib.hid hat
  replace hat2 := Lib.hid hat2
  obtain ⟨n, hne⟩ : ∃ n, n = hs.length := ⟨_, rfl⟩
  rw [← hne] at hn ⊢
  replace hne := Lib.hid hne
  go_enter Tryd.func14, Tryd.ntmps14
  go_wp2_with fail
  go_loopw [13] (fun i wr => ∃ m d : Nat, m ≤ n ∧ i = .int .i64 m ∧ wr = w.drewN d) (fun i _ => n - (intOf i).toNat)
  case atStart => exact ⟨0, 0, by omega, rfl, rfl⟩
  case round =>
    obtain ⟨m, d, hm, rfl, hw⟩ := hrel
    by_cases hlt : m < n
    · obtain ⟨b, off, rfl, hcap, hbl, q0, q1⟩ := hat.out m (by rw [← hne.out]; exact hlt)
      obtain ⟨b2, off2, rfl, hcap2, hbl2, p0⟩ := hat2.out m (by rw [← hne.out]; exact hlt)
      rw [← hne.out] at hcap hcap2
      obtain ⟨x, hx⟩ : ∃ x, x = hs.getD m 0 := ⟨_, rfl⟩
      rw [← hx] at q0 q1 p0
      unfold I32 at q1
      have c0 : wr.cell? ⟨b, off + m, none⟩ = some (.int .i32 x) := by rw [hw]; exact q0
      have c1 : wr.cell? ⟨b2, off2 + m, none⟩ = some (.int .i64 x) := by rw [hw]; exact p0
      replace hw := Lib.hid hw
      have v2 : (m : Int) < (n : Int) := by omega
      clear q0 p0 hx
      go_wp2_with fail
      go_quiet (fail)
      go_wp2_with fail
      exact ⟨⟨m + 1, d + nq, by omega, by go_num, by rw [hw.out, World.drewN_drewN]⟩, by simp [intOf]; omega⟩
    · obtain rfl : m = n := by omega
      replace hw := Lib.hid hw
      go_wp2_with fail
      go_ret
      exact ⟨rfl, _, hw.out⟩
theorem hd_hd (x : Int) : hd (hd x) = hd x := by
  have h := hd_b x
  generalize hd x = y at *
  unfold hd
  rw [if_neg (by omega), if_neg (by omega)]
set_option maxRecDepth 20000 in
set_option maxHeartbeats 8000000 in
theorem made_any (hs : List Int) (ht : thr hs.length = true) (k : Int) (v : Value) (w : World) (hv : IsJ w v hs) :
    Calls Tryd.prog 17 #[v, .int .i64 k] w fun e w' => ∃ v', e = .returned v' ∧ IsJ w' v' (plL hs k hs.length) ∧ Below w.heap.size w w' := by
  have hc := thr_cases ht
  have ch := Lib.hid (refHeldL_any hs (by omega) v w hv)
  have cl := Lib.hid (fun w2 (h : Below w.heap.size w w2) => refLag_any hs ht v w2 (hv.below h))
  have hlb := lagN_b hs (by omega)
  have hat := fun w1 v (h : HR w hs hs.length v w1) => h.at_ rfl (by omega)
  have hfin : Hid (∀ w2 v' wr, Below w.heap.size w w2 → JR w2 (fun i => prt (hs.getD (hs.length - lagN hs + i % lagN hs) 0) (fdv k)) hs.length v' wr → IsJ wr v' (plL hs k hs.length) ∧ Below w.heap.size w wr) := Lib.hid fun w2 v' wr hb h => ⟨own_isJ h.own, Below.trans hb (h.below.mono hb.size)⟩
  have hstart := Lib.hid (fun w => JR.start w (fun i => prt (hs.getD (hs.length - lagN hs + i % lagN hs) 0) (fdv k)) (Below.refl _ _))
  obtain ⟨A, cap, rfl, _⟩ := hv
  obtain ⟨f, hf⟩ : ∃ f, f = fun i => prt (hs.getD (hs.length - lagN hs + i % lagN hs) 0) (fdv k) := ⟨_, rfl⟩
  rw [← hf] at hfin hstart
  obtain ⟨H, hH⟩ : ∃ H : Nat → Int, H = fun j => hd (hs.getD j 0) := ⟨_, rfl⟩
  have hHb : ∀ j, -16777216 ≤ H j ∧ H j ≤ 16777216 := fun j => by rw [hH]; exact hd_b _
  have hfH : ∀ m, (H (hs.length - lagN hs + m % lagN hs) * fdv k).tdiv 32768 = f m := fun m => by rw [hf, hH]; rfl
  have hat : ∀ w1 v, HR w hs hs.length v w1 → ∃ g cap, v = .slice (some ⟨g, 0, none⟩) hs.length cap ∧ g < w1.heap.size ∧ ∀ j, j < hs.length → w1.cell? ⟨g, j, none⟩ = some (.int .i64 (H j)) := fun w1 v h => by rw [hH]; exact hat w1 v h
  obtain ⟨n, hne⟩ : ∃ n, n = hs.length := ⟨_, rfl⟩
  obtain ⟨L, hL⟩ : ∃ L, L = lagN hs := ⟨_, rfl⟩
  rw [← hne] at hc hlb ch hfin ⊢
  rw [← hL] at hlb cl
  rw [← hne] at cl
  simp only [← hne, ← hL] at hfH hat
  have hn32 : n ≤ 32 := by omega
  have hL2 : 2 ≤ L := by omega
  have hLn : 2 * L ≤ n := by omega
  have hLz : ((L : Int) == 0) = false := by simp; omega
  have hLz2 : ¬ L = 0 := by omega
  replace hne := Lib.hid hne
  replace hL := Lib.hid hL
  replace hHb := Lib.hid hHb
  replace hat := Lib.hid hat
  obtain ⟨i0, hti, ti0, ti1, ti2⟩ := info_parts info2
  have hFb := fdv_b k

  obtain ⟨F, hFe⟩ : ∃ F, F = fdv k := ⟨_, rfl⟩
  rw [← hFe] at hFb hfH
  have cf := Lib.hid (fun w => refFade_any k w)
  rw [← hFe] at cf
  replace hfH := Lib.hid hfH
  clear hc hlb ht hf hH hFe
  go_enter Tryd.func17, Tryd.ntmps17
  go_wp2_with fail
  with_reducible refine Calls.mono ch.out ?_
  rintro e w1 ⟨v1, rfl, hR⟩
  have bw := Lib.hid hR.below
  obtain ⟨g, cp, rfl, hg, hcell⟩ := hat.out w1 v1 hR
  replace hcell := Lib.hid hcell
  clear hR ch hat
  go_wp2_with fail
  with_reducible refine Calls.mono (cl.out _ bw.out) ?_
  rintro e w2 ⟨rfl, hB2⟩
  have hgs : g < w2.heap.size := Nat.lt_of_lt_of_le hg hB2.size
  have hcell2 : Hid (∀ j, j < n → w2.cell? ⟨g, j, none⟩ = some (.int .i64 (H j))) := Lib.hid fun j hj => (hB2.cell (p := ⟨g, j, none⟩) hg).trans (hcell.out j hj)
  have hs0 := Lib.hid (hstart.out w2)
  have hbw2 := Lib.hid (Below.trans bw.out (hB2.mono bw.out.size))
  clear hcell hstart hB2 cl bw
  go_wp2_with fail
  go_loopw [7, 8] (fun v i wr => ∃ m : Nat, m ≤ n ∧ i = .int .i64 m ∧ JR w2 f m v wr) (fun _ i _ => n - (intOf i).toNat)
  case atStart => exact ⟨0, by omega, rfl, hs0.out⟩
  case round =>
    clear hs0
    obtain ⟨m, hm, rfl, hR⟩ := hrel
    by_cases hlt : m < n
    · obtain ⟨r, hr⟩ : ∃ r, r = m % L := ⟨_, rfl⟩
      have hrL : r < L := by rw [hr]; exact Nat.mod_lt _ (by omega)
      have er : (m : Int).tmod (L : Int) = (r : Int) := by rw [hr, Int.tmod_eq_emod_of_nonneg (by omega)]; rfl
      have hfm := hfH.out m
      rw [← hr] at hfm
      have c0 : wr.cell? ⟨g, n - L + r, none⟩ = some (.int .i64 (H (n - L + r))) := (hR.below.cell (p := ⟨g, n - L + r, none⟩) hgs).trans (hcell2.out _ (by omega))
      have hb0 := hHb.out (n - L + r)
      obtain ⟨x, hx⟩ : ∃ x, x = H (n - L + r) := ⟨_, rfl⟩
      rw [← hx] at c0 hb0 hfm
      have m1 : -549755813888 ≤ x * F ∧ x * F ≤ 549755813888 := by
        constructor
        · rcases Int.le_total 0 x with h | h
          · have := Int.mul_nonneg h hFb.1
            omega
          · have a := Int.mul_le_mul_of_nonneg_left (show F ≤ 32768 by omega) (show 0 ≤ -x by omega)
            rw [Int.neg_mul] at a
            omega
        · rcases Int.le_total 0 x with h | h
          · have a := Int.mul_le_mul_of_nonneg_left (show F ≤ 32768 by omega) h
            omega
          · have a := Int.mul_nonneg (show 0 ≤ -x by omega) hFb.1
            rw [Int.neg_mul] at a
            omega
      obtain ⟨M, hM⟩ : ∃ M, x * F = M := ⟨_, rfl⟩
      rw [hM] at m1 hfm
      obtain ⟨Y, hY⟩ : ∃ Y, M.tdiv 32768 = Y := ⟨_, rfl⟩
      rw [hY] at hfm
      have hYb : -16777216 ≤ Y ∧ Y ≤ 16777216 := by
        rw [← hY]
        rcases Int.le_total 0 M with h | h
        · rw [Int.tdiv_eq_ediv_of_nonneg h]; omega
        · have e : M = -(-M) := by omega
          rw [e, Int.neg_tdiv, Int.tdiv_eq_ediv_of_nonneg (by omega)]; omega
      have u1 : IntKind.i64.wrap ((n : Int) - (L : Int)) = ((n - L : Nat) : Int) := by rw [IntKind.wrap_i64]; omega
      have u2 : IntKind.i64.wrap (((n - L : Nat) : Int) + (r : Int)) = ((n - L + r : Nat) : Int) := by rw [IntKind.wrap_i64]; omega
      have u3 : IntKind.i64.wrap M = M := by rw [IntKind.wrap_i64]; omega
      have u4 : IntKind.i64.wrap Y = Y := by rw [IntKind.wrap_i64]; omega
      obtain ⟨q, hq⟩ : ∃ q, q = n - L + r := ⟨_, rfl⟩
      rw [← hq] at u2 c0
      have v0 : q < n := by omega
      have v2 : (q : Int) < (n : Int) := by omega
      have hput := Lib.hid (fun W W2 v' (a1 : Below wr.heap.size wr W) a2 a3 => JR.put (W := W) (W2 := W2) (v' := v') hR a1 hfm a2 a3)
      replace hR := Lib.hid hR
      have n1 := Lib.hid (new1 · (.int .i64 Y) 2)
      have n2 := Lib.hid (one64 Y)
      have l3 : Hid (m + 1 ≤ maxLen) := Lib.hid (by unfold maxLen; omega)
      have l4 : Hid ((m + 1) * 8 ≤ 140737488355328) := Lib.hid (by omega)
      have hbs := Lib.hid hR.out.below.size
      have bAD : Hid (Below wr.heap.size wr (wr.alloc (.cells #[.int .i64 Y] 2)).drew) := Lib.hid ((Below.refl _ _).alloc (Nat.le_refl _) _).drew
      have hoAD := Lib.hid (own_below hR.out.own bAD.out)
      have l5 : Hid (w2.heap.size ≤ (wr.alloc (.cells #[.int .i64 Y] 2)).drew.heap.size) := Lib.hid (Nat.le_trans hbs.out bAD.out.size)
      have n3 : Hid (∀ j u, [Value.int .i64 Y][j]? = some u → (wr.alloc (.cells #[.int .i64 Y] 2)).drew.cell? ((⟨wr.heap.size, 0, none⟩ : Addr).add j) = some u) := Lib.hid (n1.out wr)
      clear hx hr hq n1 hbs hcell2 hfm hb0
      go_wp2_with fail
      go_region_law (first
        | (go_simp; go_at_call 13; with_reducible refine Calls.mono (cf.out _) ?_; rintro e w9 ⟨rfl, rfl⟩)
        | (refine step_append_lies _ rfl (.tmp 19) (.tmp 35) 29 rfl w2.heap.size 2 i0 (.int .i64 0) 1 8 Tryd.underlying29 hti ti0 ti1 ti2 rfl (by decide) _ m _ rfl hoAD.out ⟨wr.heap.size, 0, none⟩ 1 1 [.int .i64 Y] rfl rfl n3.out n2.out (by decide) l3.out l4.out l5.out _ rfl ?_; intro g4 cap4 w4 ho hg _ _))
      all_goals
        have hR4 := Lib.hid (hput.out _ _ _ bAD.out ho hg)
        clear ho hg hput
        go_wp2_with fail
        exact ⟨⟨m + 1, by omega, by go_num, hR4.out⟩, by simp [intOf]; omega⟩
    · obtain rfl : m = n := by omega
      go_wp2_with fail
      go_ret
      exact ⟨_, rfl, hfin.out _ _ _ hbw2.out hR⟩
end Go.Proofs.YtckcjgmikjpfaaaDoor
