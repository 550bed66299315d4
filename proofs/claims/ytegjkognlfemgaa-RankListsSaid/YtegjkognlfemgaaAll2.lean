/- The contract of the reference's All: the walk. -/
import Derived.Test.YtegjkognlfemgaaAll
import Derived.Maps.AppendAt
namespace Go.Proofs.Ytegjkognlfemgaa
open Go.RowKit

theorem own_grown {base e size n : Nat} {w w1 : World} {v : Value} {xs : List Value} (h : w.ownsRow base e size v n xs) (hg : w.grownBy w1 v.ownBlock) (hb : base ≤ w.heap.size) : Below base w w1 :=
  ⟨hg.os, hg.tape, hg.output, hg.size, fun i hi => hg.block i (by omega) (fun e => by have := h.lt i e.symm; omega)⟩

theorem stopw {P : Prop} (h : True → P) : P := h trivial
theorem new_one (W : World) (x : Value) (t : TypeId) : ∀ j u, [x][j]? = some u → (W.alloc (.cells #[x] t)).cell? ((⟨W.heap.size, 0, none⟩ : Addr).add j) = some u := by
  intro j u hj
  match j, hj with
  | 0, hj => simp at hj; subst hj; simp [Addr.add]
theorem cell_i64 (x : Int) : ∀ u ∈ [Value.int .i64 x], u.oneCell' = true := by
  intro u hu; simp at hu; subst hu; rfl
theorem cells_i64 (L : List Int) : ∀ u ∈ L.map (Value.int .i64), u.oneCell' = true := by
  intro u hu
  obtain ⟨x, _, rfl⟩ := List.mem_map.1 hu
  rfl
theorem lenof {n k c : Nat} (hn : n < 5) (hk : k < 6) (hc : c < (allN n k).length) : ((allN n k)[c]).length = n := by
  have h := List.all_eq_true.1 (allN_vec n hn k hk) _ (List.getElem_mem hc)
  simpa using h
theorem cell_slice (ao : Option Addr) (n cap : Nat) : ∀ u ∈ [Value.slice ao n cap], u.oneCell' = true := by
  intro u hu; simp at hu; subst hu; rfl
theorem own_shape {w : World} {base e size n : Nat} {v : Value} {xs : List Value} (h : w.ownsRow base e size v n xs) : ∃ ao cap, v = .slice ao n cap := by
  rcases h.2 with ⟨rfl, rfl⟩ | ⟨g, cap, cur, rfl, _⟩
  · exact ⟨_, _, rfl⟩
  · exact ⟨_, _, rfl⟩
theorem own_some {w : World} {base e size n : Nat} {v : Value} {xs : List Value} (h : w.ownsRow base e size v n xs) (hn : n ≠ 0) : ∃ g cap, v = .slice (some ⟨g, 0, none⟩) n cap := by
  rcases h.2 with ⟨rfl, h0⟩ | ⟨g, cap, cur, rfl, _⟩
  · exact absurd h0 hn
  · exact ⟨_, _, rfl⟩
theorem own_cap {w : World} {base e size n cap : Nat} {g : Addr} {xs : List Value} (h : w.ownsRow base e size (.slice (some g) n cap) n xs) : n ≤ cap := by
  rcases h.2 with ⟨h0, _⟩ | ⟨g, cap, cur, h0, _, _, h1, _⟩
  · cases h0
  · cases h0
    exact h1
theorem Lists.get {base : Nat} {w : World} {ao : Option Addr} {len cap : Nat} {L : List (List Int)} (h : Lists base w (.slice ao len cap) L) {j : Nat} (hj : j < L.length) :
    ∃ g x, ao = some ⟨g, 0, none⟩ ∧ w.cell? ⟨g, j, none⟩ = some x ∧ w.ownsRow base 3 1 x (L[j]).length ((L[j]).map (Value.int .i64)) := by
  obtain ⟨vs, h1, h2⟩ := h
  obtain ⟨x, hx, ho⟩ := h2 j hj
  obtain ⟨g, cap', e⟩ := own_some h1 (by omega)
  obtain ⟨rfl, -, -⟩ := Value.slice.inj e
  have := h1.cells (g := g) rfl j x hx
  rw [Go.WideShapes.add_plain, Nat.zero_add] at this
  exact ⟨g, x, rfl, this, ho⟩
theorem Lists.shape {base : Nat} {w : World} {v : Value} {L : List (List Int)} (h : Lists base w v L) : ∃ ao cap, v = .slice ao L.length cap := by
  obtain ⟨vs, h1, _⟩ := h
  exact own_shape h1

set_option maxHeartbeats 4000000 in
theorem all_zero (k : Nat) (hk : k < 6) (w : World) : Calls Try.prog 21 #[.int .i64 (0 : Nat), .int .i64 k] w fun e w' => ∃ v, e = .returned v ∧ Below w.heap.size w w' ∧ Lists w.heap.size w' v (allN 0 k) := by
  obtain ⟨i0, hi, hz0, hz1, hz2⟩ := info_parts info40
  by_cases h0 : k = 0
  · subst h0
    go_enter Try.func21, Try.ntmps21
    go_wp2_with (at_builtin; refine wpList_append_own _ rfl _ _ 28 rfl w.heap.size 40 i0 (.slice none 0 0) 1 24 Try.underlying28 hi hz0 hz1 hz2 rfl (by decide) _ _ _ rfl ((World.ownsRow_nil w w.heap.size 40 1).alloc _) ⟨w.heap.size, 0, none⟩ 1 1 [.slice none 0 0] rfl rfl ?c1 ?c2 ?c3 ?c4 ?c5 ?_)
    case c1 =>
      intro j u hj
      match j, hj with
      | 0, hj => simp at hj; subst hj; simp [Addr.add]
    case c2 => intro u hu; simp at hu; subst hu; rfl
    case c3 => unfold maxLen; omega
    case c4 => omega
    case c5 => simp
    intro v' w2 hown hgrow _
    have hb := Lib.hid (own_grown ((World.ownsRow_nil w w.heap.size 40 1).alloc (.cells #[.slice none 0 0] 40)) hgrow (by simp))
    have hown := Lib.hid hown
    clear hgrow
    go_wp2
    go_ret
    refine ⟨_, rfl, Below.trans (belowAlloc _ _) hb.out, [.slice none 0 0], hown.out, fun j hj => ?_⟩
    have : j = 0 := by simp [allN] at hj; omega
    subst this
    exact ⟨_, rfl, World.ownsRow_nil _ _ _ _⟩
  · have hkb : ((k : Int) == 0) = false := by simp; omega
    go_enter Try.func21, Try.ntmps21
    go_wp2
    go_ret
    refine ⟨_, rfl, Below.refl _ _, ?_⟩
    have : allN 0 k = [] := by simp [allN, h0]
    rw [this]
    exact Lists.nil _ _

theorem V_small : ∀ n, n < 5 → ∀ k, k < 6 → V n k < 1000 := by decide +kernel

def apart (v v9 : Value) : Prop := v9.ownBlock = none ∨ v9.ownBlock ≠ v.ownBlock
theorem Lists.kept {base n : Nat} {w w' : World} {v v9 : Value} {L : List (List Int)} {xs : List Value} (h : Lists base w v9 L) (hv : w.ownsRow base 40 1 v n xs) (hg : w.grownBy w' v.ownBlock) (hne : apart v v9) : Lists base w' v9 L := by
  obtain ⟨vs, h1, h2⟩ := h
  exact ⟨vs, h1.kept hg hne, fun j hj => by obtain ⟨x, hx, ho⟩ := h2 j hj; exact ⟨x, hx, ho.kept hg (own_other hv ho)⟩⟩
theorem apart_start {B : Nat} {wr w1 : World} {v v9 : Value} {L L9 : List (List Int)} (h : Lists B wr v L) (h9 : Lists wr.heap.size w1 v9 L9) : apart v v9 := by
  obtain ⟨vs, h1, _⟩ := h
  obtain ⟨vs9, h2, _⟩ := h9
  rcases e : v9.ownBlock with _ | g
  · exact .inl e
  · refine .inr fun e' => ?_
    have a1 := h2.lt g e
    have a2 := h1.lt g (e'.symm.trans e)
    omega
/-- The end of an inner round. -/
theorem allRound {B : Nat} {w wr w2 w3 : World} {v v3 v9 x : Value} {acc sub : List (List Int)} {z : List Int} {vs : List Value} (hB : Below B w wr) (hBs : B ≤ wr.heap.size) (hL9 : Lists B wr v9 sub) (hne : apart v v9) (hb2 : Below wr.heap.size wr w2)
    (hx : w2.ownsRow wr.heap.size 3 1 x z.length (z.map (Value.int .i64))) (hv1 : w2.ownsRow B 40 1 v acc.length vs)
    (hv2 : ∀ j (h : j < acc.length), ∃ x, vs[j]? = some x ∧ w2.ownsRow B 3 1 x (acc[j]).length ((acc[j]).map (Value.int .i64)))
    (o : Obj) (hown3 : w3.ownsRow B 40 1 v3 (acc.length + 1) (vs ++ [x])) (hg3 : (w2.alloc o).grownBy w3 v.ownBlock) (hat : v3.ownBlock = v.ownBlock ∨ v3.ownBlock = some (w2.heap.size + 1)) :
    Below B w w3 ∧ Lists B w3 v3 (acc ++ [z]) ∧ Lists B w3 v9 sub ∧ apart v3 v9 := by
  have h2 : B ≤ w2.heap.size := Nat.le_trans hBs hb2.size
  have hL92 := (hL9.below hb2).below (belowAlloc w2 o)
  refine ⟨?_, ?_, ?_, ?_⟩
  · refine Below.trans hB (Below.trans (hb2.mono hBs) (Below.trans ((belowAlloc w2 o).mono h2) (own_grown (hv1.alloc o) hg3 (by simp; omega))))
  · exact Lists.put (hv1.alloc o) (fun j h => by obtain ⟨x, hx, ho⟩ := hv2 j h; exact ⟨x, hx, ho.alloc o⟩) ((own_mono hx hBs).alloc o) hown3 hg3
  · exact hL92.kept (hv1.alloc o) hg3 hne
  · rcases hat with e | e
    · unfold apart
      rw [e]
      exact hne
    · unfold apart
      rw [e]
      obtain ⟨vs9, h9, _⟩ := hL92
      rcases e9 : v9.ownBlock with _ | g
      · exact .inl rfl
      · have := h9.lt g e9
        simp at this
        exact .inr (by intro e'; injection e' with e'; omega)
theorem allB_len : ∀ n, n < 4 → ∀ k, k < 6 → ∀ m, m < 6 → ∀ s, s < 2 → (allB n k m s).length < 1000 := by decide +kernel
theorem allC_len (n : Nat) (hn : n < 4) (k : Nat) (hk : k < 6) (m : Nat) (hm : m < 6) (s : Nat) (hs : s < 2) (i : Nat) : (allC n k m s i).length < 2000 := by
  have h1 := allB_len n hn k hk m hm s hs
  have h2 := allN_len n (by omega) (k - m) (by omega)
  have h3 := V_small n (by omega) (k - m) (by omega)
  simp [allC]
  omega

set_option maxHeartbeats 16000000 in
theorem all_succ (n : Nat) (hn : n < 4) (ih : ∀ (k : Nat), k < 6 → ∀ w, Calls Try.prog 21 #[.int .i64 n, .int .i64 k] w fun e w' => ∃ v, e = .returned v ∧ Below w.heap.size w w' ∧ Lists w.heap.size w' v (allN n k))
    (k : Nat) (hk : k < 6) (w : World) : Calls Try.prog 21 #[.int .i64 ((n : Int) + 1), .int .i64 k] w fun e w' => ∃ v, e = .returned v ∧ Below w.heap.size w w' ∧ Lists w.heap.size w' v (allN (n + 1) k) := by
  obtain ⟨i0, hi, hz0, hz1, hz2⟩ := info_parts info40
  obtain ⟨j0, hj, hy0, hy1, hy2⟩ := info_parts info3
  have hn0 : (((n : Int) + 1) == 0) = false := by simp; omega
  have ih := Lib.hid ih
  go_enter Try.func21, Try.ntmps21
  go_wp2
  go_loopw [5, 6] (fun v i wr => ∃ m : Nat, m ≤ k + 1 ∧ i = .int .i64 m ∧ Below w.heap.size w wr ∧ Lists w.heap.size wr v (allA n k m)) (fun _ i _ => k + 1 - (intOf i).toNat)
  case atStart => exact ⟨0, by omega, rfl, Below.refl _ _, Lists.nil _ _⟩
  case round =>
    obtain ⟨m, hm, rfl, hB, hL⟩ := hrel
    have hB := Lib.hid hB
    have hL := Lib.hid hL
    by_cases hm0 : m = 0
    · subst hm0
      rw [Int.natCast_zero] at *
      have ihk := Lib.hid (ih.out k hk)
      go_wp2
      go_loopw [5, 7] (fun v i wr => ∃ s : Nat, s ≤ 2 ∧ i = .int .i64 s ∧ Below w.heap.size w wr ∧ Lists w.heap.size wr v (allB n k 0 s)) (fun _ i _ => 2 - (intOf i).toNat)
      case atStart => exact ⟨0, by omega, rfl, hB.out, by rw [allB_zero]; exact hL.out⟩
      case round =>
        clear hB hL
        obtain ⟨s, hs, rfl, hB, hL⟩ := hrel
        have hB := Lib.hid hB
        have hL := Lib.hid hL
        rcases (by omega : s = 0 ∨ s = 1 ∨ s = 2) with rfl | rfl | rfl
        ·   go_wp2_with fail
            refine (ihk.out _).mono ?_
            rintro e w1 ⟨v9, rfl, hb1, hL9⟩
            have hB1 := Lib.hid (Below.trans hB.out (hb1.mono hB.out.size))
            have hL1 := Lib.hid (hL.out.below hb1)
            have hap := Lib.hid (apart_start hL.out hL9)
            have hL9 := Lib.hid (hL9.mono hB.out.size)
            obtain ⟨ao, cp, rfl⟩ := hL9.out.shape
            clear hb1 hB hL
            have hlen : (allN n k).length < 1000 := by rw [allN_len n (by omega) _ (by omega)]; exact V_small n (by omega) _ (by omega)
            go_wp2_with fail
            go_loopw [5, 10] (fun v i wx => ∃ c : Nat, c ≤ (allN n k).length ∧ i = .int .i64 c ∧ Below w.heap.size w wx ∧ Lists w.heap.size wx v (allC n k 0 0 c) ∧ Lists w.heap.size wx (.slice ao (allN n k).length cp) (allN n k) ∧ apart v (.slice ao (allN n k).length cp)) (fun _ i _ => (allN n k).length - (intOf i).toNat)
            case atStart => exact ⟨0, by omega, rfl, hB1.out, by rw [allC_zero]; exact hL1.out, hL9.out, hap.out⟩
            case round =>
              clear hB1 hL1 hL9 hap
              obtain ⟨c, hc, rfl, hB, hL, hL9, hne⟩ := hrel
              have hne := Lib.hid hne
              have hB := Lib.hid hB
              have hL := Lib.hid hL
              have hL9 := Lib.hid hL9
              by_cases hlc : c < (allN n k).length
              · go_wp2_with (at_builtin; refine wpList_append_own _ rfl (.tmp 52) (.tmp 54) 40 rfl wr.heap.size 3 j0 (.int .i64 0) 1 8 Try.underlying40 hj hy0 hy1 hy2 rfl (by decide) _ _ _ rfl ((World.ownsRow_nil wr wr.heap.size 3 1).alloc _) ⟨wr.heap.size, 0, none⟩ 1 1 [.int .i64 (0)] rfl rfl (new_one _ _ _) (cell_i64 _) (by unfold maxLen; omega) (by omega) (by simp) ?_)
                intro v1 w2 hown hgrow _
                have hb2 : Below wr.heap.size wr w2 := Below.trans (belowAlloc _ _) (own_grown ((World.ownsRow_nil wr wr.heap.size 3 1).alloc _) hgrow (by simp))
                have hown := Lib.hid hown
                clear hgrow
                obtain ⟨g9, x, rfl, hx9, ho9⟩ := (hL9.out.below hb2).get hlc
                have hb2 := Lib.hid hb2
                obtain ⟨g1, cp1, rfl⟩ := own_some hown.out (by omega)
                have hcp1 : 1 ≤ cp1 := own_cap hown.out
                rcases ho9.2 with ⟨rfl, hz⟩ | ⟨gx, cpx, curx, rfl, hgx⟩
                · have hx1 : w2.ownsRow wr.heap.size 3 1 (.slice (some ⟨g1, 0, none⟩) 1 cp1) (sg 0 0 :: (allN n k)[c]).length ((sg 0 0 :: (allN n k)[c]).map (Value.int .i64)) := by
                    have hnil : (allN n k)[c] = [] := List.eq_nil_of_length_eq_zero hz
                    rw [hnil]
                    exact hown.out
                  have hx1 := Lib.hid hx1
                  clear ho9 hz
                  obtain ⟨vs, hv1, hv2⟩ := hL.out.below hb2.out
                  have hv1 := Lib.hid hv1
                  have hv2 := Lib.hid hv2
                  have hcl := Lib.hid (allC_len n hn k hk 0 (by omega) 0 (by omega) c)
                  go_wp2_with (at_builtin; refine wpList_append_own_at _ rfl (.tmp 62) (.tmp 64) 28 rfl w.heap.size 40 i0 (.slice none 0 0) 1 24 Try.underlying28 hi hz0 hz1 hz2 rfl (by decide) _ _ _ rfl (hv1.out.alloc _) ⟨w2.heap.size, 0, none⟩ 1 1 [.slice (some ⟨g1, 0, none⟩) 1 cp1] rfl rfl (new_one _ _ _) (cell_slice _ _ _) (by have := hcl.out; unfold maxLen; omega) (by have := hcl.out; omega) (by have := hb2.out.size; have := hB.out.size; simp; omega) ?_)
                  intro v3 w3 hown3 hg3 _ hat
                  have hF := Lib.hid (allRound (z := sg 0 0 :: (allN n k)[c]) hB.out hB.out.size hL9.out hne.out hb2.out hx1.out hv1.out hv2.out _ hown3 hg3 hat)
                  clear hown3 hg3 hat hv1 hv2
                  go_wp2_with fail
                  go_roundw
                  case rel => exact ⟨c + 1, by omega, by go_num, hF.out.1, (allC_succ n k 0 0 c hlc) ▸ hF.out.2.1, hF.out.2.2.1, hF.out.2.2.2⟩
                  case measure => simp [intOf]; omega
                · have ho9 := Lib.hid ho9
                  clear hgx
                  have hlc2 := Lib.hid (lenof (by omega) (by omega) hlc)
                  go_wp2_with (at_builtin; refine wpList_append_own _ rfl (.tmp 56) (.tmp 60) 40 rfl wr.heap.size 3 j0 (.int .i64 0) 1 8 Try.underlying40 hj hy0 hy1 hy2 rfl (by decide) _ _ _ rfl hown.out ⟨gx, 0, none⟩ _ cpx (((allN n k)[c]).map (Value.int .i64)) rfl (by simp) (ho9.out.cells rfl) (cells_i64 _) (by have := hlc2.out; unfold maxLen; omega) (by have := hlc2.out; omega) hb2.out.size ?_)
                  intro v2 w4 hown4 hg4 _
                  have hb4 : Below wr.heap.size wr w4 := Below.trans hb2.out (own_grown hown.out hg4 hb2.out.size)
                  have hx4 : w4.ownsRow wr.heap.size 3 1 v2 (sg 0 0 :: (allN n k)[c]).length ((sg 0 0 :: (allN n k)[c]).map (Value.int .i64)) := by
                    rw [List.length_cons, Nat.add_comm]
                    exact hown4
                  have hx4 := Lib.hid hx4
                  have hb4 := Lib.hid hb4
                  obtain ⟨g2, cp2, rfl⟩ := own_some hown4 (by omega)
                  clear hown4 hg4 hb2 ho9 hown hx9
                  obtain ⟨vs, hv1, hv2⟩ := hL.out.below hb4.out
                  have hv1 := Lib.hid hv1
                  have hv2 := Lib.hid hv2
                  have hcl := Lib.hid (allC_len n hn k hk 0 (by omega) 0 (by omega) c)
                  go_wp2_with (at_builtin; refine wpList_append_own_at _ rfl (.tmp 62) (.tmp 64) 28 rfl w.heap.size 40 i0 (.slice none 0 0) 1 24 Try.underlying28 hi hz0 hz1 hz2 rfl (by decide) _ _ _ rfl (hv1.out.alloc _) ⟨w4.heap.size, 0, none⟩ 1 1 [.slice (some ⟨g2, 0, none⟩) (1 + ((allN n k)[c]).length) cp2] rfl rfl (new_one _ _ _) (cell_slice _ _ _) (by have := hcl.out; unfold maxLen; omega) (by have := hcl.out; omega) (by have := hb4.out.size; have := hB.out.size; simp; omega) ?_)
                  intro v3 w3 hown3 hg3 _ hat
                  have hF := Lib.hid (allRound (z := sg 0 0 :: (allN n k)[c]) hB.out hB.out.size hL9.out hne.out hb4.out hx4.out hv1.out hv2.out _ hown3 hg3 hat)
                  clear hown3 hg3 hat hv1 hv2
                  go_wp2_with fail
                  go_roundw
                  case rel => exact ⟨c + 1, by omega, by go_num, hF.out.1, (allC_succ n k 0 0 c hlc) ▸ hF.out.2.1, hF.out.2.2.1, hF.out.2.2.2⟩
                  case measure => simp [intOf]; omega
              · obtain rfl : c = (allN n k).length := by omega
                go_wp2_with fail
                go_roundw
                case rel => exact ⟨1, by omega, by go_num, hB.out, (allC_end0 n k 0) ▸ hL.out⟩
                case measure => simp [intOf]
        · go_wp2_with fail
          exact ⟨⟨2, by omega, by go_num, hB.out, by rw [← allB_skip]; exact hL.out⟩, by simp [intOf]⟩
        · go_wp2_with fail
          exact ⟨⟨1, by omega, by go_num, hB.out, by rw [← allB_two]; exact hL.out⟩, by simp [intOf]⟩
    · by_cases hl : m < k + 1
      · have ihk := Lib.hid (ih.out (k - m) (by omega))
        have hkm : ((k - m : Nat) : Int) = (k : Int) - m := by omega
        rw [hkm] at ihk
        clear hkm
        have hmk : (m : Int) ≤ k := by omega
        have hmk2 : m ≤ k := by omega
        have hmb : ((m : Int) == 0) = false := by simp; omega
        have hm0 := Lib.hid hm0
        go_wp2
        go_loopw [5, 7] (fun v i wr => ∃ s : Nat, s ≤ 2 ∧ i = .int .i64 s ∧ Below w.heap.size w wr ∧ Lists w.heap.size wr v (allB n k m s)) (fun _ i _ => 2 - (intOf i).toNat)
        case atStart => exact ⟨0, by omega, rfl, hB.out, by rw [allB_zero]; exact hL.out⟩
        case round =>
          clear hB hL
          obtain ⟨s, hs, rfl, hB, hL⟩ := hrel
          have hB := Lib.hid hB
          have hL := Lib.hid hL
          rcases (by omega : s = 0 ∨ s = 1 ∨ s = 2) with rfl | rfl | rfl
          ·   go_wp2_with fail
              refine (ihk.out _).mono ?_
              rintro e w1 ⟨v9, rfl, hb1, hL9⟩
              have hB1 := Lib.hid (Below.trans hB.out (hb1.mono hB.out.size))
              have hL1 := Lib.hid (hL.out.below hb1)
              have hap := Lib.hid (apart_start hL.out hL9)
              have hL9 := Lib.hid (hL9.mono hB.out.size)
              obtain ⟨ao, cp, rfl⟩ := hL9.out.shape
              clear hb1 hB hL
              have hlen : (allN n (k - m)).length < 1000 := by rw [allN_len n (by omega) _ (by omega)]; exact V_small n (by omega) _ (by omega)
              go_wp2_with fail
              go_loopw [5, 10] (fun v i wx => ∃ c : Nat, c ≤ (allN n (k - m)).length ∧ i = .int .i64 c ∧ Below w.heap.size w wx ∧ Lists w.heap.size wx v (allC n k m 0 c) ∧ Lists w.heap.size wx (.slice ao (allN n (k - m)).length cp) (allN n (k - m)) ∧ apart v (.slice ao (allN n (k - m)).length cp)) (fun _ i _ => (allN n (k - m)).length - (intOf i).toNat)
              case atStart => exact ⟨0, by omega, rfl, hB1.out, by rw [allC_zero]; exact hL1.out, hL9.out, hap.out⟩
              case round =>
                clear hB1 hL1 hL9 hap
                obtain ⟨c, hc, rfl, hB, hL, hL9, hne⟩ := hrel
                have hne := Lib.hid hne
                have hB := Lib.hid hB
                have hL := Lib.hid hL
                have hL9 := Lib.hid hL9
                by_cases hlc : c < (allN n (k - m)).length
                · go_wp2_with (at_builtin; refine wpList_append_own _ rfl (.tmp 52) (.tmp 54) 40 rfl wr.heap.size 3 j0 (.int .i64 0) 1 8 Try.underlying40 hj hy0 hy1 hy2 rfl (by decide) _ _ _ rfl ((World.ownsRow_nil wr wr.heap.size 3 1).alloc _) ⟨wr.heap.size, 0, none⟩ 1 1 [.int .i64 ((m : Int))] rfl rfl (new_one _ _ _) (cell_i64 _) (by unfold maxLen; omega) (by omega) (by simp) ?_)
                  intro v1 w2 hown hgrow _
                  have hb2 : Below wr.heap.size wr w2 := Below.trans (belowAlloc _ _) (own_grown ((World.ownsRow_nil wr wr.heap.size 3 1).alloc _) hgrow (by simp))
                  have hown := Lib.hid hown
                  clear hgrow
                  obtain ⟨g9, x, rfl, hx9, ho9⟩ := (hL9.out.below hb2).get hlc
                  have hb2 := Lib.hid hb2
                  obtain ⟨g1, cp1, rfl⟩ := own_some hown.out (by omega)
                  have hcp1 : 1 ≤ cp1 := own_cap hown.out
                  rcases ho9.2 with ⟨rfl, hz⟩ | ⟨gx, cpx, curx, rfl, hgx⟩
                  · have hx1 : w2.ownsRow wr.heap.size 3 1 (.slice (some ⟨g1, 0, none⟩) 1 cp1) (sg m 0 :: (allN n (k - m))[c]).length ((sg m 0 :: (allN n (k - m))[c]).map (Value.int .i64)) := by
                      have hnil : (allN n (k - m))[c] = [] := List.eq_nil_of_length_eq_zero hz
                      rw [hnil]
                      exact hown.out
                    have hx1 := Lib.hid hx1
                    clear ho9 hz
                    obtain ⟨vs, hv1, hv2⟩ := hL.out.below hb2.out
                    have hv1 := Lib.hid hv1
                    have hv2 := Lib.hid hv2
                    have hcl := Lib.hid (allC_len n hn k hk m (by omega) 0 (by omega) c)
                    go_wp2_with (at_builtin; refine wpList_append_own_at _ rfl (.tmp 62) (.tmp 64) 28 rfl w.heap.size 40 i0 (.slice none 0 0) 1 24 Try.underlying28 hi hz0 hz1 hz2 rfl (by decide) _ _ _ rfl (hv1.out.alloc _) ⟨w2.heap.size, 0, none⟩ 1 1 [.slice (some ⟨g1, 0, none⟩) 1 cp1] rfl rfl (new_one _ _ _) (cell_slice _ _ _) (by have := hcl.out; unfold maxLen; omega) (by have := hcl.out; omega) (by have := hb2.out.size; have := hB.out.size; simp; omega) ?_)
                    intro v3 w3 hown3 hg3 _ hat
                    have hF := Lib.hid (allRound (z := sg m 0 :: (allN n (k - m))[c]) hB.out hB.out.size hL9.out hne.out hb2.out hx1.out hv1.out hv2.out _ hown3 hg3 hat)
                    clear hown3 hg3 hat hv1 hv2
                    go_wp2_with fail
                    go_roundw
                    case rel => exact ⟨c + 1, by omega, by go_num, hF.out.1, (allC_succ n k m 0 c hlc) ▸ hF.out.2.1, hF.out.2.2.1, hF.out.2.2.2⟩
                    case measure => simp [intOf]; omega
                  · have ho9 := Lib.hid ho9
                    clear hgx
                    have hlc2 := Lib.hid (lenof (by omega) (by omega) hlc)
                    go_wp2_with (at_builtin; refine wpList_append_own _ rfl (.tmp 56) (.tmp 60) 40 rfl wr.heap.size 3 j0 (.int .i64 0) 1 8 Try.underlying40 hj hy0 hy1 hy2 rfl (by decide) _ _ _ rfl hown.out ⟨gx, 0, none⟩ _ cpx (((allN n (k - m))[c]).map (Value.int .i64)) rfl (by simp) (ho9.out.cells rfl) (cells_i64 _) (by have := hlc2.out; unfold maxLen; omega) (by have := hlc2.out; omega) hb2.out.size ?_)
                    intro v2 w4 hown4 hg4 _
                    have hb4 : Below wr.heap.size wr w4 := Below.trans hb2.out (own_grown hown.out hg4 hb2.out.size)
                    have hx4 : w4.ownsRow wr.heap.size 3 1 v2 (sg m 0 :: (allN n (k - m))[c]).length ((sg m 0 :: (allN n (k - m))[c]).map (Value.int .i64)) := by
                      rw [List.length_cons, Nat.add_comm]
                      exact hown4
                    have hx4 := Lib.hid hx4
                    have hb4 := Lib.hid hb4
                    obtain ⟨g2, cp2, rfl⟩ := own_some hown4 (by omega)
                    clear hown4 hg4 hb2 ho9 hown hx9
                    obtain ⟨vs, hv1, hv2⟩ := hL.out.below hb4.out
                    have hv1 := Lib.hid hv1
                    have hv2 := Lib.hid hv2
                    have hcl := Lib.hid (allC_len n hn k hk m (by omega) 0 (by omega) c)
                    go_wp2_with (at_builtin; refine wpList_append_own_at _ rfl (.tmp 62) (.tmp 64) 28 rfl w.heap.size 40 i0 (.slice none 0 0) 1 24 Try.underlying28 hi hz0 hz1 hz2 rfl (by decide) _ _ _ rfl (hv1.out.alloc _) ⟨w4.heap.size, 0, none⟩ 1 1 [.slice (some ⟨g2, 0, none⟩) (1 + ((allN n (k - m))[c]).length) cp2] rfl rfl (new_one _ _ _) (cell_slice _ _ _) (by have := hcl.out; unfold maxLen; omega) (by have := hcl.out; omega) (by have := hb4.out.size; have := hB.out.size; simp; omega) ?_)
                    intro v3 w3 hown3 hg3 _ hat
                    have hF := Lib.hid (allRound (z := sg m 0 :: (allN n (k - m))[c]) hB.out hB.out.size hL9.out hne.out hb4.out hx4.out hv1.out hv2.out _ hown3 hg3 hat)
                    clear hown3 hg3 hat hv1 hv2
                    go_wp2_with fail
                    go_roundw
                    case rel => exact ⟨c + 1, by omega, by go_num, hF.out.1, (allC_succ n k m 0 c hlc) ▸ hF.out.2.1, hF.out.2.2.1, hF.out.2.2.2⟩
                    case measure => simp [intOf]; omega
                · obtain rfl : c = (allN n (k - m)).length := by omega
                  go_wp2_with fail
                  go_roundw
                  case rel => exact ⟨1, by omega, by go_num, hB.out, (allC_end0 n k m) ▸ hL.out⟩
                  case measure => simp [intOf]
          ·   go_wp2_with fail
              refine (ihk.out _).mono ?_
              rintro e w1 ⟨v9, rfl, hb1, hL9⟩
              have hB1 := Lib.hid (Below.trans hB.out (hb1.mono hB.out.size))
              have hL1 := Lib.hid (hL.out.below hb1)
              have hap := Lib.hid (apart_start hL.out hL9)
              have hL9 := Lib.hid (hL9.mono hB.out.size)
              obtain ⟨ao, cp, rfl⟩ := hL9.out.shape
              clear hb1 hB hL
              have hlen : (allN n (k - m)).length < 1000 := by rw [allN_len n (by omega) _ (by omega)]; exact V_small n (by omega) _ (by omega)
              go_wp2_with fail
              go_loopw [5, 10] (fun v i wx => ∃ c : Nat, c ≤ (allN n (k - m)).length ∧ i = .int .i64 c ∧ Below w.heap.size w wx ∧ Lists w.heap.size wx v (allC n k m 1 c) ∧ Lists w.heap.size wx (.slice ao (allN n (k - m)).length cp) (allN n (k - m)) ∧ apart v (.slice ao (allN n (k - m)).length cp)) (fun _ i _ => (allN n (k - m)).length - (intOf i).toNat)
              case atStart => exact ⟨0, by omega, rfl, hB1.out, by rw [allC_zero]; exact hL1.out, hL9.out, hap.out⟩
              case round =>
                clear hB1 hL1 hL9 hap
                obtain ⟨c, hc, rfl, hB, hL, hL9, hne⟩ := hrel
                have hne := Lib.hid hne
                have hB := Lib.hid hB
                have hL := Lib.hid hL
                have hL9 := Lib.hid hL9
                by_cases hlc : c < (allN n (k - m)).length
                · go_wp2_with (at_builtin; refine wpList_append_own _ rfl (.tmp 52) (.tmp 54) 40 rfl wr.heap.size 3 j0 (.int .i64 0) 1 8 Try.underlying40 hj hy0 hy1 hy2 rfl (by decide) _ _ _ rfl ((World.ownsRow_nil wr wr.heap.size 3 1).alloc _) ⟨wr.heap.size, 0, none⟩ 1 1 [.int .i64 (-(m : Int))] rfl rfl (new_one _ _ _) (cell_i64 _) (by unfold maxLen; omega) (by omega) (by simp) ?_)
                  intro v1 w2 hown hgrow _
                  have hb2 : Below wr.heap.size wr w2 := Below.trans (belowAlloc _ _) (own_grown ((World.ownsRow_nil wr wr.heap.size 3 1).alloc _) hgrow (by simp))
                  have hown := Lib.hid hown
                  clear hgrow
                  obtain ⟨g9, x, rfl, hx9, ho9⟩ := (hL9.out.below hb2).get hlc
                  have hb2 := Lib.hid hb2
                  obtain ⟨g1, cp1, rfl⟩ := own_some hown.out (by omega)
                  have hcp1 : 1 ≤ cp1 := own_cap hown.out
                  rcases ho9.2 with ⟨rfl, hz⟩ | ⟨gx, cpx, curx, rfl, hgx⟩
                  · have hx1 : w2.ownsRow wr.heap.size 3 1 (.slice (some ⟨g1, 0, none⟩) 1 cp1) (sg m 1 :: (allN n (k - m))[c]).length ((sg m 1 :: (allN n (k - m))[c]).map (Value.int .i64)) := by
                      have hnil : (allN n (k - m))[c] = [] := List.eq_nil_of_length_eq_zero hz
                      rw [hnil]
                      exact hown.out
                    have hx1 := Lib.hid hx1
                    clear ho9 hz
                    obtain ⟨vs, hv1, hv2⟩ := hL.out.below hb2.out
                    have hv1 := Lib.hid hv1
                    have hv2 := Lib.hid hv2
                    have hcl := Lib.hid (allC_len n hn k hk m (by omega) 1 (by omega) c)
                    go_wp2_with (at_builtin; refine wpList_append_own_at _ rfl (.tmp 62) (.tmp 64) 28 rfl w.heap.size 40 i0 (.slice none 0 0) 1 24 Try.underlying28 hi hz0 hz1 hz2 rfl (by decide) _ _ _ rfl (hv1.out.alloc _) ⟨w2.heap.size, 0, none⟩ 1 1 [.slice (some ⟨g1, 0, none⟩) 1 cp1] rfl rfl (new_one _ _ _) (cell_slice _ _ _) (by have := hcl.out; unfold maxLen; omega) (by have := hcl.out; omega) (by have := hb2.out.size; have := hB.out.size; simp; omega) ?_)
                    intro v3 w3 hown3 hg3 _ hat
                    have hF := Lib.hid (allRound (z := sg m 1 :: (allN n (k - m))[c]) hB.out hB.out.size hL9.out hne.out hb2.out hx1.out hv1.out hv2.out _ hown3 hg3 hat)
                    clear hown3 hg3 hat hv1 hv2
                    go_wp2_with fail
                    go_roundw
                    case rel => exact ⟨c + 1, by omega, by go_num, hF.out.1, (allC_succ n k m 1 c hlc) ▸ hF.out.2.1, hF.out.2.2.1, hF.out.2.2.2⟩
                    case measure => simp [intOf]; omega
                  · have ho9 := Lib.hid ho9
                    clear hgx
                    have hlc2 := Lib.hid (lenof (by omega) (by omega) hlc)
                    go_wp2_with (at_builtin; refine wpList_append_own _ rfl (.tmp 56) (.tmp 60) 40 rfl wr.heap.size 3 j0 (.int .i64 0) 1 8 Try.underlying40 hj hy0 hy1 hy2 rfl (by decide) _ _ _ rfl hown.out ⟨gx, 0, none⟩ _ cpx (((allN n (k - m))[c]).map (Value.int .i64)) rfl (by simp) (ho9.out.cells rfl) (cells_i64 _) (by have := hlc2.out; unfold maxLen; omega) (by have := hlc2.out; omega) hb2.out.size ?_)
                    intro v2 w4 hown4 hg4 _
                    have hb4 : Below wr.heap.size wr w4 := Below.trans hb2.out (own_grown hown.out hg4 hb2.out.size)
                    have hx4 : w4.ownsRow wr.heap.size 3 1 v2 (sg m 1 :: (allN n (k - m))[c]).length ((sg m 1 :: (allN n (k - m))[c]).map (Value.int .i64)) := by
                      rw [List.length_cons, Nat.add_comm]
                      exact hown4
                    have hx4 := Lib.hid hx4
                    have hb4 := Lib.hid hb4
                    obtain ⟨g2, cp2, rfl⟩ := own_some hown4 (by omega)
                    clear hown4 hg4 hb2 ho9 hown hx9
                    obtain ⟨vs, hv1, hv2⟩ := hL.out.below hb4.out
                    have hv1 := Lib.hid hv1
                    have hv2 := Lib.hid hv2
                    have hcl := Lib.hid (allC_len n hn k hk m (by omega) 1 (by omega) c)
                    go_wp2_with (at_builtin; refine wpList_append_own_at _ rfl (.tmp 62) (.tmp 64) 28 rfl w.heap.size 40 i0 (.slice none 0 0) 1 24 Try.underlying28 hi hz0 hz1 hz2 rfl (by decide) _ _ _ rfl (hv1.out.alloc _) ⟨w4.heap.size, 0, none⟩ 1 1 [.slice (some ⟨g2, 0, none⟩) (1 + ((allN n (k - m))[c]).length) cp2] rfl rfl (new_one _ _ _) (cell_slice _ _ _) (by have := hcl.out; unfold maxLen; omega) (by have := hcl.out; omega) (by have := hb4.out.size; have := hB.out.size; simp; omega) ?_)
                    intro v3 w3 hown3 hg3 _ hat
                    have hF := Lib.hid (allRound (z := sg m 1 :: (allN n (k - m))[c]) hB.out hB.out.size hL9.out hne.out hb4.out hx4.out hv1.out hv2.out _ hown3 hg3 hat)
                    clear hown3 hg3 hat hv1 hv2
                    go_wp2_with fail
                    go_roundw
                    case rel => exact ⟨c + 1, by omega, by go_num, hF.out.1, (allC_succ n k m 1 c hlc) ▸ hF.out.2.1, hF.out.2.2.1, hF.out.2.2.2⟩
                    case measure => simp [intOf]; omega
                · obtain rfl : c = (allN n (k - m)).length := by omega
                  go_wp2_with fail
                  go_roundw
                  case rel => exact ⟨2, by omega, by go_num, hB.out, (allC_end1 n k m hm0.out) ▸ hL.out⟩
                  case measure => simp [intOf]
          · go_wp2_with fail
            exact ⟨⟨m + 1, by omega, by go_num, hB.out, by rw [← allB_two]; exact hL.out⟩, by simp [intOf]; omega⟩
      · obtain rfl : m = k + 1 := by omega
        go_wp2
        go_ret
        refine ⟨_, rfl, hB.out, ?_⟩
        rw [← allA_end]
        exact hL.out

theorem all_any : ∀ (n : Nat), n < 5 → ∀ (k : Nat), k < 6 → ∀ w, Calls Try.prog 21 #[.int .i64 n, .int .i64 k] w fun e w' => ∃ v, e = .returned v ∧ Below w.heap.size w w' ∧ Lists w.heap.size w' v (allN n k)
  | 0, _, k, hk, w => all_zero k hk w
  | n + 1, hn, k, hk, w => all_succ n (by omega) (fun k hk w => all_any n (by omega) k hk w) k hk w
end Go.Proofs.Ytegjkognlfemgaa
