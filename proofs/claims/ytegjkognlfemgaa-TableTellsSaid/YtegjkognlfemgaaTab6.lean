/- The law TableTells: its walk. -/
import Derived.Test.YtegjkognlfemgaaTab5
import Derived.Test.YtegjkognlfemgaaRank9
import Derived.Laws.AppendOwnNone
namespace Go.Proofs.Ytegjkognlfemgaa
open Go.RowKit

theorem own_empty2 (w : World) (base : Nat) (hb : base ≤ w.heap.size) : (w.alloc (.cells #[] 3)).ownsRow base 3 1 (.slice (some ⟨w.heap.size, 0, none⟩) 0 0) 0 [] :=
  ⟨rfl, .inr ⟨w.heap.size, 0, #[], rfl, hb, heap_alloc_new w _, Nat.le_refl _, by unfold maxLen; omega, rfl, rfl⟩⟩
theorem append_nil (g cap : Nat) (w : World) : (Builtin.append_ #[40, 40] 40 #[.slice (some ⟨g, 0, none⟩) 0 0, .slice none 0 cap]).run Try.prog w = .ok (.slice (some ⟨g, 0, none⟩) 0 0) w := by
  obtain ⟨i0, hti, ti0, ti1, ti2⟩ := info_parts infoI
  simp [Builtin.append_, run_underlying Try.underlying40, sizeOf, typeInfo, hti, Builtin.lenOf, Builtin.firstCells, storeCells]

/-- What of a vector an append reads. -/
structure Src (w : World) (ad : Addr) (zs : List Int) : Prop where
  l1 : ∀ j' u, (zs.map (Value.int .i64))[j']? = some u → (w.alloc (.cells #[] 3)).cell? (ad.add j') = some u
  l2 : ∀ u ∈ zs.map (Value.int .i64), u.oneCell' = true
  l0 : (zs.map (Value.int .i64)).length = zs.length * 1
theorem vec_src {w : World} {v : Value} {zs : List Int} (h : IsVec w v zs) : (∃ cap, v = .slice none 0 cap ∧ zs = []) ∨ ∃ ad cap, v = .slice (some ad) zs.length cap ∧ Src w ad zs := by
  have two : ∀ u ∈ zs.map (Value.int .i64), u.oneCell' = true := by intro u hu; simp at hu; obtain ⟨_, _, rfl⟩ := hu; rfl
  rcases h with ⟨ao, cap, rfl, rfl⟩ | ⟨b, off, cap, rfl, h1, h2, h3⟩
  · cases ao with
    | none => exact .inl ⟨cap, rfl, rfl⟩
    | some ad => exact .inr ⟨ad, cap, rfl, fun j' u hu => by simp at hu, two, rfl⟩
  · refine .inr ⟨_, cap, rfl, fun j' u hu => ?_, two, by simp⟩
    rw [Go.WideShapes.add_plain]
    have hj : j' < zs.length := by
      have := (List.getElem?_eq_some_iff.1 hu).1
      simpa using this
    refine ((belowAlloc w _).cell (p := ⟨b, off + j', none⟩) h2).trans ?_
    rw [h3 j' hj, ← hu]
    simp [hj]

set_option maxRecDepth 100000 in
set_option maxHeartbeats 16000000 in
theorem tableTells_walk (n k : Int) (zs : List Int) (hz : ∀ x ∈ zs, Num x) (hlen : zs.length ≤ 9223372036854775807) (v : Value) (w : World) (hv : IsVec w v zs) :
    Calls Try.prog 12 #[.int .i64 n, .int .i64 k, v] w fun e w' => e = .returned (.bool true) ∧ Below w.heap.size w w' := by
  by_cases h60 : 60 < zs.length
  · obtain ⟨A, cap, rfl, hat⟩ := hv.form
    obtain ⟨len, hlen2⟩ : ∃ len, len = zs.length := ⟨_, rfl⟩
    rw [← hlen2] at hlen h60 ⊢
    clear hat hv hlen2 hz
    go_enter Try.func12, Try.ntmps12
    go_wp2_with fail
    refine (awake12 _).mono ?_
    rintro e w0 ⟨rfl, b0⟩
    replace b0 := Lib.hid b0
    go_wp2_with fail
    go_ret
    exact ⟨rfl, b0.out⟩
  · have cs := Lib.hid (fun v1 v2 w (h1 : IsVec w v1 zs) (h2 : IsVec w v2 zs) => ints_any zs zs (by omega) (by omega) v1 v2 w h1 h2)
    have hsame : same zs zs = true := by unfold same; simp
    rw [hsame] at cs
    have cy := Lib.hid (fun (hr : right zs = true) w g (h : IsVec w v zs) hT => tabRank_yes zs hr v w g h hT)
    have cn := Lib.hid (fun (hr : right zs = false) w g (h : IsVec w v zs) => tabRank_no zs hr (by omega) v w g h)
    have ry := Lib.hid (fun (hr : right zs = true) w (h : IsVec w v zs) => refRank12_yes zs hr v w h)
    have rn := Lib.hid (fun (hr : right zs = false) w (h : IsVec w v zs) => refRank12_no zs hr (by omega) v w h)
    have hrk : ∀ h : right zs = true, rkN zs < 1000000000000000000 := fun h => rk_bound h
    have hshape : ∃ A cap, v = .slice A zs.length cap := by obtain ⟨A, cap, h, _⟩ := hv.form; exact ⟨A, cap, h⟩
    obtain ⟨A, cap, rfl⟩ := hshape
    have hvh := Lib.hid hv
    obtain ⟨len, hlen2⟩ : ∃ len, len = zs.length := ⟨_, rfl⟩
    rw [← hlen2] at hlen h60 cy cn ry rn hvh ⊢
    replace hlen2 := Lib.hid hlen2
    replace hrk := Lib.hid hrk
    clear hv hz hsame
    go_enter Try.func12, Try.ntmps12
    go_wp2_with fail
    refine (awake12 _).mono ?_
    rintro e w0 ⟨rfl, b0⟩
    replace hvh := Lib.hid (hvh.out.below b0)
    replace b0 := Lib.hid b0
    go_wp2_with fail
    refine (tabNew_any _).mono ?_
    rintro e w1 ⟨rfl, ht, hb⟩
    replace hvh := Lib.hid (hvh.out.below hb)
    have hb1 := Lib.hid (Below.trans b0.out (hb.mono b0.out.size))
    have hglt := Lib.hid ht.lt
    replace ht := Lib.hid ht
    clear hb
    obtain ⟨i0, hti, ti0, ti1, ti2⟩ := info_parts infoI
    have key : ∀ v' w2, w2.ownsRow w1.heap.size 3 1 v' len (zs.map (Value.int .i64)) → Below w1.heap.size w1 w2 → IsVec w2 v' zs ∧ IsVec w2 (.slice A len cap) zs ∧ IsTab w2 w0.heap.size ∧ Below w.heap.size w w2 := fun v' w2 h1 h2 =>
      ⟨own_vec hlen2.out h1, hvh.out.below h2, ht.out.below h2, Below.trans hb1.out (h2.mono hb1.out.size)⟩
    replace key := Lib.hid key
    have hsrc := vec_src hvh.out
    rcases hsrc with ⟨cap', he, hze⟩ | ⟨ad, cap', he, hS⟩
    · injection he with e1 e2 e3
      subst e1 e3
      have hl0 : len = 0 := e2
      subst hl0
      have hown : (w1.alloc (.cells #[] 3)).ownsRow w1.heap.size 3 1 (.slice (some ⟨w1.heap.size, 0, none⟩) 0 0) 0 (zs.map (Value.int .i64)) := by rw [hze]; exact own_empty2 w1 _ (Nat.le_refl _)
      obtain ⟨k1, k2, k3, k4⟩ := key.out _ _ hown (belowAlloc w1 _)
      have hrun := append_nil w1.heap.size cap (w1.alloc (.cells #[] 3))
      replace hze := Lib.hid hze
      obtain ⟨w2, hw2⟩ : ∃ w2, w2 = w1.alloc (.cells #[] 3) := ⟨_, rfl⟩
      rw [← hw2] at k1 k2 k3 k4 hrun
      replace hw2 := hw2.symm
      replace k1 := Lib.hid k1
      replace k2 := Lib.hid k2
      replace k3 := Lib.hid k3
      replace k4 := Lib.hid k4
      clear hown key
      go_wp2_with fail
      cases hR : right zs with
      | false =>
        as_aux_lemma =>
          have cn1 := Lib.hid (cn.out hR)
          have rn1 := Lib.hid (rn.out hR)
          clear cn cy rn ry hrk hR
          with_reducible refine Calls.mono (cn1.out _ _ k2.out) ?_
          rintro e w3 ⟨rfl, rfl⟩
          go_wp2_with fail
          with_reducible refine Calls.mono (rn1.out _ k2.out) ?_
          rintro e w3 ⟨rfl, rfl⟩
          go_wp2_with fail
          with_reducible refine Calls.mono (tabV_any n k _ _ k3.out) ?_
          rintro e w3 ⟨rfl, rfl⟩
          go_wp2_with fail
          with_reducible refine Calls.mono (refV12_any n k _) ?_
          rintro e w3 ⟨rfl, rfl⟩
          go_wp2_with fail
          with_reducible refine Calls.mono (cs.out _ _ _ k2.out k1.out) ?_
          rintro e w3 ⟨rfl, d, rfl⟩
          go_wp2_with fail
          go_ret
          exact ⟨rfl, below_drewN k4.out _⟩
      | true =>
        as_aux_lemma =>
          have cy1 := Lib.hid (cy.out hR)
          have ry1 := Lib.hid (ry.out hR)
          have hrk1 := hrk.out hR
          clear cn cy rn ry hrk hR
          obtain ⟨X, hX⟩ : ∃ X, X = rkN zs := ⟨_, rfl⟩
          rw [← hX] at cy1 ry1 hrk1
          clear hX
          with_reducible refine Calls.mono (cy1.out _ _ k2.out k3.out) ?_
          rintro e w3 ⟨rfl, d, rfl⟩
          go_wp2_with fail
          have k22 := Lib.hid (k2.out.below (below_drewN (Below.refl _ _) d))
          have k32 := Lib.hid (k3.out.drewN d)
          have k12 := Lib.hid (k1.out.below (below_drewN (Below.refl _ _) d))
          have k42 := Lib.hid (below_drewN k4.out d)
          with_reducible refine Calls.mono (ry1.out _ k22.out) ?_
          rintro e w3 ⟨rfl, d2, rfl⟩
          obtain ⟨w4, hw4⟩ : ∃ w4, w4 = (w2.drewN d).drewN d2 := ⟨_, rfl⟩
          rw [← hw4]
          have k23 : Hid (IsVec w4 _ zs) := Lib.hid (by rw [hw4]; exact k22.out.below (below_drewN (Below.refl _ _) d2))
          have k33 : Hid (IsTab w4 _) := Lib.hid (by rw [hw4]; exact k32.out.drewN d2)
          have k13 : Hid (IsVec w4 _ zs) := Lib.hid (by rw [hw4]; exact k12.out.below (below_drewN (Below.refl _ _) d2))
          have k43 : Hid (Below w.heap.size w w4) := Lib.hid (by rw [hw4]; exact below_drewN k42.out d2)
          clear k1 k2 k3 k4 k12 k22 k32 k42 hw4
          go_wp2_with fail
          with_reducible refine Calls.mono (tabV_any n k _ _ k33.out) ?_
          rintro e w3 ⟨rfl, rfl⟩
          go_wp2_with fail
          with_reducible refine Calls.mono (refV12_any n k _) ?_
          rintro e w3 ⟨rfl, rfl⟩
          go_wp2_with fail
          with_reducible refine Calls.mono (cs.out _ _ _ k23.out k13.out) ?_
          rintro e w5 ⟨rfl, d5, rfl⟩
          go_wp2_with fail
          go_ret
          exact ⟨rfl, below_drewN k43.out _⟩
    · injection he with e1 e2 e3
      subst e1 e3
      have l0 : Hid ((zs.map (Value.int .i64)).length = len * 1) := Lib.hid (by rw [hlen2.out]; exact hS.l0)
      have l1 := Lib.hid hS.l1
      have l2 := Lib.hid hS.l2
      have l3 : Hid (0 + len ≤ maxLen) := Lib.hid (by unfold maxLen; omega)
      have l4 : Hid ((0 + len) * 8 ≤ 140737488355328) := Lib.hid (by omega)
      have l5 : Hid (w1.heap.size ≤ (w1.alloc (.cells #[] 3)).heap.size) := Lib.hid (by simp)
      clear hS e2
      go_wp2_with (at_builtin; refine wpList_append_own _ rfl _ _ 40 rfl w1.heap.size 3 i0 (.int .i64 0) 1 8 Try.underlying40 hti ti0 ti1 ti2 rfl (by decide) _ _ _ rfl (own_empty2 w1 _ (Nat.le_refl _)) ad len cap (zs.map (Value.int .i64)) rfl l0.out l1.out l2.out l3.out l4.out l5.out ?_)
      intro v' w2 hown hgrow _
      try simp only [Nat.zero_add, List.nil_append] at hown
      have hb2 : Below w1.heap.size w1 w2 := Below.trans (belowAlloc w1 _) (grown_old (gm := w1.heap.size) hgrow (Nat.le_refl _) (by simp))
      obtain ⟨k1, k2, k3, k4⟩ := key.out v' w2 hown hb2
      replace k1 := Lib.hid k1
      replace k2 := Lib.hid k2
      replace k3 := Lib.hid k3
      replace k4 := Lib.hid k4
      clear hown hgrow hb2 l0 l1 l2 l3 l4 l5 key
      go_wp2_with fail
      cases hR : right zs with
      | false =>
        as_aux_lemma =>
          have cn1 := Lib.hid (cn.out hR)
          have rn1 := Lib.hid (rn.out hR)
          clear cn cy rn ry hrk hR
          with_reducible refine Calls.mono (cn1.out _ _ k2.out) ?_
          rintro e w3 ⟨rfl, rfl⟩
          go_wp2_with fail
          with_reducible refine Calls.mono (rn1.out _ k2.out) ?_
          rintro e w3 ⟨rfl, rfl⟩
          go_wp2_with fail
          with_reducible refine Calls.mono (tabV_any n k _ _ k3.out) ?_
          rintro e w3 ⟨rfl, rfl⟩
          go_wp2_with fail
          with_reducible refine Calls.mono (refV12_any n k _) ?_
          rintro e w3 ⟨rfl, rfl⟩
          go_wp2_with fail
          with_reducible refine Calls.mono (cs.out _ _ _ k2.out k1.out) ?_
          rintro e w3 ⟨rfl, d, rfl⟩
          go_wp2_with fail
          go_ret
          exact ⟨rfl, below_drewN k4.out _⟩
      | true =>
        as_aux_lemma =>
          have cy1 := Lib.hid (cy.out hR)
          have ry1 := Lib.hid (ry.out hR)
          have hrk1 := hrk.out hR
          clear cn cy rn ry hrk hR
          obtain ⟨X, hX⟩ : ∃ X, X = rkN zs := ⟨_, rfl⟩
          rw [← hX] at cy1 ry1 hrk1
          clear hX
          with_reducible refine Calls.mono (cy1.out _ _ k2.out k3.out) ?_
          rintro e w3 ⟨rfl, d, rfl⟩
          go_wp2_with fail
          have k22 := Lib.hid (k2.out.below (below_drewN (Below.refl _ _) d))
          have k32 := Lib.hid (k3.out.drewN d)
          have k12 := Lib.hid (k1.out.below (below_drewN (Below.refl _ _) d))
          have k42 := Lib.hid (below_drewN k4.out d)
          with_reducible refine Calls.mono (ry1.out _ k22.out) ?_
          rintro e w3 ⟨rfl, d2, rfl⟩
          obtain ⟨w4, hw4⟩ : ∃ w4, w4 = (w2.drewN d).drewN d2 := ⟨_, rfl⟩
          rw [← hw4]
          have k23 : Hid (IsVec w4 _ zs) := Lib.hid (by rw [hw4]; exact k22.out.below (below_drewN (Below.refl _ _) d2))
          have k33 : Hid (IsTab w4 _) := Lib.hid (by rw [hw4]; exact k32.out.drewN d2)
          have k13 : Hid (IsVec w4 _ zs) := Lib.hid (by rw [hw4]; exact k12.out.below (below_drewN (Below.refl _ _) d2))
          have k43 : Hid (Below w.heap.size w w4) := Lib.hid (by rw [hw4]; exact below_drewN k42.out d2)
          clear k1 k2 k3 k4 k12 k22 k32 k42 hw4
          go_wp2_with fail
          with_reducible refine Calls.mono (tabV_any n k _ _ k33.out) ?_
          rintro e w3 ⟨rfl, rfl⟩
          go_wp2_with fail
          with_reducible refine Calls.mono (refV12_any n k _) ?_
          rintro e w3 ⟨rfl, rfl⟩
          go_wp2_with fail
          with_reducible refine Calls.mono (cs.out _ _ _ k23.out k13.out) ?_
          rintro e w5 ⟨rfl, d5, rfl⟩
          go_wp2_with fail
          go_ret
          exact ⟨rfl, below_drewN k43.out _⟩
end Go.Proofs.Ytegjkognlfemgaa
