/- The law ConcealTells: its walk. -/
import Derived.Test.YtckcjgmikjpfaaaDoorCon14
namespace Go.Proofs.YtckcjgmikjpfaaaDoor
open Go.RowKit

theorem in_yes (zs : List Int) (ht : thr zs.length = true) (hz : ∀ j, I32 (zs.getD j 0)) (k : Int) (mb rb hb cap : Nat) (w : World) (hM : Mk w zs.length mb rb) (hne : rb ≠ hb) (hnm : mb ≠ hb) (hlt : hb < w.heap.size) (hcap : zs.length ≤ cap)
    (hc : ∀ j, j < zs.length → w.cell? ⟨hb, j, none⟩ = some (.int .i32 (zs.getD j 0))) (hf : ∀ j, w.frozen? ⟨hb, j, none⟩ = false) (hF : Fades w) :
    Calls Tryd.prog 16 #[.pointer (some ⟨mb, 0, none⟩), .slice (some ⟨hb, 0, none⟩) zs.length cap, .int .i64 k] w fun e w' => e = .returned (.bool true) ∧ IN w zs.length mb rb hb (fun j => (plL zs k zs.length).getD j 0) w' := by
  by_cases hk : fdv k = 0
  · exact in_clear zs ht k hk mb rb hb cap w hM hne hnm hc hf hF
  · exact in_made zs ht hz k hk mb rb hb cap w hM hne hnm hlt hcap hc hf hF

theorem thr_ref (n : Nat) : ((n : Int) == 8 || (n : Int) == 16 || (n : Int) == 32) = thr n := by
  unfold thr
  rw [Bool.eq_iff_iff]
  simp
  omega

set_option maxHeartbeats 4000000 in
theorem tells_big (zs : List Int) (hl : 40 < zs.length) (k : Int) (v : Value) (w : World) (hv : IsH w v zs) (hF : Fades w) (h0 : 0 < w.heap.size) :
    Calls Tryd.prog 5 #[v, .int .i64 k] w fun e w' => e = .returned (.bool true) ∧ Below w.heap.size w w' := by
  obtain ⟨A, cap, rfl, _⟩ := hv
  have ca := Lib.hid (awake_any w hF h0)
  obtain ⟨n, hn⟩ : ∃ n, n = zs.length := ⟨_, rfl⟩
  rw [← hn] at hl ⊢
  clear hF h0 hn
  go_enter Tryd.func5, Tryd.ntmps5
  go_wp2_with fail
  with_reducible refine Calls.mono ca.out ?_
  rintro e w1 ⟨rfl, hB⟩
  replace hB := Lib.hid hB
  go_wp2_with fail
  go_ret
  exact ⟨rfl, hB.out⟩

set_option maxRecDepth 100000 in
set_option maxHeartbeats 4000000 in
theorem tells_no (zs : List Int) (hl : zs.length ≤ 40) (ht : thr zs.length = false) (k : Int) (v : Value) (w : World) (hv : IsH w v zs) (hF : Fades w) (h0 : 0 < w.heap.size) :
    Calls Tryd.prog 5 #[v, .int .i64 k] w fun e w' => e = .returned (.bool true) ∧ Below w.heap.size w w' := by
  have ca := Lib.hid (awake_any w hF h0)
  have cw := Lib.hid (fun w1 (h : Below w.heap.size w w1) => wide_any zs (by omega) v w1 (hv.below h))
  have cp := Lib.hid (fun w1 (h : Below w.heap.size w w1) => plain_no zs ht k v w1 (hv.below h))
  have cl := Lib.hid (fun w1 (h : Below w.heap.size w w1) => lag_no zs ht v w1 (hv.below h))
  have cn := Lib.hid (fun w => new_no zs.length ht w)
  have cf := Lib.hid (fun w1 (h : Below w.heap.size w w1) => fade_any k w1 (hF.below h0 h))
  have cg := Lib.hid (fun w => refFade_any k w)
  have cs := Lib.hid (fun w1 y (h : Below w.heap.size w w1) (hy : IsJ w1 y zs) => same_yes zs (by omega) v y w1 (hv.below h) hy)
  have ctr := Lib.hid (fun w => refThere_any zs.length w)
  have hFb := fdv_b k
  rw [thr_ref, ht] at ctr
  obtain ⟨A, cap, rfl, _⟩ := hv
  obtain ⟨n, hn⟩ : ∃ n, n = zs.length := ⟨_, rfl⟩
  obtain ⟨F, hFe⟩ : ∃ F, F = fdv k := ⟨_, rfl⟩
  rw [← hn] at hl cw cp cl cn cs ctr ⊢
  rw [← hFe] at cf cg hFb
  clear hF h0 hn ht hFe
  go_enter Tryd.func5, Tryd.ntmps5
  go_wp2_with fail
  with_reducible refine Calls.mono ca.out ?_
  rintro e w1 ⟨rfl, hB1⟩
  replace hB1 := Lib.hid hB1
  go_wp2_with fail
  with_reducible refine Calls.mono (cw.out _ hB1.out) ?_
  rintro e w2 ⟨v2, rfl, hJ, hB2⟩
  replace hB2 := Lib.hid (Below.trans hB1.out (hB2.mono hB1.out.size))
  replace hJ := Lib.hid hJ
  go_wp2_with fail
  with_reducible refine Calls.mono (cp.out _ hB2.out) ?_
  rintro e w3 ⟨rfl, rfl⟩
  go_wp2_with fail
  with_reducible refine Calls.mono (cl.out _ hB2.out) ?_
  rintro e w3 ⟨rfl, rfl⟩
  go_wp2_with fail
  with_reducible refine Calls.mono (cn.out _) ?_
  rintro e w3 ⟨rfl, rfl⟩
  go_wp2_with fail
  with_reducible refine Calls.mono (cf.out _ hB2.out) ?_
  rintro e w3 ⟨rfl, rfl⟩
  go_wp2_with fail
  with_reducible refine Calls.mono (cg.out _) ?_
  rintro e w3 ⟨rfl, rfl⟩
  go_wp2_with fail
  with_reducible refine Calls.mono (cs.out _ _ hB2.out hJ.out) ?_
  rintro e w3 ⟨rfl, d, rfl⟩
  go_wp2_with fail
  with_reducible refine Calls.mono (ctr.out _) ?_
  rintro e w3 ⟨rfl, rfl⟩
  go_wp2_with fail
  go_ret
  exact ⟨rfl, below_drewN hB2.out _⟩
/-- A new row that holds a history. -/
structure NewRow (w : World) (zs : List Int) (hb cap : Nat) (w' : World) : Prop where
  below : Below w.heap.size w w'
  base : w.heap.size ≤ hb
  lt : hb < w'.heap.size
  cap : zs.length ≤ cap
  fz : ∀ j, w'.frozen? ⟨hb, j, none⟩ = false
  cell : ∀ j, j < zs.length → w'.cell? ⟨hb, j, none⟩ = some (.int .i32 (zs.getD j 0))
theorem newRow_of {w W w' : World} {zs : List Int} {v' : Value} {row : Option Nat} (h0 : 0 < zs.length) (hb : Below w.heap.size w W) (hr : ∀ k, row = some k → w.heap.size ≤ k) (ho : w'.ownsRow w.heap.size 21 1 v' zs.length (zs.map (Value.int .i32))) (hg : W.grownBy w' row) :
    ∃ hb cap, v' = .slice (some ⟨hb, 0, none⟩) zs.length cap ∧ NewRow w zs hb cap w' := by
  obtain ⟨g, cap, rfl, h1, h2, h3, h4, h5⟩ := own_at ho h0
  exact ⟨g, cap, rfl, Below.trans hb (belowOf hg hr hb.size), h2, h3, h1, h4, h5⟩

set_option maxRecDepth 100000 in
set_option maxHeartbeats 8000000 in
theorem tells_yes (zs : List Int) (ht : thr zs.length = true) (k : Int) (v : Value) (w : World) (hv : IsH w v zs) (hF : Fades w) (h0 : 0 < w.heap.size) :
    Calls Tryd.prog 5 #[v, .int .i64 k] w fun e w' => e = .returned (.bool true) ∧ Below w.heap.size w w' := by
  have hc := thr_cases ht
  have ca := Lib.hid (awake_any w hF h0)
  have cw := Lib.hid (fun w1 (h : Below w.heap.size w w1) => wide_any zs (by omega) v w1 (hv.below h))
  have cp := Lib.hid (fun w1 (h : Below w.heap.size w w1) => plain_yes zs ht k v w1 (hv.below h) (hF.below h0 h) (Nat.lt_of_lt_of_le h0 h.size))
  have cl := Lib.hid (fun w1 (h : Below w.heap.size w w1) => lag_yes zs ht v w1 (hv.below h))
  have cn := Lib.hid (fun w => new_yes zs.length ht w)
  have cf := Lib.hid (fun w1 (h : Below w.heap.size w w1) => fade_any k w1 (hF.below h0 h))
  have cg := Lib.hid (fun w => refFade_any k w)
  have cs := Lib.hid (fun w1 y (h : Below w.heap.size w w1) (hy : IsJ w1 y zs) => same_yes zs (by omega) v y w1 (hv.below h) hy)
  have cs2 := Lib.hid (fun w1 x y (hx : IsH w1 x (plL zs k zs.length)) (hy : IsJ w1 y (plL zs k zs.length)) => same_yes (plL zs k zs.length) (by rw [plL_len]; omega) x y w1 hx hy)
  have ctr := Lib.hid (fun w => refThere_any zs.length w)
  have hzb : ∀ j, I32 (zs.getD j 0) := fun j => by
    by_cases hj : j < zs.length
    · obtain ⟨A, cap, _, hat⟩ := hv
      obtain ⟨_, _, _, _, _, _, h⟩ := hat j hj
      exact h
    · rw [List.getD_eq_getElem?_getD, List.getElem?_eq_none (by omega)]
      unfold I32
      simp
  have ci := Lib.hid (fun mb rb hb cap w1 hM hne hnm hlt hcap hc hf (h : Below w.heap.size w w1) => in_yes zs ht hzb k mb rb hb cap w1 hM hne hnm hlt hcap hc hf (hF.below h0 h))
  have cm := Lib.hid (fun y w1 h => made_any zs ht k y w1 h)
  have crl := Lib.hid (fun y w1 h => refLag_any zs ht y w1 h)
  have hFb := fdv_b k
  rw [thr_ref, ht] at ctr
  obtain ⟨A, cap, rfl, hat⟩ := hv
  obtain ⟨b0, off0, rfl, hcap0, hbl0, _, _⟩ := hat 0 (by omega)
  have hcells : Hid (∀ j, j < zs.length → w.cell? ⟨b0, off0 + j, none⟩ = some (.int .i32 (zs.getD j 0))) := Lib.hid fun j hj => by
    obtain ⟨b', off', h1, _, _, h4, _⟩ := hat j hj
    injection h1 with h1
    injection h1 with e1 e2 _
    subst e1 e2
    exact h4
  have hnr := Lib.hid (fun w1 W w' v' row => newRow_of (w := w1) (W := W) (w' := w') (zs := zs) (v' := v') (row := row) (by omega))
  have hnews : Hid (∀ W, Below w.heap.size w W → ∀ j u, (zs.map (Value.int .i32))[j]? = some u → W.cell? ((⟨b0, off0, none⟩ : Addr).add j) = some u) := Lib.hid fun W hW j u hj => by
    have hjl : j < zs.length := by
      have := (List.getElem?_eq_some_iff.1 hj).1
      simpa using this
    have hu : u = .int .i32 (zs.getD j 0) := by
      rw [List.getElem?_map] at hj
      simp only [List.getElem?_eq_getElem hjl, Option.map_some, Option.some.injEq] at hj
      rw [← hj]
      simp [hjl]
    have e : (⟨b0, off0, none⟩ : Addr).add j = ⟨b0, off0 + j, none⟩ := by
      by_cases h : j = 0
      · subst h; simp [Addr.add]
      · simp [Addr.add, h]
    rw [e, hu, ← hcells.out j hjl]
    exact hW.cell (p := ⟨b0, off0 + j, none⟩) hbl0
  have hone : Hid (∀ u ∈ zs.map (Value.int .i32), u.oneCell' = true) := Lib.hid fun u hu => by simp at hu; obtain ⟨_, _, rfl⟩ := hu; rfl
  have hlen : Hid ((zs.map (Value.int .i32)).length = zs.length * 1) := Lib.hid (by simp)
  obtain ⟨n, hn⟩ : ∃ n, n = zs.length := ⟨_, rfl⟩
  have hn2 := Lib.hid hn
  obtain ⟨F, hFe⟩ : ∃ F, F = fdv k := ⟨_, rfl⟩
  obtain ⟨L, hL⟩ : ∃ L, L = lagN zs := ⟨_, rfl⟩
  rw [← hn] at hc cw cp cl cn cs cs2 ctr ci hcap0 hlen ⊢
  rw [← hFe] at cf cg hFb
  rw [← hL] at cl crl
  have hn40 : n ≤ 40 := by omega
  have hn8 : 8 ≤ n := by omega
  obtain ⟨i0, hti, ti0, ti1, ti2⟩ := info_parts info21
  clear hF h0 hn ht hFe hL hat hc hzb
  go_enter Tryd.func5, Tryd.ntmps5
  go_wp2_with fail
  with_reducible refine Calls.mono ca.out ?_
  rintro e w1 ⟨rfl, hB1⟩
  replace hB1 := Lib.hid hB1
  go_wp2_with fail
  with_reducible refine Calls.mono (cw.out _ hB1.out) ?_
  rintro e w2 ⟨v2, rfl, hJ, hB2⟩
  replace hB2 := Lib.hid (Below.trans hB1.out (hB2.mono hB1.out.size))
  replace hJ := Lib.hid hJ
  go_wp2_with fail
  with_reducible refine Calls.mono (cp.out _ hB2.out) ?_
  rintro e w3 ⟨v3, rfl, hP3⟩
  have hJ3 := Lib.hid (hJ.out.below hP3.below)
  have hB3 := Lib.hid (Below.trans hB2.out (hP3.below.mono hB2.out.size))
  have hI3 := Lib.hid (hP3.isH (by omega))
  clear hP3 hJ
  go_wp2_with fail
  with_reducible refine Calls.mono (cl.out _ hB3.out) ?_
  rintro e w4' ⟨rfl, d4, hw4⟩
  have hB4 : Hid (Below w.heap.size w w4') := Lib.hid (by rw [hw4]; exact below_drewN hB3.out _)
  have hJ4 : Hid (IsJ w4' v2 zs) := Lib.hid (by rw [hw4]; exact hJ3.out.below (below_drewN (Below.refl _ _) _))
  have hI4 : Hid (IsH w4' v3 (plL zs k n)) := Lib.hid (by rw [hw4]; exact hI3.out.below (below_drewN (Below.refl _ _) _))
  clear hw4 hB3 hJ3 hI3
  go_wp2_with fail
  with_reducible refine Calls.mono (cn.out _) ?_
  rintro e w5 ⟨rfl, hM5, hB45, hs5⟩
  obtain ⟨rb, hrb⟩ : ∃ rb, w4'.heap.size = rb := ⟨_, rfl⟩
  rw [hrb] at hM5 hs5 ⊢
  have hB5 := Lib.hid (Below.trans hB4.out (hB45.mono hB4.out.size))
  have hJ5 := Lib.hid (hJ4.out.below hB45)
  replace hB45 := Lib.hid hB45
  replace hM5 := Lib.hid hM5
  replace hs5 := Lib.hid hs5
  replace hrb := Lib.hid hrb
  go_wp2_with fail
  with_reducible refine Calls.mono (cf.out _ hB5.out) ?_
  rintro e w6 ⟨rfl, rfl⟩
  go_wp2_with fail
  with_reducible refine Calls.mono (cg.out _) ?_
  rintro e w6 ⟨rfl, rfl⟩
  go_wp2_with fail
  with_reducible refine Calls.mono (cs.out _ _ hB5.out hJ5.out) ?_
  rintro e w6 ⟨rfl, d6, hw6⟩
  have hs6 : Hid (w6.heap.size = rb + 2) := Lib.hid (by rw [hw6]; exact hs5.out)
  have hB6 : Hid (Below w.heap.size w w6) := Lib.hid (by rw [hw6]; exact below_drewN hB5.out _)
  have hB46 : Hid (Below w4'.heap.size w4' w6) := Lib.hid (by rw [hw6]; exact below_drewN hB45.out _)
  have hM6 : Hid (Mk w6 n (rb + 1) rb) := Lib.hid (by rw [hw6]; exact hM5.out.below (below_drewN (Below.refl _ _) _))
  clear hw6 hB5 hB45 hM5 hJ5 hs5
  go_wp2_with fail
  with_reducible refine Calls.mono (ctr.out _) ?_
  rintro e w7 ⟨rfl, rfl⟩
  have bA := Lib.hid (belowAlloc w6 (.cells #[] 21))
  have hown := Lib.hid (World.ownsRow_made (base := w6.heap.size) (e := 21) (size := 1) w6 #[] 0 (Nat.le_refl _) (by decide) (by simp))
  go_wp2_with (at_builtin; refine wpList_append_own _ rfl _ _ 24 rfl w6.heap.size 21 i0 (.int .i32 0) 1 4 Tryd.underlying24 hti ti0 ti1 ti2 rfl (by decide) _ _ _ rfl hown.out ⟨b0, off0, none⟩ n cap (zs.map (.int .i32)) rfl hlen.out (hnews.out _ (Below.trans hB6.out (bA.out.mono hB6.out.size))) hone.out (by unfold maxLen; omega) (by omega) bA.out.size ?_)
  intro v7 w7 ho7 hg7 _
  rw [hn2.out] at ho7
  obtain ⟨hb, cap7, rfl, hN⟩ := hnr.out _ _ _ _ _ bA.out (fun k e => by cases e; exact Nat.le_refl _) ho7 hg7
  rw [← hn2.out]
  have hne : rb + 2 ≤ hb := by have := hN.base; rw [hs6.out] at this; exact this
  have hB7 := Lib.hid (Below.trans hB6.out (hN.below.mono hB6.out.size))
  have hB47 := Lib.hid (Below.trans hB46.out (hN.below.mono hB46.out.size))
  have cI := Lib.hid (ci.out (rb + 1) rb hb cap7 w7 (hM6.out.below hN.below) (by omega) (by omega) hN.lt (by rw [hn2.out]; exact hN.cap) (fun j hj => hN.cell j (by rw [← hn2.out]; exact hj)) hN.fz hB7.out)
  have hs7 := hN.lt
  have hc7 : Hid (n ≤ cap7) := Lib.hid (by rw [hn2.out]; exact hN.cap)
  clear ho7 hg7 hM6 ci hN bA hown hnews hone hlen hcells hnr hB6 hB46
  go_wp2_with fail
  with_reducible refine Calls.mono cI.out ?_
  rintro e w8 ⟨rfl, hI8⟩
  have hB8 := hI8.fr.below (B := rb) (by omega) (Nat.le_refl _) (by omega)
  have hw4 : Hid (w4'.heap.size = rb) := hrb
  have hB48 : Below w4'.heap.size w4' w8 := Below.trans hB47.out (by rw [hw4.out]; exact hB8)
  have hJ8 := Lib.hid (hJ4.out.below hB48)
  have hI3 := Lib.hid (hI4.out.below hB48)
  have hBw8 := Lib.hid (Below.trans hB4.out (hB48.mono hB4.out.size))
  have hin : Hid (IsH w8 (.slice (some ⟨hb, 0, none⟩) n cap7) (plL zs k n)) := Lib.hid ⟨some ⟨hb, 0, none⟩, cap7, by rw [plL_len], fun j hj => ⟨hb, 0, rfl, by rw [plL_len]; exact hc7.out, Nat.lt_of_lt_of_le hs7 hI8.fr.size, by rw [Nat.zero_add]; exact hI8.cell j (by rw [plL_len] at hj; exact hj), plL_b _ _ _ _⟩⟩
  have cM := Lib.hid (cm.out v2 w8 hJ8.out)
  clear hI8 hB8 hB48 cI hB47 hJ4 hI4 hB4 hB7 hs7 hc7
  rw [← hn2.out] at cM
  go_wp2_with fail
  with_reducible refine Calls.mono cM.out ?_
  rintro e w9 ⟨v9, rfl, hJ9, hB9⟩
  have hx9 := Lib.hid (hI3.out.below hB9)
  have hy9 := Lib.hid (hin.out.below hB9)
  have hz9 := Lib.hid (hJ8.out.below hB9)
  have hBw9 := Lib.hid (Below.trans hBw8.out (hB9.mono hBw8.out.size))
  replace hJ9 := Lib.hid hJ9
  clear hB9 hI3 hin hJ8 hBw8 cM
  go_wp2_with fail
  with_reducible refine Calls.mono (cs2.out _ _ _ hx9.out hJ9.out) ?_
  rintro e w10 ⟨rfl, d10, rfl⟩
  go_wp2_with fail
  with_reducible refine Calls.mono (cs2.out _ _ _ (hy9.out.below (below_drewN (Below.refl _ _) _)) (hJ9.out.below (below_drewN (Below.refl _ _) _))) ?_
  rintro e w11 ⟨rfl, d11, hw11⟩
  have hz11 : Hid (IsJ w11 v2 zs) := Lib.hid (by rw [hw11]; exact hz9.out.below (below_drewN (below_drewN (Below.refl _ _) _) _))
  have hBw11 : Hid (Below w.heap.size w w11) := Lib.hid (by rw [hw11]; exact below_drewN (below_drewN hBw9.out _) _)
  clear hw11
  go_wp2_with fail
  with_reducible refine Calls.mono (crl.out _ _ hz11.out) ?_
  rintro e w12 ⟨rfl, hB12⟩
  have hBw12 := Lib.hid (Below.trans hBw11.out (hB12.mono hBw11.out.size))
  clear hB12
  go_wp2_with fail
  go_ret
  exact ⟨rfl, hBw12.out⟩
theorem tells_walk (zs : List Int) (k : Int) (v : Value) (w : World) (hv : IsH w v zs) (hF : Fades w) (h0 : 0 < w.heap.size) :
    Calls Tryd.prog 5 #[v, .int .i64 k] w fun e w' => e = .returned (.bool true) ∧ Below w.heap.size w w' := by
  by_cases hl : 40 < zs.length
  · exact tells_big zs hl k v w hv hF h0
  · cases ht : thr zs.length with
    | false => exact tells_no zs (by omega) ht k v w hv hF h0
    | true => exact tells_yes zs ht k v w hv hF h0
end Go.Proofs.YtckcjgmikjpfaaaDoor
