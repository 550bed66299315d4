/- The law ConcealAlike: its walk. -/
import Derived.Test.YtckcjgmikjpfaaaDoorCon16
namespace Go.Proofs.YtckcjgmikjpfaaaDoor
open Go.RowKit

theorem AL.plain {w : World} {n mb rb hb cap : Nat} {vh : Value} {zs : List Int} {wr : World} (h : AL w n mb rb hb cap vh zs wr) (ht : thr n = true) (hF : Fades w) (h0 : 0 < w.heap.size) (k : Int) :
    Calls Tryd.prog 9 #[vh, .int .i64 k] wr fun e w' => ∃ v', e = .returned v' ∧ PR wr zs k n v' w' := by
  have := h.len
  subst this
  exact plain_yes zs ht k vh wr h.isH (hF.below h0 h.below) (Nat.lt_of_lt_of_le h0 h.below.size)
theorem AL.in_ {w : World} {n mb rb hb cap : Nat} {vh : Value} {zs : List Int} {wr w1 : World} (h : AL w n mb rb hb cap vh zs wr) (ht : thr n = true) (hF : Fades w) (h0 : 0 < w.heap.size) (k : Int) {v1 : Value} (hp : PR wr zs k n v1 w1) :
    Calls Tryd.prog 16 #[.pointer (some ⟨mb, 0, none⟩), .slice (some ⟨hb, 0, none⟩) n cap, .int .i64 k] w1 fun e w' => e = .returned (.bool true) ∧ AL w n mb rb hb cap v1 (plL zs k n) w' := by
  have hn := h.next hp.below
  have hn0 : 0 < n := by have := thr_cases ht; omega
  have hl := h.len
  have hround := fun w2 (hi : IN w1 n mb rb hb (fun j => (plL zs k n).getD j 0) w2) => h.round hn0 hp hi
  subst hl
  exact (in_yes zs ht h.b32 k mb rb hb cap w1 hn.mkr h.ne h.nm hn.lt h.cap hn.cell hn.fz (hF.below h0 hn.below)).mono fun e w2 ⟨a, b⟩ => ⟨a, hround w2 b⟩
theorem AL.wide {w : World} {n mb rb hb cap : Nat} {vh : Value} {zs : List Int} {wr : World} (h : AL w n mb rb hb cap vh zs wr) (hn : n ≤ 32) :
    Calls Tryd.prog 11 #[.slice (some ⟨hb, 0, none⟩) n cap] wr fun e w' => ∃ v', e = .returned v' ∧ IsJ w' v' zs ∧ AL w n mb rb hb cap vh zs w' :=
  (wide_any zs (by have := h.len; omega) _ wr h.isH2).mono fun e w2 ⟨v', a, b, c⟩ => ⟨v', a, b, h.next c⟩
theorem AL.same {w : World} {n mb rb hb cap : Nat} {vh : Value} {zs : List Int} {wr : World} (h : AL w n mb rb hb cap vh zs wr) (hn : n ≤ 32) {y : Value} (hy : IsJ wr y zs) :
    Calls Tryd.prog 14 #[vh, y] wr fun e w' => e = .returned (.bool true) ∧ AL w n mb rb hb cap vh zs w' :=
  (same_yes zs (by have := h.len; omega) _ _ wr h.isH hy).mono fun e w2 ⟨a, d, b⟩ => ⟨a, by rw [b]; exact h.next (below_drewN (Below.refl _ _) d)⟩
theorem AL.odd {w : World} {n mb rb hb cap : Nat} {vh : Value} {zs : List Int} {wr : World} (h : AL w n mb rb hb cap vh zs wr) {w' : World} (hb' : Below wr.heap.size wr w') (l : Nat) (hl : l ≠ n) (A : Option Addr) (c : Nat) :
    Calls Tryd.prog 16 #[.pointer (some ⟨mb, 0, none⟩), .slice A l c, .int .i64 1] w' fun e w'' => e = .returned (.bool false) ∧ w' = w'' :=
  in_no n l hl mb rb A c 1 w' (h.next hb').mkr

theorem al_start {w : World} {n mb rb : Nat} {zs : List Int} {vA vB : Value} {w5 WA wA WB wB : World} (hn : zs.length = n) (hn0 : 0 < n) (hb : ∀ j, I32 (zs.getD j 0)) (hB5 : Below w.heap.size w w5) (hM : Mk w5 n mb rb) (hlo : w.heap.size ≤ rb)
    (hA : wA.ownsRow WA.heap.size 21 1 vA n (zs.map (Value.int .i32))) (hBo : wB.ownsRow WB.heap.size 21 1 vB n (zs.map (Value.int .i32))) (hB1 : Below w5.heap.size w5 wB) (hAB : Below wA.heap.size wA wB) (hWB : w5.heap.size ≤ WB.heap.size) :
    ∃ hb cap, vB = .slice (some ⟨hb, 0, none⟩) n cap ∧ AL w n mb rb hb cap vA zs wB := by
  obtain ⟨g, cap, rfl, h1, h2, h3, h4, h5⟩ := own_at hBo hn0
  obtain ⟨gA, capA, rfl, a1, a2, a3, a4, a5⟩ := own_at hA hn0
  have m1 := hM.ltm
  have m2 := hM.ltr
  refine ⟨g, cap, rfl, hn, hb, Below.trans hB5 (hB1.mono hB5.size), ?_, hM.below hB1, by omega, by omega, h3, hlo, by have := hB5.size; omega, h1, h4, h5⟩
  refine ⟨some ⟨gA, 0, none⟩, capA, by rw [hn], fun j hj => ⟨gA, 0, rfl, by rw [hn]; exact a1, Nat.lt_of_lt_of_le a3 hAB.size, ?_, hb j⟩⟩
  rw [Nat.zero_add, hAB.cell (p := ⟨gA, j, none⟩) a3]
  exact a5 j (by omega)

set_option maxRecDepth 100000 in
set_option maxHeartbeats 8000000 in
theorem alike_some (s : Int) (hs : List Int) (ls : List Int) (hs0 : 0 ≤ s ∧ s ≤ 255) (hl : hs.length = 32) (hb : ∀ j, I32 (hs.getD j 0)) (hls : ls.length ≤ 12) (v : Value) (w : World) (hv : IsL w v ls) (hF : Fades w) (h0 : 0 < w.heap.size) :
    Calls Tryd.prog 6 #[.int .u8 s, .agg (hs.map (Value.int .i32)).toArray, v] w fun e w' => e = .returned (.bool true) ∧ Below w.heap.size w w' := by
  obtain ⟨C, hC⟩ : ∃ C, C = (hs.map (Value.int .i32)).toArray := ⟨_, rfl⟩
  rw [← hC]
  obtain ⟨n, hn, hn8⟩ : ∃ n : Nat, wrap64 (8 * 2 ^ (s % 3).toNat) = (n : Int) ∧ thr n = true := by
    have h3 : s % 3 = 0 ∨ s % 3 = 1 ∨ s % 3 = 2 := by omega
    rcases h3 with h | h | h <;> rw [h]
    · exact ⟨8, by unfold wrap64; decide, by decide⟩
    · exact ⟨16, by unfold wrap64; decide, by decide⟩
    · exact ⟨32, by unfold wrap64; decide, by decide⟩
  have hn32 : n ≤ 32 := by have := thr_cases hn8; omega
  have hn0 : 8 ≤ n := by have := thr_cases hn8; omega
  obtain ⟨zs, hzs⟩ : ∃ zs, zs = hs.take n := ⟨_, rfl⟩
  have hzl : zs.length = n := by rw [hzs]; simp; omega
  have hzg : ∀ j, j < n → zs.getD j 0 = hs.getD j 0 := fun j hj => by rw [hzs]; simp [List.getD_eq_getElem?_getD, hj]
  have hzb : Hid (∀ j, I32 (zs.getD j 0)) := Lib.hid fun j => by
    by_cases hj : j < n
    · rw [hzg j hj]; exact hb j
    · rw [List.getD_eq_getElem?_getD, List.getElem?_eq_none (by omega)]
      unfold I32
      simp
  have ca := Lib.hid (fun w2 (h : Below w.heap.size w w2) => awake_any w2 (hF.below h0 h) (Nat.lt_of_lt_of_le h0 h.size))
  have hsl := fun W a => sliceA W a n hn32
  have hnews : Hid (∀ W, Below (w.alloc (.cells C 22)).heap.size (w.alloc (.cells C 22)) W → ∀ j u, (zs.map (Value.int .i32))[j]? = some u → W.cell? ((⟨w.heap.size, 0, none⟩ : Addr).add j) = some u) := Lib.hid fun W hB j u hj => by
    have hjl : j < zs.length := by
      have := (List.getElem?_eq_some_iff.1 hj).1
      simpa using this
    have hu : u = .int .i32 (zs.getD j 0) := by
      rw [List.getElem?_map] at hj
      simp only [List.getElem?_eq_getElem hjl, Option.map_some, Option.some.injEq] at hj
      rw [← hj]
      simp [hjl]
    have e : (⟨w.heap.size, 0, none⟩ : Addr).add j = ⟨w.heap.size, j, none⟩ := by
      by_cases h : j = 0
      · subst h; simp [Addr.add]
      · simp [Addr.add, h]
    rw [e, hu, hB.cell (p := ⟨w.heap.size, j, none⟩) (by simp), World.cell?_alloc_new, hC, hzg j (by omega)]
    have : j < hs.length := by omega
    simp [this]
  have hone : Hid (∀ u ∈ zs.map (Value.int .i32), u.oneCell' = true) := Lib.hid fun u hu => by simp at hu; obtain ⟨_, _, rfl⟩ := hu; rfl
  have hlen : Hid ((zs.map (Value.int .i32)).length = n * 1) := Lib.hid (by simp [hzl])
  have cn := Lib.hid (fun w => new_yes n hn8 w)
  have hvl := Lib.hid hv
  obtain ⟨A, cap, rfl, _⟩ := hv
  obtain ⟨l, hll⟩ : ∃ l, l = ls.length := ⟨_, rfl⟩
  rw [← hll] at hls ⊢
  obtain ⟨i0, hti, ti0, ti1, ti2⟩ := info_parts info21
  replace hC := Lib.hid hC
  replace hF := Lib.hid hF
  replace hzl := Lib.hid hzl
  replace hll := Lib.hid hll
  replace hn8 := Lib.hid hn8
  clear hb hzg hl hzs
  go_enter Tryd.func6, Tryd.ntmps6
  go_wp2_with fail
  with_reducible refine Calls.mono (ca.out _ (by repeat (first | (with_reducible exact Below.refl _ _) | (with_reducible assumption) | (with_reducible refine below_drewN ?_ _) | (with_reducible refine Below.drew ?_) | (with_reducible refine Below.setCell ?_ (by (try simp); (try omega)) _) | (with_reducible refine Below.alloc ?_ (by (try simp); (try omega)) _)))) ?_
  rintro e w2 ⟨rfl, hB⟩
  have hbW : Hid (Below w.heap.size w w2) := Lib.hid (Below.trans (belowAlloc w _) (hB.mono (belowAlloc w _).size))
  have hwl : Hid (w.heap.size < w2.heap.size) := Lib.hid (Nat.lt_of_lt_of_le (by simp) hB.size)
  replace hB := Lib.hid hB
  go_wp2_with fail
  with_reducible refine Calls.mono (cn.out _) ?_
  rintro e w5 ⟨rfl, hM5, hB5, hs5⟩
  obtain ⟨rb, hrb⟩ : ∃ rb, w2.heap.size = rb := ⟨_, rfl⟩
  rw [hrb] at hM5 hs5 ⊢
  have hlo : Hid (w.heap.size ≤ rb) := Lib.hid (by rw [← hrb]; exact Nat.le_of_lt hwl.out)
  have hBw5 := Lib.hid (Below.trans hbW.out (hB5.mono hbW.out.size))
  have hBh5 := Lib.hid (Below.trans hB.out (hB5.mono hB.out.size))
  replace hM5 := Lib.hid hM5
  clear hB5 hs5 hrb hbW hB ca cn hwl
  go_wp2_with fail
  replace hn := Lib.hid hn
  have hBo := hBh5.out
  have hsz : w.heap.size + 1 ≤ w5.heap.size := by have := hBo.size; simp at this; omega
  have l3 : Hid (0 + n ≤ maxLen) := Lib.hid (by unfold maxLen; omega)
  have l4 : Hid ((0 + n) * 4 ≤ 140737488355328) := Lib.hid (by omega)
  have l5 : Hid (0 < 0 + n) := Lib.hid (by omega)
  go_region_law (first
    | (refine step_append_grows rfl (.tmp 34) (.tmp 36) 24 rfl 21 i0 (.int .i32 0) 1 4 Tryd.underlying24 hti ti0 ti1 ti2 rfl (by decide) (some _) 0 0 [] rfl (by intro h; cases h) rfl (by intro b _ j u h; simp at h) ⟨w.heap.size, 0, none⟩ n 32 (zs.map (.int .i32)) rfl hlen.out (hnews.out _ (by repeat (first | (with_reducible exact Below.refl _ _) | (with_reducible assumption) | (with_reducible refine below_drewN ?_ _) | (with_reducible refine Below.drew ?_) | (with_reducible refine Below.setCell ?_ (by (try simp); (try omega)) _) | (with_reducible refine Below.alloc ?_ (by (try simp); (try omega)) _)))) hone.out l5.out l3.out l4.out ?_; intro vA wA hoA hgA; have hBA := grown_next (B := w5.heap.size) (a := w5) (by repeat (first | (with_reducible exact Below.refl _ _) | (with_reducible assumption) | (with_reducible refine below_drewN ?_ _) | (with_reducible refine Below.drew ?_) | (with_reducible refine Below.setCell ?_ (by (try simp); (try omega)) _) | (with_reducible refine Below.alloc ?_ (by (try simp); (try omega)) _))) hgA (Nat.le_refl _); have hszA : w5.heap.size ≤ wA.heap.size := hBA.size; have hBAh := grown_next (B := (w.alloc (.cells C 22)).heap.size) (a := w.alloc (.cells C 22)) (by repeat (first | (with_reducible exact Below.refl _ _) | (with_reducible assumption) | (with_reducible refine below_drewN ?_ _) | (with_reducible refine Below.drew ?_) | (with_reducible refine Below.setCell ?_ (by (try simp); (try omega)) _) | (with_reducible refine Below.alloc ?_ (by (try simp); (try omega)) _))) hgA (Nat.le_refl _))
    | (refine step_append_grows rfl (.tmp 38) (.tmp 40) 24 rfl 21 i0 (.int .i32 0) 1 4 Tryd.underlying24 hti ti0 ti1 ti2 rfl (by decide) (some _) 0 0 [] rfl (by intro h; cases h) rfl (by intro b _ j u h; simp at h) ⟨w.heap.size, 0, none⟩ n 32 (zs.map (.int .i32)) rfl hlen.out (hnews.out _ (by repeat (first | (with_reducible exact Below.refl _ _) | (with_reducible assumption) | (with_reducible refine below_drewN ?_ _) | (with_reducible refine Below.drew ?_) | (with_reducible refine Below.setCell ?_ (by (try simp); (try omega)) _) | (with_reducible refine Below.alloc ?_ (by (try simp); (try omega)) _)))) hone.out l5.out l3.out l4.out ?_; intro vB wB hoB hgB; have hBB := grown_next (B := w5.heap.size) (a := w5) (by repeat (first | (with_reducible exact Below.refl _ _) | (with_reducible assumption) | (with_reducible refine below_drewN ?_ _) | (with_reducible refine Below.drew ?_) | (with_reducible refine Below.setCell ?_ (by (try simp); (try omega)) _) | (with_reducible refine Below.alloc ?_ (by (try simp); (try omega)) _))) hgB (Nat.le_refl _); have hAB := grown_next (B := wA.heap.size) (a := wA) (by repeat (first | (with_reducible exact Below.refl _ _) | (with_reducible assumption) | (with_reducible refine below_drewN ?_ _) | (with_reducible refine Below.drew ?_) | (with_reducible refine Below.setCell ?_ (by (try simp); (try omega)) _) | (with_reducible refine Below.alloc ?_ (by (try simp); (try omega)) _))) hgB (Nat.le_refl _)))
  all_goals
    rw [Nat.zero_add, List.nil_append] at hoA hoB
    obtain ⟨hb, cap2, rfl, hAL⟩ := al_start hzl.out (by omega) hzb.out hBw5.out hM5.out hlo.out hoA hoB hBB hAB (by (try simp); omega)
    replace hAL := Lib.hid hAL
    clear hBo hBA hBAh hszA hsz hgA hgB hoA hoB hBB hAB hBw5 hBh5 hM5 l3 l4 l5 hlen hone hnews hsl hlo hzb hzl
    obtain ⟨r5, hr5⟩ : ∃ r5 : Nat, s % 5 = (r5 : Int) := ⟨(s % 5).toNat, by omega⟩
    have hr5b : r5 < 5 := by omega
    obtain ⟨t0, ht0⟩ : ∃ t0 : Nat, (n : Int) + (r5 : Int) = (t0 : Int) := ⟨n + r5, by omega⟩
    obtain ⟨t, ht⟩ : ∃ t : Nat, (t0 : Int) + 1 = (t : Int) := ⟨t0 + 1, by omega⟩
    have htn : Hid (t ≠ n) := Lib.hid (by omega)
    have htb : t ≤ 40 := by omega
    have hmk := fun W => run_make (P := Tryd.prog) W 24 21 i0 (.int .i32 0) Tryd.underlying24 hti ti0 .i64 .i64 (t : Int) (t : Int) (by omega) (by omega) (by rw [ti2]; omega) (by omega)
    simp only [Int.toNat_natCast, ti1] at hmk
    obtain ⟨Z, hZ⟩ : ∃ Z, Z = madeCells (Value.int .i32 0).cells (t * 1) := ⟨_, rfl⟩
    rw [← hZ] at hmk
    clear hZ
    replace hr5 := Lib.hid hr5
    replace ht0 := Lib.hid ht0
    replace ht := Lib.hid ht
    replace hmk := Lib.hid hmk
    go_wp2_with fail
    go_loopw [10, 44] (fun vh i wr => ∃ (q : Nat) (zs : List Int), q ≤ l ∧ i = .int .i64 q ∧ AL w n (rb + 1) rb hb cap2 vh zs wr) (fun _ i _ => l - (intOf i).toNat)
    case atStart => exact ⟨0, _, by omega, rfl, hAL.out⟩
    case round =>
      clear hAL
      obtain ⟨q, zs', hq, rfl, hAL⟩ := hrel
      by_cases hlt : q < l
      · as_aux_lemma =>
          obtain ⟨A', cap', hv', hat⟩ := hvl.out
          obtain ⟨b, off, hA', hc1, hc2, hc3, hc4⟩ := hat q (by rw [← hll.out]; exact hlt)
          injection hv' with e1 e2 e3
          subst e3
          rw [hA'] at e1
          obtain rfl := e1
          have c0 : wr.cell? ⟨b, off + q, none⟩ = some (.int .i8 (ls.getD q 0)) := (hAL.below.cell (p := ⟨b, off + q, none⟩) hc2).trans hc3
          obtain ⟨x, hx⟩ : ∃ x, x = ls.getD q 0 := ⟨_, rfl⟩
          rw [← hx] at c0 hc4
          have hlc : l ≤ cap := by rw [hll.out]; exact hc1
          have cp := Lib.hid (hAL.plain hn8.out hF.out h0 x)
          have ci := Lib.hid (fun v1 w1 hp => hAL.in_ (v1 := v1) (w1 := w1) hn8.out hF.out h0 x hp)
          clear hc3 hc2 hx hat hA' e2 hAL hc1
          go_wp2_with fail
          with_reducible refine Calls.mono cp.out ?_
          rintro e w6 ⟨v6, rfl, hP6⟩
          have cI := Lib.hid (ci.out _ _ hP6)
          clear hP6
          go_wp2_with fail
          with_reducible refine Calls.mono cI.out ?_
          rintro e w7 ⟨rfl, hAL7⟩
          have cw := Lib.hid (hAL7.wide hn32)
          clear hAL7
          go_wp2_with fail
          with_reducible refine Calls.mono cw.out ?_
          rintro e w8 ⟨v8, rfl, hJ8, hAL8⟩
          have cs := Lib.hid (hAL8.same hn32 hJ8)
          clear hJ8 hAL8
          go_wp2_with fail
          with_reducible refine Calls.mono cs.out ?_
          rintro e w9 ⟨rfl, hAL9⟩
          replace hAL9 := Lib.hid hAL9
          go_wp2_with fail
          exact ⟨⟨q + 1, _, by omega, by go_num, hAL9.out⟩, by simp [intOf]; omega⟩
      · as_aux_lemma =>
          obtain rfl : q = l := by omega
          have hB9 := Lib.hid (hAL.below)
          have cO := Lib.hid (fun A c => hAL.odd (w' := wr.alloc (.cells Z 21)) (belowAlloc _ _) t htn.out A c)
          clear hAL
          replace hr5 := hr5.out
          replace ht0 := ht0.out
          replace ht := ht.out
          replace hmk := hmk.out
          go_wp2_with fail
          with_reducible refine Calls.mono (cO.out _ _) ?_
          rintro e w10 ⟨rfl, rfl⟩
          go_wp2_with fail
          go_ret
          exact ⟨rfl, by have := hB9.out; exact this.alloc this.size _⟩
end Go.Proofs.YtckcjgmikjpfaaaDoor
