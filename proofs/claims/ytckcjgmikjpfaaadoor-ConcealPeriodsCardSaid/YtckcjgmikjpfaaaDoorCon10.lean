/- The law ConcealPeriods: its walk. -/
import Derived.Test.YtckcjgmikjpfaaaDoorCon8
namespace Go.Proofs.YtckcjgmikjpfaaaDoor
open Go.RowKit

/-- A pulse that comes again and again. -/
def puls (n p : Nat) : List Int := (List.range n).map (fun j => if (n - 1 - j) % p = 0 then 1000 else 0)
theorem puls_len (n p : Nat) : (puls n p).length = n := by simp [puls]
theorem puls_get {n p j : Nat} (hj : j < n) : (puls n p).getD j 0 = if (n - 1 - j) % p = 0 then 1000 else 0 := by
  unfold puls
  rw [List.getD_eq_getElem?_getD, List.getElem?_map, List.getElem?_range hj]
  rfl
theorem puls_lag (n p : Nat) (hn : thr n = true) (h1 : n / 4 ≤ p) (h2 : p < n / 2) : lagN (puls n p) = p := by
  rcases thr_cases hn with rfl | rfl | rfl
  · have : p = 2 ∨ p = 3 := by omega
    rcases this with rfl | rfl <;> decide +kernel
  · have : p = 4 ∨ p = 5 ∨ p = 6 ∨ p = 7 := by omega
    rcases this with rfl | rfl | rfl | rfl <;> decide +kernel
  · have : p = 8 ∨ p = 9 ∨ p = 10 ∨ p = 11 ∨ p = 12 ∨ p = 13 ∨ p = 14 ∨ p = 15 := by omega
    rcases this with rfl | rfl | rfl | rfl | rfl | rfl | rfl | rfl <;> decide +kernel
/-- So many pulses are laid: cell j. -/
def pulc (n p : Nat) (i : Int) (j : Nat) : Int := if i < (j : Int) ∧ j < n ∧ (n - 1 - j) % p = 0 then 1000 else 0
theorem pulc_end {n p : Nat} {i : Int} (hi : i < 0) {j : Nat} (hj : j < n) : pulc n p i j = (puls n p).getD j 0 := by
  rw [puls_get hj]
  unfold pulc
  by_cases h : (n - 1 - j) % p = 0
  · rw [if_pos ⟨by omega, hj, h⟩, if_pos h]
  · rw [if_neg (by omega), if_neg h]
theorem pulc_start {n p : Nat} (j : Nat) : pulc n p ((n : Int) - 1) j = 0 := by
  unfold pulc
  rw [if_neg (by omega)]
theorem pulc_far {n p q : Nat} {i : Int} (h0 : 0 < p) (hi : i = (n : Int) - 1 - q * p) (_h1 : 0 ≤ i) {j : Nat} (hj : (j : Int) ≠ i) : pulc n p (i - p) j = pulc n p i j := by
  unfold pulc
  by_cases h : i < (j : Int) ∧ j < n ∧ (n - 1 - j) % p = 0
  · rw [if_pos h, if_pos ⟨by omega, h.2⟩]
  · rw [if_neg h, if_neg]
    rintro ⟨a, b, c⟩
    apply h
    refine ⟨?_, b, c⟩
    by_cases hlt : i < (j : Int)
    · exact hlt
    · exfalso
      obtain ⟨d, hd⟩ := Nat.dvd_of_mod_eq_zero c
      have hq : q * p < n - 1 - j := by
        have : (q * p : Nat) = ((q : Int) * p) := by simp
        omega
      have hq2 : n - 1 - j < (q + 1) * p := by
        have e1 : ((q + 1) * p : Nat) = q * p + p := by rw [Nat.add_mul, Nat.one_mul]
        have : ((q * p : Nat) : Int) = (q : Int) * p := by simp
        omega
      rw [hd, Nat.mul_comm p d] at hq hq2
      have a1 := Nat.lt_of_mul_lt_mul_right hq
      have a2 := Nat.lt_of_mul_lt_mul_right hq2
      omega
theorem pulc_same {n p q : Nat} {i : Int} (h0 : 0 < p) (hi : i = (n : Int) - 1 - q * p) (_h1 : 0 ≤ i) {j : Nat} (hj : (j : Int) = i) : pulc n p (i - p) j = 1000 := by
  unfold pulc
  have : ((q * p : Nat) : Int) = (q : Int) * p := by simp
  have e : n - 1 - j = q * p := by omega
  have e2 : (n - 1 - j) % p = 0 := by rw [e]; exact Nat.mul_mod_left q p
  rw [if_pos ⟨by omega, by omega, e2⟩]
theorem plL_back (hs : List Int) (k : Int) (n i : Nat) (hL : 0 < lagN hs) (h1 : lagN hs ≤ i) (h2 : i < n) : (plL hs k n).getD i 0 = (plL hs k n).getD (i - lagN hs) 0 := by
  rw [plL_get hs k h2, plL_get hs k (by omega)]
  have e : i % lagN hs = (i - lagN hs) % lagN hs := by
    conv => lhs; rw [show i = i - lagN hs + lagN hs from by omega]
    rw [Nat.add_mod_right]
  rw [e]

theorem cell_far {w : World} {a b : Addr} {v : Value} (h : a ≠ b) : (w.setCell a v).cell? b = w.cell? b := World.cell?_setCell_other _ _ _ _ h
def Z22 : Array Value := Array.replicate 32 (.int .i32 0)
theorem zero22 (w : World) : (zeroValue 22).run Tryd.prog w = .ok (.agg Z22) w := by kernel_rfl
theorem frozen_new (w : World) (c : Array Value) (t : TypeId) (j : Nat) : (w.alloc (.cells c t)).frozen? ⟨w.heap.size, j, none⟩ = false := by
  have h : (w.alloc (.cells c t)).heap[w.heap.size]? = some (.cells c t (0, 0)) := by
    show (w.heap.push _)[w.heap.size]? = _
    simp
  simp only [World.frozen?, h]
  simp
/-- A row that is written: its cells, n of them. -/
structure WRow (B : Nat) (w0 w : World) (b n : Nat) (ik : IntKind) (f : Nat → Int) : Prop where
  below : Below B w0 w
  base : B ≤ b
  lt : b < w.heap.size
  fz : ∀ j, w.frozen? ⟨b, j, none⟩ = false
  cell : ∀ j, j < n → w.cell? ⟨b, j, none⟩ = some (.int ik (f j))
theorem WRow.put {B : Nat} {w0 w : World} {b n : Nat} {ik : IntKind} {f f' : Nat → Int} (h : WRow B w0 w b n ik f) {j : Nat} (hj : j < n) {x : Int} (hx : f' j = x) (ho : ∀ i, i ≠ j → f' i = f i) :
    WRow B w0 (w.setCell ⟨b, j, none⟩ (.int ik x)) b n ik f' := by
  refine ⟨h.below.setCell h.base _, h.base, by simpa using h.lt, fun i => by simpa using h.fz i, fun i hi => ?_⟩
  by_cases e : i = j
  · subst e
    rw [World.cell?_setCell_same _ _ _ (h.cell i hj), hx]
  · rw [cell_far (by intro h; exact e (by injection h with _ h; exact h.symm)), h.cell i hi, ho i e]

theorem WRow.made {w0 w : World} (n p : Nat) (hn : n ≤ 32) (hb : Below w0.heap.size w0 w) : WRow w0.heap.size w0 (w.alloc (.cells Z22 22)) w.heap.size n .i32 (pulc n p ((n : Int) - 1)) := by
  refine ⟨hb.alloc hb.size _, hb.size, by simp, fun j => frozen_new w _ _ j, fun j hj => ?_⟩
  rw [World.cell?_alloc_new, pulc_start]
  unfold Z22
  rw [Array.getElem?_replicate, if_pos (by omega)]
theorem WRow.isH {B : Nat} {w0 w : World} {b n p : Nat} {i : Int} (h : WRow B w0 w b n .i32 (pulc n p i)) (hi : i < 0) (hn : n ≤ 32) : IsH w (.slice (some ⟨b, 0, none⟩) n 32) (puls n p) := by
  refine ⟨_, _, by rw [puls_len], fun j hj => ⟨b, 0, rfl, by rw [puls_len]; exact hn, h.lt, ?_, ?_⟩⟩
  · rw [puls_len] at hj
    rw [Nat.zero_add, h.cell j hj, pulc_end hi hj]
  · rw [puls_len] at hj
    rw [puls_get hj]
    unfold I32
    split <;> omega

set_option maxRecDepth 100000 in
set_option maxHeartbeats 4000000 in
theorem periods_walk (s : Int) (hs : List Int) (per : Int) (hs0 : 0 ≤ s ∧ s ≤ 255) (hl0 : 0 ≤ per ∧ per ≤ 255) (hl : hs.length = 32) (hb : ∀ j, I32 (hs.getD j 0)) (w : World) (hF : Fades w) (h0 : 0 < w.heap.size) :
    Calls Tryd.prog 4 #[.int .u8 s, .agg (hs.map (Value.int .i32)).toArray, .int .u8 per] w fun e w' => e = .returned (.bool true) ∧ Below w.heap.size w w' := by
  obtain ⟨C, hC⟩ : ∃ C, C = (hs.map (Value.int .i32)).toArray := ⟨_, rfl⟩
  rw [← hC]
  obtain ⟨n, hn, hn8⟩ : ∃ n : Nat, wrap64 (8 * 2 ^ (s % 3).toNat) = (n : Int) ∧ thr n = true := by
    have h3 : s % 3 = 0 ∨ s % 3 = 1 ∨ s % 3 = 2 := by omega
    rcases h3 with h | h | h <;> rw [h]
    · exact ⟨8, by unfold wrap64; decide, by decide⟩
    · exact ⟨16, by unfold wrap64; decide, by decide⟩
    · exact ⟨32, by unfold wrap64; decide, by decide⟩
  have hn32 : n ≤ 32 := by have := thr_cases hn8; omega
  have hn0 : 8 ≤ n := by have := thr_cases hn8; omega
  obtain ⟨h4, hh4⟩ : ∃ h4, h4 = n / 4 := ⟨_, rfl⟩
  obtain ⟨h2, hh2⟩ : ∃ h2, h2 = n / 2 := ⟨_, rfl⟩
  have e4 : (n : Int) / 4 = (h4 : Int) := by omega
  have e2 : (n : Int) / 2 = (h2 : Int) := by omega
  have h42 : 2 ≤ h4 := by omega
  have h24 : h2 = 2 * h4 := by have := thr_cases hn8; omega
  have hn4 : 4 * h4 = n := by have := thr_cases hn8; omega
  obtain ⟨r, hr⟩ : ∃ r : Nat, per % (h4 : Int) = (r : Int) := ⟨(per % (h4 : Int)).toNat, by have := Int.emod_nonneg per (show (h4 : Int) ≠ 0 by omega); omega⟩
  have hr4 : r < h4 := by have := Int.emod_lt_of_pos per (show (0 : Int) < h4 by omega); omega
  have h4z : ((h4 : Int) == 0) = false := by simp; omega
  have h4z2 : ¬ h4 = 0 := by omega
  obtain ⟨zs, hzs⟩ : ∃ zs, zs = hs.take n := ⟨_, rfl⟩
  have hzl : zs.length = n := by rw [hzs]; simp; omega
  have hzg : ∀ j, j < n → zs.getD j 0 = hs.getD j 0 := fun j hj => by rw [hzs]; simp [List.getD_eq_getElem?_getD, hj]
  have ca := Lib.hid (fun w2 (h : Below w.heap.size w w2) => awake_any w2 (hF.below h0 h) (Nat.lt_of_lt_of_le h0 h.size))
  have hsl := fun W a => sliceA W a n hn32
  have hcell : Hid (∀ W, Below (w.alloc (.cells C 22)).heap.size (w.alloc (.cells C 22)) W → ∀ j, j < n → W.cell? ⟨w.heap.size, j, none⟩ = some (.int .i32 (zs.getD j 0)) ∧ I32 (zs.getD j 0)) := Lib.hid fun W hB j hj => by
    refine ⟨?_, by rw [hzg j hj]; exact hb j⟩
    rw [hB.cell (p := ⟨w.heap.size, j, none⟩) (by simp), World.cell?_alloc_new, hC, hzg j hj]
    have : j < hs.length := by omega
    simp [this]
  have hIs : Hid (∀ W, Below (w.alloc (.cells C 22)).heap.size (w.alloc (.cells C 22)) W → IsH W (.slice (some ⟨w.heap.size, 0, none⟩) n 32) zs) := Lib.hid (fun W hB => ⟨some ⟨w.heap.size, 0, none⟩, 32, by rw [hzl], fun j hj => ⟨w.heap.size, 0, rfl, by omega, Nat.lt_of_lt_of_le (by simp) hB.size, by rw [Nat.zero_add]; exact (hcell.out W hB j (by omega)).1, (hcell.out W hB j (by omega)).2⟩⟩)
  have hLb := lagN_b zs (by omega)
  have hout := Lib.hid (fun i (a : lagN zs ≤ i) (b : i < n) => plL_back zs 1 n i (by omega) a b)
  have hlag := Lib.hid (puls_lag n (h4 + r) hn8 (by omega) (by omega))
  obtain ⟨L, hL⟩ : ∃ L, L = lagN zs := ⟨_, rfl⟩
  rw [← hL] at hLb hout
  have hLb : h4 ≤ L ∧ L ≤ h2 := by omega
  replace hL := Lib.hid hL
  replace hC := Lib.hid hC
  replace hF := Lib.hid hF
  replace hzl := Lib.hid hzl
  clear hb hzg hl hzs hcell
  replace hn8 := Lib.hid hn8
  replace hh4 := Lib.hid hh4
  replace hh2 := Lib.hid hh2
  replace h24 := Lib.hid h24
  replace hn4 := Lib.hid hn4
  go_enter Tryd.func4, Tryd.ntmps4
  go_wp2_with fail
  with_reducible refine Calls.mono (ca.out _ (by repeat (first | (with_reducible exact Below.refl _ _) | (with_reducible assumption) | (with_reducible refine below_drewN ?_ _) | (with_reducible refine Below.drew ?_) | (with_reducible refine Below.setCell ?_ (by simp; try omega) _) | (with_reducible refine Below.alloc ?_ (by simp; try omega) _)))) ?_
  rintro e w2 ⟨rfl, hB⟩
  have hbW : Hid (Below w.heap.size w w2) := Lib.hid (Below.trans (belowAlloc w _) (hB.mono (belowAlloc w _).size))
  replace hB := Lib.hid hB
  have hiw := hIs.out _ hB.out
  have cl := Lib.hid (lag_yes zs (by rw [hzl.out]; exact hn8.out) _ _ hiw)
  rw [← hL.out] at cl
  have cp := Lib.hid (fun d => plain_yes zs (by rw [hzl.out]; exact hn8.out) 1 _ (w2.drewN d) (hiw.below (below_drewN (Below.refl _ _) d)) ((hF.out.below h0 hbW.out).below (Nat.lt_of_lt_of_le h0 hbW.out.size) (below_drewN (Below.refl _ _) d)) (Nat.lt_of_lt_of_le h0 hbW.out.size))
  rw [hzl.out] at cp
  replace hiw := Lib.hid hiw
  go_wp2_with fail
  with_reducible refine Calls.mono cl.out ?_
  rintro e w3 ⟨rfl, d, rfl⟩
  go_wp2_with fail
  replace hn := Lib.hid hn
  with_reducible refine Calls.mono (cp.out d) ?_
  rintro e w4 ⟨v4, rfl, hR⟩
  obtain ⟨g, cap, rfl, hcap, _, hg, _, hc4⟩ := own_at hR.own (by omega)
  have hb4 := Lib.hid (Below.trans hbW.out (Below.trans (below_drewN (Below.refl _ _) d) (hR.below.mono (Nat.le_refl _)) |>.mono hbW.out.size))
  replace hc4 := Lib.hid hc4
  clear hR cp cl
  go_wp2_with fail
  go_loopw [10] (fun i wr => ∃ m d : Nat, L ≤ m ∧ m ≤ n ∧ i = .int .i64 m ∧ wr = w4.drewN d) (fun i _ => n - (intOf i).toNat)
  case atStart => exact ⟨L, 0, by omega, by omega, rfl, rfl⟩
  case round =>
    obtain ⟨m, d5, hm1, hm2, rfl, hw⟩ := hrel
    by_cases hlt : m < n
    · as_aux_lemma =>
        have c0 := hc4.out m hlt
        have c1 := hc4.out (m - L) (by omega)
        rw [← hout.out m hm1 hlt] at c1
        obtain ⟨x, hx⟩ : ∃ x, x = (plL zs 1 n).getD m 0 := ⟨_, rfl⟩
        rw [← hx] at c0 c1
        have c0 : wr.cell? ⟨g, m, none⟩ = some (.int .i32 x) := by rw [hw]; exact c0
        have c1 : wr.cell? ⟨g, m - L, none⟩ = some (.int .i32 x) := by rw [hw]; exact c1
        have u1 : IntKind.i64.wrap ((m : Int) - (L : Int)) = ((m - L : Nat) : Int) := by rw [IntKind.wrap_i64]; omega
        obtain ⟨q, hq⟩ : ∃ q, q = m - L := ⟨_, rfl⟩
        rw [← hq] at c1 u1
        have v0 : q < n := by omega
        have v2 : (q : Int) < (n : Int) := by omega
        replace hw := Lib.hid hw
        clear hx hq hc4 hout hlag hIs ca
        go_wp2_with fail
        go_quiet (fail)
        go_wp2_with fail
        exact ⟨⟨m + 1, d5 + nq, by omega, by omega, by go_num, by rw [hw.out, World.drewN_drewN]⟩, by simp [intOf]; omega⟩
    · obtain rfl : m = n := by omega
      have hb5 : Hid (Below w.heap.size w wr) := Lib.hid (by rw [hw]; exact below_drewN hb4.out _)
      clear hc4 hout hIs ca
      replace hw := Lib.hid hw
      obtain ⟨p, hp⟩ : ∃ p : Nat, h4 + r = p := ⟨_, rfl⟩
      have hpI : (h4 : Int) + (r : Int) = (p : Int) := by omega
      rw [hp] at hlag
      have hp2 : 2 ≤ p := by omega
      have hpn : p < m := by have := hn4.out; omega
      have h48 : h4 ≤ 8 := by have := hn4.out; omega
      replace hp := Lib.hid hp
      obtain ⟨b, hb⟩ : ∃ b, wr.heap.size = b := ⟨_, rfl⟩
      have hm1 := Lib.hid (WRow.made m p hn32 hb5.out)
      have hpl := Lib.hid (fun v w2 h => lag_yes (puls m p) (by rw [puls_len]; exact hn8.out) v w2 h)
      rw [hlag.out] at hpl
      rw [hb] at hm1
      have hzz := zero22
      obtain ⟨Z, hZ⟩ : ∃ Z, Z = Z22 := ⟨_, rfl⟩
      rw [← hZ] at hm1 hzz
      clear hZ hbW hB hb4
      go_wp2_with fail
      replace hb := Lib.hid hb
      clear hzz
      go_loopw [13] (fun i wx => ∃ (q : Nat) (x : Int), i = .int .i64 x ∧ x = (m : Int) - 1 - (q : Int) * (p : Int) ∧ -(p : Int) ≤ x ∧ x < (m : Int) ∧ WRow w.heap.size w wx b m .i32 (pulc m p x)) (fun i _ => (intOf i + p).toNat)
      case atStart => exact ⟨0, (m : Int) - 1, rfl, by simp, by omega, by omega, hm1.out⟩
      case round =>
        clear hm1
        obtain ⟨q, x, rfl, hx, hx1, hx2, hW⟩ := hrel
        by_cases hx0 : 0 ≤ x
        · as_aux_lemma =>
            obtain ⟨j, hj⟩ : ∃ j : Nat, x = (j : Int) := ⟨x.toNat, by omega⟩
            have hjm : j < m := by omega
            have hnext : Hid (WRow w.heap.size w (wr.setCell ⟨b, j, none⟩ (.int .i32 1000)) b m .i32 (pulc m p (x - (p : Int)))) := Lib.hid (hW.put hjm (pulc_same (by omega) hx hx0 hj.symm) (fun i hi => pulc_far (by omega) hx hx0 (by omega)))
            have hxq : Hid (x - (p : Int) = (m : Int) - 1 - ((q + 1 : Nat) : Int) * (p : Int)) := Lib.hid (by rw [hx, Int.natCast_add, Int.add_mul]; omega)
            have c0 := hW.cell j hjm
            have f0 := hW.fz j
            clear hW hx
            subst hj
            have hj32 : j < 32 := by omega
            obtain ⟨y, hy⟩ : ∃ y, y = pulc m p j j := ⟨_, rfl⟩
            rw [← hy] at c0
            clear hy
            go_wp2_with fail
            exact ⟨⟨q + 1, (j : Int) - (p : Int), by go_num, hxq.out, by omega, by omega, hnext.out⟩, by simp [intOf]; omega⟩
        · have hI := hW.isH (by omega) hn32
          have hbx := Lib.hid hW.below
          have cl := Lib.hid (hpl.out _ _ hI)
          clear hpl hW hI hx
          go_wp2_with fail
          with_reducible refine Calls.mono cl.out ?_
          rintro e w9 ⟨rfl, d9, rfl⟩
          go_wp2_with fail
          go_ret
          exact ⟨rfl, below_drewN hbx.out _⟩
end Go.Proofs.YtckcjgmikjpfaaaDoor
