/- The contract of the maker's In. -/
import Derived.Test.YtckcjgmikjpfaaaDoorCon13
namespace Go.Proofs.YtckcjgmikjpfaaaDoor
open Go.RowKit

theorem Fr.drew {a b : Nat} {w w' : World} (h : Fr a b w w') : Fr a b w w'.drew := ⟨h.os, h.tape, h.output, h.size, h.block⟩
theorem Mk.below {w w' : World} {n mb rb : Nat} (h : Mk w n mb rb) (hb : Below w.heap.size w w') : Mk w' n mb rb :=
  ⟨h.ne, Nat.lt_of_lt_of_le h.ltm hb.size, Nat.lt_of_lt_of_le h.ltr hb.size, (hb.cell (p := ⟨mb, 0, none⟩) h.ltm).trans h.hd, fun j => (hb.frozen (p := ⟨rb, j, none⟩) h.ltr).trans (h.fz j),
    fun j hj => let ⟨x, hx⟩ := h.cell j hj; ⟨x, (hb.cell (p := ⟨rb, j, none⟩) h.ltr).trans hx⟩⟩

set_option maxHeartbeats 4000000 in
theorem in_no (n l : Nat) (hne : l ≠ n) (mb rb : Nat) (A : Option Addr) (cap : Nat) (k : Int) (w : World) (hM : Mk w n mb rb) :
    Calls Tryd.prog 16 #[.pointer (some ⟨mb, 0, none⟩), .slice A l cap, .int .i64 k] w fun e w' => e = .returned (.bool false) ∧ w = w' := by
  have c0 := hM.hd
  have h1 : ((l : Int) == (n : Int)) = false := by simp; omega
  clear hM
  go_enter Tryd.func16, Tryd.ntmps16
  go_wp2_with fail
  go_ret
  exact ⟨rfl, rfl⟩

/-- What the first loop keeps. -/
structure I1 (w : World) (n rb : Nat) (H : Nat → Int) (m : Nat) (wr : World) : Prop where
  fr : Fr rb rb w wr
  done : ∀ j, j < m → wr.cell? ⟨rb, j, none⟩ = some (.int .i64 (H j))
  rest : ∀ j, j < n → ∃ x, wr.cell? ⟨rb, j, none⟩ = some (.int .i64 x)
  fz : ∀ j, wr.frozen? ⟨rb, j, none⟩ = false
theorem I1.put {w wr : World} {n rb : Nat} {H : Nat → Int} {m : Nat} (h : I1 w n rb H m wr) (hm : m < n) {x : Int} (hx : x = H m) : I1 w n rb H (m + 1) (wr.drew.setCell ⟨rb, m, none⟩ (.int .i64 x)) := by
  refine ⟨h.fr.drew.setCell (.inl rfl) _, fun j hj => ?_, fun j hj => ?_, fun j => by rw [World.frozen?_setCell]; exact h.fz j⟩
  · by_cases e : j = m
    · subst e
      obtain ⟨y, hy⟩ := h.rest j hm
      rw [World.cell?_setCell_same (w := wr.drew) _ _ (u := .int .i64 y) hy, hx]
    · rw [cell_far (by intro h; exact e (by injection h with _ h; exact h.symm))]
      exact h.done j (by omega)
  · by_cases e : j = m
    · subst e
      obtain ⟨y, hy⟩ := h.rest j hm
      exact ⟨x, by rw [World.cell?_setCell_same (w := wr.drew) _ _ (u := .int .i64 y) hy]⟩
    · rw [cell_far (by intro h; exact e (by injection h with _ h; exact h.symm))]
      exact h.rest j hj

/-- What the second loop keeps. -/
structure I2 (w : World) (n rb hb : Nat) (H P : Nat → Int) (m : Nat) (wr : World) : Prop where
  fr : Fr rb hb w wr
  room : ∀ j, j < n → wr.cell? ⟨rb, j, none⟩ = some (.int .i64 (H j))
  done : ∀ j, j < m → wr.cell? ⟨hb, j, none⟩ = some (.int .i32 (P j))
  rest : ∀ j, j < n → ∃ x, wr.cell? ⟨hb, j, none⟩ = some (.int .i32 x)
  fz : ∀ j, wr.frozen? ⟨hb, j, none⟩ = false
  rfz : ∀ j, wr.frozen? ⟨rb, j, none⟩ = false
theorem I2.put {w wr : World} {n rb hb : Nat} {H P : Nat → Int} {m : Nat} (h : I2 w n rb hb H P m wr) (hne : rb ≠ hb) (hm : m < n) {x : Int} (hx : x = P m) : I2 w n rb hb H P (m + 1) (wr.setCell ⟨hb, m, none⟩ (.int .i32 x)) := by
  refine ⟨h.fr.setCell (.inr rfl) _, fun j hj => ?_, fun j hj => ?_, fun j hj => ?_, fun j => by rw [World.frozen?_setCell]; exact h.fz j, fun j => by rw [World.frozen?_setCell]; exact h.rfz j⟩
  · rw [cell_far (by intro h; exact hne (by injection h with h _; exact h.symm))]
    exact h.room j hj
  · by_cases e : j = m
    · subst e
      obtain ⟨y, hy⟩ := h.rest j hm
      rw [World.cell?_setCell_same _ _ _ (u := .int .i32 y) hy, hx]
    · rw [cell_far (by intro h; exact e (by injection h with _ h; exact h.symm))]
      exact h.done j (by omega)
  · by_cases e : j = m
    · subst e
      obtain ⟨y, hy⟩ := h.rest j hm
      exact ⟨x, by rw [World.cell?_setCell_same _ _ _ (u := .int .i32 y) hy]⟩
    · rw [cell_far (by intro h; exact e (by injection h with _ h; exact h.symm))]
      exact h.rest j hj

/-- What In leaves: the history's row is what is made up; nothing else turns but the room. -/
structure IN (w : World) (n mb rb hb : Nat) (P : Nat → Int) (w' : World) : Prop where
  fr : Fr rb hb w w'
  mkr : Mk w' n mb rb
  cell : ∀ j, j < n → w'.cell? ⟨hb, j, none⟩ = some (.int .i32 (P j))
  fz : ∀ j, w'.frozen? ⟨hb, j, none⟩ = false
theorem zero21 (w : World) : (zeroValue 21).run Tryd.prog w = .ok (.int .i32 0) w := by kernel_rfl

theorem IN.cleared {w : World} {n mb rb hb : Nat} {P : Nat → Int} (hM : Mk w n mb rb) (hne : rb ≠ hb) (hnm : mb ≠ hb) (hc : ∀ j, j < n → ∃ x, w.cell? ⟨hb, j, none⟩ = some (.int .i32 x)) (hf : ∀ j, w.frozen? ⟨hb, j, none⟩ = false)
    (hP : ∀ j, j < n → P j = 0) : IN w n mb rb hb P (w.setCells hb 0 (List.replicate n (.int .i32 0))) := by
  have hfr := Fr.setCells (a := rb) (b := hb) (c := hb) (.inr rfl) (List.replicate n (.int .i32 0)) 0 w w (Fr.refl _ _ _)
  have hout : ∀ b j, b ≠ hb → (w.setCells hb 0 (List.replicate n (.int .i32 0))).cell? ⟨b, j, none⟩ = w.cell? ⟨b, j, none⟩ := fun b j hb => World.cell?_setCells_out _ _ _ _ _ (fun h => absurd h hb)
  refine ⟨hfr, ⟨hM.ne, Nat.lt_of_lt_of_le hM.ltm hfr.size, Nat.lt_of_lt_of_le hM.ltr hfr.size, (hout mb 0 hnm).trans hM.hd, fun j => by rw [World.frozen?_setCells]; exact hM.fz j, fun j hj => ?_⟩, fun j hj => ?_, fun j => by rw [World.frozen?_setCells]; exact hf j⟩
  · obtain ⟨x, hx⟩ := hM.cell j hj
    exact ⟨x, (hout rb j hne).trans hx⟩
  · have := World.cell?_setCells_in hb (List.replicate n (.int .i32 0)) 0 w (fun i hi => by
      obtain ⟨x, hx⟩ := hc i (by simpa using hi)
      rw [Nat.zero_add, hx]; rfl) j (by simpa using hj)
    rw [Nat.zero_add] at this
    rw [this, hP j hj]
    simp

set_option maxRecDepth 20000 in
set_option maxHeartbeats 8000000 in
theorem in_clear (zs : List Int) (ht : thr zs.length = true) (k : Int) (hk : fdv k = 0) (mb rb hb cap : Nat) (w : World) (hM : Mk w zs.length mb rb) (hne : rb ≠ hb) (hnm : mb ≠ hb)
    (hc : ∀ j, j < zs.length → w.cell? ⟨hb, j, none⟩ = some (.int .i32 (zs.getD j 0))) (hf : ∀ j, w.frozen? ⟨hb, j, none⟩ = false) (hF : Fades w) :
    Calls Tryd.prog 16 #[.pointer (some ⟨mb, 0, none⟩), .slice (some ⟨hb, 0, none⟩) zs.length cap, .int .i64 k] w fun e w' => e = .returned (.bool true) ∧ IN w zs.length mb rb hb (fun j => (plL zs k zs.length).getD j 0) w' := by
  have ht' := thr_cases ht
  have c0 := hM.hd
  have cf := Lib.hid (fade_any k w hF)
  rw [hk] at cf
  have hfin := Lib.hid (IN.cleared (P := fun j => (plL zs k zs.length).getD j 0) hM hne hnm (fun j hj => ⟨_, hc j hj⟩) hf (fun j hj => by rw [plL_get zs k hj, hk]; simp [prt]))
  have hcl : ∀ ty, (Builtin.clear_ #[24] ty #[.slice (some ⟨hb, 0, none⟩) zs.length cap]).run Tryd.prog w = .ok (.tuple #[]) (w.setCells hb 0 (List.replicate zs.length (.int .i32 0))) :=
    fun ty => Lib.run_clear_slice w 24 21 ty (.int .i32 0) Tryd.underlying24 zero21 rfl rfl hb 0 zs.length cap (by omega) (fun j hj => by rw [Nat.zero_add, hc j hj]; rfl) (fun j _ => hf _)
  obtain ⟨n, hn⟩ : ∃ n, n = zs.length := ⟨_, rfl⟩
  rw [← hn] at c0 hfin hcl ⊢
  clear hM hc hf hF hk hn ht ht'
  go_enter Tryd.func16, Tryd.ntmps16
  go_wp2_with fail
  with_reducible refine Calls.mono cf.out ?_
  rintro e w1 ⟨rfl, rfl⟩
  go_wp2_with fail
  go_ret
  exact ⟨rfl, hfin.out⟩
theorem I1.start {w : World} {n mb rb : Nat} {H : Nat → Int} (hM : Mk w n mb rb) : I1 w n rb H 0 w := ⟨Fr.refl _ _ _, fun j hj => by omega, hM.cell, hM.fz⟩
theorem Fr.wide {a b : Nat} {w w' : World} (h : Fr a a w w') : Fr a b w w' := ⟨h.os, h.tape, h.output, h.size, fun k hk ha _ => h.block k hk ha ha⟩
theorem I1.next {w wr : World} {n rb hb : Nat} {H P : Nat → Int} (h : I1 w n rb H n wr) (hne : rb ≠ hb) (hlt : hb < w.heap.size) (hc : ∀ j, j < n → ∃ x, w.cell? ⟨hb, j, none⟩ = some (.int .i32 x)) (hf : ∀ j, w.frozen? ⟨hb, j, none⟩ = false) : I2 w n rb hb H P 0 wr :=
  ⟨h.fr.wide, h.done, fun j hj => by omega, fun j hj => let ⟨x, hx⟩ := hc j hj; ⟨x, (h.fr.cell (p := ⟨hb, j, none⟩) hlt (fun e => hne e.symm) (fun e => hne e.symm)).trans hx⟩, fun j => (h.fr.frozen (p := ⟨hb, j, none⟩) hlt (fun e => hne e.symm) (fun e => hne e.symm)).trans (hf j), h.fz⟩
theorem I2.fin {w wr : World} {n mb rb hb : Nat} {H P : Nat → Int} (h : I2 w n rb hb H P n wr) (hM : Mk w n mb rb) (hnm : mb ≠ hb) : IN w n mb rb hb P wr :=
  ⟨h.fr, ⟨hM.ne, Nat.lt_of_lt_of_le hM.ltm h.fr.size, Nat.lt_of_lt_of_le hM.ltr h.fr.size, (h.fr.cell (p := ⟨mb, 0, none⟩) hM.ltm hM.ne hnm).trans hM.hd, h.rfz, fun j hj => ⟨_, h.room j hj⟩⟩, h.done, h.fz⟩

set_option maxRecDepth 100000 in
set_option maxHeartbeats 8000000 in
theorem in_made (zs : List Int) (ht : thr zs.length = true) (hz : ∀ j, I32 (zs.getD j 0)) (k : Int) (hk : fdv k ≠ 0) (mb rb hb cap : Nat) (w : World) (hM : Mk w zs.length mb rb) (hne : rb ≠ hb) (hnm : mb ≠ hb) (hlt : hb < w.heap.size) (hcap : zs.length ≤ cap)
    (hc : ∀ j, j < zs.length → w.cell? ⟨hb, j, none⟩ = some (.int .i32 (zs.getD j 0))) (hf : ∀ j, w.frozen? ⟨hb, j, none⟩ = false) (hF : Fades w) :
    Calls Tryd.prog 16 #[.pointer (some ⟨mb, 0, none⟩), .slice (some ⟨hb, 0, none⟩) zs.length cap, .int .i64 k] w fun e w' => e = .returned (.bool true) ∧ IN w zs.length mb rb hb (fun j => (plL zs k zs.length).getD j 0) w' := by
  have ht' := thr_cases ht
  have hlb := lagN_b zs (by omega)
  have c0 := hM.hd
  have cf := Lib.hid (fade_any k w hF)
  have hFb := fdv_b k
  obtain ⟨H, hH⟩ : ∃ H : Nat → Int, ∀ j, H j = hd (zs.getD j 0) := ⟨_, fun _ => rfl⟩
  have hHb : ∀ j, -16777216 ≤ H j ∧ H j ≤ 16777216 := fun j => by rw [hH]; exact hd_b _
  obtain ⟨P, hP⟩ : ∃ P : Nat → Int, P = fun j => (plL zs k zs.length).getD j 0 := ⟨_, rfl⟩
  have hP1 : ∀ j, j < lagN zs → P j = (H (zs.length - lagN zs + j) * fdv k).tdiv 32768 := fun j hj => by
    rw [hP, hH]
    show (plL zs k zs.length).getD j 0 = _
    rw [plL_get zs k (by omega), Nat.mod_eq_of_lt hj]
    rfl
  have hP2 : ∀ j, lagN zs ≤ j → j < zs.length → P j = P (j - lagN zs) := fun j h1 h2 => by
    rw [hP]
    show (plL zs k zs.length).getD j 0 = (plL zs k zs.length).getD (j - lagN zs) 0
    rw [plL_get zs k h2, plL_get zs k (by omega)]
    have e : j % lagN zs = (j - lagN zs) % lagN zs := by
      conv => lhs; rw [show j = j - lagN zs + lagN zs from by omega]
      rw [Nat.add_mod_right]
    rw [e]
  have hP0 : ∀ j, I32 (P j) := fun j => by rw [hP]; exact plL_b zs k _ j
  rw [← hP]
  have hst := Lib.hid (I1.start (H := H) hM)
  have hnx := Lib.hid (fun wr h => I1.next (wr := wr) (H := H) (P := P) h hne hlt (fun j hj => ⟨_, hc j hj⟩) hf)
  have hfin := Lib.hid (fun wr h => I2.fin (wr := wr) (H := H) (P := P) h hM hnm)
  have hml := Lib.hid (fun wr (h : Fr rb rb w wr) (hr : ∀ j, j < zs.length → wr.cell? ⟨rb, j, none⟩ = some (.int .i64 (H j))) => mlag_any zs ht mb rb wr ((h.cell (p := ⟨mb, 0, none⟩) hM.ltm hM.ne hM.ne).trans hM.hd) (fun j hj => by rw [← hH]; exact hr j hj))
  have hmc := Lib.hid (fun wr b (h : Fr rb b w wr) (hb : mb ≠ b) => (h.cell (p := ⟨mb, 0, none⟩) hM.ltm hM.ne hb).trans hM.hd)
  have hhc := Lib.hid (fun wr (h : Fr rb rb w wr) j (hj : j < zs.length) => (h.cell (p := ⟨hb, j, none⟩) hlt (fun e => hne e.symm) (fun e => hne e.symm)).trans (hc j hj))
  have hHd := Lib.hid (fun m => (hH m))
  obtain ⟨n, hn⟩ : ∃ n, n = zs.length := ⟨_, rfl⟩
  obtain ⟨L, hL⟩ : ∃ L, L = lagN zs := ⟨_, rfl⟩
  obtain ⟨F, hFe⟩ : ∃ F, F = fdv k := ⟨_, rfl⟩
  rw [← hn] at ht' c0 hst hnx hfin hml hmc hhc hcap hlb ⊢
  rw [← hL] at hlb hml
  simp only [← hn, ← hL, ← hFe] at hP1 hP2
  rw [← hFe] at hFb cf hk
  have hn32 : n ≤ 32 := by omega
  have hL2 : 2 ≤ L := by omega
  have hLn : 2 * L ≤ n := by omega
  have hF1 : 1 ≤ F := by omega
  have hFz : (F == 0) = false := by simp; omega
  have hM2 := Lib.hid hM.ne
  have hM3 := Lib.hid hnm
  clear hM hf hc hF hn hL hFe hP hH ht hlb ht' hnm
  replace hne := Lib.hid hne
  replace hP1 := Lib.hid hP1
  replace hP2 := Lib.hid hP2
  replace hP0 := Lib.hid hP0
  replace hHb := Lib.hid hHb
  replace hz := Lib.hid hz
  go_enter Tryd.func16, Tryd.ntmps16
  go_wp2_with fail
  with_reducible refine Calls.mono cf.out ?_
  rintro e w1 ⟨rfl, rfl⟩
  go_wp2_with fail
  go_loopw [30] (fun i wr => ∃ m : Nat, m ≤ n ∧ i = .int .i64 m ∧ I1 w n rb H m wr) (fun i _ => n - (intOf i).toNat)
  case atStart => exact ⟨0, by omega, rfl, hst.out⟩
  case round =>
    clear hst
    obtain ⟨m, hm, rfl, hI⟩ := hrel
    by_cases hlt2 : m < n
    · have hx0 := hhc.out _ hI.fr m hlt2
      have hxb := hz.out m
      have hHm := hHd.out m
      have hnext := Lib.hid (hI.put hlt2 rfl)
      rw [hHm] at hnext
      have cm := hmc.out _ rb hI.fr hM2.out
      obtain ⟨y, hy⟩ := hI.rest m hlt2
      have hyf := hI.fz m
      obtain ⟨x, hx⟩ : ∃ x, x = zs.getD m 0 := ⟨_, rfl⟩
      rw [← hx] at hx0 hxb hHm hnext
      have ch : ∀ w, Calls Tryd.prog 22 #[.int .i32 x] w fun e w' => e = .returned (.int .i64 (hd x)) ∧ w' = w := fun w => (held_any x hxb w).mono fun _ _ ⟨a, b⟩ => ⟨a, b.symm⟩
      obtain ⟨X, hX⟩ : ∃ X, X = hd x := ⟨_, rfl⟩
      rw [← hX] at hnext ch
      replace ch := Lib.hid ch
      have v2 : (m : Int) < (n : Int) := by omega
      clear hI hx hHm hX hxb
      go_wp2_with fail
      refine wp_region_still_tail 8 (by kernel_rfl) (by kernel_rfl) ?_
      simp only [List.take_succ_cons, List.take_zero, List.drop_succ_cons, List.drop_zero]
      iterate 6 still_step
      still_call (ch.out _)
      still_step
      refine wpStill_nil ?_
      change wpList _ _ _ _ _ wr.drew
      go_wp2_with fail
      exact ⟨⟨m + 1, by omega, by go_num, hnext.out⟩, by simp [intOf]; omega⟩
    · obtain rfl : m = n := by omega
      have hr1 := hI.done
      have cl := Lib.hid (hml.out _ hI.fr hr1)
      have hI2 := Lib.hid (hnx.out _ hI)
      have hfrI := Lib.hid hI.fr
      clear hI hr1 hml hnx hhc
      go_wp2_with fail
      with_reducible refine Calls.mono cl.out ?_
      rintro e w3 ⟨rfl, rfl⟩
      go_wp2_with fail
      go_loopw [48] (fun i wr => ∃ q : Nat, q ≤ m ∧ i = .int .i64 q ∧ I2 w m rb hb H P q wr) (fun i _ => m - (intOf i).toNat)
      case atStart => exact ⟨0, by omega, rfl, hI2.out⟩
      case round =>
        clear hI2 hfrI cl
        obtain ⟨q, hq, rfl, hI⟩ := hrel
        by_cases hlt3 : q < m
        · have cm := hmc.out _ hb hI.fr hM3.out
          obtain ⟨y, hy⟩ := hI.rest q hlt3
          have hyf := hI.fz q
          have v2 : (q : Int) < (m : Int) := by omega
          by_cases hqL : q < L
          · have e1 := hP1.out q hqL
            have cr := hI.room (m - L + q) (by omega)
            have hb1 := hHb.out (m - L + q)
            have hnext := Lib.hid (hI.put hne.out hlt3 rfl)
            have hpb := hP0.out q
            obtain ⟨x, hx⟩ : ∃ x, x = H (m - L + q) := ⟨_, rfl⟩
            rw [← hx] at e1 cr hb1
            have m1 : -549755813888 ≤ x * F ∧ x * F ≤ 549755813888 := by
              constructor
              · rcases Int.le_total 0 x with h | h
                · have := Int.mul_nonneg h hFb.1
                  omega
                · have a := Int.mul_le_mul_of_nonneg_left (show F ≤ 32768 by omega) (show 0 ≤ -x by omega)
                  rw [Int.neg_mul] at a
                  omega
              · rcases Int.le_total 0 x with h | h
                · have a := Int.mul_le_mul_of_nonneg_left (show F ≤ 32768 by omega) h
                  omega
                · have a := Int.mul_nonneg (show 0 ≤ -x by omega) hFb.1
                  rw [Int.neg_mul] at a
                  omega
            obtain ⟨M, hM⟩ : ∃ M, x * F = M := ⟨_, rfl⟩
            rw [hM] at m1 e1
            obtain ⟨Y, hY⟩ : ∃ Y, Y = P q := ⟨_, rfl⟩
            rw [← hY] at e1 hnext hpb
            replace e1 : M.tdiv 32768 = Y := e1.symm
            unfold I32 at hpb
            have u4 : IntKind.i32.wrap Y = Y := by rw [IntKind.wrap_i32]; omega
            have u5 : wrap64 M = M := by unfold wrap64; omega
            obtain ⟨d, hdd⟩ : ∃ d, d = m - L := ⟨_, rfl⟩
            have ed1 : (m : Int) - (L : Int) = (d : Int) := by omega
            rw [← hdd] at cr
            have ed2 : d + q < m := by omega
            have ed3 : (d : Int) + (q : Int) < (m : Int) := by omega
            clear hI hx hY hdd
            go_wp2_with fail
            exact ⟨⟨q + 1, by omega, by go_num, hnext.out⟩, by simp [intOf]; omega⟩
          · have e1 := hP2.out q (by omega) hlt3
            have cr := hI.done (q - L) (by omega)
            have hnext := Lib.hid (hI.put hne.out hlt3 rfl)
            rw [e1] at hnext
            obtain ⟨Y, hY⟩ : ∃ Y, Y = P (q - L) := ⟨_, rfl⟩
            rw [← hY] at cr hnext
            obtain ⟨d, hdd⟩ : ∃ d, d = q - L := ⟨_, rfl⟩
            have ed1 : (q : Int) - (L : Int) = (d : Int) := by omega
            rw [← hdd] at cr
            have ed2 : d < m := by omega
            have ed3 : (d : Int) < (m : Int) := by omega
            clear hI hY hdd e1
            go_wp2_with fail
            exact ⟨⟨q + 1, by omega, by go_num, hnext.out⟩, by simp [intOf]; omega⟩
        · obtain rfl : q = m := by omega
          have hf := Lib.hid (hfin.out _ hI)
          clear hI hfin
          go_wp2_with fail
          go_ret
          exact ⟨rfl, hf.out⟩
end Go.Proofs.YtckcjgmikjpfaaaDoor
