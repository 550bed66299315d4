/- Contracts of conceal's alike and Lag. -/
import Derived.Test.YtckcjgmikjpfaaaDoorCon0
namespace Go.Proofs.YtckcjgmikjpfaaaDoor
open Go.RowKit

theorem below_drewN {B : Nat} {a w : World} (h : Below B a w) (n : Nat) : Below B a (w.drewN n) := ⟨h.os, h.tape, h.output, h.size, h.block⟩
theorem quietL {f : FuncId} {args : Array Value} {w : World} {n : Nat} {v : Value} (h : Calls Tryd.prog f args (w.drewN n) fun e w' => e = .returned v ∧ w.drewN n = w') :
    Calls Tryd.prog f args (w.drewN n) fun e w'' => e = .returned v ∧ ∃ m, w'' = w.drewN m := h.mono fun _ _ ⟨he, hm⟩ => ⟨he, n, hm.symm⟩

/-- A history, as it lies in memory. -/
def IsH (w : World) (v : Value) (hs : List Int) : Prop :=
  ∃ A cap, v = .slice A hs.length cap ∧ ∀ j, j < hs.length → ∃ b off, A = some ⟨b, off, none⟩ ∧ hs.length ≤ cap ∧ b < w.heap.size ∧ w.cell? ⟨b, off + j, none⟩ = some (.int .i32 (hs.getD j 0)) ∧ I32 (hs.getD j 0)
theorem IsH.below {w w' : World} {v : Value} {hs : List Int} (h : IsH w v hs) (hb : Below w.heap.size w w') : IsH w' v hs := by
  obtain ⟨A, cap, hv, h⟩ := h
  refine ⟨A, cap, hv, fun j hj => ?_⟩
  obtain ⟨b, off, h1, h2, h3, h4, h5⟩ := h j hj
  exact ⟨b, off, h1, h2, Nat.lt_of_lt_of_le h3 hb.size, (hb.cell (p := ⟨b, off + j, none⟩) h3).trans h4, h5⟩

/-- How much of a history is like itself p numbers ahead: of its last m numbers. -/
def alk (hs : List Int) (p : Nat) : Nat → Int
  | 0 => 0
  | m + 1 => alk hs p m + hd (hs.getD (hs.length - 1 - m) 0) * hd (hs.getD (hs.length - 1 - m - p) 0)
theorem prod_b (x y : Int) : -281474976710656 ≤ hd x * hd y ∧ hd x * hd y ≤ 281474976710656 := by
  obtain ⟨a1, a2⟩ := hd_b x
  obtain ⟨b1, b2⟩ := hd_b y
  generalize hd x = X at *
  generalize hd y = Y at *
  have h1 : (X * Y).natAbs ≤ 16777216 * 16777216 := by
    rw [Int.natAbs_mul]
    exact Nat.mul_le_mul (by omega) (by omega)
  omega
theorem alk_b (hs : List Int) (p m : Nat) : -281474976710656 * m ≤ alk hs p m ∧ alk hs p m ≤ 281474976710656 * m := by
  induction m with
  | zero => simp [alk]
  | succ m ih =>
    have := prod_b (hs.getD (hs.length - 1 - m) 0) (hs.getD (hs.length - 1 - m - p) 0)
    simp only [alk]
    omega

set_option maxRecDepth 20000 in
set_option maxHeartbeats 4000000 in
theorem alike_any (hs : List Int) (hn : 8 ≤ hs.length ∧ hs.length ≤ 32) (p : Nat) (hp : p ≤ hs.length / 2) (v : Value) (w : World) (hv : IsH w v hs) (p' : Int) (ep : p' = p) :
    Calls Tryd.prog 21 #[v, .int .i64 p'] w fun e w' => e = .returned (.int .i64 (alk hs p (hs.length / 2))) ∧ ∃ d, w' = w.drewN d := by
  subst ep
  obtain ⟨A, cap, rfl, hat⟩ := hv
  obtain ⟨b, off, rfl, hcap, _, _, _⟩ := hat 0 (by omega)
  have hat2 : ∀ j, j < hs.length → w.cell? ⟨b, off + j, none⟩ = some (.int .i32 (hs.getD j 0)) ∧ I32 (hs.getD j 0) := fun j hj => by
    obtain ⟨b', off', h1, _, _, h4, h5⟩ := hat j hj
    injection h1 with h1
    injection h1 with e1 e2 _
    subst e1 e2
    exact ⟨h4, h5⟩
  replace hat2 := Lib.hid hat2
  clear hat
  obtain ⟨n, hne⟩ : ∃ n, n = hs.length := ⟨_, rfl⟩
  have hS := fun m => (alk_b hs p m)
  have hstep := fun m => (show alk hs p (m + 1) = alk hs p m + hd (hs.getD (n - 1 - m) 0) * hd (hs.getD (n - 1 - m - p) 0) by rw [hne]; rfl)
  rw [← hne] at hn hp hcap ⊢
  replace hne := Lib.hid hne
  replace hS := Lib.hid hS
  replace hstep := Lib.hid hstep
  obtain ⟨l, hl⟩ : ∃ l : Nat, (n : Int) - 1 = (l : Int) := ⟨n - 1, by omega⟩
  obtain ⟨h, hh⟩ : ∃ h, h = n / 2 := ⟨_, rfl⟩
  have hhI : (n : Int) / 2 = (h : Int) := by omega
  rw [← hh] at hp ⊢
  have hln : l + 1 = n := by omega
  have hhb : 2 * h ≤ n := by omega
  replace hh := Lib.hid hh
  go_enter Tryd.func21, Tryd.ntmps21
  go_wp2_with fail
  go_loopw [5, 14] (fun s i wr => ∃ m d : Nat, m ≤ h ∧ i = .int .i64 m ∧ s = .int .i64 (alk hs p m) ∧ wr = w.drewN d) (fun _ i _ => h - (intOf i).toNat)
  case atStart => exact ⟨0, 0, by omega, rfl, rfl, rfl⟩
  case round =>
    obtain ⟨m, d, hm, rfl, rfl, hw⟩ := hrel
    by_cases hlt : m < h
    · as_aux_lemma =>
        obtain ⟨c0, x0⟩ := hat2.out (l - m) (by rw [← hne.out]; omega)
        obtain ⟨c1, x1⟩ := hat2.out (l - m - p) (by rw [← hne.out]; omega)
        have c0 : wr.cell? ⟨b, off + (l - m), none⟩ = some (.int .i32 (hs.getD (l - m) 0)) := by rw [hw]; exact c0
        have c1 : wr.cell? ⟨b, off + (l - m - p), none⟩ = some (.int .i32 (hs.getD (l - m - p) 0)) := by rw [hw]; exact c1
        have hst := hstep.out m
        rw [show n - 1 - m = l - m from by omega] at hst
        have hsb := hS.out m
        have hsb2 := hS.out (m + 1)
        obtain ⟨x, hx⟩ : ∃ x, x = hs.getD (l - m) 0 := ⟨_, rfl⟩
        obtain ⟨y, hy⟩ : ∃ y, y = hs.getD (l - m - p) 0 := ⟨_, rfl⟩
        rw [← hx] at c0 x0 hst
        rw [← hy] at c1 x1 hst
        have pb := prod_b x y
        have ch0 := fun w => held_any x x0 w
        have ch1 := fun w => held_any y x1 w
        obtain ⟨X, hX⟩ : ∃ X, X = hd x := ⟨_, rfl⟩
        obtain ⟨Y, hY⟩ : ∃ Y, Y = hd y := ⟨_, rfl⟩
        rw [← hX] at ch0 hst pb
        rw [← hY] at ch1 hst pb
        obtain ⟨S, hSe⟩ : ∃ S, S = alk hs p m := ⟨_, rfl⟩
        rw [← hSe] at hsb hst ⊢
        obtain ⟨S2, hS2⟩ : ∃ S, S = alk hs p (m + 1) := ⟨_, rfl⟩
        rw [← hS2] at hst hsb2
        replace hS2 := Lib.hid hS2
        obtain ⟨M, hM⟩ : ∃ M, X * Y = M := ⟨_, rfl⟩
        rw [hM] at hst pb
        have u1 : IntKind.i64.wrap ((l : Int) - (m : Int)) = ((l - m : Nat) : Int) := by rw [IntKind.wrap_i64]; omega
        have u2 : IntKind.i64.wrap (((l - m : Nat) : Int) - (p : Int)) = ((l - m - p : Nat) : Int) := by rw [IntKind.wrap_i64]; omega
        have u3 : IntKind.i64.wrap M = M := by rw [IntKind.wrap_i64]; omega
        have u4 : IntKind.i64.wrap (S + M) = S2 := by rw [IntKind.wrap_i64]; omega
        obtain ⟨i0, hi0⟩ : ∃ i0, i0 = l - m := ⟨_, rfl⟩
        rw [← hi0] at u1 u2 c0 c1
        obtain ⟨i1, hi1⟩ : ∃ i1, i1 = i0 - p := ⟨_, rfl⟩
        rw [← hi1] at u2 c1
        have v0 : i0 < n := by omega
        have v1 : i1 < n := by omega
        have v2 : (i0 : Int) < (n : Int) := by omega
        have v3 : (i1 : Int) < (n : Int) := by omega
        replace hw := Lib.hid hw
        clear hi0 hi1 hst hsb hsb2 pb hx hy hX hY hSe x0 x1
        go_wp2_with fail
        go_quiet ((first | (go_at_call 22; with_reducible exact quietL (ch0 _)) | (go_at_call 22; with_reducible exact quietL (ch1 _))))
        go_wp2_with fail
        exact ⟨⟨m + 1, d + nq, by omega, by go_num, by rw [hS2.out], by rw [hw.out, World.drewN_drewN]⟩, by simp [intOf]; omega⟩
    · obtain rfl : m = h := by omega
      replace hw := Lib.hid hw
      go_wp2_with fail
      go_ret
      exact ⟨rfl, _, hw.out⟩
end Go.Proofs.YtckcjgmikjpfaaaDoor
