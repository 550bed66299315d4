import Derived.Test.YtmndafndopoelaaMath
import Derived.WalkKit
import Derived.Below
import Derived.Outline
import Derived.Deep.QuietTactic
import Derived.BigQuiet
import Derived.Laws.Externs
import Derived.Lib.Mul64
import Derived.Laws.Bits64b
import Derived.Lib.Hide
namespace Go.Proofs.Ytmndafndopoelaa
open Go.RowKit

theorem below_drewN {B : Nat} {a w : World} (h : Below B a w) (n : Nat) : Below B a (w.drewN n) := ⟨h.os, h.tape, h.output, h.size, h.block⟩

def add64E : Array Value → Sem Value := fun args => do
  let (x, y, c) ← Extern.MathBitsCarry.three "Add64" args
  pure (Extern.MathBitsCarry.pair ((x + y + c) % Extern.MathBitsCarry.m64) ((x + y + c) / Extern.MathBitsCarry.m64))
def sub64E : Array Value → Sem Value := fun args => do
  let (x, y, b) ← Extern.MathBitsCarry.three "Sub64" args
  pure (Extern.MathBitsCarry.pair ((x + Extern.MathBitsCarry.m64 - y - b) % Extern.MathBitsCarry.m64) (if x < y + b then 1 else 0))

theorem run_add64N (x y c : Nat) (hc : c ≤ 1) (w : World) : (add64E #[.int .u64 x, .int .u64 y, .int .u64 c]).run Try.prog w =
    .ok (.tuple #[.int .u64 (((x + y + c) % 18446744073709551616 : Nat) : Int), .int .u64 (((x + y + c) / 18446744073709551616 : Nat) : Int)]) w := by
  have : c = 0 ∨ c = 1 := by omega
  rcases this with rfl | rfl <;> rfl
theorem run_sub64N (x y c : Nat) (hc : c ≤ 1) (w : World) : (sub64E #[.int .u64 x, .int .u64 y, .int .u64 c]).run Try.prog w =
    .ok (.tuple #[.int .u64 (((x + 18446744073709551616 - y - c) % 18446744073709551616 : Nat) : Int), .int .u64 ((if x < y + c then 1 else 0 : Nat) : Int)]) w := by
  have : c = 0 ∨ c = 1 := by omega
  rcases this with rfl | rfl <;> rfl

theorem run_add64 {x y c s d : Int} (hx : 0 ≤ x) (hy : 0 ≤ y) (hc : 0 ≤ c ∧ c ≤ 1) (hs : s = (x + y + c) % 18446744073709551616) (hd : d = (x + y + c) / 18446744073709551616) (w : World) :
    (callFunc 35 #[.int .u64 x, .int .u64 y, .int .u64 c]).run Try.prog w = .ok (.value (.tuple #[.int .u64 s, .int .u64 d])) w := by
  obtain ⟨x, rfl⟩ := Int.eq_ofNat_of_zero_le hx
  obtain ⟨y, rfl⟩ := Int.eq_ofNat_of_zero_le hy
  obtain ⟨c, rfl⟩ := Int.eq_ofNat_of_zero_le hc.1
  rw [run_callFunc_extern Try.func35 (by kernel_rfl) (by kernel_rfl) (by kernel_rfl) (e := add64E) (by kernel_rfl), run_add64N x y c (by omega)]
  subst hs hd
  rfl
theorem run_sub64 {x y c s d : Int} (hx : 0 ≤ x) (hy : 0 ≤ y) (hy2 : y ≤ 18446744073709551615) (hc : 0 ≤ c ∧ c ≤ 1) (hs : s = (x - y - c) % 18446744073709551616) (hd : d = if x < y + c then 1 else 0) (w : World) :
    (callFunc 36 #[.int .u64 x, .int .u64 y, .int .u64 c]).run Try.prog w = .ok (.value (.tuple #[.int .u64 s, .int .u64 d])) w := by
  obtain ⟨x, rfl⟩ := Int.eq_ofNat_of_zero_le hx
  obtain ⟨y, rfl⟩ := Int.eq_ofNat_of_zero_le hy
  obtain ⟨c, rfl⟩ := Int.eq_ofNat_of_zero_le hc.1
  rw [run_callFunc_extern Try.func36 (by kernel_rfl) (by kernel_rfl) (by kernel_rfl) (e := sub64E) (by kernel_rfl), run_sub64N x y c (by omega)]
  have e1 : (((x + 18446744073709551616 - y - c) % 18446744073709551616 : Nat) : Int) = s := by omega
  have e2 : ((if x < y + c then 1 else 0 : Nat) : Int) = d := by subst hd; split <;> split <;> omega
  rw [e1, e2]
  rfl

set_option maxHeartbeats 1000000 in
theorem plus_any {h1 l1 h2 l2 X Y : Int} (r1 : Rep h1 l1 X) (r2 : Rep h2 l2 Y) (w : World) :
    Calls Try.prog 17 #[.agg #[.int .i64 h1, .int .u64 l1], .agg #[.int .i64 h2, .int .u64 l2]] w fun e w' => ∃ h l, Rep h l (X + Y) ∧ e = .returned (.agg #[.int .i64 h, .int .u64 l]) ∧ Below w.heap.size w w' := by
  obtain ⟨a1, a2, a3, a4, a5⟩ := r1
  obtain ⟨b1, b2, b3, b4, b5⟩ := r2
  obtain ⟨u1, hu1⟩ : ∃ u, IntKind.u64.wrap h1 = u := ⟨_, rfl⟩
  obtain ⟨u2, hu2⟩ : ∃ u, IntKind.u64.wrap h2 = u := ⟨_, rfl⟩
  obtain ⟨s, hs⟩ : ∃ s, s = (l1 + l2 + 0) % 18446744073709551616 := ⟨_, rfl⟩
  obtain ⟨c, hc⟩ : ∃ c, c = (l1 + l2 + 0) / 18446744073709551616 := ⟨_, rfl⟩
  obtain ⟨t, ht⟩ : ∃ s, s = (u1 + u2 + c) % 18446744073709551616 := ⟨_, rfl⟩
  obtain ⟨d, hd⟩ : ∃ c', c' = (u1 + u2 + c) / 18446744073709551616 := ⟨_, rfl⟩
  obtain ⟨h, hh⟩ : ∃ h, wrap64 t = h := ⟨_, rfl⟩
  have U1 := hu1; rw [IntKind.wrap_u64] at U1
  have U2 := hu2; rw [IntKind.wrap_u64] at U2
  have q1 := fun w : World => run_add64 (x := l1) (y := l2) (c := 0) a3 b3 (by omega) hs hc w
  have q2 := fun w : World => run_add64 (x := u1) (y := u2) (c := c) (by omega) (by omega) (by omega) ht hd w
  have R : Rep h s (X + Y) := by
    unfold wrap64 at hh
    constructor <;> omega
  clear hs hc ht hd U1 U2 a1 a2 a3 a4 a5 b1 b2 b3 b4 b5
  go_enter Try.func17, Try.ntmps17
  go_wp2
  refine bodyPost_ret (v := .agg #[.int .i64 h, .int .u64 s]) (by simp [results, Try.results17, go_sem]) rfl ⟨h, s, R, rfl, ?_⟩
  repeat (first | (with_reducible exact Below.refl _ _) | (with_reducible assumption) | (with_reducible refine below_drewN ?_ _) | (with_reducible refine Below.drew ?_) | (with_reducible refine Below.setCell ?_ (by (try simp); (try omega)) _) | (with_reducible refine Below.alloc ?_ (by (try simp); (try omega)) _))

set_option maxHeartbeats 1000000 in
theorem minus_any {h1 l1 h2 l2 X Y : Int} (r1 : Rep h1 l1 X) (r2 : Rep h2 l2 Y) (w : World) :
    Calls Try.prog 18 #[.agg #[.int .i64 h1, .int .u64 l1], .agg #[.int .i64 h2, .int .u64 l2]] w fun e w' => ∃ h l, Rep h l (X - Y) ∧ e = .returned (.agg #[.int .i64 h, .int .u64 l]) ∧ Below w.heap.size w w' := by
  obtain ⟨a1, a2, a3, a4, a5⟩ := r1
  obtain ⟨b1, b2, b3, b4, b5⟩ := r2
  obtain ⟨u1, hu1⟩ : ∃ u, IntKind.u64.wrap h1 = u := ⟨_, rfl⟩
  obtain ⟨u2, hu2⟩ : ∃ u, IntKind.u64.wrap h2 = u := ⟨_, rfl⟩
  obtain ⟨s, hs⟩ : ∃ s, s = (l1 - l2 - 0) % 18446744073709551616 := ⟨_, rfl⟩
  obtain ⟨c, hc⟩ : ∃ c : Int, c = if l1 < l2 + 0 then 1 else 0 := ⟨_, rfl⟩
  obtain ⟨t, ht⟩ : ∃ s, s = (u1 - u2 - c) % 18446744073709551616 := ⟨_, rfl⟩
  obtain ⟨d, hd⟩ : ∃ c' : Int, c' = if u1 < u2 + c then 1 else 0 := ⟨_, rfl⟩
  obtain ⟨h, hh⟩ : ∃ h, wrap64 t = h := ⟨_, rfl⟩
  have U1 := hu1; rw [IntKind.wrap_u64] at U1
  have U2 := hu2; rw [IntKind.wrap_u64] at U2
  have q1 := fun w : World => run_sub64 (x := l1) (y := l2) (c := 0) a3 b3 b4 (by omega) hs hc w
  have q2 := fun w : World => run_sub64 (x := u1) (y := u2) (c := c) (by omega) (by omega) (by omega) (by subst hc; split <;> omega) ht hd w
  have R : Rep h s (X - Y) := by
    unfold wrap64 at hh
    split at hc <;> constructor <;> omega
  clear hs hc ht hd U1 U2 a1 a2 a3 a4 a5 b1 b2 b3 b4 b5
  go_enter Try.func18, Try.ntmps18
  go_wp2
  refine bodyPost_ret (v := .agg #[.int .i64 h, .int .u64 s]) (by simp [results, Try.results18, go_sem]) rfl ⟨h, s, R, rfl, ?_⟩
  repeat (first | (with_reducible exact Below.refl _ _) | (with_reducible assumption) | (with_reducible refine below_drewN ?_ _) | (with_reducible refine Below.drew ?_) | (with_reducible refine Below.setCell ?_ (by (try simp); (try omega)) _) | (with_reducible refine Below.alloc ?_ (by (try simp); (try omega)) _))

theorem rep_zero : Rep 0 0 0 := by constructor <;> omega

theorem heap_last (W : World) (o : Obj) {g : Nat} (h : g = W.heap.size) : (W.alloc o).heap[g]? = some o := by
  subst h
  exact heap_alloc_new W o
theorem heap_keep {W : World} {o x : Obj} {g : Nat} (h : W.heap[g]? = some x) : (W.alloc o).heap[g]? = some x := by
  have hg : g < W.heap.size := by
    rcases Nat.lt_or_ge g W.heap.size with hl | hl
    · exact hl
    · rw [Array.getElem?_eq_none hl] at h; cases h
  exact (Below.heap_alloc W o g hg).trans h
theorem blk2 {W w' : World} {g : Nat} {v0 v1 : Value} {t : TypeId} (hb : Below W.heap.size W w') (h : W.heap[g]? = some (.cells #[v0, v1] t (0, 0))) :
    w'.cell? ⟨g, 0, none⟩ = some v0 ∧ w'.cell? ⟨g, 1, none⟩ = some v1 ∧ w'.frozen? ⟨g, 0, none⟩ = false ∧ w'.frozen? ⟨g, 1, none⟩ = false ∧ g < w'.heap.size := by
  have hg : g < W.heap.size := by
    rcases Nat.lt_or_ge g W.heap.size with hl | hl
    · exact hl
    · rw [Array.getElem?_eq_none hl] at h; cases h
  have h' := (hb.block g hg).trans h
  refine ⟨?_, ?_, ?_, ?_, Nat.lt_of_lt_of_le hg hb.size⟩ <;> simp [World.cell?, World.frozen?, h']

set_option maxHeartbeats 1000000 in
theorem neg_any {h1 l1 X : Int} (r1 : Rep h1 l1 X) (w : World) :
    Calls Try.prog 20 #[.agg #[.int .i64 h1, .int .u64 l1]] w fun e w' => ∃ h l, Rep h l (-X) ∧ e = .returned (.agg #[.int .i64 h, .int .u64 l]) ∧ Below w.heap.size w w' := by
  go_enter Try.func20, Try.ntmps20
  go_wp2_with fail
  refine (minus_any rep_zero r1 _).mono ?_
  rintro e w' ⟨h, l, R, rfl, hb⟩
  obtain ⟨c0, c1, f0, f1, hz⟩ := blk2 (g := w.heap.size + 1) (v0 := .int .i64 0) (v1 := .int .u64 0) (t := 24) hb (by repeat (first | (with_reducible refine heap_last _ _ ?_; simp; done) | refine heap_keep ?_))
  have hb' : Below w.heap.size w w' := Below.trans (by repeat (first | (with_reducible exact Below.refl _ _) | (with_reducible assumption) | (with_reducible refine below_drewN ?_ _) | (with_reducible refine Below.drew ?_) | (with_reducible refine Below.setCell ?_ (by (try simp); (try omega)) _) | (with_reducible refine Below.alloc ?_ (by (try simp); (try omega)) _))) (hb.mono (by simp; omega))
  clear hb
  rw [Int.zero_sub] at R
  go_wp2
  refine bodyPost_ret (v := .agg #[.int .i64 h, .int .u64 l]) (by simp [results, Try.results20, go_sem, *]) rfl ⟨h, l, R, rfl, ?_⟩
  repeat (first | (with_reducible exact Below.refl _ _) | (with_reducible assumption) | (with_reducible refine below_drewN ?_ _) | (with_reducible refine Below.drew ?_) | (with_reducible refine Below.setCell ?_ (by (try simp); (try omega)) _) | (with_reducible refine Below.alloc ?_ (by (try simp); (try omega)) _))
end Go.Proofs.Ytmndafndopoelaa
