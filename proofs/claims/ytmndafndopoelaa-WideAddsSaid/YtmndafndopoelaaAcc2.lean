import Derived.Test.YtmndafndopoelaaAcc
namespace Go.Proofs.Ytmndafndopoelaa
open Go.RowKit

theorem rep_of {x : Int} (h1 : -9223372036854775808 ≤ x) (h2 : x ≤ 9223372036854775807) : Rep (x / 9223372036854775808) (x % 18446744073709551616) x := by constructor <;> omega

set_option maxHeartbeats 1000000 in
theorem of_any {x : Int} (h1 : -9223372036854775808 ≤ x) (h2 : x ≤ 9223372036854775807) (w : World) :
    Calls Try.prog 21 #[.int .i64 x] w fun e w' => ∃ h l, Rep h l x ∧ e = .returned (.agg #[.int .i64 h, .int .u64 l]) ∧ Below w.heap.size w w' := by
  have R := rep_of h1 h2
  obtain ⟨h, hh⟩ : ∃ h, x / 9223372036854775808 = h := ⟨_, rfl⟩
  obtain ⟨l, hl⟩ : ∃ l, IntKind.u64.wrap x = l := ⟨_, rfl⟩
  have hl' := hl
  rw [IntKind.wrap_u64] at hl'
  rw [hh, hl'] at R
  clear hl'
  go_enter Try.func21, Try.ntmps21
  go_wp2
  refine bodyPost_ret (v := .agg #[.int .i64 h, .int .u64 l]) (by simp [results, Try.results21, go_sem]) rfl ⟨h, l, R, rfl, ?_⟩
  repeat (first | (with_reducible exact Below.refl _ _) | (with_reducible assumption) | (with_reducible refine below_drewN ?_ _) | (with_reducible refine Below.drew ?_) | (with_reducible refine Below.setCell ?_ (by (try simp); (try omega)) _) | (with_reducible refine Below.alloc ?_ (by (try simp); (try omega)) _))

namespace M64
theorem maskN (a : Nat) (ha : a < 18446744073709551616) : bits .and .u64 (a : Int) 4294967295 = ((a % 4294967296 : Nat) : Int) := by
  have h := bits_and_u64_nat a 4294967295 ha (by omega)
  have e : a &&& 4294967295 = a % 4294967296 := Nat.and_two_pow_sub_one_eq_mod a 32
  rw [e] at h
  exact h
theorem divN (a : Nat) : (a : Int) / 4294967296 = ((a / 4294967296 : Nat) : Int) := by omega
theorem mulN (a b : Nat) : (a : Int) * (b : Int) = ((a * b : Nat) : Int) := (Int.natCast_mul a b).symm
theorem addN (a b : Nat) : (a : Int) + (b : Int) = ((a + b : Nat) : Int) := (Int.natCast_add a b).symm
theorem wrapN (a : Nat) (ha : a < 18446744073709551616) : IntKind.u64.wrap (a : Int) = (a : Int) := by rw [IntKind.wrap_u64]; omega
theorem wrapM (a : Nat) : IntKind.u64.wrap (a : Int) = ((a % 18446744073709551616 : Nat) : Int) := by rw [IntKind.wrap_u64]; omega
end M64

set_option maxHeartbeats 1000000 in
theorem mul64N (x y : Nat) (hx : x < 18446744073709551616) (hy : y < 18446744073709551616) (w : World) :
    Calls Try.prog 34 #[.int .u64 x, .int .u64 y] w fun e w' => e = .returned (.tuple #[.int .u64 ((x * y / 18446744073709551616 : Nat) : Int), .int .u64 ((x * y % 18446744073709551616 : Nat) : Int)]) ∧ w = w' := by
  obtain ⟨_, bt, bw, hhi⟩ := Lib.mul64_hi x y hx hy
  have ba := Lib.half_mul_le (a := x / 4294967296) (b := y / 4294967296) (by omega) (by omega)
  have bb := Lib.half_mul_le (a := x / 4294967296) (b := y % 4294967296) (by omega) (by omega)
  have bc := Lib.half_mul_le (a := x % 4294967296) (b := y / 4294967296) (by omega) (by omega)
  have bd := Lib.half_mul_le (a := x % 4294967296) (b := y % 4294967296) (by omega) (by omega)
  have ba' : x / 4294967296 * (y / 4294967296) < 18446744073709551616 := by omega
  have bb' : x / 4294967296 * (y % 4294967296) < 18446744073709551616 := by omega
  have bc' : x % 4294967296 * (y / 4294967296) < 18446744073709551616 := by omega
  have bd' : x % 4294967296 * (y % 4294967296) < 18446744073709551616 := by omega
  have bh1 : x / 4294967296 * (y / 4294967296) + (x / 4294967296 * (y % 4294967296) + x % 4294967296 * (y % 4294967296) / 4294967296) / 4294967296 < 18446744073709551616 := by omega
  have bh : x / 4294967296 * (y / 4294967296) + (x / 4294967296 * (y % 4294967296) + x % 4294967296 * (y % 4294967296) / 4294967296) / 4294967296 + ((x / 4294967296 * (y % 4294967296) + x % 4294967296 * (y % 4294967296) / 4294967296) % 4294967296 + x % 4294967296 * (y / 4294967296)) / 4294967296 < 18446744073709551616 := by omega
  go_enter Try.func34, Try.ntmps34
  go_wp2
  simp only [M64.maskN x hx, M64.maskN y hy, M64.divN, M64.mulN, M64.addN, M64.wrapN _ bd', M64.wrapN _ bb', M64.wrapN _ bt, M64.maskN _ bt, M64.wrapN _ bc', M64.wrapN _ bw, M64.wrapN _ ba', M64.wrapN _ bh1, M64.wrapN _ bh, M64.wrapM (x * y)]
  rw [hhi]
  go_ret2
  exact ⟨rfl, rfl⟩

theorem mul64_any {x y : Int} (h1 : 0 ≤ x) (h2 : x ≤ 18446744073709551615) (h3 : 0 ≤ y) (h4 : y ≤ 18446744073709551615) (w : World) :
    Calls Try.prog 34 #[.int .u64 x, .int .u64 y] w fun e w' => ∃ p q, p = x * y / 18446744073709551616 ∧ q = x * y % 18446744073709551616 ∧ e = .returned (.tuple #[.int .u64 p, .int .u64 q]) ∧ w = w' := by
  obtain ⟨x, rfl⟩ := Int.eq_ofNat_of_zero_le h1
  obtain ⟨y, rfl⟩ := Int.eq_ofNat_of_zero_le h3
  refine (mul64N x y (by omega) (by omega) w).mono ?_
  rintro e w' ⟨he, hw⟩
  exact ⟨_, _, by rw [← Int.natCast_mul]; rfl, by rw [← Int.natCast_mul]; rfl, he, hw⟩

/-- The product, from the halves' products. -/
theorem rep_times {h l n X u v p q : Int} (r : Rep h l X) (hu : u = h % 18446744073709551616) (hv : v = n % 18446744073709551616) (hp : p = l * v / 18446744073709551616) (hq : q = l * v % 18446744073709551616) (hn1 : -9223372036854775808 ≤ n) (hn2 : n ≤ 9223372036854775807)
    {t : Int} (ht : t = (p + u * v - if n < 0 then l else 0) % 18446744073709551616) : Rep ((t + 9223372036854775808) % 18446744073709551616 - 9223372036854775808) q (X * n) := by
  obtain ⟨a1, a2, a3, a4, a5⟩ := r
  obtain ⟨k, hk⟩ : ∃ k, X = u * 18446744073709551616 + l + 340282366920938463463374607431768211456 * k := ⟨(X - (u * 18446744073709551616 + l)) / 340282366920938463463374607431768211456, by omega⟩
  obtain ⟨d, hd, hd'⟩ : ∃ d : Int, n = v - 18446744073709551616 * d ∧ (l * d = if n < 0 then l else 0) := by
    by_cases hneg : n < 0
    · exact ⟨1, by omega, by rw [if_pos hneg]; omega⟩
    · exact ⟨0, by omega, by rw [if_neg hneg]; omega⟩
  have e : X * n = u * v * 18446744073709551616 + l * v - 18446744073709551616 * (l * d) + 340282366920938463463374607431768211456 * (k * v - k * d * 18446744073709551616 - u * d) := by
    rw [hk, hd]; grind
  rw [← hd'] at ht
  generalize k * v - k * d * 18446744073709551616 - u * d = K at e
  generalize l * d = ld at *
  generalize l * v = lv at *
  generalize u * v = uv at *
  generalize X * n = Z at *
  constructor <;> omega

def IsH (T X q t : Int) : Prop := T = t → Rep (wrap64 t) q X

set_option maxHeartbeats 1000000 in
theorem times_any {h l n X : Int} (r : Rep h l X) (hn1 : -9223372036854775808 ≤ n) (hn2 : n ≤ 9223372036854775807) (w : World) :
    Calls Try.prog 11 #[.agg #[.int .i64 h, .int .u64 l], .int .i64 n] w fun e w' => ∃ h' l', Rep h' l' (X * n) ∧ e = .returned (.agg #[.int .i64 h', .int .u64 l']) ∧ Below w.heap.size w w' := by
  obtain ⟨u, hu⟩ : ∃ u, IntKind.u64.wrap h = u := ⟨_, rfl⟩
  obtain ⟨v, hv⟩ : ∃ u, IntKind.u64.wrap n = u := ⟨_, rfl⟩
  have hu' := hu
  have hv' := hv
  rw [IntKind.wrap_u64] at hu' hv'
  have c := fun w => mul64_any (x := l) (y := v) r.llo r.lhi (by omega) (by omega) w
  by_cases hneg : n < 0
  · have HT : ∀ p q, p = l * v / 18446744073709551616 → q = l * v % 18446744073709551616 → ∃ h', wrap64 (IntKind.u64.wrap (IntKind.u64.wrap (p + IntKind.u64.wrap (u * v)) - l)) = h' ∧ Rep h' q (X * n) := by
      intro p q hp hq
      refine ⟨_, rfl, ?_⟩
      simp only [IntKind.wrap_u64]; unfold wrap64
      exact rep_times (t := ((p + (u * v) % 18446744073709551616) % 18446744073709551616 - l) % 18446744073709551616) r hu'.symm hv'.symm hp hq hn1 hn2 (by rw [if_pos hneg]; omega)
    have H := Lib.hid HT
    clear HT hu' hv'
    go_enter Try.func11, Try.ntmps11
    go_wp2_with fail
    refine (c _).mono ?_
    rintro e w' ⟨p, q, hp, hq, rfl, rfl⟩
    obtain ⟨h', e', R⟩ := H.out p q hp hq
    clear c hp hq H
    go_wp2
    refine bodyPost_ret (v := .agg #[.int .i64 h', .int .u64 q]) (by simp [results, Try.results11, go_sem]) rfl ⟨h', q, R, rfl, ?_⟩
    repeat (first | (with_reducible exact Below.refl _ _) | (with_reducible assumption) | (with_reducible refine below_drewN ?_ _) | (with_reducible refine Below.drew ?_) | (with_reducible refine Below.setCell ?_ (by (try simp); (try omega)) _) | (with_reducible refine Below.alloc ?_ (by (try simp); (try omega)) _))
  · have HT : ∀ p q, p = l * v / 18446744073709551616 → q = l * v % 18446744073709551616 → ∃ h', wrap64 (IntKind.u64.wrap (p + IntKind.u64.wrap (u * v))) = h' ∧ Rep h' q (X * n) := by
      intro p q hp hq
      refine ⟨_, rfl, ?_⟩
      simp only [IntKind.wrap_u64]; unfold wrap64
      exact rep_times (t := (p + (u * v) % 18446744073709551616) % 18446744073709551616) r hu'.symm hv'.symm hp hq hn1 hn2 (by rw [if_neg hneg]; omega)
    have H := Lib.hid HT
    clear HT hu' hv'
    go_enter Try.func11, Try.ntmps11
    go_wp2_with fail
    refine (c _).mono ?_
    rintro e w' ⟨p, q, hp, hq, rfl, rfl⟩
    obtain ⟨h', e', R⟩ := H.out p q hp hq
    clear c hp hq H
    go_wp2
    refine bodyPost_ret (v := .agg #[.int .i64 h', .int .u64 q]) (by simp [results, Try.results11, go_sem]) rfl ⟨h', q, R, rfl, ?_⟩
    repeat (first | (with_reducible exact Below.refl _ _) | (with_reducible assumption) | (with_reducible refine below_drewN ?_ _) | (with_reducible refine Below.drew ?_) | (with_reducible refine Below.setCell ?_ (by (try simp); (try omega)) _) | (with_reducible refine Below.alloc ?_ (by (try simp); (try omega)) _))

set_option maxHeartbeats 1000000 in
theorem wmul_any {a b : Int} (ha1 : -9223372036854775808 ≤ a) (ha2 : a ≤ 9223372036854775807) (hn1 : -9223372036854775808 ≤ b) (hn2 : b ≤ 9223372036854775807) (w : World) :
    Calls Try.prog 14 #[.int .i64 a, .int .i64 b] w fun e w' => ∃ h' l', Rep h' l' (a * b) ∧ e = .returned (.agg #[.int .i64 h', .int .u64 l']) ∧ Below w.heap.size w w' := by
  go_enter Try.func14, Try.ntmps14
  go_wp2_with fail
  refine (of_any ha1 ha2 _).mono ?_
  rintro e w1 ⟨h, l, R, rfl, hb⟩
  obtain ⟨c0, c1, f0, f1, hz⟩ := blk2 (g := w.heap.size) (v0 := .int .i64 0) (v1 := .int .u64 0) (t := 24) hb (by repeat (first | (with_reducible refine heap_last _ _ ?_; simp; done) | refine heap_keep ?_))
  have hb' : Below w.heap.size w w1 := Below.trans (by repeat (first | (with_reducible exact Below.refl _ _) | (with_reducible assumption) | (with_reducible refine below_drewN ?_ _) | (with_reducible refine Below.drew ?_) | (with_reducible refine Below.setCell ?_ (by (try simp); (try omega)) _) | (with_reducible refine Below.alloc ?_ (by (try simp); (try omega)) _))) (hb.mono (by simp))
  clear hb
  go_wp2_with fail
  refine (times_any R hn1 hn2 _).mono ?_
  rintro e w2 ⟨h', l', R', rfl, hb2⟩
  have k0 := (hb2.cell (p := ⟨w.heap.size, 0, none⟩) hz).trans c0
  have k1 := (hb2.cell (p := ⟨w.heap.size, 1, none⟩) hz).trans c1
  have g0 := (hb2.frozen (p := ⟨w.heap.size, 0, none⟩) hz).trans f0
  have g1 := (hb2.frozen (p := ⟨w.heap.size, 1, none⟩) hz).trans f1
  have hb3 : Below w.heap.size w w2 := hb'.trans (hb2.mono (by omega))
  clear hb2 hb' c0 c1 f0 f1
  go_wp2
  refine bodyPost_ret (v := .agg #[.int .i64 h', .int .u64 l']) (by simp [results, Try.results14, go_sem, *]) rfl ⟨h', l', R', rfl, ?_⟩
  repeat (first | (with_reducible exact Below.refl _ _) | (with_reducible assumption) | (with_reducible refine below_drewN ?_ _) | (with_reducible refine Below.drew ?_) | (with_reducible refine Below.setCell ?_ (by (try simp); (try omega)) _) | (with_reducible refine Below.alloc ?_ (by (try simp); (try omega)) _))
end Go.Proofs.Ytmndafndopoelaa
