/- Contracts: a wide number's Round; the reference's Round. -/
import Derived.Test.YtmndafndopoelaaShift2
namespace Go.Proofs.Ytmndafndopoelaa
open Go.RowKit

/-- A boxed wide number, and the result's box that is still empty. -/
structure Res (w : World) (a0 a1 : Value) (W : World) : Prop where
  a0 : W.cell? ⟨w.heap.size, 0, none⟩ = some a0
  a1 : W.cell? ⟨w.heap.size, 1, none⟩ = some a1
  r0 : W.cell? ⟨w.heap.size + 1, 0, none⟩ = some (.int .i64 0)
  r1 : W.cell? ⟨w.heap.size + 1, 1, none⟩ = some (.int .u64 0)
  f0 : W.frozen? ⟨w.heap.size + 1, 0, none⟩ = false
  f1 : W.frozen? ⟨w.heap.size + 1, 1, none⟩ = false
  below : Below w.heap.size w W
  z : w.heap.size + 1 < W.heap.size
theorem Res.step {w W W' : World} {a0 a1 : Value} (h : Res w a0 a1 W) (hb : Below W.heap.size W W') : Res w a0 a1 W' := by
  obtain ⟨x0, x1, r0, r1, f0, f1, bl, z⟩ := h
  have z0 : w.heap.size < W.heap.size := by omega
  exact ⟨(hb.cell (p := ⟨w.heap.size, 0, none⟩) z0).trans x0, (hb.cell (p := ⟨w.heap.size, 1, none⟩) z0).trans x1, (hb.cell (p := ⟨w.heap.size + 1, 0, none⟩) z).trans r0, (hb.cell (p := ⟨w.heap.size + 1, 1, none⟩) z).trans r1,
    (hb.frozen (p := ⟨w.heap.size + 1, 0, none⟩) z).trans f0, (hb.frozen (p := ⟨w.heap.size + 1, 1, none⟩) z).trans f1, bl.trans (hb.mono bl.size), Nat.lt_of_lt_of_le z hb.size⟩
theorem Res.drew {w W : World} {a0 a1 : Value} (h : Res w a0 a1 W) : Res w a0 a1 W.drew := ⟨h.a0, h.a1, h.r0, h.r1, h.f0, h.f1, h.below.drew, h.z⟩
theorem Res.start (w : World) (a0 a1 : Value) : Res w a0 a1 ((w.alloc (.cells #[a0, a1] 24)).alloc (.cells #[.int .i64 0, .int .u64 0] 24)) := by
  have cb := blkA (g := w.heap.size) (t := 24) (cs := #[a0, a1]) (Below.refl _ ((w.alloc (.cells #[a0, a1] 24)).alloc (.cells #[.int .i64 0, .int .u64 0] 24))) (by repeat (first | (with_reducible refine heap_last _ _ ?_; simp; done) | refine heap_keep ?_))
  have cr := blkA (g := w.heap.size + 1) (t := 24) (cs := #[.int .i64 0, .int .u64 0]) (Below.refl _ ((w.alloc (.cells #[a0, a1] 24)).alloc (.cells #[.int .i64 0, .int .u64 0] 24))) (by repeat (first | (with_reducible refine heap_last _ _ ?_; simp; done) | refine heap_keep ?_))
  exact ⟨cb.1 0, cb.1 1, cr.1 0, cr.1 1, cr.2.1 0, cr.2.1 1, by repeat (first | (with_reducible exact Below.refl _ _) | (with_reducible assumption) | (with_reducible refine below_drewN ?_ _) | (with_reducible refine Below.drew ?_) | (with_reducible refine Below.setCell ?_ (by simp; try omega) _) | (with_reducible refine Below.alloc ?_ (by simp; try omega) _)), cr.2.2⟩

def rnd (X : Int) (k : Nat) : Int := if k = 0 then X else X / 2 ^ k + X / 2 ^ (k - 1) % 2

theorem wshr_g (h l s : Int) (h0 : 0 ≤ s) (h1 : s ≤ 127) (b1 : -9223372036854775808 ≤ h ∧ h ≤ 9223372036854775807) (b2 : 0 ≤ l ∧ l ≤ 18446744073709551615) (w : World) :
    Calls Try.prog 23 #[.agg #[.int .i64 h, .int .u64 l], .int .i64 s] w fun e w' => ∃ h' l', Rep h' l' ((h * 18446744073709551616 + l) / 2 ^ s.toNat) ∧ e = .returned (.agg #[.int .i64 h', .int .u64 l']) ∧ Below w.heap.size w w' :=
  wshr_any h l s s.toNat (.inr (.inl ⟨h0, h1, by omega⟩)) b1 b2 w

theorem rep_as {h l X Y : Int} (r : Rep h l X) (e : X = Y) : Rep h l Y := e ▸ r
theorem run_lo (h l : Int) (w : World) : (Instr.field 24 (.agg #[.int .i64 h, .int .u64 l]) 1).run Try.prog w = .ok (.int .u64 l) w := by kernel_rfl

theorem and_one {h l X : Int} (r : Rep h l X) : ∃ b, bits .and .u64 l 1 = b ∧ Rep 0 b (X % 2) := by
  obtain ⟨a1, a2, a3, a4, a5⟩ := r
  obtain ⟨n, rfl⟩ := Int.eq_ofNat_of_zero_le a3
  refine ⟨((n % 2 : Nat) : Int), ?_, ?_⟩
  · have := bits_and_u64_nat n 1 (by omega) (by omega)
    rw [show n &&& 1 = n % 2 from Nat.and_two_pow_sub_one_eq_mod n 1] at this
    exact this
  · constructor <;> omega

set_option maxHeartbeats 4000000 in
theorem wround_any (h l s : Int) (k : Nat) (hk : Clip s k) (b1 : -9223372036854775808 ≤ h ∧ h ≤ 9223372036854775807) (b2 : 0 ≤ l ∧ l ≤ 18446744073709551615) (w : World) :
    Calls Try.prog 25 #[.agg #[.int .i64 h, .int .u64 l], .int .i64 s] w fun e w' => ∃ h' l', Rep h' l' (rnd (h * 18446744073709551616 + l) k) ∧ e = .returned (.agg #[.int .i64 h', .int .u64 l']) ∧ Below w.heap.size w w' := by
  go_enter Try.func25, Try.ntmps25
  go_upto_region 1 with fail
  go_cut [1] (fun s1 wx => s1 = .int .i64 (k : Int) ∧ wx = (w.alloc (.cells #[.int .i64 h, .int .u64 l] 24)).alloc (.cells #[.int .i64 0, .int .u64 0] 24))
  case first =>
    rcases hk with ⟨h1, rfl⟩ | ⟨h1, h2, rfl⟩ | ⟨h1, rfl⟩
    · go_wp2
      go_meet
      exact ⟨rfl, rfl⟩
    · go_wp2
      go_meet
      exact ⟨rfl, rfl⟩
    · go_wp2
      go_meet
      exact ⟨rfl, rfl⟩
  case rest =>
    obtain ⟨rfl, rfl⟩ := hcut
    have hk2 : k ≤ 127 := by rcases hk with ⟨_, rfl⟩ | ⟨_, _, _⟩ | ⟨_, rfl⟩ <;> omega
    clear hk
    by_cases hz : k = 0
    · subst hz
      have R : Rep h l (rnd (h * 18446744073709551616 + l) 0) := by unfold rnd; rw [if_pos rfl]; constructor <;> omega
      go_wp2
      refine bodyPost_ret (v := .agg #[.int .i64 h, .int .u64 l]) (by simp [results, Try.results25, go_sem]) rfl ⟨_, _, R, rfl, ?_⟩
      repeat (first | (with_reducible exact Below.refl _ _) | (with_reducible assumption) | (with_reducible refine below_drewN ?_ _) | (with_reducible refine Below.drew ?_) | (with_reducible refine Below.setCell ?_ (by simp; try omega) _) | (with_reducible refine Below.alloc ?_ (by simp; try omega) _))
    · have hzb : ((k : Int) == 0) = false := by simp; omega
      have hk1 : 1 ≤ (k : Int) := by omega
      have hk3 : (k : Int) ≤ 127 := by omega
      have e1 : IntKind.i64.wrap ((k : Int) - 1) = k - 1 := by rw [IntKind.wrap_i64]; omega
      have hr := Lib.hid (show ∀ Z, Z = (h * 18446744073709551616 + l) / 2 ^ ((k : Int)).toNat + (h * 18446744073709551616 + l) / 2 ^ ((k : Int) - 1).toNat % 2 → Z = rnd (h * 18446744073709551616 + l) k from fun Z hZ => by
        rw [hZ]; unfold rnd; rw [if_neg hz, show ((k : Int) - 1).toNat = k - 1 from by omega, Int.toNat_natCast])
      clear hz hk2
      have hlo := run_lo
      have kS := (Res.start w (.int .i64 h) (.int .u64 l)).drew
      go_wp2_with fail
      go_region_with (first
        | (go_at_call 23; refine (wshr_g h l _ (by omega) (by omega) b1 b2 _).mono ?_; rintro e w2 ⟨h2, l2, R2, rfl, hb2⟩; obtain ⟨b2', hb2', Rb⟩ := and_one R2; have kT := Res.step (by assumption) hb2; clear kS; have kS := kT; obtain ⟨x0, x1, r0, r1, f0, f1, -, -⟩ := kT)
        | (go_at_call 17; refine (plus_any (by assumption) (by assumption) _).mono ?_; rintro e w2 ⟨h2, l2, R2, rfl, hb2⟩; have kT := Res.step (by assumption) hb2; clear kS; have kS := kT; obtain ⟨x0, x1, r0, r1, f0, f1, -, -⟩ := kT))
      all_goals
        have RR := rep_as R2 (hr.out _ rfl)
        have bl := kS.below
        clear kS hr hlo
        go_wp2
        refine bodyPost_ret (v := .agg #[.int .i64 h2, .int .u64 l2]) (by simp [results, Try.results25, go_sem, r0, r1]) rfl ⟨h2, l2, RR, rfl, ?_⟩
        repeat (first | (with_reducible exact Below.refl _ _) | (with_reducible assumption) | (with_reducible refine below_drewN ?_ _) | (with_reducible refine Below.drew ?_) | (with_reducible refine Below.setCell ?_ (by simp; try omega) _) | (with_reducible refine Below.alloc ?_ (by simp; try omega) _))
end Go.Proofs.Ytmndafndopoelaa
