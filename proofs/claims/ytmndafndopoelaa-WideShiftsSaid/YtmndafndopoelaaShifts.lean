/- The walk of WideShifts. -/
import Derived.Test.YtmndafndopoelaaShift4
namespace Go.Proofs.Ytmndafndopoelaa
open Go.RowKit

/-- One boxed wide number. -/
def One (w : World) (a0 a1 : Value) (W : World) : Prop := W.cell? ⟨w.heap.size, 0, none⟩ = some a0 ∧ W.cell? ⟨w.heap.size, 1, none⟩ = some a1 ∧ Below w.heap.size w W ∧ w.heap.size < W.heap.size
theorem One.step {w W W' : World} {a0 a1 : Value} (h : One w a0 a1 W) (hb : Below W.heap.size W W') : One w a0 a1 W' :=
  ⟨(hb.cell (p := ⟨w.heap.size, 0, none⟩) h.2.2.2).trans h.1, (hb.cell (p := ⟨w.heap.size, 1, none⟩) h.2.2.2).trans h.2.1, h.2.2.1.trans (hb.mono (Nat.le_of_lt h.2.2.2)), Nat.lt_of_lt_of_le h.2.2.2 hb.size⟩
theorem One.drew {w W : World} {a0 a1 : Value} (h : One w a0 a1 W) : One w a0 a1 W.drew := ⟨h.1, h.2.1, h.2.2.1.drew, h.2.2.2⟩

set_option maxHeartbeats 8000000 in
theorem shifts_core (h l s X : Int) (k : Nat) (b1 : -9223372036854775808 ≤ h ∧ h ≤ 9223372036854775807) (b2 : 0 ≤ l ∧ l ≤ 18446744073709551615) (hX : h * 18446744073709551616 + l = X) (hk : Clip s k) (w : World) :
    Calls Try.prog 6 #[.agg #[.int .i64 h, .int .u64 l], .int .i64 s] w fun e w' => e = .returned (.bool true) ∧ Below w.heap.size w w' := by
  have R : Rep h l X := by subst hX; constructor <;> omega
  have WX : -170141183460469231731687303715884105728 ≤ X ∧ X < 170141183460469231731687303715884105728 := by omega
  have hk2 : k ≤ 127 := by rcases hk with ⟨_, rfl⟩ | ⟨_, _, _⟩ | ⟨_, rfl⟩ <;> omega
  have c22 : ∀ w, Calls Try.prog 22 #[.int .i64 s, .int .i64 0, .int .i64 127] w fun e w' => e = .returned (.int .i64 (k : Int)) ∧ w = w' := by
    have e : held3 s 0 127 = (k : Int) := by
      unfold held3
      rcases hk with ⟨h, rfl⟩ | ⟨h, h', h''⟩ | ⟨h, rfl⟩
      · rw [if_pos h]; rfl
      · rw [if_neg (by omega), if_neg (by omega)]; exact h''
      · rw [if_neg (by omega), if_pos h]; rfl
    rw [← e]
    exact fun w => bits_any s 0 127 w
  have c23 := fun w => wshr_any h l s k hk b1 b2 w
  have c25 := fun w => wround_any h l s k hk b1 b2 w
  rw [hX] at c23 c25
  have c24 := fun w => shr_core X (X / 2 ^ k) k WX hk2 rfl w
  have c26 := fun w => bround_any X (rnd X k) k WX hk2 rfl w
  clear hk hk2 hX WX
  go_enter Try.func6, Try.ntmps6
  go_wp2_with fail
  refine (awake_any _).mono ?_
  rintro e w1 ⟨rfl, hb⟩
  obtain ⟨c0, -, hz⟩ := blkA (g := w.heap.size) (t := 24) (cs := #[.int .i64 h, .int .u64 l]) hb (by repeat (first | (with_reducible refine heap_last _ _ ?_; simp; done) | refine heap_keep ?_))
  have kS : One w (.int .i64 h) (.int .u64 l) w1 := ⟨c0 0, c0 1, Below.trans (by repeat (first | (with_reducible exact Below.refl _ _) | (with_reducible assumption) | (with_reducible refine below_drewN ?_ _) | (with_reducible refine Below.drew ?_) | (with_reducible refine Below.setCell ?_ (by simp; try omega) _) | (with_reducible refine Below.alloc ?_ (by simp; try omega) _))) (hb.mono (by simp; try omega)), hz⟩
  clear hb c0 hz
  have eqr := eqD_refl
  have eqg := guardD
  go_wp2_with (go_at_call 22; refine (c22 _).mono ?_; rintro e w2 ⟨rfl, rfl⟩)
  go_region_held3 (fun W => W.cell? ⟨w.heap.size, 0, none⟩ = some (.int .i64 h) ∧ W.cell? ⟨w.heap.size, 1, none⟩ = some (.int .u64 l) ∧ Below w.heap.size w W ∧ w.heap.size < W.heap.size)
    (first | exact kS.drew | exact One.step (by assumption) hb2)
    (first
      | (go_at_call 23; refine (c23 _).mono ?_; rintro e w2 ⟨h', l', R', rfl, hb2⟩)
      | (go_at_call 25; refine (c25 _).mono ?_; rintro e w2 ⟨h', l', R', rfl, hb2⟩)
      | (go_at_call 10; refine (big_any (by assumption) _).mono ?_; rintro e w2 ⟨rfl, hb2⟩)
      | (go_at_call 24; refine (c24 _).mono ?_; rintro e w2 ⟨rfl, hb2⟩)
      | (go_at_call 26; refine (c26 _).mono ?_; rintro e w2 ⟨rfl, hb2⟩))
  go_wp2
  go_ret
  exact ⟨rfl, endS (by assumption)⟩

theorem shifts_walk (h l s : Int) (b1 : -9223372036854775808 ≤ h ∧ h ≤ 9223372036854775807) (b2 : 0 ≤ l ∧ l ≤ 18446744073709551615) (w : World) :
    Calls Try.prog 6 #[.agg #[.int .i64 h, .int .u64 l], .int .i64 s] w fun e w' => e = .returned (.bool true) ∧ Below w.heap.size w w' := by
  obtain ⟨k, hk⟩ : ∃ k, Clip s k := by
    by_cases c1 : s < 0
    · exact ⟨0, .inl ⟨c1, rfl⟩⟩
    · by_cases c2 : 127 < s
      · exact ⟨127, .inr (.inr ⟨c2, rfl⟩)⟩
      · exact ⟨s.toNat, .inr (.inl ⟨by omega, by omega, by omega⟩)⟩
  exact shifts_core h l s _ k b1 b2 rfl hk w
end Go.Proofs.Ytmndafndopoelaa
