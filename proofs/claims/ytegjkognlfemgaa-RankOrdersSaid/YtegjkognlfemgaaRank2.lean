/- Vectors in memory; the contracts of Pulses, of the reference's Pulses and Right. -/
import Derived.Test.YtegjkognlfemgaaRank1
namespace Go.Proofs.Ytegjkognlfemgaa
open Go.RowKit

/-- A vector of numbers, as it lies in memory. -/
def IsVec (w : World) (v : Value) (zs : List Int) : Prop :=
  (∃ ao cap, v = .slice ao 0 cap ∧ zs = []) ∨ ∃ b off cap, v = .slice (some ⟨b, off, none⟩) zs.length cap ∧ zs.length ≤ cap ∧ b < w.heap.size ∧
    ∀ j, j < zs.length → w.cell? ⟨b, off + j, none⟩ = some (.int .i64 (zs.getD j 0))
def Num (x : Int) : Prop := -9223372036854775808 ≤ x ∧ x ≤ 9223372036854775807
def msum : List Int → Int
  | [] => 0
  | x :: r => mag x + msum r
theorem mag_bound (x : Int) : 0 ≤ mag x ∧ mag x ≤ 1000 := by
  unfold mag
  split <;> (try split) <;> (try split) <;> omega
theorem msum_bound : ∀ zs : List Int, 0 ≤ msum zs ∧ msum zs ≤ 1000 * zs.length
  | [] => by simp [msum]
  | x :: r => by
    have := mag_bound x
    have := msum_bound r
    simp [msum]
    omega
theorem msum_take : ∀ (zs : List Int) (j : Nat), j < zs.length → msum (zs.take (j + 1)) = msum (zs.take j) + mag (zs.getD j 0)
  | x :: r, 0, _ => by simp [msum]
  | x :: r, j + 1, h => by
    have := msum_take r j (by simpa using h)
    simp only [List.take_succ_cons, msum, List.getD_cons_succ]
    omega

set_option maxHeartbeats 4000000 in
theorem pulses_any (zs : List Int) (hz : ∀ x ∈ zs, Num x) (hlen : zs.length ≤ 1000) (v : Value) (w : World) (hv : IsVec w v zs) :
    Calls Try.prog 28 #[v] w fun e w' => e = .returned (.int .i64 (msum zs)) ∧ w = w' := by
  rcases hv with ⟨ao, cap, rfl, rfl⟩ | ⟨b, off, cap, rfl, hcap, _, hc⟩
  · cases ao
    all_goals
      go_enter Try.func28, Try.ntmps28
      go_wp2
      go_loop [3, 12] (fun s i => i = .int .i64 0 ∧ s = .int .i64 0) (fun _ _ => 0)
      case atStart => exact ⟨rfl, rfl⟩
      case round =>
        obtain ⟨rfl, rfl⟩ := hrel
        go_wp2
        go_ret
        exact ⟨rfl, rfl⟩
  · have hc := Lib.hid hc
    have hz := Lib.hid hz
    obtain ⟨len, hlen2⟩ : ∃ len, len = zs.length := ⟨_, rfl⟩
    rw [← hlen2] at hlen hcap ⊢
    have hL := Lib.hid hlen2
    clear hlen2
    go_enter Try.func28, Try.ntmps28
    go_wp2
    go_loop [3, 12] (fun s i => ∃ j : Nat, j ≤ len ∧ i = .int .i64 j ∧ s = .int .i64 (msum (zs.take j))) (fun _ i => len - (intOf i).toNat)
    case atStart => exact ⟨0, by omega, rfl, rfl⟩
    case round =>
      obtain ⟨j, hj, rfl, rfl⟩ := hrel
      by_cases hl : j < len
      · have hcell := hc.out j (by rw [← hL.out]; exact hl)
        have hmem : zs.getD j 0 ∈ zs := by
          have hl2 : j < zs.length := by rw [← hL.out]; exact hl
          simp [hl2]
        have cm := fun w => mag_any (zs.getD j 0) (hz.out _ hmem) w
        have hst := Lib.hid (msum_take zs j (by rw [← hL.out]; exact hl))
        have hb1 : 0 ≤ msum (zs.take j) ∧ msum (zs.take j) ≤ 1000000 := by
          have := msum_bound (zs.take j)
          have : (zs.take j).length ≤ 1000 := by simp; omega
          omega
        have hb3 := mag_bound (zs.getD j 0)
        clear hmem
        obtain ⟨y, hy⟩ : ∃ y, y = zs.getD j 0 := ⟨_, rfl⟩
        obtain ⟨T, hT⟩ : ∃ T, T = msum (zs.take j) := ⟨_, rfl⟩
        rw [← hy] at cm hcell hst hb3
        rw [← hT] at hst hb1 ⊢
        clear hy hT
        go_wp2_with fail
        refine (cm _).mono ?_
        rintro e w1 ⟨rfl, rfl⟩
        go_wp2_with fail
        exact ⟨⟨j + 1, by omega, by go_num, by rw [hst.out]⟩, by simp [intOf]; omega⟩
      · obtain rfl : j = len := by omega
        have ht : zs.take j = zs := by rw [hL.out]; exact List.take_length
        rw [ht]
        clear ht
        go_wp2
        go_ret
        exact ⟨rfl, rfl⟩
end Go.Proofs.Ytegjkognlfemgaa
