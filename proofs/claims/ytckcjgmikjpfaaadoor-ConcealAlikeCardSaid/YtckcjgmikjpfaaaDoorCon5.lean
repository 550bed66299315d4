/- The contract of the reference's Held. -/
import Derived.Test.YtckcjgmikjpfaaaDoorCon4
namespace Go.Proofs.YtckcjgmikjpfaaaDoor
open Go.RowKit

theorem info2 : (Tryd.prog.info? 2).map (fun i => (i.zero, i.size, i.bytes)) = some (some (.int .i64 0), 1, 8) := by kernel_rfl
/-- A history of the reference, as it lies in memory. -/
def IsJ (w : World) (v : Value) (hs : List Int) : Prop :=
  ∃ A cap, v = .slice A hs.length cap ∧ ∀ j, j < hs.length → ∃ b off, A = some ⟨b, off, none⟩ ∧ hs.length ≤ cap ∧ b < w.heap.size ∧ w.cell? ⟨b, off + j, none⟩ = some (.int .i64 (hs.getD j 0))
theorem IsJ.below {w w' : World} {v : Value} {hs : List Int} (h : IsJ w v hs) (hb : Below w.heap.size w w') : IsJ w' v hs := by
  obtain ⟨A, cap, hv, h⟩ := h
  refine ⟨A, cap, hv, fun j hj => ?_⟩
  obtain ⟨b, off, h1, h2, h3, h4⟩ := h j hj
  exact ⟨b, off, h1, h2, Nat.lt_of_lt_of_le h3 hb.size, (hb.cell (p := ⟨b, off + j, none⟩) h3).trans h4⟩
theorem one64 (x : Int) : ∀ u ∈ [Value.int .i64 x], u.oneCell' = true := by
  intro u hu; simp at hu; subst hu; rfl

/-- The first m numbers of a history, within their bounds. -/
def hdL (hs : List Int) (m : Nat) : List Int := (hs.take m).map hd

/-- What the rounds of the reference's Held keep. -/
structure HR (w : World) (hs : List Int) (m : Nat) (v : Value) (wr : World) : Prop where
  own : wr.ownsRow w.heap.size 2 1 v m ((hdL hs m).map (Value.int .i64))
  below : Below w.heap.size w wr
theorem HR.put {w wr W W2 : World} {hs : List Int} {m : Nat} {v v' : Value} (h : HR w hs m v wr) (hm : m < hs.length) (hW : Below wr.heap.size wr W)
    (ho : W2.ownsRow w.heap.size 2 1 v' (m + 1) ((hdL hs m).map (Value.int .i64) ++ [.int .i64 (hd (hs.getD m 0))])) (hg : W.grownBy W2 v.ownBlock) : HR w hs (m + 1) v' W2 := by
  have hlt := h.own.lt
  have b1 : Below w.heap.size w W := Below.trans h.below (hW.mono h.below.size)
  refine ⟨?_, Below.trans b1 (belowOf hg (fun k e => (hlt k e).1) b1.size)⟩
  have e : hdL hs (m + 1) = hdL hs m ++ [hd (hs.getD m 0)] := by
    unfold hdL
    rw [List.take_add_one, List.getElem?_eq_getElem hm, List.map_append]
    simp [hm]
  rw [e, List.map_append]
  exact ho

set_option maxRecDepth 20000 in
set_option maxHeartbeats 4000000 in
theorem refHeldL_any (hs : List Int) (hn : hs.length ≤ 1000000) (v : Value) (w : World) (hv : IsJ w v hs) :
    Calls Tryd.prog 24 #[v] w fun e w' => ∃ v', e = .returned v' ∧ HR w hs hs.length v' w' := by
  obtain ⟨A, cap, rfl, hat⟩ := hv
  replace hat := Lib.hid hat
  have hR0 : Hid (HR w hs 0 (.slice none 0 0) w) := Lib.hid ⟨World.ownsRow_nil _ _ _ _, Below.refl _ _⟩
  obtain ⟨n, hne⟩ : ∃ n, n = hs.length := ⟨_, rfl⟩
  rw [← hne] at hn ⊢
  obtain ⟨i0, hti, ti0, ti1, ti2⟩ := info_parts info2
  replace hne := Lib.hid hne
  go_enter Tryd.func24, Tryd.ntmps24
  go_wp2_with fail
  go_loopw [3, 4] (fun v i wr => ∃ m : Nat, m ≤ n ∧ i = .int .i64 m ∧ HR w hs m v wr) (fun _ i _ => n - (intOf i).toNat)
  case atStart => exact ⟨0, by omega, rfl, hR0.out⟩
  case round =>
    clear hR0
    obtain ⟨m, hm, rfl, hR⟩ := hrel
    by_cases hlt : m < n
    · obtain ⟨b, off, rfl, hcap, hbl, q0⟩ := hat.out m (by rw [← hne.out]; exact hlt)
      rw [← hne.out] at hcap
      have r0 : wr.cell? ⟨b, off + m, none⟩ = some (.int .i64 (hs.getD m 0)) := (hR.below.cell (p := ⟨b, off + m, none⟩) hbl).trans q0
      have hput := Lib.hid (fun W W2 v' (a1 : Below wr.heap.size wr W) a2 a3 => HR.put (W := W) (W2 := W2) (v' := v') hR (by rw [← hne.out]; exact hlt) a1 a2 a3)
      obtain ⟨x, hx⟩ : ∃ x, x = hs.getD m 0 := ⟨_, rfl⟩
      rw [← hx] at r0 hput
      replace hR := Lib.hid hR
      have n1 := Lib.hid (new1 · (.int .i64 (hd x)) 2)
      have n2 := Lib.hid (one64 (hd x))
      have l3 : Hid (m + 1 ≤ maxLen) := Lib.hid (by unfold maxLen; omega)
      have l4 : Hid ((m + 1) * 8 ≤ 140737488355328) := Lib.hid (by omega)
      have hbs := Lib.hid hR.out.below.size
      clear q0 hx
      go_wp2_with fail
      with_reducible refine Calls.mono (refHeld_any _ _) ?_
      rintro e w2 ⟨rfl, rfl⟩
      go_wp2_with (at_builtin; refine wpList_append_own _ rfl _ _ 29 rfl w.heap.size 2 i0 (.int .i64 0) 1 8 Tryd.underlying29 hti ti0 ti1 ti2 rfl (by decide) _ _ _ rfl (hR.out.own.alloc _) ⟨wr.heap.size, 0, none⟩ 1 1 [.int .i64 (hd x)] rfl rfl (n1.out _) n2.out l3.out l4.out (by have := hbs.out; simp; omega) ?_)
      intro v' w4 ho hg _
      have hR4 := Lib.hid (hput.out _ _ _ ((Below.refl wr.heap.size wr).alloc (Nat.le_refl _) _) ho hg)
      clear ho hg hput
      go_wp2_with fail
      exact ⟨⟨m + 1, by omega, by go_num, hR4.out⟩, by simp [intOf]; omega⟩
    · obtain rfl : m = n := by omega
      go_wp2_with fail
      go_ret
      exact ⟨_, rfl, hR⟩
end Go.Proofs.YtckcjgmikjpfaaaDoor
