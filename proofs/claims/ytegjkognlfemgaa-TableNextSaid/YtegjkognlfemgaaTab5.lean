/- Law 12's awake; the contracts of the reference's V and Rank. -/
import Derived.Test.YtegjkognlfemgaaTab4
import Derived.Test.YtegjkognlfemgaaTab1
import Derived.Test.YtegjkognlfemgaaRank4
namespace Go.Proofs.Ytegjkognlfemgaa
open Go.RowKit

theorem unr_227 : unr 2 2 7 = [-2, 0] := by decide +kernel
theorem V_22b : 7 < V 2 2 := by decide +kernel
theorem own_made (w : World) (n : Nat) (hn : n ≤ maxLen) : (w.alloc (.cells (Array.replicate n (.int .i64 0)) 3)).ownsRow w.heap.size 3 1 (.slice (some ⟨w.heap.size, 0, none⟩) n n) n (List.replicate n (.int .i64 0)) := by
  refine ⟨by simp, .inr ⟨w.heap.size, n, Array.replicate n (.int .i64 0), rfl, Nat.le_refl _, heap_alloc_new w _, Nat.le_refl _, hn, by simp, by simp⟩⟩

theorem intoB (n k i : Nat) (hn : n ≤ 16) (hn0 : 0 < n) (hk : k ≤ 32) (hi : i < V n k) (b cap base : Nat) (xs0 : List Value) (hx0 : xs0.length = n) (w : World) (g : Nat) (h : IsTab w g) (hgb : g ≠ b) (hcap : n ≤ cap)
    (ho : w.ownsRow base 3 1 (.slice (some ⟨b, 0, none⟩) n cap) n xs0) (k' i' : Int) (ek : k' = k) (ei : i' = i) :
    Calls Try.prog 34 #[.pointer (some ⟨g, 0, none⟩), .slice (some ⟨b, 0, none⟩) n cap, .int .i64 k', .int .u64 i'] w fun e w' => e = .returned (.bool true) ∧ w'.ownsRow base 3 1 (.slice (some ⟨b, 0, none⟩) n cap) n ((unr n k i).map (Value.int .i64)) ∧ IsTab w' g ∧ w.grownBy w' (some b) := by
  subst ek ei
  exact into_some n k i hn hn0 hk hi b cap base xs0 hx0 w g h hgb hcap ho
theorem own_belowT {w w' : World} {base e size n : Nat} {v : Value} {xs : List Value} (h : w.ownsRow base e size v n xs) (hb : Below w.heap.size w w') : w'.ownsRow base e size v n xs := by
  obtain ⟨h1, h2⟩ := h
  refine ⟨h1, ?_⟩
  rcases h2 with h2 | ⟨g, cap, cur, rfl, hg, hh, h3⟩
  · exact .inl h2
  · exact .inr ⟨g, cap, cur, rfl, hg, (hb.block g (heap_lt hh)).trans hh, h3⟩
theorem mk40 (w : World) : ∀ n : Nat, n ≤ 16 → (Instr.makeSlice 40 (.int .i64 n) (.int .i64 n)).run Try.prog w = .ok (.slice (some ⟨w.heap.size, 0, none⟩) n n) (w.alloc (.cells (Array.replicate n (.int .i64 0)) 3))
  | 0, _ => by kernel_rfl
  | 1, _ => by kernel_rfl
  | 2, _ => by kernel_rfl
  | 3, _ => by kernel_rfl
  | 4, _ => by kernel_rfl
  | 5, _ => by kernel_rfl
  | 6, _ => by kernel_rfl
  | 7, _ => by kernel_rfl
  | 8, _ => by kernel_rfl
  | 9, _ => by kernel_rfl
  | 10, _ => by kernel_rfl
  | 11, _ => by kernel_rfl
  | 12, _ => by kernel_rfl
  | 13, _ => by kernel_rfl
  | 14, _ => by kernel_rfl
  | 15, _ => by kernel_rfl
  | 16, _ => by kernel_rfl
  | n + 17, h => absurd h (by omega)

set_option maxRecDepth 20000 in
set_option maxHeartbeats 4000000 in
theorem awake12 (w : World) : Calls Try.prog 31 #[] w fun e w' => e = .returned (.bool true) ∧ Below w.heap.size w w' := by
  have c2 := Lib.hid (fun w g b cap base xs0 h1 h2 h3 h4 ho => intoB 2 2 7 (by omega) (by omega) (by omega) V_22b b cap base xs0 h1 w g h2 h3 h4 ho)
  rw [unr_227] at c2
  have hmk : (Instr.makeSlice 40 (.int .i64 2) (.int .i64 2)).run Try.prog w = .ok (.slice (some ⟨w.heap.size, 0, none⟩) 2 2) (w.alloc (.cells (Array.replicate 2 (.int .i64 0)) 3)) := mk40 w 2 (by omega)
  have hown := own_made w 2 (by unfold maxLen; omega)
  obtain ⟨cs, hcs⟩ : ∃ cs : Array Value, cs = Array.replicate 2 (.int .i64 0) := ⟨_, rfl⟩
  rw [← hcs] at hmk hown
  replace hown := Lib.hid hown
  clear hcs
  go_enter Try.func31, Try.ntmps31
  go_wp2_with fail
  clear hmk
  refine (tabNew_any _).mono ?_
  rintro e w1 ⟨rfl, ht, hb⟩
  have hown1 := Lib.hid (own_belowT hown.out hb)
  have hb1 := Lib.hid (Below.trans (belowAlloc w (.cells cs 3)) (hb.mono (by simp)))
  replace ht : Hid (IsTab w1 (w.heap.size + 1)) := Lib.hid (by simpa using ht)
  clear hown hb
  go_wp2_with fail
  with_reducible refine Calls.mono (c2.out _ _ _ _ _ _ rfl ht.out (by omega) (by omega) hown1.out _ _ rfl rfl) ?_
  rintro e w2 ⟨rfl, hown2, ht2, hg2⟩
  have e0 : w2.cell? ⟨w.heap.size, 0, none⟩ = some (.int .i64 (-2)) := by rw [hown2.cellAt 0 (by omega)]; rfl
  have e1 : w2.cell? ⟨w.heap.size, 1, none⟩ = some (.int .i64 0) := by rw [hown2.cellAt 1 (by omega)]; rfl
  have hb2 := Lib.hid (Below.trans hb1.out (grown_old hg2 (Nat.le_refl _) hb1.out.size))
  clear hown2 ht2 hg2 hown1 ht
  go_wp2_with fail
  go_ret
  exact ⟨rfl, hb2.out⟩

theorem refV12_any (n k : Int) (w : World) : Calls Try.prog 38 #[.int .i64 n, .int .i64 k] w fun e w' => e = .returned (.int .u64 (VZ n k)) ∧ w = w' := by
  go_enter Try.func38, Try.ntmps38
  go_wp2_with fail
  refine (refV_any _ _ _).mono ?_
  rintro e w1 ⟨rfl, rfl⟩
  go_wp2_with fail
  go_ret
  exact ⟨rfl, rfl⟩

theorem refRank12_yes (zs : List Int) (hr : right zs = true) (v : Value) (w : World) (hv : IsVec w v zs) :
    Calls Try.prog 37 #[v] w fun e w' => e = .returned (.tuple #[.int .u64 (rkN zs : Nat), .bool true]) ∧ ∃ d, w' = w.drewN d := by
  have hl : zs.length ≤ 1000 := by unfold right at hr; simp only [decide_eq_true_eq] at hr; omega
  have c1 := Lib.hid (right_any zs hl v w hv)
  have c2 := Lib.hid (refRank_any zs hr v w hv)
  rw [hr] at c1
  obtain ⟨R, hR⟩ : ∃ R, R = rkN zs := ⟨_, rfl⟩
  rw [← hR] at c2 ⊢
  clear hv hr hR
  go_enter Try.func37, Try.ntmps37
  go_wp2_with fail
  with_reducible refine Calls.mono c1.out ?_
  rintro e w1 ⟨rfl, rfl⟩
  go_wp2_with fail
  with_reducible refine Calls.mono c2.out ?_
  rintro e w1 ⟨rfl, d, rfl⟩
  go_wp2_with fail
  go_ret2
  exact ⟨rfl, d, rfl⟩
theorem refRank12_no (zs : List Int) (hr : right zs = false) (hl : zs.length ≤ 1000) (v : Value) (w : World) (hv : IsVec w v zs) :
    Calls Try.prog 37 #[v] w fun e w' => e = .returned (.tuple #[.int .u64 0, .bool false]) ∧ w = w' := by
  have c1 := Lib.hid (right_any zs hl v w hv)
  rw [hr] at c1
  clear hv hr
  go_enter Try.func37, Try.ntmps37
  go_wp2_with fail
  with_reducible refine Calls.mono c1.out ?_
  rintro e w1 ⟨rfl, rfl⟩
  go_wp2_with fail
  go_ret2
  exact ⟨rfl, rfl⟩
end Go.Proofs.Ytegjkognlfemgaa
