/- The contract of table.New. -/
import Derived.Test.YtegjkognlfemgaaTab2
namespace Go.Proofs.Ytegjkognlfemgaa
open Go.RowKit

theorem part23 (cs : Array Value) (k : Nat) (v : Value) (h : cs[k]? = some v) (w : World) : (part 23 cs k).run Try.prog w = .ok v w := by
  simp [part, isAgg, Sem.run_bind, run_underlying Try.underlying23, h]
theorem index71 (cs : Array Value) (k : Nat) (hk : k < 33) (v : Value) (h : cs[k]? = some v) (w : World) : (Instr.index 71 (.agg cs) (.int .i64 k)).run Try.prog w = .ok v w := by
  have hp := part23 cs k v h w
  simp [Instr.index, asIntOf, Sem.run_bind, run_underlying Try.underlying71, hp]
  intro h2
  omega
/-- A row's numbers, as an array's cells. -/
def rowV (n : Nat) : List Value := (List.range 33).map fun q => .int .u64 (V n q : Nat)
theorem rowV_len (n : Nat) : (rowV n).length = 33 := by simp [rowV]
theorem rowV_at (n k : Nat) (h : k < 33) : (rowV n)[k]? = some (.int .u64 (V n k : Nat)) := by simp [rowV, h]
theorem S1.cells {n : Nat} {T : Nat → Nat} {w : World} {G : Nat} (h : S1 n 33 T) (hT : Tab w G T) (hn : n < 17) (j : Nat) (v : Value) (hv : (rowV n)[j]? = some v) : w.cell? ⟨G, n * 67 + j, none⟩ = some v := by
  have hj : j < 33 := by
    have := (List.getElem?_eq_some_iff.1 hv).1
    rwa [rowV_len] at this
  rw [rowV_at n j hj] at hv
  rw [hT.cell (by omega), h.2.1 j hj]
  exact hv
theorem zero77 (w : World) : (zeroValue 77).run Try.prog w = .ok (.agg Z77) w := by kernel_rfl
theorem tab_made1 (w : World) : Tab (w.alloc (.cells (Z77.setIfInBounds 0 (.int .u64 1)) 77)) w.heap.size (upd (fun _ => 0) 0 1) := by
  refine ⟨_, heap_alloc_new w _, by unfold Z77; simp, fun p hp => ?_⟩
  unfold Z77 upd
  by_cases e : p = 0
  · subst e
    rw [if_pos rfl]
    simp
  · rw [if_neg e, Array.getElem?_setIfInBounds_ne (fun e2 => e e2.symm), Array.getElem?_replicate, if_pos hp]
    rfl
theorem tab_made (w : World) : Tab (w.alloc (.cells Z77 77)) w.heap.size (fun _ => 0) := by
  refine ⟨Z77, heap_alloc_new w _, by unfold Z77; simp, fun p hp => ?_⟩
  unfold Z77
  rw [Array.getElem?_replicate, if_pos hp]
  rfl

set_option maxRecDepth 100000 in
set_option maxHeartbeats 16000000 in
theorem tabNew_any (w : World) : Calls Try.prog 32 #[] w fun e w' => e = .returned (.pointer (some ⟨w.heap.size, 0, none⟩)) ∧ IsTab w' w.heap.size ∧ Below w.heap.size w w' := by
  have hm := tab_made w
  have hm1 := tab_made1 w
  have hb77 := zero77
  obtain ⟨Z, hZ⟩ : ∃ Z, Z = Z77 := ⟨_, rfl⟩
  rw [← hZ] at hm hb77 hm1
  have hb := Lib.hid (belowAlloc w (.cells (Z.setIfInBounds 0 (.int .u64 1)) 77))
  obtain ⟨G, hG⟩ : ∃ G, w.heap.size = G := ⟨_, rfl⟩
  rw [hG] at hm hm1 hb ⊢
  have f0 := hm.frozen
  have t0 := hm.cell (p := 0) (by omega)
  replace hm1 := Lib.hid hm1
  clear hm hZ
  go_enter Try.func32, Try.ntmps32
  go_wp2_with fail
  replace hG := Lib.hid hG
  clear f0 t0 hb77
  go_loopw [16] (fun i wr => ∃ (n : Nat) (T : Nat → Nat), n ≤ 17 ∧ i = .int .i64 n ∧ Tab wr G T ∧ S0 n T ∧ Below G w wr) (fun i _ => 17 - (intOf i).toNat)
  case atStart => exact ⟨0, _, by omega, rfl, hm1.out, S0.zero, hb.out⟩
  case round =>
    clear hm1 hb
    obtain ⟨n, T, hn, rfl, hT, hS, hb⟩ := hrel
    by_cases hl : n < 17
    · by_cases h0 : n = 0
      · have hz1 : decide (0 < (n : Int)) = false := by simp; omega
        have hz2 : decide (0 < n) = false := by simp; omega
        replace hS : S1 n 33 T := by subst h0; exact hS.first
        have hd17 : decide ((n : Int) < 17) = true := by simp; omega
        replace h0 := Lib.hid h0
        have hx := S1.cells hS hT (by omega)
        have hl := rowV_len n
        have hat := rowV_at n
        have hT0 := Lib.hid hT
        have hS0 := Lib.hid (S1.sums hS)
        have hb0 := Lib.hid hb
        obtain ⟨xs, hxs⟩ : ∃ xs, xs = rowV n := ⟨_, rfl⟩
        rw [← hxs] at hx hl hat
        have hi71 : (Try.prog.info? 71).map (·.size) = some xs.length := by rw [hl]; kernel_rfl
        replace hx := Lib.hid hx
        replace hi71 := Lib.hid hi71
        have hpart := Lib.hid (fun k (hk : k < 33) => index71 xs.toArray k hk (.int .u64 (V (n) k : Nat)) (by rw [← hat k hk]; simp))
        clear hT hS hb hxs hat
        go_wp2_with (refine wpList_load_part rfl 71 _ rfl G (n * 67) rfl xs hx.out _ Try.underlying71 rfl hi71.out ?_)
        trace "T"
        go_loopw [71] (fun s wr => ∃ (k : Nat) (T : Nat → Nat), k ≤ 33 ∧ s = .int .i64 k ∧ Tab wr G T ∧ S2 (n) k T ∧ Below G w wr) (fun s _ => 33 - (intOf s).toNat)
        case atStart => exact ⟨0, _, by omega, rfl, hT0.out, hS0.out, hb0.out⟩
        case round =>
          clear hT0 hS0 hb0
          obtain ⟨k, T, hk, rfl, hT, hS, hb⟩ := hrel
          by_cases hlk : k < 33
          · obtain ⟨e1, e2, hS1⟩ := hS.step hlk
            have c1 := hT.cell (p := n * 67 + 33 + k) (by omega)
            have c4 := hT.cell (p := n * 67 + 33 + (k + 1)) (by omega)
            have f0 := hT.frozen
            rw [e1] at c1
            have b1 := cum_lt (n) (by omega) (k + 1) (by omega)
            have hT1 := hT.set_ (p := n * 67 + 33 + (k + 1)) (by omega) (cum (n) (k + 1))
            have hb1 := Lib.hid (hb.setCell (p := ⟨G, n * 67 + 33 + (k + 1), none⟩) (Nat.le_refl _) (.int .u64 (cum (n) (k + 1) : Nat)))
            have hp := hpart.out k hlk
            obtain ⟨A, hA⟩ : ∃ A, A = cum (n) k := ⟨_, rfl⟩
            obtain ⟨B, hB⟩ : ∃ B, B = V (n) k := ⟨_, rfl⟩
            obtain ⟨X, hX⟩ : ∃ X, X = cum (n) (k + 1) := ⟨_, rfl⟩
            rw [← hA] at c1 e2
            rw [← hB] at e2 hp
            rw [← hX] at e2 hT1 hS1 hb1 b1
            replace hT1 := Lib.hid hT1
            replace hS1 := Lib.hid hS1
            have w1 : IntKind.i64.wrap ((k : Int) + 1) = (k : Int) + 1 := by rw [IntKind.wrap_i64]; omega
            have w2 : IntKind.u64.wrap ((A : Int) + (B : Int)) = (X : Int) := by rw [IntKind.wrap_u64]; omega
            have w4 : 0 ≤ (k : Int) + 1 := by omega
            have w5 : ((k : Int) + 1).toNat = k + 1 := by omega
            have hk34 : k < 34 := by omega
            have hk34i : (k : Int) < 34 := by omega
            have hk34j : (k : Int) + 1 < 34 := by omega
            clear hT hS hb e1 e2 b1 hA hB hX
            go_wp2_with fail
            trace "U"
            go_still_tail 14, (by kernel_rfl)
            change wpList _ _ _ _ _ wr.drew
            go_wp2_with fail
            trace "V"
            exact ⟨⟨k + 1, _, by omega, by go_num, hT1.out.drew, hS1.out, hb1.out.drew⟩, by simp [intOf]; omega⟩
          · obtain rfl : k = 33 := by omega
            have hS3 := Lib.hid hS.done
            replace hT := Lib.hid hT
            replace hb := Lib.hid hb
            clear hS
            go_wp2_with fail
            exact ⟨⟨n + 1, _, by omega, by go_num, hT.out, hS3.out, hb.out⟩, by simp [intOf]; omega⟩
      · obtain ⟨m, rfl⟩ : ∃ m, n = m + 1 := ⟨n - 1, by omega⟩
        have ecast : ((m + 1 : Nat) : Int) = (m : Int) + 1 := by omega
        rw [ecast]
        have hd17 : decide ((m : Int) + 1 < 17) = true := by simp; omega
        have t0 := hT.cell (p := (m + 1) * 67) (by omega)
        have f0 := hT.frozen
        have hT1 := Lib.hid (hT.set_ (p := (m + 1) * 67) (by omega) 1)
        have hS1 := Lib.hid (hS.start (by omega))
        have hb1 := Lib.hid (hb.setCell (p := ⟨G, (m + 1) * 67, none⟩) (Nat.le_refl _) (.int .u64 1))
        clear ecast hT hS hb
        go_wp2_with fail
        go_loopw [5] (fun s wr => ∃ (k : Nat) (T : Nat → Nat), k ≤ 32 ∧ s = .int .i64 ((k : Int) + 1) ∧ Tab wr G T ∧ S1 (m + 1) (k + 1) T ∧ Below G w wr) (fun s _ => 33 - (intOf s).toNat)
        case atStart => exact ⟨0, _, by omega, rfl, hT1.out, hS1.out, hb1.out⟩
        case round =>
          clear hT1 hS1 hb1
          obtain ⟨k, T, hk, rfl, hT, hS, hb⟩ := hrel
          by_cases hlk : k < 32
          · obtain ⟨e1, e2, e3, e4, hS1⟩ := hS.step (by omega) hlk
            have c1 := hT.cell (p := m * 67 + (k + 1)) (by omega)
            have c2 := hT.cell (p := (m + 1) * 67 + k) (by omega)
            have c3 := hT.cell (p := m * 67 + k) (by omega)
            have c4 := hT.cell (p := (m + 1) * 67 + (k + 1)) (by omega)
            have f0 := hT.frozen
            rw [e1] at c1
            rw [e2] at c2
            rw [e3] at c3
            have b1 := V_lt m (by omega) (k + 1) (by omega)
            have b2 := V_lt (m + 1) (by omega) k (by omega)
            have b3 := V_lt m (by omega) k (by omega)
            have hT1 := hT.set_ (p := (m + 1) * 67 + (k + 1)) (by omega) (V (m + 1) (k + 1))
            have hb1 := Lib.hid (hb.setCell (p := ⟨G, (m + 1) * 67 + (k + 1), none⟩) (Nat.le_refl _) (.int .u64 (V (m + 1) (k + 1) : Nat)))
            obtain ⟨A, hA⟩ : ∃ A, A = V m (k + 1) := ⟨_, rfl⟩
            obtain ⟨B, hB⟩ : ∃ B, B = V (m + 1) k := ⟨_, rfl⟩
            obtain ⟨C, hC⟩ : ∃ C, C = V m k := ⟨_, rfl⟩
            obtain ⟨X, hX⟩ : ∃ X, X = V (m + 1) (k + 1) := ⟨_, rfl⟩
            rw [← hA] at c1 e4 b1
            rw [← hB] at c2 e4 b2
            rw [← hC] at c3 e4 b3
            rw [← hX] at e4 hT1 hS1 hb1
            replace hT1 := Lib.hid hT1
            replace hS1 := Lib.hid hS1
            have w1 : IntKind.i64.wrap ((k : Int) + 1 - 1) = (k : Int) := by rw [IntKind.wrap_i64]; omega
            have hk33 : k < 33 := by omega
            have hk33i : (k : Int) < 33 := by omega
            have hk33j : (k : Int) + 1 < 33 := by omega
            have w1b : IntKind.i64.wrap (k : Int) = (k : Int) := by rw [IntKind.wrap_i64]; omega
            have w2 : IntKind.u64.wrap ((A : Int) + (B : Int)) = ((A + B : Nat) : Int) := by rw [IntKind.wrap_u64]; omega
            have w3 : IntKind.u64.wrap (((A + B : Nat) : Int) + (C : Int)) = (X : Int) := by rw [IntKind.wrap_u64]; omega
            have w4 : 0 ≤ (k : Int) + 1 := by omega
            have w5 : ((k : Int) + 1).toNat = k + 1 := by omega
            have w6 : IntKind.u64.wrap ((A : Int) + (B : Int) + (C : Int)) = (X : Int) := by rw [IntKind.wrap_u64]; omega
            clear hT hS hb e1 e2 e3 e4 b1 b2 b3 hA hB hC hX
            go_wp2_with fail
            trace "R"
            go_still_tail 27, (by kernel_rfl)
            change wpList _ _ _ _ _ wr.drew
            go_wp2_with fail
            exact ⟨⟨k + 1, _, by omega, by go_num, hT1.out.drew, hS1.out, hb1.out.drew⟩, by simp [intOf]; omega⟩
          · obtain rfl : k = 32 := by omega
            have hx := S1.cells hS hT (by omega)
            have hl := rowV_len (m + 1)
            have hat := rowV_at (m + 1)
            have hT0 := Lib.hid hT
            have hS0 := Lib.hid (S1.sums hS)
            have hb0 := Lib.hid hb
            obtain ⟨xs, hxs⟩ : ∃ xs, xs = rowV (m + 1) := ⟨_, rfl⟩
            rw [← hxs] at hx hl hat
            have hi71 : (Try.prog.info? 71).map (·.size) = some xs.length := by rw [hl]; kernel_rfl
            replace hx := Lib.hid hx
            replace hi71 := Lib.hid hi71
            have hpart := Lib.hid (fun k (hk : k < 33) => index71 xs.toArray k hk (.int .u64 (V ((m + 1)) k : Nat)) (by rw [← hat k hk]; simp))
            clear hT hS hb hxs hat
            go_wp2_with (refine wpList_load_part rfl 71 _ rfl G ((m + 1) * 67) rfl xs hx.out _ Try.underlying71 rfl hi71.out ?_)
            trace "T"
            go_loopw [71] (fun s wr => ∃ (k : Nat) (T : Nat → Nat), k ≤ 33 ∧ s = .int .i64 k ∧ Tab wr G T ∧ S2 ((m + 1)) k T ∧ Below G w wr) (fun s _ => 33 - (intOf s).toNat)
            case atStart => exact ⟨0, _, by omega, rfl, hT0.out, hS0.out, hb0.out⟩
            case round =>
              clear hT0 hS0 hb0
              obtain ⟨k, T, hk, rfl, hT, hS, hb⟩ := hrel
              by_cases hlk : k < 33
              · obtain ⟨e1, e2, hS1⟩ := hS.step hlk
                have c1 := hT.cell (p := (m + 1) * 67 + 33 + k) (by omega)
                have c4 := hT.cell (p := (m + 1) * 67 + 33 + (k + 1)) (by omega)
                have f0 := hT.frozen
                rw [e1] at c1
                have b1 := cum_lt ((m + 1)) (by omega) (k + 1) (by omega)
                have hT1 := hT.set_ (p := (m + 1) * 67 + 33 + (k + 1)) (by omega) (cum ((m + 1)) (k + 1))
                have hb1 := Lib.hid (hb.setCell (p := ⟨G, (m + 1) * 67 + 33 + (k + 1), none⟩) (Nat.le_refl _) (.int .u64 (cum ((m + 1)) (k + 1) : Nat)))
                have hp := hpart.out k hlk
                obtain ⟨A, hA⟩ : ∃ A, A = cum ((m + 1)) k := ⟨_, rfl⟩
                obtain ⟨B, hB⟩ : ∃ B, B = V ((m + 1)) k := ⟨_, rfl⟩
                obtain ⟨X, hX⟩ : ∃ X, X = cum ((m + 1)) (k + 1) := ⟨_, rfl⟩
                rw [← hA] at c1 e2
                rw [← hB] at e2 hp
                rw [← hX] at e2 hT1 hS1 hb1 b1
                replace hT1 := Lib.hid hT1
                replace hS1 := Lib.hid hS1
                have w1 : IntKind.i64.wrap ((k : Int) + 1) = (k : Int) + 1 := by rw [IntKind.wrap_i64]; omega
                have w2 : IntKind.u64.wrap ((A : Int) + (B : Int)) = (X : Int) := by rw [IntKind.wrap_u64]; omega
                have w4 : 0 ≤ (k : Int) + 1 := by omega
                have w5 : ((k : Int) + 1).toNat = k + 1 := by omega
                have hk34 : k < 34 := by omega
                have hk34i : (k : Int) < 34 := by omega
                have hk34j : (k : Int) + 1 < 34 := by omega
                clear hT hS hb e1 e2 b1 hA hB hX
                go_wp2_with fail
                trace "U"
                go_still_tail 14, (by kernel_rfl)
                change wpList _ _ _ _ _ wr.drew
                go_wp2_with fail
                trace "V"
                exact ⟨⟨k + 1, _, by omega, by go_num, hT1.out.drew, hS1.out, hb1.out.drew⟩, by simp [intOf]; omega⟩
              · obtain rfl : k = 33 := by omega
                have hS3 := Lib.hid hS.done
                replace hT := Lib.hid hT
                replace hb := Lib.hid hb
                clear hS
                go_wp2_with fail
                exact ⟨⟨(m + 1) + 1, _, by omega, by go_num, hT.out, hS3.out, hb.out⟩, by simp [intOf]; omega⟩
    · obtain rfl : n = 17 := by omega
      have hfin : IsTab wr G := ⟨T, hT, hS.1⟩
      replace hfin := Lib.hid hfin
      replace hb := Lib.hid hb
      clear hT hS
      go_wp2_with fail
      go_ret
      exact ⟨rfl, hfin.out, hb.out⟩
end Go.Proofs.Ytegjkognlfemgaa
