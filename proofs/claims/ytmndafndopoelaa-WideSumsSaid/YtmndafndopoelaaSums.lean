/- The law WideSums: its walk. -/
import Derived.Test.YtmndafndopoelaaCan
import Derived.Deep.DeepCutAuto
import Derived.Deep.RegionWith
import Derived.OwnWalk
import Derived.Deep.RegionHeld3
namespace Go.Proofs.Ytmndafndopoelaa
open Go.RowKit

theorem bcell {W w1 : World} (hb : Below W.heap.size W w1) : (∀ b o, b < W.heap.size → w1.cell? ⟨b, o, none⟩ = W.cell? ⟨b, o, none⟩) ∧ (∀ b o, b < W.heap.size → w1.frozen? ⟨b, o, none⟩ = W.frozen? ⟨b, o, none⟩) :=
  ⟨fun b o h => hb.cell (p := ⟨b, o, none⟩) h, fun b o h => hb.frozen (p := ⟨b, o, none⟩) h⟩
def DC (X : Int) : Array Value := #[.int .i64 (X % 65536), .int .i64 (X / 65536 % 65536), .int .i64 (X / 4294967296 % 65536), .int .i64 (X / 281474976710656 % 65536),
  .int .i64 (X / 18446744073709551616 % 65536), .int .i64 (X / 1208925819614629174706176 % 65536), .int .i64 (X / 79228162514264337593543950336 % 65536), .int .i64 (X / 5192296858534827628530496329220096 % 65536)]
theorem DC_zero : DC 0 = #[.int .i64 0, .int .i64 0, .int .i64 0, .int .i64 0, .int .i64 0, .int .i64 0, .int .i64 0, .int .i64 0] := by
  unfold DC
  simp
theorem add_exp (S y : Int) (w : World) : Calls Try.prog 15 #[D S, D y] w fun e w' => e = .returned (.agg #[.int .i64 ((S + y) % 65536), .int .i64 ((S + y) / 65536 % 65536), .int .i64 ((S + y) / 4294967296 % 65536), .int .i64 ((S + y) / 281474976710656 % 65536),
  .int .i64 ((S + y) / 18446744073709551616 % 65536), .int .i64 ((S + y) / 1208925819614629174706176 % 65536), .int .i64 ((S + y) / 79228162514264337593543950336 % 65536), .int .i64 ((S + y) / 5192296858534827628530496329220096 % 65536)]) ∧ Below w.heap.size w w' := add_any S y w

theorem blk8 {W : World} {g : Nat} {t : TypeId} {a0 a1 a2 a3 a4 a5 a6 a7 : Value} (h : Blk W g t #[a0, a1, a2, a3, a4, a5, a6, a7]) (u0 u1 u2 u3 u4 u5 u6 u7 : Value) :
    Blk ((((((((W.setCell ⟨g, 0, none⟩ u0).setCell ⟨g, 1, none⟩ u1).setCell ⟨g, 2, none⟩ u2).setCell ⟨g, 3, none⟩ u3).setCell ⟨g, 4, none⟩ u4).setCell ⟨g, 5, none⟩ u5).setCell ⟨g, 6, none⟩ u6).setCell ⟨g, 7, none⟩ u7) g t #[u0, u1, u2, u3, u4, u5, u6, u7] := by
  have := (((((((h.set_ 0 u0).set_ 1 u1).set_ 2 u2).set_ 3 u3).set_ 4 u4).set_ 5 u5).set_ 6 u6).set_ 7 u7
  simpa using this
theorem blkcells {W : World} {g : Nat} {X : Int} (h : Blk W g 27 (DC X)) : W.cell? ⟨g, 0, none⟩ = some (.int .i64 (X % 65536)) ∧ W.cell? ⟨g, 1, none⟩ = some (.int .i64 (X / 65536 % 65536)) ∧ W.cell? ⟨g, 2, none⟩ = some (.int .i64 (X / 4294967296 % 65536)) ∧
    W.cell? ⟨g, 3, none⟩ = some (.int .i64 (X / 281474976710656 % 65536)) ∧ W.cell? ⟨g, 4, none⟩ = some (.int .i64 (X / 18446744073709551616 % 65536)) ∧ W.cell? ⟨g, 5, none⟩ = some (.int .i64 (X / 1208925819614629174706176 % 65536)) ∧
    W.cell? ⟨g, 6, none⟩ = some (.int .i64 (X / 79228162514264337593543950336 % 65536)) ∧ W.cell? ⟨g, 7, none⟩ = some (.int .i64 (X / 5192296858534827628530496329220096 % 65536)) ∧ (∀ i, W.frozen? ⟨g, i, none⟩ = false) ∧ g < W.heap.size ∧ Hid (Blk W g 27 (DC X)) :=
  ⟨h.cell 0, h.cell 1, h.cell 2, h.cell 3, h.cell 4, h.cell 5, h.cell 6, h.cell 7, h.frozen, h.lt, Lib.hid h⟩
theorem grown_set {a b : World} {g : Nat} (h : a.grownBy b (some g)) (i : Nat) (u : Value) : a.grownBy (b.setCell ⟨g, i, none⟩ u) (some g) :=
  ⟨h.os, h.tape, h.output, by simpa [World.setCell] using h.size, fun k hk hne => (Below.heap_setCell b ⟨g, i, none⟩ u k (fun e => hne (by rw [e]))).trans (h.block k hk hne)⟩
theorem grown_set8 {a b : World} {g : Nat} (h : a.grownBy b (some g)) (u0 u1 u2 u3 u4 u5 u6 u7 : Value) :
    a.grownBy ((((((((b.setCell ⟨g, 0, none⟩ u0).setCell ⟨g, 1, none⟩ u1).setCell ⟨g, 2, none⟩ u2).setCell ⟨g, 3, none⟩ u3).setCell ⟨g, 4, none⟩ u4).setCell ⟨g, 5, none⟩ u5).setCell ⟨g, 6, none⟩ u6).setCell ⟨g, 7, none⟩ u7) (some g) :=
  grown_set (grown_set (grown_set (grown_set (grown_set (grown_set (grown_set (grown_set h 0 _) 1 _) 2 _) 3 _) 4 _) 5 _) 6 _) 7 _
theorem grown_of_below {a b : World} {g : Nat} (h : Below a.heap.size a b) : a.grownBy b (some g) := ⟨h.os, h.tape, h.output, h.size, fun i hi _ => h.block i hi⟩
theorem Blk.drew {w : World} {g : Nat} {t : TypeId} {cs : Array Value} (h : Blk w g t cs) : Blk w.drew g t cs := h
theorem grown_drewA {a b : World} {g : Nat} (h : a.grownBy b (some g)) : a.grownBy b.drew (some g) := ⟨h.os, h.tape, h.output, h.size, h.block⟩

/-- The cells of a list of wide numbers. -/
def accCells : List Int → List Value
  | [] => []
  | z :: r => .int .i64 (HH z) :: .int .u64 (LL z) :: accCells r
theorem accCells_append (a b : List Int) : accCells (a ++ b) = accCells a ++ accCells b := by
  induction a with
  | nil => rfl
  | cons x r ih => simp [accCells, ih]
theorem accCells_len (a : List Int) : (accCells a).length = a.length * 2 := by
  induction a with
  | nil => rfl
  | cons x r ih => simp [accCells, ih]; omega
theorem accCells_at : ∀ (a : List Int) (j : Nat), j < a.length → (accCells a)[j * 2]? = some (.int .i64 (HH (a.getD j 0))) ∧ (accCells a)[j * 2 + 1]? = some (.int .u64 (LL (a.getD j 0)))
  | x :: r, 0, _ => ⟨rfl, rfl⟩
  | x :: r, j + 1, h => by
    have := accCells_at r j (by simpa using h)
    rw [show (j + 1) * 2 = j * 2 + 2 from by omega]
    simpa [accCells] using this
theorem info24 : (Try.prog.info? 24).map (fun i => (i.zero, i.size, i.bytes)) = some (some (.agg #[.int .i64 0, .int .u64 0]), 2, 16) := by kernel_rfl
theorem grown_oldA {B gm : Nat} {w w' : World} (h : w.grownBy w' (some gm)) (h1 : B ≤ gm) (h2 : B ≤ w.heap.size) : Below B w w' :=
  ⟨h.os, h.tape, h.output, h.size, fun i hi => h.block i (by omega) (by intro e; injection e with e; omega)⟩

theorem own_ne27 {w : World} {base e size n g : Nat} {v : Value} {xs : List Value} {cs : Array Value} (h : w.ownsRow base e size v n xs) (hg : Blk w g 27 cs) (hne : e ≠ 27) : v.ownBlock = none ∨ v.ownBlock ≠ some g := by
  rcases h.2 with ⟨rfl, _⟩ | ⟨g', cap, cur, rfl, _, hh, _⟩
  · exact .inl rfl
  · refine .inr fun he => ?_
    have e2 : g' = g := by simpa [Value.ownBlock] using he
    subst e2
    unfold Blk at hg
    rw [hh] at hg
    injection hg with hg
    injection hg with _ ht
    exact hne ht
theorem rev_take (L : List Int) (j : Nat) (h : j < L.length) : L.reverse.take (j + 1) = L.reverse.take j ++ [L.getD (L.length - 1 - j) 0] := by
  have hj : j < L.reverse.length := by simpa using h
  rw [List.take_succ_eq_append_getElem hj]
  congr 2
  rw [List.getElem_reverse]
  have : L.length - 1 - j < L.length := by omega
  simp [this]

theorem sumL_append (a b : List Int) : sumL (a ++ b) = sumL a + sumL b := by
  induction a with
  | nil => simp [sumL]
  | cons x r ih => simp only [List.cons_append, sumL, ih]; omega
theorem sumL_reverse (a : List Int) : sumL a.reverse = sumL a := by
  induction a with
  | nil => rfl
  | cons x r ih => rw [List.reverse_cons, sumL_append, ih]; simp only [sumL]; omega
theorem own_accs {w : World} {base n : Nat} {v : Value} {L : List Int} (hn : n = L.length) (h : w.ownsRow base 24 2 v n (accCells L)) : IsAccs w v L := by
  subst hn
  rcases h.2 with ⟨rfl, h0⟩ | ⟨g, cap, cur, rfl, hg, hh, h1, _⟩
  · exact ⟨none, 0, by rw [h0], fun j hj => by omega⟩
  · refine ⟨_, cap, rfl, fun j hj => ⟨g, 0, rfl, h1, ?_, ?_, ?_⟩⟩
    · rcases Nat.lt_or_ge g w.heap.size with hlt | hge
      · exact hlt
      · rw [Array.getElem?_eq_none hge] at hh; cases hh
    · have := h.cellAt (j * 2) (by omega)
      rw [(accCells_at L j hj).1] at this
      rwa [Nat.zero_add]
    · have := h.cellAt (j * 2 + 1) (by omega)
      rw [(accCells_at L j hj).2] at this
      rwa [Nat.zero_add]

theorem acc_take {W : World} {A : Option Addr} {cap n K : Nat} {L : List Int} (hn : n = L.length) (h : IsAccs W (.slice A n cap) L) (hK : K ≤ n) : IsAccs W (.slice A K cap) (L.take K) := by
  obtain ⟨A', cap', he, h⟩ := h
  injection he with e1 e2 e3
  subst e1 e3
  refine ⟨A, cap, by rw [List.length_take]; congr 1; omega, fun j hj => ?_⟩
  rw [List.length_take] at hj
  obtain ⟨b, off, h1, h2, h3, h4, h5⟩ := h j (by omega)
  have hg : (L.take K).getD j 0 = L.getD j 0 := by
    have h6 : j < L.length := by omega
    have h7 : j < K := by omega
    simp [h6, h7]
  rw [hg]
  exact ⟨b, off, h1, by rw [List.length_take]; omega, h3, h4, h5⟩
theorem acc_drop {W : World} {b off cap n K : Nat} {L : List Int} (hn : n = L.length) (h : IsAccs W (.slice (some ⟨b, off, none⟩) n cap) L) (hK : K ≤ n) : IsAccs W (.slice (some ⟨b, off + K * 2, none⟩) (n - K) (cap - K)) (L.drop K) := by
  obtain ⟨A', cap', he, h⟩ := h
  injection he with e1 e2 e3
  subst e1 e3
  refine ⟨_, cap - K, by rw [List.length_drop]; congr 1; omega, fun j hj => ?_⟩
  rw [List.length_drop] at hj
  obtain ⟨b', off', h1, h2, h3, h4, h5⟩ := h (K + j) (by omega)
  injection h1 with h1
  injection h1 with g1 g2 _
  subst g1 g2
  have hg : (L.drop K).getD j 0 = L.getD (K + j) 0 := by simp
  rw [hg]
  rw [show off + (K + j) * 2 = off + K * 2 + j * 2 from by omega] at h4 h5
  exact ⟨b, off + K * 2, rfl, by rw [List.length_drop]; omega, h3, h4, h5⟩
theorem acc_none {W : World} {A : Option Addr} {cap : Nat} : IsAccs W (.slice A 0 cap) [] := ⟨A, cap, rfl, fun j hj => by simp at hj⟩
theorem sum_c (L : List Int) (S : Int) (hS : sumL L = S) (hl : L.length ≤ 1000) (v : Value) (w : World) (hv : IsAccs w v L) :
    Calls Try.prog 16 #[v] w fun e w' => e = .returned (.agg #[.int .i64 (HH S), .int .u64 (LL S)]) ∧ Below w.heap.size w w' := by
  subst hS
  exact sum_any L hl v w hv
theorem big_cx (X : Int) (w : World) : Calls Try.prog 10 #[.agg #[.int .i64 (HH X), .int .u64 (LL X)]] w fun e w' => e = .returned (.agg #[.int .i64 (X % 65536), .int .i64 (X / 65536 % 65536), .int .i64 (X / 4294967296 % 65536), .int .i64 (X / 281474976710656 % 65536),
  .int .i64 (X / 18446744073709551616 % 65536), .int .i64 (X / 1208925819614629174706176 % 65536), .int .i64 (X / 79228162514264337593543950336 % 65536), .int .i64 (X / 5192296858534827628530496329220096 % 65536)]) ∧ Below w.heap.size w w' := big_c X w

/-- What the last test keeps. -/
structure KS (w : World) (G : Nat) (L : List Int) (v1 v2 v3 v4 : Value) (K : Nat) (W : World) : Prop where
  a1 : IsAccs W v1 L
  a2 : IsAccs W v2 L.reverse
  a3 : IsAccs W v3 (L.take K)
  a4 : IsAccs W v4 (L.drop K)
  blk : Blk W G 27 (DC (sumL L))
  below : Below w.heap.size w W
theorem KS.step {w W W' : World} {G K : Nat} {L : List Int} {v1 v2 v3 v4 : Value} (h : KS w G L v1 v2 v3 v4 K W) (hb : Below W.heap.size W W') : KS w G L v1 v2 v3 v4 K W' :=
  ⟨h.a1.below hb rfl, h.a2.below hb rfl, h.a3.below hb rfl, h.a4.below hb rfl, h.blk.below hb h.blk.lt, h.below.trans (hb.mono h.below.size)⟩
def KSc (w : World) (G : Nat) (L : List Int) (v1 v2 v3 v4 : Value) (K : Nat) (S : Int) (W : World) : Prop :=
  W.cell? ⟨G, 0, none⟩ = some (.int .i64 (S % 65536)) ∧ W.cell? ⟨G, 1, none⟩ = some (.int .i64 (S / 65536 % 65536)) ∧ W.cell? ⟨G, 2, none⟩ = some (.int .i64 (S / 4294967296 % 65536)) ∧
    W.cell? ⟨G, 3, none⟩ = some (.int .i64 (S / 281474976710656 % 65536)) ∧ W.cell? ⟨G, 4, none⟩ = some (.int .i64 (S / 18446744073709551616 % 65536)) ∧ W.cell? ⟨G, 5, none⟩ = some (.int .i64 (S / 1208925819614629174706176 % 65536)) ∧
    W.cell? ⟨G, 6, none⟩ = some (.int .i64 (S / 79228162514264337593543950336 % 65536)) ∧ W.cell? ⟨G, 7, none⟩ = some (.int .i64 (S / 5192296858534827628530496329220096 % 65536)) ∧ KS w G L v1 v2 v3 v4 K W
theorem KS.cells {w W : World} {G K : Nat} {L : List Int} {v1 v2 v3 v4 : Value} (h : KS w G L v1 v2 v3 v4 K W) : KSc w G L v1 v2 v3 v4 K (sumL L) W :=
  ⟨h.blk.cell 0, h.blk.cell 1, h.blk.cell 2, h.blk.cell 3, h.blk.cell 4, h.blk.cell 5, h.blk.cell 6, h.blk.cell 7, h⟩

theorem eqS (X : Int) (w : World) : (Op.equalIn 10000 27 (.agg #[.int .i64 (X % 65536), .int .i64 (X / 65536 % 65536), .int .i64 (X / 4294967296 % 65536), .int .i64 (X / 281474976710656 % 65536),
  .int .i64 (X / 18446744073709551616 % 65536), .int .i64 (X / 1208925819614629174706176 % 65536), .int .i64 (X / 79228162514264337593543950336 % 65536), .int .i64 (X / 5192296858534827628530496329220096 % 65536)])
  (.agg #[.int .i64 (X % 65536), .int .i64 (X / 65536 % 65536), .int .i64 (X / 4294967296 % 65536), .int .i64 (X / 281474976710656 % 65536),
  .int .i64 (X / 18446744073709551616 % 65536), .int .i64 (X / 1208925819614629174706176 % 65536), .int .i64 (X / 79228162514264337593543950336 % 65536), .int .i64 (X / 5192296858534827628530496329220096 % 65536)])).run Try.prog w = .ok true w := by
  have h := eq8 (X % 65536) (X / 65536 % 65536) (X / 4294967296 % 65536) (X / 281474976710656 % 65536) (X / 18446744073709551616 % 65536) (X / 1208925819614629174706176 % 65536) (X / 79228162514264337593543950336 % 65536) (X / 5192296858534827628530496329220096 % 65536) (X % 65536) (X / 65536 % 65536) (X / 4294967296 % 65536) (X / 281474976710656 % 65536) (X / 18446744073709551616 % 65536) (X / 1208925819614629174706176 % 65536) (X / 79228162514264337593543950336 % 65536) (X / 5192296858534827628530496329220096 % 65536) w
  simpa [Op.equal, Op.maxDepth] using h

theorem KSof {w W : World} {G K : Nat} {L : List Int} {v1 v2 v3 v4 : Value} {S : Int} (h : W.cell? ⟨G, 0, none⟩ = some (.int .i64 (S % 65536)) ∧ W.cell? ⟨G, 1, none⟩ = some (.int .i64 (S / 65536 % 65536)) ∧ W.cell? ⟨G, 2, none⟩ = some (.int .i64 (S / 4294967296 % 65536)) ∧
    W.cell? ⟨G, 3, none⟩ = some (.int .i64 (S / 281474976710656 % 65536)) ∧ W.cell? ⟨G, 4, none⟩ = some (.int .i64 (S / 18446744073709551616 % 65536)) ∧ W.cell? ⟨G, 5, none⟩ = some (.int .i64 (S / 1208925819614629174706176 % 65536)) ∧
    W.cell? ⟨G, 6, none⟩ = some (.int .i64 (S / 79228162514264337593543950336 % 65536)) ∧ W.cell? ⟨G, 7, none⟩ = some (.int .i64 (S / 5192296858534827628530496329220096 % 65536)) ∧ KS w G L v1 v2 v3 v4 K W) : KS w G L v1 v2 v3 v4 K W := h.2.2.2.2.2.2.2.2

/-- What the rounds keep: the sum in digits, and the list turned so far. -/
structure SR (w : World) (g5 B : Nat) (L : List Int) (j : Nat) (tv : Value) (W : World) : Prop where
  blk : Blk W g5 27 (DC (sumL (L.take j)))
  own : W.ownsRow B 24 2 tv j (accCells (L.reverse.take j))
  below : Below w.heap.size w W
  gB : w.heap.size ≤ g5
  BB : w.heap.size ≤ B
  Bl : B ≤ W.heap.size

set_option maxRecDepth 100000 in
set_option maxHeartbeats 16000000 in
theorem sums_walk (L : List Int) (hlen : L.length ≤ 9223372036854775807) (a : Int) (ha : 0 ≤ a ∧ a ≤ 255) (v : Value) (w : World) (hv : IsAccs w v L) :
    Calls Try.prog 4 #[v, .int .u8 a] w fun e w' => e = .returned (.bool true) ∧ Below w.heap.size w w' := by
  have hvh := Lib.hid hv
  obtain ⟨A, cap, rfl, hat⟩ := hv
  replace hat := Lib.hid hat
  obtain ⟨len, hlen2⟩ : ∃ len, len = L.length := ⟨_, rfl⟩
  rw [← hlen2] at hlen hvh ⊢
  replace hlen2 := Lib.hid hlen2
  by_cases h60 : 60 < len
  · go_enter Try.func4, Try.ntmps4
    go_wp2_with fail
    refine (awake_any _).mono ?_
    rintro e w0 ⟨rfl, b0⟩
    replace b0 := Lib.hid b0
    go_wp2_with fail
    go_ret
    exact ⟨rfl, b0.out⟩
  · go_enter Try.func4, Try.ntmps4
    go_wp2_with fail
    refine (awake_any _).mono ?_
    rintro e w0 ⟨rfl, b0⟩
    have hs0 := b0.size
    obtain ⟨G, hG⟩ : ∃ G, w0.heap.size = G := ⟨_, rfl⟩
    have hR0 : SR w G G L 0 (.slice none 0 0) (w0.alloc (.cells #[.int .i64 0, .int .i64 0, .int .i64 0, .int .i64 0, .int .i64 0, .int .i64 0, .int .i64 0, .int .i64 0] 27)) :=
      ⟨by have := Blk.new w0 27 (DC 0); rw [DC_zero, hG] at this; simpa [sumL, DC_zero] using this, World.ownsRow_nil _ _ _ _, b0.alloc hs0 _, by omega, by omega, by simp; omega⟩
    replace hR0 := Lib.hid hR0
    replace hs0 := Lib.hid hs0
    clear b0
    go_wp2_with fail
    replace hG := Lib.hid hG
    go_loopw [6, 16] (fun tv s wr => ∃ j : Nat, j ≤ len ∧ s = .int .i64 j ∧ SR w G G L j tv wr) (fun _ s _ => len - (intOf s).toNat)
    case atStart => exact ⟨0, by omega, rfl, hR0.out⟩
    case round =>
      clear hR0
      obtain ⟨j, hj, rfl, hR⟩ := hrel
      by_cases hl : j < len
      · obtain ⟨b, off, rfl, hcap, hbl, q0, q1⟩ := hat.out j (by rw [← hlen2.out]; exact hl)
        have hcap2 : len ≤ cap := by rw [hlen2.out]; exact hcap
        have r0 : wr.cell? ⟨b, off + j * 2, none⟩ = _ := (hR.below.cell (p := ⟨b, off + j * 2, none⟩) hbl).trans q0
        have r1 : wr.cell? ⟨b, off + j * 2 + 1, none⟩ = _ := (hR.below.cell (p := ⟨b, off + j * 2 + 1, none⟩) hbl).trans q1
        have hst := Lib.hid (sumL_take L j (by rw [← hlen2.out]; exact hl))
        obtain ⟨y, hy⟩ : ∃ y, y = L.getD j 0 := ⟨_, rfl⟩
        rw [← hy] at r0 r1 hst
        obtain ⟨S, hS⟩ : ∃ S, S = sumL (L.take j) := ⟨_, rfl⟩
        rw [← hS] at hst
        have hblk := hR.blk
        rw [← hS] at hblk
        have d0 := hblk.cell 0
        have d1 := hblk.cell 1
        have d2 := hblk.cell 2
        have d3 := hblk.cell 3
        have d4 := hblk.cell 4
        have d5 := hblk.cell 5
        have d6 := hblk.cell 6
        have d7 := hblk.cell 7
        simp [DC] at d0 d1 d2 d3 d4 d5 d6 d7
        have fr := hblk.frozen
        have hGl : G < wr.heap.size := hblk.lt
        have hbw : b < wr.heap.size := Nat.lt_of_lt_of_le hbl hR.below.size
        have hbG : b ≠ G := by have := hR.gB; omega
        replace hblk := Lib.hid hblk
        replace hR := Lib.hid hR
        clear q0 q1 hy hcap hbl hS
        go_upto_region 10 with fail
        go_cut [] from 19 to 25 (fun wx => Blk wx G 27 (DC (S + y)) ∧ wr.grownBy wx (some G))
        case first =>
          have hb0 : Hid (Below wr.heap.size wr wr.drew) := Lib.hid ((Below.refl _ _).drew)
          go_region_with (first
            | (go_at_call 10; refine (big_c _ _).mono ?_; rintro e w2 ⟨rfl, hb2⟩; obtain ⟨x0, x1, x2, x3, x4, x5, x6, x7, xf, xl, xB⟩ := blkcells (Blk.below (w := wr.drew) hblk.out hb2 hGl); have hbb2 := Lib.hid hb2; clear hb2)
            | (go_at_call 15; refine (add_exp S y _).mono ?_; rintro e w3 ⟨rfl, hb3⟩; obtain ⟨z0, z1, z2, z3, z4, z5, z6, z7, zf, zl, zB⟩ := blkcells (Blk.below xB.out hb3 xl); have hbb3 := Lib.hid hb3; clear hb3))
          all_goals
            go_wp2_with fail
            go_meet
            exact ⟨blk8 (zB.out : Blk _ _ _ #[_, _, _, _, _, _, _, _]) _ _ _ _ _ _ _ _, grown_set8 (grown_of_below (Below.trans hb0.out (Below.trans hbb2.out (hbb3.out.mono hbb2.out.size)))) _ _ _ _ _ _ _ _⟩
        case rest =>
          obtain ⟨hB, hg⟩ := hcut
          have hbw2 : Below w.heap.size w wc := Below.trans hR.out.below (grown_oldA hg hR.out.gB hR.out.below.size)
          obtain ⟨b', off', he, hcap', hbl', q0, q1⟩ := hat.out (len - 1 - j) (by rw [← hlen2.out]; omega)
          injection he with he
          injection he with he1 he2 _
          subst he1 he2
          have s0 : wc.cell? ⟨b, off + (len - 1 - j) * 2, none⟩ = _ := (hbw2.cell (p := ⟨b, off + (len - 1 - j) * 2, none⟩) hbl').trans q0
          have s1 : wc.cell? ⟨b, off + (len - 1 - j) * 2 + 1, none⟩ = _ := (hbw2.cell (p := ⟨b, off + (len - 1 - j) * 2 + 1, none⟩) hbl').trans q1
          have hrt := rev_take L j (by rw [← hlen2.out]; exact hl)
          rw [← hlen2.out] at hrt
          obtain ⟨z, hz⟩ : ∃ z, z = L.getD (len - 1 - j) 0 := ⟨_, rfl⟩
          rw [← hz] at s0 s1 hrt
          have hown := hR.out.own.kept hg (own_ne27 hR.out.own (hblk.out) (by decide))
          have hBl := hR.out.Bl
          have hsz := hg.size
          have hgB := hR.out.gB
          have hBB := hR.out.BB
          replace hrt := Lib.hid hrt
          replace hB := Lib.hid hB
          replace hg := Lib.hid hg
          replace hbw2 := Lib.hid hbw2
          replace hown := Lib.hid hown
          obtain ⟨i0, hti, ti0, ti1, ti2⟩ := info_parts info24
          have l1 : Hid (∀ j' u, [Value.int .i64 (HH z), Value.int .u64 (LL z)][j']? = some u → (wc.alloc (.cells #[.int .i64 (HH z), .int .u64 (LL z)] 24)).cell? ((⟨wc.heap.size, 0, none⟩ : Addr).add j') = some u) := Lib.hid (by
            intro j' u hu
            match j', hu with
            | 0, hu => simp at hu; subst hu; simp [Addr.add]
            | 1, hu => simp at hu; subst hu; simp [Addr.add])
          have l2 : Hid (∀ u ∈ [Value.int .i64 (HH z), Value.int .u64 (LL z)], u.oneCell' = true) := Lib.hid (by intro u hu; simp at hu; rcases hu with rfl | rfl <;> rfl)
          have l3 : Hid (j + 1 ≤ maxLen) := Lib.hid (by unfold maxLen; omega)
          have l4 : Hid ((j + 1) * 16 ≤ 140737488355328) := Lib.hid (by omega)
          have l5 : Hid (G ≤ (wc.alloc (.cells #[.int .i64 (HH z), .int .u64 (LL z)] 24)).heap.size) := Lib.hid (by simp; omega)
          clear q0 q1 hz hbl' hcap' d0 d1 d2 d3 d4 d5 d6 d7 fr r0 r1
          go_wp2_with (at_builtin; refine wpList_append_own _ rfl _ _ 34 rfl G 24 i0 (.agg #[.int .i64 0, .int .u64 0]) 2 16 Try.underlying34 hti ti0 ti1 ti2 rfl (by decide) _ _ _ rfl (hown.out.alloc _) ⟨wc.heap.size, 0, none⟩ 1 1 [.int .i64 (HH z), .int .u64 (LL z)] rfl rfl l1.out l2.out l3.out l4.out l5.out ?_)
          intro v' w2 hown2 hgr _
          have hR2 : SR w G G L (j + 1) v' w2 := by
            have hne := own_ne27 hown.out hB.out (by decide)
            have hlt := hown.out.lt
            refine ⟨?_, ?_, ?_, hgB, hBB, ?_⟩
            · rw [hst.out]
              have h1 := hB.out.alloc (.cells #[.int .i64 (HH z), .int .u64 (LL z)] 24)
              refine (hgr.block G h1.lt (fun e => ?_)).trans h1
              rcases hne with h | h
              · rw [h] at e; cases e
              · exact h e.symm
            · rw [hrt.out, accCells_append]
              exact hown2
            · have h1 := hbw2.out.alloc hbw2.out.size (.cells #[.int .i64 (HH z), .int .u64 (LL z)] 24)
              exact Below.trans h1 ⟨hgr.os, hgr.tape, hgr.output, hgr.size, fun i hi => hgr.block i (Nat.lt_of_lt_of_le hi h1.size) (fun e => by have := (hlt i e.symm).1; omega)⟩
            · exact Nat.le_trans l5.out hgr.size
          replace hR2 := Lib.hid hR2
          clear hown2 hgr hR hown hB hg hbw2 l1 l2 l3 l4 l5
          go_wp2_with fail
          exact ⟨⟨j + 1, by omega, by go_num, hR2.out⟩, by simp [intOf]; omega⟩
      · obtain rfl : j = len := by omega
        have hS : sumL (L.take j) = sumL L := by rw [hlen2.out, List.take_length]
        have hT : L.reverse.take j = L.reverse := by rw [hlen2.out, ← List.length_reverse, List.take_length]
        obtain ⟨hblk, hown, hbel, hgB, hBB, hBl⟩ := hR
        rw [hS] at hblk
        rw [hT] at hown
        clear hS hT
        obtain ⟨K, hK, hKj⟩ : ∃ K : Nat, (if (j : Int) < a then (j : Int) else a) = (K : Int) ∧ K ≤ j := by
          by_cases h : (j : Int) < a
          · exact ⟨j, if_pos h, Nat.le_refl _⟩
          · exact ⟨a.toNat, by rw [if_neg h]; omega, by omega⟩
        replace hblk := Lib.hid hblk
        replace hown := Lib.hid hown
        replace hbel := Lib.hid hbel
        have hv1 := Lib.hid (hvh.out.below hbel.out rfl)
        have hv2 := Lib.hid (own_accs (by rw [List.length_reverse]; exact hlen2.out) hown.out)
        replace hK := Lib.hid hK
        obtain ⟨S, hSe⟩ : ∃ S, S = sumL L := ⟨_, rfl⟩
        obtain ⟨S1, hS1⟩ : ∃ S, sumL (L.take K) = S := ⟨_, rfl⟩
        obtain ⟨S2, hS2⟩ : ∃ S, sumL (L.drop K) = S := ⟨_, rfl⟩
        have hS12 : S1 + S2 = S := by rw [← hS1, ← hS2, hSe, ← sumL_append, List.take_append_drop]
        have hSr := Lib.hid (show sumL L.reverse = S by rw [hSe, sumL_reverse])
        have hle := Lib.hid (show L.length ≤ 1000 by have := hlen2.out; omega)
        have hler := Lib.hid (show L.reverse.length ≤ 1000 by have := hlen2.out; simp; omega)
        have hle1 := Lib.hid (show (L.take K).length ≤ 1000 by have := hlen2.out; simp; omega)
        have hle2 := Lib.hid (show (L.drop K).length ≤ 1000 by have := hlen2.out; simp; omega)
        replace hSe := Lib.hid hSe
        replace hS1 := Lib.hid hS1
        replace hS2 := Lib.hid hS2
        by_cases hj0 : j = 0
        · subst hj0
          obtain rfl : K = 0 := by omega
          have hL : L = [] := List.eq_nil_of_length_eq_zero hlen2.out.symm
          subst hL
          have hSn := Lib.hid (show sumL [] = S from hSe.out.symm)
          have hle0 := Lib.hid (show ([] : List Int).length ≤ 1000 by simp)
          have hSS : S + S = S := by rw [← hSn.out]; simp [sumL]
          have hshape : ∃ ao cp, u6 = .slice ao 0 cp := by
            rcases hown.out.2 with ⟨rfl, _⟩ | ⟨g, cp, cur, rfl, _⟩
            · exact ⟨_, _, rfl⟩
            · exact ⟨_, _, rfl⟩
          obtain ⟨ao, cp, rfl⟩ := hshape
          have kS0 : KS w G [] (.slice none 0 0) (.slice none 0 0) (.slice none 0 0) (.slice none 0 0) 0 wr := ⟨acc_none, acc_none, acc_none, acc_none, hblk.out, hbel.out⟩
          clear hS12
          have hways : cap = 0 ∨ cap ≠ 0 := by omega
          cases A
          all_goals
            rcases hways with hc0 | hc0
            all_goals
              as_aux_lemma =>
                have hK0 : (if (0 : Int) < a then (0 : Int) else a) = 0 := by split <;> omega
                go_upto_region 14 with fail
                try rw [hK0]
                have eqs := eqS S
                have kd := Lib.hid (KS.step kS0 ((Below.refl _ _).drew))
                clear kS0
                go_region_held3 (fun W => W.cell? ⟨G, 0, none⟩ = some (.int .i64 (S % 65536)) ∧ W.cell? ⟨G, 1, none⟩ = some (.int .i64 (S / 65536 % 65536)) ∧ W.cell? ⟨G, 2, none⟩ = some (.int .i64 (S / 4294967296 % 65536)) ∧
                    W.cell? ⟨G, 3, none⟩ = some (.int .i64 (S / 281474976710656 % 65536)) ∧ W.cell? ⟨G, 4, none⟩ = some (.int .i64 (S / 18446744073709551616 % 65536)) ∧ W.cell? ⟨G, 5, none⟩ = some (.int .i64 (S / 1208925819614629174706176 % 65536)) ∧
                    W.cell? ⟨G, 6, none⟩ = some (.int .i64 (S / 79228162514264337593543950336 % 65536)) ∧ W.cell? ⟨G, 7, none⟩ = some (.int .i64 (S / 5192296858534827628530496329220096 % 65536)) ∧ KS w G [] (.slice none 0 0) (.slice none 0 0) (.slice none 0 0) (.slice none 0 0) 0 W)
                  (first | assumption | (refine ⟨?_, ?_, ?_, ?_, ?_, ?_, ?_, ?_, ?_⟩ <;> assumption) | (rw [← hSn.out]; exact kd.out.cells) | (rw [← hSn.out]; exact (KS.step (KSof (by assumption)) hb2).cells))
                  (first
                    | (go_at_call 16; with_reducible refine Calls.mono (sum_c [] S hSn.out hle0.out _ _ acc_none) ?_; rintro e w3 ⟨rfl, hb2⟩)
                    | (go_at_call 10; refine (big_cx S _).mono ?_; rintro e w3 ⟨rfl, hb2⟩)
                    | (go_at_call 17; refine (plus_c S S _).mono ?_; rintro e w3 ⟨rfl, hb2⟩))
                go_wp2
                go_ret
                exact ⟨rfl, (KSof (W := w3) (by assumption)).below⟩
        · obtain ⟨b, off, rfl, hcap, _, _, _⟩ := hat.out 0 (by rw [← hlen2.out]; omega)
          have hcap2 : j ≤ cap := by rw [hlen2.out]; exact hcap
          clear hcap
          by_cases hck : cap = K
          · as_aux_lemma =>
              obtain rfl : j = K := by omega
              obtain rfl : cap = j := hck
              have htk : L.take cap = L := by rw [hlen2.out, List.take_length]
              have hdr : L.drop cap = [] := by rw [hlen2.out, List.drop_length]
              have hS11 : S + S2 = S := by rw [← hS2.out, hdr]; simp [sumL]
              have kS0 : KS w G L (.slice (some ⟨b, off, none⟩) cap cap) u6 (.slice (some ⟨b, off, none⟩) cap cap) (.slice (some ⟨b, off, none⟩) 0 0) cap wr :=
                ⟨hv1.out, hv2.out, by rw [htk]; exact hv1.out, by rw [hdr]; exact acc_none, hblk.out, hbel.out⟩
              replace htk := Lib.hid htk
              replace hdr := Lib.hid hdr
              clear hS12
              go_upto_region 14 with fail
              rw [hK.out]
              have eqs := eqS S
              have kd := Lib.hid (KS.step kS0 ((Below.refl _ _).drew))
              clear kS0
              go_region_held3 (fun W => W.cell? ⟨G, 0, none⟩ = some (.int .i64 (S % 65536)) ∧ W.cell? ⟨G, 1, none⟩ = some (.int .i64 (S / 65536 % 65536)) ∧ W.cell? ⟨G, 2, none⟩ = some (.int .i64 (S / 4294967296 % 65536)) ∧
                  W.cell? ⟨G, 3, none⟩ = some (.int .i64 (S / 281474976710656 % 65536)) ∧ W.cell? ⟨G, 4, none⟩ = some (.int .i64 (S / 18446744073709551616 % 65536)) ∧ W.cell? ⟨G, 5, none⟩ = some (.int .i64 (S / 1208925819614629174706176 % 65536)) ∧
                  W.cell? ⟨G, 6, none⟩ = some (.int .i64 (S / 79228162514264337593543950336 % 65536)) ∧ W.cell? ⟨G, 7, none⟩ = some (.int .i64 (S / 5192296858534827628530496329220096 % 65536)) ∧ KS w G L (.slice (some ⟨b, off, none⟩) cap cap) u6 (.slice (some ⟨b, off, none⟩) cap cap) (.slice (some ⟨b, off, none⟩) 0 0) cap W)
                (first | assumption | (refine ⟨?_, ?_, ?_, ?_, ?_, ?_, ?_, ?_, ?_⟩ <;> assumption) | (rw [hSe.out]; exact kd.out.cells) | (rw [hSe.out]; exact (KS.step (KSof (by assumption)) hb2).cells))
                (first
                  | (go_at_call 16; with_reducible refine Calls.mono (sum_c L S hSe.out.symm hle.out _ _ (KS.a1 (KSof (by assumption)))) ?_; rintro e w3 ⟨rfl, hb2⟩)
                  | (go_at_call 16; with_reducible refine Calls.mono (sum_c L.reverse S hSr.out hler.out _ _ (KS.a2 (KSof (by assumption)))) ?_; rintro e w3 ⟨rfl, hb2⟩)
                  | (go_at_call 16; with_reducible refine Calls.mono (sum_c (L.take cap) S1 hS1.out hle1.out _ _ (KS.a3 (KSof (by assumption)))) ?_; rintro e w3 ⟨rfl, hb2⟩)
                  | (go_at_call 16; with_reducible refine Calls.mono (sum_c (L.drop cap) S2 hS2.out hle2.out _ _ (KS.a4 (KSof (by assumption)))) ?_; rintro e w3 ⟨rfl, hb2⟩)
                  | (go_at_call 10; refine (big_cx S _).mono ?_; rintro e w3 ⟨rfl, hb2⟩)
                  | (go_at_call 17; refine (plus_c S S2 _).mono ?_; rintro e w3 ⟨rfl, hb2⟩))
              go_wp2
              go_ret
              exact ⟨rfl, (KSof (W := w3) (by assumption)).below⟩
          · as_aux_lemma =>
              have kS0 : KS w G L (.slice (some ⟨b, off, none⟩) j cap) u6 (.slice (some ⟨b, off, none⟩) K cap) (.slice (some ⟨b, off + K * 2, none⟩) (j - K) (cap - K)) K wr :=
                ⟨hv1.out, hv2.out, acc_take hlen2.out hv1.out hKj, acc_drop hlen2.out hv1.out hKj, hblk.out, hbel.out⟩
              have hI1 : (0 : Int) ≤ (K : Int) := by omega
              have hI2 : (K : Int) ≤ (j : Int) := by omega
              have hI3 : (K : Int) ≤ (cap : Int) := by omega
              have hI4 : (j : Int) ≤ (cap : Int) := by omega
              go_upto_region 14 with fail
              rw [hK.out]
              have eqs := eqS S
              have kd := Lib.hid (KS.step kS0 ((Below.refl _ _).drew))
              clear kS0
              go_region_held3 (fun W => W.cell? ⟨G, 0, none⟩ = some (.int .i64 (S % 65536)) ∧ W.cell? ⟨G, 1, none⟩ = some (.int .i64 (S / 65536 % 65536)) ∧ W.cell? ⟨G, 2, none⟩ = some (.int .i64 (S / 4294967296 % 65536)) ∧
                  W.cell? ⟨G, 3, none⟩ = some (.int .i64 (S / 281474976710656 % 65536)) ∧ W.cell? ⟨G, 4, none⟩ = some (.int .i64 (S / 18446744073709551616 % 65536)) ∧ W.cell? ⟨G, 5, none⟩ = some (.int .i64 (S / 1208925819614629174706176 % 65536)) ∧
                  W.cell? ⟨G, 6, none⟩ = some (.int .i64 (S / 79228162514264337593543950336 % 65536)) ∧ W.cell? ⟨G, 7, none⟩ = some (.int .i64 (S / 5192296858534827628530496329220096 % 65536)) ∧ KS w G L (.slice (some ⟨b, off, none⟩) j cap) u6 (.slice (some ⟨b, off, none⟩) K cap) (.slice (some ⟨b, off + K * 2, none⟩) (j - K) (cap - K)) K W)
                (first | assumption | (refine ⟨?_, ?_, ?_, ?_, ?_, ?_, ?_, ?_, ?_⟩ <;> assumption) | (rw [hSe.out]; exact kd.out.cells) | (rw [hSe.out]; exact (KS.step (KSof (by assumption)) hb2).cells))
                (first
                  | (go_at_call 16; with_reducible refine Calls.mono (sum_c L S hSe.out.symm hle.out _ _ (KS.a1 (KSof (by assumption)))) ?_; rintro e w3 ⟨rfl, hb2⟩)
                  | (go_at_call 16; with_reducible refine Calls.mono (sum_c L.reverse S hSr.out hler.out _ _ (KS.a2 (KSof (by assumption)))) ?_; rintro e w3 ⟨rfl, hb2⟩)
                  | (go_at_call 16; with_reducible refine Calls.mono (sum_c (L.take K) S1 hS1.out hle1.out _ _ (KS.a3 (KSof (by assumption)))) ?_; rintro e w3 ⟨rfl, hb2⟩)
                  | (go_at_call 16; with_reducible refine Calls.mono (sum_c (L.drop K) S2 hS2.out hle2.out _ _ (KS.a4 (KSof (by assumption)))) ?_; rintro e w3 ⟨rfl, hb2⟩)
                  | (go_at_call 10; refine (big_cx S _).mono ?_; rintro e w3 ⟨rfl, hb2⟩)
                  | (go_at_call 17; refine (plus_c S1 S2 _).mono ?_; rintro e w3 ⟨rfl, hb2⟩))
              go_wp2
              go_ret
              exact ⟨rfl, (KSof (W := w3) (by assumption)).below⟩
end Go.Proofs.Ytmndafndopoelaa
