/- The law ConcealAlike: its parts. -/
import Derived.Test.YtckcjgmikjpfaaaDoorCon15
import Derived.Deep.RegionLawGrows
namespace Go.Proofs.YtckcjgmikjpfaaaDoor
open Go.RowKit

theorem sliceA (W : World) (a : Addr) (n : Nat) (hn : n ≤ 32) : (Instr.sliceAt 22 (.pointer (some a)) none (some (.int .i64 (n : Int))) none).run Tryd.prog W = .ok (.slice (some a) n 32) W := by
  have hal : Tryd.prog.arrayLen 22 = 32 := by kernel_rfl
  rw [run_sliceAt_array_h W 22 a (by rw [Tryd.underlying22]; kernel_rfl) .i64 n (by omega) (by rw [hal]; omega), hal]
  rfl

/-- What ConcealAlike's rounds keep. -/
structure AL (w : World) (n mb rb hb cap : Nat) (vh : Value) (zs : List Int) (wr : World) : Prop where
  len : zs.length = n
  b32 : ∀ j, I32 (zs.getD j 0)
  below : Below w.heap.size w wr
  isH : IsH wr vh zs
  mkr : Mk wr n mb rb
  ne : rb ≠ hb
  nm : mb ≠ hb
  lt : hb < wr.heap.size
  lor : w.heap.size ≤ rb
  loh : w.heap.size ≤ hb
  cap : n ≤ cap
  fz : ∀ j, wr.frozen? ⟨hb, j, none⟩ = false
  cell : ∀ j, j < n → wr.cell? ⟨hb, j, none⟩ = some (.int .i32 (zs.getD j 0))
theorem AL.next {w : World} {n mb rb hb cap : Nat} {vh : Value} {zs : List Int} {wr : World} (h : AL w n mb rb hb cap vh zs wr) {w' : World} (hb' : Below wr.heap.size wr w') : AL w n mb rb hb cap vh zs w' :=
  ⟨h.len, h.b32, Below.trans h.below (hb'.mono h.below.size), h.isH.below hb', h.mkr.below hb', h.ne, h.nm, Nat.lt_of_lt_of_le h.lt hb'.size, h.lor, h.loh, h.cap, fun j => (hb'.frozen (p := ⟨hb, j, none⟩) h.lt).trans (h.fz j), fun j hj => (hb'.cell (p := ⟨hb, j, none⟩) h.lt).trans (h.cell j hj)⟩
/-- Plain, then In. -/
theorem AL.round {w : World} {n mb rb hb cap : Nat} {vh : Value} {zs : List Int} {wr w1 w2 : World} {k : Int} {v1 : Value} (h : AL w n mb rb hb cap vh zs wr) (hn : 0 < n) (hp : PR wr zs k n v1 w1)
    (hi : IN w1 n mb rb hb (fun j => (plL zs k n).getD j 0) w2) : AL w n mb rb hb cap v1 (plL zs k n) w2 := by
  obtain ⟨g, cp, rfl, h1, h2, h3, _, h5⟩ := own_at hp.own hn
  have hg1 : g ≠ rb := by have := h.mkr.ltr; omega
  have hg2 : g ≠ hb := by have := h.lt; omega
  refine ⟨plL_len _ _ _, plL_b _ _ _, Below.trans (Below.trans h.below (hp.below.mono h.below.size)) (hi.fr.below (Nat.le_trans h.below.size hp.below.size) h.lor h.loh), ?_, hi.mkr, h.ne, h.nm, Nat.lt_of_lt_of_le (Nat.lt_of_lt_of_le h.lt hp.below.size) hi.fr.size, h.lor, h.loh, h.cap, hi.fz, hi.cell⟩
  refine ⟨some ⟨g, 0, none⟩, cp, by rw [plL_len], fun j hj => ⟨g, 0, rfl, by rw [plL_len]; exact h1, Nat.lt_of_lt_of_le h3 hi.fr.size, ?_, plL_b _ _ _ _⟩⟩
  rw [plL_len] at hj
  rw [Nat.zero_add, hi.fr.cell (p := ⟨g, j, none⟩) h3 hg1 hg2]
  exact h5 j hj
theorem AL.isH2 {w : World} {n mb rb hb cap : Nat} {vh : Value} {zs : List Int} {wr : World} (h : AL w n mb rb hb cap vh zs wr) : IsH wr (.slice (some ⟨hb, 0, none⟩) n cap) zs :=
  ⟨some ⟨hb, 0, none⟩, cap, by rw [h.len], fun j hj => ⟨hb, 0, rfl, by rw [h.len]; exact h.cap, h.lt, by rw [Nat.zero_add]; exact h.cell j (by rw [← h.len]; exact hj), h.b32 j⟩⟩

/-- The losses, as they lie in memory. -/
def IsL (w : World) (v : Value) (ls : List Int) : Prop :=
  ∃ A cap, v = .slice A ls.length cap ∧ ∀ j, j < ls.length → ∃ b off, A = some ⟨b, off, none⟩ ∧ ls.length ≤ cap ∧ b < w.heap.size ∧ w.cell? ⟨b, off + j, none⟩ = some (.int .i8 (ls.getD j 0)) ∧ -128 ≤ ls.getD j 0 ∧ ls.getD j 0 ≤ 127

theorem grown_next {B : Nat} {a W w' : World} (h : Below B a W) (hg : W.grownBy w' none) (hB : B ≤ a.heap.size) : Below B a w' :=
  Below.trans h (belowOf hg (fun k e => by cases e) (Nat.le_trans hB h.size))

set_option maxHeartbeats 4000000 in
theorem alike_big (s : Int) (C : Array Value) (ls : List Int) (hl : 12 < ls.length) (v : Value) (w : World) (hv : IsL w v ls) (hF : Fades w) (h0 : 0 < w.heap.size) :
    Calls Tryd.prog 6 #[.int .u8 s, .agg C, v] w fun e w' => e = .returned (.bool true) ∧ Below w.heap.size w w' := by
  obtain ⟨A, cap, rfl, _⟩ := hv
  have ca := Lib.hid (fun w2 (h : Below w.heap.size w w2) => awake_any w2 (hF.below h0 h) (Nat.lt_of_lt_of_le h0 h.size))
  obtain ⟨n, hn⟩ : ∃ n, n = ls.length := ⟨_, rfl⟩
  rw [← hn] at hl ⊢
  clear hF h0 hn
  go_enter Tryd.func6, Tryd.ntmps6
  go_wp2_with fail
  with_reducible refine Calls.mono (ca.out _ (by repeat (first | (with_reducible exact Below.refl _ _) | (with_reducible assumption) | (with_reducible refine below_drewN ?_ _) | (with_reducible refine Below.drew ?_) | (with_reducible refine Below.setCell ?_ (by simp; try omega) _) | (with_reducible refine Below.alloc ?_ (by simp; try omega) _)))) ?_
  rintro e w1 ⟨rfl, hB⟩
  replace hB := Lib.hid (Below.trans (belowAlloc w _) (hB.mono (belowAlloc w _).size))
  go_wp2_with fail
  go_ret
  exact ⟨rfl, hB.out⟩
end Go.Proofs.YtckcjgmikjpfaaaDoor
