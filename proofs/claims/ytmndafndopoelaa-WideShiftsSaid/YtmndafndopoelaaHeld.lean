/- Contract: the reference's Held of digits. -/
import Derived.Test.YtmndafndopoelaaLess
namespace Go.Proofs.Ytmndafndopoelaa
open Go.RowKit

def WideB (S : Int) : Prop := -170141183460469231731687303715884105728 ≤ S ∧ S < 170141183460469231731687303715884105728

set_option maxHeartbeats 4000000 in
theorem bheld_any (S L H : Int) (hS : WideB S) (hL : WideB L) (hH : WideB H) (w : World) :
    Calls Try.prog 32 #[D S, D L, D H] w fun e w' => e = .returned (D (held3 S L H)) ∧ Below w.heap.size w w' := by
  have c1 := fun w => less_any S L hS hL w
  have c2 := fun w => less_any H S hH hS w
  clear hS hL hH
  unfold held3
  rw [D_eq S, D_eq L, D_eq H]
  rw [D_eq S, D_eq L] at c1
  rw [D_eq H, D_eq S] at c2
  by_cases h1 : S < L
  · have e1 : lessB S L = true := by unfold lessB; simp [h1]
    rw [if_pos h1]
    rw [e1] at c1
    clear h1 e1 c2
    go_enter Try.func32, Try.ntmps32
    go_wp2_with fail
    refine (c1 _).mono ?_
    rintro e w1 ⟨rfl, hb⟩
    obtain ⟨cs, fs, zs⟩ := blkA (g := w.heap.size) (t := 27) (cs := #[.int .i64 (S % 65536), .int .i64 (S / 65536 % 65536), .int .i64 (S / 4294967296 % 65536), .int .i64 (S / 281474976710656 % 65536), .int .i64 (S / 18446744073709551616 % 65536), .int .i64 (S / 1208925819614629174706176 % 65536), .int .i64 (S / 79228162514264337593543950336 % 65536), .int .i64 (S / 5192296858534827628530496329220096 % 65536)]) hb (by repeat (first | (with_reducible refine heap_last _ _ ?_; simp; done) | refine heap_keep ?_))
    obtain ⟨cl, fl, zl⟩ := blkA (g := w.heap.size + 1) (t := 27) (cs := #[.int .i64 (L % 65536), .int .i64 (L / 65536 % 65536), .int .i64 (L / 4294967296 % 65536), .int .i64 (L / 281474976710656 % 65536), .int .i64 (L / 18446744073709551616 % 65536), .int .i64 (L / 1208925819614629174706176 % 65536), .int .i64 (L / 79228162514264337593543950336 % 65536), .int .i64 (L / 5192296858534827628530496329220096 % 65536)]) hb (by repeat (first | (with_reducible refine heap_last _ _ ?_; simp; done) | refine heap_keep ?_))
    obtain ⟨ch, fh, zh⟩ := blkA (g := w.heap.size + 1 + 1) (t := 27) (cs := #[.int .i64 (H % 65536), .int .i64 (H / 65536 % 65536), .int .i64 (H / 4294967296 % 65536), .int .i64 (H / 281474976710656 % 65536), .int .i64 (H / 18446744073709551616 % 65536), .int .i64 (H / 1208925819614629174706176 % 65536), .int .i64 (H / 79228162514264337593543950336 % 65536), .int .i64 (H / 5192296858534827628530496329220096 % 65536)]) hb (by repeat (first | (with_reducible refine heap_last _ _ ?_; simp; done) | refine heap_keep ?_))
    obtain ⟨cr, fr, zr⟩ := blkA (g := w.heap.size + 1 + 1 + 1) (t := 27) (cs := #[.int .i64 0, .int .i64 0, .int .i64 0, .int .i64 0, .int .i64 0, .int .i64 0, .int .i64 0, .int .i64 0]) hb (by repeat (first | (with_reducible refine heap_last _ _ ?_; simp; done) | refine heap_keep ?_))
    have hb' : Below w.heap.size w w1 := Below.trans (by repeat (first | (with_reducible exact Below.refl _ _) | (with_reducible assumption) | (with_reducible refine below_drewN ?_ _) | (with_reducible refine Below.drew ?_) | (with_reducible refine Below.setCell ?_ (by simp; try omega) _) | (with_reducible refine Below.alloc ?_ (by simp; try omega) _))) (hb.mono (by simp; try omega))
    clear hb c1
    go_wp2
    refine bodyPost_ret (v := D L) (by unfold D; simp [results, Try.results32, go_sem, cr]) rfl ⟨rfl, ?_⟩
    repeat (first | (with_reducible exact Below.refl _ _) | (with_reducible assumption) | (with_reducible refine below_drewN ?_ _) | (with_reducible refine Below.drew ?_) | (with_reducible refine Below.setCell ?_ (by simp; try omega) _) | (with_reducible refine Below.alloc ?_ (by simp; try omega) _))
  · have e1 : lessB S L = false := by unfold lessB; simp [h1]
    rw [if_neg h1]
    rw [e1] at c1
    clear h1 e1
    by_cases h2 : H < S
    · have e2 : lessB H S = true := by unfold lessB; simp [h2]
      rw [if_pos h2]
      rw [e2] at c2
      clear h2 e2
      go_enter Try.func32, Try.ntmps32
      go_wp2_with fail
      refine (c1 _).mono ?_
      rintro e w1 ⟨rfl, hb⟩
      obtain ⟨cs, fs, zs⟩ := blkA (g := w.heap.size) (t := 27) (cs := #[.int .i64 (S % 65536), .int .i64 (S / 65536 % 65536), .int .i64 (S / 4294967296 % 65536), .int .i64 (S / 281474976710656 % 65536), .int .i64 (S / 18446744073709551616 % 65536), .int .i64 (S / 1208925819614629174706176 % 65536), .int .i64 (S / 79228162514264337593543950336 % 65536), .int .i64 (S / 5192296858534827628530496329220096 % 65536)]) hb (by repeat (first | (with_reducible refine heap_last _ _ ?_; simp; done) | refine heap_keep ?_))
      obtain ⟨cl, fl, zl⟩ := blkA (g := w.heap.size + 1) (t := 27) (cs := #[.int .i64 (L % 65536), .int .i64 (L / 65536 % 65536), .int .i64 (L / 4294967296 % 65536), .int .i64 (L / 281474976710656 % 65536), .int .i64 (L / 18446744073709551616 % 65536), .int .i64 (L / 1208925819614629174706176 % 65536), .int .i64 (L / 79228162514264337593543950336 % 65536), .int .i64 (L / 5192296858534827628530496329220096 % 65536)]) hb (by repeat (first | (with_reducible refine heap_last _ _ ?_; simp; done) | refine heap_keep ?_))
      obtain ⟨ch, fh, zh⟩ := blkA (g := w.heap.size + 1 + 1) (t := 27) (cs := #[.int .i64 (H % 65536), .int .i64 (H / 65536 % 65536), .int .i64 (H / 4294967296 % 65536), .int .i64 (H / 281474976710656 % 65536), .int .i64 (H / 18446744073709551616 % 65536), .int .i64 (H / 1208925819614629174706176 % 65536), .int .i64 (H / 79228162514264337593543950336 % 65536), .int .i64 (H / 5192296858534827628530496329220096 % 65536)]) hb (by repeat (first | (with_reducible refine heap_last _ _ ?_; simp; done) | refine heap_keep ?_))
      obtain ⟨cr, fr, zr⟩ := blkA (g := w.heap.size + 1 + 1 + 1) (t := 27) (cs := #[.int .i64 0, .int .i64 0, .int .i64 0, .int .i64 0, .int .i64 0, .int .i64 0, .int .i64 0, .int .i64 0]) hb (by repeat (first | (with_reducible refine heap_last _ _ ?_; simp; done) | refine heap_keep ?_))
      have hb' : Below w.heap.size w w1 := Below.trans (by repeat (first | (with_reducible exact Below.refl _ _) | (with_reducible assumption) | (with_reducible refine below_drewN ?_ _) | (with_reducible refine Below.drew ?_) | (with_reducible refine Below.setCell ?_ (by simp; try omega) _) | (with_reducible refine Below.alloc ?_ (by simp; try omega) _))) (hb.mono (by simp; try omega))
      clear hb c1
      go_wp2_with fail
      refine (c2 _).mono ?_
      rintro e w2 ⟨rfl, hb⟩
      have cs2 : ∀ i, w2.cell? ⟨w.heap.size, i, none⟩ = (#[.int .i64 (S % 65536), .int .i64 (S / 65536 % 65536), .int .i64 (S / 4294967296 % 65536), .int .i64 (S / 281474976710656 % 65536), .int .i64 (S / 18446744073709551616 % 65536), .int .i64 (S / 1208925819614629174706176 % 65536), .int .i64 (S / 79228162514264337593543950336 % 65536), .int .i64 (S / 5192296858534827628530496329220096 % 65536)] : Array Value)[i]? := fun i => (hb.cell (p := ⟨w.heap.size, i, none⟩) zs).trans (cs i)
      have cl2 : ∀ i, w2.cell? ⟨w.heap.size + 1, i, none⟩ = (#[.int .i64 (L % 65536), .int .i64 (L / 65536 % 65536), .int .i64 (L / 4294967296 % 65536), .int .i64 (L / 281474976710656 % 65536), .int .i64 (L / 18446744073709551616 % 65536), .int .i64 (L / 1208925819614629174706176 % 65536), .int .i64 (L / 79228162514264337593543950336 % 65536), .int .i64 (L / 5192296858534827628530496329220096 % 65536)] : Array Value)[i]? := fun i => (hb.cell (p := ⟨w.heap.size + 1, i, none⟩) zl).trans (cl i)
      have ch2 : ∀ i, w2.cell? ⟨w.heap.size + 1 + 1, i, none⟩ = (#[.int .i64 (H % 65536), .int .i64 (H / 65536 % 65536), .int .i64 (H / 4294967296 % 65536), .int .i64 (H / 281474976710656 % 65536), .int .i64 (H / 18446744073709551616 % 65536), .int .i64 (H / 1208925819614629174706176 % 65536), .int .i64 (H / 79228162514264337593543950336 % 65536), .int .i64 (H / 5192296858534827628530496329220096 % 65536)] : Array Value)[i]? := fun i => (hb.cell (p := ⟨w.heap.size + 1 + 1, i, none⟩) zh).trans (ch i)
      have cr2 : ∀ i, w2.cell? ⟨w.heap.size + 1 + 1 + 1, i, none⟩ = (#[.int .i64 0, .int .i64 0, .int .i64 0, .int .i64 0, .int .i64 0, .int .i64 0, .int .i64 0, .int .i64 0] : Array Value)[i]? := fun i => (hb.cell (p := ⟨w.heap.size + 1 + 1 + 1, i, none⟩) zr).trans (cr i)
      have fr2 : ∀ i, w2.frozen? ⟨w.heap.size + 1 + 1 + 1, i, none⟩ = false := fun i => (hb.frozen (p := ⟨w.heap.size + 1 + 1 + 1, i, none⟩) zr).trans (fr i)
      have hb2 : Below w.heap.size w w2 := hb'.trans (hb.mono (by omega))
      clear hb hb' c2 cs cl ch cr fs fl fh fr
      go_wp2
      refine bodyPost_ret (v := D H) (by unfold D; simp [results, Try.results32, go_sem, cr2]) rfl ⟨rfl, ?_⟩
      repeat (first | (with_reducible exact Below.refl _ _) | (with_reducible assumption) | (with_reducible refine below_drewN ?_ _) | (with_reducible refine Below.drew ?_) | (with_reducible refine Below.setCell ?_ (by simp; try omega) _) | (with_reducible refine Below.alloc ?_ (by simp; try omega) _))
    · have e2 : lessB H S = false := by unfold lessB; simp [h2]
      rw [if_neg h2]
      rw [e2] at c2
      clear h2 e2
      go_enter Try.func32, Try.ntmps32
      go_wp2_with fail
      refine (c1 _).mono ?_
      rintro e w1 ⟨rfl, hb⟩
      obtain ⟨cs, fs, zs⟩ := blkA (g := w.heap.size) (t := 27) (cs := #[.int .i64 (S % 65536), .int .i64 (S / 65536 % 65536), .int .i64 (S / 4294967296 % 65536), .int .i64 (S / 281474976710656 % 65536), .int .i64 (S / 18446744073709551616 % 65536), .int .i64 (S / 1208925819614629174706176 % 65536), .int .i64 (S / 79228162514264337593543950336 % 65536), .int .i64 (S / 5192296858534827628530496329220096 % 65536)]) hb (by repeat (first | (with_reducible refine heap_last _ _ ?_; simp; done) | refine heap_keep ?_))
      obtain ⟨cl, fl, zl⟩ := blkA (g := w.heap.size + 1) (t := 27) (cs := #[.int .i64 (L % 65536), .int .i64 (L / 65536 % 65536), .int .i64 (L / 4294967296 % 65536), .int .i64 (L / 281474976710656 % 65536), .int .i64 (L / 18446744073709551616 % 65536), .int .i64 (L / 1208925819614629174706176 % 65536), .int .i64 (L / 79228162514264337593543950336 % 65536), .int .i64 (L / 5192296858534827628530496329220096 % 65536)]) hb (by repeat (first | (with_reducible refine heap_last _ _ ?_; simp; done) | refine heap_keep ?_))
      obtain ⟨ch, fh, zh⟩ := blkA (g := w.heap.size + 1 + 1) (t := 27) (cs := #[.int .i64 (H % 65536), .int .i64 (H / 65536 % 65536), .int .i64 (H / 4294967296 % 65536), .int .i64 (H / 281474976710656 % 65536), .int .i64 (H / 18446744073709551616 % 65536), .int .i64 (H / 1208925819614629174706176 % 65536), .int .i64 (H / 79228162514264337593543950336 % 65536), .int .i64 (H / 5192296858534827628530496329220096 % 65536)]) hb (by repeat (first | (with_reducible refine heap_last _ _ ?_; simp; done) | refine heap_keep ?_))
      obtain ⟨cr, fr, zr⟩ := blkA (g := w.heap.size + 1 + 1 + 1) (t := 27) (cs := #[.int .i64 0, .int .i64 0, .int .i64 0, .int .i64 0, .int .i64 0, .int .i64 0, .int .i64 0, .int .i64 0]) hb (by repeat (first | (with_reducible refine heap_last _ _ ?_; simp; done) | refine heap_keep ?_))
      have hb' : Below w.heap.size w w1 := Below.trans (by repeat (first | (with_reducible exact Below.refl _ _) | (with_reducible assumption) | (with_reducible refine below_drewN ?_ _) | (with_reducible refine Below.drew ?_) | (with_reducible refine Below.setCell ?_ (by simp; try omega) _) | (with_reducible refine Below.alloc ?_ (by simp; try omega) _))) (hb.mono (by simp; try omega))
      clear hb c1
      go_wp2_with fail
      refine (c2 _).mono ?_
      rintro e w2 ⟨rfl, hb⟩
      have cs2 : ∀ i, w2.cell? ⟨w.heap.size, i, none⟩ = (#[.int .i64 (S % 65536), .int .i64 (S / 65536 % 65536), .int .i64 (S / 4294967296 % 65536), .int .i64 (S / 281474976710656 % 65536), .int .i64 (S / 18446744073709551616 % 65536), .int .i64 (S / 1208925819614629174706176 % 65536), .int .i64 (S / 79228162514264337593543950336 % 65536), .int .i64 (S / 5192296858534827628530496329220096 % 65536)] : Array Value)[i]? := fun i => (hb.cell (p := ⟨w.heap.size, i, none⟩) zs).trans (cs i)
      have cl2 : ∀ i, w2.cell? ⟨w.heap.size + 1, i, none⟩ = (#[.int .i64 (L % 65536), .int .i64 (L / 65536 % 65536), .int .i64 (L / 4294967296 % 65536), .int .i64 (L / 281474976710656 % 65536), .int .i64 (L / 18446744073709551616 % 65536), .int .i64 (L / 1208925819614629174706176 % 65536), .int .i64 (L / 79228162514264337593543950336 % 65536), .int .i64 (L / 5192296858534827628530496329220096 % 65536)] : Array Value)[i]? := fun i => (hb.cell (p := ⟨w.heap.size + 1, i, none⟩) zl).trans (cl i)
      have ch2 : ∀ i, w2.cell? ⟨w.heap.size + 1 + 1, i, none⟩ = (#[.int .i64 (H % 65536), .int .i64 (H / 65536 % 65536), .int .i64 (H / 4294967296 % 65536), .int .i64 (H / 281474976710656 % 65536), .int .i64 (H / 18446744073709551616 % 65536), .int .i64 (H / 1208925819614629174706176 % 65536), .int .i64 (H / 79228162514264337593543950336 % 65536), .int .i64 (H / 5192296858534827628530496329220096 % 65536)] : Array Value)[i]? := fun i => (hb.cell (p := ⟨w.heap.size + 1 + 1, i, none⟩) zh).trans (ch i)
      have cr2 : ∀ i, w2.cell? ⟨w.heap.size + 1 + 1 + 1, i, none⟩ = (#[.int .i64 0, .int .i64 0, .int .i64 0, .int .i64 0, .int .i64 0, .int .i64 0, .int .i64 0, .int .i64 0] : Array Value)[i]? := fun i => (hb.cell (p := ⟨w.heap.size + 1 + 1 + 1, i, none⟩) zr).trans (cr i)
      have fr2 : ∀ i, w2.frozen? ⟨w.heap.size + 1 + 1 + 1, i, none⟩ = false := fun i => (hb.frozen (p := ⟨w.heap.size + 1 + 1 + 1, i, none⟩) zr).trans (fr i)
      have hb2 : Below w.heap.size w w2 := hb'.trans (hb.mono (by omega))
      clear hb hb' c2 cs cl ch cr fs fl fh fr
      go_wp2
      refine bodyPost_ret (v := D S) (by unfold D; simp [results, Try.results32, go_sem, cr2]) rfl ⟨rfl, ?_⟩
      repeat (first | (with_reducible exact Below.refl _ _) | (with_reducible assumption) | (with_reducible refine below_drewN ?_ _) | (with_reducible refine Below.drew ?_) | (with_reducible refine Below.setCell ?_ (by simp; try omega) _) | (with_reducible refine Below.alloc ?_ (by simp; try omega) _))
end Go.Proofs.Ytmndafndopoelaa
