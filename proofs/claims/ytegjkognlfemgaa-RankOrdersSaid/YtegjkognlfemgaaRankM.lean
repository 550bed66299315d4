/- Ranks of vectors: plain arithmetic, no Go in sight. -/
import Derived.Test.YtegjkognlfemgaaRank1
namespace Go.Proofs.Ytegjkognlfemgaa

/-- How many vectors of a number and n more, of k pulses, begin with the number at place p. -/
def tN (n k p : Nat) : Nat := if (p + 1) / 2 ≤ k then V n (k - (p + 1) / 2) else 0
/-- How many begin with one of the first p. -/
def ahN (n k : Nat) : Nat → Nat
  | 0 => 0
  | p + 1 => ahN n k p + tN n k p
/-- How many there are with less pulses than k. -/
def cum (n : Nat) : Nat → Nat
  | 0 => 0
  | k + 1 => cum n k + V n k

theorem tN_in {n k p : Nat} (h : (p + 1) / 2 ≤ k) : tN n k p = V n (k - (p + 1) / 2) := if_pos h
theorem tN_out {n k p : Nat} (h : ¬ (p + 1) / 2 ≤ k) : tN n k p = 0 := if_neg h

theorem ahN_odd (n k : Nat) : ∀ m, m ≤ k → ahN n k (2 * m + 1) + 2 * cum n (k - m) = V n k + 2 * cum n k
  | 0, _ => by
    have e : ahN n k (2 * 0 + 1) = V n k := by
      show 0 + tN n k 0 = _
      rw [tN_in (by omega)]
      simp
    rw [e]
    rfl
  | m + 1, h => by
    have ih := ahN_odd n k m (by omega)
    have e : ahN n k (2 * (m + 1) + 1) = ahN n k (2 * m + 1) + tN n k (2 * m + 1) + tN n k (2 * m + 2) := rfl
    rw [e, tN_in (by omega), tN_in (by omega), show (2 * m + 1 + 1) / 2 = m + 1 from by omega, show (2 * m + 2 + 1) / 2 = m + 1 from by omega]
    have c : cum n (k - m) = cum n (k - (m + 1)) + V n (k - (m + 1)) := by
      rw [show k - m = (k - (m + 1)) + 1 from by omega]
      rfl
    omega

theorem top_is (n : Nat) (hn : n < 16) : ∀ k, k < 33 → V n k + 2 * cum n k = V (n + 1) k
  | 0, _ => by
    rw [V_zero n (by omega), V_zero (n + 1) (by omega)]
    rfl
  | k + 1, h => by
    have ih := top_is n hn k (by omega)
    have s := V_step n hn k (by omega)
    have c : cum n (k + 1) = cum n k + V n k := rfl
    omega
theorem ahN_top (n k : Nat) (hn : n < 16) (hk : k < 33) : ahN n k (2 * k + 1) = V (n + 1) k := by
  have h := ahN_odd n k k (Nat.le_refl _)
  have t := top_is n hn k hk
  rw [Nat.sub_self] at h
  have c : cum n 0 = 0 := rfl
  omega
theorem ahN_mono (n k : Nat) {p q : Nat} (h : p ≤ q) : ahN n k p ≤ ahN n k q := by
  induction q with
  | zero => obtain rfl : p = 0 := by omega
            exact Nat.le_refl _
  | succ q ih =>
    by_cases e : p = q + 1
    · subst e; exact Nat.le_refl _
    · exact Nat.le_trans (ih (by omega)) (Nat.le_add_right _ _)
theorem ahN_flat (n k d : Nat) : ahN n k (2 * k + 1 + d) = ahN n k (2 * k + 1) := by
  induction d with
  | zero => rfl
  | succ d ih =>
    show ahN n k (2 * k + 1 + d) + tN n k (2 * k + 1 + d) = _
    rw [ih, tN_out (by omega)]
    rfl
theorem ahN_le (n k p : Nat) (hn : n < 16) (hk : k < 33) : ahN n k p ≤ V (n + 1) k := by
  rw [← ahN_top n k hn hk]
  by_cases h : p ≤ 2 * k + 1
  · exact ahN_mono n k h
  · obtain ⟨d, rfl⟩ : ∃ d, p = 2 * k + 1 + d := ⟨p - (2 * k + 1), by omega⟩
    rw [ahN_flat]
    exact Nat.le_refl _

/-- A vector's pulses, and its rank. -/
def ms : List Int → Nat
  | [] => 0
  | x :: r => x.natAbs + ms r
def rkN : List Int → Nat
  | [] => 0
  | x :: r => ahN r.length (ms (x :: r)) (pl x) + rkN r

theorem pl_half (x : Int) : (pl x + 1) / 2 = x.natAbs := by
  unfold pl
  split <;> omega
theorem pl_inj {x y : Int} (h : pl x = pl y) : x = y := by rw [← sq_pl x, ← sq_pl y, h]
theorem sq_half (p : Nat) : (sq p).natAbs = (p + 1) / 2 := by
  unfold sq
  split <;> omega
theorem tN_rest (x : Int) (r : List Int) : tN r.length (ms (x :: r)) (pl x) = V r.length (ms r) := by
  have h := pl_half x
  have e : ms (x :: r) = x.natAbs + ms r := rfl
  rw [tN_in (by omega), h, e]
  congr 1
  omega
theorem rkN_lt : ∀ zs : List Int, zs.length ≤ 16 → ms zs ≤ 32 → rkN zs < V zs.length (ms zs)
  | [], _, _ => by decide +kernel
  | x :: r, h1, h2 => by
    have e : ms (x :: r) = x.natAbs + ms r := rfl
    have l : (x :: r).length = r.length + 1 := rfl
    have ih := rkN_lt r (by omega) (by omega)
    have a := ahN_le r.length (ms (x :: r)) (pl x + 1) (by omega) (by omega)
    have b : ahN r.length (ms (x :: r)) (pl x + 1) = ahN r.length (ms (x :: r)) (pl x) + V r.length (ms r) := by rw [← tN_rest]; rfl
    have c : rkN (x :: r) = ahN r.length (ms (x :: r)) (pl x) + rkN r := rfl
    rw [l]
    omega

theorem rk_first {x y : Int} {r s : List Int} (hl : r.length = s.length) (hm : ms (x :: r) = ms (y :: s)) (h1 : r.length < 16) (h2 : ms (x :: r) ≤ 32) (h : pl x < pl y) : rkN (x :: r) < rkN (y :: s) := by
  have e : ms (x :: r) = x.natAbs + ms r := rfl
  have ih := rkN_lt r (by omega) (by omega)
  have b : ahN r.length (ms (x :: r)) (pl x + 1) = ahN r.length (ms (x :: r)) (pl x) + V r.length (ms r) := by rw [← tN_rest]; rfl
  have c : rkN (x :: r) = ahN r.length (ms (x :: r)) (pl x) + rkN r := rfl
  have d : rkN (y :: s) = ahN r.length (ms (x :: r)) (pl y) + rkN s := by rw [hl, hm]; rfl
  have a := ahN_mono r.length (ms (x :: r)) (show pl x + 1 ≤ pl y from h)
  omega

/-- Which of two lists goes ahead. -/
def bef : List Int → List Int → Bool
  | x :: r, y :: s => if x = y then bef r s else decide (pl x < pl y)
  | _, _ => false
theorem bef_rk : ∀ xs ys : List Int, xs.length = ys.length → ms xs = ms ys → xs.length ≤ 16 → ms xs ≤ 32 → bef xs ys = decide (rkN xs < rkN ys)
  | [], [], _, _, _, _ => by decide
  | [], _ :: _, h, _, _, _ => by simp at h
  | _ :: _, [], h, _, _, _ => by simp at h
  | x :: r, y :: s, hl, hm, h1, h2 => by
    have hl' : r.length = s.length := by simpa using hl
    have l : (x :: r).length = r.length + 1 := rfl
    have e : ms (x :: r) = x.natAbs + ms r := rfl
    have e' : ms (y :: s) = y.natAbs + ms s := rfl
    unfold bef
    by_cases hxy : x = y
    · subst hxy
      rw [if_pos rfl, bef_rk r s hl' (by omega) (by omega) (by omega)]
      have c : rkN (x :: r) = ahN r.length (ms (x :: r)) (pl x) + rkN r := rfl
      have d : rkN (x :: s) = ahN r.length (ms (x :: r)) (pl x) + rkN s := by rw [hl', hm]; rfl
      rw [Bool.eq_iff_iff, decide_eq_true_eq, decide_eq_true_eq]
      omega
    · rw [if_neg hxy, Bool.eq_iff_iff, decide_eq_true_eq, decide_eq_true_eq]
      rcases Nat.lt_trichotomy (pl x) (pl y) with h | h | h
      · have := rk_first hl' hm (by omega) h2 h
        omega
      · exact absurd (pl_inj h) hxy
      · have := rk_first hl'.symm hm.symm (by omega) (by omega) h
        omega
theorem rk_inj : ∀ xs ys : List Int, xs.length = ys.length → ms xs = ms ys → xs.length ≤ 16 → ms xs ≤ 32 → rkN xs = rkN ys → xs = ys
  | [], [], _, _, _, _, _ => rfl
  | [], _ :: _, h, _, _, _, _ => by simp at h
  | _ :: _, [], h, _, _, _, _ => by simp at h
  | x :: r, y :: s, hl, hm, h1, h2, hr => by
    have hl' : r.length = s.length := by simpa using hl
    have l : (x :: r).length = r.length + 1 := rfl
    have e : ms (x :: r) = x.natAbs + ms r := rfl
    have e' : ms (y :: s) = y.natAbs + ms s := rfl
    rcases Nat.lt_trichotomy (pl x) (pl y) with h | h | h
    · have := rk_first hl' hm (by omega) h2 h
      omega
    · obtain rfl := pl_inj h
      have c : rkN (x :: r) = ahN r.length (ms (x :: r)) (pl x) + rkN r := rfl
      have d : rkN (x :: s) = ahN r.length (ms (x :: r)) (pl x) + rkN s := by rw [hl', hm]; rfl
      rw [rk_inj r s hl' (by omega) (by omega) (by omega) (by omega)]
    · have := rk_first hl'.symm hm.symm (by omega) (by omega) h
      omega

/-- The number of a rank: the place at which the search ends, and what is left of the rank. -/
def fd (n k : Nat) : Nat → Nat → Nat → Nat × Nat
  | 0, p, i => (p, i)
  | f + 1, p, i => if i < tN n k p then (p, i) else fd n k f (p + 1) (i - tN n k p)
def unr : Nat → Nat → Nat → List Int
  | 0, _, _ => []
  | n + 1, k, i => sq (fd n k (2 * k + 1) 0 i).1 :: unr n (k - ((fd n k (2 * k + 1) 0 i).1 + 1) / 2) (fd n k (2 * k + 1) 0 i).2

theorem fd_spec (n k : Nat) (hn : n < 16) (hk : k < 33) : ∀ f p i, f + p = 2 * k + 1 → ahN n k p + i < V (n + 1) k →
    (fd n k f p i).1 ≤ 2 * k ∧ ahN n k (fd n k f p i).1 + (fd n k f p i).2 = ahN n k p + i ∧ (fd n k f p i).2 < tN n k (fd n k f p i).1
  | 0, p, i, hf, h => by
    obtain rfl : p = 2 * k + 1 := by omega
    rw [ahN_top n k hn hk] at h
    omega
  | f + 1, p, i, hf, h => by
    unfold fd
    by_cases hi : i < tN n k p
    · rw [if_pos hi]
      exact ⟨by omega, rfl, hi⟩
    · rw [if_neg hi]
      have a : ahN n k (p + 1) = ahN n k p + tN n k p := rfl
      obtain ⟨h1, h2, h3⟩ := fd_spec n k hn hk f (p + 1) (i - tN n k p) (by omega) (by omega)
      exact ⟨h1, by omega, h3⟩
theorem fd_is {n k p i : Nat} (hn : n < 16) (hk : k < 33) (h1 : ahN n k p ≤ i) (h2 : i < ahN n k (p + 1)) : fd n k (2 * k + 1) 0 i = (p, i - ahN n k p) := by
  have hi : i < V (n + 1) k := Nat.lt_of_lt_of_le h2 (ahN_le n k (p + 1) hn hk)
  have z : ahN n k 0 = 0 := rfl
  obtain ⟨a, b, c⟩ := fd_spec n k hn hk (2 * k + 1) 0 i (by omega) (by omega)
  generalize hr : fd n k (2 * k + 1) 0 i = r at a b c
  obtain ⟨q, j⟩ := r
  simp only at a b c
  have s : ahN n k (q + 1) = ahN n k q + tN n k q := rfl
  have s' : ahN n k (p + 1) = ahN n k p + tN n k p := rfl
  rcases Nat.lt_trichotomy p q with h | h | h
  · have := ahN_mono n k (show p + 1 ≤ q from h)
    omega
  · subst h
    have : j = i - ahN n k p := by omega
    rw [this]
  · have := ahN_mono n k (show q + 1 ≤ p from h)
    omega
theorem unr_spec : ∀ n k i, n ≤ 16 → k ≤ 32 → i < V n k → (unr n k i).length = n ∧ ms (unr n k i) = k ∧ rkN (unr n k i) = i
  | 0, 0, i, _, _, h => by
    have : V 0 0 = 1 := V_zero 0 (by omega)
    exact ⟨rfl, rfl, by show 0 = i; omega⟩
  | 0, k + 1, i, _, hk, h => by
    have := V_none k (by omega)
    omega
  | n + 1, k, i, hn, hk, h => by
    have z : ahN n k 0 = 0 := rfl
    obtain ⟨a, b, c⟩ := fd_spec n k (by omega) (by omega) (2 * k + 1) 0 i (by omega) (by omega)
    have u : unr (n + 1) k i = sq (fd n k (2 * k + 1) 0 i).1 :: unr n (k - ((fd n k (2 * k + 1) 0 i).1 + 1) / 2) (fd n k (2 * k + 1) 0 i).2 := rfl
    rw [u]
    generalize fd n k (2 * k + 1) 0 i = r at a b c
    obtain ⟨p, j⟩ := r
    simp only at a b c ⊢
    have hp : (p + 1) / 2 ≤ k := by omega
    rw [tN_in hp] at c
    obtain ⟨h1, h2, h3⟩ := unr_spec n (k - (p + 1) / 2) j (by omega) (by omega) c
    have m : ms (sq p :: unr n (k - (p + 1) / 2) j) = k := by
      show (sq p).natAbs + ms _ = k
      rw [h2, sq_half]
      omega
    refine ⟨by simp [h1], m, ?_⟩
    show ahN (unr n (k - (p + 1) / 2) j).length (ms (sq p :: unr n (k - (p + 1) / 2) j)) (pl (sq p)) + rkN _ = i
    rw [h1, m, h3, pl_sq]
    omega
theorem unr_of : ∀ zs : List Int, zs.length ≤ 16 → ms zs ≤ 32 → unr zs.length (ms zs) (rkN zs) = zs := fun zs h1 h2 => by
  obtain ⟨a, b, c⟩ := unr_spec zs.length (ms zs) (rkN zs) h1 h2 (rkN_lt zs h1 h2)
  exact rk_inj _ _ a b (by omega) (by omega) c

/-- The program's sum, in 64 bits, is the count. -/
theorem VZ_tN (n k p : Nat) (hn : n ≤ 16) (hk : k ≤ 32) (hp : p ≤ 2000) : VZ (n : Int) ((k : Int) - mag (sq p)) = ((tN n k p : Nat) : Int) := by
  rw [mag_sq p hp]
  unfold tN
  by_cases h : (p + 1) / 2 ≤ k
  · rw [if_pos h, VZ_nat ⟨by omega, by omega, by omega, by omega⟩]
    rw [show ((k : Int) - (((p + 1) / 2 : Nat) : Int)).toNat = k - (p + 1) / 2 from by omega, Int.toNat_natCast]
  · rw [if_neg h, VZ_out (by unfold RightP; omega)]
    rfl
theorem aheadS_is (n k : Nat) (hn : n < 16) (hk : k ≤ 32) : ∀ p, p ≤ 2000 → aheadS ((n : Int) + 1) k p = ((ahN n k p : Nat) : Int)
  | 0, _ => rfl
  | p + 1, h => by
    have ih := aheadS_is n k hn hk p (by omega)
    have e : aheadS ((n : Int) + 1) k (p + 1) = IntKind.u64.wrap (aheadS ((n : Int) + 1) k p + VZ ((n : Int) + 1 - 1) (k - mag (sq p))) := rfl
    have l := ahN_le n k (p + 1) hn (by omega)
    have b := V_lt (n + 1) (by omega) k (by omega)
    have s : ahN n k (p + 1) = ahN n k p + tN n k p := rfl
    rw [e, ih, show (n : Int) + 1 - 1 = n from by omega, VZ_tN n k p (by omega) hk (by omega), IntKind.wrap_u64]
    omega
end Go.Proofs.Ytegjkognlfemgaa
