/- The contract of the reference's All: every vector of few numbers, in order. -/
import Derived.Test.YtegjkognlfemgaaRow
namespace Go.Proofs.Ytegjkognlfemgaa
open Go.RowKit

theorem info3 : (Try.prog.info? 3).map (fun i => (i.zero, i.size, i.bytes)) = some (some (.int .i64 0), 1, 8) := by kernel_rfl
theorem info40 : (Try.prog.info? 40).map (fun i => (i.zero, i.size, i.bytes)) = some (some (.slice none 0 0), 1, 24) := by kernel_rfl

def sg (m : Nat) (s : Nat) : Int := if s = 1 then -(m : Int) else m
/-- All vectors of n numbers and k pulses. -/
def allN : Nat → Nat → List (List Int)
  | 0, k => if k = 0 then [[]] else []
  | n + 1, k => (List.range (k + 1)).flatMap fun m => ((allN n (k - m)).map (sg m 0 :: ·)) ++ if m = 0 then [] else (allN n (k - m)).map (sg m 1 :: ·)
/-- .. those ahead of a first number of magnitude m, and sign s, and i of that. -/
def allA (n k m : Nat) : List (List Int) := (List.range m).flatMap fun m => ((allN n (k - m)).map (sg m 0 :: ·)) ++ if m = 0 then [] else (allN n (k - m)).map (sg m 1 :: ·)
def allB (n k m s : Nat) : List (List Int) := allA n k m ++ (if s = 0 then [] else (allN n (k - m)).map (sg m 0 :: ·) ++ if s = 1 then [] else if m = 0 then [] else (allN n (k - m)).map (sg m 1 :: ·))
def allC (n k m s i : Nat) : List (List Int) := allB n k m s ++ ((allN n (k - m)).take i).map (sg m s :: ·)
theorem allA_zero (n k : Nat) : allA n k 0 = [] := rfl
theorem allA_end (n k : Nat) : allA n k (k + 1) = allN (n + 1) k := rfl
theorem allB_zero (n k m : Nat) : allB n k m 0 = allA n k m := by simp [allB]
theorem allB_two (n k m : Nat) : allB n k m 2 = allA n k (m + 1) := by
  unfold allB allA
  rw [List.range_succ, List.flatMap_append]
  simp
theorem allB_skip (n k : Nat) : allB n k 0 1 = allB n k 0 2 := by simp [allB]
theorem allC_zero (n k m s : Nat) : allC n k m s 0 = allB n k m s := by simp [allC]
theorem allC_end0 (n k m : Nat) : allC n k m 0 (allN n (k - m)).length = allB n k m 1 := by simp [allC, allB]
theorem allC_end1 (n k m : Nat) (h : m ≠ 0) : allC n k m 1 (allN n (k - m)).length = allB n k m 2 := by simp [allC, allB, h]
theorem allC_succ (n k m s i : Nat) (h : i < (allN n (k - m)).length) : allC n k m s (i + 1) = allC n k m s i ++ [sg m s :: (allN n (k - m))[i]] := by
  unfold allC
  rw [List.take_add_one, List.getElem?_eq_getElem h, List.map_append, List.append_assoc]
  rfl
theorem allN_len : ∀ n, n < 5 → ∀ k, k < 6 → (allN n k).length = V n k := by decide +kernel
theorem allN_vec : ∀ n, n < 5 → ∀ k, k < 6 → ((allN n k).all fun v => v.length == n) = true := by decide +kernel

/-- A list of vectors, of blocks from base on. -/
def Lists (base : Nat) (w : World) (v : Value) (L : List (List Int)) : Prop :=
  ∃ vs : List Value, w.ownsRow base 40 1 v L.length vs ∧ ∀ j (h : j < L.length), ∃ x, vs[j]? = some x ∧ w.ownsRow base 3 1 x (L[j]).length ((L[j]).map (Value.int .i64))

theorem own_below {w w' : World} {base e size n : Nat} {v : Value} {xs : List Value} (h : w.ownsRow base e size v n xs) (hb : Below w.heap.size w w') : w'.ownsRow base e size v n xs := by
  obtain ⟨h1, h2⟩ := h
  refine ⟨h1, ?_⟩
  rcases h2 with h2 | ⟨g, cap, cur, rfl, hg, hh, h3⟩
  · exact .inl h2
  · exact .inr ⟨g, cap, cur, rfl, hg, (hb.block g (heap_lt hh)).trans hh, h3⟩
theorem own_mono {w : World} {base base' e size n : Nat} {v : Value} {xs : List Value} (h : w.ownsRow base e size v n xs) (hb : base' ≤ base) : w.ownsRow base' e size v n xs := by
  obtain ⟨h1, h2⟩ := h
  refine ⟨h1, ?_⟩
  rcases h2 with h2 | ⟨g, cap, cur, rfl, hg, h3⟩
  · exact .inl h2
  · exact .inr ⟨g, cap, cur, rfl, Nat.le_trans hb hg, h3⟩
theorem Lists.below {base : Nat} {w w' : World} {v : Value} {L : List (List Int)} (h : Lists base w v L) (hb : Below w.heap.size w w') : Lists base w' v L := by
  obtain ⟨vs, h1, h2⟩ := h
  exact ⟨vs, own_below h1 hb, fun j hj => by obtain ⟨x, hx, ho⟩ := h2 j hj; exact ⟨x, hx, own_below ho hb⟩⟩
theorem Lists.mono {base base' : Nat} {w : World} {v : Value} {L : List (List Int)} (h : Lists base w v L) (hb : base' ≤ base) : Lists base' w v L := by
  obtain ⟨vs, h1, h2⟩ := h
  exact ⟨vs, own_mono h1 hb, fun j hj => by obtain ⟨x, hx, ho⟩ := h2 j hj; exact ⟨x, hx, own_mono ho hb⟩⟩
theorem Lists.nil (base : Nat) (w : World) : Lists base w (.slice none 0 0) [] := ⟨[], World.ownsRow_nil _ _ _ _, fun _ h => by simp at h⟩

/-- A vector's block is none of a list's. -/
theorem own_other {w : World} {base base' n n' : Nat} {v v' : Value} {xs xs' : List Value} (h : w.ownsRow base 40 1 v n xs) (h' : w.ownsRow base' 3 1 v' n' xs') : v'.ownBlock = none ∨ v'.ownBlock ≠ v.ownBlock := by
  rcases h'.2 with ⟨rfl, _⟩ | ⟨g', cap', cur', rfl, _, hh', _⟩
  · exact .inl rfl
  · refine .inr fun e => ?_
    rcases h.2 with ⟨rfl, _⟩ | ⟨g, cap, cur, rfl, _, hh, _⟩
    · cases e
    · simp [Value.ownBlock] at e
      subst e
      rw [hh'] at hh
      cases hh

/-- A new vector behind the list. -/
theorem Lists.put {base : Nat} {w w' : World} {v v' x : Value} {L : List (List Int)} {z : List Int} {vs : List Value} (h1 : w.ownsRow base 40 1 v L.length vs)
    (h2 : ∀ j (h : j < L.length), ∃ x, vs[j]? = some x ∧ w.ownsRow base 3 1 x (L[j]).length ((L[j]).map (Value.int .i64)))
    (hx : w.ownsRow base 3 1 x z.length (z.map (Value.int .i64))) (hown : w'.ownsRow base 40 1 v' (L.length + 1) (vs ++ [x])) (hg : w.grownBy w' v.ownBlock) : Lists base w' v' (L ++ [z]) := by
  have hvl : vs.length = L.length := by have := h1.1; omega
  refine ⟨vs ++ [x], by rw [List.length_append]; exact hown, fun j hj => ?_⟩
  by_cases hlt : j < L.length
  · obtain ⟨y, hy, ho⟩ := h2 j hlt
    refine ⟨y, by rw [List.getElem?_append_left (by omega)]; exact hy, ?_⟩
    rw [List.getElem_append_left hlt]
    exact ho.kept hg (own_other h1 ho)
  · have : j = L.length := by simp at hj; omega
    subst this
    refine ⟨x, by rw [← hvl]; simp, ?_⟩
    simp
    simpa using hx.kept hg (own_other h1 hx)
end Go.Proofs.Ytegjkognlfemgaa
