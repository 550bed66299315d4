/- A region that draws its order, by an invariant of each of its operations. -/
import Derived.Test.YtmndafndopoelaaCan
import Derived.Orders
namespace Go.Proofs.Ytmndafndopoelaa
open Go.RowKit

theorem filter_lt {p q : Nat → Bool} : ∀ {l : List Nat} {i : Nat}, (∀ x, q x = true → p x = true) → i ∈ l → p i = true → q i = false → (l.filter q).length < (l.filter p).length
  | [], _, _, h, _, _ => by simp at h
  | x :: l, i, hqp, hi, hp, hq => by
    have hle : ∀ l : List Nat, (l.filter q).length ≤ (l.filter p).length := fun l => by
      induction l with
      | nil => simp
      | cons y l ih =>
        cases hy : q y with
        | true => simp [hy, hqp y hy, ih]
        | false => cases hz : p y <;> simp [hy, hz] <;> omega
    rcases List.mem_cons.1 hi with rfl | hi
    · simp only [List.filter_cons, hp, hq]
      have := hle l
      simp
      omega
    · have := filter_lt hqp hi hp hq
      cases hy : q x with
      | true => simpa [List.filter_cons, hy, hqp x hy] using this
      | false => cases hz : p x <;> simp [hy, hz] <;> omega

/-- The operations that are not listed yet. -/
def todo (n : Nat) (l : Array Bool) : Nat := ((List.range n).filter fun i => !l.getD i true).length

theorem wpAny_inv {P : Program} {md : Region.Mode} {ops : Array Oper} {Q : Exit → Act → World → Prop} (I : Array Bool → Act → World → Prop)
    (hend : ∀ l a w, Region.ready md ops l = [] → I l a w → Q .normal a w)
    (hstep : ∀ l a w i, i ∈ Region.ready md ops l → I l a w → ∀ (Q : Exit → Act → World → Prop) (K : Act → World → Prop), (∀ a w, I (l.setIfInBounds i true) a w → K a w) → wpOp P ops Q i K a w) :
    ∀ fuel l a w, l.size = ops.size → todo ops.size l ≤ fuel → I l a w → wpAny P md ops Q fuel l a w := by
  intro fuel
  induction fuel with
  | zero =>
    intro l a w hs ht hI
    have hr : Region.ready md ops l = [] := by
      unfold Region.ready
      rw [List.filter_eq_nil_iff]
      intro i hi
      have h0 : (List.range ops.size).filter (fun i => !l.getD i true) = [] := List.eq_nil_of_length_eq_zero (by unfold todo at ht; omega)
      rw [List.filter_eq_nil_iff] at h0
      have := h0 i hi
      simp only [Bool.and_eq_true]
      exact fun h => this h.1
    exact ⟨hr, hend _ _ _ hr hI⟩
  | succ fuel ih =>
    intro l a w hs ht hI
    refine ⟨fun h => hend _ _ _ h hI, fun i hi => hstep l a w i hi hI Q _ fun a' w' hI' => ih _ a' w' (by simpa using hs) ?_ hI'⟩
    have hi2 := hi
    unfold Region.ready at hi2
    rw [List.mem_filter] at hi2
    obtain ⟨h1, h2⟩ := hi2
    simp only [Bool.and_eq_true] at h2
    have hlt : i < l.size := by rw [hs]; simpa using h1
    have : todo ops.size (l.setIfInBounds i true) < todo ops.size l := by
      unfold todo
      refine filter_lt (fun x hx => ?_) h1 h2.1 (by simp [hlt])
      by_cases e : x = i
      · subst e; simp [hlt] at hx
      · have : (l.setIfInBounds i true).getD x true = l.getD x true := by
          simp [Array.getD_eq_getD_getElem?, Array.getElem?_setIfInBounds_ne (fun h => e h.symm)]
        rw [this] at hx
        exact hx
    omega

theorem wp_region_inv {P : Program} {ops : Array Oper} {Q : Exit → Act → World → Prop} {id : Nat} {a : Act} {w : World} (hm : P.follows .mixedOrders = true) (I : Array Bool → Act → World → Prop)
    (h0 : I (Array.replicate ops.size false) a w.drew)
    (hend : ∀ l a w, Region.ready .any ops l = [] → I l a w → Q .normal a w)
    (hstep : ∀ l a w i, i ∈ Region.ready .any ops l → I l a w → ∀ (Q : Exit → Act → World → Prop) (K : Act → World → Prop), (∀ a w, I (l.setIfInBounds i true) a w → K a w) → wpOp P ops Q i K a w) :
    (Code.region id ops true).wp P Q a w :=
  wp_region_any hm (wpAny_inv I hend hstep ops.size _ a _ (by simp) (by
    unfold todo
    have := List.length_filter_le (fun i => !(Array.replicate ops.size false).getD i true) (List.range ops.size)
    simpa using this) h0)

theorem wpOp_of {P : Program} {ops : Array Oper} {Q : Exit → Act → World → Prop} {K : Act → World → Prop} {a : Act} {w : World} {i : Nat} {o : Oper} (ho : ops[i]? = some o) (hg : o.guard = none) (h : o.wp P a w K Q) : wpOp P ops Q i K a w := by
  unfold wpOp
  rw [ho]
  simp only [Region.wanted, hg]
  exact Or.inl h
end Go.Proofs.Ytmndafndopoelaa
