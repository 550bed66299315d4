/- The law RankOrders: arguments opened; its walk. -/
import Derived.Test.YtegjkognlfemgaaRankT
import Derived.Test.YtegjkognlfemgaaRankL0
import Derived.OpenShut
import Derived.Deep.Slices
import Derived.Lib.SmallJoins
import Derived.Deep.QuietTactic
import Derived.BigQuiet
import Derived.Maps.AppendAt
import Derived.BigFrame
namespace Go.Proofs.Ytegjkognlfemgaa
open Go.RowKit
open Go.ChangeShapes Go.WideShapes Go.Joins

section
variable {H : Type} {enc : TypeId × Value → H} {w : World} {base b0 : Nat} {spare : Nat → Bool} {held : Bool} {r : Reach} {v : Value} {d : DataW H} {p : List MemPlace}
theorem okWide_arr {t e : TypeId} {n : Nat} (ht : Try.prog.underlying t = some (.array n e)) (h : Value.okWide Try.prog w r b0 t v) : ∃ cs, v = .agg cs ∧ cs.size = Try.prog.cellsOf t := by
  simp only [Value.okWide, ht] at h
  obtain ⟨cs, h1, h2, _⟩ := h
  exact ⟨cs, h1, h2⟩
theorem open_arr2 {t e : TypeId} {k : IntKind} (ht : Try.prog.underlying t = some (.array 2 e)) (he : Try.prog.underlying e = some (.int k)) (hc : Try.prog.cellsOf t = 2) (hc1 : Try.prog.cellsOf e = 1)
    (h : DataW.Trod enc Try.prog w base spare held t v d p) (hv : Value.okWide Try.prog w r b0 t v) : ∃ x y : Int, v = .agg #[.int k x, .int k y] ∧ (Lit.int k x).wf = true ∧ (Lit.int k y).wf = true := by
  obtain ⟨cs, rfl, hsz⟩ := okWide_arr ht hv
  rw [hc] at hsz
  obtain ⟨fuel, hf⟩ := h
  obtain ⟨xs, m, _, _, hl, hxl, hxe⟩ := DataW.trod_array ht hf
  rw [hc1] at hxe
  obtain ⟨c0, c1, rfl⟩ : ∃ c0 c1, cs = #[c0, c1] := array2 hsz
  have hcl : (Value.agg #[c0, c1]).cells.toList = [c0, c1] := rfl
  match xs, hxl with
  | [y0, y1], _ =>
    have g0 := hxe 0 (by omega)
    have g1 := hxe 1 (by omega)
    have g0' : DataW.trod enc Try.prog w base spare held m e [c0] = some y0 := by simpa [hcl] using g0
    have g1' : DataW.trod enc Try.prog w base spare held m e [c1] = some y1 := by simpa [hcl] using g1
    obtain ⟨z0, r0, -, w0⟩ := DataW.trod_int he g0'
    obtain ⟨z1, r1, -, w1⟩ := DataW.trod_int he g1'
    simp at r0 r1
    subst r0
    subst r1
    exact ⟨z0, z1, rfl, w0, w1⟩

/-- A slice of pairs of small numbers, as it lies in memory. -/
def IsP16 (w : World) (v : Value) (len : Nat) (f g : Nat → Int) : Prop :=
  ∃ A cap, v = .slice A len cap ∧ ∀ j, j < len → ∃ b off, A = some ⟨b, off, none⟩ ∧ len ≤ cap ∧ b < w.heap.size ∧ w.cell? ⟨b, off + j * 2, none⟩ = some (.int .i16 (f j)) ∧ w.cell? ⟨b, off + j * 2 + 1, none⟩ = some (.int .i16 (g j)) ∧
    (-32768 ≤ f j ∧ f j ≤ 32767) ∧ (-32768 ≤ g j ∧ g j ≤ 32767)
theorem open_p16 (h : DataW.Trod enc Try.prog w base spare held 61 v d p) (hv : Value.okWide Try.prog w r b0 61 v) : ∃ len f g, IsP16 w v len f g ∧ len ≤ 9223372036854775807 := by
  obtain ⟨a, len, cap, rfl⟩ := okWide_slice Try.underlying61 hv
  obtain ⟨fuel, hf⟩ := h
  rcases Go.Deep.open_slice Try.underlying61 hf with ⟨hcs, _⟩ | ⟨x, l, c, m, n, D, Pl, hcs, _, hl, hm, hmm, _, hx⟩
  · simp [Value.cells] at hcs
    obtain ⟨rfl, rfl, rfl⟩ := hcs
    exact ⟨0, fun _ => 0, fun _ => 0, ⟨none, 0, rfl, fun j hj => by omega⟩, by omega⟩
  · simp [Value.cells] at hcs
    obtain ⟨rfl, rfl, rfl⟩ := hcs
    have hlm : len ≤ m := by rw [hmm]; split <;> omega
    have each : ∀ i, i < m → ∃ q : Int × Int, w.cell? (x.add (i * 2)) = some (.int .i16 q.1) ∧ w.cell? (x.add (i * 2 + 1)) = some (.int .i16 q.2) ∧ (-32768 ≤ q.1 ∧ q.1 ≤ 32767) ∧ (-32768 ≤ q.2 ∧ q.2 ≤ 32767) := by
      intro i hi
      obtain ⟨cs, h1, h2⟩ := hx i hi
      have c63 : Try.prog.cellsOf 63 = 2 := by kernel_rfl
      have c62 : Try.prog.cellsOf 62 = 1 := by kernel_rfl
      rw [c63] at h1
      obtain ⟨_, hlen, hcell⟩ := World.cells?_some h1
      obtain ⟨xs, k, _, _, _, hxl, hxe⟩ := DataW.trod_array Try.underlying63 h2
      match cs, hlen, xs, hxl with
      | [v0, v1], _, [y0, y1], _ =>
        have g0 := hxe 0 (by omega)
        have g1 := hxe 1 (by omega)
        rw [c62] at g0 g1
        have e0 := hcell 0 (by omega)
        have e1 := hcell 1 (by omega)
        rw [Go.Deep.add_add] at e0 e1
        obtain ⟨z0, r0, -, w0⟩ := DataW.trod_int Try.underlying62 g0
        obtain ⟨z1, r1, -, w1⟩ := DataW.trod_int Try.underlying62 g1
        simp at r0 r1
        subst r0
        subst r1
        exact ⟨(z0, z1), by simpa using e0, by simpa using e1, bounds_i16 w0, bounds_i16 w1⟩
    obtain ⟨q, hq⟩ := Go.Deep.choose_lt each
    unfold maxLen at hm
    refine ⟨len, fun i => (q i).1, fun i => (q i).2, ⟨some x, cap, rfl, fun j hj => ?_⟩, by omega⟩
    obtain ⟨q0, q1, q2, q3⟩ := hq j (by omega)
    have hspot : x.spot = none := by simpa [Addr.add] using World.cell?_spot (hq 0 (by omega)).1
    obtain ⟨b, off, s⟩ := x
    simp only at hspot
    subst hspot
    rw [add_plain] at q0 q1
    refine ⟨b, off, rfl, hl, ?_, q0, q1, q2, q3⟩
    rcases Nat.lt_or_ge b w.heap.size with hb | hb
    · exact hb
    · simp [World.cell?, Array.getElem?_eq_none hb] at q0
end

/-- Which of two lists goes ahead, a number more at the end of each. -/
theorem bef_snoc : ∀ (P Q : List Int) (s t : Int), P.length = Q.length → bef (P ++ [s]) (Q ++ [t]) = if P = Q then (if s = t then false else decide (pl s < pl t)) else bef P Q
  | [], [], s, t, _ => by simp [bef]
  | [], _ :: _, _, _, h => by simp at h
  | _ :: _, [], _, _, h => by simp at h
  | x :: P, y :: Q, s, t, h => by
    have ih := bef_snoc P Q s t (by simpa using h)
    simp only [List.cons_append, bef]
    by_cases hxy : x = y
    · subst hxy
      rw [if_pos rfl, ih, if_pos rfl]
      simp
    · rw [if_neg hxy, if_neg hxy, if_neg (by simp [hxy])]

/-- What the rounds keep: two lists in blocks of their own. -/
structure OR (w : World) (B m : Nat) (P Q : List Int) (pv qv : Value) (W : World) : Prop where
  op : W.ownsRow B 3 1 pv m (P.map (Value.int .i64))
  oq : W.ownsRow B 3 1 qv m (Q.map (Value.int .i64))
  ne : qv.ownBlock = none ∨ qv.ownBlock ≠ pv.ownBlock
  below : Below w.heap.size w W
  BB : w.heap.size ≤ B
  Bl : B ≤ W.heap.size
  lp : P.length = m
  lq : Q.length = m
  wp : ∀ x ∈ P, -1000 ≤ x ∧ x ≤ 1000
  wq : ∀ x ∈ Q, -1000 ≤ x ∧ x ≤ 1000
theorem OR.step {w : World} {B m : Nat} {P Q : List Int} {pv qv : Value} {W W' : World} (h : OR w B m P Q pv qv W) (hb : Below W.heap.size W W') : OR w B m P Q pv qv W' := by
  obtain ⟨h1, h2, h3, h4, h5, h6, h7, h8, h9, h10⟩ := h
  have keep : ∀ {v : Value} {n : Nat} {xs : List Value}, W.ownsRow B 3 1 v n xs → W'.ownsRow B 3 1 v n xs := fun {v n xs} hh0 => by
    obtain ⟨k1, k2⟩ := hh0
    refine ⟨k1, ?_⟩
    rcases k2 with k2 | ⟨g, cap, cur, rfl, hg, hh, h3⟩
    · exact .inl k2
    · exact .inr ⟨g, cap, cur, rfl, hg, (hb.block g (heap_lt hh)).trans hh, h3⟩
  exact ⟨keep h1, keep h2, h3, Below.trans h4 (hb.mono h4.size), h5, Nat.le_trans h6 hb.size, h7, h8, h9, h10⟩
theorem belowOf {B : Nat} {a b : World} {row : Option Nat} (hg : a.grownBy b row) (hr : ∀ k, row = some k → B ≤ k) (hB : B ≤ a.heap.size) : Below B a b :=
  ⟨hg.os, hg.tape, hg.output, hg.size, fun i hi => hg.block i (by omega) (fun e => by have := hr i e.symm; omega)⟩
/-- The two appends. -/
theorem OR.two {w : World} {B m : Nat} {P Q : List Int} {pv qv pv' qv' : Value} {W W1 W2 : World} {s t : Int} {o1 o2 : Obj} (h : OR w B m P Q pv qv W) (hs : -1000 ≤ s ∧ s ≤ 1000) (ht : -1000 ≤ t ∧ t ≤ 1000)
    (op : W1.ownsRow B 3 1 pv' (m + 1) (P.map (Value.int .i64) ++ [.int .i64 s])) (g1 : (W.alloc o1).grownBy W1 pv.ownBlock) (a1 : pv'.ownBlock = pv.ownBlock ∨ pv'.ownBlock = some (W.heap.size + 1)) :
    W1.ownsRow B 3 1 qv m (Q.map (Value.int .i64)) ∧
    ((W2.ownsRow B 3 1 qv' (m + 1) (Q.map (Value.int .i64) ++ [.int .i64 t])) → (W1.alloc o2).grownBy W2 qv.ownBlock → (qv'.ownBlock = qv.ownBlock ∨ qv'.ownBlock = some (W1.heap.size + 1)) → OR w B (m + 1) (P ++ [s]) (Q ++ [t]) pv' qv' W2) := by
  obtain ⟨h1, h2, h3, h4, h5, h6, h7, h8, h9, h10⟩ := h
  have hqlt := h2.lt
  have hplt := h1.lt
  have q1 := (h2.alloc o1).kept g1 h3
  have s1 : W.heap.size < (W.alloc o1).heap.size := by simp
  have b1 : Below w.heap.size w W1 := Below.trans (h4.alloc h4.size o1) (belowOf g1 (fun k e => by have := (hplt k e).1; omega) (by simp; have := h4.size; omega))
  refine ⟨q1, fun oq g2 a2 => ?_⟩
  have hne : pv'.ownBlock = none ∨ pv'.ownBlock ≠ qv.ownBlock := by
    rcases a1 with e | e
    · rcases h3 with h | h
      · rcases hb : pv.ownBlock with _ | k
        · exact .inl (by rw [e, hb])
        · exact .inr (by rw [e, hb, h]; intro e2; cases e2)
      · exact .inr (by rw [e]; exact fun e2 => h e2.symm)
    · refine .inr (fun e2 => ?_)
      have := (hqlt _ (by rw [← e2, e])).2
      omega
  have p2 := (op.alloc o2).kept g2 hne
  have p2lt := op.lt
  refine ⟨by rw [List.map_append]; exact p2, by rw [List.map_append]; exact oq, ?_, Below.trans (b1.alloc b1.size o2) (belowOf g2 (fun k e => by have := (hqlt k e).1; omega) (by simp; have := b1.size; omega)), h5, ?_, by simp [h7], by simp [h8], ?_, ?_⟩
  · rcases a2 with e | e
    · rcases hne with hn | hn
      · rcases hb : qv.ownBlock with _ | k
        · exact .inl (by rw [e, hb])
        · exact .inr (by rw [e, hb, hn]; intro e2; cases e2)
      · exact .inr (by rw [e]; exact fun e2 => hn e2.symm)
    · refine .inr (fun e2 => ?_)
      have := (p2lt _ (by rw [← e2, e])).2
      have : W1.heap.size < (W1.alloc o2).heap.size := by simp
      omega
  · have := g1.size
    have := g2.size
    have : W1.heap.size < (W1.alloc o2).heap.size := by simp
    omega
  · intro x hx
    rcases List.mem_append.1 hx with h | h
    · exact h9 x h
    · simp at h; omega
  · intro x hx
    rcases List.mem_append.1 hx with h | h
    · exact h10 x h
    · simp at h; omega
theorem bef_same : ∀ P : List Int, bef P P = false
  | [] => rfl
  | x :: P => by simp [bef, bef_same P]
theorem within_of {P : List Int} (h : ∀ x ∈ P, -1000 ≤ x ∧ x ≤ 1000) : within P := fun j => by
  by_cases hj : j < P.length
  · exact h (P.getD j 0) (by simp [hj])
  · simp [show ¬ j < P.length from hj]
theorem new1 (W : World) (x : Value) (t : TypeId) : ∀ j u, [x][j]? = some u → (W.alloc (.cells #[x] t)).cell? ((⟨W.heap.size, 0, none⟩ : Addr).add j) = some u := by
  intro j u hj
  match j, hj with
  | 0, hj => simp at hj; subst hj; simp [Addr.add]
theorem one1 (x : Int) : ∀ u ∈ [Value.int .i64 x], u.oneCell' = true := by
  intro u hu; simp at hu; subst hu; rfl
theorem append_want {P : Program} {w : World} {ops : Array Oper} {rest : List Oper} {o : Oper} {a : Act} {Q : Exit → Act → World → Prop} (hw : Region.wanted o (yielded ops a.tmps) = true) (s x : Operand) (t : TypeId)
    (ho : o.op = .call { callee := .builtin .append, args := #[s, x], argTypes := #[t, t] })
    (base : Nat) (e : TypeId) (i : TypeInfo) (z : Value) (size bytes : Nat) (ht : P.underlying t = some (.slice e)) (hi : P.info? e = some i) (hz : i.zero = some z)
    (hsize : i.size = size) (hby : i.bytes = bytes) (hzs : z.cells.size = size) (hsz : 0 < size)
    (v : Value) (n : Nat) (xs : List Value) (hs : a.eval s = v) (hown : w.ownsRow base e size v n xs)
    (ad : Addr) (m c : Nat) (news : List Value) (hx : a.eval x = .slice (some ad) m c) (hl : news.length = m * size) (hnews : ∀ j u, news[j]? = some u → w.cell? (ad.add j) = some u) (h1 : ∀ u ∈ news, u.oneCell' = true)
    (h63 : n + m ≤ maxLen) (hbytes : (n + m) * bytes ≤ 140737488355328) (hbase : base ≤ w.heap.size)
    (h : ∀ v' w', w'.ownsRow base e size v' (n + m) (xs ++ news) → w.grownBy w' v.ownBlock → (v' = .slice none 0 0 ↔ v = .slice none 0 0 ∧ m = 0) → wpList P ops Q rest (a.put o.dst v') w') : wpList P ops Q (o :: rest) a w :=
  Go.BigFrame.wpList_want hw fun _ hK => wp_append_own w s x t ho base e i z size bytes ht hi hz hsize hby hzs hsz v n xs hs hown ad m c news hx hl hnews h1 h63 hbytes hbase fun v' w' h2 h3 h4 => hK _ _ (h v' w' h2 h3 h4)
theorem append_nil2 (g cap : Nat) (w : World) : (Builtin.append_ #[40, 40] 40 #[.slice (some ⟨g, 0, none⟩) 0 0, .slice none 0 cap]).run Try.prog w = .ok (.slice (some ⟨g, 0, none⟩) 0 0) w := by
  obtain ⟨i0, hti, ti0, ti1, ti2⟩ := info_parts infoI
  simp [Builtin.append_, run_underlying Try.underlying40, sizeOf, typeInfo, hti, Builtin.lenOf, Builtin.firstCells, storeCells]
/-- What of a vector an append reads. -/
structure Src2 (w : World) (ad : Addr) (zs : List Int) : Prop where
  l1 : ∀ j' u, (zs.map (Value.int .i64))[j']? = some u → (w.alloc (.cells #[] 3)).cell? (ad.add j') = some u
  l2 : ∀ u ∈ zs.map (Value.int .i64), u.oneCell' = true
  l0 : (zs.map (Value.int .i64)).length = zs.length * 1
theorem vec_src2 {w : World} {v : Value} {zs : List Int} (h : IsVec w v zs) : (∃ cap, v = .slice none 0 cap ∧ zs = []) ∨ ∃ ad cap, v = .slice (some ad) zs.length cap ∧ Src2 w ad zs := by
  have two : ∀ u ∈ zs.map (Value.int .i64), u.oneCell' = true := by intro u hu; simp at hu; obtain ⟨_, _, rfl⟩ := hu; rfl
  rcases h with ⟨ao, cap, rfl, rfl⟩ | ⟨b, off, cap, rfl, h1, h2, h3⟩
  · cases ao with
    | none => exact .inl ⟨cap, rfl, rfl⟩
    | some ad => exact .inr ⟨ad, cap, rfl, fun j' u hu => by simp at hu, two, rfl⟩
  · refine .inr ⟨_, cap, rfl, fun j' u hu => ?_, two, by simp⟩
    rw [add_plain]
    have hj : j' < zs.length := by
      have := (List.getElem?_eq_some_iff.1 hu).1
      simpa using this
    refine ((belowAlloc w _).cell (p := ⟨b, off + j', none⟩) h2).trans ?_
    rw [h3 j' hj, ← hu]
    simp [hj]
theorem tmod_small (x : Int) (_h : -32768 ≤ x ∧ x ≤ 32767) : -1000 ≤ x.tmod 1001 ∧ x.tmod 1001 ≤ 1000 := by
  have h1 := Int.tmod_lt_of_pos x (show (0 : Int) < 1001 by omega)
  have h2 := Int.lt_tmod_of_pos x (show (0 : Int) < 1001 by omega)
  omega

set_option maxRecDepth 100000 in
set_option maxHeartbeats 16000000 in
theorem rankOrders_walk (p q : Int) (hp : 0 ≤ p ∧ p ≤ 255) (hq : 0 ≤ q ∧ q ≤ 255) (i j : Int) (hi : 0 ≤ i ∧ i ≤ 18446744073709551615) (hj : 0 ≤ j ∧ j ≤ 18446744073709551615) (v : Value) (len : Nat) (f g : Nat → Int) (hlen : len ≤ 9223372036854775807)
    (w : World) (hv : IsP16 w v len f g) :
    Calls Try.prog 15 #[.agg #[.int .u8 p, .int .u8 q], .agg #[.int .u64 i, .int .u64 j], v] w fun e w' => e = .returned (.bool true) ∧ Below w.heap.size w w' := by
  obtain ⟨AL, capL, rfl, hat⟩ := hv
  replace hat := Lib.hid hat
  by_cases h60 : 60 < len
  · go_enter Try.func15, Try.ntmps15
    go_wp2_with fail
    refine (awake11 _).mono ?_
    rintro e w0 ⟨rfl, b0⟩
    have bw := Lib.hid (Below.trans (((Below.refl w.heap.size w).alloc (Nat.le_refl _) (.cells #[.int .u8 p, .int .u8 q] 59)).alloc (by simp) (.cells #[.int .u64 i, .int .u64 j] 60)) (b0.mono (by simp; omega)))
    clear b0
    go_wp2_with fail
    go_ret
    exact ⟨rfl, bw.out⟩
  · have hd60 : decide (60 < (len : Int)) = false := by simp; omega
    have hd60n : decide (60 < len) = false := by simp; omega
    have hl60 : len ≤ 60 := by omega
    clear h60
    go_enter Try.func15, Try.ntmps15
    go_wp2_with fail
    refine (awake11 _).mono ?_
    rintro e w0 ⟨rfl, b0⟩
    have hA1 := heap_keep (o := .cells #[.int .u64 i, .int .u64 j] 60) (heap_last w (.cells #[.int .u8 p, .int .u8 q] 59) rfl)
    have hA2 := heap_last (w.alloc (.cells #[.int .u8 p, .int .u8 q] 59)) (.cells #[.int .u64 i, .int .u64 j] 60) rfl
    have e3 : (w.alloc (.cells #[.int .u8 p, .int .u8 q] 59)).heap.size = w.heap.size + 1 := by simp
    rw [e3] at hA2
    have hB1 := (b0.block w.heap.size (by simp; omega)).trans hA1
    have hB2 := (b0.block (w.heap.size + 1) (by simp)).trans hA2
    have bw := Lib.hid (Below.trans (((Below.refl w.heap.size w).alloc (Nat.le_refl _) (.cells #[.int .u8 p, .int .u8 q] 59)).alloc (by simp) (.cells #[.int .u64 i, .int .u64 j] 60)) (b0.mono (by simp; omega)))
    clear hA1 hA2 e3
    go_wp2_with fail
    refine (new_any _).mono ?_
    rintro e w1 ⟨rfl, f1⟩
    have hlt : w.heap.size + 1 < w0.heap.size := by have := b0.size; simp at this; omega
    have hC1 := (f1.below.block w.heap.size (by omega)).trans hB1
    have hC2 := (f1.below.block (w.heap.size + 1) hlt).trans hB2
    have c0 : w1.cell? ⟨w.heap.size, 0, none⟩ = some (.int .u8 p) := cellOf hC1 0
    have c1 : w1.cell? ⟨w.heap.size, 1, none⟩ = some (.int .u8 q) := cellOf hC1 1
    have c2 : w1.cell? ⟨w.heap.size + 1, 0, none⟩ = some (.int .u64 i) := cellOf hC2 0
    have c3 : w1.cell? ⟨w.heap.size + 1, 1, none⟩ = some (.int .u64 j) := cellOf hC2 1
    replace f1 := Lib.hid f1
    clear b0 hB1 hB2 hC1 hC2 hlt
    obtain ⟨x, hx, x1, x2⟩ := u8_rem p 16 hp.1 (by omega)
    obtain ⟨y, hy, y1, y2⟩ := u8_rem q 33 hq.1 (by omega)
    obtain ⟨A, hA⟩ : ∃ A : Nat, 1 + x = (A : Int) := ⟨(1 + x).toNat, by omega⟩
    obtain ⟨C, rfl⟩ := Int.eq_ofNat_of_zero_le y1
    have hA1 : 1 ≤ A := by omega
    have hA2 : A ≤ 16 := by omega
    have hC2 : C ≤ 32 := by omega
    have e1 : IntKind.i64.wrap p = p := by rw [IntKind.wrap_i64]; omega
    have e2 : IntKind.i64.wrap q = q := by rw [IntKind.wrap_i64]; omega
    have e3 : IntKind.i64.wrap x = x := by rw [IntKind.wrap_i64]; omega
    have e4 : IntKind.i64.wrap (C : Int) = (C : Int) := by rw [IntKind.wrap_i64]; omega
    have e5 : IntKind.i64.wrap (A : Int) = (A : Int) := by rw [IntKind.wrap_i64]; omega
    go_wp2_with fail
    go_quiet (fail)
    obtain ⟨w2, hw2⟩ : ∃ w2, w2 = w1.drewN nq := ⟨_, rfl⟩
    rw [← hw2]
    have c0 : w2.cell? ⟨w.heap.size, 0, none⟩ = some (.int .u8 p) := by rw [hw2]; exact c0
    have c1 : w2.cell? ⟨w.heap.size, 1, none⟩ = some (.int .u8 q) := by rw [hw2]; exact c1
    have f2 : Hid (Fresh w0.heap.size w0 w2 _ _ _) := Lib.hid (by rw [hw2]; exact f1.out.drewN _)
    clear hw2 f1
    go_wp2_with fail
    go_quiet (fail)
    obtain ⟨w3, hw3⟩ : ∃ w3, w3 = w2.drewN nq := ⟨_, rfl⟩
    rw [← hw3]
    have f3 : Hid (Fresh w0.heap.size w0 w3 _ _ _) := Lib.hid (by rw [hw3]; exact f2.out.drewN _)
    clear hw3 f2 c0 c1 c2 c3 e1 e2 e3 e4 e5 hx hy
    have hVp : 0 < V A C := by
      obtain ⟨a, rfl⟩ : ∃ a, A = a + 1 := ⟨A - 1, by omega⟩
      exact V_posn a (by omega) C (by omega)
    have hVb := V_lt A (by omega) C (by omega)
    obtain ⟨T, hT⟩ : ∃ T, T = V A C := ⟨_, rfl⟩
    rw [← hT] at hVp hVb
    obtain ⟨I, hI⟩ : ∃ I : Nat, i % (T : Int) = (I : Int) := ⟨(i % (T : Int)).toNat, by have := Int.emod_nonneg i (show (T : Int) ≠ 0 by omega); omega⟩
    have hIT : I < T := by have := Int.emod_lt_of_pos i (show (0 : Int) < T by omega); omega
    obtain ⟨J, hJ⟩ : ∃ J : Nat, j % (T : Int) = (J : Int) := ⟨(j % (T : Int)).toNat, by have := Int.emod_nonneg j (show (T : Int) ≠ 0 by omega); omega⟩
    have hJT : J < T := by have := Int.emod_lt_of_pos j (show (0 : Int) < T by omega); omega
    have hIV : I < V A C := by rw [← hT]; exact hIT
    have hJV : J < V A C := by rw [← hT]; exact hJT
    have hT0 : (T == 0) = false := by simp; omega
    have hT0i : ((T : Int) == 0) = false := by simp; omega
    have sx := unr_small0 hA2 hC2 hIV
    have sy := unr_small0 hA2 hC2 hJV
    have lx := (unr_spec A C I hA2 hC2 hIV).1
    have ly := (unr_spec A C J hA2 hC2 hJV).1
    have b1 := bef_unr0 hA2 hC2 hIV hJV
    have b2 := bef_unr0 hA2 hC2 hJV hIV
    have cV := Lib.hid (fun w gb gm (h : BookAt w gb gm) a b ha hb => h.askV A C hA2 hC2 a b ha hb)
    have cI := Lib.hid (fun w gb gm hF n' k' i' e1 e2 e3 => unrankB A C I hA2 hC2 hIV w gb gm hF n' k' i' e1 e2 e3)
    have cJ := Lib.hid (fun w gb gm hF n' k' i' e1 e2 e3 => unrankB A C J hA2 hC2 hJV w gb gm hF n' k' i' e1 e2 e3)
    have cxy := Lib.hid (fun v v2 w h1 h2 => before_any (unr A C I) (unr A C J) (small_within0 sx) (small_within0 sy) (by omega) (by omega) v v2 w h1 h2)
    have cyx := Lib.hid (fun v v2 w h1 h2 => before_any (unr A C J) (unr A C I) (small_within0 sy) (small_within0 sx) (by omega) (by omega) v v2 w h1 h2)
    rw [b1] at cxy
    rw [b2] at cyx
    rw [← hT] at cV
    obtain ⟨X, hX⟩ : ∃ X, X = unr A C I := ⟨_, rfl⟩
    obtain ⟨Y, hY⟩ : ∃ Y, Y = unr A C J := ⟨_, rfl⟩
    rw [← hX] at cI cxy cyx lx
    rw [← hY] at cJ cxy cyx ly
    replace lx := Lib.hid lx
    replace ly := Lib.hid ly
    clear hX hY sx sy b1 b2 hIV hJV hT
    go_wp2_with fail
    with_reducible refine Calls.mono (cV.out _ _ _ f3.out.at_ _ _ (by omega) (by omega)) ?_
    rintro e w4 ⟨rfl, b4, g4⟩
    obtain ⟨S4, f4⟩ := f3.out.grow b4 g4
    replace f4 := Lib.hid f4
    clear b4 g4 f3
    go_wp2_with fail
    with_reducible refine Calls.mono (cI.out _ _ _ f4.out.at_ _ _ _ (by omega) (by omega) (by omega)) ?_
    rintro e w5 ⟨vx, rfl, ox, b5, g5⟩
    have hvx := own_vec lx.out.symm ox
    obtain ⟨S5, f5⟩ := f4.out.grow b5 g5
    replace f5 := Lib.hid f5
    replace hvx := Lib.hid hvx
    clear b5 g5 f4 ox
    go_wp2_with fail
    with_reducible refine Calls.mono (cJ.out _ _ _ f5.out.at_ _ _ _ (by omega) (by omega) (by omega)) ?_
    rintro e w6 ⟨vy, rfl, oy, b6, g6⟩
    have hvy := Lib.hid (own_vec ly.out.symm oy)
    replace hvx := Lib.hid (hvx.out.grown f5.out.at_ g6)
    obtain ⟨S6, f6⟩ := f5.out.grow b6 g6
    have bw6 := Lib.hid (Below.trans bw.out (f6.below.mono bw.out.size))
    replace f6 := Lib.hid f6
    clear b6 g6 f5 oy bw
    have tI : i.tmod (T : Int) = (I : Int) := by rw [Int.tmod_eq_emod_of_nonneg hi.1]; exact hI
    have tJ : j.tmod (T : Int) = (J : Int) := by rw [Int.tmod_eq_emod_of_nonneg hj.1]; exact hJ
    have uI : IntKind.u64.wrap (I : Int) = (I : Int) := by rw [IntKind.wrap_u64]; omega
    have uJ : IntKind.u64.wrap (J : Int) = (J : Int) := by rw [IntKind.wrap_u64]; omega
    have kxy := fun n => cxy.out vx vy (w6.drewN n) (hvx.out.below (below_drewN (Below.refl _ _) n)) (hvy.out.below (below_drewN (Below.refl _ _) n))
    have kyx := fun n => cyx.out vy vx (w6.drewN n) (hvy.out.below (below_drewN (Below.refl _ _) n)) (hvx.out.below (below_drewN (Below.refl _ _) n))
    obtain ⟨B1, hB1⟩ : ∃ B, decide (I < J) = B := ⟨_, rfl⟩
    obtain ⟨B2, hB2⟩ : ∃ B, decide (J < I) = B := ⟨_, rfl⟩
    have hB1i : decide ((I : Int) < (J : Int)) = B1 := by rw [← hB1]; simp
    have hB2i : decide ((J : Int) < (I : Int)) = B2 := by rw [← hB2]; simp
    rw [hB1] at kxy
    rw [hB2] at kyx
    have nn : ∀ b : Bool, (b != b) = false := by decide
    clear cxy cyx hvx hvy
    go_wp2_with fail
    go_quiet ((first | (go_at_call 35; with_reducible exact Calls.quiet_of (kxy _)) | (go_at_call 35; with_reducible exact Calls.quiet_of (kyx _))))
    obtain ⟨w7, hw7⟩ : ∃ w7, w7 = w6.drewN nq := ⟨_, rfl⟩
    rw [← hw7]
    have bw7 : Hid (Below w.heap.size w w7) := Lib.hid (by rw [hw7]; exact below_drewN bw6.out _)
    clear hw7 bw6 f6 kxy kyx tI tJ uI uJ hB1 hB2 hB1i hB2i nn hI hJ cV cI cJ
    have hR0 : OR w w7.heap.size 0 [] [] (.slice none 0 0) (.slice none 0 0) w7 :=
      ⟨World.ownsRow_nil _ _ _ _, World.ownsRow_nil _ _ _ _, .inl rfl, bw7.out, bw7.out.size, Nat.le_refl _, rfl, rfl, by simp, by simp⟩
    replace hR0 := Lib.hid hR0
    obtain ⟨B0, hB0⟩ : ∃ B0, B0 = w7.heap.size := ⟨_, rfl⟩
    rw [← hB0] at hR0
    clear hB0
    go_wp2_with fail
    go_loopw [17, 18, 19, 20, 104] (fun pv qv wt kn ix wr => ∃ m P Q, m ≤ len ∧ ix = .int .i64 (m : Nat) ∧ wt = .bool (bef P Q) ∧ kn = .bool (decide (P ≠ Q)) ∧ OR w B0 m P Q pv qv wr) (fun _ _ _ _ ix _ => len - (intOf ix).toNat)
    case atStart => exact ⟨0, [], [], by omega, rfl, rfl, by simp, hR0.out⟩
    case round =>
      clear hR0
      obtain ⟨m, P, Q, hm, rfl, rfl, rfl, hR⟩ := hrel
      by_cases hl : m < len
      · obtain ⟨b, off, rfl, hcap, hbl, q0, q1, q2, q3⟩ := hat.out m hl
        have r0 : wr.cell? ⟨b, off + m * 2, none⟩ = some (.int .i16 (f m)) := (hR.below.cell (p := ⟨b, off + m * 2, none⟩) hbl).trans q0
        have r1 : wr.cell? ⟨b, off + m * 2 + 1, none⟩ = some (.int .i16 (g m)) := (hR.below.cell (p := ⟨b, off + m * 2 + 1, none⟩) hbl).trans q1
        obtain ⟨z0, hz0⟩ : ∃ z, z = f m := ⟨_, rfl⟩
        obtain ⟨z1, hz1⟩ : ∃ z, z = g m := ⟨_, rfl⟩
        rw [← hz0] at r0 q2
        rw [← hz1] at r1 q3
        obtain ⟨s, hs⟩ : ∃ s, z0.tmod 1001 = s := ⟨_, rfl⟩
        obtain ⟨t, ht⟩ : ∃ t, z1.tmod 1001 = t := ⟨_, rfl⟩
        have hsb : -1000 ≤ s ∧ s ≤ 1000 := by rw [← hs]; exact tmod_small z0 q2
        have htb : -1000 ≤ t ∧ t ≤ 1000 := by rw [← ht]; exact tmod_small z1 q3
        have u1 : IntKind.i64.wrap z0 = z0 := by rw [IntKind.wrap_i64]; omega
        have u2 : IntKind.i64.wrap z1 = z1 := by rw [IntKind.wrap_i64]; omega
        have u3 : IntKind.i64.wrap s = s := by rw [IntKind.wrap_i64]; omega
        have u4 : IntKind.i64.wrap t = t := by rw [IntKind.wrap_i64]; omega
        replace hR := Lib.hid hR
        obtain ⟨K, hK⟩ : ∃ K, decide (P ≠ Q) = K := ⟨_, rfl⟩
        obtain ⟨Wt, hWt⟩ : ∃ Wt, bef P Q = Wt := ⟨_, rfl⟩
        rw [hK, hWt]
        replace hK := Lib.hid hK
        replace hWt := Lib.hid hWt
        clear q0 q1 hz0 hz1 hbl
        go_wp2_with fail
        trace "B"
        go_quiet (fail)
        obtain ⟨wA, hwA⟩ : ∃ wA, wA = (wr.alloc (.cells #[.int .i16 z0, .int .i16 z1] 63)).drewN nq := ⟨_, rfl⟩
        rw [← hwA]
        have hRA : Hid (OR w B0 m P Q _ _ wA) := Lib.hid (by rw [hwA]; exact (hR.out.step (belowAlloc wr _)).step (below_drewN (Below.refl _ _) nq))
        have hBA := hRA.out.Bl
        have hmm : m = P.length := hRA.out.lp.symm
        replace hmm := Lib.hid hmm
        obtain ⟨i0, hti, ti0, ti1, ti2⟩ := info_parts infoI
        have l3 : Hid (m + 1 ≤ maxLen) := Lib.hid (by unfold maxLen; omega)
        have l4 : Hid ((m + 1) * 8 ≤ 140737488355328) := Lib.hid (by omega)
        have l5 : Hid (B0 ≤ (wA.alloc (.cells #[.int .i64 s] 3)).heap.size) := Lib.hid (by simp; omega)
        have n1 := Lib.hid (new1 wA (.int .i64 s) 3)
        have n2 := Lib.hid (one1 s)
        have n4 := Lib.hid (one1 t)
        clear hwA hR r0 r1 u1 u2 u3 u4 hs ht q2 q3
        go_wp2_with (at_builtin; refine wpList_append_own_at _ rfl (.tmp 116) (.tmp 118) 40 rfl B0 3 i0 (.int .i64 0) 1 8 Try.underlying40 hti ti0 ti1 ti2 rfl (by decide) _ _ _ rfl (hRA.out.op.alloc _) ⟨wA.heap.size, 0, none⟩ 1 1 [.int .i64 s] rfl rfl n1.out n2.out l3.out l4.out l5.out ?_)
        intro pv' w8 op8 g8 _ a8
        obtain ⟨oq8, fin8⟩ := OR.two (W2 := w8) (qv' := pv') (o2 := .cells #[.int .i64 t] 3) hRA.out hsb htb op8 g8 a8
        have fin9 := Lib.hid (fun W2 qv' => (OR.two (W2 := W2) (qv' := qv') (o2 := .cells #[.int .i64 t] 3) hRA.out hsb htb op8 g8 a8).2)
        have hs8 : B0 ≤ w8.heap.size := by have := g8.size; simp at this; omega
        have l6 : Hid (B0 ≤ (w8.alloc (.cells #[.int .i64 t] 3)).heap.size) := Lib.hid (by simp; omega)
        have n3 := Lib.hid (new1 w8 (.int .i64 t) 3)
        replace oq8 := Lib.hid oq8
        clear fin8 op8 g8 a8 hRA l5 n1 n2
        go_wp2_with (at_builtin; refine wpList_append_own_at _ rfl (.tmp 120) (.tmp 122) 40 rfl B0 3 i0 (.int .i64 0) 1 8 Try.underlying40 hti ti0 ti1 ti2 rfl (by decide) _ _ _ rfl (oq8.out.alloc _) ⟨w8.heap.size, 0, none⟩ 1 1 [.int .i64 t] rfl rfl n3.out n4.out l3.out l4.out l6.out ?_)
        intro qv' w9 oq9 g9 _ a9
        have hR9 := Lib.hid (fin9.out w9 qv' oq9 g9 a9)
        have hbs := Lib.hid (bef_snoc P Q s t (by have := hR9.out.lp; have := hR9.out.lq; simp at *; omega))
        clear oq9 g9 a9 fin9 oq8 l3 l4 l6 n3 n4
        cases K with
        | true =>
          as_aux_lemma =>
            have hPQ : P ≠ Q := by have := hK.out; simpa using this
            have e1 : bef (P ++ [s]) (Q ++ [t]) = Wt := by rw [hbs.out, if_neg hPQ, hWt.out]
            have e2 : decide (P ++ [s] ≠ Q ++ [t]) = true := by simp [hPQ]
            replace e1 := Lib.hid e1
            replace e2 := Lib.hid e2
            clear hPQ
            go_wp2_with fail
            exact ⟨⟨m + 1, P ++ [s], Q ++ [t], by omega, by go_num, by rw [e1.out], by rw [e2.out], hR9.out⟩, by simp [intOf]; omega⟩
        | false =>
          have hPQ : P = Q := by have := hK.out; simpa using this
          have hWf : Wt = false := by rw [← hWt.out, hPQ]; exact bef_same Q
          by_cases hst : s = t
          · as_aux_lemma =>
              have e1 : bef (P ++ [s]) (Q ++ [t]) = Wt := by rw [hbs.out, if_pos hPQ, if_pos hst, hWf]
              have e2 : decide (P ++ [s] ≠ Q ++ [t]) = false := by simp [hPQ, hst]
              replace e1 := Lib.hid e1
              replace e2 := Lib.hid e2
              have hn1 : (s == t) = true := by simpa using hst
              have hn2 : (s != t) = false := by simpa using hst
              replace hst := Lib.hid hst
              clear hPQ hWf
              go_wp2_with fail
              exact ⟨⟨m + 1, P ++ [s], Q ++ [t], by omega, by go_num, by rw [e1.out], by rw [e2.out], hR9.out⟩, by simp [intOf]; omega⟩
          · as_aux_lemma =>
              have e1 : bef (P ++ [s]) (Q ++ [t]) = decide (pl s < pl t) := by rw [hbs.out, if_pos hPQ, if_neg hst]
              have e2 : decide (P ++ [s] ≠ Q ++ [t]) = true := by simp [hPQ, hst]
              replace e1 := Lib.hid e1
              replace e2 := Lib.hid e2
              have hn1 : (s == t) = false := by simpa using hst
              have hn2 : (s != t) = true := by simpa using hst
              have cs := fun w => place_any s hsb w
              have ct := fun w => place_any t htb w
              obtain ⟨Ps, hPs⟩ : ∃ x, x = pl s := ⟨_, rfl⟩
              obtain ⟨Pt, hPt⟩ : ∃ x, x = pl t := ⟨_, rfl⟩
              rw [← hPs] at cs e1
              rw [← hPt] at ct e1
              clear hPQ hWf hst hPs hPt
              go_wp2_with fail
              with_reducible refine Calls.mono (cs _) ?_
              rintro e wz ⟨rfl, rfl⟩
              go_wp2_with fail
              with_reducible refine Calls.mono (ct _) ?_
              rintro e wz ⟨rfl, rfl⟩
              go_wp2_with fail
              exact ⟨⟨m + 1, P ++ [s], Q ++ [t], by omega, by go_num, by rw [e1.out]; try go_num, by rw [e2.out], hR9.out⟩, by simp [intOf]; omega⟩
      · obtain rfl : m = len := by omega
        have hvp := own_vec hR.lp.symm hR.op
        have hvq := own_vec hR.lq.symm hR.oq
        have hlq := Lib.hid hR.lq
        have hbl := Lib.hid hR.below
        have c1 := Lib.hid (fun v v2 w h1 h2 => before_any P Q (within_of hR.wp) (within_of hR.wq) (by have := hR.lp; omega) (by have := hR.lq; omega) v v2 w h1 h2)
        have c2 := Lib.hid (fun v v2 w h1 h2 => before_any P (Q ++ [1]) (within_of hR.wp) (within_of (by
          intro x hx
          rcases List.mem_append.1 hx with h | h
          · exact hR.wq x h
          · simp at h; omega)) (by have := hR.lp; omega) (by have := hR.lq; simp; omega) v v2 w h1 h2)
        have e1 : befL P Q = bef P Q := by unfold befL; rw [hR.lp, hR.lq]; simp
        have e2 : befL P (Q ++ [1]) = false := by unfold befL; rw [hR.lp, List.length_append, hR.lq]; simp
        rw [e1] at c1
        rw [e2] at c2
        obtain ⟨Wt, hWt⟩ : ∃ Wt, Wt = bef P Q := ⟨_, rfl⟩
        rw [← hWt] at c1 ⊢
        have nb : ∀ b : Bool, (b == b) = true := by decide
        replace hvp := Lib.hid hvp
        replace hvq := Lib.hid hvq
        clear e1 e2 hWt hR
        go_wp2_with fail
        with_reducible refine Calls.mono (c1.out _ _ _ hvp.out hvq.out) ?_
        rintro e wz ⟨rfl, d1, rfl⟩
        obtain ⟨wB, hwB⟩ : ∃ wB, wB = wr.drewN d1 := ⟨_, rfl⟩
        rw [← hwB]
        replace hvp : Hid (IsVec wB _ P) := Lib.hid (by rw [hwB]; exact hvp.out.below (below_drewN (Below.refl _ _) d1))
        replace hvq : Hid (IsVec wB _ Q) := Lib.hid (by rw [hwB]; exact hvq.out.below (below_drewN (Below.refl _ _) d1))
        have bwB : Hid (Below w.heap.size w wB) := Lib.hid (by rw [hwB]; exact below_drewN hbl.out d1)
        clear hwB c1 hbl
        have hsrc := vec_src2 hvq.out
        rcases hsrc with ⟨cap', rfl, hQ⟩ | ⟨ad, cap', rfl, hS⟩
        · as_aux_lemma =>
            have hm0 : m = 0 := by have := hlq.out; rw [hQ] at this; simpa using this.symm
            have hrun := append_nil2 wB.heap.size cap' (wB.alloc (.cells #[] 3))
            have k1 : (wB.alloc (.cells #[] 3)).ownsRow wB.heap.size 3 1 (.slice (some ⟨wB.heap.size, 0, none⟩) 0 0) m (Q.map (Value.int .i64)) := by rw [hQ, hm0]; exact own_empty wB _ (Nat.le_refl _)
            have k2 := belowAlloc wB (.cells #[] 3)
            obtain ⟨w9, hw9⟩ : ∃ w9, wB.alloc (.cells #[] 3) = w9 := ⟨_, rfl⟩
            rw [hw9] at hrun k1 k2
            replace k1 := Lib.hid k1
            replace k2 := Lib.hid k2
            replace hQ := Lib.hid hQ
            replace hm0 := Lib.hid hm0
            have hlm : m + 1 ≤ 61 := by omega
            clear hvq
            obtain ⟨i0, hti, ti0, ti1, ti2⟩ := info_parts infoI
            have l3 : Hid (m + 1 ≤ maxLen) := Lib.hid (by unfold maxLen; omega)
            have l4 : Hid ((m + 1) * 8 ≤ 140737488355328) := Lib.hid (by omega)
            have l5 : Hid (wB.heap.size ≤ (w9.alloc (.cells #[.int .i64 1] 3)).heap.size) := Lib.hid (by have := k2.out.size; simp; omega)
            have n1 := Lib.hid (new1 w9 (.int .i64 1) 3)
            have n2 := Lib.hid (one1 1)
            go_wp2_with (at_builtin; refine append_want rfl (.tmp 146) (.tmp 147) 40 rfl wB.heap.size 3 i0 (.int .i64 0) 1 8 Try.underlying40 hti ti0 ti1 ti2 rfl (by decide) _ _ _ rfl (k1.out.alloc _) ⟨w9.heap.size, 0, none⟩ 1 1 [.int .i64 1] rfl rfl n1.out n2.out l3.out l4.out l5.out ?_)
            intro v2 w10 own10 g10 _
            have k1lt := k1.out.lt
            have hv2 : IsVec w10 v2 (Q ++ [1]) := own_vec (n := m + 1) (by have := hlq.out; simp; omega) (by rw [List.map_append]; exact own10)
            have hb10 : Below wB.heap.size wB w10 := Below.trans (k2.out.alloc k2.out.size (.cells #[.int .i64 1] 3)) (belowOf g10 (fun k e => (k1lt k e).1) (by have := k2.out.size; simp; omega))
            have hvp2 := Lib.hid (hvp.out.below hb10)
            have bw10 := Lib.hid (Below.trans bwB.out (hb10.mono bwB.out.size))
            replace hv2 := Lib.hid hv2
            clear own10 g10 hb10 k1lt k1 k2 hvp l3 l4 l5 n1 n2
            go_wp2_with fail
            with_reducible refine Calls.mono (c2.out _ _ _ hvp2.out hv2.out) ?_
            rintro e w11 ⟨rfl, d2, rfl⟩
            go_wp2_with fail
            go_ret
            exact ⟨rfl, below_drewN bw10.out _⟩
        · as_aux_lemma =>
            have hmq : m = Q.length := hlq.out.symm
            rw [← hmq]
            have l0 : Hid ((Q.map (Value.int .i64)).length = m * 1) := Lib.hid (by rw [hmq]; exact hS.l0)
            have l1 := Lib.hid hS.l1
            have l2 := Lib.hid hS.l2
            have j3 : Hid (0 + m ≤ maxLen) := Lib.hid (by unfold maxLen; omega)
            have j4 : Hid ((0 + m) * 8 ≤ 140737488355328) := Lib.hid (by omega)
            have j5 : Hid (wB.heap.size ≤ (wB.alloc (.cells #[] 3)).heap.size) := Lib.hid (by simp)
            replace hmq := Lib.hid hmq
            clear hS hvq
            obtain ⟨i1, hti1, tj0, tj1, tj2⟩ := info_parts infoI
            go_wp2_with (at_builtin; refine append_want rfl (.tmp 144) (.tmp 145) 40 rfl wB.heap.size 3 i1 (.int .i64 0) 1 8 Try.underlying40 hti1 tj0 tj1 tj2 rfl (by decide) _ _ _ rfl (own_empty wB _ (Nat.le_refl _)) ad m cap' (Q.map (Value.int .i64)) rfl l0.out l1.out l2.out j3.out j4.out j5.out ?_)
            intro v9 w9 hown hgrow _
            try simp only [Nat.zero_add, List.nil_append] at hown
            have k1 := Lib.hid hown
            have k2 := Lib.hid (Below.trans (belowAlloc wB (.cells #[] 3)) (grown_old (gm := wB.heap.size) hgrow (Nat.le_refl _) (by simp)))
            clear hown hgrow l0 l1 l2 j3 j4 j5
            obtain ⟨i0, hti, ti0, ti1, ti2⟩ := info_parts infoI
            have l3 : Hid (m + 1 ≤ maxLen) := Lib.hid (by unfold maxLen; omega)
            have l4 : Hid ((m + 1) * 8 ≤ 140737488355328) := Lib.hid (by omega)
            have l5 : Hid (wB.heap.size ≤ (w9.alloc (.cells #[.int .i64 1] 3)).heap.size) := Lib.hid (by have := k2.out.size; simp; omega)
            have n1 := Lib.hid (new1 w9 (.int .i64 1) 3)
            have n2 := Lib.hid (one1 1)
            go_wp2_with (at_builtin; refine append_want rfl (.tmp 146) (.tmp 147) 40 rfl wB.heap.size 3 i0 (.int .i64 0) 1 8 Try.underlying40 hti ti0 ti1 ti2 rfl (by decide) _ _ _ rfl (k1.out.alloc _) ⟨w9.heap.size, 0, none⟩ 1 1 [.int .i64 1] rfl rfl n1.out n2.out l3.out l4.out l5.out ?_)
            intro v2 w10 own10 g10 _
            have k1lt := k1.out.lt
            have hv2 : IsVec w10 v2 (Q ++ [1]) := own_vec (n := m + 1) (by have := hlq.out; simp; omega) (by rw [List.map_append]; exact own10)
            have hb10 : Below wB.heap.size wB w10 := Below.trans (k2.out.alloc k2.out.size (.cells #[.int .i64 1] 3)) (belowOf g10 (fun k e => (k1lt k e).1) (by have := k2.out.size; simp; omega))
            have hvp2 := Lib.hid (hvp.out.below hb10)
            have bw10 := Lib.hid (Below.trans bwB.out (hb10.mono bwB.out.size))
            replace hv2 := Lib.hid hv2
            clear own10 g10 hb10 k1lt k1 k2 hvp l3 l4 l5 n1 n2
            go_wp2_with fail
            with_reducible refine Calls.mono (c2.out _ _ _ hvp2.out hv2.out) ?_
            rintro e w11 ⟨rfl, d2, rfl⟩
            go_wp2_with fail
            go_ret
            exact ⟨rfl, below_drewN bw10.out _⟩
end Go.Proofs.Ytegjkognlfemgaa
