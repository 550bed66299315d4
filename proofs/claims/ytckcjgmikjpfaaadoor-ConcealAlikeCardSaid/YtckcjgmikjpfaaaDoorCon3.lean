/- The contract of conceal's Plain. -/
import Derived.Test.YtckcjgmikjpfaaaDoorCon2
import Derived.OwnWalk
import Derived.Deep.RegionWith
import Derived.Deep.Cut
import Derived.Deep.RegionLaw
import Derived.Deep.AppendLies
namespace Go.Proofs.YtckcjgmikjpfaaaDoor
open Go.RowKit

theorem info21 : (Tryd.prog.info? 21).map (fun i => (i.zero, i.size, i.bytes)) = some (some (.int .i32 0), 1, 4) := by kernel_rfl
theorem info_parts {P : Program} {t : TypeId} {z : Value} {s b : Nat} (h : (P.info? t).map (fun i => (i.zero, i.size, i.bytes)) = some (some z, s, b)) : ∃ i, P.info? t = some i ∧ i.zero = some z ∧ i.size = s ∧ i.bytes = b := by
  rcases hi : P.info? t with _ | i
  · rw [hi] at h; simp at h
  · rw [hi] at h
    simp at h
    exact ⟨i, rfl, h.1, h.2.1, h.2.2⟩
theorem belowAlloc (w : World) (o : Obj) : Below w.heap.size w (w.alloc o) := (Below.refl _ _).alloc (Nat.le_refl _) o
theorem belowOf {B : Nat} {a b : World} {row : Option Nat} (hg : a.grownBy b row) (hr : ∀ k, row = some k → B ≤ k) (hB : B ≤ a.heap.size) : Below B a b :=
  ⟨hg.os, hg.tape, hg.output, hg.size, fun i hi => hg.block i (by omega) (fun e => by have := hr i e.symm; omega)⟩
theorem append_want {P : Program} {w : World} {ops : Array Oper} {rest : List Oper} {o : Oper} {a : Act} {Q : Exit → Act → World → Prop} (hw : Region.wanted o (yielded ops a.tmps) = true) (s x : Operand) (t : TypeId)
    (ho : o.op = .call { callee := .builtin .append, args := #[s, x], argTypes := #[t, t] })
    (base : Nat) (e : TypeId) (i : TypeInfo) (z : Value) (size bytes : Nat) (ht : P.underlying t = some (.slice e)) (hi : P.info? e = some i) (hz : i.zero = some z)
    (hsize : i.size = size) (hby : i.bytes = bytes) (hzs : z.cells.size = size) (hsz : 0 < size)
    (v : Value) (n : Nat) (xs : List Value) (hs : a.eval s = v) (hown : w.ownsRow base e size v n xs)
    (ad : Addr) (m c : Nat) (news : List Value) (hx : a.eval x = .slice (some ad) m c) (hl : news.length = m * size) (hnews : ∀ j u, news[j]? = some u → w.cell? (ad.add j) = some u) (h1 : ∀ u ∈ news, u.oneCell' = true)
    (h63 : n + m ≤ maxLen) (hbytes : (n + m) * bytes ≤ 140737488355328) (hbase : base ≤ w.heap.size)
    (h : ∀ v' w', w'.ownsRow base e size v' (n + m) (xs ++ news) → w.grownBy w' v.ownBlock → (v' = .slice none 0 0 ↔ v = .slice none 0 0 ∧ m = 0) → wpList P ops Q rest (a.put o.dst v') w') : wpList P ops Q (o :: rest) a w :=
  Go.BigFrame.wpList_want hw fun _ hK => wp_append_own w s x t ho base e i z size bytes ht hi hz hsize hby hzs hsz v n xs hs hown ad m c news hx hl hnews h1 h63 hbytes hbase fun v' w' h2 h3 h4 => hK _ _ (h v' w' h2 h3 h4)
theorem new1 (W : World) (x : Value) (t : TypeId) : ∀ j u, [x][j]? = some u → (W.alloc (.cells #[x] t)).cell? ((⟨W.heap.size, 0, none⟩ : Addr).add j) = some u := by
  intro j u hj
  match j, hj with
  | 0, hj => simp at hj; subst hj; simp [Addr.add]
theorem one32 (x : Int) : ∀ u ∈ [Value.int .i32 x], u.oneCell' = true := by
  intro u hu; simp at hu; subst hu; rfl
theorem Fades.below {w w' : World} (h : Fades w) (h0 : 0 < w.heap.size) (hb : Below w.heap.size w w') : Fades w' := fun i hi => (hb.cell (p := ⟨0, i, none⟩) h0).trans (h i hi)

/-- The first m of what is made up. -/
def plL (hs : List Int) (k : Int) (m : Nat) : List Int := (List.range m).map (fun i => prt (hs.getD (hs.length - lagN hs + i % lagN hs) 0) (fdv k))
theorem plL_succ (hs : List Int) (k : Int) (m : Nat) : plL hs k (m + 1) = plL hs k m ++ [prt (hs.getD (hs.length - lagN hs + m % lagN hs) 0) (fdv k)] := by
  unfold plL
  rw [List.range_succ, List.map_append]
  rfl

set_option maxHeartbeats 4000000 in
theorem plain_no (hs : List Int) (ht : thr hs.length = false) (k : Int) (v : Value) (w : World) (hv : IsH w v hs) : Calls Tryd.prog 9 #[v, .int .i64 k] w fun e w' => e = .returned (.slice none 0 0) ∧ w = w' := by
  have cl := Lib.hid (lag_no hs ht v w hv)
  obtain ⟨A, cap, rfl, _⟩ := hv
  clear ht
  go_enter Tryd.func9, Tryd.ntmps9
  go_wp2_with fail
  with_reducible refine Calls.mono cl.out ?_
  rintro e w1 ⟨rfl, rfl⟩
  go_wp2_with fail
  go_ret
  exact ⟨rfl, rfl⟩

/-- What Plain's rounds keep. -/
structure PR (w : World) (hs : List Int) (k : Int) (m : Nat) (v : Value) (wr : World) : Prop where
  own : wr.ownsRow w.heap.size 21 1 v m ((plL hs k m).map (Value.int .i32))
  below : Below w.heap.size w wr
theorem PR.put {w wr W W2 : World} {hs : List Int} {k : Int} {m : Nat} {v v' : Value} (h : PR w hs k m v wr) (hW : Below wr.heap.size wr W) {x : Int} (hx : x = prt (hs.getD (hs.length - lagN hs + m % lagN hs) 0) (fdv k))
    (ho : W2.ownsRow w.heap.size 21 1 v' (m + 1) ((plL hs k m).map (Value.int .i32) ++ [.int .i32 x])) (hg : W.grownBy W2 v.ownBlock) : PR w hs k (m + 1) v' W2 := by
  have hlt := h.own.lt
  have b1 : Below w.heap.size w W := Below.trans h.below (hW.mono h.below.size)
  refine ⟨by rw [plL_succ, List.map_append, ← hx]; exact ho, Below.trans b1 (belowOf hg (fun k e => (hlt k e).1) b1.size)⟩
theorem heap_lt {W : World} {g : Nat} {o : Obj} (h : W.heap[g]? = some o) : g < W.heap.size := by
  rcases Nat.lt_or_ge g W.heap.size with hl | hl
  · exact hl
  · rw [Array.getElem?_eq_none hl] at h; cases h
theorem own_below {w w' : World} {base e size n : Nat} {v : Value} {xs : List Value} (h : w.ownsRow base e size v n xs) (hb : Below w.heap.size w w') : w'.ownsRow base e size v n xs := by
  obtain ⟨h1, h2⟩ := h
  refine ⟨h1, ?_⟩
  rcases h2 with h2 | ⟨g, cap, cur, rfl, hg, hh, h3⟩
  · exact .inl h2
  · exact .inr ⟨g, cap, cur, rfl, hg, (hb.block g (heap_lt hh)).trans hh, h3⟩

set_option maxRecDepth 20000 in
set_option maxHeartbeats 4000000 in
theorem plain_yes (hs : List Int) (ht : thr hs.length = true) (k : Int) (v : Value) (w : World) (hv : IsH w v hs) (hF : Fades w) (h0 : 0 < w.heap.size) :
    Calls Tryd.prog 9 #[v, .int .i64 k] w fun e w' => ∃ v', e = .returned v' ∧ PR w hs k hs.length v' w' := by
  have cl := Lib.hid (lag_yes hs ht v w hv)
  have hc := thr_cases ht
  have hlb := lagN_b hs (by omega)
  have hvh := Lib.hid hv
  obtain ⟨A, cap, rfl, hat⟩ := hv
  obtain ⟨b, off, rfl, hcap, hbl, _, _⟩ := hat 0 (by omega)
  have hat2 : ∀ j, j < hs.length → w.cell? ⟨b, off + j, none⟩ = some (.int .i32 (hs.getD j 0)) ∧ I32 (hs.getD j 0) := fun j hj => by
    obtain ⟨b', off', h1, _, _, h4, h5⟩ := hat j hj
    injection h1 with h1
    injection h1 with e1 e2 _
    subst e1 e2
    exact ⟨h4, h5⟩
  replace hat2 := Lib.hid hat2
  clear hat
  obtain ⟨n, hne⟩ : ∃ n, n = hs.length := ⟨_, rfl⟩
  obtain ⟨L, hL⟩ : ∃ L, L = lagN hs := ⟨_, rfl⟩
  rw [← hne] at hc hlb cl hcap ⊢
  rw [← hL] at hlb cl
  have hn32 : n ≤ 32 := by omega
  have hL2 : 2 ≤ L := by omega
  have hLn : 2 * L ≤ n := by omega
  have hLz : ((L : Int) == 0) = false := by simp; omega
  have hLz2 : ¬ L = 0 := by omega
  replace hne := Lib.hid hne
  replace hL := Lib.hid hL
  replace hF := Lib.hid hF
  obtain ⟨i0, hti, ti0, ti1, ti2⟩ := info_parts info21
  clear hc hlb ht
  go_enter Tryd.func9, Tryd.ntmps9
  go_wp2_with fail
  with_reducible refine Calls.mono cl.out ?_
  rintro e w1 ⟨rfl, d0, hw1⟩
  have hR0 : Hid (PR w hs k 0 (.slice none 0 0) w1) := Lib.hid ⟨World.ownsRow_nil _ _ _ _, by rw [hw1]; exact below_drewN (Below.refl _ _) _⟩
  clear hw1
  go_wp2_with fail
  go_loopw [6, 14] (fun v i wr => ∃ m : Nat, m ≤ n ∧ i = .int .i64 m ∧ PR w hs k m v wr) (fun _ i _ => n - (intOf i).toNat)
  case atStart => exact ⟨0, by omega, rfl, hR0.out⟩
  case round =>
    clear hR0
    obtain ⟨m, hm, rfl, hR⟩ := hrel
    replace hR := Lib.hid hR
    by_cases hlt : m < n
    · obtain ⟨r, hr⟩ : ∃ r, r = m % L := ⟨_, rfl⟩
      have hrL : r < L := by rw [hr]; exact Nat.mod_lt _ (by omega)
      have er : (m : Int).tmod (L : Int) = (r : Int) := by rw [hr, Int.tmod_eq_emod_of_nonneg (by omega)]; rfl
      obtain ⟨x0, x1⟩ := hat2.out (n - L + r) (by rw [← hne.out]; omega)
      have c0 : wr.cell? ⟨b, off + (n - L + r), none⟩ = some (.int .i32 (hs.getD (n - L + r) 0)) := (hR.out.below.cell (p := ⟨b, off + (n - L + r), none⟩) hbl).trans x0
      obtain ⟨x, hx⟩ : ∃ x, x = hs.getD (n - L + r) 0 := ⟨_, rfl⟩
      rw [← hx] at c0 x1
      have hp : Hid (prt x (fdv k) = prt (hs.getD (hs.length - lagN hs + m % lagN hs) 0) (fdv k)) := Lib.hid (by rw [hx, hr, ← hne.out, ← hL.out])
      have cfd := Lib.hid (fun w' (hb : Below wr.heap.size wr w') => fade_any k w' ((hF.out.below h0 hR.out.below).below (Nat.lt_of_lt_of_le h0 hR.out.below.size) hb))
      have cpt := Lib.hid (fun w => part_any x (fdv k) x1 (by have := fdv_b k; omega) w)
      obtain ⟨F, hFe⟩ : ∃ F, F = fdv k := ⟨_, rfl⟩
      obtain ⟨Y, hY⟩ : ∃ Y, Y = prt x (fdv k) := ⟨_, rfl⟩
      rw [← hFe] at cfd cpt
      rw [← hFe] at hY
      rw [← hY] at cpt
      replace hp : Hid (Y = prt (hs.getD (hs.length - lagN hs + m % lagN hs) 0) (fdv k)) := Lib.hid (by rw [hY, hFe]; exact hp.out)
      have u1 : IntKind.i64.wrap ((n : Int) - (L : Int)) = ((n - L : Nat) : Int) := by rw [IntKind.wrap_i64]; omega
      have u2 : IntKind.i64.wrap (((n - L : Nat) : Int) + (r : Int)) = ((n - L + r : Nat) : Int) := by rw [IntKind.wrap_i64]; omega
      obtain ⟨q, hq⟩ : ∃ q, q = n - L + r := ⟨_, rfl⟩
      rw [← hq] at u2 c0
      have v0 : q < n := by omega
      have v2 : (q : Int) < (n : Int) := by omega
      have n1 := Lib.hid (new1 · (.int .i32 Y) 21)
      have n2 := Lib.hid (one32 Y)
      have l3 : Hid (m + 1 ≤ maxLen) := Lib.hid (by unfold maxLen; omega)
      have l4 : Hid ((m + 1) * 4 ≤ 140737488355328) := Lib.hid (by omega)
      have hbs := Lib.hid hR.out.below.size
      have bAD : Hid (Below wr.heap.size wr (wr.alloc (.cells #[.int .i32 Y] 21)).drew) := Lib.hid ((Below.refl _ _).alloc (Nat.le_refl _) _).drew
      have hoAD := Lib.hid (own_below hR.out.own bAD.out)
      have l5 : Hid (w.heap.size ≤ (wr.alloc (.cells #[.int .i32 Y] 21)).drew.heap.size) := Lib.hid (Nat.le_trans hbs.out bAD.out.size)
      have n3 : Hid (∀ j u, [Value.int .i32 Y][j]? = some u → (wr.alloc (.cells #[.int .i32 Y] 21)).drew.cell? ((⟨wr.heap.size, 0, none⟩ : Addr).add j) = some u) := Lib.hid (n1.out wr)
      clear hx hr hFe hY x0 x1 hq n1 hbs
      go_wp2_with fail
      go_region_law (first
        | (go_simp; go_at_call 8; with_reducible refine Calls.mono (cfd.out _ (by repeat (first | (with_reducible exact Below.refl _ _) | (with_reducible assumption) | (with_reducible refine below_drewN ?_ _) | (with_reducible refine Below.drew ?_) | (with_reducible refine Below.setCell ?_ (by simp; try omega) _) | (with_reducible refine Below.alloc ?_ (by simp; try omega) _)))) ?_; rintro e w2 ⟨rfl, rfl⟩)
        | (go_simp; go_at_call 19; with_reducible refine Calls.mono (cpt.out _) ?_; rintro e w3 ⟨rfl, rfl⟩)
        | (refine step_append_lies _ rfl (.tmp 17) (.tmp 32) 24 rfl w.heap.size 21 i0 (.int .i32 0) 1 4 Tryd.underlying24 hti ti0 ti1 ti2 rfl (by decide) _ m _ rfl hoAD.out ⟨wr.heap.size, 0, none⟩ 1 1 [.int .i32 Y] rfl rfl n3.out n2.out (by decide) l3.out l4.out l5.out _ rfl ?_; intro g4 cap4 w4 ho hg _ _))
      all_goals
        have hR4 := Lib.hid (hR.out.put bAD.out hp.out ho hg)
        clear ho hg
        go_wp2_with fail
        exact ⟨⟨m + 1, by omega, by go_num, hR4.out⟩, by simp [intOf]; omega⟩
    · obtain rfl : m = n := by omega
      go_wp2_with fail
      go_ret
      exact ⟨_, rfl, hR.out⟩
end Go.Proofs.YtckcjgmikjpfaaaDoor
