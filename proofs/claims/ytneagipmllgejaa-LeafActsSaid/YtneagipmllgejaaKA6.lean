/- A part of the proof: lemmas that the row uses, laid together by a program of this session's (pack.py) out of its texts and of what the kit's printer wrote for this seat. -/
import Derived.Outline
import Derived.RegionTactic
import Derived.Deep.RegionWith
import Derived.Test.YtneagipmllgejaaKA0
import Derived.Test.YtneagipmllgejaaKA1
import Derived.Test.YtneagipmllgejaaKA2
import Derived.Test.YtneagipmllgejaaKA3
import Derived.Test.YtneagipmllgejaaKA4
import Derived.Test.YtneagipmllgejaaKA5
section
namespace Go.Proofs.Ytneagipmllgejaa.PL
open Go.RowKit Go.Proofs.YtneagipmllgejaaW.PrintWords Go.Proofs.YtneagipmllgejaaW.PrintLast Go.Proofs.YtneagipmllgejaaW.PrintMore Go.Proofs.YtneagipmllgejaaH
set_option linter.unusedVariables false
set_option linter.unusedSimpArgs false
theorem okL_root {a : List ByteArray} {b : List Int} {no : Int} {es : List ByteArray} {gone : Bool} {s : ByteArray} (h : okL a b no es gone s = true) : seenGo [] b = true ∧ b.length = a.length + 1 ∧ riseB a = true := by
  obtain ⟨_, h1, h2⟩ := okL_iff.1 h
  apply rootB_iff.1
  unfold findB at h1
  cases hr : rootB a b with
  | true => rfl
  | false => rw [hr, if_neg (by decide)] at h1; exact absurd h1.symm h2
theorem blk_lt' {W : World} {g g7 : Nat} {o : Obj} (h : W.heap[g]? = some o) (h7 : g7 = W.heap.size) : g ≠ g7 := by
  have := blk_lt h
  omega
/-- What is asked of the arguments. -/
structure PreL (B0 : Option Addr) (d0 : Nat) (a : List ByteArray) (B1 : Option Addr) (d1 : Nat) (b : List Int) (no : Int) (B3 : Option Addr) (d3 : Nat) (es : List ByteArray) (gone : Bool) (s : ByteArray) (w : World) : Prop where
  r0 : Kd.C Kd.string w B0 a.length a
  c0 : a.length ≤ d0
  r1 : Kd.C (Kd.int .i64) w B1 b.length b
  c1 : b.length ≤ d1
  r3 : Kd.C Kd.string w B3 es.length es
  c3 : es.length ≤ d3
  la : a.length ≤ 100000
  lb : b.length ≤ 100000
  le : es.length ≤ 100000
def InsPost (w : World) (r1 : List ByteArray) (r2 : List Int) (r3 : List S28) (r4 : Int) (e : Ending) (w' : World) : Prop :=
  ∃ v0_ v1_ v2_ : Value, e = .returned (.tuple #[.agg #[v0_, v1_], v2_, .int .i64 r4]) ∧ Kd.R Kd.string 9 w' w.heap.size (fun _ => True) v0_ r1 ∧ Kd.R (Kd.int .i64) 3 w' w.heap.size (fun _ => True) v1_ r2 ∧ Kd.N k28 28 w' w.heap.size (fun k_ => w.heap.size ≤ k_ ∧ some k_ ≠ v0_.ownBlock ∧ some k_ ≠ v1_.ownBlock) v2_ r3 ∧ Below w.heap.size w w'
theorem two26 (A0 : Option Addr) (n0 c0 : Nat) (A1 : Option Addr) (n1 c1 : Nat) : ∀ q ∈ [Value.slice A0 n0 c0, Value.slice A1 n1 c1], q.oneCell' = true := by
  intro q hq
  simp at hq
  rcases hq with rfl | rfl <;> rfl
theorem three28 (x : Int) (A1 : Option Addr) (n1 c1 : Nat) (z : Bool) : ∀ q ∈ [Value.int .i64 x, Value.slice A1 n1 c1, Value.bool z], q.oneCell' = true := by
  intro q hq
  simp at hq
  rcases hq with rfl | rfl | rfl <;> rfl
/-- The state of a call: a root and a leaf in boxes of one's own, their rows of one's own, a result's box. u: what the boxes hold; v: the rows. -/
structure St (w W : World) (g3 g4 g6 : Nat) (u0 u1 u3 v0 v1 v3 : Value) (a : List ByteArray) (b : List Int) (no : Int) (es : List ByteArray) (gone : Bool) : Prop where
  below : Below w.heap.size w W
  x3 : W.heap[g3]? = some (.cells #[u0, u1] 26 (0, 0))
  x4 : W.heap[g4]? = some (.cells #[.int .i64 no, u3, .bool gone] 28 (0, 0))
  x6 : W.heap[g6]? = some (.cells #[.slice none 0 0, .slice none 0 0] 26 (0, 0))
  r0 : Kd.R Kd.string 9 W w.heap.size (fun k => some k ≠ v3.ownBlock) v0 a
  r1 : Kd.R (Kd.int .i64) 3 W w.heap.size (fun _ => True) v1 b
  r3 : Kd.R Kd.string 9 W w.heap.size (fun k => some k ≠ v0.ownBlock) v3 es
  n34 : g3 ≠ g4
  n36 : g3 ≠ g6
  n46 : g4 ≠ g6
  b3 : w.heap.size ≤ g3
  b4 : w.heap.size ≤ g4
  b6 : w.heap.size ≤ g6
section
variable {w W W1 : World} {g3 g4 g6 : Nat} {u0 u1 u3 v0 v1 v3 : Value} {a : List ByteArray} {b : List Int} {no : Int} {es : List ByteArray} {gone : Bool}
theorem St.first {y : Array Value} (hb : Below w.heap.size w W) (h3 : W.heap[g3]? = some (.cells #[v0, v1] 26 (0, 0))) (h4 : W.heap[g4]? = some (.cells y 28 (0, 0))) (h6 : W.heap[g6]? = some (.cells #[.slice none 0 0, .slice none 0 0] 26 (0, 0)))
    (r0 : Kd.R Kd.string 9 W w.heap.size (fun k => some k ≠ v3.ownBlock) v0 a) (r1 : Kd.R (Kd.int .i64) 3 W w.heap.size (fun _ => True) v1 b) (r3 : Kd.R Kd.string 9 W w.heap.size (fun k => some k ≠ v0.ownBlock) v3 es) (n34 : g3 ≠ g4) (n36 : g3 ≠ g6) (n46 : g4 ≠ g6) (b3 : w.heap.size ≤ g3) (b4 : w.heap.size ≤ g4) (b6 : w.heap.size ≤ g6)
    (hx : W1.heap[g4]? = some (.cells #[.int .i64 no, v3, .bool gone] 28 (0, 0))) (hg : W.grownBy W1 (some g4)) : St w W1 g3 g4 g6 v0 v1 v3 v0 v1 v3 a b no es gone where
  below := below_own hb hg b4 hb.size
  x3 := blk_grown h3 hg (fun e => n34 (by injection e))
  x4 := hx
  x6 := blk_grown h6 hg (fun e => n46 (by injection e with e; exact e.symm))
  r0 := Kd.R_grown1 r0 rfl hg (Kd.R_ne r0 h4 (by decide))
  r1 := Kd.R_grown1 r1 rfl hg (Kd.R_ne r1 h4 (by decide))
  r3 := Kd.R_grown1 r3 rfl hg (Kd.R_ne r3 h4 (by decide))
  n34 := n34
  n36 := n36
  n46 := n46
  b3 := b3
  b4 := b4
  b6 := b6
theorem St.step (h : St w W g3 g4 g6 u0 u1 u3 v0 v1 v3 a b no es gone) (hb : Below W.heap.size W W1) : St w W1 g3 g4 g6 u0 u1 u3 v0 v1 v3 a b no es gone :=
  { h with
    below := below_then h.below h.below.size hb
    x3 := blk_below h.x3 hb
    x4 := blk_below h.x4 hb
    x6 := blk_below h.x6 hb
    r0 := Kd.R_below h.r0 hb
    r1 := Kd.R_below h.r1 hb
    r3 := Kd.R_below h.r3 hb }
theorem St.cells (h : St w W g3 g4 g6 u0 u1 u3 v0 v1 v3 a b no es gone) : W.cell? ⟨g3, 0, none⟩ = some u0 ∧ W.cell? ⟨g3, 1, none⟩ = some u1 ∧ W.cell? ⟨g4, 0, none⟩ = some (.int .i64 no) ∧ W.cell? ⟨g4, 1, none⟩ = some u3 ∧ W.cell? ⟨g4, 2, none⟩ = some (.bool gone) :=
  ⟨(blk_cell h.x3 0).trans rfl, (blk_cell h.x3 1).trans rfl, (blk_cell h.x4 0).trans rfl, (blk_cell h.x4 1).trans rfl, (blk_cell h.x4 2).trans rfl⟩
/-- A row that is another's no more than before. -/
theorem new_apart {W : World} {v v' u : Value} {base : Nat} {ok : Nat → Prop} {xs : List ByteArray} (hu : Kd.R Kd.string 9 W base ok u xs) (hap : ∀ k, u.ownBlock = some k → some k ≠ v.ownBlock) (hn : v'.ownBlock = v.ownBlock ∨ ∃ b, v'.ownBlock = some b ∧ W.heap.size ≤ b) : ∀ k, u.ownBlock = some k → some k ≠ v'.ownBlock := by
  intro k hk e
  rcases hn with h | ⟨q, h, hq⟩
  · exact hap k hk (e.trans h)
  · rw [h] at e
    injection e with e
    have := Kd.R_lt hu k hk
    omega
/-- The leaf's row has grown (it isn't in its box yet). -/
theorem St.grew3 {v3' : Value} {es' : List ByteArray} (h : St w W g3 g4 g6 u0 u1 u3 v0 v1 v3 a b no es gone) (hv : Kd.R Kd.string 9 W1 w.heap.size (fun _ => True) v3' es') (hb : Below w.heap.size w W1) (hg : W.grownBy W1 v3.ownBlock) (hn : v3'.ownBlock = v3.ownBlock ∨ ∃ b, v3'.ownBlock = some b ∧ W.heap.size ≤ b) : St w W1 g3 g4 g6 u0 u1 u3 v0 v1 v3' a b no es' gone :=
  { h with
    below := hb
    x3 := blk_grown h.x3 hg (Kd.R_ne h.r3 h.x3 (by decide))
    x4 := blk_grown h.x4 hg (Kd.R_ne h.r3 h.x4 (by decide))
    x6 := blk_grown h.x6 hg (Kd.R_ne h.r3 h.x6 (by decide))
    r0 := Kd.R_reok rfl (Kd.R_grown2 h.r0 rfl hg (fun k hk => h.r3.1 k hk)) (new_apart h.r0 h.r0.1 hn)
    r1 := Kd.R_over' h.r1 (Kd.R_typed h.r3) (by decide) hg
    r3 := Kd.R_reok rfl hv (fun k hk e => by
      rcases hn with h2 | ⟨q, h2, hq⟩
      · exact h.r3.1 k (h2.symm.trans hk) e
      · rw [h2] at hk
        injection hk with hk
        have := Kd.R_lt h.r0 k e.symm
        omega) }
theorem St.put3 (h : St w W g3 g4 g6 u0 u1 u3 v0 v1 v3 a b no es gone) (hx : W1.heap[g4]? = some (.cells #[.int .i64 no, v3, .bool gone] 28 (0, 0))) (hg : W.grownBy W1 (some g4)) : St w W1 g3 g4 g6 u0 u1 v3 v0 v1 v3 a b no es gone :=
  { h with
    below := below_own h.below hg h.b4 h.below.size
    x3 := blk_grown h.x3 hg (fun e => h.n34 (by injection e))
    x4 := hx
    x6 := blk_grown h.x6 hg (fun e => h.n46 (by injection e with e; exact e.symm))
    r0 := Kd.R_grown1 h.r0 rfl hg (Kd.R_ne h.r0 h.x4 (by decide))
    r1 := Kd.R_grown1 h.r1 rfl hg (Kd.R_ne h.r1 h.x4 (by decide))
    r3 := Kd.R_grown1 h.r3 rfl hg (Kd.R_ne h.r3 h.x4 (by decide)) }
theorem insS_at {base : Nat} {ok : Nat → Prop} {v : Value} {xs : List ByteArray} {i : Nat} {x : ByteArray} {vb : Nat} {w0 w : World} (HO : Kd.string.R 9 w base ok v xs) (hB : Below base w0 w) (hi : i ≤ xs.length)
    (hx : w.heap[vb]? = some (.cells #[.string x] 9 (0, 0))) (hne : some vb ≠ v.ownBlock) (hbase : base ≤ w.heap.size) (hlim : xs.length ≤ 1000000) :
    Calls Try.prog 36 #[v, .int .i64 i, .slice (some ⟨vb, 0, none⟩) 1 1] w fun e w' => ∃ v1, e = .returned v1 ∧ Kd.string.R 9 w' base (fun _ => True) v1 (insAt i x xs) ∧ Below base w0 w' ∧ w.grownBy w' v.ownBlock ∧ (v1.ownBlock = v.ownBlock ∨ ∃ b, v1.ownBlock = some b ∧ w.heap.size ≤ b) :=
  insS_own base ok v xs i x vb w0 w HO hB hi hx hne hbase hlim
theorem insI_at {base : Nat} {ok : Nat → Prop} {v : Value} {xs : List Int} {i : Nat} {x : Int} {vb : Nat} {w0 w : World} (HO : (Kd.int .i64).R 3 w base ok v xs) (hB : Below base w0 w) (hi : i ≤ xs.length)
    (hx : w.heap[vb]? = some (.cells #[.int .i64 x] 3 (0, 0))) (hne : some vb ≠ v.ownBlock) (hbase : base ≤ w.heap.size) (hlim : xs.length ≤ 1000000) :
    ∀ {j : Int}, j = (i : Int) → Calls Try.prog 40 #[v, .int .i64 j, .slice (some ⟨vb, 0, none⟩) 1 1] w fun e w' => ∃ v1, e = .returned v1 ∧ (Kd.int .i64).R 3 w' base (fun _ => True) v1 (insAt i x xs) ∧ Below base w0 w' ∧ w.grownBy w' v.ownBlock ∧ (v1.ownBlock = v.ownBlock ∨ ∃ b, v1.ownBlock = some b ∧ w.heap.size ≤ b) :=
  fun hj => by subst hj; exact insI_own base ok v xs i x vb w0 w HO hB hi hx hne hbase hlim
theorem grown_setCell (W : World) (g j : Nat) (u : Value) : W.grownBy (W.setCell ⟨g, j, none⟩ u) (some g) :=
  ⟨rfl, rfl, rfl, by show W.heap.size ≤ (W.setCell ⟨g, j, none⟩ u).heap.size; simp [World.setCell], fun k hk hne => Below.heap_setCell W ⟨g, j, none⟩ u k (fun e => hne (by rw [e]))⟩
theorem size_setCell (W : World) (p : Addr) (u : Value) : (W.setCell p u).heap.size = W.heap.size := by simp [World.setCell]
/-- The result's box is written. -/
theorem St.out (h : St w W g3 g4 g6 u0 u1 u3 v0 v1 v3 a b no es gone) (x0 x1 : Value) (o : Obj) : ((((W.setCell ⟨g6, 0, none⟩ x0).setCell ⟨g6, 1, none⟩ x1).alloc o).drew).heap[g6]? = some (.cells #[x0, x1] 26 (0, 0)) ∧
    Kd.R Kd.string 9 ((((W.setCell ⟨g6, 0, none⟩ x0).setCell ⟨g6, 1, none⟩ x1).alloc o).drew) w.heap.size (fun _ => True) v0 a ∧ Kd.R (Kd.int .i64) 3 ((((W.setCell ⟨g6, 0, none⟩ x0).setCell ⟨g6, 1, none⟩ x1).alloc o).drew) w.heap.size (fun _ => True) v1 b ∧
    Kd.R Kd.string 9 ((W.setCell ⟨g6, 0, none⟩ x0).setCell ⟨g6, 1, none⟩ x1) w.heap.size (fun k => some k ≠ v0.ownBlock ∧ some k ≠ v1.ownBlock) v3 es ∧ Below w.heap.size w ((((W.setCell ⟨g6, 0, none⟩ x0).setCell ⟨g6, 1, none⟩ x1).alloc o).drew) ∧
    ((W.setCell ⟨g6, 0, none⟩ x0).setCell ⟨g6, 1, none⟩ x1).heap.size = W.heap.size := by
  have hx1 : (W.setCell ⟨g6, 0, none⟩ x0).heap[g6]? = some (.cells #[x0, .slice none 0 0] 26 (0, 0)) := blk_put h.x6 0 x0 rfl
  have hx2 : ((W.setCell ⟨g6, 0, none⟩ x0).setCell ⟨g6, 1, none⟩ x1).heap[g6]? = some (.cells #[x0, x1] 26 (0, 0)) := blk_put hx1 1 x1 rfl
  have mS : ∀ {v : Value} {ok : Nat → Prop} {xs : List ByteArray}, Kd.R Kd.string 9 W w.heap.size ok v xs → Kd.R Kd.string 9 ((W.setCell ⟨g6, 0, none⟩ x0).setCell ⟨g6, 1, none⟩ x1) w.heap.size ok v xs := fun hr => by
    have h1 := Kd.R_grown1 hr rfl (grown_setCell W g6 0 x0) (Kd.R_ne hr h.x6 (by decide))
    exact Kd.R_grown1 h1 rfl (grown_setCell _ g6 1 x1) (Kd.R_ne h1 hx1 (by decide))
  have mI : ∀ {v : Value} {ok : Nat → Prop} {xs : List Int}, Kd.R (Kd.int .i64) 3 W w.heap.size ok v xs → Kd.R (Kd.int .i64) 3 ((W.setCell ⟨g6, 0, none⟩ x0).setCell ⟨g6, 1, none⟩ x1) w.heap.size ok v xs := fun hr => by
    have h1 := Kd.R_grown1 hr rfl (grown_setCell W g6 0 x0) (Kd.R_ne hr h.x6 (by decide))
    exact Kd.R_grown1 h1 rfl (grown_setCell _ g6 1 x1) (Kd.R_ne h1 hx1 (by decide))
  have hz : ((W.setCell ⟨g6, 0, none⟩ x0).setCell ⟨g6, 1, none⟩ x1).heap.size = W.heap.size := by rw [size_setCell, size_setCell]
  refine ⟨blk_drew (blk_alloc hx2 o), Kd.R_drew (Kd.R_alloc (Kd.R_mono (mS h.r0) (fun _ _ => trivial)) o), Kd.R_drew (Kd.R_alloc (mI h.r1) o), mS (Kd.R_apartR h.r3 h.r1 (by decide)), below_drew1 (below_alloc ?_ o), hz⟩
  have b1 := below_own h.below (grown_setCell W g6 0 x0) h.b6 h.below.size
  exact below_own b1 (grown_setCell _ g6 1 x1) h.b6 (by rw [size_setCell]; exact h.below.size)
theorem St.fin1 {x0 x1 : Value} {A3 : Option Addr} {c3 : Nat} (h : St w W g3 g4 g6 u0 u1 u3 v0 v1 (.slice A3 es.length c3) a b no es gone) : 
    Kd.N k28 28 ((((W.setCell ⟨g6, 0, none⟩ x0).setCell ⟨g6, 1, none⟩ x1).alloc (.cells #[.int .i64 no, .slice A3 es.length c3, .bool gone] 28 (0, 0))).drew) w.heap.size (fun k_ => w.heap.size ≤ k_ ∧ some k_ ≠ v0.ownBlock ∧ some k_ ≠ v1.ownBlock) (.slice (some ⟨W.heap.size, 0, none⟩) 1 1) [⟨no, es, gone⟩] := by
  obtain ⟨_, _, _, h3, _, hz⟩ := h.out x0 x1 (.cells #[.int .i64 no, .slice A3 es.length c3, .bool gone] 28 (0, 0))
  have hF := (F_rowS (Kd.R_mono (Kd.R_bound h3) (fun k hk => (⟨hk.2.1, hk.1⟩ : w.heap.size ≤ k ∧ some k ≠ v0.ownBlock ∧ some k ≠ v1.ownBlock)))).2.2
  refine Kd.N_drew (N_one28 ⟨no, es, gone⟩ (A1 := A3) (c1 := c3) (by rw [← hz]; exact heap_alloc_new _ _) h.below.size ⟨h.below.size, fun e => ?_, fun e => ?_⟩ (F_rowS h3).2.1 (Kd.F_alloc (Kd.F_elderB hF _ (by rw [hz]; exact Nat.le_refl _)) _))
  · have := Kd.R_lt h.r0 _ e.symm; omega
  · have := Kd.R_lt h.r1 _ e.symm; omega
/-- A second leaf in a box of one's own. -/
structure Bt (w W : World) (g3 g4 g6 g7 : Nat) (v0 : Value) (m : Int) (v7 : Value) (ds : List ByteArray) : Prop where
  x : W.heap[g7]? = some (.cells #[.int .i64 m, v7, .bool false] 28 (0, 0))
  r : Kd.R Kd.string 9 W w.heap.size (fun k => some k ≠ v0.ownBlock) v7 ds
  n3 : g3 ≠ g7
  n4 : g4 ≠ g7
  n6 : g6 ≠ g7
  b : w.heap.size ≤ g7
section
variable {g7 : Nat} {m : Int} {v7 : Value} {ds : List ByteArray}
theorem Bt.step (h : Bt w W g3 g4 g6 g7 v0 m v7 ds) (hb : Below W.heap.size W W1) : Bt w W1 g3 g4 g6 g7 v0 m v7 ds :=
  { h with
    x := blk_below h.x hb
    r := Kd.R_below h.r hb }
theorem Bt.cells (h : Bt w W g3 g4 g6 g7 v0 m v7 ds) : W.cell? ⟨g7, 0, none⟩ = some (.int .i64 m) ∧ W.cell? ⟨g7, 1, none⟩ = some v7 ∧ W.cell? ⟨g7, 2, none⟩ = some (.bool false) :=
  ⟨(blk_cell h.x 0).trans rfl, (blk_cell h.x 1).trans rfl, (blk_cell h.x 2).trans rfl⟩
theorem Bt.box (h : Bt w W g3 g4 g6 g7 v0 m v7 ds) {g : Nat} {cs : Array Value} {t : TypeId} (hx : W.heap[g]? = some (.cells cs t (0, 0))) (ht : 9 ≠ t) (hne : g ≠ g7) (hg : W.grownBy W1 (some g)) : Bt w W1 g3 g4 g6 g7 v0 m v7 ds :=
  { h with
    x := blk_grown h.x hg (fun e => hne (by injection e with e; exact e.symm))
    r := Kd.R_grown1 h.r rfl hg (Kd.R_ne h.r hx ht) }
/-- The root's first row has grown (it isn't in its box yet). -/
theorem St.grew0 {v0' : Value} {a' : List ByteArray} (h : St w W g3 g4 g6 u0 u1 u3 v0 v1 v3 a b no es gone) (hv : Kd.R Kd.string 9 W1 w.heap.size (fun _ => True) v0' a') (hb : Below w.heap.size w W1) (hg : W.grownBy W1 v0.ownBlock) (hn : v0'.ownBlock = v0.ownBlock ∨ ∃ b, v0'.ownBlock = some b ∧ W.heap.size ≤ b) : St w W1 g3 g4 g6 u0 u1 u3 v0' v1 v3 a' b no es gone :=
  { h with
    below := hb
    x3 := blk_grown h.x3 hg (Kd.R_ne h.r0 h.x3 (by decide))
    x4 := blk_grown h.x4 hg (Kd.R_ne h.r0 h.x4 (by decide))
    x6 := blk_grown h.x6 hg (Kd.R_ne h.r0 h.x6 (by decide))
    r3 := Kd.R_reok rfl (Kd.R_grown2 h.r3 rfl hg (fun k hk => h.r0.1 k hk)) (new_apart h.r3 h.r3.1 hn)
    r1 := Kd.R_over' h.r1 (Kd.R_typed h.r0) (by decide) hg
    r0 := Kd.R_reok rfl hv (fun k hk e => by
      rcases hn with h2 | ⟨q, h2, hq⟩
      · exact h.r0.1 k (h2.symm.trans hk) e
      · rw [h2] at hk
        injection hk with hk
        have := Kd.R_lt h.r3 k e.symm
        omega) }
theorem Bt.grew0 {v0' : Value} (h : Bt w W g3 g4 g6 g7 v0 m v7 ds) (hr : Kd.R Kd.string 9 W w.heap.size (fun k => some k ≠ v3.ownBlock) v0 a) (hg : W.grownBy W1 v0.ownBlock) (hn : v0'.ownBlock = v0.ownBlock ∨ ∃ b, v0'.ownBlock = some b ∧ W.heap.size ≤ b) : Bt w W1 g3 g4 g6 g7 v0' m v7 ds :=
  { h with
    x := blk_grown h.x hg (Kd.R_ne hr h.x (by decide))
    r := Kd.R_reok rfl (Kd.R_grown2 h.r rfl hg (fun k hk e => h.r.1 k e.symm hk.symm)) (new_apart h.r h.r.1 hn) }
theorem St.put0 (h : St w W g3 g4 g6 u0 u1 u3 v0 v1 v3 a b no es gone) (hx : W1.heap[g3]? = some (.cells #[v0, u1] 26 (0, 0))) (hg : W.grownBy W1 (some g3)) : St w W1 g3 g4 g6 v0 u1 u3 v0 v1 v3 a b no es gone :=
  { h with
    below := below_own h.below hg h.b3 h.below.size
    x3 := hx
    x4 := blk_grown h.x4 hg (fun e => h.n34 (by injection e with e; exact e.symm))
    x6 := blk_grown h.x6 hg (fun e => h.n36 (by injection e with e; exact e.symm))
    r0 := Kd.R_grown1 h.r0 rfl hg (Kd.R_ne h.r0 h.x3 (by decide))
    r1 := Kd.R_grown1 h.r1 rfl hg (Kd.R_ne h.r1 h.x3 (by decide))
    r3 := Kd.R_grown1 h.r3 rfl hg (Kd.R_ne h.r3 h.x3 (by decide)) }
theorem St.grew1 {v1' : Value} {b' : List Int} (h : St w W g3 g4 g6 u0 u1 u3 v0 v1 v3 a b no es gone) (hv : Kd.R (Kd.int .i64) 3 W1 w.heap.size (fun _ => True) v1' b') (hb : Below w.heap.size w W1) (hg : W.grownBy W1 v1.ownBlock) : St w W1 g3 g4 g6 u0 u1 u3 v0 v1' v3 a b' no es gone :=
  { h with
    below := hb
    x3 := blk_grown h.x3 hg (Kd.R_ne h.r1 h.x3 (by decide))
    x4 := blk_grown h.x4 hg (Kd.R_ne h.r1 h.x4 (by decide))
    x6 := blk_grown h.x6 hg (Kd.R_ne h.r1 h.x6 (by decide))
    r0 := Kd.R_over' h.r0 (Kd.R_typed h.r1) (by decide) hg
    r3 := Kd.R_over' h.r3 (Kd.R_typed h.r1) (by decide) hg
    r1 := hv }
theorem Bt.grew1 (h : Bt w W g3 g4 g6 g7 v0 m v7 ds) {ok : Nat → Prop} (hr : Kd.R (Kd.int .i64) 3 W w.heap.size ok v1 b) (hg : W.grownBy W1 v1.ownBlock) : Bt w W1 g3 g4 g6 g7 v0 m v7 ds :=
  { h with
    x := blk_grown h.x hg (Kd.R_ne hr h.x (by decide))
    r := Kd.R_over' h.r (Kd.R_typed hr) (by decide) hg }
theorem St.put1 (h : St w W g3 g4 g6 u0 u1 u3 v0 v1 v3 a b no es gone) (hx : W1.heap[g3]? = some (.cells #[u0, v1] 26 (0, 0))) (hg : W.grownBy W1 (some g3)) : St w W1 g3 g4 g6 u0 v1 u3 v0 v1 v3 a b no es gone :=
  { h with
    below := below_own h.below hg h.b3 h.below.size
    x3 := hx
    x4 := blk_grown h.x4 hg (fun e => h.n34 (by injection e with e; exact e.symm))
    x6 := blk_grown h.x6 hg (fun e => h.n36 (by injection e with e; exact e.symm))
    r0 := Kd.R_grown1 h.r0 rfl hg (Kd.R_ne h.r0 h.x3 (by decide))
    r1 := Kd.R_grown1 h.r1 rfl hg (Kd.R_ne h.r1 h.x3 (by decide))
    r3 := Kd.R_grown1 h.r3 rfl hg (Kd.R_ne h.r3 h.x3 (by decide)) }
theorem St.cut3 {u : Value} (h : St w W g3 g4 g6 u0 u1 u3 v0 v1 v3 a b no es gone) (hx : W1.heap[g4]? = some (.cells #[.int .i64 no, u, .bool gone] 28 (0, 0))) (hg : W.grownBy W1 (some g4)) : St w W1 g3 g4 g6 u0 u1 u v0 v1 v3 a b no es gone :=
  { h with
    below := below_own h.below hg h.b4 h.below.size
    x3 := blk_grown h.x3 hg (fun e => h.n34 (by injection e))
    x4 := hx
    x6 := blk_grown h.x6 hg (fun e => h.n46 (by injection e with e; exact e.symm))
    r0 := Kd.R_grown1 h.r0 rfl hg (Kd.R_ne h.r0 h.x4 (by decide))
    r1 := Kd.R_grown1 h.r1 rfl hg (Kd.R_ne h.r1 h.x4 (by decide))
    r3 := Kd.R_grown1 h.r3 rfl hg (Kd.R_ne h.r3 h.x4 (by decide)) }
/-- A box of one's own that the state doesn't know is written. -/
theorem St.far (h : St w W g3 g4 g6 u0 u1 u3 v0 v1 v3 a b no es gone) {g : Nat} {cs : Array Value} (hx : W.heap[g]? = some (.cells cs 28 (0, 0))) (h3 : g3 ≠ g) (h4 : g4 ≠ g) (h6 : g6 ≠ g) (hb : w.heap.size ≤ g) (hg : W.grownBy W1 (some g)) : St w W1 g3 g4 g6 u0 u1 u3 v0 v1 v3 a b no es gone :=
  { h with
    below := below_own h.below hg hb h.below.size
    x3 := blk_grown h.x3 hg (fun e => h3 (by injection e))
    x4 := blk_grown h.x4 hg (fun e => h4 (by injection e))
    x6 := blk_grown h.x6 hg (fun e => h6 (by injection e))
    r0 := Kd.R_grown1 h.r0 rfl hg (Kd.R_ne h.r0 hx (by decide))
    r1 := Kd.R_grown1 h.r1 rfl hg (Kd.R_ne h.r1 hx (by decide))
    r3 := Kd.R_grown1 h.r3 rfl hg (Kd.R_ne h.r3 hx (by decide)) }
theorem St.fin2 {x0 x1 : Value} {ad : Addr} {n3 c3 n7 c7 : Nat} {A7 : Option Addr} (h : St w W g3 g4 g6 u0 u1 u3 v0 v1 (.slice (some ad) n3 c3) a b no es gone) (k : Bt w W g3 g4 g6 g7 v0 m (.slice A7 n7 c7) ds) (h3 : 3 ≤ es.length) :
    Kd.N k28 28 ((((W.setCell ⟨g6, 0, none⟩ x0).setCell ⟨g6, 1, none⟩ x1).alloc (.cells #[.int .i64 no, .slice (some ad) 3 3, .bool gone, .int .i64 m, .slice A7 n7 c7, .bool false] 28 (0, 0))).drew) w.heap.size (fun k_ => w.heap.size ≤ k_ ∧ some k_ ≠ v0.ownBlock ∧ some k_ ≠ v1.ownBlock) (.slice (some ⟨W.heap.size, 0, none⟩) 2 2) [⟨no, es.take 3, gone⟩, ⟨m, ds, false⟩] := by
  obtain ⟨_, _, _, h3', _, hz⟩ := h.out x0 x1 (.cells #[.int .i64 no, .slice (some ad) 3 3, .bool gone, .int .i64 m, .slice A7 n7 c7, .bool false] 28 (0, 0))
  have e3 := (Kd.R_reads' h3').1
  have hF := (F_rowS (Kd.R_mono (Kd.R_bound h3') (fun k hk => (⟨hk.2.1, hk.1⟩ : w.heap.size ≤ k ∧ some k ≠ v0.ownBlock ∧ some k ≠ v1.ownBlock)))).2.2
  have h7a := Kd.R_apartR k.r h.r1 (by decide)
  have hx1 : (W.setCell ⟨g6, 0, none⟩ x0).heap[g6]? = some (.cells #[x0, .slice none 0 0] 26 (0, 0)) := blk_put h.x6 0 x0 rfl
  have h7b := Kd.R_grown1 h7a rfl (grown_setCell W g6 0 x0) (Kd.R_ne h7a h.x6 (by decide))
  have h7c := Kd.R_grown1 h7b rfl (grown_setCell _ g6 1 x1) (Kd.R_ne h7b hx1 (by decide))
  have hG := (F_rowS (Kd.R_mono (Kd.R_bound h7c) (fun k hk => (⟨hk.2.1, hk.1⟩ : w.heap.size ≤ k ∧ some k ≠ v0.ownBlock ∧ some k ≠ v1.ownBlock)))).2.2
  have e7 := (F_rowS h7c).1
  have hT : (es.take 3).length = 3 := by rw [List.length_take]; omega
  have hE := Kd.F_take (m := 3) hF h3
  have hok : ∀ q, q = W.heap.size → w.heap.size ≤ q ∧ some q ≠ v0.ownBlock ∧ some q ≠ v1.ownBlock := by
    rintro q rfl
    refine ⟨h.below.size, fun e => ?_, fun e => ?_⟩
    · have := Kd.R_lt h.r0 _ e.symm; omega
    · have := Kd.R_lt h.r1 _ e.symm; omega
  refine Kd.N_drew (N_two28 ⟨no, es.take 3, gone⟩ ⟨m, ds, false⟩ (A1 := some ad) (B1 := A7) (c1 := 3) (d1 := c7) ?_ h.below.size (hok _ rfl) (by simp only [hT]; exact Nat.le_refl _) (by have := (F_rowS h7c).2.1; simp only; omega) (Kd.F_alloc (Kd.F_elderB hE _ (by rw [hz]; exact Nat.le_refl _)) _) (Kd.F_alloc (Kd.F_elderB hG _ (by rw [hz]; exact Nat.le_refl _)) _))
  simp only [hT, ← e7]
  rw [← hz]
  exact heap_alloc_new _ _
theorem drop_ownS {base : Nat} {ok : Nat → Prop} {A : Option Addr} {c m : Nat} {xs : List ByteArray} (h : Kd.R Kd.string 9 W base ok (.slice A xs.length c) xs) (hm : m ≤ xs.length) (hc : ¬ (c = m)) : Kd.C Kd.string W (A.map (·.add (m * 1))) (xs.drop m).length (xs.drop m) := by
  have hcd := Kd.C_drop (Kd.R_reads' h).2.2 hm (Kd.R_reads' h).2.1
  rw [if_neg hc] at hcd
  exact hcd
/-- Clone's contract, the length said in whatever form. -/
theorem cloneS_at {A : Option Addr} {n c : Nat} {xs : List ByteArray} {w : World} (hn : n = xs.length) (hr : Kd.C Kd.string w A xs.length xs) (hc : n ≤ c) (hl : xs.length ≤ 1000000) :
    Calls Try.prog 39 #[.slice A n c] w fun e w' => ∃ A' c', e = .returned (.slice A' n c') ∧ n ≤ c' ∧ Kd.R Kd.string 9 w' w.heap.size (fun _ => True) (.slice A' n c') xs ∧ Below w.heap.size w w' := by
  subst hn
  refine (slices_Clone_string_string.calls A c xs xs w hr hc (if_pos (by omega))).mono ?_
  rintro e w1 ⟨v, rfl, hv, hb⟩
  obtain ⟨A1, c1, rfl, h1, _⟩ := Kd.R_reads hv
  exact ⟨A1, c1, rfl, h1, hv, hb⟩
end
end
set_option maxHeartbeats 2000000 in
set_option maxRecDepth 100000 in
theorem ins_wrong (B0 : Option Addr) (d0 : Nat) (a : List ByteArray) (B1 : Option Addr) (d1 : Nat) (b : List Int) (no : Int) (B3 : Option Addr) (d3 : Nat) (es : List ByteArray) (gone : Bool) (s : ByteArray) (w : World) (H : PreL B0 d0 a B1 d1 b no B3 d3 es gone s w) (hk : okL a b no es gone s = false) :
    Calls Try.prog 11 #[.agg #[.slice B0 a.length d0, .slice B1 b.length d1], .agg #[.int .i64 no, .slice B3 es.length d3, .bool gone], .string s] w (InsPost w [] [] [] 100) := by
  have HR0 := Lib.hid H.r0
  have HC0 := Lib.hid H.c0
  have HR1 := Lib.hid H.r1
  have HC1 := Lib.hid H.c1
  have HR3 := Lib.hid H.r3
  have HC3 := Lib.hid H.c3
  have hla := H.la
  have hlb := H.lb
  have hle := H.le
  have hu26 := Try.underlying26
  have hu28 := Try.underlying28

  have HOWN := Lib.hid (show leaf_own.f (a.length + es.length + 10) a b no es gone s = some ([], [], 0, [], false, 100) by rw [own_spec a b no es gone s (by omega) (by omega) (by omega) (by omega), hk]; rfl)
  have HBS := Lib.hid (show slices_BinarySearch_string_string.f (([] : List ByteArray).length + 1) [] s = some ((loS s [] : Int), fndS s []) from search_spec [] s rfl (by simp) (by simp))
  clear H hk
  go_enter Try.func11, Try.ntmps11
  go_wp2_with (first | ((with_reducible refine gate_dst (N := 3) rfl ?_); refine alloc_event ?hg (N := 3) ?hd (fun g => .pointer (some ⟨g, 0, none⟩)) (.cells #[.slice B0 a.length d0, .slice B1 b.length d1] 26 (0, 0)) ?hr ?_; (case hd => rfl); (case hg => rfl); (case hr => first | (go_simp; done) | (go_simp; rfl)); intro g3 hg w1 hbox hb; have HG3 := Lib.hid (show w.heap.size ≤ g3 by omega); have HX3_1 := Lib.hid hbox; have HB1 := Lib.hid (hb); clear hg hbox hb) | ((with_reducible refine gate_dst (N := 4) rfl ?_); refine alloc_event ?hg (N := 4) ?hd (fun g => .pointer (some ⟨g, 0, none⟩)) (.cells #[.int .i64 no, .slice B3 es.length d3, .bool gone] 28 (0, 0)) ?hr ?_; (case hd => rfl); (case hg => rfl); (case hr => first | (go_simp; done) | (go_simp; rfl)); intro g4 hg w2 hbox hb; have HG4 := Lib.hid (show w.heap.size ≤ g4 by rw [hg]; exact HB1.out.size); have HX4_2 := Lib.hid hbox; have HX3_2 := Lib.hid (blk_below HX3_1.out hb); have HN3_4 := Lib.hid (show g3 ≠ g4 by have := blk_lt HX3_1.out; omega); have HB2 := Lib.hid (below_then HB1.out HB1.out.size hb); clear hg hbox hb) | ((with_reducible refine gate_dst (N := 6) rfl ?_); refine alloc_event ?hg (N := 6) ?hd (fun g => .pointer (some ⟨g, 0, none⟩)) (.cells #[.slice none 0 0, .slice none 0 0] 26 (0, 0)) ?hr ?_; (case hd => rfl); (case hg => rfl); (case hr => first | (go_simp; done) | (go_simp; rfl)); intro g6 hg w3 hbox hb; have HG6 := Lib.hid (show w.heap.size ≤ g6 by rw [hg]; exact HB2.out.size); have HX6_3 := Lib.hid hbox; have HX3_3 := Lib.hid (blk_below HX3_2.out hb); have HN3_6 := Lib.hid (show g3 ≠ g6 by have := blk_lt HX3_2.out; omega); have HX4_3 := Lib.hid (blk_below HX4_2.out hb); have HN4_6 := Lib.hid (show g4 ≠ g6 by have := blk_lt HX4_2.out; omega); have HB3 := Lib.hid (below_then HB2.out HB2.out.size hb); clear hg hbox hb; have q30 : w3.cell? ⟨g3, 0, none⟩ = some (.slice B0 a.length d0) := (blk_cell HX3_3.out 0).trans rfl; have q31 : w3.cell? ⟨g3, 1, none⟩ = some (.slice B1 b.length d1) := (blk_cell HX3_3.out 1).trans rfl; have q40 : w3.cell? ⟨g4, 0, none⟩ = some (.int .i64 no) := (blk_cell HX4_3.out 0).trans rfl; have q41 : w3.cell? ⟨g4, 1, none⟩ = some (.slice B3 es.length d3) := (blk_cell HX4_3.out 1).trans rfl; have q42 : w3.cell? ⟨g4, 2, none⟩ = some (.bool gone) := (blk_cell HX4_3.out 2).trans rfl) | (go_at_call 34; refine (leaf_own.calls (a.length + es.length + 10) _ d0 a _ d1 b no _ d3 es gone s (([] : List ByteArray)) (([] : List Int)) (0) (([] : List ByteArray)) (false) (100) _ (Kd.C_below HR0.out HB3.out) HC0.out (Kd.C_below HR1.out HB3.out) HC1.out (Kd.C_below HR3.out HB3.out) HC3.out HOWN.out).mono ?_; rintro e w4 ⟨v0, v1, v3, rfl, h0, h1, h3, hb⟩; obtain ⟨A0, c0, rfl⟩ := Kd.R_slice h0; obtain ⟨A1, c1, rfl⟩ := Kd.R_slice h1; obtain ⟨A3, c3, rfl⟩ := Kd.R_slice h3; have H0_4 := Lib.hid (Kd.R_lower h0 HB3.out.size); have H1_4 := Lib.hid (Kd.R_lower h1 HB3.out.size); have H3_4 := Lib.hid (Kd.R_lower h3 HB3.out.size); have HX3_4 := Lib.hid (blk_below HX3_3.out hb); have HX4_4 := Lib.hid (blk_below HX4_3.out hb); have HX6_4 := Lib.hid (blk_below HX6_3.out hb); have HB4 := Lib.hid (below_then HB3.out HB3.out.size hb); clear h0 h1 h3 hb q30 q31 q40 q41 q42) | ((with_reducible refine gate_store (t := 26) (p := 3) rfl ?_); refine store_row rfl rfl rfl g3 _ 26 [.slice A0 (([] : List ByteArray)).length c0, .slice A1 (([] : List Int)).length c1] rfl (.agg #[.slice A0 (([] : List ByteArray)).length c0, .slice A1 (([] : List Int)).length c1]) ?haA ?hbA HX3_4.out rfl (by kernel_rfl) (two26 A0 (([] : List ByteArray)).length c0 A1 (([] : List Int)).length c1) ?_; (case haA => rfl); (case hbA => first | rfl | simp [Value.cells]); intro w5 hbox hg hz; have HX3_5 := Lib.hid hbox; have HX4_5 := Lib.hid (blk_grown HX4_4.out hg (fun e_ => HN3_4.out (by injection e_ with e_; exact e_.symm))); have HX6_5 := Lib.hid (blk_grown HX6_4.out hg (fun e_ => HN3_6.out (by injection e_ with e_; exact e_.symm))); have H0_5 := Lib.hid (Kd.R_grown1 H0_4.out rfl hg (Kd.R_ne H0_4.out HX3_4.out (by decide))); have H1_5 := Lib.hid (Kd.R_grown1 H1_4.out rfl hg (Kd.R_ne H1_4.out HX3_4.out (by decide))); have H3_5 := Lib.hid (Kd.R_grown1 H3_4.out rfl hg (Kd.R_ne H3_4.out HX3_4.out (by decide))); have HB5 := Lib.hid (below_own HB4.out hg HG3.out HB4.out.size); clear hbox hg hz) | ((with_reducible refine gate_store (t := 28) (p := 4) rfl ?_); refine store_row rfl rfl rfl g4 _ 28 [.int .i64 (0), .slice A3 (([] : List ByteArray)).length c3, .bool false] rfl (.agg #[.int .i64 (0), .slice A3 (([] : List ByteArray)).length c3, .bool false]) ?haB ?hbB HX4_5.out rfl (by kernel_rfl) (three28 (0) A3 (([] : List ByteArray)).length c3 false) ?_; (case haB => rfl); (case hbB => first | rfl | simp [Value.cells]); intro w6 hbox hg hz; have HS6 := Lib.hid (St.first HB5.out HX3_5.out HX4_5.out HX6_5.out H0_5.out H1_5.out H3_5.out HN3_4.out HN3_6.out HN4_6.out HG3.out HG4.out HG6.out hbox hg); clear hbox hg hz; refine Hold.go ?_))
  clear HX3_1 HX3_2 HX4_2 HX3_3 HX4_3 HX6_3 HX3_4 HX4_4 HX6_4 HX3_5 HX4_5 HX6_5 H0_4 H1_4 H3_4 H0_5 H1_5 H3_5 HB1 HB2 HB3 HB4 HB5 HN3_4 HN3_6 HN4_6 HG3 HG4 HG6 HOWN
  obtain ⟨q30, q31, q40, q41, q42⟩ := HS6.out.cells
  refine Hold.of ?_
  go_wp2_with (first | (go_at_call 35; refine (slices_BinarySearch_string_string.calls ((([] : List ByteArray)).length + 1) A3 c3 (([] : List ByteArray)) s (loS s (([] : List ByteArray)) : Int) (fndS s (([] : List ByteArray))) _ (Kd.R_reads' HS6.out.r3).2.2 (Kd.R_reads' HS6.out.r3).2.1 HBS.out).mono ?_; rintro e w7 ⟨rfl, hd⟩; have HS7 := Lib.hid (HS6.out.step hd.below); clear hd; refine Hold.go ?_))
  clear q30 q31 q40 q41 q42
  have HE0 := HS7.out.x6
  have HE := Lib.hid HE0
  clear HE0
  refine Hold.of ?_
  go_wp2_with (first | ((with_reducible refine gate_store (t := 26) (p := 6) rfl ?_); refine store_row rfl rfl rfl g6 _ 26 [.slice none 0 0, .slice none 0 0] rfl (.agg #[.slice none 0 0, .slice none 0 0]) ?haC ?hbC HE.out rfl (by kernel_rfl) (two26 none 0 0 none 0 0) ?_; (case haC => rfl); (case hbC => first | rfl | simp [Value.cells]); intro w8 hbox hg hz; have HX8 := Lib.hid hbox; have HB8 := Lib.hid (below_own HS7.out.below hg HS7.out.b6 HS7.out.below.size); clear hbox hg hz))
  refine bodyPost_ret (results_list (rs := [.cell 6 26, .tmp 7, .tmp 8]) rfl (by simp) (.cell g6 26 #[.slice none 0 0, .slice none 0 0] (0, 0) _ rfl HX8.out Try.underlying26 rfl (by kernel_rfl) (.tmp (.tmp .nil)))) rfl ?_
  exact ⟨_, _, _, rfl, Kd.R_nil _ _ _ _ _, Kd.R_nil _ _ _ _ _, Kd.N_nil _ _ _ _ _, HB8.out⟩
set_option maxHeartbeats 2000000 in
set_option maxRecDepth 100000 in
theorem ins_long (B0 : Option Addr) (d0 : Nat) (a : List ByteArray) (B1 : Option Addr) (d1 : Nat) (b : List Int) (no : Int) (B3 : Option Addr) (d3 : Nat) (es : List ByteArray) (gone : Bool) (s : ByteArray) (w : World) (H : PreL B0 d0 a B1 d1 b no B3 d3 es gone s w) (hk : okL a b no es gone s = true) (hs : s.size > 600) :
    Calls Try.prog 11 #[.agg #[.slice B0 a.length d0, .slice B1 b.length d1], .agg #[.int .i64 no, .slice B3 es.length d3, .bool gone], .string s] w (InsPost w [] [] [] 82) := by
  have HR0 := Lib.hid H.r0
  have HC0 := Lib.hid H.c0
  have HR1 := Lib.hid H.r1
  have HC1 := Lib.hid H.c1
  have HR3 := Lib.hid H.r3
  have HC3 := Lib.hid H.c3
  have hla := H.la
  have hlb := H.lb
  have hle := H.le
  have hu26 := Try.underlying26
  have hu28 := Try.underlying28

  have HOWN := Lib.hid (show leaf_own.f (a.length + es.length + 10) a b no es gone s = some (a, b, no, es, gone, 0) by rw [own_spec a b no es gone s (by omega) (by omega) (by omega) (by omega), hk]; rfl)
  have HRI := Lib.hid ((leafB_iff.1 (okL_iff.1 hk).1).2.2)
  have hl4 := (leafB_iff.1 (okL_iff.1 hk).1).2.1
  have HBS := Lib.hid (show slices_BinarySearch_string_string.f (es.length + 1) es s = some ((loS s es : Int), fndS s es) from search_spec es s HRI.out (by omega) (by omega))
  have hs1 : decide ((600 : Int) < (s.size : Int)) = true := decide_eq_true (by omega)
  have hs2 : decide (600 < s.size) = true := decide_eq_true hs
  clear H hk hs
  go_enter Try.func11, Try.ntmps11
  go_wp2_with (first | ((with_reducible refine gate_dst (N := 3) rfl ?_); refine alloc_event ?hg (N := 3) ?hd (fun g => .pointer (some ⟨g, 0, none⟩)) (.cells #[.slice B0 a.length d0, .slice B1 b.length d1] 26 (0, 0)) ?hr ?_; (case hd => rfl); (case hg => rfl); (case hr => first | (go_simp; done) | (go_simp; rfl)); intro g3 hg w1 hbox hb; have HG3 := Lib.hid (show w.heap.size ≤ g3 by omega); have HX3_1 := Lib.hid hbox; have HB1 := Lib.hid (hb); clear hg hbox hb) | ((with_reducible refine gate_dst (N := 4) rfl ?_); refine alloc_event ?hg (N := 4) ?hd (fun g => .pointer (some ⟨g, 0, none⟩)) (.cells #[.int .i64 no, .slice B3 es.length d3, .bool gone] 28 (0, 0)) ?hr ?_; (case hd => rfl); (case hg => rfl); (case hr => first | (go_simp; done) | (go_simp; rfl)); intro g4 hg w2 hbox hb; have HG4 := Lib.hid (show w.heap.size ≤ g4 by rw [hg]; exact HB1.out.size); have HX4_2 := Lib.hid hbox; have HX3_2 := Lib.hid (blk_below HX3_1.out hb); have HN3_4 := Lib.hid (show g3 ≠ g4 by have := blk_lt HX3_1.out; omega); have HB2 := Lib.hid (below_then HB1.out HB1.out.size hb); clear hg hbox hb) | ((with_reducible refine gate_dst (N := 6) rfl ?_); refine alloc_event ?hg (N := 6) ?hd (fun g => .pointer (some ⟨g, 0, none⟩)) (.cells #[.slice none 0 0, .slice none 0 0] 26 (0, 0)) ?hr ?_; (case hd => rfl); (case hg => rfl); (case hr => first | (go_simp; done) | (go_simp; rfl)); intro g6 hg w3 hbox hb; have HG6 := Lib.hid (show w.heap.size ≤ g6 by rw [hg]; exact HB2.out.size); have HX6_3 := Lib.hid hbox; have HX3_3 := Lib.hid (blk_below HX3_2.out hb); have HN3_6 := Lib.hid (show g3 ≠ g6 by have := blk_lt HX3_2.out; omega); have HX4_3 := Lib.hid (blk_below HX4_2.out hb); have HN4_6 := Lib.hid (show g4 ≠ g6 by have := blk_lt HX4_2.out; omega); have HB3 := Lib.hid (below_then HB2.out HB2.out.size hb); clear hg hbox hb; have q30 : w3.cell? ⟨g3, 0, none⟩ = some (.slice B0 a.length d0) := (blk_cell HX3_3.out 0).trans rfl; have q31 : w3.cell? ⟨g3, 1, none⟩ = some (.slice B1 b.length d1) := (blk_cell HX3_3.out 1).trans rfl; have q40 : w3.cell? ⟨g4, 0, none⟩ = some (.int .i64 no) := (blk_cell HX4_3.out 0).trans rfl; have q41 : w3.cell? ⟨g4, 1, none⟩ = some (.slice B3 es.length d3) := (blk_cell HX4_3.out 1).trans rfl; have q42 : w3.cell? ⟨g4, 2, none⟩ = some (.bool gone) := (blk_cell HX4_3.out 2).trans rfl) | (go_at_call 34; refine (leaf_own.calls (a.length + es.length + 10) _ d0 a _ d1 b no _ d3 es gone s (a) (b) (no) (es) (gone) (0) _ (Kd.C_below HR0.out HB3.out) HC0.out (Kd.C_below HR1.out HB3.out) HC1.out (Kd.C_below HR3.out HB3.out) HC3.out HOWN.out).mono ?_; rintro e w4 ⟨v0, v1, v3, rfl, h0, h1, h3, hb⟩; obtain ⟨A0, c0, rfl⟩ := Kd.R_slice h0; obtain ⟨A1, c1, rfl⟩ := Kd.R_slice h1; obtain ⟨A3, c3, rfl⟩ := Kd.R_slice h3; have H0_4 := Lib.hid (Kd.R_lower h0 HB3.out.size); have H1_4 := Lib.hid (Kd.R_lower h1 HB3.out.size); have H3_4 := Lib.hid (Kd.R_lower h3 HB3.out.size); have HX3_4 := Lib.hid (blk_below HX3_3.out hb); have HX4_4 := Lib.hid (blk_below HX4_3.out hb); have HX6_4 := Lib.hid (blk_below HX6_3.out hb); have HB4 := Lib.hid (below_then HB3.out HB3.out.size hb); clear h0 h1 h3 hb q30 q31 q40 q41 q42) | ((with_reducible refine gate_store (t := 26) (p := 3) rfl ?_); refine store_row rfl rfl rfl g3 _ 26 [.slice A0 (a).length c0, .slice A1 (b).length c1] rfl (.agg #[.slice A0 (a).length c0, .slice A1 (b).length c1]) ?haA ?hbA HX3_4.out rfl (by kernel_rfl) (two26 A0 (a).length c0 A1 (b).length c1) ?_; (case haA => rfl); (case hbA => first | rfl | simp [Value.cells]); intro w5 hbox hg hz; have HX3_5 := Lib.hid hbox; have HX4_5 := Lib.hid (blk_grown HX4_4.out hg (fun e_ => HN3_4.out (by injection e_ with e_; exact e_.symm))); have HX6_5 := Lib.hid (blk_grown HX6_4.out hg (fun e_ => HN3_6.out (by injection e_ with e_; exact e_.symm))); have H0_5 := Lib.hid (Kd.R_grown1 H0_4.out rfl hg (Kd.R_ne H0_4.out HX3_4.out (by decide))); have H1_5 := Lib.hid (Kd.R_grown1 H1_4.out rfl hg (Kd.R_ne H1_4.out HX3_4.out (by decide))); have H3_5 := Lib.hid (Kd.R_grown1 H3_4.out rfl hg (Kd.R_ne H3_4.out HX3_4.out (by decide))); have HB5 := Lib.hid (below_own HB4.out hg HG3.out HB4.out.size); clear hbox hg hz) | ((with_reducible refine gate_store (t := 28) (p := 4) rfl ?_); refine store_row rfl rfl rfl g4 _ 28 [.int .i64 (no), .slice A3 (es).length c3, .bool gone] rfl (.agg #[.int .i64 (no), .slice A3 (es).length c3, .bool gone]) ?haB ?hbB HX4_5.out rfl (by kernel_rfl) (three28 (no) A3 (es).length c3 gone) ?_; (case haB => rfl); (case hbB => first | rfl | simp [Value.cells]); intro w6 hbox hg hz; have HS6 := Lib.hid (St.first HB5.out HX3_5.out HX4_5.out HX6_5.out H0_5.out H1_5.out H3_5.out HN3_4.out HN3_6.out HN4_6.out HG3.out HG4.out HG6.out hbox hg); clear hbox hg hz; refine Hold.go ?_))
  clear HX3_1 HX3_2 HX4_2 HX3_3 HX4_3 HX6_3 HX3_4 HX4_4 HX6_4 HX3_5 HX4_5 HX6_5 H0_4 H1_4 H3_4 H0_5 H1_5 H3_5 HB1 HB2 HB3 HB4 HB5 HN3_4 HN3_6 HN4_6 HG3 HG4 HG6 HOWN
  obtain ⟨q30, q31, q40, q41, q42⟩ := HS6.out.cells
  refine Hold.of ?_
  go_wp2_with (first | (go_at_call 35; refine (slices_BinarySearch_string_string.calls ((es).length + 1) A3 c3 (es) s (loS s (es) : Int) (fndS s (es)) _ (Kd.R_reads' HS6.out.r3).2.2 (Kd.R_reads' HS6.out.r3).2.1 HBS.out).mono ?_; rintro e w7 ⟨rfl, hd⟩; have HS7 := Lib.hid (HS6.out.step hd.below); clear hd; refine Hold.go ?_))
  clear q30 q31 q40 q41 q42
  have HE := Lib.hid HS7.out.x6
  refine Hold.of ?_
  go_wp2_with (first | ((with_reducible refine gate_store (t := 26) (p := 6) rfl ?_); refine store_row rfl rfl rfl g6 _ 26 [.slice none 0 0, .slice none 0 0] rfl (.agg #[.slice none 0 0, .slice none 0 0]) ?haC ?hbC HE.out rfl (by kernel_rfl) (two26 none 0 0 none 0 0) ?_; (case haC => rfl); (case hbC => first | rfl | simp [Value.cells]); intro w8 hbox hg hz; have HX8 := Lib.hid hbox; have HB8 := Lib.hid (below_own HS7.out.below hg HS7.out.b6 HS7.out.below.size); clear hbox hg hz))
  refine bodyPost_ret (results_list (rs := [.cell 6 26, .tmp 7, .tmp 8]) rfl (by simp) (.cell g6 26 #[.slice none 0 0, .slice none 0 0] (0, 0) _ rfl HX8.out Try.underlying26 rfl (by kernel_rfl) (.tmp (.tmp .nil)))) rfl ?_
  exact ⟨_, _, _, rfl, Kd.R_nil _ _ _ _ _, Kd.R_nil _ _ _ _ _, Kd.N_nil _ _ _ _ _, HB8.out⟩
set_option maxHeartbeats 2000000 in
set_option maxRecDepth 100000 in
theorem ins_twice (B0 : Option Addr) (d0 : Nat) (a : List ByteArray) (B1 : Option Addr) (d1 : Nat) (b : List Int) (no : Int) (B3 : Option Addr) (d3 : Nat) (es : List ByteArray) (gone : Bool) (s : ByteArray) (w : World) (H : PreL B0 d0 a B1 d1 b no B3 d3 es gone s w) (hk : okL a b no es gone s = true) (hs : ¬ s.size > 600) (hf : fndS s es = true) :
    Calls Try.prog 11 #[.agg #[.slice B0 a.length d0, .slice B1 b.length d1], .agg #[.int .i64 no, .slice B3 es.length d3, .bool gone], .string s] w (InsPost w [] [] [] 31) := by
  have HR0 := Lib.hid H.r0
  have HC0 := Lib.hid H.c0
  have HR1 := Lib.hid H.r1
  have HC1 := Lib.hid H.c1
  have HR3 := Lib.hid H.r3
  have HC3 := Lib.hid H.c3
  have hla := H.la
  have hlb := H.lb
  have hle := H.le
  have hu26 := Try.underlying26
  have hu28 := Try.underlying28

  have HOWN := Lib.hid (show leaf_own.f (a.length + es.length + 10) a b no es gone s = some (a, b, no, es, gone, 0) by rw [own_spec a b no es gone s (by omega) (by omega) (by omega) (by omega), hk]; rfl)
  have HRI := Lib.hid ((leafB_iff.1 (okL_iff.1 hk).1).2.2)
  have hl4 := (leafB_iff.1 (okL_iff.1 hk).1).2.1
  have HBS := Lib.hid (show slices_BinarySearch_string_string.f (es.length + 1) es s = some ((loS s es : Int), fndS s es) from search_spec es s HRI.out (by omega) (by omega))
  have hs1 : decide ((600 : Int) < (s.size : Int)) = false := decide_eq_false (by omega)
  have hs2 : decide (600 < s.size) = false := decide_eq_false hs
  clear H hk hs
  go_enter Try.func11, Try.ntmps11
  go_wp2_with (first | ((with_reducible refine gate_dst (N := 3) rfl ?_); refine alloc_event ?hg (N := 3) ?hd (fun g => .pointer (some ⟨g, 0, none⟩)) (.cells #[.slice B0 a.length d0, .slice B1 b.length d1] 26 (0, 0)) ?hr ?_; (case hd => rfl); (case hg => rfl); (case hr => first | (go_simp; done) | (go_simp; rfl)); intro g3 hg w1 hbox hb; have HG3 := Lib.hid (show w.heap.size ≤ g3 by omega); have HX3_1 := Lib.hid hbox; have HB1 := Lib.hid (hb); clear hg hbox hb) | ((with_reducible refine gate_dst (N := 4) rfl ?_); refine alloc_event ?hg (N := 4) ?hd (fun g => .pointer (some ⟨g, 0, none⟩)) (.cells #[.int .i64 no, .slice B3 es.length d3, .bool gone] 28 (0, 0)) ?hr ?_; (case hd => rfl); (case hg => rfl); (case hr => first | (go_simp; done) | (go_simp; rfl)); intro g4 hg w2 hbox hb; have HG4 := Lib.hid (show w.heap.size ≤ g4 by rw [hg]; exact HB1.out.size); have HX4_2 := Lib.hid hbox; have HX3_2 := Lib.hid (blk_below HX3_1.out hb); have HN3_4 := Lib.hid (show g3 ≠ g4 by have := blk_lt HX3_1.out; omega); have HB2 := Lib.hid (below_then HB1.out HB1.out.size hb); clear hg hbox hb) | ((with_reducible refine gate_dst (N := 6) rfl ?_); refine alloc_event ?hg (N := 6) ?hd (fun g => .pointer (some ⟨g, 0, none⟩)) (.cells #[.slice none 0 0, .slice none 0 0] 26 (0, 0)) ?hr ?_; (case hd => rfl); (case hg => rfl); (case hr => first | (go_simp; done) | (go_simp; rfl)); intro g6 hg w3 hbox hb; have HG6 := Lib.hid (show w.heap.size ≤ g6 by rw [hg]; exact HB2.out.size); have HX6_3 := Lib.hid hbox; have HX3_3 := Lib.hid (blk_below HX3_2.out hb); have HN3_6 := Lib.hid (show g3 ≠ g6 by have := blk_lt HX3_2.out; omega); have HX4_3 := Lib.hid (blk_below HX4_2.out hb); have HN4_6 := Lib.hid (show g4 ≠ g6 by have := blk_lt HX4_2.out; omega); have HB3 := Lib.hid (below_then HB2.out HB2.out.size hb); clear hg hbox hb; have q30 : w3.cell? ⟨g3, 0, none⟩ = some (.slice B0 a.length d0) := (blk_cell HX3_3.out 0).trans rfl; have q31 : w3.cell? ⟨g3, 1, none⟩ = some (.slice B1 b.length d1) := (blk_cell HX3_3.out 1).trans rfl; have q40 : w3.cell? ⟨g4, 0, none⟩ = some (.int .i64 no) := (blk_cell HX4_3.out 0).trans rfl; have q41 : w3.cell? ⟨g4, 1, none⟩ = some (.slice B3 es.length d3) := (blk_cell HX4_3.out 1).trans rfl; have q42 : w3.cell? ⟨g4, 2, none⟩ = some (.bool gone) := (blk_cell HX4_3.out 2).trans rfl) | (go_at_call 34; refine (leaf_own.calls (a.length + es.length + 10) _ d0 a _ d1 b no _ d3 es gone s (a) (b) (no) (es) (gone) (0) _ (Kd.C_below HR0.out HB3.out) HC0.out (Kd.C_below HR1.out HB3.out) HC1.out (Kd.C_below HR3.out HB3.out) HC3.out HOWN.out).mono ?_; rintro e w4 ⟨v0, v1, v3, rfl, h0, h1, h3, hb⟩; obtain ⟨A0, c0, rfl⟩ := Kd.R_slice h0; obtain ⟨A1, c1, rfl⟩ := Kd.R_slice h1; obtain ⟨A3, c3, rfl⟩ := Kd.R_slice h3; have H0_4 := Lib.hid (Kd.R_lower h0 HB3.out.size); have H1_4 := Lib.hid (Kd.R_lower h1 HB3.out.size); have H3_4 := Lib.hid (Kd.R_lower h3 HB3.out.size); have HX3_4 := Lib.hid (blk_below HX3_3.out hb); have HX4_4 := Lib.hid (blk_below HX4_3.out hb); have HX6_4 := Lib.hid (blk_below HX6_3.out hb); have HB4 := Lib.hid (below_then HB3.out HB3.out.size hb); clear h0 h1 h3 hb q30 q31 q40 q41 q42) | ((with_reducible refine gate_store (t := 26) (p := 3) rfl ?_); refine store_row rfl rfl rfl g3 _ 26 [.slice A0 (a).length c0, .slice A1 (b).length c1] rfl (.agg #[.slice A0 (a).length c0, .slice A1 (b).length c1]) ?haA ?hbA HX3_4.out rfl (by kernel_rfl) (two26 A0 (a).length c0 A1 (b).length c1) ?_; (case haA => rfl); (case hbA => first | rfl | simp [Value.cells]); intro w5 hbox hg hz; have HX3_5 := Lib.hid hbox; have HX4_5 := Lib.hid (blk_grown HX4_4.out hg (fun e_ => HN3_4.out (by injection e_ with e_; exact e_.symm))); have HX6_5 := Lib.hid (blk_grown HX6_4.out hg (fun e_ => HN3_6.out (by injection e_ with e_; exact e_.symm))); have H0_5 := Lib.hid (Kd.R_grown1 H0_4.out rfl hg (Kd.R_ne H0_4.out HX3_4.out (by decide))); have H1_5 := Lib.hid (Kd.R_grown1 H1_4.out rfl hg (Kd.R_ne H1_4.out HX3_4.out (by decide))); have H3_5 := Lib.hid (Kd.R_grown1 H3_4.out rfl hg (Kd.R_ne H3_4.out HX3_4.out (by decide))); have HB5 := Lib.hid (below_own HB4.out hg HG3.out HB4.out.size); clear hbox hg hz) | ((with_reducible refine gate_store (t := 28) (p := 4) rfl ?_); refine store_row rfl rfl rfl g4 _ 28 [.int .i64 (no), .slice A3 (es).length c3, .bool gone] rfl (.agg #[.int .i64 (no), .slice A3 (es).length c3, .bool gone]) ?haB ?hbB HX4_5.out rfl (by kernel_rfl) (three28 (no) A3 (es).length c3 gone) ?_; (case haB => rfl); (case hbB => first | rfl | simp [Value.cells]); intro w6 hbox hg hz; have HS6 := Lib.hid (St.first HB5.out HX3_5.out HX4_5.out HX6_5.out H0_5.out H1_5.out H3_5.out HN3_4.out HN3_6.out HN4_6.out HG3.out HG4.out HG6.out hbox hg); clear hbox hg hz; refine Hold.go ?_))
  clear HX3_1 HX3_2 HX4_2 HX3_3 HX4_3 HX6_3 HX3_4 HX4_4 HX6_4 HX3_5 HX4_5 HX6_5 H0_4 H1_4 H3_4 H0_5 H1_5 H3_5 HB1 HB2 HB3 HB4 HB5 HN3_4 HN3_6 HN4_6 HG3 HG4 HG6 HOWN
  obtain ⟨q30, q31, q40, q41, q42⟩ := HS6.out.cells
  refine Hold.of ?_
  go_wp2_with (first | (go_at_call 35; refine (slices_BinarySearch_string_string.calls ((es).length + 1) A3 c3 (es) s (loS s (es) : Int) (fndS s (es)) _ (Kd.R_reads' HS6.out.r3).2.2 (Kd.R_reads' HS6.out.r3).2.1 HBS.out).mono ?_; rintro e w7 ⟨rfl, hd⟩; have HS7 := Lib.hid (HS6.out.step hd.below); clear hd; refine Hold.go ?_))
  clear q30 q31 q40 q41 q42
  have HE := Lib.hid HS7.out.x6
  refine Hold.of ?_
  go_wp2_with (first | ((with_reducible refine gate_store (t := 26) (p := 6) rfl ?_); refine store_row rfl rfl rfl g6 _ 26 [.slice none 0 0, .slice none 0 0] rfl (.agg #[.slice none 0 0, .slice none 0 0]) ?haC ?hbC HE.out rfl (by kernel_rfl) (two26 none 0 0 none 0 0) ?_; (case haC => rfl); (case hbC => first | rfl | simp [Value.cells]); intro w8 hbox hg hz; have HX8 := Lib.hid hbox; have HB8 := Lib.hid (below_own HS7.out.below hg HS7.out.b6 HS7.out.below.size); clear hbox hg hz))
  refine bodyPost_ret (results_list (rs := [.cell 6 26, .tmp 7, .tmp 8]) rfl (by simp) (.cell g6 26 #[.slice none 0 0, .slice none 0 0] (0, 0) _ rfl HX8.out Try.underlying26 rfl (by kernel_rfl) (.tmp (.tmp .nil)))) rfl ?_
  exact ⟨_, _, _, rfl, Kd.R_nil _ _ _ _ _, Kd.R_nil _ _ _ _ _, Kd.N_nil _ _ _ _ _, HB8.out⟩
set_option maxHeartbeats 2000000 in
set_option maxRecDepth 100000 in
theorem ins_small (B0 : Option Addr) (d0 : Nat) (a : List ByteArray) (B1 : Option Addr) (d1 : Nat) (b : List Int) (no : Int) (B3 : Option Addr) (d3 : Nat) (es : List ByteArray) (gone : Bool) (s : ByteArray) (w : World) (H : PreL B0 d0 a B1 d1 b no B3 d3 es gone s w) (hk : okL a b no es gone s = true) (hs : ¬ s.size > 600) (hf : fndS s es = false) (h4 : (insS s es).length ≤ 4) :
    Calls Try.prog 11 #[.agg #[.slice B0 a.length d0, .slice B1 b.length d1], .agg #[.int .i64 no, .slice B3 es.length d3, .bool gone], .string s] w (InsPost w a b [⟨no, insS s es, gone⟩] 0) := by
  have HR0 := Lib.hid H.r0
  have HC0 := Lib.hid H.c0
  have HR1 := Lib.hid H.r1
  have HC1 := Lib.hid H.c1
  have HR3 := Lib.hid H.r3
  have HC3 := Lib.hid H.c3
  have hla := H.la
  have hlb := H.lb
  have hle := H.le
  have hu26 := Try.underlying26
  have hu28 := Try.underlying28

  have HOWN := Lib.hid (show leaf_own.f (a.length + es.length + 10) a b no es gone s = some (a, b, no, es, gone, 0) by rw [own_spec a b no es gone s (by omega) (by omega) (by omega) (by omega), hk]; rfl)
  have HRI := Lib.hid ((leafB_iff.1 (okL_iff.1 hk).1).2.2)
  have hl4 := (leafB_iff.1 (okL_iff.1 hk).1).2.1
  have HBS := Lib.hid (show slices_BinarySearch_string_string.f (es.length + 1) es s = some ((loS s es : Int), fndS s es) from search_spec es s HRI.out (by omega) (by omega))
  have hs1 : decide ((600 : Int) < (s.size : Int)) = false := decide_eq_false (by omega)
  have hs2 : decide (600 < s.size) = false := decide_eq_false hs
  clear H hk hs
  go_enter Try.func11, Try.ntmps11
  go_wp2_with (first | ((with_reducible refine gate_dst (N := 3) rfl ?_); refine alloc_event ?hg (N := 3) ?hd (fun g => .pointer (some ⟨g, 0, none⟩)) (.cells #[.slice B0 a.length d0, .slice B1 b.length d1] 26 (0, 0)) ?hr ?_; (case hd => rfl); (case hg => rfl); (case hr => first | (go_simp; done) | (go_simp; rfl)); intro g3 hg w1 hbox hb; have HG3 := Lib.hid (show w.heap.size ≤ g3 by omega); have HX3_1 := Lib.hid hbox; have HB1 := Lib.hid (hb); clear hg hbox hb) | ((with_reducible refine gate_dst (N := 4) rfl ?_); refine alloc_event ?hg (N := 4) ?hd (fun g => .pointer (some ⟨g, 0, none⟩)) (.cells #[.int .i64 no, .slice B3 es.length d3, .bool gone] 28 (0, 0)) ?hr ?_; (case hd => rfl); (case hg => rfl); (case hr => first | (go_simp; done) | (go_simp; rfl)); intro g4 hg w2 hbox hb; have HG4 := Lib.hid (show w.heap.size ≤ g4 by rw [hg]; exact HB1.out.size); have HX4_2 := Lib.hid hbox; have HX3_2 := Lib.hid (blk_below HX3_1.out hb); have HN3_4 := Lib.hid (show g3 ≠ g4 by have := blk_lt HX3_1.out; omega); have HB2 := Lib.hid (below_then HB1.out HB1.out.size hb); clear hg hbox hb) | ((with_reducible refine gate_dst (N := 6) rfl ?_); refine alloc_event ?hg (N := 6) ?hd (fun g => .pointer (some ⟨g, 0, none⟩)) (.cells #[.slice none 0 0, .slice none 0 0] 26 (0, 0)) ?hr ?_; (case hd => rfl); (case hg => rfl); (case hr => first | (go_simp; done) | (go_simp; rfl)); intro g6 hg w3 hbox hb; have HG6 := Lib.hid (show w.heap.size ≤ g6 by rw [hg]; exact HB2.out.size); have HX6_3 := Lib.hid hbox; have HX3_3 := Lib.hid (blk_below HX3_2.out hb); have HN3_6 := Lib.hid (show g3 ≠ g6 by have := blk_lt HX3_2.out; omega); have HX4_3 := Lib.hid (blk_below HX4_2.out hb); have HN4_6 := Lib.hid (show g4 ≠ g6 by have := blk_lt HX4_2.out; omega); have HB3 := Lib.hid (below_then HB2.out HB2.out.size hb); clear hg hbox hb; have q30 : w3.cell? ⟨g3, 0, none⟩ = some (.slice B0 a.length d0) := (blk_cell HX3_3.out 0).trans rfl; have q31 : w3.cell? ⟨g3, 1, none⟩ = some (.slice B1 b.length d1) := (blk_cell HX3_3.out 1).trans rfl; have q40 : w3.cell? ⟨g4, 0, none⟩ = some (.int .i64 no) := (blk_cell HX4_3.out 0).trans rfl; have q41 : w3.cell? ⟨g4, 1, none⟩ = some (.slice B3 es.length d3) := (blk_cell HX4_3.out 1).trans rfl; have q42 : w3.cell? ⟨g4, 2, none⟩ = some (.bool gone) := (blk_cell HX4_3.out 2).trans rfl) | (go_at_call 34; refine (leaf_own.calls (a.length + es.length + 10) _ d0 a _ d1 b no _ d3 es gone s (a) (b) (no) (es) (gone) (0) _ (Kd.C_below HR0.out HB3.out) HC0.out (Kd.C_below HR1.out HB3.out) HC1.out (Kd.C_below HR3.out HB3.out) HC3.out HOWN.out).mono ?_; rintro e w4 ⟨v0, v1, v3, rfl, h0, h1, h3, hb⟩; obtain ⟨A0, c0, rfl⟩ := Kd.R_slice h0; obtain ⟨A1, c1, rfl⟩ := Kd.R_slice h1; obtain ⟨A3, c3, rfl⟩ := Kd.R_slice h3; have H0_4 := Lib.hid (Kd.R_lower h0 HB3.out.size); have H1_4 := Lib.hid (Kd.R_lower h1 HB3.out.size); have H3_4 := Lib.hid (Kd.R_lower h3 HB3.out.size); have HX3_4 := Lib.hid (blk_below HX3_3.out hb); have HX4_4 := Lib.hid (blk_below HX4_3.out hb); have HX6_4 := Lib.hid (blk_below HX6_3.out hb); have HB4 := Lib.hid (below_then HB3.out HB3.out.size hb); clear h0 h1 h3 hb q30 q31 q40 q41 q42) | ((with_reducible refine gate_store (t := 26) (p := 3) rfl ?_); refine store_row rfl rfl rfl g3 _ 26 [.slice A0 (a).length c0, .slice A1 (b).length c1] rfl (.agg #[.slice A0 (a).length c0, .slice A1 (b).length c1]) ?haA ?hbA HX3_4.out rfl (by kernel_rfl) (two26 A0 (a).length c0 A1 (b).length c1) ?_; (case haA => rfl); (case hbA => first | rfl | simp [Value.cells]); intro w5 hbox hg hz; have HX3_5 := Lib.hid hbox; have HX4_5 := Lib.hid (blk_grown HX4_4.out hg (fun e_ => HN3_4.out (by injection e_ with e_; exact e_.symm))); have HX6_5 := Lib.hid (blk_grown HX6_4.out hg (fun e_ => HN3_6.out (by injection e_ with e_; exact e_.symm))); have H0_5 := Lib.hid (Kd.R_grown1 H0_4.out rfl hg (Kd.R_ne H0_4.out HX3_4.out (by decide))); have H1_5 := Lib.hid (Kd.R_grown1 H1_4.out rfl hg (Kd.R_ne H1_4.out HX3_4.out (by decide))); have H3_5 := Lib.hid (Kd.R_grown1 H3_4.out rfl hg (Kd.R_ne H3_4.out HX3_4.out (by decide))); have HB5 := Lib.hid (below_own HB4.out hg HG3.out HB4.out.size); clear hbox hg hz) | ((with_reducible refine gate_store (t := 28) (p := 4) rfl ?_); refine store_row rfl rfl rfl g4 _ 28 [.int .i64 (no), .slice A3 (es).length c3, .bool gone] rfl (.agg #[.int .i64 (no), .slice A3 (es).length c3, .bool gone]) ?haB ?hbB HX4_5.out rfl (by kernel_rfl) (three28 (no) A3 (es).length c3 gone) ?_; (case haB => rfl); (case hbB => first | rfl | simp [Value.cells]); intro w6 hbox hg hz; have HS6 := Lib.hid (St.first HB5.out HX3_5.out HX4_5.out HX6_5.out H0_5.out H1_5.out H3_5.out HN3_4.out HN3_6.out HN4_6.out HG3.out HG4.out HG6.out hbox hg); clear hbox hg hz; refine Hold.go ?_))
  clear HX3_1 HX3_2 HX4_2 HX3_3 HX4_3 HX6_3 HX3_4 HX4_4 HX6_4 HX3_5 HX4_5 HX6_5 H0_4 H1_4 H3_4 H0_5 H1_5 H3_5 HB1 HB2 HB3 HB4 HB5 HN3_4 HN3_6 HN4_6 HG3 HG4 HG6 HOWN
  obtain ⟨q30, q31, q40, q41, q42⟩ := HS6.out.cells
  refine Hold.of ?_
  go_wp2_with (first | (go_at_call 35; refine (slices_BinarySearch_string_string.calls ((es).length + 1) A3 c3 (es) s (loS s (es) : Int) (fndS s (es)) _ (Kd.R_reads' HS6.out.r3).2.2 (Kd.R_reads' HS6.out.r3).2.1 HBS.out).mono ?_; rintro e w7 ⟨rfl, hd⟩; have HS7 := Lib.hid (HS6.out.step hd.below); clear hd; refine Hold.go ?_))
  clear q30 q31 q40 q41 q42

  obtain ⟨q30, q31, q40, q41, q42⟩ := HS7.out.cells
  refine Hold.of ?_
  go_wp2_with (first | ((with_reducible refine gate_dst (N := 47) rfl ?_); refine alloc_event ?hg (N := 47) ?hd (fun g => .slice (some ⟨g, 0, none⟩) 1 1) (.cells #[.string s] 9 (0, 0)) ?hr ?_; (case hd => rfl); (case hg => rfl); (case hr => first | (go_simp; done) | (go_simp; rfl)); intro g9 hg w8 hbox hb; have HG9 := Lib.hid hg; have HX9 := Lib.hid hbox; have HS8 := Lib.hid (HS7.out.step hb); clear hg hbox hb q30 q31 q40 q41 q42) | (go_at_call 36; refine (insS_at (i := loS s es) (x := s) HS8.out.r3 HS8.out.below (loS_le s es) HX9.out (fun e_ => by have h1 := Kd.R_lt HS7.out.r3 _ e_.symm; have h2 := HG9.out; omega) HS8.out.below.size (by omega)).mono ?_; rintro e w9 ⟨v9, rfl, hv, hb, hg, hn⟩; obtain ⟨A9, c9, rfl⟩ := Kd.R_slice hv; have HS9 := Lib.hid (St.grew3 HS8.out hv hb hg hn); clear hv hb hg hn) | ((with_reducible refine gate_store (t := 22) (p := 49) rfl ?_); refine store_cell rfl rfl rfl g4 1 _ 28 rfl (.slice A9 (insAt (loS s es) s es).length c9) ?haD ?hbD HS9.out.x4 (by simp) (by kernel_rfl) rfl ?_; (case haD => rfl); (case hbD => first | rfl | simp [Value.cells]); intro w10 hbox hg hz; have HS10 := Lib.hid (St.put3 HS9.out hbox hg); clear hbox hg hz; refine Hold.go ?_))
  change (insAt (loS s es) s es).length ≤ 4 at h4
  change Hold _
  show _
  generalize hids : insAt (loS s es) s es = ids at *
  have hlb : decide ((ids.length : Int) ≤ 4) = true := decide_eq_true (by omega)
  have hlc : decide (ids.length ≤ 4) = true := decide_eq_true h4
  clear HS6 HS7 HS8 HS9 HX9 HG9 HBS HRI hf hs1 hs2
  obtain ⟨q30, q31, q40, q41, q42⟩ := HS10.out.cells
  have q60 : w10.cell? ⟨g6, 0, none⟩ = some (.slice none 0 0) := (blk_cell HS10.out.x6 0).trans rfl
  have q61 : w10.cell? ⟨g6, 1, none⟩ = some (.slice none 0 0) := (blk_cell HS10.out.x6 1).trans rfl
  have f60 := blk_frozen HS10.out.x6 0
  have f61 := blk_frozen HS10.out.x6 1
  have b3 := blk_lt HS10.out.x3
  have b4 := blk_lt HS10.out.x4
  have b6 := blk_lt HS10.out.x6
  have n36 := HS10.out.n36
  have n46 := HS10.out.n46
  have n63 := n36.symm
  have n64 := n46.symm
  refine Hold.of ?_
  go_upto_region 11 with (fail)
  go_region
  all_goals go_wp2
  obtain ⟨hx, e0, e1, _, hb, _⟩ := HS10.out.out (.slice A0 a.length c0) (.slice A1 b.length c1) (.cells #[.int .i64 no, .slice A9 ids.length c9, .bool gone] 28 (0, 0))
  refine bodyPost_ret (results_list (rs := [.cell 6 26, .tmp 7, .tmp 8]) rfl (by simp) (.cell g6 26 #[.slice A0 a.length c0, .slice A1 b.length c1] (0, 0) _ rfl hx Try.underlying26 rfl (by kernel_rfl) (.tmp (.tmp .nil)))) rfl ?_
  have hi2 : insS s es = ids := hids
  rw [hi2]
  exact ⟨_, _, _, rfl, e0, e1, St.fin1 HS10.out, hb⟩
set_option maxHeartbeats 4000000 in
set_option maxRecDepth 100000 in
theorem ins_split (B0 : Option Addr) (d0 : Nat) (a : List ByteArray) (B1 : Option Addr) (d1 : Nat) (b : List Int) (no : Int) (B3 : Option Addr) (d3 : Nat) (es : List ByteArray) (gone : Bool) (s : ByteArray) (w : World) (H : PreL B0 d0 a B1 d1 b no B3 d3 es gone s w) (hk : okL a b no es gone s = true) (hs : ¬ s.size > 600) (hf : fndS s es = false) (h4 : ¬ (insS s es).length ≤ 4) (m : Int) (hm : freshI b (b.length + 1) 1 = some m) :
    Calls Try.prog 11 #[.agg #[.slice B0 a.length d0, .slice B1 b.length d1], .agg #[.int .i64 no, .slice B3 es.length d3, .bool gone], .string s] w (InsPost w (insAt (atS s a) (rdOf ByteArray.empty (insS s es) 3) a) (insAt (atS s a + 1) m b) [⟨no, (insS s es).take 3, gone⟩, ⟨m, (insS s es).drop 3, false⟩] 0) := by
  have HR0 := Lib.hid H.r0
  have HC0 := Lib.hid H.c0
  have HR1 := Lib.hid H.r1
  have HC1 := Lib.hid H.c1
  have HR3 := Lib.hid H.r3
  have HC3 := Lib.hid H.c3
  have hla := H.la
  have hlb := H.lb
  have hle := H.le
  have hu26 := Try.underlying26
  have hu28 := Try.underlying28

  have HOWN := Lib.hid (show leaf_own.f (a.length + es.length + 10) a b no es gone s = some (a, b, no, es, gone, 0) by rw [own_spec a b no es gone s (by omega) (by omega) (by omega) (by omega), hk]; rfl)
  have HRI := Lib.hid ((leafB_iff.1 (okL_iff.1 hk).1).2.2)
  have hl4 := (leafB_iff.1 (okL_iff.1 hk).1).2.1
  have HBS := Lib.hid (show slices_BinarySearch_string_string.f (es.length + 1) es s = some ((loS s es : Int), fndS s es) from search_spec es s HRI.out (by omega) (by omega))
  have HM := Lib.hid hm
  have HRT := Lib.hid (okL_root hk)
  have HAT := Lib.hid (show leaf_at.f (a.length + 1) a b s = some (atS s a : Int) from at_spec a b s HRT.out.2.2 (by omega) (by omega))
  have hs1 : decide ((600 : Int) < (s.size : Int)) = false := decide_eq_false (by omega)
  have hs2 : decide (600 < s.size) = false := decide_eq_false hs
  clear H hk hs hm
  go_enter Try.func11, Try.ntmps11
  go_wp2_with (first | ((with_reducible refine gate_dst (N := 3) rfl ?_); refine alloc_event ?hg (N := 3) ?hd (fun g => .pointer (some ⟨g, 0, none⟩)) (.cells #[.slice B0 a.length d0, .slice B1 b.length d1] 26 (0, 0)) ?hr ?_; (case hd => rfl); (case hg => rfl); (case hr => first | (go_simp; done) | (go_simp; rfl)); intro g3 hg w1 hbox hb; have HG3 := Lib.hid (show w.heap.size ≤ g3 by omega); have HX3_1 := Lib.hid hbox; have HB1 := Lib.hid (hb); clear hg hbox hb) | ((with_reducible refine gate_dst (N := 4) rfl ?_); refine alloc_event ?hg (N := 4) ?hd (fun g => .pointer (some ⟨g, 0, none⟩)) (.cells #[.int .i64 no, .slice B3 es.length d3, .bool gone] 28 (0, 0)) ?hr ?_; (case hd => rfl); (case hg => rfl); (case hr => first | (go_simp; done) | (go_simp; rfl)); intro g4 hg w2 hbox hb; have HG4 := Lib.hid (show w.heap.size ≤ g4 by rw [hg]; exact HB1.out.size); have HX4_2 := Lib.hid hbox; have HX3_2 := Lib.hid (blk_below HX3_1.out hb); have HN3_4 := Lib.hid (show g3 ≠ g4 by have := blk_lt HX3_1.out; omega); have HB2 := Lib.hid (below_then HB1.out HB1.out.size hb); clear hg hbox hb) | ((with_reducible refine gate_dst (N := 6) rfl ?_); refine alloc_event ?hg (N := 6) ?hd (fun g => .pointer (some ⟨g, 0, none⟩)) (.cells #[.slice none 0 0, .slice none 0 0] 26 (0, 0)) ?hr ?_; (case hd => rfl); (case hg => rfl); (case hr => first | (go_simp; done) | (go_simp; rfl)); intro g6 hg w3 hbox hb; have HG6 := Lib.hid (show w.heap.size ≤ g6 by rw [hg]; exact HB2.out.size); have HX6_3 := Lib.hid hbox; have HX3_3 := Lib.hid (blk_below HX3_2.out hb); have HN3_6 := Lib.hid (show g3 ≠ g6 by have := blk_lt HX3_2.out; omega); have HX4_3 := Lib.hid (blk_below HX4_2.out hb); have HN4_6 := Lib.hid (show g4 ≠ g6 by have := blk_lt HX4_2.out; omega); have HB3 := Lib.hid (below_then HB2.out HB2.out.size hb); clear hg hbox hb; have q30 : w3.cell? ⟨g3, 0, none⟩ = some (.slice B0 a.length d0) := (blk_cell HX3_3.out 0).trans rfl; have q31 : w3.cell? ⟨g3, 1, none⟩ = some (.slice B1 b.length d1) := (blk_cell HX3_3.out 1).trans rfl; have q40 : w3.cell? ⟨g4, 0, none⟩ = some (.int .i64 no) := (blk_cell HX4_3.out 0).trans rfl; have q41 : w3.cell? ⟨g4, 1, none⟩ = some (.slice B3 es.length d3) := (blk_cell HX4_3.out 1).trans rfl; have q42 : w3.cell? ⟨g4, 2, none⟩ = some (.bool gone) := (blk_cell HX4_3.out 2).trans rfl) | (go_at_call 34; refine (leaf_own.calls (a.length + es.length + 10) _ d0 a _ d1 b no _ d3 es gone s (a) (b) (no) (es) (gone) (0) _ (Kd.C_below HR0.out HB3.out) HC0.out (Kd.C_below HR1.out HB3.out) HC1.out (Kd.C_below HR3.out HB3.out) HC3.out HOWN.out).mono ?_; rintro e w4 ⟨v0, v1, v3, rfl, h0, h1, h3, hb⟩; obtain ⟨A0, c0, rfl⟩ := Kd.R_slice h0; obtain ⟨A1, c1, rfl⟩ := Kd.R_slice h1; obtain ⟨A3, c3, rfl⟩ := Kd.R_slice h3; have H0_4 := Lib.hid (Kd.R_lower h0 HB3.out.size); have H1_4 := Lib.hid (Kd.R_lower h1 HB3.out.size); have H3_4 := Lib.hid (Kd.R_lower h3 HB3.out.size); have HX3_4 := Lib.hid (blk_below HX3_3.out hb); have HX4_4 := Lib.hid (blk_below HX4_3.out hb); have HX6_4 := Lib.hid (blk_below HX6_3.out hb); have HB4 := Lib.hid (below_then HB3.out HB3.out.size hb); clear h0 h1 h3 hb q30 q31 q40 q41 q42) | ((with_reducible refine gate_store (t := 26) (p := 3) rfl ?_); refine store_row rfl rfl rfl g3 _ 26 [.slice A0 (a).length c0, .slice A1 (b).length c1] rfl (.agg #[.slice A0 (a).length c0, .slice A1 (b).length c1]) ?haA ?hbA HX3_4.out rfl (by kernel_rfl) (two26 A0 (a).length c0 A1 (b).length c1) ?_; (case haA => rfl); (case hbA => first | rfl | simp [Value.cells]); intro w5 hbox hg hz; have HX3_5 := Lib.hid hbox; have HX4_5 := Lib.hid (blk_grown HX4_4.out hg (fun e_ => HN3_4.out (by injection e_ with e_; exact e_.symm))); have HX6_5 := Lib.hid (blk_grown HX6_4.out hg (fun e_ => HN3_6.out (by injection e_ with e_; exact e_.symm))); have H0_5 := Lib.hid (Kd.R_grown1 H0_4.out rfl hg (Kd.R_ne H0_4.out HX3_4.out (by decide))); have H1_5 := Lib.hid (Kd.R_grown1 H1_4.out rfl hg (Kd.R_ne H1_4.out HX3_4.out (by decide))); have H3_5 := Lib.hid (Kd.R_grown1 H3_4.out rfl hg (Kd.R_ne H3_4.out HX3_4.out (by decide))); have HB5 := Lib.hid (below_own HB4.out hg HG3.out HB4.out.size); clear hbox hg hz) | ((with_reducible refine gate_store (t := 28) (p := 4) rfl ?_); refine store_row rfl rfl rfl g4 _ 28 [.int .i64 (no), .slice A3 (es).length c3, .bool gone] rfl (.agg #[.int .i64 (no), .slice A3 (es).length c3, .bool gone]) ?haB ?hbB HX4_5.out rfl (by kernel_rfl) (three28 (no) A3 (es).length c3 gone) ?_; (case haB => rfl); (case hbB => first | rfl | simp [Value.cells]); intro w6 hbox hg hz; have HS6 := Lib.hid (St.first HB5.out HX3_5.out HX4_5.out HX6_5.out H0_5.out H1_5.out H3_5.out HN3_4.out HN3_6.out HN4_6.out HG3.out HG4.out HG6.out hbox hg); clear hbox hg hz; refine Hold.go ?_))
  clear HX3_1 HX3_2 HX4_2 HX3_3 HX4_3 HX6_3 HX3_4 HX4_4 HX6_4 HX3_5 HX4_5 HX6_5 H0_4 H1_4 H3_4 H0_5 H1_5 H3_5 HB1 HB2 HB3 HB4 HB5 HN3_4 HN3_6 HN4_6 HG3 HG4 HG6 HOWN
  obtain ⟨q30, q31, q40, q41, q42⟩ := HS6.out.cells
  refine Hold.of ?_
  go_wp2_with (first | (go_at_call 35; refine (slices_BinarySearch_string_string.calls ((es).length + 1) A3 c3 (es) s (loS s (es) : Int) (fndS s (es)) _ (Kd.R_reads' HS6.out.r3).2.2 (Kd.R_reads' HS6.out.r3).2.1 HBS.out).mono ?_; rintro e w7 ⟨rfl, hd⟩; have HS7 := Lib.hid (HS6.out.step hd.below); clear hd; refine Hold.go ?_))
  clear q30 q31 q40 q41 q42

  obtain ⟨q30, q31, q40, q41, q42⟩ := HS7.out.cells
  refine Hold.of ?_
  go_wp2_with (first | ((with_reducible refine gate_dst (N := 47) rfl ?_); refine alloc_event ?hg (N := 47) ?hd (fun g => .slice (some ⟨g, 0, none⟩) 1 1) (.cells #[.string s] 9 (0, 0)) ?hr ?_; (case hd => rfl); (case hg => rfl); (case hr => first | (go_simp; done) | (go_simp; rfl)); intro g9 hg w8 hbox hb; have HG9 := Lib.hid hg; have HX9 := Lib.hid hbox; have HS8 := Lib.hid (HS7.out.step hb); clear hg hbox hb q30 q31 q40 q41 q42) | (go_at_call 36; refine (insS_at (i := loS s es) (x := s) HS8.out.r3 HS8.out.below (loS_le s es) HX9.out (fun e_ => by have h1 := Kd.R_lt HS7.out.r3 _ e_.symm; have h2 := HG9.out; omega) HS8.out.below.size (by omega)).mono ?_; rintro e w9 ⟨v9, rfl, hv, hb, hg, hn⟩; obtain ⟨A9, c9, rfl⟩ := Kd.R_slice hv; have HS9 := Lib.hid (St.grew3 HS8.out hv hb hg hn); clear hv hb hg hn) | ((with_reducible refine gate_store (t := 22) (p := 49) rfl ?_); refine store_cell rfl rfl rfl g4 1 _ 28 rfl (.slice A9 (insAt (loS s es) s es).length c9) ?haD ?hbD HS9.out.x4 (by simp) (by kernel_rfl) rfl ?_; (case haD => rfl); (case hbD => first | rfl | simp [Value.cells]); intro w10 hbox hg hz; have HS10 := Lib.hid (St.put3 HS9.out hbox hg); clear hbox hg hz; refine Hold.go ?_))
  have hil : (insAt (loS s es) s es).length = es.length + 1 := insAt_len (loS_le s es)
  change ¬ (insAt (loS s es) s es).length ≤ 4 at h4
  generalize hids : insAt (loS s es) s es = ids at *
  have HI := Lib.hid (show insS s es = ids from hids)
  have hlb : decide ((ids.length : Int) ≤ 4) = false := decide_eq_false (by omega)
  have hlc : decide (ids.length ≤ 4) = false := decide_eq_false h4
  clear HS6 HS7 HS8 HS9 HX9 HG9 HBS HRI hf hs1 hs2 hids
  obtain ⟨ad9, e9, _⟩ := Kd.at_string (Kd.R_reads' HS10.out.r3).2.2 0 (by omega) (by omega)
  cases e9
  have hi0 := (Kd.R_reads' HS10.out.r3).2.1
  have hi1 : (3 : Int) ≤ (ids.length : Int) := by omega
  have hi2 : (ids.length : Int) ≤ (c9 : Int) := by omega
  have hi3 : 3 ≤ ids.length := by omega
  have hi4 : ¬ (c9 = 3) := by omega
  have hi5 : (c9 == 3) = false := beq_eq_false_iff_ne.mpr hi4
  have hi6 : ids.length ≤ 1000000 := by omega
  clear hil
  obtain ⟨q30, q31, q40, q41, q42⟩ := HS10.out.cells
  refine Hold.of ?_
  go_wp2
  clear q30 q31 q40 q41 q42
  go_loopg [12] (b.length + 1) (fun d v12 w' => ∃ (n : Int), v12 = .int .i64 n ∧ Aside0 (1 ≤ n ∧ n + d = b.length + 2) ∧ Aside0 (freshI b d n = some m) ∧ Aside0 (St w w' g3 g4 g6 (.slice A0 a.length c0) (.slice A1 b.length c1) (.slice (some ad9) ids.length c9) (.slice A0 a.length c0) (.slice A1 b.length c1) (.slice (some ad9) ids.length c9) a b no ids gone))
  case atStart => exact ⟨1, rfl, ⟨by omega, by omega⟩, ⟨HM.out⟩, ⟨HS10.out⟩⟩
  case round =>
    obtain ⟨n, rfl, HD, HA, HS11⟩ := hrel
    cases gk with
    | zero => exact absurd HA.out (by simp [freshI])
    | succ k =>
    have hn1 : 1 ≤ n := HD.out.1
    have hn2 : n ≤ b.length + 1 := by have := HD.out.2; omega
    obtain ⟨q30, q31, q40, q41, q42⟩ := HS11.out.cells
    cases hq : b.contains n with
    | true =>
      have HA2 := HA.out
      simp only [freshI, hq, if_true] at HA2
      have HA3 := Aside0.mk HA2
      have HQ := Lib.hid hq
      clear HA2 hq HA
      go_wp2_with (go_at_call 37; refine (slices_Contains_int_int.calls (b.length + 1) A1 c1 b n true _ (Kd.R_reads' HS11.out.r1).2.2 (Kd.R_reads' HS11.out.r1).2.1 (by rw [Contains_spec _ _ (by omega) _ (by omega), HQ.out])).mono ?_; rintro e w12 ⟨rfl, hd⟩; have HS12 := Lib.hid (HS11.out.step hd.below); clear hd q30 q31 q40 q41 q42)
      go_roundg k
      case measure => omega
      case rel => exact ⟨n + 1, rfl, ⟨by omega, by have := HD.out.2; omega⟩, HA3, ⟨HS12.out⟩⟩
    | false =>
      have HA2 := HA.out
      simp only [freshI, hq, Bool.false_eq_true, if_false] at HA2
      have hnm : n = m := Option.some.inj HA2; subst hnm; obtain ⟨m, hmm⟩ : ∃ m, m = n := ⟨_, rfl⟩; subst hmm
      have HQ := Lib.hid hq
      clear HA2 hq HA
      go_wp2_with (first | (go_at_call 37; refine (slices_Contains_int_int.calls (b.length + 1) A1 c1 b m false _ (Kd.R_reads' HS11.out.r1).2.2 (Kd.R_reads' HS11.out.r1).2.1 (by rw [Contains_spec _ _ (by omega) _ (by omega), HQ.out])).mono ?_; rintro e w12 ⟨rfl, hd⟩; have HS12 := Lib.hid (HS11.out.step hd.below); clear hd; refine Hold.go ?_))
      clear q30 q31 q40 q41 q42 HQ hn2
      have HS11' := HS12
      clear HS11
      have HS11 := HS11'
      clear HS11' HS12 HD HS10
      obtain ⟨q30, q31, q40, q41, q42⟩ := HS11.out.cells
      refine Hold.of ?_
      go_wp2_with (first | (go_at_call 38; refine (leaf_at.calls (a.length + 1) A0 c0 a A1 c1 b s (atS s a : Int) _ (Kd.R_reads' HS11.out.r0).2.2 (Kd.R_reads' HS11.out.r0).2.1 (Kd.R_reads' HS11.out.r1).2.2 (Kd.R_reads' HS11.out.r1).2.1 HAT.out).mono ?_; rintro e w12 ⟨rfl, hb⟩; have HS12 := Lib.hid (HS11.out.step hb); clear hb; clear q30 q31 q40 q41 q42; obtain ⟨q30, q31, q40, q41, q42⟩ := HS12.out.cells) | (go_at_call 39; refine (cloneS_at (xs := ids.drop 3) (by simp) (drop_ownS HS12.out.r3 hi3 hi4) (by omega) (by simp; omega)).mono ?_; rintro e w13 ⟨A7, c7, rfl, hcc, hv, hb⟩; have HS13 := Lib.hid (HS12.out.step hb); have HV13 := Lib.hid (Kd.R_lower (Kd.R_new' hv (Kd.R_lt HS12.out.r0)) HS12.out.below.size); have HCC := Lib.hid hcc; clear hcc hv hb q30 q31 q40 q41 q42) | ((with_reducible refine gate_dst (N := 14) rfl ?_); refine alloc_event ?hg (N := 14) ?hd (fun g => .pointer (some ⟨g, 0, none⟩)) (.cells #[.int .i64 0, .slice none 0 0, .bool false] 28 (0, 0)) ?hr ?_; (case hd => rfl); (case hg => rfl); (case hr => first | (go_simp; done) | (go_simp; rfl)); intro g7 hg w14 hbox hb; have HG7 := Lib.hid hg; have HX7 := Lib.hid hbox; have HS14 := Lib.hid (HS13.out.step hb); have HV14 := Lib.hid (Kd.R_below HV13.out hb); clear hg hbox hb) | ((with_reducible refine gate_store (t := 28) (p := 14) rfl ?_); refine store_row rfl rfl rfl g7 _ 28 [.int .i64 m, .slice A7 (ids.length - 3) c7, .bool false] rfl (.agg #[.int .i64 m, .slice A7 (ids.length - 3) c7, .bool false]) ?haE ?hbE HX7.out rfl (by kernel_rfl) (three28 m A7 (ids.length - 3) c7 false) ?_; (case haE => rfl); (case hbE => first | rfl | simp [Value.cells]); intro w15 hbox hg hz; have HS15 := Lib.hid (St.far HS14.out HX7.out (blk_lt' HS13.out.x3 HG7.out) (blk_lt' HS13.out.x4 HG7.out) (blk_lt' HS13.out.x6 HG7.out) (by have h1 := HG7.out; have h2 := HS13.out.below.size; omega) hg); have HT15 := Lib.hid (Bt.mk (w := w) (g3 := g3) (g4 := g4) (g6 := g6) hbox (Kd.R_mono (Kd.R_grown1 HV14.out rfl hg (Kd.R_ne HV14.out HX7.out (by decide))) (fun k hk => hk.2)) (blk_lt' HS13.out.x3 HG7.out) (blk_lt' HS13.out.x4 HG7.out) (blk_lt' HS13.out.x6 HG7.out) (by have h1 := HG7.out; have h2 := HS13.out.below.size; omega)); clear hbox hg hz; obtain ⟨q30, q31, q40, q41, q42⟩ := HS15.out.cells) | ((with_reducible refine gate_store (t := 22) (p := 75) rfl ?_); refine store_cell rfl rfl rfl g4 1 _ 28 rfl (.slice (some ad9) 3 3) ?haF ?hbF HS15.out.x4 (by simp) (by kernel_rfl) rfl ?_; (case haF => rfl); (case hbF => first | rfl | simp [Value.cells]); intro w16 hbox hg hz; have HS16 := Lib.hid (St.cut3 HS15.out hbox hg); have HT16 := Lib.hid (Bt.box HT15.out HS15.out.x4 (by decide) HT15.out.n4 hg); clear hbox hg hz; refine Hold.go ?_))
      clear HS11 HS12 HS13 HV13 HG7 HX7 HS14 HV14 HS15 HT15 HCC HAT q30 q31 q40 q41 q42
      obtain ⟨ad7, e7, hz7⟩ := Kd.at_string (Kd.R_reads' HT16.out.r).2.2 0 (by omega) (by simp; omega)
      cases e7
      have hx3 : rdOf ByteArray.empty (ids.drop 3) 0 = rdOf ByteArray.empty ids 3 := by simp [rdOf, List.getD_eq_getElem?_getD]
      rw [hx3] at hz7
      generalize hgx : rdOf ByteArray.empty ids 3 = x at *
      have ha7 : (ad7.add 0) = ad7 := by simp [Addr.add]
      have hz7' : w16.cell? ad7 = some (.string x) := by rw [← ha7]; exact hz7
      have HZD := Lib.hid (show w16.drew.cell? ad7 = some (.string x) from hz7')
      have HZA := Lib.hid (show (w16.alloc (.cells #[.string x] 9)).drew.cell? ad7 = some (.string x) from ((below_alloc (Below.refl _ w16) (.cells #[.string x] 9)).cell (World.block_lt_of_cell? w16 _ hz7')).trans hz7')
      have HGX := Lib.hid hgx
      have hi7 : 0 < ids.length - 3 := by omega
      have hi8 : (0 : Int) < ((ids.length - 3 : Nat) : Int) := by omega
      have hal := atS_le s a
      have HNZ := Lib.hid (show some ad7.block ≠ (Value.slice A0 a.length c0).ownBlock from fun e => HT16.out.r.1 ad7.block (by obtain ⟨g, rfl⟩ := Kd.R_head HT16.out.r; rfl) e)
      clear hz7 hz7' hx3 hgx
      have HSD := Lib.hid (HS16.out.step (below_drew1 (Below.refl _ _)))
      have HTD := Lib.hid (HT16.out.step (below_drew1 (Below.refl _ _)))
      have HSA := Lib.hid (HS16.out.step (below_drew1 (below_alloc (Below.refl _ _) (.cells #[.string x] 9))))
      have HTA := Lib.hid (HT16.out.step (below_drew1 (below_alloc (Below.refl _ _) (.cells #[.string x] 9))))
      have HXA := Lib.hid (show (w16.alloc (.cells #[.string x] 9)).drew.heap[w16.heap.size]? = some (.cells #[.string x] 9 (0, 0)) from heap_alloc_new w16 _)
      refine Hold.of ?_
      go_upto_region 18 with (fail)
      go_cut [] (fun wc => ∃ (A0' : Option Addr) (c0' : Nat), Aside0 (St w wc g3 g4 g6 (.slice A0' (insAt (atS s a) x a).length c0') (.slice A1 b.length c1) (.slice (some ad9) 3 3) (.slice A0' (insAt (atS s a) x a).length c0') (.slice A1 b.length c1) (.slice (some ad9) ids.length c9) (insAt (atS s a) x a) b no ids gone) ∧ Aside0 (Bt w wc g3 g4 g6 g7 (.slice A0' (insAt (atS s a) x a).length c0') m (.slice (some ad7) (ids.length - 3) c7) (ids.drop 3)))
      case first =>
        have hq0 := HS16.out.cells.1
        have hq7 := HT16.out.cells.2.1
        have hqz := HZD.out
        have hql := blk_lt HS16.out.x3
        have hql7 := blk_lt HT16.out.x
        have hqlz := World.block_lt_of_cell? w16 _ (show w16.cell? ad7 = some (.string x) from HZD.out)
        go_region_with (first | (go_at_call 36; refine (insS_at (i := atS s a) (x := x) HSA.out.r0 HSA.out.below hal HXA.out (fun e_ => by have h1 := Kd.R_lt HS16.out.r0 _ e_.symm; omega) HSA.out.below.size (by omega)).mono ?_; rintro e w17 ⟨v0', rfl, hv, hb, hg, hn⟩; obtain ⟨A0', c0', rfl⟩ := Kd.R_slice hv; have HS17 := Lib.hid (St.grew0 HSA.out hv hb hg hn); have HT17 := Lib.hid (Bt.grew0 HTA.out HSA.out.r0 hg hn); have HZ17 := Lib.hid ((hg.cell HZA.out (HNZ.out)).trans rfl); have hq0 := HS17.out.cells.1; have hq1 := blk_frozen HS17.out.x3 0; clear hv hb hg hn))
        all_goals (go_wp2; go_meet; exact ⟨A0', c0', ⟨St.put0 HS17.out (blk_put HS17.out.x3 0 _ rfl) (grown_setCell _ g3 0 _)⟩, ⟨Bt.box HT17.out HS17.out.x3 (by decide) HT17.out.n3 (grown_setCell _ g3 0 _)⟩⟩)
      case rest =>
        obtain ⟨A0', c0', HS18, HT18⟩ := hcut
        clear HSD HTD HSA HTA HXA HZD HZA HNZ HS16 HT16 ha7 hi7 hi8
        have hab : atS s a + 1 ≤ b.length := by have := HRT.out.2.1; omega
        have hab2 : atS s a ≤ 1000000 := by omega
        obtain ⟨q30, q31, q40, q41, q42⟩ := HS18.out.cells
        go_wp2_with (first | ((with_reducible refine gate_dst (N := 91) rfl ?_); refine alloc_event ?hg (N := 91) ?hd (fun g => .slice (some ⟨g, 0, none⟩) 1 1) (.cells #[.int .i64 m] 3 (0, 0)) ?hr ?_; (case hd => rfl); (case hg => rfl); (case hr => first | (go_simp; done) | (go_simp; rfl)); intro g10 hg w19 hbox hb; have HG10 := Lib.hid hg; have HX10 := Lib.hid hbox; have HS19 := Lib.hid (HS18.out.step hb); have HT19 := Lib.hid (HT18.out.step hb); clear hg hbox hb q30 q31 q40 q41 q42) | (go_at_call 40; refine (insI_at (i := atS s a + 1) (x := m) HS19.out.r1 HS19.out.below hab HX10.out (fun e_ => by have h1 := Kd.R_lt HS18.out.r1 _ e_.symm; have h2 := HG10.out; omega) HS19.out.below.size (by omega) (by omega)).mono ?_; rintro e w20 ⟨v1', rfl, hv, hb, hg, hn⟩; obtain ⟨A1', c1', rfl⟩ := Kd.R_slice hv; have HS20 := Lib.hid (St.grew1 HS19.out hv hb hg); have HT20 := Lib.hid (Bt.grew1 HT19.out HS19.out.r1 hg); clear hv hb hg hn) | ((with_reducible refine gate_store (t := 24) (p := 93) rfl ?_); refine store_cell rfl rfl rfl g3 1 _ 26 rfl (.slice A1' (insAt (atS s a + 1) m b).length c1') ?haG ?hbG HS20.out.x3 (by simp) (by kernel_rfl) rfl ?_; (case haG => rfl); (case hbG => first | rfl | simp [Value.cells]); intro w21 hbox hg hz; have HS21 := Lib.hid (St.put1 HS20.out hbox hg); have HT21 := Lib.hid (Bt.box HT20.out HS20.out.x3 (by decide) HT20.out.n3 hg); clear hbox hg hz; refine Hold.go ?_))
        clear HS18 HT18 HS19 HT19 HX10 HG10 HS20 HT20
        obtain ⟨q30, q31, q40, q41, q42⟩ := HS21.out.cells
        obtain ⟨q70, q71, q72⟩ := HT21.out.cells
        have q60 : w21.cell? ⟨g6, 0, none⟩ = some (.slice none 0 0) := (blk_cell HS21.out.x6 0).trans rfl
        have q61 : w21.cell? ⟨g6, 1, none⟩ = some (.slice none 0 0) := (blk_cell HS21.out.x6 1).trans rfl
        have f60 := blk_frozen HS21.out.x6 0
        have f61 := blk_frozen HS21.out.x6 1
        have b3 := blk_lt HS21.out.x3
        have b4 := blk_lt HS21.out.x4
        have b6 := blk_lt HS21.out.x6
        have b7 := blk_lt HT21.out.x
        have n36 := HS21.out.n36
        have n46 := HS21.out.n46
        have n67 := HT21.out.n6
        have n63 := n36.symm
        have n64 := n46.symm
        have n76 := n67.symm
        refine Hold.of ?_
        go_upto_region 20 with (fail)
        go_region
        all_goals go_wp2
        obtain ⟨hx, e0, e1, _, hb, _⟩ := HS21.out.out (.slice A0' (insAt (atS s a) x a).length c0') (.slice A1' (insAt (atS s a + 1) m b).length c1') (.cells #[.int .i64 no, .slice (some ad9) 3 3, .bool gone, .int .i64 m, .slice (some ad7) (ids.length - 3) c7, .bool false] 28 (0, 0))
        refine bodyPost_ret (results_list (rs := [.cell 6 26, .tmp 7, .tmp 8]) rfl (by simp) (.cell g6 26 #[.slice A0' (insAt (atS s a) x a).length c0', .slice A1' (insAt (atS s a + 1) m b).length c1'] (0, 0) _ rfl hx Try.underlying26 rfl (by kernel_rfl) (.tmp (.tmp .nil)))) rfl ?_
        rw [HI.out, HGX.out]
        exact ⟨_, _, _, rfl, e0, e1, St.fin2 HS21.out HT21.out hi3, hb⟩
theorem leaf_Insert.calls (A0_0 : Option Addr) (c0_0 : Nat) (l0_0 : List ByteArray) (A0_1 : Option Addr) (c0_1 : Nat) (l0_1 : List Int) (a1_0 : Int) (A1_1 : Option Addr) (c1_1 : Nat) (l1_1 : List ByteArray) (a1_2 : Bool) (a2 : ByteArray) (r1 : List ByteArray) (r2 : List Int) (r3 : List S28) (r4 : Int) (w : World) (hr0_0 : Kd.C Kd.string w A0_0 l0_0.length l0_0) (hc0_0 : l0_0.length ≤ c0_0) (hr0_1 : Kd.C (Kd.int .i64) w A0_1 l0_1.length l0_1) (hc0_1 : l0_1.length ≤ c0_1) (hr1_1 : Kd.C Kd.string w A1_1 l1_1.length l1_1) (hc1_1 : l1_1.length ≤ c1_1) (h : leaf_Insert.f l0_0 l0_1 a1_0 l1_1 a1_2 a2 = some (r1, r2, r3, r4)) :
    Calls Try.prog 11 #[.agg #[.slice A0_0 l0_0.length c0_0, .slice A0_1 l0_1.length c0_1], .agg #[.int .i64 a1_0, .slice A1_1 l1_1.length c1_1, .bool a1_2], .string a2] w fun e w' => ∃ v0_ v1_ v2_ : Value, e = .returned (.tuple #[.agg #[v0_, v1_], v2_, .int .i64 r4]) ∧ Kd.R Kd.string 9 w' w.heap.size (fun _ => True) v0_ r1 ∧ Kd.R (Kd.int .i64) 3 w' w.heap.size (fun _ => True) v1_ r2 ∧ Kd.N k28 28 w' w.heap.size (fun k_ => w.heap.size ≤ k_ ∧ some k_ ≠ v0_.ownBlock ∧ some k_ ≠ v1_.ownBlock) v2_ r3 ∧ Below w.heap.size w w' := by
  show Calls Try.prog 11 _ w (InsPost w r1 r2 r3 r4)
  unfold leaf_Insert.f at h
  split at h
  case isFalse => cases h
  rename_i hlim
  have HP : PreL A0_0 c0_0 l0_0 A0_1 c0_1 l0_1 a1_0 A1_1 c1_1 l1_1 a1_2 a2 w := ⟨hr0_0, hc0_0, hr0_1, hc0_1, hr1_1, hc1_1, hlim.1, hlim.2.1, hlim.2.2⟩
  split at h
  · rename_i h1
    cases h
    exact ins_wrong _ _ _ _ _ _ _ _ _ _ _ _ _ HP h1
  rename_i h1
  have h1' : okL l0_0 l0_1 a1_0 l1_1 a1_2 a2 = true := by simpa using h1
  split at h
  · rename_i h2
    cases h
    exact ins_long _ _ _ _ _ _ _ _ _ _ _ _ _ HP h1' h2
  rename_i h2
  split at h
  · rename_i h3
    cases h
    exact ins_twice _ _ _ _ _ _ _ _ _ _ _ _ _ HP h1' h2 h3
  rename_i h3
  have h3' : fndS a2 l1_1 = false := by simpa using h3
  split at h
  · rename_i h4
    cases h
    exact ins_small _ _ _ _ _ _ _ _ _ _ _ _ _ HP h1' h2 h3' h4
  · rename_i h4
    obtain ⟨m, hm, h⟩ := Option.bind_eq_some_iff.mp h
    cases h
    exact ins_split _ _ _ _ _ _ _ _ _ _ _ _ _ HP h1' h2 h3' h4 m hm
end Go.Proofs.Ytneagipmllgejaa.PL
end
section
set_option linter.unusedVariables false
set_option linter.unusedSimpArgs false
namespace Go.Proofs.Ytneagipmllgejaa.PL
open Go.RowKit Go.Proofs.YtneagipmllgejaaW.PrintWords Go.Proofs.YtneagipmllgejaaW.PrintLast Go.Proofs.YtneagipmllgejaaW.PrintMore Go.Proofs.YtneagipmllgejaaH
/-- A leaf as a value; its entries lie in ok. -/
def LeafV (W : World) (ok : Nat → Prop) (c : S28) (v : Value) : Prop := ∃ A n, v = .agg #[.int .i64 c.f0, .slice A c.f1.length n, .bool c.f2] ∧ c.f1.length ≤ n ∧ Kd.F Kd.string W ok A c.f1.length c.f1
theorem LeafV.step {W W1 : World} {ok : Nat → Prop} {c : S28} {v : Value} (h : LeafV W ok c v) (hm : ∀ k, ok k → k < W.heap.size → W1.heap[k]? = W.heap[k]?) : LeafV W1 ok c v := by
  obtain ⟨A, n, e, h1, h2⟩ := h
  exact ⟨A, n, e, h1, Kd.F_step h2 hm⟩
theorem LeafV.mono {W : World} {ok ok' : Nat → Prop} {c : S28} {v : Value} (h : LeafV W ok c v) (hok : ∀ k, ok k → ok' k) : LeafV W ok' c v := by
  obtain ⟨A, n, e, h1, h2⟩ := h
  exact ⟨A, n, e, h1, Kd.F_mono h2 hok⟩
theorem LeafV.bound {W : World} {ok : Nat → Prop} {c : S28} {v : Value} (h : LeafV W ok c v) : LeafV W (fun k => ok k ∧ k < W.heap.size) c v := by
  obtain ⟨A, n, e, h1, h2⟩ := h
  exact ⟨A, n, e, h1, Kd.F_bound h2⟩
/-- The table's values, beside the table. -/
def AllV (W : World) (ok : Nat → Prop) : List (Int × Value) → List (Int × S28) → Prop
  | [], [] => True
  | p :: vs, q :: ps => p.1 = q.1 ∧ LeafV W ok q.2 p.2 ∧ AllV W ok vs ps
  | _, _ => False
theorem AllV.imp {W W1 : World} {ok ok' : Nat → Prop} (hi : ∀ c v, LeafV W ok c v → LeafV W1 ok' c v) : ∀ {vs : List (Int × Value)} {ps : List (Int × S28)}, AllV W ok vs ps → AllV W1 ok' vs ps
  | [], [], _ => trivial
  | p :: vs, q :: ps, h => ⟨h.1, hi _ _ h.2.1, AllV.imp hi h.2.2⟩
theorem AllV.put {W : World} {ok : Nat → Prop} {k : Int} {c : S28} {v : Value} (hv : LeafV W ok c v) : ∀ {vs : List (Int × Value)} {ps : List (Int × S28)}, AllV W ok vs ps → AllV W ok (putP k v vs) (putP k c ps)
  | [], [], _ => ⟨rfl, hv, trivial⟩
  | (a, u) :: vs, (b, d) :: ps, h => by
    obtain ⟨h1, h2, h4⟩ := h
    simp only at h1
    subst h1
    unfold putP
    by_cases e : a = k
    · rw [if_pos e, if_pos e]
      exact ⟨rfl, hv, h4⟩
    · rw [if_neg e, if_neg e]
      exact ⟨rfl, h2, h4.put hv⟩
/-- The law's state in world W: w is the world at its start, b7 the root's box, bm the table. -/
structure Sp (w W : World) (ok : Nat → Prop) (b7 bm : Nat) (A0 : Option Addr) (c0 : Nat) (a : List ByteArray) (A1 : Option Addr) (c1 : Nat) (b : List Int) (vs : List (Int × Value)) (ps : List (Int × S28)) : Prop where
  x7 : W.heap[b7]? = some (.cells #[.slice A0 a.length c0, .slice A1 b.length c1] 26 (0, 0))
  f0 : Kd.F Kd.string W ok A0 a.length a
  h0 : a.length ≤ c0
  f1 : Kd.F (Kd.int .i64) W ok A1 b.length b
  h1 : b.length ≤ c1
  av : AllV W ok vs ps
  im : IMap W bm vs
  below : Below w.heap.size w W
  g7 : w.heap.size ≤ b7
  gm : w.heap.size ≤ bm
  n7 : b7 ≠ bm
  k7 : ∀ k, ok k → k ≠ b7
  km : ∀ k, ok k → k ≠ bm
namespace Sp
variable {w W W1 : World} {ok ok' : Nat → Prop} {b7 bm : Nat} {A0 : Option Addr} {c0 : Nat} {a : List ByteArray} {A1 : Option Addr} {c1 : Nat} {b : List Int} {vs : List (Int × Value)} {ps : List (Int × S28)}
theorem lt7 (h : Sp w W ok b7 bm A0 c0 a A1 c1 b vs ps) : b7 < W.heap.size := blk_lt h.x7
theorem ltm (h : Sp w W ok b7 bm A0 c0 a A1 c1 b vs ps) : bm < W.heap.size := h.im.lt
theorem grow (h : Sp w W ok b7 bm A0 c0 a A1 c1 b vs ps) (hb : Below W.heap.size W W1) : Sp w W1 ok b7 bm A0 c0 a A1 c1 b vs ps where
  x7 := blk_below h.x7 hb
  f0 := Kd.F_below h.f0 hb
  h0 := h.h0
  f1 := Kd.F_below h.f1 hb
  h1 := h.h1
  av := h.av.imp (fun _ _ hv => hv.step (fun k _ hlt => hb.block k hlt))
  im := h.im.below hb
  below := below_then h.below h.below.size hb
  g7 := h.g7
  gm := h.gm
  n7 := h.n7
  k7 := h.k7
  km := h.km
/-- A block of another is written. -/
theorem far {g : Nat} (h : Sp w W ok b7 bm A0 c0 a A1 c1 b vs ps) (hg : W.grownBy W1 (some g)) (hok : ∀ k, ok k → k ≠ g) (h7 : b7 ≠ g) (hm : bm ≠ g) (hw : w.heap.size ≤ g) : Sp w W1 ok b7 bm A0 c0 a A1 c1 b vs ps where
  x7 := (hg.block b7 h.lt7 (fun e => h7 (Option.some.inj e))).trans h.x7
  f0 := Kd.F_grown h.f0 hg (fun k hk e => hok k hk (Option.some.inj e))
  h0 := h.h0
  f1 := Kd.F_grown h.f1 hg (fun k hk e => hok k hk (Option.some.inj e))
  h1 := h.h1
  av := h.av.imp (fun _ _ hv => hv.step (fun k hk hlt => hg.block k hlt (fun e => hok k hk (Option.some.inj e))))
  im := h.im.of_block (hg.block bm h.ltm (fun e => hm (Option.some.inj e)))
  below := below_own h.below hg hw h.below.size
  g7 := h.g7
  gm := h.gm
  n7 := h.n7
  k7 := h.k7
  km := h.km
theorem weak (h : Sp w W ok b7 bm A0 c0 a A1 c1 b vs ps) (hok : ∀ k, ok k → ok' k) (h7 : ∀ k, ok' k → k ≠ b7) (hm : ∀ k, ok' k → k ≠ bm) : Sp w W ok' b7 bm A0 c0 a A1 c1 b vs ps where
  x7 := h.x7
  f0 := Kd.F_mono h.f0 hok
  h0 := h.h0
  f1 := Kd.F_mono h.f1 hok
  h1 := h.h1
  av := h.av.imp (fun _ _ hv => hv.mono hok)
  im := h.im
  below := h.below
  g7 := h.g7
  gm := h.gm
  n7 := h.n7
  k7 := h7
  km := hm
/-- Nothing of it lies in a block that is not there yet. -/
theorem bound (h : Sp w W ok b7 bm A0 c0 a A1 c1 b vs ps) : Sp w W (fun k => ok k ∧ k < W.heap.size) b7 bm A0 c0 a A1 c1 b vs ps where
  x7 := h.x7
  f0 := Kd.F_bound h.f0
  h0 := h.h0
  f1 := Kd.F_bound h.f1
  h1 := h.h1
  av := h.av.imp (fun _ _ hv => hv.bound)
  im := h.im
  below := h.below
  g7 := h.g7
  gm := h.gm
  n7 := h.n7
  k7 := fun k hk => h.k7 k hk.1
  km := fun k hk => h.km k hk.1
/-- The box gets another root. -/
theorem root {A0' : Option Addr} {c0' : Nat} {a' : List ByteArray} {A1' : Option Addr} {c1' : Nat} {b' : List Int} (h : Sp w W ok b7 bm A0 c0 a A1 c1 b vs ps) (hx : W1.heap[b7]? = some (.cells #[.slice A0' a'.length c0', .slice A1' b'.length c1'] 26 (0, 0))) (hg : W.grownBy W1 (some b7))
    (f0 : Kd.F Kd.string W ok A0' a'.length a') (h0 : a'.length ≤ c0') (f1 : Kd.F (Kd.int .i64) W ok A1' b'.length b') (h1 : b'.length ≤ c1') : Sp w W1 ok b7 bm A0' c0' a' A1' c1' b' vs ps where
  x7 := hx
  f0 := Kd.F_grown f0 hg (fun k hk e => h.k7 k hk (Option.some.inj e))
  h0 := h0
  f1 := Kd.F_grown f1 hg (fun k hk e => h.k7 k hk (Option.some.inj e))
  h1 := h1
  av := h.av.imp (fun _ _ hv => hv.step (fun k hk hlt => hg.block k hlt (fun e => h.k7 k hk (Option.some.inj e))))
  im := h.im.of_block (hg.block bm h.ltm (fun e => h.n7 (Option.some.inj e).symm))
  below := below_own h.below hg h.g7 h.below.size
  g7 := h.g7
  gm := h.gm
  n7 := h.n7
  k7 := h.k7
  km := h.km
/-- The table gets a leaf. -/
theorem put {k : Int} {c : S28} {v : Value} (h : Sp w W ok b7 bm A0 c0 a A1 c1 b vs ps) (hv : LeafV W ok c v) (hi : IMap W1 bm (putP k v vs)) (hg : W.grownBy W1 (some bm)) : Sp w W1 ok b7 bm A0 c0 a A1 c1 b (putP k v vs) (putP k c ps) where
  x7 := (hg.block b7 h.lt7 (fun e => h.n7 (Option.some.inj e))).trans h.x7
  f0 := Kd.F_grown h.f0 hg (fun k hk e => h.km k hk (Option.some.inj e))
  h0 := h.h0
  f1 := Kd.F_grown h.f1 hg (fun k hk e => h.km k hk (Option.some.inj e))
  h1 := h.h1
  av := (h.av.put hv).imp (fun _ _ hv => hv.step (fun k hk hlt => hg.block k hlt (fun e => h.km k hk (Option.some.inj e))))
  im := hi
  below := below_own h.below hg h.gm h.below.size
  g7 := h.g7
  gm := h.gm
  n7 := h.n7
  k7 := h.k7
  km := h.km
end Sp
/-- Where a fresh row of texts lies. -/
theorem freshS {W : World} {base : Nat} {ok ok' : Nat → Prop} {A : Option Addr} {n c : Nat} {xs : List ByteArray} (h : Kd.R Kd.string 9 W base ok (.slice A n c) xs) (hok : ∀ k, base ≤ k → k < W.heap.size → ok' k) : xs.length ≤ c ∧ Kd.F Kd.string W ok' A xs.length xs := by
  obtain ⟨e, h1, h2⟩ := F_rowS (Kd.R_mono (Kd.R_bound h) (ok' := ok') (fun k hk => hok k hk.2.1 hk.2.2.1))
  exact ⟨by omega, h2⟩
theorem freshN {W : World} {base : Nat} {ok ok' : Nat → Prop} {A : Option Addr} {n c : Nat} {xs : List Int} (h : Kd.R (Kd.int .i64) 3 W base ok (.slice A n c) xs) (hok : ∀ k, base ≤ k → k < W.heap.size → ok' k) : xs.length ≤ c ∧ Kd.F (Kd.int .i64) W ok' A xs.length xs := by
  obtain ⟨e, h1, h2⟩ := F_row (Kd.R_mono (Kd.R_bound h) (ok' := ok') (fun k hk => hok k hk.2.1 hk.2.2.1))
  exact ⟨by omega, h2⟩
theorem freshL {W : World} {base : Nat} {ok ok' : Nat → Prop} {A : Option Addr} {n c : Nat} {xs : List S28} (h : Kd.N k28 28 W base ok (.slice A n c) xs) (hok : ∀ k, ok k → k < W.heap.size → ok' k) : xs.length ≤ c ∧ Kd.F k28 W ok' A xs.length xs := by
  obtain ⟨e, h1, _⟩ := Kd.N_reads' h
  subst e
  exact ⟨h1, Kd.F_mono (Kd.F_bound (Kd.N_F h)) (fun k hk => hok k hk.1 hk.2)⟩
/-- Leaf i of a row, as a value. -/
theorem leaf_of {W : World} {ok : Nat → Prop} {A : Option Addr} {xs : List S28} (h : Kd.F k28 W ok A xs.length xs) (i : Nat) (hi : i < xs.length) :
    ∃ ad A1 c1, A = some ad ∧ W.cell? (ad.add (i * 3)) = some (.int .i64 (rd_T28 xs i).f0) ∧ W.cell? ⟨(ad.add (i * 3)).block, (ad.add (i * 3)).off + 1, none⟩ = some (.slice A1 (rd_T28 xs i).f1.length c1) ∧ W.cell? ⟨(ad.add (i * 3)).block, (ad.add (i * 3)).off + 2, none⟩ = some (.bool (rd_T28 xs i).f2) ∧ (rd_T28 xs i).f1.length ≤ c1 ∧ Kd.F Kd.string W ok A1 (rd_T28 xs i).f1.length (rd_T28 xs i).f1 := by
  obtain ⟨ad, c, rfl, hcl, hK, hcc, _⟩ := Kd.F_get h z28 (i : Int) (by omega) (by omega)
  simp only [Int.toNat_natCast] at hK hcc
  obtain ⟨A1, c1, e, h1, h2⟩ := k28_openF hK
  subst e
  have hc : ∀ j u, ([.int .i64 (xs.getD i z28).f0, .slice A1 (xs.getD i z28).f1.length c1, .bool (xs.getD i z28).f2] : List Value)[j]? = some u → W.cell? (ad.add (i * 3 + j)) = some u := hcc
  refine ⟨ad, A1, c1, rfl, ?_, ?_, ?_, h1, h2⟩
  · exact hc 0 _ rfl
  · rw [← add_field _ _ 1 (by omega)]; exact hc 1 _ rfl
  · rw [← add_field _ _ 2 (by omega)]; exact hc 2 _ rfl
end Go.Proofs.Ytneagipmllgejaa.PL
end
section
namespace Go.Proofs.Ytneagipmllgejaa.PL
open Go.RowKit Go.Proofs.YtneagipmllgejaaW.PrintWords Go.Proofs.YtneagipmllgejaaW.PrintLast Go.Proofs.YtneagipmllgejaaW.PrintMore
attribute [local go_sem] max2_int min2_int max_two min_two max_three min_three max_four min_four   -- for this text's walks alone
set_option linter.unusedVariables false
set_option linter.unusedSimpArgs false
def cobwebref02_sign.f (a0 : Bool) : Option (Int) := if a0 = true then (some (-1)) else (some 1)
set_option maxHeartbeats 8000000 in
set_option maxRecDepth 100000 in
theorem cobwebref02_sign.calls (a0 : Bool) (r : Int) (w : World) (h : cobwebref02_sign.f a0 = some r) :
  Calls Try.prog 43 #[.bool a0] w fun e w' => e = .returned (.int .i64 r) ∧ Drawn0 w w' := by
 have H : (if a0 = true then (some (-1)) else (some 1)) = some r := h
 clear h
 by_cases c2 : a0 = true
 ·subst c2
  have H1 : (some (-1)) = some r := by rw [if_pos rfl] at H; exact H
  clear H
  have H := H1
  clear H1
  obtain rfl := Option.some.inj H
  go_enter Try.func43, Try.ntmps43
  go_wp2
  go_ret
  exact ⟨by first | rfl | (simp; done) | (simp [*]; done), by repeat (first | exact Drawn0.refl _ | apply Drawn0.step)⟩
 ·replace c2 := Bool.eq_false_iff.mpr c2
  subst c2
  have H1 : (some 1) = some r := by rw [if_neg (show ¬ (false = true) by decide)] at H; exact H
  clear H
  have H := H1
  clear H1
  obtain rfl := Option.some.inj H
  go_enter Try.func43, Try.ntmps43
  go_wp2
  go_ret
  exact ⟨by first | rfl | (simp; done) | (simp [*]; done), by repeat (first | exact Drawn0.refl _ | apply Drawn0.step)⟩
end Go.Proofs.Ytneagipmllgejaa.PL
end
section
namespace Go.Proofs.Ytneagipmllgejaa.PL
open Go.RowKit Go.Proofs.YtneagipmllgejaaW.PrintWords Go.Proofs.YtneagipmllgejaaW.PrintLast Go.Proofs.YtneagipmllgejaaW.PrintMore
attribute [local go_sem] max2_int min2_int max_two min_two max_three min_three max_four min_four   -- for this text's walks alone
set_option linter.unusedVariables false
set_option linter.unusedSimpArgs false
mutual
def cobwebref02_Order.l0 : Nat → ByteArray → ByteArray → Int → Option (Int)
  | 0, _, _, _ => none
  | k + 1, x0, x1, x5 => if x5 < (x0.size : Int) then (cobwebref02_Order.j1 k x0 x1 x5 (decide (x5 < (x1.size : Int)))) else (cobwebref02_Order.j1 k x0 x1 x5 false)
def cobwebref02_Order.j1 : Nat → ByteArray → ByteArray → Int → Bool → Option (Int)
  | 0, _, _, _, _ => none
  | k + 1, x0, x1, x5, x15 => if x15 = true then (if 0 ≤ x5 then (if x5 < (x0.size : Int) then (if x5 < (x1.size : Int) then (if (bt x0 x5) = (bt x1 x5) then (cobwebref02_Order.l0 k x0 x1 (wrap64 (x5 + 1))) else ((cobwebref02_sign.f (decide ((bt x0 x5) < (bt x1 x5)))).bind fun t234 => (some t234))) else (none)) else (none)) else (none)) else (if (x0.size : Int) = (x1.size : Int) then (some 0) else ((cobwebref02_sign.f (decide ((x0.size : Int) < (x1.size : Int)))).bind fun t235 => (some t235)))
end
def cobwebref02_Order.f (k : Nat) (a0 : ByteArray) (a1 : ByteArray) : Option (Int) := cobwebref02_Order.l0 k a0 a1 0
theorem cobwebref02_Order.mono_l : ∀ k, (∀ y0 y1 y2, LeO (cobwebref02_Order.l0 k y0 y1 y2) (cobwebref02_Order.l0 (k + 1) y0 y1 y2)) ∧ (∀ y0 y1 y2 y3, LeO (cobwebref02_Order.j1 k y0 y1 y2 y3) (cobwebref02_Order.j1 (k + 1) y0 y1 y2 y3))
  | 0 => ⟨fun _ _ _ r h => by simp [cobwebref02_Order.l0] at h, fun _ _ _ _ r h => by simp [cobwebref02_Order.j1] at h⟩
  | k + 1 => by
    obtain ⟨ih0, ih1⟩ := cobwebref02_Order.mono_l k
    refine ⟨?_, ?_⟩
    · intro y0 y1 y2
      unfold cobwebref02_Order.l0
      repeat' first
      | (with_reducible exact ih0 _ _ _)
      | (with_reducible exact ih1 _ _ _ _)
      | (with_reducible exact LeO.refl _)
      | (with_reducible exact LeO.none _)
      | (with_reducible refine LeO.ite ?_ ?_)
      | (with_reducible refine LeO.bind ?_ (fun _ => ?_))
      | exact ih0 _ _ _
      | exact ih1 _ _ _ _
      | exact LeO.none _
      | refine LeO.ite ?_ ?_
      | refine LeO.bind ?_ (fun _ => ?_)
    · intro y0 y1 y2 y3
      unfold cobwebref02_Order.j1
      repeat' first
      | (with_reducible exact ih0 _ _ _)
      | (with_reducible exact ih1 _ _ _ _)
      | (with_reducible exact LeO.refl _)
      | (with_reducible exact LeO.none _)
      | (with_reducible refine LeO.ite ?_ ?_)
      | (with_reducible refine LeO.bind ?_ (fun _ => ?_))
      | exact ih0 _ _ _
      | exact ih1 _ _ _ _
      | exact LeO.none _
      | refine LeO.ite ?_ ?_
      | refine LeO.bind ?_ (fun _ => ?_)
theorem cobwebref02_Order.mono : ∀ a0 a1 k, LeO (cobwebref02_Order.f k a0 a1) (cobwebref02_Order.f (k + 1) a0 a1) := by
  intro a0 a1 k
  obtain ⟨ih0, ih1⟩ := cobwebref02_Order.mono_l k
  unfold cobwebref02_Order.f
  repeat' first
      | (with_reducible exact ih0 _ _ _)
      | (with_reducible exact ih1 _ _ _ _)
      | (with_reducible exact LeO.refl _)
      | (with_reducible exact LeO.none _)
      | (with_reducible refine LeO.ite ?_ ?_)
      | (with_reducible refine LeO.bind ?_ (fun _ => ?_))
      | exact ih0 _ _ _
      | exact ih1 _ _ _ _
      | exact LeO.none _
      | refine LeO.ite ?_ ?_
      | refine LeO.bind ?_ (fun _ => ?_)
set_option maxHeartbeats 8000000 in
set_option maxRecDepth 100000 in
theorem cobwebref02_Order.calls (k : Nat) (a0 : ByteArray) (a1 : ByteArray) (r : Int) (w : World) (h : cobwebref02_Order.f k a0 a1 = some r) :
    Calls Try.prog 14 #[.string a0, .string a1] w fun e w' => e = .returned (.int .i64 r) ∧ Drawn0 w w' := by
  have H : (cobwebref02_Order.l0 k a0 a1 0) = some r := h
  clear h
  have H' := Aside0.mk H
  clear H
  go_enter Try.func14, Try.ntmps14
  go_wp2
  repeat (go_quiet (fail); try go_wp2)
  go_loopg [5] k (fun kq v5 w' => ∃ (x5_1 : Int), v5 = .int .i64 x5_1 ∧ Aside0 (cobwebref02_Order.l0 kq a0 a1 x5_1 = some r) ∧ Aside0 (kq ≤ k) ∧ Drawn0 w w')
  case atStart => exact ⟨(0), (by first | rfl | (simp; done) | (simp [*]; done)), H', ⟨Nat.le_refl _⟩, by repeat (first | exact Drawn0.refl _ | apply Drawn0.step)⟩
  case round =>
    clear H'
    try clear c1
    try clear p2
    obtain ⟨x5_1, rfl, HA, HK1, ⟨m1, rfl⟩⟩ := hrel
    cases gk with
    | zero => exact absurd HA.out (by simp [cobwebref02_Order.l0])
    | succ k1 =>
      have H := HA.out
      clear HA
      simp only [cobwebref02_Order.l0] at H
      have HC3 := Aside0.mk H
      clear H
      go_upto_region 2 with (fail)
      repeat (go_quiet (fail); go_upto_region 2 with (fail))
      go_cut [15] (fun v15 wc => ∃ (kq : Nat) (x15_2 : Bool), v15 = .bool x15_2 ∧ Aside0 (cobwebref02_Order.j1 kq a0 a1 x5_1 x15_2 = some r) ∧ Aside0 (kq ≤ k1) ∧ Drawn0 w wc)
      case first =>
        have H := HC3.out
        clear HC3
        by_cases c4 : x5_1 < (a0.size : Int)
        · rw [if_pos c4] at H
          have c4b0 : decide (x5_1 < (a0.size : Int)) = true := decide_eq_true c4
          clear c4
          (first | rw [c4b0] | (simp only [i64_w, i32_w]; rw [c4b0]) | skip)
          have H' := Aside0.mk H
          clear H
          go_wp2
          repeat (go_quiet (fail); try go_wp2)
          go_meet
          case rel => exact ⟨_, (decide (x5_1 < (a1.size : Int))), (by first | rfl | (simp; done) | (simp [*]; done)), H', ⟨by have := HK1.out; first | omega | exact Nat.le_refl _⟩, by repeat (first | exact Drawn0.refl _ | apply Drawn0.step)⟩
        · rw [if_neg c4] at H
          have c4b0 : decide (x5_1 < (a0.size : Int)) = false := decide_eq_false c4
          clear c4
          (first | rw [c4b0] | (simp only [i64_w, i32_w]; rw [c4b0]) | skip)
          have H' := Aside0.mk H
          clear H
          go_wp2
          repeat (go_quiet (fail); try go_wp2)
          go_meet
          case rel => exact ⟨_, (false), (by first | rfl | (simp; done) | (simp [*]; done)), H', ⟨by have := HK1.out; first | omega | exact Nat.le_refl _⟩, by repeat (first | exact Drawn0.refl _ | apply Drawn0.step)⟩
      case rest =>
        clear HC3
        try clear c1
        try clear p2
        try clear c4
        try clear c4b0
        try clear p2
        obtain ⟨kq, x15_2, rfl, HA, HJ2, ⟨mc2, rfl⟩⟩ := hcut
        cases kq with
        | zero => exact absurd HA.out (by simp [cobwebref02_Order.j1])
        | succ kj2 =>
          have H := HA.out
          clear HA
          simp only [cobwebref02_Order.j1] at H
          by_cases c5 : x15_2 = true
          · subst c5
            have H1 : (if 0 ≤ x5_1 then (if x5_1 < (a0.size : Int) then (if x5_1 < (a1.size : Int) then (if (bt a0 x5_1) = (bt a1 x5_1) then (cobwebref02_Order.l0 kj2 a0 a1 (wrap64 (x5_1 + 1))) else ((cobwebref02_sign.f (decide ((bt a0 x5_1) < (bt a1 x5_1)))).bind fun t234 => (some t234))) else (none)) else (none)) else (none)) = some r := by rw [if_pos rfl] at H; exact H
            clear H
            have H := H1
            clear H1
            by_cases c6 : 0 ≤ x5_1
            · rw [if_pos c6] at H
              have c6b0 : decide (0 ≤ x5_1) = true := decide_eq_true c6
              clear c6
              by_cases c7 : x5_1 < (a0.size : Int)
              · rw [if_pos c7] at H
                have c7b0 : decide (x5_1 < (a0.size : Int)) = true := decide_eq_true c7
                clear c7
                by_cases c9 : x5_1 < (a1.size : Int)
                · rw [if_pos c9] at H
                  have c9b0 : decide (x5_1 < (a1.size : Int)) = true := decide_eq_true c9
                  clear c9
                  by_cases c11 : (bt a0 x5_1) = (bt a1 x5_1)
                  · rw [if_pos c11] at H
                    have c11b0 : ((bt a0 x5_1) == (bt a1 x5_1)) = true := beq_iff_eq.mpr c11
                    have c11b1 : ((bt a0 x5_1) != (bt a1 x5_1)) = false := bne_eq_false_iff_eq.mpr c11
                    clear c11
                    have H' := Aside0.mk H
                    clear H
                    have p8 : 0 ≤ (x5_1 : Int) := of_decide_eq_true (by first | (with_reducible assumption) | assumption)
                    have q8 : x5_1 < (a0.size : Int) := of_decide_eq_true (by first | (with_reducible assumption) | assumption)
                    have hx8 := bt_at a0 x5_1
                    replace p8 := eq_true p8
                    replace q8 := eq_true q8
                    have p10 : 0 ≤ (x5_1 : Int) := of_decide_eq_true (by first | (with_reducible assumption) | assumption)
                    have q10 : x5_1 < (a1.size : Int) := of_decide_eq_true (by first | (with_reducible assumption) | assumption)
                    have hx10 := bt_at a1 x5_1
                    replace p10 := eq_true p10
                    replace q10 := eq_true q10
                    go_wp2
                    repeat (go_quiet (fail); try go_wp2)
                    go_roundg kj2
                    case measure => have := HK1.out; have := HJ2.out; omega
                    case rel => exact ⟨(wrap64 (x5_1 + 1)), (by first | rfl | (simp; done) | (simp [*]; done)), H', ⟨by have := HK1.out; have := HJ2.out; omega⟩, by repeat (first | exact Drawn0.refl _ | apply Drawn0.step)⟩
                  · rw [if_neg c11] at H
                    have c11b0 : ((bt a0 x5_1) == (bt a1 x5_1)) = false := beq_eq_false_iff_ne.mpr c11
                    have c11b1 : ((bt a0 x5_1) != (bt a1 x5_1)) = true := bne_iff_ne.mpr c11
                    replace H := Option.bind_eq_some_iff.mp H
                    obtain ⟨t234, A140, H⟩ := H
                    replace H : (some t234) = some r := H
                    have A14 := Aside0.mk A140
                    clear A140
                    obtain rfl := Option.some.inj H
                    have p8 : 0 ≤ (x5_1 : Int) := of_decide_eq_true (by first | (with_reducible assumption) | assumption)
                    have q8 : x5_1 < (a0.size : Int) := of_decide_eq_true (by first | (with_reducible assumption) | assumption)
                    have hx8 := bt_at a0 x5_1
                    replace p8 := eq_true p8
                    replace q8 := eq_true q8
                    have p10 : 0 ≤ (x5_1 : Int) := of_decide_eq_true (by first | (with_reducible assumption) | assumption)
                    have q10 : x5_1 < (a1.size : Int) := of_decide_eq_true (by first | (with_reducible assumption) | assumption)
                    have hx10 := bt_at a1 x5_1
                    replace p10 := eq_true p10
                    replace q10 := eq_true q10
                    have p12 : 0 ≤ (x5_1 : Int) := of_decide_eq_true (by first | (with_reducible assumption) | assumption)
                    have q12 : x5_1 < (a0.size : Int) := of_decide_eq_true (by first | (with_reducible assumption) | assumption)
                    have hx12 := bt_at a0 x5_1
                    replace p12 := eq_true p12
                    replace q12 := eq_true q12
                    have p13 : 0 ≤ (x5_1 : Int) := of_decide_eq_true (by first | (with_reducible assumption) | assumption)
                    have q13 : x5_1 < (a1.size : Int) := of_decide_eq_true (by first | (with_reducible assumption) | assumption)
                    have hx13 := bt_at a1 x5_1
                    replace p13 := eq_true p13
                    replace q13 := eq_true q13
                    go_wp2_with (first | (go_at_call 43; (with_reducible refine (cobwebref02_sign.calls (decide ((bt a0 x5_1) < (bt a1 x5_1))) t234 _ A14.out).mono ?_); rintro e w' ⟨rfl, ⟨nd, rfl⟩⟩; (try first | exact ⟨rfl, _, World.drewN_drewN _ _ _⟩ | exact ⟨rfl, _, Eq.trans (World.drewN_drewN _ _ _) (congrArg (World.drewN _) (Nat.add_assoc _ _ _))⟩)))
                    repeat (go_quiet (first | (go_at_call 43; (with_reducible refine (cobwebref02_sign.calls (decide ((bt a0 x5_1) < (bt a1 x5_1))) t234 _ A14.out).mono ?_); rintro e w' ⟨rfl, ⟨nd, rfl⟩⟩; (try first | exact ⟨rfl, _, World.drewN_drewN _ _ _⟩ | exact ⟨rfl, _, Eq.trans (World.drewN_drewN _ _ _) (congrArg (World.drewN _) (Nat.add_assoc _ _ _))⟩))); try go_wp2_with (first | (go_at_call 43; (with_reducible refine (cobwebref02_sign.calls (decide ((bt a0 x5_1) < (bt a1 x5_1))) t234 _ A14.out).mono ?_); rintro e w' ⟨rfl, ⟨nd, rfl⟩⟩; (try first | exact ⟨rfl, _, World.drewN_drewN _ _ _⟩ | exact ⟨rfl, _, Eq.trans (World.drewN_drewN _ _ _) (congrArg (World.drewN _) (Nat.add_assoc _ _ _))⟩))))
                    go_ret
                    exact ⟨by first | rfl | (simp; done) | (simp [*]; done), by repeat (first | exact Drawn0.refl _ | apply Drawn0.step)⟩
                · rw [if_neg c9] at H
                  exact absurd H (by simp)
              · rw [if_neg c7] at H
                exact absurd H (by simp)
            · rw [if_neg c6] at H
              exact absurd H (by simp)
          · replace c5 := Bool.eq_false_iff.mpr c5
            subst c5
            have H1 : (if (a0.size : Int) = (a1.size : Int) then (some 0) else ((cobwebref02_sign.f (decide ((a0.size : Int) < (a1.size : Int)))).bind fun t235 => (some t235))) = some r := by rw [if_neg (show ¬ (false = true) by decide)] at H; exact H
            clear H
            have H := H1
            clear H1
            by_cases c15 : (a0.size : Int) = (a1.size : Int)
            · rw [if_pos c15] at H
              have c15b0 : ((a0.size : Int) == (a1.size : Int)) = true := beq_iff_eq.mpr c15
              have c15b1 : ((a0.size : Int) != (a1.size : Int)) = false := bne_eq_false_iff_eq.mpr c15
              have c15b2 : (a0.size == a1.size) = true := by first | simpa using c15 | (simp at c15 ⊢; omega)
              clear c15
              obtain rfl := Option.some.inj H
              go_wp2
              repeat (go_quiet (fail); try go_wp2)
              go_ret
              exact ⟨by first | rfl | (simp; done) | (simp [*]; done), by repeat (first | exact Drawn0.refl _ | apply Drawn0.step)⟩
            · rw [if_neg c15] at H
              have c15b0 : ((a0.size : Int) == (a1.size : Int)) = false := beq_eq_false_iff_ne.mpr c15
              have c15b1 : ((a0.size : Int) != (a1.size : Int)) = true := bne_iff_ne.mpr c15
              have c15b2 : (a0.size == a1.size) = false := by first | simpa using c15 | (simp at c15 ⊢; omega)
              replace H := Option.bind_eq_some_iff.mp H
              obtain ⟨t235, A160, H⟩ := H
              replace H : (some t235) = some r := H
              have A16 := Aside0.mk A160
              have A17 : Aside0 (cobwebref02_sign.f (decide (a0.size < a1.size)) = some t235) := ⟨by have h_ := A16.out; simpa using h_⟩
              clear A160
              obtain rfl := Option.some.inj H
              go_wp2_with (first | (go_at_call 43; (with_reducible refine (cobwebref02_sign.calls (decide (a0.size < a1.size)) t235 _ A17.out).mono ?_); rintro e w' ⟨rfl, ⟨nd, rfl⟩⟩; (try first | exact ⟨rfl, _, World.drewN_drewN _ _ _⟩ | exact ⟨rfl, _, Eq.trans (World.drewN_drewN _ _ _) (congrArg (World.drewN _) (Nat.add_assoc _ _ _))⟩)))
              repeat (go_quiet (first | (go_at_call 43; (with_reducible refine (cobwebref02_sign.calls (decide (a0.size < a1.size)) t235 _ A17.out).mono ?_); rintro e w' ⟨rfl, ⟨nd, rfl⟩⟩; (try first | exact ⟨rfl, _, World.drewN_drewN _ _ _⟩ | exact ⟨rfl, _, Eq.trans (World.drewN_drewN _ _ _) (congrArg (World.drewN _) (Nat.add_assoc _ _ _))⟩))); try go_wp2_with (first | (go_at_call 43; (with_reducible refine (cobwebref02_sign.calls (decide (a0.size < a1.size)) t235 _ A17.out).mono ?_); rintro e w' ⟨rfl, ⟨nd, rfl⟩⟩; (try first | exact ⟨rfl, _, World.drewN_drewN _ _ _⟩ | exact ⟨rfl, _, Eq.trans (World.drewN_drewN _ _ _) (congrArg (World.drewN _) (Nat.add_assoc _ _ _))⟩))))
              go_ret
              exact ⟨by first | rfl | (simp; done) | (simp [*]; done), by repeat (first | exact Drawn0.refl _ | apply Drawn0.step)⟩
end Go.Proofs.Ytneagipmllgejaa.PL
end
section
namespace Go.Proofs.Ytneagipmllgejaa.PL
open Go.RowKit Go.Proofs.YtneagipmllgejaaW.PrintWords Go.Proofs.YtneagipmllgejaaW.PrintLast Go.Proofs.YtneagipmllgejaaW.PrintMore
attribute [local go_sem] max2_int min2_int max_two min_two max_three min_three max_four min_four   -- for this text's walks alone
set_option linter.unusedVariables false
set_option linter.unusedSimpArgs false
def cobwebref11_Rise.l0 : Nat → List ByteArray → Int → Option (Bool)
 | 0, _, _ => none
 | k + 1, x0, x3 => if x3 < (x0.length : Int) then (if 0 ≤ (wrap64 (x3 - 1)) then (if (wrap64 (x3 - 1)) < (x0.length : Int) then (if 0 ≤ x3 then ((cobwebref02_Order.f k (rdOf ByteArray.empty x0 (wrap64 (x3 - 1))) (rdOf ByteArray.empty x0 x3)).bind fun t218 => (if t218 ≥ 0 then (some false) else (cobwebref11_Rise.l0 k x0 (wrap64 (x3 + 1))))) else (none)) else (none)) else (none)) else (some true)
def cobwebref11_Rise.f (k : Nat) (l0 : List ByteArray) : Option (Bool) := cobwebref11_Rise.l0 k l0 1
theorem cobwebref11_Rise.mono_l : ∀ k, (∀ y0 y1, LeO (cobwebref11_Rise.l0 k y0 y1) (cobwebref11_Rise.l0 (k + 1) y0 y1))
 | 0 => fun _ _ r h => by simp [cobwebref11_Rise.l0] at h
 | k + 1 => by
  have ih0 := cobwebref11_Rise.mono_l k
  ·intro y0 y1
   unfold cobwebref11_Rise.l0
   repeat' first
   | (with_reducible exact ih0 _ _)
   | (with_reducible exact cobwebref02_Order.mono _ _ _)
   | (with_reducible exact LeO.refl _)
   | (with_reducible exact LeO.none _)
   | (with_reducible refine LeO.ite ?_ ?_)
   | (with_reducible refine LeO.bind ?_ (fun _ => ?_))
   | exact ih0 _ _
   | exact cobwebref02_Order.mono _ _ _
   | exact LeO.none _
   | refine LeO.ite ?_ ?_
   | refine LeO.bind ?_ (fun _ => ?_)
theorem cobwebref11_Rise.mono : ∀ a0 k, LeO (cobwebref11_Rise.f k a0) (cobwebref11_Rise.f (k + 1) a0) := by
 intro a0 k
 have ih0 := cobwebref11_Rise.mono_l k
 unfold cobwebref11_Rise.f
 repeat' first
   | (with_reducible exact ih0 _ _)
   | (with_reducible exact cobwebref02_Order.mono _ _ _)
   | (with_reducible exact LeO.refl _)
   | (with_reducible exact LeO.none _)
   | (with_reducible refine LeO.ite ?_ ?_)
   | (with_reducible refine LeO.bind ?_ (fun _ => ?_))
   | exact ih0 _ _
   | exact cobwebref02_Order.mono _ _ _
   | exact LeO.none _
   | refine LeO.ite ?_ ?_
   | refine LeO.bind ?_ (fun _ => ?_)
end Go.Proofs.Ytneagipmllgejaa.PL
end
section
namespace Go.Proofs.Ytneagipmllgejaa.PL
open Go.RowKit Go.Proofs.YtneagipmllgejaaW.PrintWords Go.Proofs.YtneagipmllgejaaW.PrintLast Go.Proofs.YtneagipmllgejaaW.PrintMore
attribute [local go_sem] max2_int min2_int max_two min_two max_three min_three max_four min_four   -- for this text's walks alone
set_option linter.unusedVariables false
set_option linter.unusedSimpArgs false
mutual
def cobwebref11_Root.j0 : Nat → Bool → List ByteArray → List Int → Option (Bool)
 | 0, _, _, _ => none
 | k + 1, x18, x273000, x273001 => if x18 = true then (some false) else (cobwebref11_Root.l0 k 0 x273000 x273001)
def cobwebref11_Root.l0 : Nat → Int → List ByteArray → List Int → Option (Bool)
 | 0, _, _, _ => none
 | k + 1, x3, x273000, x273001 => if x3 < (x273001.length : Int) then (if 0 ≤ x3 then (if (rd x273001 x3) < 1 then (some false) else (cobwebref11_Root.l1 k x3 0 x273000 x273001)) else (none)) else (some true)
def cobwebref11_Root.l1 : Nat → Int → Int → List ByteArray → List Int → Option (Bool)
 | 0, _, _, _, _ => none
 | k + 1, x3, x4, x273000, x273001 => if x4 < x3 then (if 0 ≤ x4 then (if x4 < (x273001.length : Int) then (if 0 ≤ x3 then (if x3 < (x273001.length : Int) then (if (rd x273001 x4) = (rd x273001 x3) then (some false) else (cobwebref11_Root.l1 k x3 (wrap64 (x4 + 1)) x273000 x273001)) else (none)) else (none)) else (none)) else (none)) else (cobwebref11_Root.l0 k (wrap64 (x3 + 1)) x273000 x273001)
end
def cobwebref11_Root.f (k : Nat) (l0_0 : List ByteArray) (l0_1 : List Int) : Option (Bool) := if (l0_1.length : Int) = (wrap64 ((l0_0.length : Int) + 1)) then ((cobwebref11_Rise.f k l0_0).bind fun t273 => (cobwebref11_Root.j0 k (!t273) l0_0 l0_1)) else (cobwebref11_Root.j0 k true l0_0 l0_1)
theorem cobwebref11_Root.mono_l : ∀ k, (∀ y0 y1 y2, LeO (cobwebref11_Root.j0 k y0 y1 y2) (cobwebref11_Root.j0 (k + 1) y0 y1 y2)) ∧ (∀ y0 y1 y2, LeO (cobwebref11_Root.l0 k y0 y1 y2) (cobwebref11_Root.l0 (k + 1) y0 y1 y2)) ∧ (∀ y0 y1 y2 y3, LeO (cobwebref11_Root.l1 k y0 y1 y2 y3) (cobwebref11_Root.l1 (k + 1) y0 y1 y2 y3))
 | 0 => ⟨fun _ _ _ r h => by simp [cobwebref11_Root.j0] at h, fun _ _ _ r h => by simp [cobwebref11_Root.l0] at h, fun _ _ _ _ r h => by simp [cobwebref11_Root.l1] at h⟩
 | k + 1 => by
  obtain ⟨ih0, ih1, ih2⟩ := cobwebref11_Root.mono_l k
  refine ⟨?_, ?_, ?_⟩
  ·intro y0 y1 y2
   unfold cobwebref11_Root.j0
   repeat' first
   | (with_reducible exact ih0 _ _ _)
   | (with_reducible exact ih1 _ _ _)
   | (with_reducible exact ih2 _ _ _ _)
   | (with_reducible exact cobwebref11_Rise.mono _ _)
   | (with_reducible exact LeO.refl _)
   | (with_reducible exact LeO.none _)
   | (with_reducible refine LeO.ite ?_ ?_)
   | (with_reducible refine LeO.bind ?_ (fun _ => ?_))
   | exact ih0 _ _ _
   | exact ih1 _ _ _
   | exact ih2 _ _ _ _
   | exact cobwebref11_Rise.mono _ _
   | exact LeO.none _
   | refine LeO.ite ?_ ?_
   | refine LeO.bind ?_ (fun _ => ?_)
  ·intro y0 y1 y2
   unfold cobwebref11_Root.l0
   repeat' first
   | (with_reducible exact ih0 _ _ _)
   | (with_reducible exact ih1 _ _ _)
   | (with_reducible exact ih2 _ _ _ _)
   | (with_reducible exact cobwebref11_Rise.mono _ _)
   | (with_reducible exact LeO.refl _)
   | (with_reducible exact LeO.none _)
   | (with_reducible refine LeO.ite ?_ ?_)
   | (with_reducible refine LeO.bind ?_ (fun _ => ?_))
   | exact ih0 _ _ _
   | exact ih1 _ _ _
   | exact ih2 _ _ _ _
   | exact cobwebref11_Rise.mono _ _
   | exact LeO.none _
   | refine LeO.ite ?_ ?_
   | refine LeO.bind ?_ (fun _ => ?_)
  ·intro y0 y1 y2 y3
   unfold cobwebref11_Root.l1
   repeat' first
   | (with_reducible exact ih0 _ _ _)
   | (with_reducible exact ih1 _ _ _)
   | (with_reducible exact ih2 _ _ _ _)
   | (with_reducible exact cobwebref11_Rise.mono _ _)
   | (with_reducible exact LeO.refl _)
   | (with_reducible exact LeO.none _)
   | (with_reducible refine LeO.ite ?_ ?_)
   | (with_reducible refine LeO.bind ?_ (fun _ => ?_))
   | exact ih0 _ _ _
   | exact ih1 _ _ _
   | exact ih2 _ _ _ _
   | exact cobwebref11_Rise.mono _ _
   | exact LeO.none _
   | refine LeO.ite ?_ ?_
   | refine LeO.bind ?_ (fun _ => ?_)
theorem cobwebref11_Root.mono : ∀ a0 a1 k, LeO (cobwebref11_Root.f k a0 a1) (cobwebref11_Root.f (k + 1) a0 a1) := by
 intro a0 a1 k
 obtain ⟨ih0, ih1, ih2⟩ := cobwebref11_Root.mono_l k
 unfold cobwebref11_Root.f
 repeat' first
   | (with_reducible exact ih0 _ _ _)
   | (with_reducible exact ih1 _ _ _)
   | (with_reducible exact ih2 _ _ _ _)
   | (with_reducible exact cobwebref11_Rise.mono _ _)
   | (with_reducible exact LeO.refl _)
   | (with_reducible exact LeO.none _)
   | (with_reducible refine LeO.ite ?_ ?_)
   | (with_reducible refine LeO.bind ?_ (fun _ => ?_))
   | exact ih0 _ _ _
   | exact ih1 _ _ _
   | exact ih2 _ _ _ _
   | exact cobwebref11_Rise.mono _ _
   | exact LeO.none _
   | refine LeO.ite ?_ ?_
   | refine LeO.bind ?_ (fun _ => ?_)
end Go.Proofs.Ytneagipmllgejaa.PL
end
section
namespace Go.Proofs.Ytneagipmllgejaa.PL
open Go.RowKit Go.Proofs.YtneagipmllgejaaW.PrintWords Go.Proofs.YtneagipmllgejaaW.PrintLast Go.Proofs.YtneagipmllgejaaW.PrintMore
attribute [local go_sem] max2_int min2_int max_two min_two max_three min_three max_four min_four   -- for this text's walks alone
set_option linter.unusedVariables false
set_option linter.unusedSimpArgs false
def cobwebref11_At.l0 : Nat → ByteArray → Int → Int → List ByteArray → List Int → Option (Int)
 | 0, _, _, _, _, _ => none
 | k + 1, x1, x5, x6, x278000, x278001 => if x6 < (x278000.length : Int) then (if 0 ≤ x6 then ((cobwebref02_Order.f k (rdOf ByteArray.empty x278000 x6) x1).bind fun t279 => (if t279 ≤ 0 then (cobwebref11_At.l0 k x1 (wrap64 (x5 + 1)) (wrap64 (x6 + 1)) x278000 x278001) else (cobwebref11_At.l0 k x1 x5 (wrap64 (x6 + 1)) x278000 x278001))) else (none)) else (some x5)
def cobwebref11_At.f (k : Nat) (l0_0 : List ByteArray) (l0_1 : List Int) (a1 : ByteArray) : Option (Int) := cobwebref11_At.l0 k a1 0 0 l0_0 l0_1
theorem cobwebref11_At.mono_l : ∀ k, (∀ y0 y1 y2 y3 y4, LeO (cobwebref11_At.l0 k y0 y1 y2 y3 y4) (cobwebref11_At.l0 (k + 1) y0 y1 y2 y3 y4))
 | 0 => fun _ _ _ _ _ r h => by simp [cobwebref11_At.l0] at h
 | k + 1 => by
  have ih0 := cobwebref11_At.mono_l k
  ·intro y0 y1 y2 y3 y4
   unfold cobwebref11_At.l0
   repeat' first
   | (with_reducible exact ih0 _ _ _ _ _)
   | (with_reducible exact cobwebref02_Order.mono _ _ _)
   | (with_reducible exact LeO.refl _)
   | (with_reducible exact LeO.none _)
   | (with_reducible refine LeO.ite ?_ ?_)
   | (with_reducible refine LeO.bind ?_ (fun _ => ?_))
   | exact ih0 _ _ _ _ _
   | exact cobwebref02_Order.mono _ _ _
   | exact LeO.none _
   | refine LeO.ite ?_ ?_
   | refine LeO.bind ?_ (fun _ => ?_)
theorem cobwebref11_At.mono : ∀ a0 a1 a2 k, LeO (cobwebref11_At.f k a0 a1 a2) (cobwebref11_At.f (k + 1) a0 a1 a2) := by
 intro a0 a1 a2 k
 have ih0 := cobwebref11_At.mono_l k
 unfold cobwebref11_At.f
 repeat' first
   | (with_reducible exact ih0 _ _ _ _ _)
   | (with_reducible exact cobwebref02_Order.mono _ _ _)
   | (with_reducible exact LeO.refl _)
   | (with_reducible exact LeO.none _)
   | (with_reducible refine LeO.ite ?_ ?_)
   | (with_reducible refine LeO.bind ?_ (fun _ => ?_))
   | exact ih0 _ _ _ _ _
   | exact cobwebref02_Order.mono _ _ _
   | exact LeO.none _
   | refine LeO.ite ?_ ?_
   | refine LeO.bind ?_ (fun _ => ?_)
end Go.Proofs.Ytneagipmllgejaa.PL
end
section
namespace Go.Proofs.Ytneagipmllgejaa.PL
open Go.RowKit Go.Proofs.YtneagipmllgejaaW.PrintWords Go.Proofs.YtneagipmllgejaaW.PrintLast Go.Proofs.YtneagipmllgejaaW.PrintMore
attribute [local go_sem] max2_int min2_int max_two min_two max_three min_three max_four min_four   -- for this text's walks alone
set_option linter.unusedVariables false
set_option linter.unusedSimpArgs false
def cobwebref11_Leaf.f (k : Nat) (a0_0 : Int) (l0_1 : List ByteArray) (a0_2 : Bool) : Option (Bool) := if a0_2 = true then (some false) else (if (l0_1.length : Int) ≤ 4 then ((cobwebref11_Rise.f k l0_1).bind fun t281 => (some t281)) else (some false))
theorem cobwebref11_Leaf.mono : ∀ a0 a1 a2 k, LeO (cobwebref11_Leaf.f k a0 a1 a2) (cobwebref11_Leaf.f (k + 1) a0 a1 a2) := by
 intro a0 a1 a2 k
 unfold cobwebref11_Leaf.f
 repeat' first
   | (with_reducible exact cobwebref11_Rise.mono _ _)
   | (with_reducible exact LeO.refl _)
   | (with_reducible exact LeO.none _)
   | (with_reducible refine LeO.ite ?_ ?_)
   | (with_reducible refine LeO.bind ?_ (fun _ => ?_))
   | exact cobwebref11_Rise.mono _ _
   | exact LeO.none _
   | refine LeO.ite ?_ ?_
   | refine LeO.bind ?_ (fun _ => ?_)
end Go.Proofs.Ytneagipmllgejaa.PL
end
section
namespace Go.Proofs.Ytneagipmllgejaa.PL
open Go.RowKit Go.Proofs.YtneagipmllgejaaW.PrintWords Go.Proofs.YtneagipmllgejaaW.PrintLast Go.Proofs.YtneagipmllgejaaW.PrintMore
attribute [local go_sem] max2_int min2_int max_two min_two max_three min_three max_four min_four   -- for this text's walks alone
set_option linter.unusedVariables false
set_option linter.unusedSimpArgs false
def cobwebref11_Find.f (k : Nat) (l0_0 : List ByteArray) (l0_1 : List Int) (a1 : ByteArray) : Option (Int) := (cobwebref11_Root.f k l0_0 l0_1).bind fun t295 => (if t295 = true then ((cobwebref11_At.f k l0_0 l0_1 a1).bind fun t296 => (if 0 ≤ t296 then (if t296 < (l0_1.length : Int) then (some (rd l0_1 t296)) else (none)) else (none))) else (some 0))
theorem cobwebref11_Find.mono : ∀ a0 a1 a2 k, LeO (cobwebref11_Find.f k a0 a1 a2) (cobwebref11_Find.f (k + 1) a0 a1 a2) := by
  intro a0 a1 a2 k
  unfold cobwebref11_Find.f
  repeat' first
      | (with_reducible exact cobwebref11_At.mono _ _ _ _)
      | (with_reducible exact cobwebref11_Root.mono _ _ _)
      | (with_reducible exact LeO.refl _)
      | (with_reducible exact LeO.none _)
      | (with_reducible refine LeO.ite ?_ ?_)
      | (with_reducible refine LeO.bind ?_ (fun _ => ?_))
      | exact cobwebref11_At.mono _ _ _ _
      | exact cobwebref11_Root.mono _ _ _
      | exact LeO.none _
      | refine LeO.ite ?_ ?_
      | refine LeO.bind ?_ (fun _ => ?_)
end Go.Proofs.Ytneagipmllgejaa.PL
end
