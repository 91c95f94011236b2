/- Laws at a single operation, for regions that draw their order: a struct's box is laid, a struct is stored whole; the world gets a letter. -/
import Derived.Test.YtfbegchhgigjeaaHKit
import Derived.Deep.RegionHeld3
set_option linter.unusedVariables false
set_option linter.unusedSimpArgs false
namespace Go.Proofs.YtfbegchhgigjeaaH
open Go.RowKit Go.Proofs.YtfbegchhgigjeaaW.PrintWords Go.Proofs.YtfbegchhgigjeaaW.PrintLast Go.Proofs.YtfbegchhgigjeaaW.PrintMore
section
variable {P : Program} {o : Oper} {a : Act} {K : Act → World → Prop} {Q : Exit → Act → World → Prop} {W : World} {b : Bool} {L : Prop}
theorem wpo_alloc {t : TypeId} (ho : o.op = .alloc t) (hw : b = true) (obj : Obj) (hrun : (execOp a.eval o).run P W = .ok (.value (.pointer (some ⟨W.heap.size, 0, none⟩))) (W.alloc obj))
    (h : ∀ g, g = W.heap.size → ∀ w1, w1.heap[g]? = some obj → Below W.heap.size W w1 → K (a.put o.dst (.pointer (some ⟨g, 0, none⟩))) w1) : if b = true then o.wp P a W K Q else L := by
  rw [if_pos hw]
  unfold Oper.wp
  rw [hrun]
  exact h _ rfl _ (heap_alloc_new W _) (below_alloc (Below.refl _ _) _)
theorem wpo_store {t : TypeId} {p x : Operand} (hw : b = true) (ho : o.op = .store t p x) (hN : o.dst = none) (g : Nat) (cur : Array Value) (e : TypeId) (cs : List Value) (hp : a.eval p = .pointer (some ⟨g, 0, none⟩)) (u : Value) (hx : a.eval x = u) (hu : u.cells.toList = cs)
    (hbox : W.heap[g]? = some (.cells cur e (0, 0))) (hsz : cs.length = cur.size) (ht : (P.info? t).map (·.size) = some cs.length) (h1 : ∀ q ∈ cs, q.oneCell' = true)
    (h : ∀ w1, w1.heap[g]? = some (.cells cs.toArray e (0, 0)) → W.grownBy w1 (some g) → w1.heap.size = W.heap.size → K (a.put none undef) w1) : if b = true then o.wp P a W K Q else L := by
  rw [if_pos hw]
  have hrun := run_store_run (o := 0) t u cs hbox hu ht (by omega) h1
  obtain ⟨cur', h2, h3, h4⟩ := setCells_row cs 0 W cur hbox (by omega)
  obtain ⟨s1, s2, s3, s4⟩ := setCells_same g cs 0 W
  unfold Oper.wp
  simp only [execOp, ho, hp, hx, Sem.run_bind, hrun, Result.andThen_ok, Sem.run_pure]
  show K (a.put o.dst undef) _
  rw [hN]
  refine h _ ?_ ⟨s1, s2, s3, by omega, fun k hk hne => setCells_far cs 0 k (fun e => hne (by rw [e]))⟩ s4
  have h5 : cur' = cs.toArray := by
    apply Array.toList_inj.1
    rw [h4]
    simp only [List.take_zero, List.nil_append, Nat.zero_add]
    rw [List.drop_eq_nil_of_le (by rw [hsz, Array.length_toList]; omega)]
    simp
  rw [h2, h5]
end
theorem grown_setCell (W : World) (g j : Nat) (u : Value) : W.grownBy (W.setCell ⟨g, j, none⟩ u) (some g) :=
  ⟨rfl, rfl, rfl, by show W.heap.size ≤ (W.setCell ⟨g, j, none⟩ u).heap.size; simp [World.setCell], fun k hk hne => Below.heap_setCell W ⟨g, j, none⟩ u k (fun e => hne (by rw [e]))⟩
/-- What is kept through a region: the frame, a box of one's own, a row of one's own. -/
def Inv1 (w : World) (g : Nat) (cs : Array Value) (v : Value) (ys : List Int) (W : World) : Prop :=
  Below w.heap.size w W ∧ W.heap[g]? = some (.cells cs 39 (0, 0)) ∧ (Kd.int .i64).R 3 W w.heap.size (fun _ => True) v ys
theorem Inv1.step {w W W1 : World} {g : Nat} {cs : Array Value} {v : Value} {ys : List Int} (h : Inv1 w g cs v ys W) (hb : Below W.heap.size W W1) : Inv1 w g cs v ys W1 :=
  ⟨below_then h.1 h.1.size hb, blk_below h.2.1 hb, Kd.R_below h.2.2 hb⟩
theorem Inv1.drew {w W : World} {g : Nat} {cs : Array Value} {v : Value} {ys : List Int} (h : Inv1 w g cs v ys W) : Inv1 w g cs v ys W.drew := h.step (below_drew (Below.refl _ _))
theorem Inv1.grown {w W W1 : World} {g x : Nat} {cs ds : Array Value} {v : Value} {ys : List Int} (h : Inv1 w g cs v ys W) (hx : W.heap[x]? = some (.cells ds 39 (0, 0))) (hwx : w.heap.size ≤ x) (hne : x ≠ g) (hg : W.grownBy W1 (some x)) : Inv1 w g cs v ys W1 :=
  ⟨below_own h.1 hg hwx h.1.size, blk_grown h.2.1 hg (by simp; omega), Kd.R_grown1 h.2.2 rfl hg (Kd.R_ne h.2.2 hx (by decide))⟩
theorem box_facts {W : World} {g : Nat} {a b c d : Value} (h : W.heap[g]? = some (.cells #[a, b, c, d] 39 (0, 0))) : W.cell? ⟨g, 0, none⟩ = some a ∧ W.cell? ⟨g, 1, none⟩ = some b ∧ W.cell? ⟨g, 2, none⟩ = some c ∧ W.cell? ⟨g, 3, none⟩ = some d ∧ W.frozen? ⟨g, 0, none⟩ = false ∧ W.frozen? ⟨g, 1, none⟩ = false ∧ W.frozen? ⟨g, 2, none⟩ = false ∧ W.frozen? ⟨g, 3, none⟩ = false :=
  ⟨(blk_cell h 0).trans rfl, (blk_cell h 1).trans rfl, (blk_cell h 2).trans rfl, (blk_cell h 3).trans rfl, blk_frozen h 0, blk_frozen h 1, blk_frozen h 2, blk_frozen h 3⟩
theorem Inv1.c1 {w W : World} {g : Nat} {a b c d v : Value} {ys : List Int} (h : Inv1 w g #[a, b, c, d] v ys W) : W.cell? ⟨g, 1, none⟩ = some b := (blk_cell h.2.1 1).trans rfl
theorem Inv1.c2 {w W : World} {g : Nat} {a b c d v : Value} {ys : List Int} (h : Inv1 w g #[a, b, c, d] v ys W) : W.cell? ⟨g, 2, none⟩ = some c := (blk_cell h.2.1 2).trans rfl
theorem Inv1.alloc {w W : World} {g : Nat} {cs : Array Value} {v : Value} {ys : List Int} (h : Inv1 w g cs v ys W) (o : Obj) : Inv1 w g cs v ys (W.alloc o) := h.step (below_alloc (Below.refl _ _) _)
theorem new_box {w W w1 : World} {g : Nat} {cs : Array Value} {v : Value} {ys : List Int} {o : Obj} (h : Inv1 w g cs v ys W) (hb : Below (W.alloc o).heap.size (W.alloc o) w1) : w1.heap[W.heap.size]? = some o ∧ W.heap.size ≠ g ∧ w.heap.size ≤ W.heap.size :=
  ⟨blk_below (heap_alloc_new W o) hb, Nat.ne_of_gt (blk_lt h.2.1), h.1.size⟩
theorem new_box_drew {w W w1 : World} {g : Nat} {cs : Array Value} {v : Value} {ys : List Int} {o : Obj} (h : Inv1 w g cs v ys W.drew) (hb : Below (W.alloc o).drew.heap.size (W.alloc o).drew w1) : w1.heap[W.heap.size]? = some o ∧ W.heap.size ≠ g ∧ w.heap.size ≤ W.heap.size :=
  ⟨blk_below (w := (W.alloc o).drew) (heap_alloc_new W o) hb, Nat.ne_of_gt (blk_lt h.2.1 : g < W.heap.size), h.1.size⟩
theorem four_far {W : World} {g6 g9 j : Nat} {a b c d v : Value} (hn : g9 ≠ g6) (h : W.cell? ⟨g6, j, none⟩ = some v) : ((((W.setCell ⟨g9, 0, none⟩ a).setCell ⟨g9, 1, none⟩ b).setCell ⟨g9, 2, none⟩ c).setCell ⟨g9, 3, none⟩ d).cell? ⟨g6, j, none⟩ = some v := by
  rw [World.cell?_setCell_far _ _ _ _ hn, World.cell?_setCell_far _ _ _ _ hn, World.cell?_setCell_far _ _ _ _ hn, World.cell?_setCell_far _ _ _ _ hn]
  exact h
/-- A box of one's own is filled, cell by cell. -/
theorem four_sets {w W : World} {g6 g9 : Nat} {cs : Array Value} {z0 z1 z2 z3 a b c d v va : Value} {ys zs : List Int} (HQ : Inv1 w g6 cs v ys W) (hx9 : W.heap[g9]? = some (.cells #[z0, z1, z2, z3] 39 (0, 0))) (hn : g9 ≠ g6) (h9 : w.heap.size ≤ g9) (hv : Kd.R (Kd.int .i64) 3 W w.heap.size (fun _ => True) va zs) :
    Inv1 w g6 cs v ys ((((W.setCell ⟨g9, 0, none⟩ a).setCell ⟨g9, 1, none⟩ b).setCell ⟨g9, 2, none⟩ c).setCell ⟨g9, 3, none⟩ d) ∧ ((((W.setCell ⟨g9, 0, none⟩ a).setCell ⟨g9, 1, none⟩ b).setCell ⟨g9, 2, none⟩ c).setCell ⟨g9, 3, none⟩ d).heap[g9]? = some (.cells #[a, b, c, d] 39 (0, 0)) ∧
    Kd.R (Kd.int .i64) 3 ((((W.setCell ⟨g9, 0, none⟩ a).setCell ⟨g9, 1, none⟩ b).setCell ⟨g9, 2, none⟩ c).setCell ⟨g9, 3, none⟩ d) w.heap.size (fun _ => True) va zs := by
  have x1 := blk_set hx9 0 a
  have q1 := HQ.grown hx9 h9 hn (grown_setCell W g9 0 a)
  have v1 := Kd.R_grown1 hv rfl (grown_setCell W g9 0 a) (Kd.R_ne hv hx9 (by decide))
  have x2 := blk_set x1 1 b
  have q2 := q1.grown x1 h9 hn (grown_setCell _ g9 1 b)
  have v2 := Kd.R_grown1 v1 rfl (grown_setCell _ g9 1 b) (Kd.R_ne v1 x1 (by decide))
  have x3 := blk_set x2 2 c
  have q3 := q2.grown x2 h9 hn (grown_setCell _ g9 2 c)
  have v3 := Kd.R_grown1 v2 rfl (grown_setCell _ g9 2 c) (Kd.R_ne v2 x2 (by decide))
  have x4 := blk_set x3 3 d
  have q4 := q3.grown x3 h9 hn (grown_setCell _ g9 3 d)
  have v4 := Kd.R_grown1 v3 rfl (grown_setCell _ g9 3 d) (Kd.R_ne v3 x3 (by decide))
  exact ⟨q4, x4, v4⟩
theorem two_sets {w W : World} {g6 g9 : Nat} {x0 v1 x2 x3 u1 u2 v va : Value} {ys zs : List Int} {o9 : Array Value} (HQ : Inv1 w g6 #[x0, v1, x2, x3] v ys W) (hx9 : W.heap[g9]? = some (.cells o9 39 (0, 0))) (hn : g9 ≠ g6) (h6 : w.heap.size ≤ g6) (hv : Kd.R (Kd.int .i64) 3 W w.heap.size (fun _ => True) va zs) :
    ((W.setCell ⟨g6, 1, none⟩ u1).setCell ⟨g6, 2, none⟩ u2).drew.heap[g6]? = some (.cells #[x0, u1, u2, x3] 39 (0, 0)) ∧ ((W.setCell ⟨g6, 1, none⟩ u1).setCell ⟨g6, 2, none⟩ u2).drew.heap[g9]? = some (.cells o9 39 (0, 0)) ∧
    Below w.heap.size w ((W.setCell ⟨g6, 1, none⟩ u1).setCell ⟨g6, 2, none⟩ u2).drew ∧ Kd.R (Kd.int .i64) 3 ((W.setCell ⟨g6, 1, none⟩ u1).setCell ⟨g6, 2, none⟩ u2).drew w.heap.size (fun _ => True) va zs ∧ Kd.R (Kd.int .i64) 3 ((W.setCell ⟨g6, 1, none⟩ u1).setCell ⟨g6, 2, none⟩ u2).drew w.heap.size (fun _ => True) v ys := by
  obtain ⟨hb, hx, hr⟩ := HQ
  have a1 := blk_set hx 1 u1
  have g1 := grown_setCell W g6 1 u1
  have a2 := blk_set a1 2 u2
  have g2 := grown_setCell (W.setCell ⟨g6, 1, none⟩ u1) g6 2 u2
  have b1 := below_own hb g1 h6 hb.size
  have b2 := below_own b1 g2 h6 b1.size
  refine ⟨a2, ?_, below_drew1 b2, Kd.R_drew ?_, Kd.R_drew ?_⟩
  · exact (blk_grown (blk_grown hx9 g1 (by simpa using hn)) g2 (by simpa using hn) : ((W.setCell ⟨g6, 1, none⟩ u1).setCell ⟨g6, 2, none⟩ u2).heap[g9]? = _)
  · have r1 := Kd.R_grown1 hv rfl g1 (Kd.R_ne hv hx (by decide))
    exact Kd.R_grown1 r1 rfl g2 (Kd.R_ne r1 a1 (by decide))
  · have r1 := Kd.R_grown1 hr rfl g1 (Kd.R_ne hr hx (by decide))
    exact Kd.R_grown1 r1 rfl g2 (Kd.R_ne r1 a1 (by decide))
end Go.Proofs.YtfbegchhgigjeaaH
