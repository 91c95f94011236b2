/- Small laws for walks by hand: a boxed struct is made, stored whole, stored by a field; the world gets a letter each time. -/
import Derived.Test.YtfbegchhgigjeaaC0
import Derived.Test.YtfbegchhgigjeaaHMap
import Derived.WalkSpells
import Derived.Lib.Hide
import Derived.Outline
import Derived.Shelf.Abstract
set_option linter.unusedVariables false
set_option linter.unusedSimpArgs false
namespace Go.Proofs.YtfbegchhgigjeaaH
open Go.RowKit Go.Proofs.YtfbegchhgigjeaaW.PrintWords Go.Proofs.YtfbegchhgigjeaaW.PrintLast Go.Proofs.YtfbegchhgigjeaaW.PrintMore

section
variable {P : Program} {ops : Array Oper} {rest : List Oper} {o : Oper} {a : Act} {Q : Exit → Act → World → Prop} {W : World}
/-- A whole block is stored into. -/
theorem store_row (hgd : o.guard = none) {t : TypeId} {p x : Operand} (ho : o.op = .store t p x) (hN : o.dst = none) (g : Nat) (cur : Array Value) (e : TypeId) (cs : List Value) (hp : a.eval p = .pointer (some ⟨g, 0, none⟩)) (u : Value) (hx : a.eval x = u) (hu : u.cells.toList = cs)
    (hbox : W.heap[g]? = some (.cells cur e (0, 0))) (hsz : cs.length = cur.size) (ht : (P.info? t).map (·.size) = some cs.length) (h1 : ∀ q ∈ cs, q.oneCell' = true)
    (h : ∀ w1, w1.heap[g]? = some (.cells cs.toArray e (0, 0)) → W.grownBy w1 (some g) → w1.heap.size = W.heap.size → wpList P ops Q rest a w1) : wpList P ops Q (o :: rest) a W := by
  have hrun := run_store_run (o := 0) t u cs hbox hu ht (by omega) h1
  obtain ⟨cur', h2, h3, h4⟩ := setCells_row cs 0 W cur hbox (by omega)
  obtain ⟨s1, s2, s3, s4⟩ := setCells_same g cs 0 W
  refine wpList_plain hgd fun K hK => ?_
  unfold Oper.wp
  simp only [execOp, ho, hp, hx, Sem.run_bind, hrun, Result.andThen_ok, Sem.run_pure]
  show K (a.put o.dst undef) _
  rw [hN]
  refine hK _ _ (h _ ?_ ⟨s1, s2, s3, by omega, fun k hk hne => setCells_far cs 0 k (fun e => hne (by rw [e]))⟩ s4)
  have h5 : cur' = cs.toArray := by
    apply Array.toList_inj.1
    rw [h4]
    simp only [List.take_zero, List.nil_append, Nat.zero_add]
    rw [List.drop_eq_nil_of_le (by rw [hsz, Array.length_toList]; omega)]
    simp
  rw [h2, h5]
/-- One cell of a block is stored into. -/
theorem store_cell (hgd : o.guard = none) {t : TypeId} {p x : Operand} (ho : o.op = .store t p x) (hN : o.dst = none) (g j : Nat) (cur : Array Value) (e : TypeId) (hp : a.eval p = .pointer (some ⟨g, j, none⟩)) (u : Value) (hx : a.eval x = u) (hu : u.cells.toList = [u])
    (hbox : W.heap[g]? = some (.cells cur e (0, 0))) (hsz : j < cur.size) (ht : (P.info? t).map (·.size) = some 1) (h1 : u.oneCell' = true)
    (h : ∀ w1, w1.heap[g]? = some (.cells (cur.setIfInBounds j u) e (0, 0)) → W.grownBy w1 (some g) → w1.heap.size = W.heap.size → wpList P ops Q rest a w1) : wpList P ops Q (o :: rest) a W := by
  have hrun := run_store_run (o := j) t u [u] hbox hu ht (by simp; omega) (by simpa using h1)
  refine wpList_plain hgd fun K hK => ?_
  unfold Oper.wp
  simp only [execOp, ho, hp, hx, Sem.run_bind, hrun, Result.andThen_ok, Sem.run_pure]
  show K (a.put o.dst undef) _
  rw [hN]
  refine hK _ _ (h _ ?_ ⟨rfl, rfl, rfl, ?_, fun k hk hne => ?_⟩ ?_)
  · show (W.setCell ⟨g, j, none⟩ u).heap[g]? = _
    exact blk_set hbox j u
  · show W.heap.size ≤ (W.setCell ⟨g, j, none⟩ u).heap.size
    simp [World.setCell]
  · exact Below.heap_setCell W ⟨g, j, none⟩ u k (fun e => hne (by rw [e]))
  · show (W.setCell ⟨g, j, none⟩ u).heap.size = _
    simp [World.setCell]
end
/-- Below, behind a store into a block of one's own. -/
theorem below_own {w W w1 : World} {B g : Nat} (h : Below B w W) (hg : W.grownBy w1 (some g)) (hB : B ≤ g) (hW : B ≤ W.heap.size) : Below B w w1 :=
  h.grown hg hW (fun k e => by cases e; exact hB)
end Go.Proofs.YtfbegchhgigjeaaH
namespace Go.Proofs.YtfbegchhgigjeaaH
open Go.RowKit Go.Proofs.YtfbegchhgigjeaaW.PrintWords Go.Proofs.YtfbegchhgigjeaaW.PrintLast Go.Proofs.YtfbegchhgigjeaaW.PrintMore
section
variable {P : Program} {ops : Array Oper} {rest : List Oper} {o : Oper} {a : Act} {Q : Exit → Act → World → Prop} {W : World}
/-- A new block is laid; it and the world get letters. -/
theorem alloc_event (hgd : o.guard = none) {N : Tmp} (_hd : o.dst = some N) (v : Nat → Value) (obj : Obj) (hrun : (execOp a.eval o).run P W = .ok (.value (v W.heap.size)) (W.alloc obj))
    (h : ∀ g, g = W.heap.size → ∀ w1, w1.heap[g]? = some obj → Below W.heap.size W w1 → wpList P ops Q rest (a.put o.dst (v g)) w1) : wpList P ops Q (o :: rest) a W :=
  Kd.event_run hgd hrun (h _ rfl _ (heap_alloc_new W _) (below_alloc (Below.refl _ _) _))
end
open Go.Proofs.Ytfbegchhgigjeaa.PC
section
variable {W : World} {base g : Nat} {ok : Nat → Prop}
theorem fk39 {x : S39} {A1 : Option Addr} {c1 : Nat} {ok : Nat → Prop} (hc : x.f1.length ≤ c1) (hF : Kd.F (Kd.int .i64) W ok A1 x.f1.length x.f1) : Kd.FK k39 W ok x [.int .i64 x.f0, .slice A1 x.f1.length c1, .int .i64 x.f2, .bool x.f3] :=
  fun W' hW => k39_mk W' x hc (hF W' hW)
theorem one39 (a b d : Value) (h : b.oneCell' = true) (x0 x2 : Int) (x3 : Bool) : ∀ u ∈ [Value.int .i64 x0, b, .int .i64 x2, .bool x3], u.oneCell' = true := by
  intro u hu
  simp at hu
  rcases hu with rfl | rfl | rfl | rfl
  · rfl
  · exact h
  · rfl
  · rfl
/-- One chunk in a block of one's own. -/
theorem N_one39 (x : S39) {A1 : Option Addr} {c1 : Nat} (hg : W.heap[g]? = some (.cells #[.int .i64 x.f0, .slice A1 x.f1.length c1, .int .i64 x.f2, .bool x.f3] 39 (0, 0))) (hb : base ≤ g) (hok : ok g) (hc : x.f1.length ≤ c1)
    (hF : Kd.F (Kd.int .i64) W (fun k => ok k ∧ k ≠ g) A1 x.f1.length x.f1) : Kd.N k39 39 W base ok (.slice (some ⟨g, 0, none⟩) 1 1) [x] := by
  refine ⟨fun k hk => by simp [Value.ownBlock] at hk; subst hk; exact hok, [[.int .i64 x.f0, .slice A1 x.f1.length c1, .int .i64 x.f2, .bool x.f3]], rfl, ⟨fun k hk => hk.symm, [.int .i64 x.f0, .slice A1 x.f1.length c1, .int .i64 x.f2, .bool x.f3], ⟨rfl, .inr ⟨g, 1, _, rfl, hb, hg, Nat.le_refl _, by unfold maxLen; omega, rfl, rfl⟩⟩, ⟨rfl, fun j p hj => ?_⟩⟩, fun j x' c hx hc' => ?_⟩
  · cases j with
    | zero => simp at hj; subst hj; exact ⟨rfl, rfl, one39 (.bool true) _ (.bool true) rfl _ _ _⟩
    | succ j => simp at hj
  · cases j with
    | zero =>
      simp at hx hc'
      subst hx hc'
      exact Kd.FK_mono (fk39 hc hF) (fun k hk => ⟨hk.1, fun e => hk.2 (by simpa [Value.ownBlock] using e)⟩)
    | succ j => simp at hx
/-- Two chunks. -/
theorem N_two39 (x y : S39) {A1 B1 : Option Addr} {c1 d1 : Nat} (hg : W.heap[g]? = some (.cells #[.int .i64 x.f0, .slice A1 x.f1.length c1, .int .i64 x.f2, .bool x.f3, .int .i64 y.f0, .slice B1 y.f1.length d1, .int .i64 y.f2, .bool y.f3] 39 (0, 0))) (hb : base ≤ g) (hok : ok g) (hc : x.f1.length ≤ c1) (hd : y.f1.length ≤ d1)
    (hF : Kd.F (Kd.int .i64) W (fun k => ok k ∧ k ≠ g) A1 x.f1.length x.f1) (hE : Kd.F (Kd.int .i64) W (fun k => ok k ∧ k ≠ g) B1 y.f1.length y.f1) : Kd.N k39 39 W base ok (.slice (some ⟨g, 0, none⟩) 2 2) [x, y] := by
  refine ⟨fun k hk => by simp [Value.ownBlock] at hk; subst hk; exact hok, [[.int .i64 x.f0, .slice A1 x.f1.length c1, .int .i64 x.f2, .bool x.f3], [.int .i64 y.f0, .slice B1 y.f1.length d1, .int .i64 y.f2, .bool y.f3]], rfl,
    ⟨fun k hk => hk.symm, [.int .i64 x.f0, .slice A1 x.f1.length c1, .int .i64 x.f2, .bool x.f3, .int .i64 y.f0, .slice B1 y.f1.length d1, .int .i64 y.f2, .bool y.f3], ⟨rfl, .inr ⟨g, 2, _, rfl, hb, hg, Nat.le_refl _, by unfold maxLen; omega, rfl, rfl⟩⟩, ⟨rfl, fun j p hj => ?_⟩⟩, fun j x' c hx hc' => ?_⟩
  · match j with
    | 0 => simp at hj; subst hj; exact ⟨rfl, rfl, one39 (.bool true) _ (.bool true) rfl _ _ _⟩
    | 1 => simp at hj; subst hj; exact ⟨rfl, rfl, one39 (.bool true) _ (.bool true) rfl _ _ _⟩
    | j + 2 => simp at hj
  · match j with
    | 0 =>
      simp at hx hc'
      subst hx hc'
      exact Kd.FK_mono (fk39 hc hF) (fun k hk => ⟨hk.1, fun e => hk.2 (by simpa [Value.ownBlock] using e)⟩)
    | 1 =>
      simp at hx hc'
      subst hx hc'
      exact Kd.FK_mono (fk39 hd hE) (fun k hk => ⟨hk.1, fun e => hk.2 (by simpa [Value.ownBlock] using e)⟩)
    | j + 2 => simp at hx
/-- What a row of one's own is, read, as long as its block stays. -/
theorem F_row {xs : List Int} {ok : Nat → Prop} {A : Option Addr} {n c : Nat} (h : (Kd.int .i64).R 3 W base ok (.slice A n c) xs) : n = xs.length ∧ n ≤ c ∧ Kd.F (Kd.int .i64) W ok A xs.length xs := by
  obtain ⟨h1, h2, _⟩ := Kd.N_reads' (Kd.R_N h)
  refine ⟨h1, h2, ?_⟩
  have := Kd.N_F (Kd.R_N h)
  rwa [h1] at this
end
end Go.Proofs.YtfbegchhgigjeaaH
