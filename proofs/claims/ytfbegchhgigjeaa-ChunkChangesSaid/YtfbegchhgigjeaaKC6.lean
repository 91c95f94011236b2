/- A part of the proof: lemmas that the row uses, laid together by a program of this session's (pack.py) out of its texts and of what the kit's printer wrote for this seat. -/
import Derived.WalkSpells
import Derived.Lib.Hide
import Derived.Outline
import Derived.Shelf.Abstract
import Derived.Test.YtfbegchhgigjeaaKC0
import Derived.Test.YtfbegchhgigjeaaKC1
import Derived.Test.YtfbegchhgigjeaaKC2
import Derived.Test.YtfbegchhgigjeaaKC3
import Derived.Test.YtfbegchhgigjeaaKC4
import Derived.Test.YtfbegchhgigjeaaKC5
section
set_option linter.unusedVariables false
set_option linter.unusedSimpArgs false
namespace Go.Proofs.YtfbegchhgigjeaaH
open Go.RowKit Go.Proofs.YtfbegchhgigjeaaW.PrintWords Go.Proofs.YtfbegchhgigjeaaW.PrintLast Go.Proofs.YtfbegchhgigjeaaW.PrintMore
section
variable {P : Program} {ops : Array Oper} {rest : List Oper} {o : Oper} {a : Act} {Q : Exit → Act → World → Prop} {W : World}
/-- A whole block is stored into. -/
theorem store_row (hgd : o.guard = none) {t : TypeId} {p x : Operand} (ho : o.op = .store t p x) (hN : o.dst = none) (g : Nat) (cur : Array Value) (e : TypeId) (cs : List Value) (hp : a.eval p = .pointer (some ⟨g, 0, none⟩)) (u : Value) (hx : a.eval x = u) (hu : u.cells.toList = cs)
    (hbox : W.heap[g]? = some (.cells cur e (0, 0))) (hsz : cs.length = cur.size) (ht : (P.info? t).map (·.size) = some cs.length) (h1 : ∀ q ∈ cs, q.oneCell' = true)
    (h : ∀ w1, w1.heap[g]? = some (.cells cs.toArray e (0, 0)) → W.grownBy w1 (some g) → w1.heap.size = W.heap.size → wpList P ops Q rest a w1) : wpList P ops Q (o :: rest) a W := by
  have hrun := run_store_run (o := 0) t u cs hbox hu ht (by omega) h1
  obtain ⟨cur', h2, h3, h4⟩ := setCells_row cs 0 W cur hbox (by omega)
  obtain ⟨s1, s2, s3, s4⟩ := setCells_same g cs 0 W
  refine wpList_plain hgd fun K hK => ?_
  unfold Oper.wp
  simp only [execOp, ho, hp, hx, Sem.run_bind, hrun, Result.andThen_ok, Sem.run_pure]
  show K (a.put o.dst undef) _
  rw [hN]
  refine hK _ _ (h _ ?_ ⟨s1, s2, s3, by omega, fun k hk hne => setCells_far cs 0 k (fun e => hne (by rw [e]))⟩ s4)
  have h5 : cur' = cs.toArray := by
    apply Array.toList_inj.1
    rw [h4]
    simp only [List.take_zero, List.nil_append, Nat.zero_add]
    rw [List.drop_eq_nil_of_le (by rw [hsz, Array.length_toList]; omega)]
    simp
  rw [h2, h5]
/-- One cell of a block is stored into. -/
theorem store_cell (hgd : o.guard = none) {t : TypeId} {p x : Operand} (ho : o.op = .store t p x) (hN : o.dst = none) (g j : Nat) (cur : Array Value) (e : TypeId) (hp : a.eval p = .pointer (some ⟨g, j, none⟩)) (u : Value) (hx : a.eval x = u) (hu : u.cells.toList = [u])
    (hbox : W.heap[g]? = some (.cells cur e (0, 0))) (hsz : j < cur.size) (ht : (P.info? t).map (·.size) = some 1) (h1 : u.oneCell' = true)
    (h : ∀ w1, w1.heap[g]? = some (.cells (cur.setIfInBounds j u) e (0, 0)) → W.grownBy w1 (some g) → w1.heap.size = W.heap.size → wpList P ops Q rest a w1) : wpList P ops Q (o :: rest) a W := by
  have hrun := run_store_run (o := j) t u [u] hbox hu ht (by simp; omega) (by simpa using h1)
  refine wpList_plain hgd fun K hK => ?_
  unfold Oper.wp
  simp only [execOp, ho, hp, hx, Sem.run_bind, hrun, Result.andThen_ok, Sem.run_pure]
  show K (a.put o.dst undef) _
  rw [hN]
  refine hK _ _ (h _ ?_ ⟨rfl, rfl, rfl, ?_, fun k hk hne => ?_⟩ ?_)
  · show (W.setCell ⟨g, j, none⟩ u).heap[g]? = _
    exact blk_set hbox j u
  · show W.heap.size ≤ (W.setCell ⟨g, j, none⟩ u).heap.size
    simp [World.setCell]
  · exact Below.heap_setCell W ⟨g, j, none⟩ u k (fun e => hne (by rw [e]))
  · show (W.setCell ⟨g, j, none⟩ u).heap.size = _
    simp [World.setCell]
end
/-- Below, behind a store into a block of one's own. -/
theorem below_own {w W w1 : World} {B g : Nat} (h : Below B w W) (hg : W.grownBy w1 (some g)) (hB : B ≤ g) (hW : B ≤ W.heap.size) : Below B w w1 :=
  h.grown hg hW (fun k e => by cases e; exact hB)
end Go.Proofs.YtfbegchhgigjeaaH
namespace Go.Proofs.YtfbegchhgigjeaaH
open Go.RowKit Go.Proofs.YtfbegchhgigjeaaW.PrintWords Go.Proofs.YtfbegchhgigjeaaW.PrintLast Go.Proofs.YtfbegchhgigjeaaW.PrintMore
section
variable {P : Program} {ops : Array Oper} {rest : List Oper} {o : Oper} {a : Act} {Q : Exit → Act → World → Prop} {W : World}
/-- A new block is laid; it and the world get letters. -/
theorem alloc_event (hgd : o.guard = none) {N : Tmp} (_hd : o.dst = some N) (v : Nat → Value) (obj : Obj) (hrun : (execOp a.eval o).run P W = .ok (.value (v W.heap.size)) (W.alloc obj))
    (h : ∀ g, g = W.heap.size → ∀ w1, w1.heap[g]? = some obj → Below W.heap.size W w1 → wpList P ops Q rest (a.put o.dst (v g)) w1) : wpList P ops Q (o :: rest) a W :=
  Kd.event_run hgd hrun (h _ rfl _ (heap_alloc_new W _) (below_alloc (Below.refl _ _) _))
end
open Go.Proofs.Ytfbegchhgigjeaa.PC
section
variable {W : World} {base g : Nat} {ok : Nat → Prop}
theorem fk39 {x : S39} {A1 : Option Addr} {c1 : Nat} {ok : Nat → Prop} (hc : x.f1.length ≤ c1) (hF : Kd.F (Kd.int .i64) W ok A1 x.f1.length x.f1) : Kd.FK k39 W ok x [.int .i64 x.f0, .slice A1 x.f1.length c1, .int .i64 x.f2, .bool x.f3] :=
  fun W' hW => k39_mk W' x hc (hF W' hW)
theorem one39 (a b d : Value) (h : b.oneCell' = true) (x0 x2 : Int) (x3 : Bool) : ∀ u ∈ [Value.int .i64 x0, b, .int .i64 x2, .bool x3], u.oneCell' = true := by
  intro u hu
  simp at hu
  rcases hu with rfl | rfl | rfl | rfl
  · rfl
  · exact h
  · rfl
  · rfl
/-- One chunk in a block of one's own. -/
theorem N_one39 (x : S39) {A1 : Option Addr} {c1 : Nat} (hg : W.heap[g]? = some (.cells #[.int .i64 x.f0, .slice A1 x.f1.length c1, .int .i64 x.f2, .bool x.f3] 39 (0, 0))) (hb : base ≤ g) (hok : ok g) (hc : x.f1.length ≤ c1)
    (hF : Kd.F (Kd.int .i64) W (fun k => ok k ∧ k ≠ g) A1 x.f1.length x.f1) : Kd.N k39 39 W base ok (.slice (some ⟨g, 0, none⟩) 1 1) [x] := by
  refine ⟨fun k hk => by simp [Value.ownBlock] at hk; subst hk; exact hok, [[.int .i64 x.f0, .slice A1 x.f1.length c1, .int .i64 x.f2, .bool x.f3]], rfl, ⟨fun k hk => hk.symm, [.int .i64 x.f0, .slice A1 x.f1.length c1, .int .i64 x.f2, .bool x.f3], ⟨rfl, .inr ⟨g, 1, _, rfl, hb, hg, Nat.le_refl _, by unfold maxLen; omega, rfl, rfl⟩⟩, ⟨rfl, fun j p hj => ?_⟩⟩, fun j x' c hx hc' => ?_⟩
  · cases j with
    | zero => simp at hj; subst hj; exact ⟨rfl, rfl, one39 (.bool true) _ (.bool true) rfl _ _ _⟩
    | succ j => simp at hj
  · cases j with
    | zero =>
      simp at hx hc'
      subst hx hc'
      exact Kd.FK_mono (fk39 hc hF) (fun k hk => ⟨hk.1, fun e => hk.2 (by simpa [Value.ownBlock] using e)⟩)
    | succ j => simp at hx
/-- Two chunks. -/
theorem N_two39 (x y : S39) {A1 B1 : Option Addr} {c1 d1 : Nat} (hg : W.heap[g]? = some (.cells #[.int .i64 x.f0, .slice A1 x.f1.length c1, .int .i64 x.f2, .bool x.f3, .int .i64 y.f0, .slice B1 y.f1.length d1, .int .i64 y.f2, .bool y.f3] 39 (0, 0))) (hb : base ≤ g) (hok : ok g) (hc : x.f1.length ≤ c1) (hd : y.f1.length ≤ d1)
    (hF : Kd.F (Kd.int .i64) W (fun k => ok k ∧ k ≠ g) A1 x.f1.length x.f1) (hE : Kd.F (Kd.int .i64) W (fun k => ok k ∧ k ≠ g) B1 y.f1.length y.f1) : Kd.N k39 39 W base ok (.slice (some ⟨g, 0, none⟩) 2 2) [x, y] := by
  refine ⟨fun k hk => by simp [Value.ownBlock] at hk; subst hk; exact hok, [[.int .i64 x.f0, .slice A1 x.f1.length c1, .int .i64 x.f2, .bool x.f3], [.int .i64 y.f0, .slice B1 y.f1.length d1, .int .i64 y.f2, .bool y.f3]], rfl,
    ⟨fun k hk => hk.symm, [.int .i64 x.f0, .slice A1 x.f1.length c1, .int .i64 x.f2, .bool x.f3, .int .i64 y.f0, .slice B1 y.f1.length d1, .int .i64 y.f2, .bool y.f3], ⟨rfl, .inr ⟨g, 2, _, rfl, hb, hg, Nat.le_refl _, by unfold maxLen; omega, rfl, rfl⟩⟩, ⟨rfl, fun j p hj => ?_⟩⟩, fun j x' c hx hc' => ?_⟩
  · match j with
    | 0 => simp at hj; subst hj; exact ⟨rfl, rfl, one39 (.bool true) _ (.bool true) rfl _ _ _⟩
    | 1 => simp at hj; subst hj; exact ⟨rfl, rfl, one39 (.bool true) _ (.bool true) rfl _ _ _⟩
    | j + 2 => simp at hj
  · match j with
    | 0 =>
      simp at hx hc'
      subst hx hc'
      exact Kd.FK_mono (fk39 hc hF) (fun k hk => ⟨hk.1, fun e => hk.2 (by simpa [Value.ownBlock] using e)⟩)
    | 1 =>
      simp at hx hc'
      subst hx hc'
      exact Kd.FK_mono (fk39 hd hE) (fun k hk => ⟨hk.1, fun e => hk.2 (by simpa [Value.ownBlock] using e)⟩)
    | j + 2 => simp at hx
/-- What a row of one's own is, read, as long as its block stays. -/
theorem F_row {xs : List Int} {ok : Nat → Prop} {A : Option Addr} {n c : Nat} (h : (Kd.int .i64).R 3 W base ok (.slice A n c) xs) : n = xs.length ∧ n ≤ c ∧ Kd.F (Kd.int .i64) W ok A xs.length xs := by
  obtain ⟨h1, h2, _⟩ := Kd.N_reads' (Kd.R_N h)
  refine ⟨h1, h2, ?_⟩
  have := Kd.N_F (Kd.R_N h)
  rwa [h1] at this
end
end Go.Proofs.YtfbegchhgigjeaaH
end
section
namespace Go.Proofs.Ytfbegchhgigjeaa.PC
open Go.RowKit Go.Proofs.YtfbegchhgigjeaaW.PrintWords Go.Proofs.YtfbegchhgigjeaaW.PrintLast Go.Proofs.YtfbegchhgigjeaaW.PrintMore Go.Proofs.YtfbegchhgigjeaaH
set_option linter.unusedVariables false
set_option linter.unusedSimpArgs false
/-- Ids that rise, from above a last one on: the new last one. -/
def rightIds (last : Int) : List Int → Option Int
  | [] => some last
  | x :: xs => if x ≤ last then none else rightIds x xs
def nextNo : List S39 → Int
  | [] => 0
  | d :: _ => d.f0
def wrongC (first : Bool) (seen : List Int) (nx : Int) (c : S39) : Bool :=
  c.f3 || c.f2 != nx || decide (c.f0 < 0) || seen.contains c.f0 || ((c.f0 == 0) != first) || decide (c.f1.length > 4) || (!first && c.f1.length == 0)
def rightGo (first : Bool) (last : Int) (seen : List Int) : List S39 → Bool
  | [] => true
  | c :: cs => if wrongC first seen (nextNo cs) c then false else match rightIds last c.f1 with
    | none => false
    | some last' => rightGo false last' (c.f0 :: seen) cs
def chunk_Right.f (l0 : List S39) : Option Bool := some (rightGo true (-1) [] l0)
theorem zeroB : ∀ W : World, (zeroValue 4).run Try.prog W = .ok (.bool false) W := fun W => by kernel_rfl
/-- What is seen, as the map has it. -/
def Seen (ps : List (Int × Value)) (seen : List Int) : Prop := ∀ k, lkp k ps = if seen.contains k then some (.bool true) else none
theorem Seen.nil : Seen [] [] := fun k => rfl
theorem Seen.put {ps : List (Int × Value)} {seen : List Int} (h : Seen ps seen) (k : Int) : Seen (putP k (.bool true) ps) (k :: seen) := fun j => by
  rw [lkp_putP, h j]
  by_cases e : k = j
  · subst e; simp
  · have : ¬ j = k := fun x => e x.symm
    simp [e, this]
theorem drop_cons {l0 : List S39} {i : Nat} (h : i < l0.length) : l0.drop i = rd_T39 l0 i :: l0.drop (i + 1) := by
  rw [List.drop_eq_getElem_cons h]
  congr 1
  simp [rd_T39, List.getD_eq_getElem?_getD, List.getElem?_eq_getElem h]
theorem drop_rd {l : List Int} {j : Nat} (h : j < l.length) : l.drop j = rd l (j : Int) :: l.drop (j + 1) := by
  rw [List.drop_eq_getElem_cons h]
  congr 1
  simp [rd, List.getD_eq_getElem?_getD, List.getElem?_eq_getElem h]
theorem izero (i : Nat) : ((i : Int) == 0) = decide (i = 0) := by rw [Bool.eq_iff_iff]; simp
set_option maxHeartbeats 2000000 in
set_option maxRecDepth 100000 in
theorem chunk_Right.calls (A0 : Option Addr) (c0 : Nat) (l0 : List (S39)) (r : Bool) (w : World) (hr0 : Kd.C k39 w A0 l0.length l0) (hc0 : l0.length ≤ c0) (h : chunk_Right.f l0 = some r) :
    Calls Try.prog 11 #[.slice A0 l0.length c0] w fun e w' => e = .returned (.bool r) ∧ Below w.heap.size w w' := by
  have hu39 := Try.underlying39
  have HR0 := Aside0.mk hr0
  have H0 := Aside0.mk (Option.some.inj h)
  have hm := hr0.2.1
  clear hr0 h hc0
  have hmm := @run_makeMap Try.prog
  go_enter Try.func11, Try.ntmps11
  go_wp2
  go_loopg [3, 13] l0.length (fun d v3 v13 w' => ∃ (last : Int) (i : Nat) (seen : List Int) (ps : List (Int × Value)), v3 = .int .i64 last ∧ v13 = .int .i64 i ∧ i ≤ l0.length ∧ Aside0 (d = l0.length - i) ∧ Aside0 (rightGo (decide (i = 0)) last seen (l0.drop i) = r) ∧ Aside0 (Seen ps seen) ∧ Aside0 (IMap w' w.heap.size ps) ∧ Aside0 (Below w.heap.size w w'))
  case atStart => exact ⟨-1, 0, [], [], rfl, rfl, Nat.zero_le _, ⟨rfl⟩, ⟨by simpa using H0.out⟩, ⟨Seen.nil⟩, ⟨IMap.made w⟩, ⟨below_alloc (Below.refl _ _) _⟩⟩
  case round =>
    obtain ⟨last, i, seen, ps, rfl, rfl, hi, HD, HA, HS, HM, HB⟩ := hrel
    by_cases hlt : i < l0.length
    · have hcons := Aside0.mk (drop_cons hlt)
      obtain ⟨ad, A1, c1, e1, hx0, hx1, hx2, hx3, hl1, hi1⟩ := at_T39 HR0.out (i : Int) (by omega) (by omega)
      subst e1
      replace hx0 := (HB.out.cell (World.block_lt_of_cell? w _ hx0)).trans hx0
      replace hx1 := (HB.out.cell (World.block_lt_of_cell? w _ hx1)).trans hx1
      replace hx2 := (HB.out.cell (World.block_lt_of_cell? w _ hx2)).trans hx2
      replace hx3 := (HB.out.cell (World.block_lt_of_cell? w _ hx3)).trans hx3
      simp only [Int.toNat_natCast] at hx0 hx1 hx2 hx3
      have HL := Aside0.mk hl1
      have HI := Aside0.mk hi1
      clear hl1 hi1
      obtain ⟨nx, HN, hnx⟩ : ∃ nx, Aside0 (nextNo (l0.drop (i + 1)) = nx) ∧ ((i + 1 < l0.length ∧ w.cell? (ad.add ((i + 1) * 4)) = some (.int .i64 nx)) ∨ (¬ i + 1 < l0.length ∧ nx = 0)) := by
        by_cases hn : i + 1 < l0.length
        · obtain ⟨ad2, B1, d1, e2, hy0, _⟩ := at_T39 HR0.out ((i + 1 : Nat) : Int) (by omega) (by omega)
          cases e2
          simp only [Int.toNat_natCast] at hy0
          exact ⟨_, ⟨by rw [drop_cons hn]; rfl⟩, .inl ⟨hn, hy0⟩⟩
        · exact ⟨0, ⟨by rw [List.drop_eq_nil_of_le (by omega)]; rfl⟩, .inr ⟨hn, rfl⟩⟩
      generalize rd_T39 l0 (i : Int) = c at *
      have HF : Aside0 (wrongC (decide (i = 0)) seen nx c = true → r = false) := ⟨fun hw => by have h1 := HA.out; rw [hcons.out] at h1; simp only [rightGo, HN.out, hw, if_true] at h1; exact h1.symm⟩
      have HG : Aside0 (wrongC (decide (i = 0)) seen nx c = false → (match rightIds last c.f1 with | none => false | some l' => rightGo false l' (c.f0 :: seen) (l0.drop (i + 1))) = r) := ⟨fun hw => by have h1 := HA.out; rw [hcons.out] at h1; simpa only [rightGo, HN.out, hw, Bool.false_eq_true, if_false] using h1⟩
      clear HA hcons HN H0
      go_wp2_with (first | ((with_reducible refine gate_dst (N := 6) rfl ?_); refine box_event ?hg (N := 6) ?hd (cs := #[.int .i64 0, .slice none 0 0, .int .i64 0, .bool false]) (t := 39) ?hr ?_; (case hd => rfl); (case hg => rfl); (case hr => first | (go_simp; done) | (go_simp; rfl)); intro g hg w1 hbox hb; have HG1 := Aside0.mk hg; have HX1 := Aside0.mk hbox; have HB1 := Aside0.mk hb; clear hg hbox hb) | ((with_reducible refine gate_store (t := 39) (p := 6) rfl ?_); refine store_row rfl rfl rfl g _ 39 [.int .i64 c.f0, .slice A1 c.f1.length c1, .int .i64 c.f2, .bool c.f3] rfl (.agg #[.int .i64 c.f0, .slice A1 c.f1.length c1, .int .i64 c.f2, .bool c.f3]) rfl rfl HX1.out rfl (by kernel_rfl) ?h1 ?_; (case h1 => intro q hq; simp at hq; rcases hq with rfl | rfl | rfl | rfl <;> rfl); intro w2 hbox2 hg2 hz2; refine Hold.go ?_))
      have hgw : w.heap.size < g := by rw [HG1.out]; exact HM.out.lt
      have hcb0 : w2.cell? ⟨g, 0, none⟩ = some (.int .i64 c.f0) := (blk_cell hbox2 0).trans rfl
      have hcb1 : w2.cell? ⟨g, 1, none⟩ = some (.slice A1 c.f1.length c1) := (blk_cell hbox2 1).trans rfl
      have hcb2 : w2.cell? ⟨g, 2, none⟩ = some (.int .i64 c.f2) := (blk_cell hbox2 2).trans rfl
      have hcb3 : w2.cell? ⟨g, 3, none⟩ = some (.bool c.f3) := (blk_cell hbox2 3).trans rfl
      have HMB := Aside0.mk ((HM.out.below HB1.out).of_block (hg2.block _ (HM.out.below HB1.out).lt (fun e => by injection e with e; omega)))
      have HBB := Aside0.mk (below_own (below_then HB.out HB.out.size HB1.out) hg2 (Nat.le_of_lt hgw) (Nat.le_trans HB.out.size HB1.out.size))
      have HX2 := Aside0.mk hbox2
      have HGW := Aside0.mk hgw
      clear hbox2 hg2 hz2 hx0 hx1 hx2 hx3 hgw HX1
      rcases hnx with ⟨hn, hy0⟩ | ⟨hn, rfl⟩
      · have hnb : decide ((i : Int) + 1 < (l0.length : Int)) = true := by simp; omega
        replace hy0 := (HBB.out.cell (World.block_lt_of_cell? w _ hy0)).trans hy0
        by_cases b1 : c.f3 = true
        · skip
          have hr : r = false := HF.out (by unfold wrongC; simp [b1])
          subst hr
          refine Hold.of ?_
          go_wp2_with ((at_lookup; refine gate_guard (by rfl) ?_; refine wpList_lookup_imap rfl _ _ 58 false rfl 3 4 Try.underlying58 Try.underlying3 (.bool false) (zeroB _) w.heap.size ps rfl HMB.out c.f0 rfl ?_))
          go_ret
          exact ⟨rfl, HBB.out⟩
        replace b1 : c.f3 = false := by simpa using b1
        by_cases b2 : c.f2 = nx
        case neg =>
          have b2b : (c.f2 != nx) = true := bne_iff_ne.mpr b2
          have b2c : (c.f2 == nx) = false := beq_eq_false_iff_ne.mpr b2
          have B2 := Aside0.mk b2b
          clear b2
          have hr : r = false := HF.out (by unfold wrongC; simp [B2.out])
          subst hr
          refine Hold.of ?_
          go_wp2_with ((at_lookup; refine gate_guard (by rfl) ?_; refine wpList_lookup_imap rfl _ _ 58 false rfl 3 4 Try.underlying58 Try.underlying3 (.bool false) (zeroB _) w.heap.size ps rfl HMB.out c.f0 rfl ?_))
          go_ret
          exact ⟨rfl, HBB.out⟩
        have b2b : (c.f2 != nx) = false := bne_eq_false_iff_eq.mpr b2
        have b2c : (c.f2 == nx) = true := beq_iff_eq.mpr b2
        have B2 := Aside0.mk b2
        clear b2
        by_cases b3 : c.f0 < 0
        · have b3b : decide (c.f0 < 0) = true := decide_eq_true b3
          have B3 := Aside0.mk b3b
          clear b3
          have hr : r = false := HF.out (by unfold wrongC; simp [B3.out])
          subst hr
          refine Hold.of ?_
          go_wp2_with ((at_lookup; refine gate_guard (by rfl) ?_; refine wpList_lookup_imap rfl _ _ 58 false rfl 3 4 Try.underlying58 Try.underlying3 (.bool false) (zeroB _) w.heap.size ps rfl HMB.out c.f0 rfl ?_))
          go_ret
          exact ⟨rfl, HBB.out⟩
        have b3b : decide (c.f0 < 0) = false := decide_eq_false b3
        have B3 := Aside0.mk b3
        clear b3
        have hsl := HS.out c.f0
        by_cases b4 : seen.contains c.f0 = true
        · have b4b : (lkp c.f0 ps).getD (Value.bool false) = .bool true := by rw [hsl, if_pos b4]; rfl
          clear hsl
          have B4 := Aside0.mk b4
          clear b4
          have hr : r = false := HF.out (by unfold wrongC; rw [B4.out]; simp)
          subst hr
          refine Hold.of ?_
          go_wp2_with ((at_lookup; refine gate_guard (by rfl) ?_; refine wpList_lookup_imap rfl _ _ 58 false rfl 3 4 Try.underlying58 Try.underlying3 (.bool false) (zeroB _) w.heap.size ps rfl HMB.out c.f0 rfl ?_))
          go_ret
          exact ⟨rfl, HBB.out⟩
        have b4b : (lkp c.f0 ps).getD (Value.bool false) = .bool false := by rw [hsl, if_neg b4]; rfl
        have B4 := Aside0.mk (by simpa using b4 : seen.contains c.f0 = false)
        clear hsl b4
        by_cases b5 : ((c.f0 == 0) != decide (i = 0)) = true
        case pos =>
          have B5 := Aside0.mk b5
          have b5b : ((c.f0 == 0) != ((i : Int) == 0)) = true := by rw [izero]; exact B5.out
          have b5c : ¬ ((c.f0 == 0) = ((i : Int) == 0)) := by simpa using b5b
          have b5e : decide ((c.f0 == 0) = ((i : Int) == 0)) = false := decide_eq_false b5c
          clear b5
          have hr : r = false := HF.out (by unfold wrongC; rw [B5.out]; simp)
          subst hr
          refine Hold.of ?_
          go_wp2_with ((at_lookup; refine gate_guard (by rfl) ?_; refine wpList_lookup_imap rfl _ _ 58 false rfl 3 4 Try.underlying58 Try.underlying3 (.bool false) (zeroB _) w.heap.size ps rfl HMB.out c.f0 rfl ?_))
          go_ret
          exact ⟨rfl, HBB.out⟩
        have B5 := Aside0.mk (by simpa using b5 : ((c.f0 == 0) != decide (i = 0)) = false)
        have b5b : ((c.f0 == 0) != ((i : Int) == 0)) = false := by rw [izero]; exact B5.out
        have b5c : (c.f0 == 0) = ((i : Int) == 0) := by simpa using b5b
        clear b5b
        clear b5
        by_cases b6 : c.f1.length > 4
        · have b6b : decide ((4 : Int) < (c.f1.length : Int)) = true := by simp; omega
          have b6c : decide (4 < c.f1.length) = true := decide_eq_true b6
          have B6 := Aside0.mk b6
          clear b6
          have hr : r = false := HF.out (by unfold wrongC; simp [B6.out])
          subst hr
          refine Hold.of ?_
          go_wp2_with ((at_lookup; refine gate_guard (by rfl) ?_; refine wpList_lookup_imap rfl _ _ 58 false rfl 3 4 Try.underlying58 Try.underlying3 (.bool false) (zeroB _) w.heap.size ps rfl HMB.out c.f0 rfl ?_))
          go_ret
          exact ⟨rfl, HBB.out⟩
        have b6b : decide ((4 : Int) < (c.f1.length : Int)) = false := by simp; omega
        have b6c : decide (4 < c.f1.length) = false := decide_eq_false b6
        have B6 := Aside0.mk b6
        clear b6
        by_cases b7 : 0 < i ∧ c.f1.length = 0
        · obtain ⟨b7a, b7b⟩ := b7
          have b7c : decide ((0 : Int) < (i : Int)) = true := by simp; omega
          have b7d : ((c.f1.length : Int) == 0) = true := by simp [b7b]
          have b7e : (c.f1.length == 0) = true := by simp [b7b]
          have B7 := Aside0.mk b7b
          have B8 := Aside0.mk (show (decide (i = 0)) = false from by simp; omega)
          clear b7b
          have hr : r = false := HF.out (by unfold wrongC; rw [B8.out, B7.out]; simp)
          subst hr
          refine Hold.of ?_
          go_wp2_with ((at_lookup; refine gate_guard (by rfl) ?_; refine wpList_lookup_imap rfl _ _ 58 false rfl 3 4 Try.underlying58 Try.underlying3 (.bool false) (zeroB _) w.heap.size ps rfl HMB.out c.f0 rfl ?_))
          go_ret
          exact ⟨rfl, HBB.out⟩
        have B7 := Aside0.mk b7
        clear b7
        have hgo := HG.out (by unfold wrongC; rw [B4.out, B5.out]; simp [b1, b2b, b3b, B6.out]; intro h8 e; exact B7.out ⟨by omega, by rw [e]; rfl⟩)
        have HGO := Aside0.mk hgo
        clear hgo HG HF
        have hgn : some g ≠ some w.heap.size := fun e => by injection e with e; have := HGW.out; omega
        have HGN := Aside0.mk hgn
        clear hgn
        rcases (show i ≤ 0 ∨ (0 < i ∧ ((c.f1.length : Int) == 0) = false ∧ (c.f1.length == 0) = false) from by have h7 := B7.out; rcases Nat.eq_zero_or_pos i with h8 | h8; exact .inl (by omega); have h9 : c.f1.length ≠ 0 := fun e => h7 ⟨h8, e⟩; exact .inr ⟨h8, beq_eq_false_iff_ne.mpr (by omega), beq_eq_false_iff_ne.mpr (by omega)⟩) with b8 | ⟨b8, b9, b10⟩
        all_goals
          refine Hold.of ?_
          go_wp2_with (first | (at_lookup; refine gate_guard (by rfl) ?_; refine wpList_lookup_imap rfl _ _ 58 false rfl 3 4 Try.underlying58 Try.underlying3 (.bool false) (zeroB _) w.heap.size ps rfl HMB.out c.f0 rfl ?_) | (at_mapUpdate; refine wpList_update_imap rfl _ _ _ 58 rfl 3 4 Try.underlying58 Try.underlying3 w.heap.size ps rfl HMB.out c.f0 rfl (.bool true) rfl ?_; intro w3 hm3 hg3 hz3; have hc3 := (hg3.cell hcb1 HGN.out); have HM3 := Aside0.mk hm3; have HB3 := Aside0.mk (below_own HBB.out hg3 (Nat.le_refl _) HBB.out.size); clear hm3 hg3 hz3 hcb0 hcb1 hcb2 hcb3 HMB HBB HX2))
          go_loopg [3, 78] c.f1.length (fun d2 v3 v78 w' => ∃ (last2 : Int) (j : Nat), v3 = .int .i64 last2 ∧ v78 = .int .i64 j ∧ j ≤ c.f1.length ∧ Aside0 (d2 = c.f1.length - j) ∧ Aside0 ((match rightIds last2 (c.f1.drop j) with | none => false | some l' => rightGo false l' (c.f0 :: seen) (l0.drop (i + 1))) = r) ∧ Aside0 (IMap w' w.heap.size (putP c.f0 (.bool true) ps)) ∧ Aside0 (Below w.heap.size w w'))
          case atStart => exact ⟨last, 0, rfl, rfl, Nat.zero_le _, ⟨rfl⟩, HGO, HM3, HB3⟩
          case round =>
            obtain ⟨last2, j, rfl, rfl, hj, HD2, HA2, HM4, HB4⟩ := hrel
            have hb4 : c.f1.length ≤ 4 := by have := B6.out; omega
            by_cases hjl : j < c.f1.length
            · obtain ⟨ad3, e3, hz⟩ := Kd.at_int HI.out (j : Int) (by omega) (by omega)
              subst e3
              replace hz := (HB4.out.cell (World.block_lt_of_cell? w _ hz)).trans hz
              simp only [Int.toNat_natCast] at hz
              have HDR := Aside0.mk (drop_rd hjl)
              generalize rd c.f1 (j : Int) = x at *
              by_cases hx : x ≤ last2
              · have hr : r = false := by have h1 := HA2.out; rw [HDR.out] at h1; simp only [rightIds, if_pos hx] at h1; exact h1.symm
                subst hr
                clear hc3
                go_wp2
                go_ret
                exact ⟨rfl, HB4.out⟩
              · have HA3 := HA2.out
                rw [HDR.out] at HA3
                simp only [rightIds, if_neg hx] at HA3
                have HA4 := Aside0.mk HA3
                clear HA3 hc3
                go_wp2
                go_roundg (c.f1.length - (j + 1))
                case measure => have := HD2.out; omega
                case rel => exact ⟨x, j + 1, rfl, by go_num, by omega, ⟨rfl⟩, HA4, HM4, HB4⟩
            · have HA3 := HA2.out
              rw [List.drop_eq_nil_of_le (by omega)] at HA3
              simp only [rightIds] at HA3
              have HA4 := Aside0.mk HA3
              clear HA3 hc3
              go_wp2
              go_roundg (l0.length - (i + 1))
              case measure => have := HD.out; omega
              case rel => exact ⟨last2, i + 1, c.f0 :: seen, putP c.f0 (.bool true) ps, rfl, by go_num, by omega, ⟨rfl⟩, HA4, ⟨HS.out.put _⟩, HM4, HB4⟩
      · have hnb : decide ((i : Int) + 1 < (l0.length : Int)) = false := by simp; omega
        by_cases b1 : c.f3 = true
        · skip
          have hr : r = false := HF.out (by unfold wrongC; simp [b1])
          subst hr
          refine Hold.of ?_
          go_wp2_with ((at_lookup; refine gate_guard (by rfl) ?_; refine wpList_lookup_imap rfl _ _ 58 false rfl 3 4 Try.underlying58 Try.underlying3 (.bool false) (zeroB _) w.heap.size ps rfl HMB.out c.f0 rfl ?_))
          go_ret
          exact ⟨rfl, HBB.out⟩
        replace b1 : c.f3 = false := by simpa using b1
        by_cases b2 : c.f2 = 0
        case neg =>
          have b2b : (c.f2 != 0) = true := bne_iff_ne.mpr b2
          have b2c : (c.f2 == 0) = false := beq_eq_false_iff_ne.mpr b2
          have B2 := Aside0.mk b2b
          clear b2
          have hr : r = false := HF.out (by unfold wrongC; simp [B2.out])
          subst hr
          refine Hold.of ?_
          go_wp2_with ((at_lookup; refine gate_guard (by rfl) ?_; refine wpList_lookup_imap rfl _ _ 58 false rfl 3 4 Try.underlying58 Try.underlying3 (.bool false) (zeroB _) w.heap.size ps rfl HMB.out c.f0 rfl ?_))
          go_ret
          exact ⟨rfl, HBB.out⟩
        have b2b : (c.f2 != 0) = false := bne_eq_false_iff_eq.mpr b2
        have b2c : (c.f2 == 0) = true := beq_iff_eq.mpr b2
        have B2 := Aside0.mk b2
        clear b2
        by_cases b3 : c.f0 < 0
        · have b3b : decide (c.f0 < 0) = true := decide_eq_true b3
          have B3 := Aside0.mk b3b
          clear b3
          have hr : r = false := HF.out (by unfold wrongC; simp [B3.out])
          subst hr
          refine Hold.of ?_
          go_wp2_with ((at_lookup; refine gate_guard (by rfl) ?_; refine wpList_lookup_imap rfl _ _ 58 false rfl 3 4 Try.underlying58 Try.underlying3 (.bool false) (zeroB _) w.heap.size ps rfl HMB.out c.f0 rfl ?_))
          go_ret
          exact ⟨rfl, HBB.out⟩
        have b3b : decide (c.f0 < 0) = false := decide_eq_false b3
        have B3 := Aside0.mk b3
        clear b3
        have hsl := HS.out c.f0
        by_cases b4 : seen.contains c.f0 = true
        · have b4b : (lkp c.f0 ps).getD (Value.bool false) = .bool true := by rw [hsl, if_pos b4]; rfl
          clear hsl
          have B4 := Aside0.mk b4
          clear b4
          have hr : r = false := HF.out (by unfold wrongC; rw [B4.out]; simp)
          subst hr
          refine Hold.of ?_
          go_wp2_with ((at_lookup; refine gate_guard (by rfl) ?_; refine wpList_lookup_imap rfl _ _ 58 false rfl 3 4 Try.underlying58 Try.underlying3 (.bool false) (zeroB _) w.heap.size ps rfl HMB.out c.f0 rfl ?_))
          go_ret
          exact ⟨rfl, HBB.out⟩
        have b4b : (lkp c.f0 ps).getD (Value.bool false) = .bool false := by rw [hsl, if_neg b4]; rfl
        have B4 := Aside0.mk (by simpa using b4 : seen.contains c.f0 = false)
        clear hsl b4
        by_cases b5 : ((c.f0 == 0) != decide (i = 0)) = true
        case pos =>
          have B5 := Aside0.mk b5
          have b5b : ((c.f0 == 0) != ((i : Int) == 0)) = true := by rw [izero]; exact B5.out
          have b5c : ¬ ((c.f0 == 0) = ((i : Int) == 0)) := by simpa using b5b
          have b5e : decide ((c.f0 == 0) = ((i : Int) == 0)) = false := decide_eq_false b5c
          clear b5
          have hr : r = false := HF.out (by unfold wrongC; rw [B5.out]; simp)
          subst hr
          refine Hold.of ?_
          go_wp2_with ((at_lookup; refine gate_guard (by rfl) ?_; refine wpList_lookup_imap rfl _ _ 58 false rfl 3 4 Try.underlying58 Try.underlying3 (.bool false) (zeroB _) w.heap.size ps rfl HMB.out c.f0 rfl ?_))
          go_ret
          exact ⟨rfl, HBB.out⟩
        have B5 := Aside0.mk (by simpa using b5 : ((c.f0 == 0) != decide (i = 0)) = false)
        have b5b : ((c.f0 == 0) != ((i : Int) == 0)) = false := by rw [izero]; exact B5.out
        have b5c : (c.f0 == 0) = ((i : Int) == 0) := by simpa using b5b
        clear b5b
        clear b5
        by_cases b6 : c.f1.length > 4
        · have b6b : decide ((4 : Int) < (c.f1.length : Int)) = true := by simp; omega
          have b6c : decide (4 < c.f1.length) = true := decide_eq_true b6
          have B6 := Aside0.mk b6
          clear b6
          have hr : r = false := HF.out (by unfold wrongC; simp [B6.out])
          subst hr
          refine Hold.of ?_
          go_wp2_with ((at_lookup; refine gate_guard (by rfl) ?_; refine wpList_lookup_imap rfl _ _ 58 false rfl 3 4 Try.underlying58 Try.underlying3 (.bool false) (zeroB _) w.heap.size ps rfl HMB.out c.f0 rfl ?_))
          go_ret
          exact ⟨rfl, HBB.out⟩
        have b6b : decide ((4 : Int) < (c.f1.length : Int)) = false := by simp; omega
        have b6c : decide (4 < c.f1.length) = false := decide_eq_false b6
        have B6 := Aside0.mk b6
        clear b6
        by_cases b7 : 0 < i ∧ c.f1.length = 0
        · obtain ⟨b7a, b7b⟩ := b7
          have b7c : decide ((0 : Int) < (i : Int)) = true := by simp; omega
          have b7d : ((c.f1.length : Int) == 0) = true := by simp [b7b]
          have b7e : (c.f1.length == 0) = true := by simp [b7b]
          have B7 := Aside0.mk b7b
          have B8 := Aside0.mk (show (decide (i = 0)) = false from by simp; omega)
          clear b7b
          have hr : r = false := HF.out (by unfold wrongC; rw [B8.out, B7.out]; simp)
          subst hr
          refine Hold.of ?_
          go_wp2_with ((at_lookup; refine gate_guard (by rfl) ?_; refine wpList_lookup_imap rfl _ _ 58 false rfl 3 4 Try.underlying58 Try.underlying3 (.bool false) (zeroB _) w.heap.size ps rfl HMB.out c.f0 rfl ?_))
          go_ret
          exact ⟨rfl, HBB.out⟩
        have B7 := Aside0.mk b7
        clear b7
        have hgo := HG.out (by unfold wrongC; rw [B4.out, B5.out]; simp [b1, B2.out, b3b, B6.out]; intro h8 e; exact B7.out ⟨by omega, by rw [e]; rfl⟩)
        have HGO := Aside0.mk hgo
        clear hgo HG HF
        have hgn : some g ≠ some w.heap.size := fun e => by injection e with e; have := HGW.out; omega
        have HGN := Aside0.mk hgn
        clear hgn
        rcases (show i ≤ 0 ∨ (0 < i ∧ ((c.f1.length : Int) == 0) = false ∧ (c.f1.length == 0) = false) from by have h7 := B7.out; rcases Nat.eq_zero_or_pos i with h8 | h8; exact .inl (by omega); have h9 : c.f1.length ≠ 0 := fun e => h7 ⟨h8, e⟩; exact .inr ⟨h8, beq_eq_false_iff_ne.mpr (by omega), beq_eq_false_iff_ne.mpr (by omega)⟩) with b8 | ⟨b8, b9, b10⟩
        all_goals
          refine Hold.of ?_
          go_wp2_with (first | (at_lookup; refine gate_guard (by rfl) ?_; refine wpList_lookup_imap rfl _ _ 58 false rfl 3 4 Try.underlying58 Try.underlying3 (.bool false) (zeroB _) w.heap.size ps rfl HMB.out c.f0 rfl ?_) | (at_mapUpdate; refine wpList_update_imap rfl _ _ _ 58 rfl 3 4 Try.underlying58 Try.underlying3 w.heap.size ps rfl HMB.out c.f0 rfl (.bool true) rfl ?_; intro w3 hm3 hg3 hz3; have hc3 := (hg3.cell hcb1 HGN.out); have HM3 := Aside0.mk hm3; have HB3 := Aside0.mk (below_own HBB.out hg3 (Nat.le_refl _) HBB.out.size); clear hm3 hg3 hz3 hcb0 hcb1 hcb2 hcb3 HMB HBB HX2))
          go_loopg [3, 78] c.f1.length (fun d2 v3 v78 w' => ∃ (last2 : Int) (j : Nat), v3 = .int .i64 last2 ∧ v78 = .int .i64 j ∧ j ≤ c.f1.length ∧ Aside0 (d2 = c.f1.length - j) ∧ Aside0 ((match rightIds last2 (c.f1.drop j) with | none => false | some l' => rightGo false l' (c.f0 :: seen) (l0.drop (i + 1))) = r) ∧ Aside0 (IMap w' w.heap.size (putP c.f0 (.bool true) ps)) ∧ Aside0 (Below w.heap.size w w'))
          case atStart => exact ⟨last, 0, rfl, rfl, Nat.zero_le _, ⟨rfl⟩, HGO, HM3, HB3⟩
          case round =>
            obtain ⟨last2, j, rfl, rfl, hj, HD2, HA2, HM4, HB4⟩ := hrel
            have hb4 : c.f1.length ≤ 4 := by have := B6.out; omega
            by_cases hjl : j < c.f1.length
            · obtain ⟨ad3, e3, hz⟩ := Kd.at_int HI.out (j : Int) (by omega) (by omega)
              subst e3
              replace hz := (HB4.out.cell (World.block_lt_of_cell? w _ hz)).trans hz
              simp only [Int.toNat_natCast] at hz
              have HDR := Aside0.mk (drop_rd hjl)
              generalize rd c.f1 (j : Int) = x at *
              by_cases hx : x ≤ last2
              · have hr : r = false := by have h1 := HA2.out; rw [HDR.out] at h1; simp only [rightIds, if_pos hx] at h1; exact h1.symm
                subst hr
                clear hc3
                go_wp2
                go_ret
                exact ⟨rfl, HB4.out⟩
              · have HA3 := HA2.out
                rw [HDR.out] at HA3
                simp only [rightIds, if_neg hx] at HA3
                have HA4 := Aside0.mk HA3
                clear HA3 hc3
                go_wp2
                go_roundg (c.f1.length - (j + 1))
                case measure => have := HD2.out; omega
                case rel => exact ⟨x, j + 1, rfl, by go_num, by omega, ⟨rfl⟩, HA4, HM4, HB4⟩
            · have HA3 := HA2.out
              rw [List.drop_eq_nil_of_le (by omega)] at HA3
              simp only [rightIds] at HA3
              have HA4 := Aside0.mk HA3
              clear HA3 hc3
              go_wp2
              go_roundg (l0.length - (i + 1))
              case measure => have := HD.out; omega
              case rel => exact ⟨last2, i + 1, c.f0 :: seen, putP c.f0 (.bool true) ps, rfl, by go_num, by omega, ⟨rfl⟩, HA4, ⟨HS.out.put _⟩, HM4, HB4⟩
    · have hie : i = l0.length := by omega
      subst hie
      have hr : r = true := by have h1 := HA.out; rw [List.drop_length] at h1; exact h1.symm
      subst hr
      go_wp2
      go_ret
      exact ⟨rfl, HB.out⟩
end Go.Proofs.Ytfbegchhgigjeaa.PC
end
section
namespace Go.Proofs.Ytfbegchhgigjeaa.PC
open Go.Shelf Go.RowKit Go.Proofs.YtfbegchhgigjeaaW.PrintWords Go.Proofs.YtfbegchhgigjeaaW.PrintLast Go.Proofs.YtfbegchhgigjeaaW.PrintMore Go.Proofs.YtfbegchhgigjeaaH
set_option linter.unusedVariables false
set_option linter.unusedSimpArgs false
theorem drop_c {l0 : List S39} {i : Nat} (h : i < l0.length) : l0.drop i = rd_T39 l0 i :: l0.drop (i + 1) := by
  rw [List.drop_eq_getElem_cons h]
  congr 1
  simp [rd_T39, List.getD_eq_getElem?_getD, List.getElem?_eq_getElem h]
/-- The place of the first that meets p; -1: none does. -/
def idxFrom {α : Type} (p : α → Bool) (i : Int) : List α → Int
  | [] => -1
  | x :: r => if p x then i else idxFrom p (i + 1) r
theorem idxFrom_nonneg {α : Type} (p : α → Bool) : ∀ (l : List α) (i : Int), 0 ≤ i → decide (0 ≤ idxFrom p i l) = l.any p
  | [], i, h => by simp [idxFrom]
  | x :: r, i, h => by
    unfold idxFrom
    split
    · rename_i hp; simp [hp, h]
    · rename_i hp
      rw [idxFrom_nonneg p r (i + 1) (by omega)]
      simp [hp]
/-- What is asked of a predicate on chunks. -/
def PredC (g : Nat) (lb : Array Value) (p : S39 → Bool) (w : World) : Prop :=
  ∀ (W : World) (x : S39) (A1 : Option Addr) (c1 : Nat), Below w.heap.size w W → Calls Try.prog g (#[.agg #[.int .i64 x.f0, .slice A1 x.f1.length c1, .int .i64 x.f2, .bool x.f3]] ++ lb) W fun e w' => e = .returned (.bool (p x)) ∧ Below W.heap.size W w'
set_option maxHeartbeats 1000000 in
set_option maxRecDepth 100000 in
theorem indexC (p : S39 → Bool) (g : Nat) (lb : Array Value) (eg : ∀ args w, (callFunc g args).run Try.prog w = .ok (.enter g args) w) (A0 : Option Addr) (c0 : Nat) (l0 : List S39) (w : World) (hr0 : Kd.C k39 w A0 l0.length l0) (hp : PredC g lb p w) :
    Calls Try.prog 55 #[.slice A0 l0.length c0, .func (.func g) #[] lb] w fun e w' => e = .returned (.int .i64 (idxFrom p 0 l0)) ∧ Below w.heap.size w w' := by
  have hu39 := Try.underlying39
  have HR0 := Aside0.mk hr0
  have hm := hr0.2.1
  have HP := Lib.hid hp
  clear hr0 hp
  obtain ⟨r, hr⟩ : ∃ r, r = idxFrom p 0 l0 := ⟨_, rfl⟩
  rw [← hr]
  have H0 := Aside0.mk hr
  clear hr
  go_enter Try.func55, Try.ntmps55
  go_wp2
  go_loopg [8] l0.length (fun d v8 w' => ∃ (i : Nat), v8 = .int .i64 i ∧ i ≤ l0.length ∧ Aside0 (d = l0.length - i) ∧ Aside0 (r = idxFrom p i (l0.drop i)) ∧ Aside0 (Below w.heap.size w w'))
  case atStart => exact ⟨0, rfl, Nat.zero_le _, ⟨rfl⟩, H0, ⟨Below.refl _ _⟩⟩
  case round =>
    obtain ⟨i, rfl, hi, HD, HA, HB⟩ := hrel
    by_cases hlt : i < l0.length
    · have hcons := Aside0.mk (drop_c hlt)
      obtain ⟨ad, A1, c1, e1, hx0, hx1, hx2, hx3, hl1, hi1⟩ := at_T39 HR0.out (i : Int) (by omega) (by omega)
      subst e1
      replace hx0 := (HB.out.cell (World.block_lt_of_cell? w _ hx0)).trans hx0
      replace hx1 := (HB.out.cell (World.block_lt_of_cell? w _ hx1)).trans hx1
      replace hx2 := (HB.out.cell (World.block_lt_of_cell? w _ hx2)).trans hx2
      replace hx3 := (HB.out.cell (World.block_lt_of_cell? w _ hx3)).trans hx3
      simp only [Int.toNat_natCast] at hx0 hx1 hx2 hx3
      clear hl1 hi1
      generalize rd_T39 l0 (i : Int) = c at *
      have hcall := HP.out wr c A1 c1 HB.out
      have HC := Lib.hid hcall
      clear hcall
      cases hq : p c with
      | true =>
        have hri : r = i := by rw [HA.out, hcons.out]; simp [idxFrom, hq]
        have HQ := Lib.hid hq
        have HRI := Lib.hid hri
        clear hq hri
        go_wp2_with (go_at_fn g; refine HC.out.mono ?_; rintro e w' ⟨rfl, hb'⟩; rw [HQ.out])
        go_ret
        exact ⟨by rw [HRI.out]; rfl, below_then HB.out HB.out.size ‹_›⟩
      | false =>
        have HQ := Lib.hid hq
        have HRI := Aside0.mk (show r = idxFrom p (i + 1 : Nat) (l0.drop (i + 1)) by rw [HA.out, hcons.out]; simp [idxFrom, hq])
        clear hq
        go_wp2_with (go_at_fn g; refine HC.out.mono ?_; rintro e w' ⟨rfl, hb'⟩; rw [HQ.out]; have HB' := Aside0.mk (below_then HB.out HB.out.size hb'); clear hb')
        go_roundg (l0.length - (i + 1))
        case measure => have := HD.out; omega
        case rel => exact ⟨i + 1, by go_num, by omega, ⟨rfl⟩, HRI, HB'⟩
    · have hri : r = -1 := by rw [HA.out, List.drop_eq_nil_of_le (by omega)]; rfl
      have HRI := Lib.hid hri
      clear hri
      go_wp2
      go_ret
      exact ⟨by rw [HRI.out]; rfl, HB.out⟩
set_option maxHeartbeats 1000000 in
theorem containsC (p : S39 → Bool) (g : Nat) (lb : Array Value) (eg : ∀ args w, (callFunc g args).run Try.prog w = .ok (.enter g args) w) (A0 : Option Addr) (c0 : Nat) (l0 : List S39) (w : World) (hr0 : Kd.C k39 w A0 l0.length l0) (hp : PredC g lb p w) :
    Calls Try.prog 49 #[.slice A0 l0.length c0, .func (.func g) #[] lb] w fun e w' => e = .returned (.bool (l0.any p)) ∧ Below w.heap.size w w' := by
  rw [← idxFrom_nonneg p l0 0 (by omega)]
  generalize hr : idxFrom p 0 l0 = r
  have HC := Lib.hid (indexC p g lb eg A0 c0 l0 w hr0 hp)
  rw [hr] at HC
  clear hr hr0 hp
  go_enter Try.func49, Try.ntmps49
  go_wp2_with (go_at_call 55; refine HC.out.mono ?_; rintro e w' ⟨rfl, hb'⟩)
  go_ret
  exact ⟨rfl, ‹_›⟩
set_option maxHeartbeats 1000000 in
theorem fresh1 (n : Int) (B : Nat) (W : World) (hc : W.cell? ⟨B, 0, none⟩ = some (.int .i64 n)) (x : S39) (A1 : Option Addr) (c1 : Nat) :
    Calls Try.prog 50 #[.agg #[.int .i64 x.f0, .slice A1 x.f1.length c1, .int .i64 x.f2, .bool x.f3], .pointer (some ⟨B, 0, none⟩)] W fun e w' => e = .returned (.bool (x.f0 == n)) ∧ Below W.heap.size W w' := by
  have hu39 := Try.underlying39
  have hlt := World.block_lt_of_cell? W _ hc
  simp only at hlt
  go_enter Try.func50, Try.ntmps50
  go_wp2
  go_ret
  exact ⟨rfl, below_alloc (Below.refl _ _) _⟩
def freshNo (l : List S39) : Nat → Int → Option Int
  | 0, _ => none
  | f + 1, n => if l.any (fun c => c.f0 == n) then freshNo l f (n + 1) else some n
def chunk_fresh.f (l0 : List S39) : Option Int := if l0.length ≤ 1000000 then freshNo l0 (l0.length + 1) 1 else none
set_option maxHeartbeats 1000000 in
theorem chunk_fresh.calls (A0 : Option Addr) (c0 : Nat) (l0 : List S39) (r : Int) (w : World) (hr0 : Kd.C k39 w A0 l0.length l0) (hc0 : l0.length ≤ c0) (h : chunk_fresh.f l0 = some r) :
    Calls Try.prog 32 #[.slice A0 l0.length c0] w fun e w' => e = .returned (.int .i64 r) ∧ Below w.heap.size w w' := by
  have HR0 := Aside0.mk hr0
  unfold chunk_fresh.f at h
  split at h
  case isFalse => cases h
  case isTrue hm =>
  have H0 := Aside0.mk h
  clear hr0 h hc0
  have eg := enters_of Try.func50 (by kernel_rfl) rfl
  go_enter Try.func32, Try.ntmps32
  go_wp2
  go_loopg [] (l0.length + 1) (fun d w' => ∃ (n : Int), Aside0 (1 ≤ n ∧ n + d = l0.length + 2) ∧ Aside0 (freshNo l0 d n = some r) ∧ Aside0 (w'.heap[w.heap.size]? = some (.cells #[.int .i64 n] 3 (0, 0))) ∧ Aside0 (Below w.heap.size w w'))
  case atStart => exact ⟨1, ⟨by omega, by omega⟩, H0, ⟨heap_alloc_new _ _⟩, ⟨below_alloc (Below.refl _ _) _⟩⟩
  case round =>
    obtain ⟨n, HD, HA, HX, HB⟩ := hrel
    cases gk with
    | zero => exact absurd HA.out (by simp [freshNo])
    | succ k =>
    have hn1 : 1 ≤ n := HD.out.1
    have hn2 : n ≤ l0.length + 1 := by have := HD.out.2; omega
    have HC := Lib.hid (fun hp => containsC (fun c => c.f0 == n) 50 #[.pointer (some ⟨w.heap.size, 0, none⟩)] eg A0 c0 l0 wr (Kd.C_below HR0.out HB.out) hp)
    have HP : Hid (PredC 50 #[.pointer (some ⟨w.heap.size, 0, none⟩)] (fun c => c.f0 == n) wr) := fun W x A1 c1 hb => fresh1 n w.heap.size W ((hb.cell (p := ⟨w.heap.size, 0, none⟩) (Array.getElem?_eq_some_iff.1 HX.out).1).trans ((blk_cell HX.out 0).trans rfl)) x A1 c1
    cases hq : l0.any (fun c => c.f0 == n) with
    | true =>
      have HA2 := HA.out
      simp only [freshNo, hq, if_true] at HA2
      have HA3 := Aside0.mk HA2
      have HQ := Lib.hid hq
      clear HA2 hq
      go_wp2_with (first | (go_at_call 49; refine (HC.out HP.out).mono ?_; rintro e w1 ⟨rfl, hb'⟩; rw [HQ.out]; have HB1 := Aside0.mk (below_then HB.out HB.out.size hb'); have HX1 := Aside0.mk (blk_below HX.out hb'); have hcc : w1.cell? ⟨w.heap.size, 0, none⟩ = some (.int .i64 n) := (blk_cell HX1.out 0).trans rfl; clear hb') | ((with_reducible refine gate_store (t := 3) (p := 3) rfl ?_); refine store_cell rfl rfl rfl w.heap.size 0 _ 3 rfl (.int .i64 (n + 1)) rfl rfl HX1.out (by simp) (by kernel_rfl) rfl ?_; intro w2 hx2 hg2 hz2; have HX2 := Aside0.mk hx2; have HB2 := Aside0.mk (below_own HB1.out hg2 (Nat.le_refl _) HB1.out.size); clear hx2 hg2 hz2))
      go_roundg k
      case measure => omega
      case rel => exact ⟨n + 1, ⟨by omega, by have := HD.out.2; omega⟩, HA3, ⟨HX2.out⟩, HB2⟩
    | false =>
      have HA2 := HA.out
      simp only [freshNo, hq, Bool.false_eq_true, if_false] at HA2
      have HA3 := Lib.hid (Option.some.inj HA2)
      have HQ := Lib.hid hq
      clear HA2 hq
      go_wp2_with (go_at_call 49; refine (HC.out HP.out).mono ?_; rintro e w1 ⟨rfl, hb'⟩; rw [HQ.out]; have HB1 := Aside0.mk (below_then HB.out HB.out.size hb'); have HX1 := Aside0.mk (blk_below HX.out hb'); have hcc : w1.cell? ⟨w.heap.size, 0, none⟩ = some (.int .i64 n) := (blk_cell HX1.out 0).trans rfl; clear hb')
      go_ret
      exact ⟨by rw [← HA3.out]; rfl, HB1.out⟩
end Go.Proofs.Ytfbegchhgigjeaa.PC
end
section
namespace Go.Proofs.Ytfbegchhgigjeaa.PC
open Go.RowKit Go.Proofs.YtfbegchhgigjeaaW.PrintWords Go.Proofs.YtfbegchhgigjeaaW.PrintLast Go.Proofs.YtfbegchhgigjeaaW.PrintMore Go.Proofs.YtfbegchhgigjeaaH
set_option linter.unusedVariables false
set_option linter.unusedSimpArgs false
theorem wrap1 {x : Int} (h : 0 ≤ x) (h2 : x ≤ 1000000000) : wrap64 (x + 1) = x + 1 := by unfold wrap64; omega
def idsOf (l : List S39) : List Int := l.flatMap (·.f1)
theorem idsOf_cons (c : S39) (l : List S39) : idsOf (c :: l) = c.f1 ++ idsOf l := rfl
theorem idsOf_append (a b : List S39) : idsOf (a ++ b) = idsOf a ++ idsOf b := by simp [idsOf]
theorem IDs_from (l : List S39) (hl : l.length ≤ 1000000) (hs : (idsOf l).length ≤ 1000000) : ∀ (d k i : Nat) (acc : List Int), i + d = l.length → d < k → acc.length + (idsOf (l.drop i)).length ≤ 1000000 →
    chunk_IDs.l0 k acc l (l.length : Int) (i : Int) = some (acc ++ idsOf (l.drop i)) := by
  intro d
  induction d with
  | zero =>
    intro k i acc hi hk ha
    obtain ⟨k, rfl⟩ : ∃ m, k = m + 1 := ⟨k - 1, by omega⟩
    simp only [chunk_IDs.l0]
    rw [if_neg (by omega), List.drop_eq_nil_of_le (by omega)]
    simp [idsOf]
  | succ d ih =>
    intro k i acc hi hk ha
    obtain ⟨k, rfl⟩ : ∃ m, k = m + 1 := ⟨k - 1, by omega⟩
    have hlt : i < l.length := by omega
    have hd := drop_c hlt
    rw [hd, idsOf_cons] at ha ⊢
    rw [List.length_append] at ha
    simp only [chunk_IDs.l0]
    rw [if_pos (by omega), if_pos (by omega), if_pos (by omega), if_pos (by omega), wrap1 (by omega) (by omega)]
    have h2 := ih k (i + 1) (acc ++ (rd_T39 l i).f1) (by omega) (by omega) (by rw [List.length_append]; omega)
    rw [show ((i : Int) + 1) = ((i + 1 : Nat) : Int) by omega, h2, List.append_assoc]
theorem IDs_spec (l : List S39) (hl : l.length ≤ 1000000) (hs : (idsOf l).length ≤ 1000000) : ∀ k, l.length < k → chunk_IDs.f k l = some (idsOf l) := fun k hk => by
  have := IDs_from l hl hs l.length k 0 [] (by omega) hk (by simpa using hs)
  simpa [chunk_IDs.f] using this
theorem Index_from (l : List Int) (x : Int) (hl : l.length ≤ 1000000) : ∀ (d k i : Nat), i + d = l.length → d < k →
    ∃ r, slices_Index_int_int.l0 k l x (l.length : Int) (i : Int) = some r ∧ decide (r ≥ 0) = (l.drop i).contains x := by
  intro d
  induction d with
  | zero =>
    intro k i hi hk
    obtain ⟨k, rfl⟩ : ∃ m, k = m + 1 := ⟨k - 1, by omega⟩
    refine ⟨-1, ?_, by rw [List.drop_eq_nil_of_le (by omega)]; rfl⟩
    simp only [slices_Index_int_int.l0]
    rw [if_neg (by omega)]
  | succ d ih =>
    intro k i hi hk
    obtain ⟨k, rfl⟩ : ∃ m, k = m + 1 := ⟨k - 1, by omega⟩
    have hlt : i < l.length := by omega
    have hd := drop_rd hlt
    by_cases e : x = rd l (i : Int)
    · refine ⟨i, ?_, by rw [hd, e]; simp⟩
      simp only [slices_Index_int_int.l0]
      rw [if_pos (by omega), if_pos (by omega), if_pos (by omega), if_pos e]
    · obtain ⟨r, hr, hc⟩ := ih k (i + 1) (by omega) (by omega)
      refine ⟨r, ?_, by rw [hd, hc]; simp [e]⟩
      simp only [slices_Index_int_int.l0]
      rw [if_pos (by omega), if_pos (by omega), if_pos (by omega), if_neg e, wrap1 (by omega) (by omega), show ((i : Int) + 1) = ((i + 1 : Nat) : Int) by omega]
      exact hr
theorem Contains_spec (l : List Int) (x : Int) (hl : l.length ≤ 1000000) : ∀ k, l.length < k → slices_Contains_int_int.f k l x = some (l.contains x) := fun k hk => by
  obtain ⟨r, hr, hc⟩ := Index_from l x hl l.length k 0 (by omega) hk
  unfold slices_Contains_int_int.f slices_Index_int_int.f
  rw [show ((0 : Nat) : Int) = 0 from rfl] at hr
  rw [hr]
  simpa using hc
def placeGo (id : Int) : Int → Int → List S39 → Int
  | at_, _, [] => at_
  | at_, i, c :: r => placeGo id (if 0 < c.f1.length ∧ rd c.f1 0 ≤ id then i else at_) (i + 1) r
theorem place_from (l : List S39) (id : Int) (hl : l.length ≤ 1000000) : ∀ (d k i : Nat) (at_ : Int), i + d = l.length → d < k →
    chunk_place.l0 k id at_ l (l.length : Int) (i : Int) = some (placeGo id at_ i (l.drop i)) := by
  intro d
  induction d with
  | zero =>
    intro k i at_ hi hk
    obtain ⟨k, rfl⟩ : ∃ m, k = m + 1 := ⟨k - 1, by omega⟩
    simp only [chunk_place.l0]
    rw [if_neg (by omega), List.drop_eq_nil_of_le (by omega)]
    rfl
  | succ d ih =>
    intro k i at_ hi hk
    obtain ⟨k, rfl⟩ : ∃ m, k = m + 1 := ⟨k - 1, by omega⟩
    have hlt : i < l.length := by omega
    rw [drop_c hlt]
    simp only [chunk_place.l0, placeGo]
    rw [if_pos (by omega), if_pos (by omega), if_pos (by omega), wrap1 (by omega) (by omega), show ((i : Int) + 1) = ((i + 1 : Nat) : Int) by omega]
    by_cases h1 : 0 < (rd_T39 l (i : Int)).f1.length
    · rw [if_pos (by omega), if_pos (by omega)]
      by_cases h2 : rd (rd_T39 l (i : Int)).f1 0 ≤ id
      · rw [if_pos h2, if_pos ⟨h1, h2⟩]; exact ih k (i + 1) _ (by omega) (by omega)
      · rw [if_neg h2, if_neg (fun h => h2 h.2)]; exact ih k (i + 1) _ (by omega) (by omega)
    · rw [if_neg (by omega), if_neg (fun h => h1 h.1)]; exact ih k (i + 1) _ (by omega) (by omega)
theorem place_spec (l : List S39) (id : Int) (hl : l.length ≤ 1000000) : ∀ k, l.length < k → chunk_place.f k l id = some (placeGo id 0 0 l) := fun k hk => by
  have := place_from l id hl l.length k 0 0 (by omega) hk
  simpa [chunk_place.f] using this
theorem placeGo_range (id : Int) : ∀ (l : List S39) (at_ i n : Int), 0 ≤ at_ → at_ < n → 0 ≤ i → i + l.length ≤ n → 0 ≤ placeGo id at_ i l ∧ placeGo id at_ i l < n
  | [], at_, i, n, h1, h2, _, _ => ⟨h1, h2⟩
  | c :: r, at_, i, n, h1, h2, h3, h4 => by
    simp only [List.length_cons] at h4
    unfold placeGo
    apply placeGo_range id r _ _ n
    · split <;> omega
    · split <;> omega
    · omega
    · omega
/-- The place in a list that rises: what lies ahead is less. -/
structure At (x : Int) (l : List Int) (p : Nat) : Prop where
  le : p ≤ l.length
  lo : ∀ j, j < p → rd l j < x
  hi : ∀ j, p ≤ j → j < l.length → x ≤ rd l j
theorem rise_rd {l : List Int} (h : l.Pairwise (· < ·)) {i j : Nat} (hij : i < j) (hj : j < l.length) : rd l i < rd l j := by
  have := List.pairwise_iff_getElem.1 h i j (by omega) hj hij
  simpa [rd, List.getD_eq_getElem?_getD, List.getElem?_eq_getElem hj, List.getElem?_eq_getElem (show i < l.length by omega)] using this
theorem search_from (l : List Int) (x : Int) (hs : l.Pairwise (· < ·)) (hl : l.length ≤ 1000000) : ∀ (d k i j : Nat), i + d = j → d < k → j ≤ l.length → (∀ m, m < i → rd l m < x) → (∀ m, j ≤ m → m < l.length → x ≤ rd l m) →
    ∃ (p : Nat) (b : Bool), slices_BinarySearch_int_int.l0 k l x (l.length : Int) (i : Int) (j : Int) = some (((p : Nat) : Int), b) ∧ At x l p := by
  intro d
  induction d using Nat.strongRecOn with
  | _ d ih =>
    intro k i j hi hk hj h1 h2
    obtain ⟨k, rfl⟩ : ∃ m, k = m + 1 := ⟨k - 1, by omega⟩
    simp only [slices_BinarySearch_int_int.l0]
    by_cases hd : i < j
    · have hh : wrap64 ((IntKind.u64.wrap (wrap64 ((i : Int) + j))) / 2) = (((i + j) / 2 : Nat) : Int) := by
        have e1 : wrap64 ((i : Int) + j) = (i : Int) + j := by unfold wrap64; omega
        have e2 : IntKind.u64.wrap ((i : Int) + j) = (i : Int) + j := by simp [IntKind.wrap, IntKind.bits, IntKind.signed]; omega
        rw [e1, e2]; unfold wrap64; omega
      rw [if_pos (by omega), hh, if_pos (by omega), if_pos (by omega)]
      have hless : cmp_Less_int.f (rd l (((i + j) / 2 : Nat) : Int)) x = some (decide (rd l (((i + j) / 2 : Nat) : Int) < x)) := by
        simp [cmp_Less_int.f, cmp_isNaN_int.f]
      rw [hless]
      simp only [Option.bind_some]
      by_cases hx : rd l (((i + j) / 2 : Nat) : Int) < x
      · rw [if_pos (by simpa using hx), wrap1 (by omega) (by omega), show ((((i + j) / 2 : Nat) : Int) + 1) = (((i + j) / 2 + 1 : Nat) : Int) by omega]
        exact ih (j - ((i + j) / 2 + 1)) (by omega) k ((i + j) / 2 + 1) j (by omega) (by omega) hj (fun m hm => by
          rcases Nat.lt_or_ge m ((i + j) / 2) with hm2 | hm2
          · exact Int.lt_trans (rise_rd hs hm2 (by omega)) hx
          · rw [show m = (i + j) / 2 by omega]; exact hx) h2
      · rw [if_neg (by simpa using hx)]
        exact ih ((i + j) / 2 - i) (by omega) k i ((i + j) / 2) (by omega) (by omega) (by omega) h1 (fun m hm hml => by
          rcases Nat.lt_or_ge ((i + j) / 2) m with hm2 | hm2
          · have := rise_rd hs hm2 hml; omega
          · rw [show m = (i + j) / 2 by omega]; omega)
    · have hij : i = j := by omega
      subst hij
      rw [if_neg (by omega)]
      have hat : At x l i := ⟨hj, h1, h2⟩
      by_cases hlt : i < l.length
      · rw [if_pos (by omega), if_pos (by omega), if_pos (by omega)]
        by_cases e : rd l (i : Int) = x
        · exact ⟨i, true, by rw [if_pos e], hat⟩
        · exact ⟨i, false, by rw [if_neg e]; simp [slices_isNaN_int.f], hat⟩
      · exact ⟨i, false, by rw [if_neg (by omega)], hat⟩
theorem search_spec (l : List Int) (x : Int) (hs : l.Pairwise (· < ·)) (hl : l.length ≤ 1000000) (k : Nat) (hk : l.length < k) : ∃ (p : Nat) (b : Bool), slices_BinarySearch_int_int.f k l x = some (((p : Nat) : Int), b) ∧ At x l p := by
  have := search_from l x hs hl l.length k 0 l.length (by omega) hk (Nat.le_refl _) (fun m hm => by omega) (fun m h1 h2 => by omega)
  simpa [slices_BinarySearch_int_int.f] using this
def putAt (x : Int) (l : List Int) : List Int := l.takeWhile (fun y => decide (y < x)) ++ x :: l.dropWhile (fun y => decide (y < x))
theorem putAt_eq {x : Int} : ∀ {l : List Int} {p : Nat}, At x l p → l.take p ++ x :: l.drop p = putAt x l
  | [], p, h => by have := h.le; simp at this; subst this; rfl
  | y :: r, 0, h => by
    have := h.hi 0 (by omega) (by simp)
    simp only [rd, List.getD_cons_zero, Int.toNat_zero] at this
    have hn : ¬ y < x := by have : x ≤ y := by simpa using this
                            omega
    simp [putAt, hn]
  | y :: r, p + 1, h => by
    have h0 : y < x := by have := h.lo 0 (by omega); simpa [rd] using this
    have hr : At x r p := ⟨by have := h.le; simp at this; omega, fun j hj => by have := h.lo (j + 1) (by omega); simpa [rd] using this, fun j h1 h2 => by have := h.hi (j + 1) (by omega) (by simp; omega); simpa [rd] using this⟩
    have ih := putAt_eq hr
    simp only [putAt, List.take_succ_cons, List.drop_succ_cons, h0, decide_true, List.takeWhile_cons, List.dropWhile_cons, if_true, List.cons_append]
    rw [ih]; rfl
theorem rightIds_rise : ∀ {l : List Int} {a b : Int}, rightIds a l = some b → l.Pairwise (· < ·) ∧ (∀ x ∈ l, a < x) ∧ (∀ x ∈ l, x ≤ b) ∧ a ≤ b
  | [], a, b, h => by simp [rightIds] at h; subst h; simp
  | x :: r, a, b, h => by
    unfold rightIds at h
    split at h
    · cases h
    · rename_i hx
      obtain ⟨h1, h2, h3, h4⟩ := rightIds_rise h
      refine ⟨List.pairwise_cons.2 ⟨fun y hy => h2 y hy, h1⟩, fun y hy => ?_, fun y hy => ?_, by omega⟩
      · rcases List.mem_cons.1 hy with rfl | hy
        · omega
        · have := h2 y hy; omega
      · rcases List.mem_cons.1 hy with rfl | hy
        · exact h4
        · exact h3 y hy
theorem rightGo_mem : ∀ {l : List S39} {f : Bool} {a : Int} {s : List Int}, rightGo f a s l = true → ∀ c ∈ l, c.f1.Pairwise (· < ·) ∧ c.f1.length ≤ 4 ∧ c.f3 = false
  | [], _, _, _, _, c, hc => by simp at hc
  | d :: r, f, a, s, h, c, hc => by
    unfold rightGo at h
    split at h
    · cases h
    · rename_i hw
      split at h
      · cases h
      · rename_i b hb
        rcases List.mem_cons.1 hc with rfl | hc
        · refine ⟨(rightIds_rise hb).1, ?_, ?_⟩ <;> (simp [wrongC] at hw; simp_all)
        · exact rightGo_mem h c hc
end Go.Proofs.Ytfbegchhgigjeaa.PC
end
