/- A part of the proof: lemmas that the row uses, laid together by a program of this session's (pack.py) out of its texts and of what the kit's printer wrote for this seat. -/
import Derived.Maps.OwnSet
import Derived.Test.YtneagipmllgejaaKS0
import Derived.Test.YtneagipmllgejaaKS1
import Derived.Test.YtneagipmllgejaaKS2
import Derived.Test.YtneagipmllgejaaKS3
import Derived.Test.YtneagipmllgejaaKS4
import Derived.Test.YtneagipmllgejaaKS5
import Derived.Test.YtneagipmllgejaaKS6
import Derived.Test.YtneagipmllgejaaKS7
import Derived.Test.YtneagipmllgejaaKS8
import Derived.Test.YtneagipmllgejaaKS9
import Derived.Test.YtneagipmllgejaaKS10
section
set_option linter.unusedVariables false
set_option linter.unusedSimpArgs false
namespace Go.Proofs.YtneagipmllgejaaH
open Go.RowKit Go.Proofs.YtneagipmllgejaaW.PrintWords Go.Proofs.YtneagipmllgejaaW.PrintLast Go.Proofs.YtneagipmllgejaaW.PrintMore
section
variable {P : Program} {ops : Array Oper} {rest : List Oper} {o : Oper} {a : Act} {Q : Exit → Act → World → Prop} {w : World}
/-- An entry of a map that is written out. -/
theorem wpList_insert_imap (hg : o.guard = none) (m x y : Operand) (t : TypeId) (hop : o.op = Op.insert t m x y) (kt et : TypeId) (ht : P.underlying t = some (.map kt et)) (hk : P.underlying kt = some (.int .i64))
    (b : Nat) (ps : List (Int × Value)) (hm : a.eval m = .map (some b)) (H : IMap w b ps) (k : Int) (hx : a.eval x = .int .i64 k) (v : Value) (hv : a.eval y = v)
    (hK : ∀ w', IMap w' b (putP k v ps) → w.grownBy w' (some b) → w'.heap.size = w.heap.size → wpList P ops Q rest (a.put o.dst undef) w') : wpList P ops Q (o :: rest) a w := by
  refine wpList_plain hg fun K' hK' => ?_
  obtain ⟨w', hrun, h1, h2, h3⟩ := H.run_update ht hk k v
  unfold Oper.wp
  simp only [execOp, hop, hm, hx, hv, Sem.run_bind, hrun, Result.andThen_ok, Sem.run_pure]
  exact hK' _ _ (hK w' h1 h2 h3)
variable {Kc : Act → World → Prop} {W : World}
/-- A new block, as a step of a region that draws its order. -/
theorem alloc_step (hw : Region.wanted o (yielded ops a.tmps) = true) (v : Nat → Value) (obj : Obj) (hrun : (execOp a.eval o).run P W = .ok (.value (v W.heap.size)) (W.alloc obj))
    (h : ∀ g, g = W.heap.size → ∀ w1, w1.heap[g]? = some obj → Below W.heap.size W w1 → Kc (a.put o.dst (v g)) w1) : if Region.wanted o (yielded ops a.tmps) = true then Oper.wp P o a W Kc Q else Kc (a.put o.dst undef) W :=
  event_step hw hrun (h _ rfl _ (heap_alloc_new W _) (below_alloc (Below.refl _ _) _))
/-- A whole block is stored into, likewise. -/
theorem store_step (hw : Region.wanted o (yielded ops a.tmps) = true) {t : TypeId} {p x : Operand} (ho : o.op = .store t p x) (hN : o.dst = none) (g : Nat) (cur : Array Value) (e : TypeId) (cs : List Value) (hp : a.eval p = .pointer (some ⟨g, 0, none⟩)) (u : Value) (hx : a.eval x = u) (hu : u.cells.toList = cs)
    (hbox : W.heap[g]? = some (.cells cur e (0, 0))) (hsz : cs.length = cur.size) (ht : (P.info? t).map (·.size) = some cs.length) (h1 : ∀ q ∈ cs, q.oneCell' = true)
    (h : ∀ w1, w1.heap[g]? = some (.cells cs.toArray e (0, 0)) → W.grownBy w1 (some g) → w1.heap.size = W.heap.size → Kc a w1) : if Region.wanted o (yielded ops a.tmps) = true then Oper.wp P o a W Kc Q else Kc (a.put none undef) W := by
  have hrun := run_store_run (o := 0) t u cs hbox hu ht (by omega) h1
  obtain ⟨cur', h2, h3, h4⟩ := setCells_row cs 0 W cur hbox (by omega)
  obtain ⟨s1, s2, s3, s4⟩ := setCells_same g cs 0 W
  rw [if_pos hw]
  unfold Oper.wp
  simp only [execOp, ho, hp, hx, Sem.run_bind, hrun, Result.andThen_ok, Sem.run_pure]
  show Kc (a.put o.dst undef) _
  rw [hN]
  refine h _ ?_ ⟨s1, s2, s3, by omega, fun k hk hne => setCells_far cs 0 k (fun e => hne (by rw [e]))⟩ s4
  have h5 : cur' = cs.toArray := by
    apply Array.toList_inj.1
    rw [h4]
    simp only [List.take_zero, List.nil_append, Nat.zero_add]
    rw [List.drop_eq_nil_of_le (by rw [hsz, Array.length_toList]; omega)]
    simp
  rw [h2, h5]
/-- A map is stored into, likewise. -/
theorem update_step (hw : Region.wanted o (yielded ops a.tmps) = true) (hN : o.dst = none) (m x y : Operand) (t : TypeId) (hop : o.op = Op.mapUpdate t m x y) (kt et : TypeId) (ht : P.underlying t = some (.map kt et)) (hk : P.underlying kt = some (.int .i64))
    (b : Nat) (ps : List (Int × Value)) (hm : a.eval m = .map (some b)) (H : IMap W b ps) (k : Int) (hx : a.eval x = .int .i64 k) (v : Value) (hv : a.eval y = v)
    (h : ∀ w', IMap w' b (putP k v ps) → W.grownBy w' (some b) → w'.heap.size = W.heap.size → Kc a w') : if Region.wanted o (yielded ops a.tmps) = true then Oper.wp P o a W Kc Q else Kc (a.put none undef) W := by
  obtain ⟨w', hrun, h1, h2, h3⟩ := H.run_update ht hk k v
  rw [if_pos hw]
  unfold Oper.wp
  simp only [execOp, hop, hm, hx, hv, Sem.run_bind, hrun, Result.andThen_ok, Sem.run_pure]
  show Kc (a.put o.dst undef) _
  rw [hN]
  exact h w' h1 h2 h3
end
end Go.Proofs.YtneagipmllgejaaH
namespace Go.Proofs.Ytneagipmllgejaa.PL
open Go.RowKit Go.Proofs.YtneagipmllgejaaW.PrintWords Go.Proofs.YtneagipmllgejaaW.PrintLast Go.Proofs.YtneagipmllgejaaW.PrintMore Go.Proofs.YtneagipmllgejaaH
/-- The leaves that a change names, laid into the table. -/
def layP : List (Int × S28) → List S28 → List (Int × S28)
  | t, [] => t
  | t, c :: r => layP (putP c.f0 c t) r
def keepB (x y e : ByteArray) : Bool := decide (ordB e x ≥ 0) && decide (ordB e y < 0)
def pickP (x y : ByteArray) (t : List (Int × S28)) : List Int → List ByteArray
  | [] => []
  | no :: r => (match lkp no t with | some c => c.f1.filter (keepB x y) | none => []) ++ pickP x y t r
theorem zero28 : ∀ W : World, (zeroValue 28).run Try.prog W = .ok (.agg #[.int .i64 0, .slice none 0 0, .bool false]) W := fun W => by kernel_rfl
def spanT : Bool × List (List Nat × List Nat) := (true, [([], []), ([], []), ([], []), ([], []), ([], []), ([3, 4], [3, 4]), ([5], [5]), ([2, 6], [2, 6]), ([1, 7], [1, 7]), ([], []), ([], []), ([9, 10], [9, 10]), ([11], [11]), ([0, 8, 12, 7], [0, 8, 12]), ([13], [13]), ([14], [14]), ([14], [14]), ([14], [14]), ([], []), ([18, 15, 13, 0, 1, 2, 3, 4, 5, 6, 7, 8, 9, 10, 11, 12, 13, 14, 15, 18], [15, 18]), ([16, 19, 0, 1, 2, 3, 4, 5, 6, 7, 8, 9, 10, 11, 12, 13, 14, 15, 16, 18, 19], [16]), ([17, 20, 0, 1, 2, 3, 4, 5, 6, 7, 8, 9, 10, 11, 12, 13, 14, 15, 16, 17, 18, 19, 20], [17])])
def spanBits : List Nat := [0, 0, 0, 0, 0, 24, 56, 124, 254, 0, 0, 1536, 3584, 8191, 16383, 32767, 32767, 32767, 0, 327679, 917503, 2097151]
theorem spanTab : rtab .any (opsOf Try.f3 10) = spanT := by kernel_rfl
theorem spanWaits : waitsOk spanT.2 spanBits = true := by kernel_rfl
def spanT2 : Bool × List (List Nat × List Nat) := (true, [([], []), ([], []), ([], []), ([1, 2], [1, 2]), ([3], [3]), ([4], [4]), ([], []), ([], []), ([6, 7], [6, 7]), ([8], [8]), ([0, 5, 9, 0, 1, 2, 3, 4, 5, 6, 7, 8, 9], [0, 5, 9])])
def spanBits2 : List Nat := [0, 0, 0, 6, 14, 30, 0, 0, 192, 448, 1023]
theorem spanTab2 : rtab .any (opsOf Try.f3 18) = spanT2 := by kernel_rfl
theorem spanWaits2 : waitsOk spanT2.2 spanBits2 = true := by kernel_rfl
/-- Leaf j of a row lies there. -/
def heldL (ad : Addr) (j : Nat) (A9 : Option Addr) (c9 : Nat) (lf : S28) : World → Prop :=
  fun W => W.cell? (ad.add (j * 3)) = some (.int .i64 lf.f0) ∧ W.cell? ⟨(ad.add (j * 3)).block, (ad.add (j * 3)).off + 1, none⟩ = some (.slice A9 lf.f1.length c9) ∧ W.cell? ⟨(ad.add (j * 3)).block, (ad.add (j * 3)).off + 2, none⟩ = some (.bool lf.f2)
/-- What the drawn regions read. -/
def heldP (g7 bm : Nat) (A0 : Option Addr) (c0 n0 : Nat) (A1 : Option Addr) (c1 n1 : Nat) (p : Addr) (s : ByteArray) (vs : List (Int × Value)) : World → Prop :=
  fun W => W.cell? ⟨g7, 0, none⟩ = some (.slice A0 n0 c0) ∧ W.cell? ⟨g7, 1, none⟩ = some (.slice A1 n1 c1) ∧ W.cell? p = some (.string s) ∧ IMap W bm vs
section
variable {w W W1 : World} {ok ok' : Nat → Prop} {g7 bm g : Nat} {A0 : Option Addr} {c0 : Nat} {a : List ByteArray} {A1 : Option Addr} {c1 : Nat} {b : List Int} {vs : List (Int × Value)} {ps : List (Int × S28)} {A2 : Option Addr} {c2 : Nat} {ls : List S28}
theorem heldS {p : Addr} {s : ByteArray} (hs : Sp w W ok g7 bm A0 c0 a A1 c1 b vs ps) (hse : w.cell? p = some (.string s)) : heldP g7 bm A0 c0 a.length A1 c1 b.length p s vs W :=
  ⟨hs.cell0, hs.cell1, (hs.below.cell (World.block_lt_of_cell? w _ hse)).trans hse, hs.im⟩
theorem leaf_now {no : Int} {lf : S28} {A9 : Option Addr} {c9 : Nat} (h : AllV W ok vs ps) (hk : lkp no ps = some lf) (hv : lkp no vs = some (.agg #[.int .i64 lf.f0, .slice A9 lf.f1.length c9, .bool lf.f2])) : Kd.C Kd.string W A9 lf.f1.length lf.f1 := by
  obtain ⟨v, h1, A, n, rfl, h2, h3⟩ := h.lkp_some hk
  rw [hv] at h1
  obtain ⟨rfl, rfl⟩ : A9 = A ∧ c9 = n := by simpa using h1
  exact Kd.F_now h3
/-- What an insert yields: a root's two rows, leaves; they lie in ok. -/
structure Rs (W : World) (ok : Nat → Prop) (A0 : Option Addr) (c0 : Nat) (a : List ByteArray) (A1 : Option Addr) (c1 : Nat) (b : List Int) (A2 : Option Addr) (c2 : Nat) (ls : List S28) : Prop where
  f0 : Kd.F Kd.string W ok A0 a.length a
  h0 : a.length ≤ c0
  f1 : Kd.F (Kd.int .i64) W ok A1 b.length b
  h1 : b.length ≤ c1
  f2 : Kd.F k28 W ok A2 ls.length ls
  h2 : ls.length ≤ c2
theorem Rs.fresh {base n0 n1 n2 : Nat} {k0 k1 k2 : Nat → Prop} (h0 : Kd.R Kd.string 9 W base k0 (.slice A0 n0 c0) a) (h1 : Kd.R (Kd.int .i64) 3 W base k1 (.slice A1 n1 c1) b) (h2 : Kd.N k28 28 W base k2 (.slice A2 n2 c2) ls) (hk2 : ∀ k, k2 k → base ≤ k) (hok : ∀ k, base ≤ k → ok' k) : Rs W ok' A0 c0 a A1 c1 b A2 c2 ls :=
  have e0 := freshS h0 (fun k hk _ => hok k hk)
  have e1 := freshN h1 (fun k hk _ => hok k hk)
  have e2 := freshL h2 (fun k hk _ => hok k (hk2 k hk))
  ⟨e0.2, e0.1, e1.2, e1.1, e2.2, e2.1⟩
theorem Rs.grow (h : Rs W ok A0 c0 a A1 c1 b A2 c2 ls) (hb : Below W.heap.size W W1) : Rs W1 ok A0 c0 a A1 c1 b A2 c2 ls := ⟨Kd.F_below h.f0 hb, h.h0, Kd.F_below h.f1 hb, h.h1, Kd.F_below h.f2 hb, h.h2⟩
theorem Rs.mono (h : Rs W ok A0 c0 a A1 c1 b A2 c2 ls) (hok : ∀ k, ok k → ok' k) : Rs W ok' A0 c0 a A1 c1 b A2 c2 ls := ⟨Kd.F_mono h.f0 hok, h.h0, Kd.F_mono h.f1 hok, h.h1, Kd.F_mono h.f2 hok, h.h2⟩
theorem Rs.far (h : Rs W ok A0 c0 a A1 c1 b A2 c2 ls) (hg : W.grownBy W1 (some g)) (hok : ∀ k, ok k → k ≠ g) : Rs W1 ok A0 c0 a A1 c1 b A2 c2 ls :=
  have hk : ∀ k, ok k → some k ≠ some g := fun k h e => hok k h (Option.some.inj e)
  ⟨Kd.F_grown h.f0 hg hk, h.h0, Kd.F_grown h.f1 hg hk, h.h1, Kd.F_grown h.f2 hg hk, h.h2⟩
theorem Rs.alloc (h : Rs W ok A0 c0 a A1 c1 b A2 c2 ls) (hg : g = W.heap.size) (hb : Below W.heap.size W W1) : Rs W1 (fun k => ok k ∧ k ≠ g) A0 c0 a A1 c1 b A2 c2 ls :=
  Rs.grow ⟨Kd.F_mono (Kd.F_bound h.f0) (fun k hk => ⟨hk.1, by have := hk.2; omega⟩), h.h0, Kd.F_mono (Kd.F_bound h.f1) (fun k hk => ⟨hk.1, by have := hk.2; omega⟩), h.h1, Kd.F_mono (Kd.F_bound h.f2) (fun k hk => ⟨hk.1, by have := hk.2; omega⟩), h.h2⟩ hb
theorem Sp.alloc (h : Sp w W ok g7 bm A0 c0 a A1 c1 b vs ps) (hg : g = W.heap.size) (hb : Below W.heap.size W W1) : Sp w W1 (fun k => ok k ∧ k ≠ g) g7 bm A0 c0 a A1 c1 b vs ps ∧ g7 ≠ g ∧ bm ≠ g ∧ w.heap.size ≤ g := by
  have l7 := h.lt7
  have lm := h.ltm
  have hs := h.below.size
  exact ⟨(h.bound.weak (ok' := fun k => ok k ∧ k ≠ g) (fun k hk => ⟨hk.1, by have := hk.2; omega⟩) (fun k hk => h.k7 k hk.1) (fun k hk => h.km k hk.1)).grow hb, by omega, by omega, by omega⟩
end
theorem field28 (x0 : Int) (A : Option Addr) (n c : Nat) (b : Bool) (W : World) : Sem.run Try.prog (Instr.field 28 (.agg #[.int .i64 x0, .slice A n c, .bool b]) 1) W = .ok (.slice A n c) W := by kernel_rfl
/-- What the gathering loops hold. -/
structure Bs (w W : World) (N g7 bm : Nat) (A0 : Option Addr) (c0 : Nat) (a : List ByteArray) (A1 : Option Addr) (c1 : Nat) (b : List Int) (vs : List (Int × Value)) (ps : List (Int × S28)) (A6 : Option Addr) (c6 : Nat) (out : List ByteArray) (A5 : Option Addr) (l : List Int) (A8 : Option Addr) (il : List ByteArray) (A9 : Option Addr) (es : List ByteArray) : Prop where
  sp : Sp w W (fun k => (k ≠ g7 ∧ k ≠ bm) ∧ k < N) g7 bm A0 c0 a A1 c1 b vs ps
  ro : Kd.R Kd.string 9 W N (fun _ => True) (.slice A6 out.length c6) out
  fl : Kd.F (Kd.int .i64) W (fun k => k < N) A5 l.length l
  fi : Kd.F Kd.string W (fun k => k < N) A8 il.length il
  fe : Kd.F Kd.string W (fun k => k < N) A9 es.length es
  size : N ≤ W.heap.size
  n7 : g7 < N
  nm : bm < N
  nw : w.heap.size ≤ N
section
variable {w W W1 : World} {N g7 bm : Nat} {A0 : Option Addr} {c0 : Nat} {a : List ByteArray} {A1 : Option Addr} {c1 : Nat} {b : List Int} {vs : List (Int × Value)} {ps : List (Int × S28)} {A6 A6' : Option Addr} {c6 c6' : Nat} {out out' : List ByteArray} {A5 : Option Addr} {l : List Int} {A8 : Option Addr} {il : List ByteArray} {A9 A9' : Option Addr} {es es' : List ByteArray}
theorem Bs.first (h : Sp w W (fun k => k ≠ g7 ∧ k ≠ bm) g7 bm A0 c0 a A1 c1 b vs ps) (hN : N = W.heap.size) (hl : Kd.F (Kd.int .i64) W (fun k => k < N) A5 l.length l) : Bs w W N g7 bm A0 c0 a A1 c1 b vs ps none 0 [] A5 l none [] none [] := by
  have n7 := h.lt7
  have nm := h.ltm
  have hs := h.below.size
  exact ⟨h.bound.weak (fun k hk => ⟨hk.1, by have := hk.2; omega⟩) (fun k hk => hk.1.1) (fun k hk => hk.1.2), Kd.R_nil _ _ _ _ _, hl, Kd.F_nil _ _ _, Kd.F_nil _ _ _, by omega, by omega, by omega, by omega⟩
theorem Bs.grow (h : Bs w W N g7 bm A0 c0 a A1 c1 b vs ps A6 c6 out A5 l A8 il A9 es) (hb : Below W.heap.size W W1) : Bs w W1 N g7 bm A0 c0 a A1 c1 b vs ps A6 c6 out A5 l A8 il A9 es :=
  ⟨h.sp.grow hb, Kd.R_below h.ro hb, Kd.F_below h.fl hb, Kd.F_below h.fi hb, Kd.F_below h.fe hb, Nat.le_trans h.size hb.size, h.n7, h.nm, h.nw⟩
theorem Bs.leaf (h : Bs w W N g7 bm A0 c0 a A1 c1 b vs ps A6 c6 out A5 l A8 il A9 es) (hf : Kd.F Kd.string W (fun k => (k ≠ g7 ∧ k ≠ bm) ∧ k < N) A9' es'.length es') : Bs w W N g7 bm A0 c0 a A1 c1 b vs ps A6 c6 out A5 l A8 il A9' es' :=
  ⟨h.sp, h.ro, h.fl, h.fi, Kd.F_mono hf (fun k hk => hk.2), h.size, h.n7, h.nm, h.nw⟩
theorem Bs.bare (h : Bs w W N g7 bm A0 c0 a A1 c1 b vs ps A6 c6 out A5 l A8 il A9 es) : Bs w W N g7 bm A0 c0 a A1 c1 b vs ps A6 c6 out A5 l A8 il none [] :=
  ⟨h.sp, h.ro, h.fl, h.fi, Kd.F_nil _ _ _, h.size, h.n7, h.nm, h.nw⟩
theorem Bs.next {N3 : Nat} (h : Bs w W N g7 bm A0 c0 a A1 c1 b vs ps A6 c6 out A5 l A8 il A9 es) (hN : N3 = W.heap.size) : Bs w W N3 g7 bm A0 c0 a A1 c1 b vs ps none 0 [] A1 b A6 out none [] := by
  have n7 := h.n7
  have nm := h.nm
  have nw := h.nw
  have hs := h.size
  exact ⟨h.sp.bound.weak (fun k hk => ⟨hk.1.1, by have := hk.2; omega⟩) (fun k hk => hk.1.1) (fun k hk => hk.1.2), Kd.R_nil _ _ _ _ _, Kd.F_mono (Kd.F_bound h.sp.f1) (fun k hk => by have := hk.2; omega), (freshS h.ro (fun k _ hk => by omega)).2, Kd.F_nil _ _ _, by omega, by omega, by omega, by omega⟩
theorem Bs.app (h : Bs w W N g7 bm A0 c0 a A1 c1 b vs ps A6 c6 out A5 l A8 il A9 es) (hv : Kd.R Kd.string 9 W1 N (fun _ => True) (.slice A6' out'.length c6') out') (hg : W.grownBy W1 (Value.slice A6 out.length c6).ownBlock) : Bs w W1 N g7 bm A0 c0 a A1 c1 b vs ps A6' c6' out' A5 l A8 il A9 es := by
  have hrow := Kd.R_base h.ro
  have hk : ∀ k, k < N → some k ≠ (Value.slice A6 out.length c6).ownBlock := fun k hk e => by have := hrow k e.symm; omega
  have hx := h.sp
  have n7 := h.n7
  have nm := h.nm
  have nw := h.nw
  refine ⟨?_, hv, Kd.F_grown h.fl hg hk, Kd.F_grown h.fi hg hk, Kd.F_grown h.fe hg hk, Nat.le_trans h.size hg.size, h.n7, h.nm, h.nw⟩
  exact ⟨(hg.block _ hx.lt7 (hk _ n7)).trans hx.x7, Kd.F_grown hx.f0 hg (fun k h => hk k h.2), hx.h0, Kd.F_grown hx.f1 hg (fun k h => hk k h.2), hx.h1, hx.av.imp (fun _ _ hv => hv.step (fun k h hlt => hg.block k hlt (hk k h.2))), hx.im.of_block (hg.block _ hx.ltm (hk _ nm)), hx.below.grown hg hx.below.size (fun k e => Nat.le_trans nw (hrow k e)), hx.g7, hx.gm, hx.n7, hx.k7, hx.km⟩
end
theorem drop_int {l : List Int} {i : Nat} (h : i < l.length) : l.drop i = rd l (i : Int) :: l.drop (i + 1) := by
  rw [List.drop_eq_getElem_cons h]
  congr 1
  simp [rd, List.getD_eq_getElem?_getD, List.getElem?_eq_getElem h]
theorem mem_int {l : List Int} {i : Nat} (h : i < l.length) : rd l (i : Int) ∈ l := by simp [rd, List.getD_eq_getElem?_getD, List.getElem?_eq_getElem h]
theorem drop_str {l : List ByteArray} {i : Nat} (h : i < l.length) : l.drop i = rdOf ByteArray.empty l (i : Int) :: l.drop (i + 1) := by
  rw [List.drop_eq_getElem_cons h]
  congr 1
  simp [rdOf, List.getD_eq_getElem?_getD, List.getElem?_eq_getElem h]
theorem mem_str {l : List ByteArray} {i : Nat} (h : i < l.length) : rdOf ByteArray.empty l (i : Int) ∈ l := by simp [rdOf, List.getD_eq_getElem?_getD, List.getElem?_eq_getElem h]
theorem inc_int {j n : Nat} (h : j < n) (hn : n ≤ 9223372036854775807) : Value.int .i64 (wrap64 ((j : Int) + 1)) = .int .i64 ((j + 1 : Nat) : Int) := by rw [w64 (by omega) (by omega)]; rfl
/-- What the plain law gives to the walk. -/
structure SpanPlain (x y : ByteArray) (Good : Nat → List ByteArray → List Int → List (Int × S28) → Prop) : Prop where
  start : Good 0 [] [1] [(1, ⟨1, [], false⟩)]
  step : ∀ n a b t s, n < 60 → s.size ≤ 100 → Good n a b t → ∃ k no c r1 r2 r3 r4, leaf_Find.f k a b s = some no ∧ lkp no t = some c ∧ leaf_Insert.f a b c.f0 c.f1 c.f2 s = some (r1, r2, r3, r4) ∧ ((r4 = 31 ∧ Good (n + 1) a b t) ∨ (r4 = 0 ∧ Good (n + 1) r1 r2 (layP t r3)))
  fin : ∀ n a b t, Good n a b t → ∃ k l, leaf_Range.f k a b x y = some l ∧ (∀ no ∈ l, ∃ c, lkp no t = some c) ∧ (∀ no ∈ b, ∃ c, lkp no t = some c) ∧ (∀ p ∈ t, p.2.f1.length ≤ 1000 ∧ ∀ s ∈ p.2.f1, s.size ≤ 1000) ∧ l.length ≤ 1000 ∧ b.length ≤ 1000 ∧ cobwebref11_Texts.f k (pickP x y t l) (pickP x y t b) = some true ∧ cobwebref11_Rise.f k (pickP x y t b) = some true
set_option maxHeartbeats 16000000 in
set_option maxRecDepth 100000 in
theorem spans_main (A : Option Addr) (c : Nat) (es : List ByteArray) (x y : ByteArray) (w : World) (hr : Kd.C Kd.string w A es.length es) (hc : es.length ≤ c) (hl : es.length ≤ 60) (hx : x.size ≤ 100) (hy : y.size ≤ 100) (Good : Nat → List ByteArray → List Int → List (Int × S28) → Prop) (hG : SpanPlain x y Good) :
    Calls Try.prog 3 #[.slice A es.length c, .string x, .string y] w fun e w' => e = .returned (.bool true) ∧ Below w.heap.size w w' := by
  have HR := Lib.hid hr
  have HG := Lib.hid hG
  have hu26 := Try.underlying26
  have hu28 := Try.underlying28
  have hmm := @run_makeMap Try.prog
  have hfld := field28
  have hl1 : decide ((60 : Int) < (es.length : Int)) = false := decide_eq_false (by omega)
  have hl2 : decide (60 < es.length) = false := decide_eq_false (by omega)
  have hx1 : decide ((100 : Int) < (x.size : Int)) = false := decide_eq_false (by omega)
  have hx2 : decide (100 < x.size) = false := decide_eq_false (by omega)
  have hy1 : decide ((100 : Int) < (y.size : Int)) = false := decide_eq_false (by omega)
  have hy2 : decide (100 < y.size) = false := decide_eq_false (by omega)
  clear hr hG
  go_enter Try.func3, Try.ntmps3
  go_wp2_with (first | (go_at_call 9; refine (cobweblaw11_awake.calls 50 true _ (awake_true 50 (Nat.le_refl _))).mono ?_; rintro e w1 ⟨rfl, hb⟩; have HB1 := Lib.hid hb; clear hb) | (go_at_call 10; refine (leaf_Empty.calls [] [1] 1 [] false _ rfl).mono ?_; rintro e w2 ⟨v0, v1, v3, rfl, h0, h1, h3, hb⟩; obtain ⟨A0, c0, rfl⟩ := Kd.R_slice h0; obtain ⟨A1, c1, rfl⟩ := Kd.R_slice h1; obtain ⟨A3, c3, rfl⟩ := Kd.R_slice h3; have H0_2 := Lib.hid h0; have H1_2 := Lib.hid h1; have H3_2 := Lib.hid h3; have HB2 := Lib.hid (below_then HB1.out HB1.out.size hb); have HS1 := Lib.hid HB1.out.size; clear h0 h1 h3 hb) | ((with_reducible refine gate_dst (N := 7) rfl ?_); refine alloc_event ?hg (N := 7) ?hd (fun g => .pointer (some ⟨g, 0, none⟩)) (.cells #[.slice none 0 0, .slice none 0 0] 26 (0, 0)) ?hr ?_; (case hd => rfl); (case hg => rfl); (case hr => first | (go_simp; done) | (go_simp; rfl)); intro g7 hg w3 hbox hb; have HG7 := Lib.hid (show w.heap.size ≤ g7 by rw [hg]; exact HB2.out.size); have HE7 := Lib.hid (show w2.heap.size ≤ g7 by omega); have HX7_3 := Lib.hid hbox; have HB3 := Lib.hid (below_then HB2.out HB2.out.size hb); have HV3 := Lib.hid hb; clear hg hbox hb) | ((with_reducible refine gate_dst (N := 8) rfl ?_); refine alloc_event ?hg (N := 8) ?hd (fun g => .pointer (some ⟨g, 0, none⟩)) (.cells #[.int .i64 0, .slice none 0 0, .bool false] 28 (0, 0)) ?hr ?_; (case hd => rfl); (case hg => rfl); (case hr => first | (go_simp; done) | (go_simp; rfl)); intro g8 hg w4 hbox hb; have HG8 := Lib.hid (show w.heap.size ≤ g8 by rw [hg]; exact HB3.out.size); have HN78 := Lib.hid (show g7 ≠ g8 by have := blk_lt HX7_3.out; omega); have HX8_4 := Lib.hid hbox; have HX7_4 := Lib.hid (blk_below HX7_3.out hb); have HE8 := Lib.hid (show w2.heap.size ≤ g8 by rw [hg]; exact HV3.out.size); have HB4 := Lib.hid (below_then HB3.out HB3.out.size hb); have HV4 := Lib.hid (below_then HV3.out HV3.out.size hb); clear hg hbox hb) | ((with_reducible refine gate_store (t := 26) (p := 7) rfl ?_); refine store_row rfl rfl rfl g7 _ 26 [.slice A0 0 c0, .slice A1 1 c1] rfl (.agg #[.slice A0 0 c0, .slice A1 1 c1]) ?haA ?hbA HX7_4.out rfl (by kernel_rfl) (two26 A0 0 c0 A1 1 c1) ?_; (case haA => rfl); (case hbA => first | rfl | simp [Value.cells]); intro w5 hbox hg hz; have HX7_5 := Lib.hid hbox; have HX8_5 := Lib.hid (blk_grown HX8_4.out hg (fun e_ => HN78.out (Option.some.inj e_).symm)); have HB5 := Lib.hid (below_own HB4.out hg HG7.out HB4.out.size); have HV5 := Lib.hid (below_own HV4.out hg HE7.out HV4.out.size); clear hbox hg hz) | ((with_reducible refine gate_store (t := 28) (p := 8) rfl ?_); refine store_row rfl rfl rfl g8 _ 28 [.int .i64 1, .slice A3 0 c3, .bool false] rfl (.agg #[.int .i64 1, .slice A3 0 c3, .bool false]) ?haB ?hbB HX8_5.out rfl (by kernel_rfl) (one28 (.slice A3 0 c3) rfl 1 false) ?_; (case haB => rfl); (case hbB => first | rfl | simp [Value.cells]); intro w6 hbox hg hz; have HX8_6 := Lib.hid hbox; have HX7_6 := Lib.hid (blk_grown HX7_5.out hg (fun e_ => HN78.out (Option.some.inj e_))); have HB6 := Lib.hid (below_own HB5.out hg HG8.out HB5.out.size); have HV6 := Lib.hid (below_own HV5.out hg HE8.out HV5.out.size); clear hbox hg hz) | ((with_reducible refine gate_dst (N := 46) rfl ?_); refine alloc_event ?hg (N := 46) ?hd (fun g => .map (some g)) (.map #[] 0) ?hr ?_; (case hd => rfl); (case hg => rfl); (case hr => first | (go_simp; done) | (go_simp; rfl)); intro bm hg w7 hbox hb; have HGM := Lib.hid (show w.heap.size ≤ bm by rw [hg]; exact HB6.out.size); have HN7M := Lib.hid (show g7 ≠ bm by have := blk_lt HX7_6.out; omega); have HN8M := Lib.hid (show g8 ≠ bm by have := blk_lt HX8_6.out; omega); have HEM := Lib.hid (show w2.heap.size ≤ bm by rw [hg]; exact HV6.out.size); have HIM7 := Lib.hid (show IMap w7 bm [] from ⟨#[], 0, hbox, rfl⟩); have HX7_7 := Lib.hid (blk_below HX7_6.out hb); have HX8_7 := Lib.hid (blk_below HX8_6.out hb); have HB7 := Lib.hid (below_then HB6.out HB6.out.size hb); have HV7 := Lib.hid (below_then HV6.out HV6.out.size hb); clear hg hbox hb; have q80 : w7.cell? ⟨g8, 0, none⟩ = some (.int .i64 1) := (blk_cell HX8_7.out 0).trans rfl; have q81 : w7.cell? ⟨g8, 1, none⟩ = some (.slice A3 0 c3) := (blk_cell HX8_7.out 1).trans rfl; have q82 : w7.cell? ⟨g8, 2, none⟩ = some (.bool false) := (blk_cell HX8_7.out 2).trans rfl) | (refine wpList_insert_imap rfl _ _ _ 31 rfl 3 28 Try.underlying31 Try.underlying3 bm [] rfl HIM7.out 1 rfl (.agg #[.int .i64 1, .slice A3 0 c3, .bool false]) rfl ?_; intro w8 hm hg hz; have HIM8 := Lib.hid hm; have HX7_8 := Lib.hid (blk_grown HX7_7.out hg (fun e_ => HN7M.out (Option.some.inj e_))); have HB8 := Lib.hid (below_own HB7.out hg HGM.out HB7.out.size); have HV8 := Lib.hid (below_own HV7.out hg HEM.out HV7.out.size); clear hm hg hz q80 q81 q82; refine Hold.go ?_))
  have HS := Lib.hid (show Sp w w8 (fun k => k ≠ g7 ∧ k ≠ bm) g7 bm A0 c0 ([] : List ByteArray) A1 c1 ([1] : List Int) [((1 : Int), Value.agg #[.int .i64 1, .slice A3 0 c3, .bool false])] [((1 : Int), (⟨1, [], false⟩ : S28))] from by
    have hk : ∀ k, w1.heap.size ≤ k → k < w2.heap.size → k ≠ g7 ∧ k ≠ bm := fun k _ h => ⟨by have := HE7.out; omega, by have := HEM.out; omega⟩
    have e0 := freshS H0_2.out hk
    have e1 := freshN H1_2.out hk
    have e3 := freshS H3_2.out hk
    exact ⟨HX7_8.out, Kd.F_below e0.2 HV8.out, e0.1, Kd.F_below e1.2 HV8.out, e1.1, ⟨rfl, ⟨A3, c3, rfl, e3.1, Kd.F_below e3.2 HV8.out⟩, trivial⟩, HIM8.out, HB8.out, HG7.out, HGM.out, HN7M.out, fun k hk => hk.1, fun k hk => hk.2⟩)
  have H0 := Lib.hid HG.out.start
  clear HB1 HB2 HB3 HB4 HB5 HB6 HB7 HB8 HV3 HV4 HV5 HV6 HV7 HV8 HX7_3 HX7_4 HX7_5 HX7_6 HX7_7 HX7_8 HX8_4 HX8_5 HX8_6 HX8_7 H0_2 H1_2 H3_2 HIM7 HIM8 HE7 HE8 HEM HG7 HG8 HGM HN78 HN7M HN8M HS1
  generalize hvs : [((1 : Int), Value.agg #[.int .i64 1, .slice A3 0 c3, .bool false])] = vs0 at HS
  clear hvs
  refine Hold.of ?_
  go_wp2
  go_loopg [10] es.length (fun d v10 w' => ∃ (i : Nat) (A0 : Option Addr) (c0 : Nat) (a : List ByteArray) (A1 : Option Addr) (c1 : Nat) (b : List Int) (vs : List (Int × Value)) (ps : List (Int × S28)), v10 = .int .i64 i ∧ i ≤ es.length ∧ Aside0 (d = es.length - i) ∧ Aside0 (Good i a b ps) ∧ Aside0 (Sp w w' (fun k => k ≠ g7 ∧ k ≠ bm) g7 bm A0 c0 a A1 c1 b vs ps))
  case atStart => exact ⟨0, A0, c0, _, A1, c1, _, _, _, rfl, Nat.zero_le _, ⟨rfl⟩, ⟨H0.out⟩, ⟨HS.out⟩⟩
  case round =>
    clear HS H0
    obtain ⟨i, A0, c0, a, A1, c1, b, vs, ps, rfl, hi, HD, HGo, HS⟩ := hrel
    by_cases hlt : i < es.length
    · obtain ⟨ad, rfl, hse⟩ := Kd.at_string HR.out (i : Int) (by omega) (by omega)
      simp only [Int.toNat_natCast] at hse
      have HSE := Lib.hid hse
      have hse := (HS.out.below.cell (World.block_lt_of_cell? w _ hse)).trans hse
      generalize rdOf ByteArray.empty es (i : Int) = s at *
      by_cases hs : s.size ≤ 100
      · have hs1 : decide ((100 : Int) < (s.size : Int)) = false := decide_eq_false (by omega)
        have hs2 : decide (100 < s.size) = false := decide_eq_false (by omega)
        obtain ⟨k, no, lf, r1, r2, r3, r4, hfd, hk, hin, hr4⟩ := HG.out.step i a b ps s (by omega) hs HGo.out
        obtain ⟨v, hlk, A9, c9, rfl, hl9, hf9⟩ := HS.out.av.lkp_some hk
        have HFD := Lib.hid hfd
        have HK := Lib.hid hk
        have HIN := Lib.hid hin
        have HR4 := Lib.hid hr4
        have HLK := Lib.hid hlk
        have HL9 := Lib.hid hl9
        have hi0 := eq_true (show (0 : Int) ≤ (i : Int) by omega)
        have hi1 := eq_true (show (i : Int) < (es.length : Int) by omega)
        clear hfd hk hin hr4 hlk hl9 hf9 HG
        go_upto_region 10 with (fail)
        go_cut [11, 12, 13] (fun v11 v12 v13 wc => ∃ (g11 : Nat) (A0' : Option Addr) (c0' : Nat) (A1' : Option Addr) (c1' : Nat) (A2' : Option Addr) (c2' : Nat), v11 = .pointer (some ⟨g11, 0, none⟩) ∧ v12 = .slice A2' r3.length c2' ∧ v13 = .int .i64 r4 ∧ Aside0 (wc.heap[g11]? = some (.cells #[.slice A0' r1.length c0', .slice A1' r2.length c1'] 26 (0, 0))) ∧ Aside0 (Sp w wc (fun k => k ≠ g7 ∧ k ≠ bm) g7 bm A0 c0 a A1 c1 b vs ps) ∧ Aside0 (Rs wc (fun k => k ≠ g7 ∧ k ≠ bm) A0' c0' r1 A1' c1' r2 A2' c2' r3))
        case first =>
          clear hse
          refine start_ (n := 22) (S := (heldP g7 bm A0 c0 a.length A1 c1 b.length (ad.add i) s vs)) (ds := []) #[false, false, false, false, false, false, false, false, false, false, false, false, false, false, false, false, false, false, false, false, false, false] (by kernel_rfl) rfl rfl (heldS (HS.out.grow (below_drew1 (Below.refl _ _))) HSE.out) (fun hHeld => ?_); refine with_tabW spanTab spanWaits (fun HT_ HW_ => ?_)
          have n_ := Lib.hid (HS.out.grow (below_drew1 (Below.refl _ _))); clear HS; have HS := n_; clear n_
          generalize wr.drew = wa at HS hHeld ⊢
          refine take_ (i := 0) (N := some 62) (v := ?_) (a' := ?_) #[true, false, false, false, false, false, false, false, false, false, false, false, false, false, false, false, false, false, false, false, false, false] rfl rfl (take_ofW HT_.out HW_.out (by kernel_rfl)) (fun _ _ _ h => h) (Or.inl ⟨by rfl, ?_⟩) hHeld ?_ ?_
          rotate_left
          · rintro w' ⟨h0, h1, h2, h3⟩
            go_simp
            with_reducible rfl
          rotate_left
          · simp only [Act.put, List.setIfInBounds_toArray, List.set_cons_zero, List.set_cons_succ, i64_w, i32_w]
            rfl
          refine pure_ (i := 1) (N := some 63) (v := ?_) (a' := ?_) #[true, true, false, false, false, false, false, false, false, false, false, false, false, false, false, false, false, false, false, false, false, false] rfl rfl (any_of HT_.out (by kernel_rfl)) (fun _ _ _ h => h) (Or.inl ⟨by rfl, ?_⟩) ?_ ?_
          rotate_left
          · intro w'
            go_simp
            with_reducible rfl
          rotate_left
          · simp only [Act.put, List.setIfInBounds_toArray, List.set_cons_zero, List.set_cons_succ, i64_w, i32_w]
            rfl
          refine take_ (i := 2) (N := some 64) (v := ?_) (a' := ?_) #[true, true, true, false, false, false, false, false, false, false, false, false, false, false, false, false, false, false, false, false, false, false] rfl rfl (take_ofW HT_.out HW_.out (by kernel_rfl)) (fun _ _ _ h => h) (Or.inl ⟨by rfl, ?_⟩) hHeld ?_ ?_
          rotate_left
          · rintro w' ⟨h0, h1, h2, h3⟩
            go_simp
            with_reducible rfl
          rotate_left
          · simp only [Act.put, List.setIfInBounds_toArray, List.set_cons_zero, List.set_cons_succ, i64_w, i32_w]
            rfl
          refine pure_ (i := 3) (N := some 65) (v := ?_) (a' := ?_) #[true, true, true, true, false, false, false, false, false, false, false, false, false, false, false, false, false, false, false, false, false, false] rfl rfl (any_of HT_.out (by kernel_rfl)) (fun _ _ _ h => h) (Or.inl ⟨by rfl, ?_⟩) ?_ ?_
          rotate_left
          · intro w'
            go_simp
            with_reducible rfl
          rotate_left
          · simp only [Act.put, List.setIfInBounds_toArray, List.set_cons_zero, List.set_cons_succ, i64_w, i32_w]
            rfl
          refine pure_ (i := 4) (N := some 66) (v := ?_) (a' := ?_) #[true, true, true, true, true, false, false, false, false, false, false, false, false, false, false, false, false, false, false, false, false, false] rfl rfl (any_of HT_.out (by kernel_rfl)) (fun _ _ _ h => h) (Or.inl ⟨by rfl, ?_⟩) ?_ ?_
          rotate_left
          · intro w'
            go_simp
            with_reducible rfl
          rotate_left
          · simp only [Act.put, List.setIfInBounds_toArray, List.set_cons_zero, List.set_cons_succ, i64_w, i32_w]
            rfl
          refine pure_ (i := 5) (N := some 67) (v := ?_) (a' := ?_) #[true, true, true, true, true, true, false, false, false, false, false, false, false, false, false, false, false, false, false, false, false, false] rfl rfl (any_of HT_.out (by kernel_rfl)) (fun _ _ _ h => h) (Or.inl ⟨by rfl, ?_⟩) ?_ ?_
          rotate_left
          · intro w'
            go_simp
            with_reducible rfl
          rotate_left
          · simp only [Act.put, List.setIfInBounds_toArray, List.set_cons_zero, List.set_cons_succ, i64_w, i32_w]
            rfl
          refine take_ (i := 6) (N := some 68) (v := ?_) (a' := ?_) #[true, true, true, true, true, true, true, false, false, false, false, false, false, false, false, false, false, false, false, false, false, false] rfl rfl (take_ofW HT_.out HW_.out (by kernel_rfl)) (fun _ _ _ h => h) (Or.inl ⟨by rfl, ?_⟩) hHeld ?_ ?_
          rotate_left
          · rintro w' ⟨h0, h1, h2, h3⟩
            go_simp
            with_reducible rfl
          rotate_left
          · simp only [Act.put, List.setIfInBounds_toArray, List.set_cons_zero, List.set_cons_succ, i64_w, i32_w]
            rfl
          refine pure_ (i := 9) (N := some 71) (v := ?_) (a' := ?_) #[true, true, true, true, true, true, true, false, false, true, false, false, false, false, false, false, false, false, false, false, false, false] rfl rfl (any_of HT_.out (by kernel_rfl)) (fun _ _ _ h => h) (Or.inl ⟨by rfl, ?_⟩) ?_ ?_
          rotate_left
          · intro w'
            go_simp
            with_reducible rfl
          rotate_left
          · simp only [Act.put, List.setIfInBounds_toArray, List.set_cons_zero, List.set_cons_succ, i64_w, i32_w]
            rfl
          refine pure_ (i := 10) (N := some 72) (v := ?_) (a' := ?_) #[true, true, true, true, true, true, true, false, false, true, true, false, false, false, false, false, false, false, false, false, false, false] rfl rfl (any_of HT_.out (by kernel_rfl)) (fun _ _ _ h => h) (Or.inl ⟨by rfl, ?_⟩) ?_ ?_
          rotate_left
          · intro w'
            go_simp
            with_reducible rfl
          rotate_left
          · simp only [Act.put, List.setIfInBounds_toArray, List.set_cons_zero, List.set_cons_succ, i64_w, i32_w]
            rfl
          refine pure_ (i := 11) (N := some 73) (v := ?_) (a' := ?_) #[true, true, true, true, true, true, true, false, false, true, true, true, false, false, false, false, false, false, false, false, false, false] rfl rfl (any_of HT_.out (by kernel_rfl)) (fun _ _ _ h => h) (Or.inl ⟨by rfl, ?_⟩) ?_ ?_
          rotate_left
          · intro w'
            go_simp
            with_reducible rfl
          rotate_left
          · simp only [Act.put, List.setIfInBounds_toArray, List.set_cons_zero, List.set_cons_succ, i64_w, i32_w]
            rfl
          refine take_ (i := 12) (N := some 74) (v := ?_) (a' := ?_) #[true, true, true, true, true, true, true, false, false, true, true, true, true, false, false, false, false, false, false, false, false, false] rfl rfl (take_ofW HT_.out HW_.out (by kernel_rfl)) (fun _ _ _ h => h) (Or.inl ⟨by rfl, ?_⟩) hHeld ?_ ?_
          rotate_left
          · rintro w' ⟨h0, h1, h2, h3⟩
            go_simp
            with_reducible rfl
          rotate_left
          · simp only [Act.put, List.setIfInBounds_toArray, List.set_cons_zero, List.set_cons_succ, i64_w, i32_w]
            rfl
          refine two_ (i := 7) (j := 18) (Ni := (some 69)) (Nj := (some 11)) #[true, true, true, true, true, true, true, true, false, true, true, true, true, false, false, false, false, false, false, false, false, false] #[true, true, true, true, true, true, true, false, false, true, true, true, true, false, false, false, false, false, true, false, false, false] rfl rfl rfl rfl (two_of HT_.out (by kernel_rfl)) (by decide) (by decide) (fun K hK => ?_) (fun K hK => ?_)
          · refine goes_ Try.func12 (by kernel_rfl) rfl #[.agg #[.slice A0 a.length c0, .slice A1 b.length c1], .string s] (by rfl) rfl rfl (by (try simp only [List.map_toArray, List.map_cons, List.map_nil]); first | done | rfl) ?_
            with_reducible refine (leaf_Find.calls k _ _ a _ _ b s no _ (Kd.F_now HS.out.f0) HS.out.h0 (Kd.F_now HS.out.f1) HS.out.h1 HFD.out).mono ?_
            rintro e wb ⟨rfl, hb⟩
            refine ⟨_, rfl, ?_⟩
            have n_ := Lib.hid (HS.out.grow hb); clear HS; have HS := n_; clear n_
            clear hb
            refine hK.out _ _ (heldS HS.out HSE.out) (fun hHeld => ?_)
            clear hK K
            refine norm_ (a' := ?_) ?_ ?_
            rotate_left
            · show Act.put _ (some 69) _ = _
              simp only [Act.put, List.setIfInBounds_toArray, List.set_cons_zero, List.set_cons_succ, i64_w, i32_w]
              rfl
            refine take_ (i := 8) (N := (some 70)) (v := ?_) (a' := ?_) #[true, true, true, true, true, true, true, true, true, true, true, true, true, false, false, false, false, false, false, false, false, false] rfl rfl (take_ofW HT_.out HW_.out (by kernel_rfl)) (fun _ _ _ h => h) (Or.inl ⟨by rfl, ?_⟩) hHeld ?_ ?_
            rotate_left
            · rintro w' ⟨h0, h1, h2, h3⟩
              have hlk := h3.run_lookup Try.underlying31 Try.underlying3 (zero28 w') no false
              rw [HLK.out] at hlk
              go_simp
              with_reducible rfl
            rotate_left
            · simp only [Act.put, List.setIfInBounds_toArray, List.set_cons_zero, List.set_cons_succ, i64_w, i32_w]
              rfl
            refine two_ (i := 13) (j := 18) (Ni := (some 75)) (Nj := (some 11)) #[true, true, true, true, true, true, true, true, true, true, true, true, true, true, false, false, false, false, false, false, false, false] #[true, true, true, true, true, true, true, true, true, true, true, true, true, false, false, false, false, false, true, false, false, false] rfl rfl rfl rfl (two_of HT_.out (by kernel_rfl)) (by decide) (by decide) (fun K hK => ?_) (fun K hK => ?_)
            · refine goes_ Try.func11 (by kernel_rfl) rfl #[.agg #[.slice A0 a.length c0, .slice A1 b.length c1], .agg #[.int .i64 lf.f0, .slice A9 lf.f1.length c9, .bool lf.f2], .string s] (by rfl) rfl rfl (by (try simp only [List.map_toArray, List.map_cons, List.map_nil]); first | done | rfl) ?_
              with_reducible refine (leaf_Insert.calls _ c0 a _ c1 b lf.f0 _ c9 lf.f1 lf.f2 s r1 r2 r3 r4 _ (Kd.F_now HS.out.f0) HS.out.h0 (Kd.F_now HS.out.f1) HS.out.h1 (leaf_now HS.out.av HK.out HLK.out) HL9.out HIN.out).mono ?_
              rintro e wb ⟨v0', v1', v2', rfl, hq0, hq1, hq2, hb⟩
              refine ⟨_, rfl, ?_⟩
              obtain ⟨A0', c0', rfl⟩ := Kd.R_slice hq0; obtain ⟨A1', c1', rfl⟩ := Kd.R_slice hq1; obtain ⟨A2', c2', rfl⟩ := Kd.N_slice hq2
              have HQ := Lib.hid (Rs.fresh (ok' := fun k => k ≠ g7 ∧ k ≠ bm) hq0 hq1 hq2 (fun k hk => hk.1) (fun k hk => ⟨by have := HS.out.lt7; omega, by have := HS.out.ltm; omega⟩))
              have n_ := Lib.hid (HS.out.grow hb); clear HS; have HS := n_; clear n_
              clear hq0 hq1 hq2 hb
              refine hK.out _ _ (heldS HS.out HSE.out) (fun hHeld => ?_)
              clear hK K
              refine norm_ (a' := ?_) ?_ ?_
              rotate_left
              · show Act.put _ (some 75) _ = _
                simp only [Act.put, List.setIfInBounds_toArray, List.set_cons_zero, List.set_cons_succ, i64_w, i32_w]
                rfl
              refine pure_ (i := 14) (N := some 61) (v := ?_) (a' := ?_) #[true, true, true, true, true, true, true, true, true, true, true, true, true, true, true, false, false, false, false, false, false, false] rfl rfl (any_of HT_.out (by kernel_rfl)) (fun _ _ _ h => h) (Or.inl ⟨by rfl, ?_⟩) ?_ ?_
              rotate_left
              · intro w'
                go_simp
                with_reducible rfl
              rotate_left
              · simp only [Act.put, List.setIfInBounds_toArray, List.set_cons_zero, List.set_cons_succ, i64_w, i32_w]
                rfl
              refine pure_ (i := 15) (N := some 76) (v := ?_) (a' := ?_) #[true, true, true, true, true, true, true, true, true, true, true, true, true, true, true, true, false, false, false, false, false, false] rfl rfl (any_of HT_.out (by kernel_rfl)) (fun _ _ _ h => h) (Or.inl ⟨by rfl, ?_⟩) ?_ ?_
              rotate_left
              · intro w'
                go_simp
                with_reducible rfl
              rotate_left
              · simp only [Act.put, List.setIfInBounds_toArray, List.set_cons_zero, List.set_cons_succ, i64_w, i32_w]
                rfl
              refine pure_ (i := 16) (N := some 77) (v := ?_) (a' := ?_) #[true, true, true, true, true, true, true, true, true, true, true, true, true, true, true, true, true, false, false, false, false, false] rfl rfl (any_of HT_.out (by kernel_rfl)) (fun _ _ _ h => h) (Or.inl ⟨by rfl, ?_⟩) ?_ ?_
              rotate_left
              · intro w'
                go_simp
                with_reducible rfl
              rotate_left
              · simp only [Act.put, List.setIfInBounds_toArray, List.set_cons_zero, List.set_cons_succ, i64_w, i32_w]
                rfl
              refine pure_ (i := 17) (N := some 78) (v := ?_) (a' := ?_) #[true, true, true, true, true, true, true, true, true, true, true, true, true, true, true, true, true, true, false, false, false, false] rfl rfl (any_of HT_.out (by kernel_rfl)) (fun _ _ _ h => h) (Or.inl ⟨by rfl, ?_⟩) ?_ ?_
              rotate_left
              · intro w'
                go_simp
                with_reducible rfl
              rotate_left
              · simp only [Act.put, List.setIfInBounds_toArray, List.set_cons_zero, List.set_cons_succ, i64_w, i32_w]
                rfl
              refine one_ (i := 18) (N := (some 11)) #[true, true, true, true, true, true, true, true, true, true, true, true, true, true, true, true, true, true, true, false, false, false] rfl rfl (one_of HT_.out (by kernel_rfl)) (by decide) (fun K hK => ?_)
              refine alloc_step (by rfl) (fun g => .pointer (some ⟨g, 0, none⟩)) (.cells #[.slice none 0 0, .slice none 0 0] 26 (0, 0)) ?hr ?_
              (case hr => first | (go_simp; done) | (go_simp; rfl))
              intro g11 hg wn hbox hb
              have HQA := Lib.hid (Sp.alloc HS.out hg hb); obtain ⟨hs_, ha_, hb_, hc_⟩ := HQA.out; clear HQA HS; have HS := Lib.hid hs_; have HA1 := Lib.hid ha_; have HA2 := Lib.hid hb_; have HA3 := Lib.hid hc_; have HX := Lib.hid hbox; clear hs_ ha_ hb_ hc_
              have n_ := Lib.hid (HQ.out.alloc hg hb); clear HQ; have HQ := n_; clear n_
              clear hg hbox hb
              refine hK.out _ _ (heldS HS.out HSE.out) (fun hHeld => ?_)
              clear hK K
              refine norm_ (a' := ?_) ?_ ?_
              rotate_left
              · show Act.put _ (some 11) _ = _
                simp only [Act.put, List.setIfInBounds_toArray, List.set_cons_zero, List.set_cons_succ, i64_w, i32_w]
                rfl
              refine one_ (i := 19) (N := none) #[true, true, true, true, true, true, true, true, true, true, true, true, true, true, true, true, true, true, true, true, false, false] rfl rfl (one_of HT_.out (by kernel_rfl)) (by decide) (fun K hK => ?_)
              refine store_step (by rfl) rfl rfl g11 _ 26 [.slice A0' r1.length c0', .slice A1' r2.length c1'] rfl (.agg #[.slice A0' r1.length c0', .slice A1' r2.length c1']) ?haS ?hbS HX.out rfl (by kernel_rfl) (two26 A0' r1.length c0' A1' r2.length c1') ?_
              (case haS => rfl)
              (case hbS => first | rfl | simp [Value.cells])
              intro wn hbox hg hz
              have n_ := Lib.hid (HS.out.far hg (fun k hk => hk.2) HA1.out HA2.out HA3.out); clear HS; have HS := n_; clear n_
              have n_ := Lib.hid (HQ.out.far hg (fun k hk => hk.2)); clear HQ; have HQ := n_; clear n_
              have n_ := Lib.hid hbox; clear HX; have HX := n_; clear n_ hbox hg hz
              refine hK.out _ _ (heldS HS.out HSE.out) (fun hHeld => ?_)
              clear hK K
              refine pure_ (i := 20) (N := some 12) (v := ?_) (a' := ?_) #[true, true, true, true, true, true, true, true, true, true, true, true, true, true, true, true, true, true, true, true, true, false] rfl rfl (any_of HT_.out (by kernel_rfl)) (fun _ _ _ h => h) (Or.inl ⟨by rfl, ?_⟩) ?_ ?_
              rotate_left
              · intro w'
                go_simp
                with_reducible rfl
              rotate_left
              · simp only [Act.put, List.setIfInBounds_toArray, List.set_cons_zero, List.set_cons_succ, i64_w, i32_w]
                rfl
              refine pure_ (i := 21) (N := some 13) (v := ?_) (a' := ?_) #[true, true, true, true, true, true, true, true, true, true, true, true, true, true, true, true, true, true, true, true, true, true] rfl rfl (any_of HT_.out (by kernel_rfl)) (fun _ _ _ h => h) (Or.inl ⟨by rfl, ?_⟩) ?_ ?_
              rotate_left
              · intro w'
                go_simp
                with_reducible rfl
              rotate_left
              · simp only [Act.put, List.setIfInBounds_toArray, List.set_cons_zero, List.set_cons_succ, i64_w, i32_w]
                rfl
              refine done_ (done_of HT_.out (by kernel_rfl)) ?_
              try go_wp2
              go_meet
              exact ⟨g11, A0', c0', A1', c1', A2', c2', rfl, rfl, rfl, ⟨HX.out⟩, ⟨HS.out.weak (fun k hk => hk.1) (fun k hk => hk.1) (fun k hk => hk.2)⟩, ⟨HQ.out.mono (fun k hk => hk.1)⟩⟩
            · refine alloc_step (by rfl) (fun g => .pointer (some ⟨g, 0, none⟩)) (.cells #[.slice none 0 0, .slice none 0 0] 26 (0, 0)) ?hr ?_
              (case hr => first | (go_simp; done) | (go_simp; rfl))
              intro g11 hg wn hbox hb
              have HQA := Lib.hid (Sp.alloc HS.out hg hb); obtain ⟨hs_, ha_, hb_, hc_⟩ := HQA.out; clear HQA HS; have HS := Lib.hid hs_; have HA1 := Lib.hid ha_; have HA2 := Lib.hid hb_; have HA3 := Lib.hid hc_; have HX := Lib.hid hbox; clear hs_ ha_ hb_ hc_
              clear hg hbox hb
              refine hK.out _ _ (heldS HS.out HSE.out) (fun hHeld => ?_)
              clear hK K
              refine norm_ (a' := ?_) ?_ ?_
              rotate_left
              · show Act.put _ (some 11) _ = _
                simp only [Act.put, List.setIfInBounds_toArray, List.set_cons_zero, List.set_cons_succ, i64_w, i32_w]
                rfl
              refine one_ (i := 13) (N := (some 75)) #[true, true, true, true, true, true, true, true, true, true, true, true, true, true, false, false, false, false, true, false, false, false] rfl rfl (one_of HT_.out (by kernel_rfl)) (by decide) (fun K hK => ?_)
              refine goes_ Try.func11 (by kernel_rfl) rfl #[.agg #[.slice A0 a.length c0, .slice A1 b.length c1], .agg #[.int .i64 lf.f0, .slice A9 lf.f1.length c9, .bool lf.f2], .string s] (by rfl) rfl rfl (by (try simp only [List.map_toArray, List.map_cons, List.map_nil]); first | done | rfl) ?_
              with_reducible refine (leaf_Insert.calls _ c0 a _ c1 b lf.f0 _ c9 lf.f1 lf.f2 s r1 r2 r3 r4 _ (Kd.F_now HS.out.f0) HS.out.h0 (Kd.F_now HS.out.f1) HS.out.h1 (leaf_now HS.out.av HK.out HLK.out) HL9.out HIN.out).mono ?_
              rintro e wb ⟨v0', v1', v2', rfl, hq0, hq1, hq2, hb⟩
              refine ⟨_, rfl, ?_⟩
              obtain ⟨A0', c0', rfl⟩ := Kd.R_slice hq0; obtain ⟨A1', c1', rfl⟩ := Kd.R_slice hq1; obtain ⟨A2', c2', rfl⟩ := Kd.N_slice hq2
              have HQ := Lib.hid (Rs.fresh (ok' := fun k => (k ≠ g7 ∧ k ≠ bm) ∧ k ≠ g11) hq0 hq1 hq2 (fun k hk => hk.1) (fun k hk => ⟨⟨by have := HS.out.lt7; omega, by have := HS.out.ltm; omega⟩, by have := blk_lt HX.out; omega⟩))
              have n_ := Lib.hid (HS.out.grow hb); clear HS; have HS := n_; clear n_
              have n_ := Lib.hid (blk_below HX.out hb); clear HX; have HX := n_; clear n_
              clear hq0 hq1 hq2 hb
              refine hK.out _ _ (heldS HS.out HSE.out) (fun hHeld => ?_)
              clear hK K
              refine norm_ (a' := ?_) ?_ ?_
              rotate_left
              · show Act.put _ (some 75) _ = _
                simp only [Act.put, List.setIfInBounds_toArray, List.set_cons_zero, List.set_cons_succ, i64_w, i32_w]
                rfl
              refine pure_ (i := 14) (N := some 61) (v := ?_) (a' := ?_) #[true, true, true, true, true, true, true, true, true, true, true, true, true, true, true, false, false, false, true, false, false, false] rfl rfl (any_of HT_.out (by kernel_rfl)) (fun _ _ _ h => h) (Or.inl ⟨by rfl, ?_⟩) ?_ ?_
              rotate_left
              · intro w'
                go_simp
                with_reducible rfl
              rotate_left
              · simp only [Act.put, List.setIfInBounds_toArray, List.set_cons_zero, List.set_cons_succ, i64_w, i32_w]
                rfl
              refine pure_ (i := 15) (N := some 76) (v := ?_) (a' := ?_) #[true, true, true, true, true, true, true, true, true, true, true, true, true, true, true, true, false, false, true, false, false, false] rfl rfl (any_of HT_.out (by kernel_rfl)) (fun _ _ _ h => h) (Or.inl ⟨by rfl, ?_⟩) ?_ ?_
              rotate_left
              · intro w'
                go_simp
                with_reducible rfl
              rotate_left
              · simp only [Act.put, List.setIfInBounds_toArray, List.set_cons_zero, List.set_cons_succ, i64_w, i32_w]
                rfl
              refine pure_ (i := 16) (N := some 77) (v := ?_) (a' := ?_) #[true, true, true, true, true, true, true, true, true, true, true, true, true, true, true, true, true, false, true, false, false, false] rfl rfl (any_of HT_.out (by kernel_rfl)) (fun _ _ _ h => h) (Or.inl ⟨by rfl, ?_⟩) ?_ ?_
              rotate_left
              · intro w'
                go_simp
                with_reducible rfl
              rotate_left
              · simp only [Act.put, List.setIfInBounds_toArray, List.set_cons_zero, List.set_cons_succ, i64_w, i32_w]
                rfl
              refine pure_ (i := 17) (N := some 78) (v := ?_) (a' := ?_) #[true, true, true, true, true, true, true, true, true, true, true, true, true, true, true, true, true, true, true, false, false, false] rfl rfl (any_of HT_.out (by kernel_rfl)) (fun _ _ _ h => h) (Or.inl ⟨by rfl, ?_⟩) ?_ ?_
              rotate_left
              · intro w'
                go_simp
                with_reducible rfl
              rotate_left
              · simp only [Act.put, List.setIfInBounds_toArray, List.set_cons_zero, List.set_cons_succ, i64_w, i32_w]
                rfl
              refine one_ (i := 19) (N := none) #[true, true, true, true, true, true, true, true, true, true, true, true, true, true, true, true, true, true, true, true, false, false] rfl rfl (one_of HT_.out (by kernel_rfl)) (by decide) (fun K hK => ?_)
              refine store_step (by rfl) rfl rfl g11 _ 26 [.slice A0' r1.length c0', .slice A1' r2.length c1'] rfl (.agg #[.slice A0' r1.length c0', .slice A1' r2.length c1']) ?haS ?hbS HX.out rfl (by kernel_rfl) (two26 A0' r1.length c0' A1' r2.length c1') ?_
              (case haS => rfl)
              (case hbS => first | rfl | simp [Value.cells])
              intro wn hbox hg hz
              have n_ := Lib.hid (HS.out.far hg (fun k hk => hk.2) HA1.out HA2.out HA3.out); clear HS; have HS := n_; clear n_
              have n_ := Lib.hid (HQ.out.far hg (fun k hk => hk.2)); clear HQ; have HQ := n_; clear n_
              have n_ := Lib.hid hbox; clear HX; have HX := n_; clear n_ hbox hg hz
              refine hK.out _ _ (heldS HS.out HSE.out) (fun hHeld => ?_)
              clear hK K
              refine pure_ (i := 20) (N := some 12) (v := ?_) (a' := ?_) #[true, true, true, true, true, true, true, true, true, true, true, true, true, true, true, true, true, true, true, true, true, false] rfl rfl (any_of HT_.out (by kernel_rfl)) (fun _ _ _ h => h) (Or.inl ⟨by rfl, ?_⟩) ?_ ?_
              rotate_left
              · intro w'
                go_simp
                with_reducible rfl
              rotate_left
              · simp only [Act.put, List.setIfInBounds_toArray, List.set_cons_zero, List.set_cons_succ, i64_w, i32_w]
                rfl
              refine pure_ (i := 21) (N := some 13) (v := ?_) (a' := ?_) #[true, true, true, true, true, true, true, true, true, true, true, true, true, true, true, true, true, true, true, true, true, true] rfl rfl (any_of HT_.out (by kernel_rfl)) (fun _ _ _ h => h) (Or.inl ⟨by rfl, ?_⟩) ?_ ?_
              rotate_left
              · intro w'
                go_simp
                with_reducible rfl
              rotate_left
              · simp only [Act.put, List.setIfInBounds_toArray, List.set_cons_zero, List.set_cons_succ, i64_w, i32_w]
                rfl
              refine done_ (done_of HT_.out (by kernel_rfl)) ?_
              try go_wp2
              go_meet
              exact ⟨g11, A0', c0', A1', c1', A2', c2', rfl, rfl, rfl, ⟨HX.out⟩, ⟨HS.out.weak (fun k hk => hk.1) (fun k hk => hk.1) (fun k hk => hk.2)⟩, ⟨HQ.out.mono (fun k hk => hk.1)⟩⟩
          · refine alloc_step (by rfl) (fun g => .pointer (some ⟨g, 0, none⟩)) (.cells #[.slice none 0 0, .slice none 0 0] 26 (0, 0)) ?hr ?_
            (case hr => first | (go_simp; done) | (go_simp; rfl))
            intro g11 hg wn hbox hb
            have HQA := Lib.hid (Sp.alloc HS.out hg hb); obtain ⟨hs_, ha_, hb_, hc_⟩ := HQA.out; clear HQA HS; have HS := Lib.hid hs_; have HA1 := Lib.hid ha_; have HA2 := Lib.hid hb_; have HA3 := Lib.hid hc_; have HX := Lib.hid hbox; clear hs_ ha_ hb_ hc_
            clear hg hbox hb
            refine hK.out _ _ (heldS HS.out HSE.out) (fun hHeld => ?_)
            clear hK K
            refine norm_ (a' := ?_) ?_ ?_
            rotate_left
            · show Act.put _ (some 11) _ = _
              simp only [Act.put, List.setIfInBounds_toArray, List.set_cons_zero, List.set_cons_succ, i64_w, i32_w]
              rfl
            refine one_ (i := 7) (N := (some 69)) #[true, true, true, true, true, true, true, true, false, true, true, true, true, false, false, false, false, false, true, false, false, false] rfl rfl (one_of HT_.out (by kernel_rfl)) (by decide) (fun K hK => ?_)
            refine goes_ Try.func12 (by kernel_rfl) rfl #[.agg #[.slice A0 a.length c0, .slice A1 b.length c1], .string s] (by rfl) rfl rfl (by (try simp only [List.map_toArray, List.map_cons, List.map_nil]); first | done | rfl) ?_
            with_reducible refine (leaf_Find.calls k _ _ a _ _ b s no _ (Kd.F_now HS.out.f0) HS.out.h0 (Kd.F_now HS.out.f1) HS.out.h1 HFD.out).mono ?_
            rintro e wb ⟨rfl, hb⟩
            refine ⟨_, rfl, ?_⟩
            have n_ := Lib.hid (HS.out.grow hb); clear HS; have HS := n_; clear n_
            have n_ := Lib.hid (blk_below HX.out hb); clear HX; have HX := n_; clear n_
            clear hb
            refine hK.out _ _ (heldS HS.out HSE.out) (fun hHeld => ?_)
            clear hK K
            refine norm_ (a' := ?_) ?_ ?_
            rotate_left
            · show Act.put _ (some 69) _ = _
              simp only [Act.put, List.setIfInBounds_toArray, List.set_cons_zero, List.set_cons_succ, i64_w, i32_w]
              rfl
            refine take_ (i := 8) (N := (some 70)) (v := ?_) (a' := ?_) #[true, true, true, true, true, true, true, true, true, true, true, true, true, false, false, false, false, false, true, false, false, false] rfl rfl (take_ofW HT_.out HW_.out (by kernel_rfl)) (fun _ _ _ h => h) (Or.inl ⟨by rfl, ?_⟩) hHeld ?_ ?_
            rotate_left
            · rintro w' ⟨h0, h1, h2, h3⟩
              have hlk := h3.run_lookup Try.underlying31 Try.underlying3 (zero28 w') no false
              rw [HLK.out] at hlk
              go_simp
              with_reducible rfl
            rotate_left
            · simp only [Act.put, List.setIfInBounds_toArray, List.set_cons_zero, List.set_cons_succ, i64_w, i32_w]
              rfl
            refine one_ (i := 13) (N := (some 75)) #[true, true, true, true, true, true, true, true, true, true, true, true, true, true, false, false, false, false, true, false, false, false] rfl rfl (one_of HT_.out (by kernel_rfl)) (by decide) (fun K hK => ?_)
            refine goes_ Try.func11 (by kernel_rfl) rfl #[.agg #[.slice A0 a.length c0, .slice A1 b.length c1], .agg #[.int .i64 lf.f0, .slice A9 lf.f1.length c9, .bool lf.f2], .string s] (by rfl) rfl rfl (by (try simp only [List.map_toArray, List.map_cons, List.map_nil]); first | done | rfl) ?_
            with_reducible refine (leaf_Insert.calls _ c0 a _ c1 b lf.f0 _ c9 lf.f1 lf.f2 s r1 r2 r3 r4 _ (Kd.F_now HS.out.f0) HS.out.h0 (Kd.F_now HS.out.f1) HS.out.h1 (leaf_now HS.out.av HK.out HLK.out) HL9.out HIN.out).mono ?_
            rintro e wb ⟨v0', v1', v2', rfl, hq0, hq1, hq2, hb⟩
            refine ⟨_, rfl, ?_⟩
            obtain ⟨A0', c0', rfl⟩ := Kd.R_slice hq0; obtain ⟨A1', c1', rfl⟩ := Kd.R_slice hq1; obtain ⟨A2', c2', rfl⟩ := Kd.N_slice hq2
            have HQ := Lib.hid (Rs.fresh (ok' := fun k => (k ≠ g7 ∧ k ≠ bm) ∧ k ≠ g11) hq0 hq1 hq2 (fun k hk => hk.1) (fun k hk => ⟨⟨by have := HS.out.lt7; omega, by have := HS.out.ltm; omega⟩, by have := blk_lt HX.out; omega⟩))
            have n_ := Lib.hid (HS.out.grow hb); clear HS; have HS := n_; clear n_
            have n_ := Lib.hid (blk_below HX.out hb); clear HX; have HX := n_; clear n_
            clear hq0 hq1 hq2 hb
            refine hK.out _ _ (heldS HS.out HSE.out) (fun hHeld => ?_)
            clear hK K
            refine norm_ (a' := ?_) ?_ ?_
            rotate_left
            · show Act.put _ (some 75) _ = _
              simp only [Act.put, List.setIfInBounds_toArray, List.set_cons_zero, List.set_cons_succ, i64_w, i32_w]
              rfl
            refine pure_ (i := 14) (N := some 61) (v := ?_) (a' := ?_) #[true, true, true, true, true, true, true, true, true, true, true, true, true, true, true, false, false, false, true, false, false, false] rfl rfl (any_of HT_.out (by kernel_rfl)) (fun _ _ _ h => h) (Or.inl ⟨by rfl, ?_⟩) ?_ ?_
            rotate_left
            · intro w'
              go_simp
              with_reducible rfl
            rotate_left
            · simp only [Act.put, List.setIfInBounds_toArray, List.set_cons_zero, List.set_cons_succ, i64_w, i32_w]
              rfl
            refine pure_ (i := 15) (N := some 76) (v := ?_) (a' := ?_) #[true, true, true, true, true, true, true, true, true, true, true, true, true, true, true, true, false, false, true, false, false, false] rfl rfl (any_of HT_.out (by kernel_rfl)) (fun _ _ _ h => h) (Or.inl ⟨by rfl, ?_⟩) ?_ ?_
            rotate_left
            · intro w'
              go_simp
              with_reducible rfl
            rotate_left
            · simp only [Act.put, List.setIfInBounds_toArray, List.set_cons_zero, List.set_cons_succ, i64_w, i32_w]
              rfl
            refine pure_ (i := 16) (N := some 77) (v := ?_) (a' := ?_) #[true, true, true, true, true, true, true, true, true, true, true, true, true, true, true, true, true, false, true, false, false, false] rfl rfl (any_of HT_.out (by kernel_rfl)) (fun _ _ _ h => h) (Or.inl ⟨by rfl, ?_⟩) ?_ ?_
            rotate_left
            · intro w'
              go_simp
              with_reducible rfl
            rotate_left
            · simp only [Act.put, List.setIfInBounds_toArray, List.set_cons_zero, List.set_cons_succ, i64_w, i32_w]
              rfl
            refine pure_ (i := 17) (N := some 78) (v := ?_) (a' := ?_) #[true, true, true, true, true, true, true, true, true, true, true, true, true, true, true, true, true, true, true, false, false, false] rfl rfl (any_of HT_.out (by kernel_rfl)) (fun _ _ _ h => h) (Or.inl ⟨by rfl, ?_⟩) ?_ ?_
            rotate_left
            · intro w'
              go_simp
              with_reducible rfl
            rotate_left
            · simp only [Act.put, List.setIfInBounds_toArray, List.set_cons_zero, List.set_cons_succ, i64_w, i32_w]
              rfl
            refine one_ (i := 19) (N := none) #[true, true, true, true, true, true, true, true, true, true, true, true, true, true, true, true, true, true, true, true, false, false] rfl rfl (one_of HT_.out (by kernel_rfl)) (by decide) (fun K hK => ?_)
            refine store_step (by rfl) rfl rfl g11 _ 26 [.slice A0' r1.length c0', .slice A1' r2.length c1'] rfl (.agg #[.slice A0' r1.length c0', .slice A1' r2.length c1']) ?haS ?hbS HX.out rfl (by kernel_rfl) (two26 A0' r1.length c0' A1' r2.length c1') ?_
            (case haS => rfl)
            (case hbS => first | rfl | simp [Value.cells])
            intro wn hbox hg hz
            have n_ := Lib.hid (HS.out.far hg (fun k hk => hk.2) HA1.out HA2.out HA3.out); clear HS; have HS := n_; clear n_
            have n_ := Lib.hid (HQ.out.far hg (fun k hk => hk.2)); clear HQ; have HQ := n_; clear n_
            have n_ := Lib.hid hbox; clear HX; have HX := n_; clear n_ hbox hg hz
            refine hK.out _ _ (heldS HS.out HSE.out) (fun hHeld => ?_)
            clear hK K
            refine pure_ (i := 20) (N := some 12) (v := ?_) (a' := ?_) #[true, true, true, true, true, true, true, true, true, true, true, true, true, true, true, true, true, true, true, true, true, false] rfl rfl (any_of HT_.out (by kernel_rfl)) (fun _ _ _ h => h) (Or.inl ⟨by rfl, ?_⟩) ?_ ?_
            rotate_left
            · intro w'
              go_simp
              with_reducible rfl
            rotate_left
            · simp only [Act.put, List.setIfInBounds_toArray, List.set_cons_zero, List.set_cons_succ, i64_w, i32_w]
              rfl
            refine pure_ (i := 21) (N := some 13) (v := ?_) (a' := ?_) #[true, true, true, true, true, true, true, true, true, true, true, true, true, true, true, true, true, true, true, true, true, true] rfl rfl (any_of HT_.out (by kernel_rfl)) (fun _ _ _ h => h) (Or.inl ⟨by rfl, ?_⟩) ?_ ?_
            rotate_left
            · intro w'
              go_simp
              with_reducible rfl
            rotate_left
            · simp only [Act.put, List.setIfInBounds_toArray, List.set_cons_zero, List.set_cons_succ, i64_w, i32_w]
              rfl
            refine done_ (done_of HT_.out (by kernel_rfl)) ?_
            try go_wp2
            go_meet
            exact ⟨g11, A0', c0', A1', c1', A2', c2', rfl, rfl, rfl, ⟨HX.out⟩, ⟨HS.out.weak (fun k hk => hk.1) (fun k hk => hk.1) (fun k hk => hk.2)⟩, ⟨HQ.out.mono (fun k hk => hk.1)⟩⟩
        case rest =>
          clear HS HFD HK HIN HLK HL9 hi0 hi1 HSE hs1 hs2
          obtain ⟨g11, A0', c0', A1', c1', A2', c2', rfl, rfl, rfl, HX, HS, HQ⟩ := hcut
          rcases HR4.out with ⟨e4, hgo⟩ | ⟨e4, hgo⟩
          · subst e4
            have HGo2 := Lib.hid hgo
            clear hgo HR4 HGo
            go_wp2
            go_roundg (es.length - (i + 1))
            case measure => have := HD.out; omega
            case rel => exact ⟨i + 1, A0, c0, a, A1, c1, b, vs, ps, by go_num, by omega, ⟨rfl⟩, ⟨HGo2.out⟩, ⟨HS.out⟩⟩
          · subst e4
            have HGo2 := Lib.hid hgo
            clear hgo HR4 HGo
            have q0 : wc.cell? ⟨g11, 0, none⟩ = some (.slice A0' r1.length c0') := (blk_cell HX.out 0).trans rfl
            have q1 : wc.cell? ⟨g11, 1, none⟩ = some (.slice A1' r2.length c1') := (blk_cell HX.out 1).trans rfl
            go_wp2_with (first | ((with_reducible refine gate_store (t := 26) (p := 7) rfl ?_); refine store_row rfl rfl rfl g7 _ 26 [.slice A0' r1.length c0', .slice A1' r2.length c1'] rfl (.agg #[.slice A0' r1.length c0', .slice A1' r2.length c1']) ?haA ?hbA HS.out.x7 rfl (by kernel_rfl) (two26 A0' r1.length c0' A1' r2.length c1') ?_; (case haA => rfl); (case hbA => first | rfl | simp [Value.cells]); intro w5 hbox hg hz; have n_ := Lib.hid (HS.out.root hbox hg HQ.out.f0 HQ.out.h0 HQ.out.f1 HQ.out.h1); clear HS; have HS := n_; clear n_; have n_ := Lib.hid (HQ.out.far hg (fun k hk => hk.1)); clear HQ; have HQ := n_; clear n_ hbox hg hz q0 q1 HX; refine Hold.go ?_))
            have HL := Lib.hid HQ.out.f2
            have HL2 := Lib.hid HQ.out.h2
            clear HQ
            refine Hold.of ?_
            go_wp2
            go_loopg [14] r3.length (fun d v14 w' => ∃ (j : Nat) (vs : List (Int × Value)) (qs : List (Int × S28)), v14 = .int .i64 j ∧ j ≤ r3.length ∧ Aside0 (d = r3.length - j) ∧ Aside0 (layP qs (r3.drop j) = layP ps r3) ∧ Aside0 (Sp w w' (fun k => k ≠ g7 ∧ k ≠ bm) g7 bm A0' c0' r1 A1' c1' r2 vs qs) ∧ Aside0 (Kd.F k28 w' (fun k => k ≠ g7 ∧ k ≠ bm) A2' r3.length r3))
            case atStart => exact ⟨0, vs, ps, rfl, Nat.zero_le _, ⟨rfl⟩, ⟨rfl⟩, ⟨HS.out⟩, ⟨HL.out⟩⟩
            case round =>
              clear HS HL
              obtain ⟨j, vs, qs, rfl, hj, HDj, HT, HS, HL⟩ := hrel
              by_cases hjl : j < r3.length
              · have hT := HT.out
                rw [drop_28 hjl] at hT
                obtain ⟨ad2, A9, c9, rfl, hx0, hx1, hx2, hl9, hf9⟩ := leaf_of HL.out j hjl
                generalize rd_T28 r3 (j : Int) = lf at *
                have HT2 := Lib.hid (show layP (putP lf.f0 lf qs) (r3.drop (j + 1)) = layP ps r3 from hT)
                have HLV := Lib.hid (show LeafV wr.drew (fun k => k ≠ g7 ∧ k ≠ bm) lf (.agg #[.int .i64 lf.f0, .slice A9 lf.f1.length c9, .bool lf.f2]) from ⟨A9, c9, rfl, hl9, Kd.F_below hf9 (below_drew1 (Below.refl _ _))⟩)
                have hj0 := eq_true (show (0 : Int) ≤ (j : Int) by omega)
                have hj1 := eq_true (show (j : Int) < (r3.length : Int) by omega)
                clear hT HT hl9 hf9
                go_upto_region 18 with (fail)
                refine start_ (n := 11) (S := (heldL ad2 j A9 c9 lf)) (ds := [10]) #[false, false, false, false, false, false, false, false, false, false, false] (by kernel_rfl) rfl rfl ⟨hx0, hx1, hx2⟩ (fun hHeld => ?_); refine with_tabW spanTab2 spanWaits2 (fun HT_ HW_ => ?_)
                have n_ := Lib.hid (HS.out.grow (below_drew1 (Below.refl _ _))); clear HS; have HS := n_; clear n_
                have n_ := Lib.hid (Kd.F_below HL.out (below_drew1 (Below.refl _ _))); clear HL; have HL := n_; clear n_ hx0 hx1 hx2
                generalize wr.drew = wa at HS HL HLV hHeld ⊢
                refine pure_ (i := 0) (N := some 90) (v := ?_) (a' := ?_) #[true, false, false, false, false, false, false, false, false, false, false] rfl rfl (any_of HT_.out (by kernel_rfl)) (fun _ _ _ h => h) (Or.inl ⟨by rfl, ?_⟩) ?_ ?_
                rotate_left
                · intro w'
                  go_simp
                  with_reducible rfl
                rotate_left
                · simp only [Act.put, List.setIfInBounds_toArray, List.set_cons_zero, List.set_cons_succ, i64_w, i32_w]
                  rfl
                refine pure_ (i := 1) (N := some 91) (v := ?_) (a' := ?_) #[true, true, false, false, false, false, false, false, false, false, false] rfl rfl (any_of HT_.out (by kernel_rfl)) (fun _ _ _ h => h) (Or.inl ⟨by rfl, ?_⟩) ?_ ?_
                rotate_left
                · intro w'
                  go_simp
                  with_reducible rfl
                rotate_left
                · simp only [Act.put, List.setIfInBounds_toArray, List.set_cons_zero, List.set_cons_succ, i64_w, i32_w]
                  rfl
                refine pure_ (i := 2) (N := some 92) (v := ?_) (a' := ?_) #[true, true, true, false, false, false, false, false, false, false, false] rfl rfl (any_of HT_.out (by kernel_rfl)) (fun _ _ _ h => h) (Or.inl ⟨by rfl, ?_⟩) ?_ ?_
                rotate_left
                · intro w'
                  go_simp
                  with_reducible rfl
                rotate_left
                · simp only [Act.put, List.setIfInBounds_toArray, List.set_cons_zero, List.set_cons_succ, i64_w, i32_w]
                  rfl
                refine pure_ (i := 3) (N := some 93) (v := ?_) (a' := ?_) #[true, true, true, true, false, false, false, false, false, false, false] rfl rfl (any_of HT_.out (by kernel_rfl)) (fun _ _ _ h => h) (Or.inl ⟨by rfl, ?_⟩) ?_ ?_
                rotate_left
                · intro w'
                  go_simp
                  with_reducible rfl
                rotate_left
                · simp only [Act.put, List.setIfInBounds_toArray, List.set_cons_zero, List.set_cons_succ, i64_w, i32_w]
                  rfl
                refine pure_ (i := 4) (N := some 94) (v := ?_) (a' := ?_) #[true, true, true, true, true, false, false, false, false, false, false] rfl rfl (any_of HT_.out (by kernel_rfl)) (fun _ _ _ h => h) (Or.inl ⟨by rfl, ?_⟩) ?_ ?_
                rotate_left
                · intro w'
                  go_simp
                  with_reducible rfl
                rotate_left
                · simp only [Act.put, List.setIfInBounds_toArray, List.set_cons_zero, List.set_cons_succ, i64_w, i32_w]
                  rfl
                refine take_ (i := 5) (N := some 95) (v := ?_) (a' := ?_) #[true, true, true, true, true, true, false, false, false, false, false] rfl rfl (take_ofW HT_.out HW_.out (by kernel_rfl)) (fun _ _ _ h => h) (Or.inl ⟨by rfl, ?_⟩) hHeld ?_ ?_
                rotate_left
                · rintro w' ⟨h0, h1, h2⟩
                  go_simp
                  with_reducible rfl
                rotate_left
                · simp only [Act.put, List.setIfInBounds_toArray, List.set_cons_zero, List.set_cons_succ, i64_w, i32_w]
                  rfl
                refine pure_ (i := 6) (N := some 96) (v := ?_) (a' := ?_) #[true, true, true, true, true, true, true, false, false, false, false] rfl rfl (any_of HT_.out (by kernel_rfl)) (fun _ _ _ h => h) (Or.inl ⟨by rfl, ?_⟩) ?_ ?_
                rotate_left
                · intro w'
                  go_simp
                  with_reducible rfl
                rotate_left
                · simp only [Act.put, List.setIfInBounds_toArray, List.set_cons_zero, List.set_cons_succ, i64_w, i32_w]
                  rfl
                refine pure_ (i := 7) (N := some 97) (v := ?_) (a' := ?_) #[true, true, true, true, true, true, true, true, false, false, false] rfl rfl (any_of HT_.out (by kernel_rfl)) (fun _ _ _ h => h) (Or.inl ⟨by rfl, ?_⟩) ?_ ?_
                rotate_left
                · intro w'
                  go_simp
                  with_reducible rfl
                rotate_left
                · simp only [Act.put, List.setIfInBounds_toArray, List.set_cons_zero, List.set_cons_succ, i64_w, i32_w]
                  rfl
                refine pure_ (i := 8) (N := some 98) (v := ?_) (a' := ?_) #[true, true, true, true, true, true, true, true, true, false, false] rfl rfl (any_of HT_.out (by kernel_rfl)) (fun _ _ _ h => h) (Or.inl ⟨by rfl, ?_⟩) ?_ ?_
                rotate_left
                · intro w'
                  go_simp
                  with_reducible rfl
                rotate_left
                · simp only [Act.put, List.setIfInBounds_toArray, List.set_cons_zero, List.set_cons_succ, i64_w, i32_w]
                  rfl
                refine take_ (i := 9) (N := some 99) (v := ?_) (a' := ?_) #[true, true, true, true, true, true, true, true, true, true, false] rfl rfl (take_ofW HT_.out HW_.out (by kernel_rfl)) (fun _ _ _ h => h) (Or.inl ⟨by rfl, ?_⟩) hHeld ?_ ?_
                rotate_left
                · rintro w' ⟨h0, h1, h2⟩
                  go_simp
                  with_reducible rfl
                rotate_left
                · simp only [Act.put, List.setIfInBounds_toArray, List.set_cons_zero, List.set_cons_succ, i64_w, i32_w]
                  rfl
                refine last_ (i := 10) (N := none) #[true, true, true, true, true, true, true, true, true, true, true] rfl rfl (one_of HT_.out (by kernel_rfl)) (by decide) (fun K hK => ?_)
                refine update_step (by rfl) rfl _ _ _ 31 rfl 3 28 Try.underlying31 Try.underlying3 bm vs rfl HS.out.im lf.f0 rfl (.agg #[.int .i64 lf.f0, .slice A9 lf.f1.length c9, .bool lf.f2]) rfl ?_
                intro wn hm hg hz
                have n_ := Lib.hid (HS.out.put (k := lf.f0) HLV.out hm hg); clear HS; have HS := n_; clear n_
                have n_ := Lib.hid (Kd.F_grown HL.out hg (fun k hk e => hk.2 (Option.some.inj e))); clear HL; have HL := n_; clear n_ hm hg hz
                refine hK.out _ _ ?_
                clear hK K
                refine done_ (done_of HT_.out (by kernel_rfl)) ?_
                go_wp2
                go_roundg (r3.length - (j + 1))
                case measure => have := HDj.out; omega
                case rel => exact ⟨j + 1, _, _, inc_int hjl (Kd.F_max HL.out), by omega, ⟨rfl⟩, ⟨HT2.out⟩, ⟨HS.out⟩, ⟨HL.out⟩⟩
              · have hje : j = r3.length := by omega
                subst hje
                have hT := HT.out
                rw [List.drop_length] at hT
                have hqs : qs = layP ps r3 := hT
                subst hqs
                clear hT HT
                go_wp2
                go_roundg (es.length - (i + 1))
                case measure => have := HD.out; omega
                case rel => exact ⟨i + 1, A0', c0', r1, A1', c1', r2, vs, layP ps r3, by go_num, by omega, ⟨rfl⟩, ⟨HGo2.out⟩, ⟨HS.out⟩⟩
      · have hs1 : decide ((100 : Int) < (s.size : Int)) = true := decide_eq_true (by omega)
        have hs2 : decide (100 < s.size) = true := decide_eq_true (by omega)
        have hi0 := eq_true (show (0 : Int) ≤ (i : Int) by omega)
        have hi1 := eq_true (show (i : Int) < (es.length : Int) by omega)
        go_wp2
        go_ret
        exact ⟨rfl, HS.out.below⟩
    · have hie : i = es.length := by omega
      subst hie
      obtain ⟨k, l, hrg, hk1, hk2, hk3, hl1, hb1, htx, hri⟩ := HG.out.fin _ a b ps HGo.out
      have HRG := Lib.hid hrg
      have HK1 := Lib.hid hk1
      have HK2 := Lib.hid hk2
      have HK3 := Lib.hid hk3
      have HLL := Lib.hid hl1
      have HLB := Lib.hid hb1
      have HTX := Lib.hid htx
      have HRI := Lib.hid hri
      clear hrg hk1 hk2 hk3 hl1 hb1 htx hri HG HGo HD hi hlt
      have q0 := HS.out.cell0
      have q1 := HS.out.cell1
      go_wp2_with (first | (go_at_call 13; refine (leaf_Range.calls k _ c0 a _ c1 b x y l _ (Kd.F_now HS.out.f0) HS.out.h0 (Kd.F_now HS.out.f1) HS.out.h1 HRG.out).mono ?_; rintro e wz ⟨v17, rfl, hv, hb⟩; obtain ⟨A5, c5, rfl⟩ := Kd.R_slice hv; have HL5 := Lib.hid hv; have n_ := Lib.hid (HS.out.grow hb); clear HS; have HS := n_; clear n_ hv hb q0 q1; refine Hold.go ?_))
      obtain ⟨N, hN⟩ : ∃ N, N = wz.heap.size := ⟨_, rfl⟩
      have HQ := Lib.hid (show Bs w wz N g7 bm A0 c0 a A1 c1 b vs ps none 0 [] A5 l none [] none [] from Bs.first HS.out hN (freshN HL5.out (ok' := fun k => k < N) (fun k _ hk => by omega)).2)
      clear HS HL5 hN
      refine Hold.of ?_
      go_wp2
      go_loopg [15, 18] l.length (fun d v15 v18 w' => ∃ (i : Nat) (A6 : Option Addr) (c6 : Nat) (out : List ByteArray), v15 = .slice A6 out.length c6 ∧ v18 = .int .i64 i ∧ i ≤ l.length ∧ Aside0 (d = l.length - i) ∧ Aside0 (out ++ pickP x y ps (l.drop i) = pickP x y ps l) ∧ Aside0 (out.length ≤ i * 1000) ∧ Aside0 (Bs w w' N g7 bm A0 c0 a A1 c1 b vs ps A6 c6 out A5 l none [] none []))
      case atStart => exact ⟨0, none, 0, [], rfl, rfl, Nat.zero_le _, ⟨rfl⟩, ⟨rfl⟩, ⟨Nat.zero_le _⟩, ⟨HQ.out⟩⟩
      case round =>
        clear HQ
        obtain ⟨i, A6, c6, out, rfl, rfl, hi, HD, HT, HZ, HQ⟩ := hrel
        by_cases hlt : i < l.length
        · obtain ⟨lf, hk⟩ := HK1.out _ (mem_int hlt)
          obtain ⟨v, hlk, A9, c9, rfl, hl9, hf9⟩ := HQ.out.sp.av.lkp_some hk
          have hn9 : lf.f1.length ≤ 1000 := (HK3.out _ (lkp_some_mem hk)).1
          have hs9 : ∀ s ∈ lf.f1, s.size ≤ 1000 := (HK3.out _ (lkp_some_mem hk)).2
          have HN9 := Lib.hid hn9
          have HS9 := Lib.hid hs9
          have HT2 := Lib.hid (show out ++ (lf.f1.filter (keepB x y) ++ pickP x y ps (l.drop (i + 1))) = pickP x y ps l from by have h := HT.out; rw [drop_int hlt] at h; simp only [pickP, hk] at h; exact h)
          obtain ⟨ad5, e5, hx5⟩ := Kd.at_int (Kd.F_now HQ.out.fl) (i : Int) (by omega) (by omega)
          subst e5
          simp only [Int.toNat_natCast] at hx5
          have q0 := HQ.out.sp.cell0
          have q1 := HQ.out.sp.cell1
          generalize rd l (i : Int) = no at *
          have HLK := Lib.hid hlk
          have HL9 := Lib.hid hl9
          have n_ := Lib.hid (HQ.out.leaf hf9); clear HQ; have HQ := n_; clear n_
          have hi0 := eq_true (show (0 : Int) ≤ (i : Int) by omega)
          have hi1 := eq_true (show (i : Int) < (l.length : Int) by omega)
          clear HT hk hlk hl9 hf9 hn9 hs9
          go_wp2_with (first | (at_lookup; refine gate_guard (by rfl) ?_; refine wpList_lookup_imap rfl _ _ 31 false rfl 3 28 Try.underlying31 Try.underlying3 (.agg #[.int .i64 0, .slice none 0 0, .bool false]) (zero28 _) bm vs rfl HQ.out.sp.im no rfl ?_; rw [HLK.out]))
          clear q0 q1 hx5 hi0 hi1
          go_loopg [15, 20] lf.f1.length (fun d v15 v20 w' => ∃ (j : Nat) (A6 : Option Addr) (c6 : Nat) (out : List ByteArray), v15 = .slice A6 out.length c6 ∧ v20 = .int .i64 j ∧ j ≤ lf.f1.length ∧ Aside0 (d = lf.f1.length - j) ∧ Aside0 (out ++ ((lf.f1.drop j).filter (keepB x y) ++ pickP x y ps (l.drop (i + 1))) = pickP x y ps l) ∧ Aside0 (out.length ≤ i * 1000 + j) ∧ Aside0 (Bs w w' N g7 bm A0 c0 a A1 c1 b vs ps A6 c6 out (some ad5) l none [] A9 lf.f1))
          case atStart => exact ⟨0, A6, c6, out, rfl, rfl, Nat.zero_le _, ⟨rfl⟩, ⟨HT2.out⟩, ⟨HZ.out⟩, ⟨HQ.out⟩⟩
          case round =>
            clear HT2 HZ HQ
            obtain ⟨j, A6, c6, out, rfl, rfl, hj, HDj, HT, HZ, HQ⟩ := hrel
            have hn9 := HN9.out
            by_cases hjl : j < lf.f1.length
            · have hsz := HS9.out _ (mem_str hjl)
              obtain ⟨ad9, e9, hx9⟩ := Kd.at_string (Kd.F_now HQ.out.fe) (j : Int) (by omega) (by omega)
              subst e9
              simp only [Int.toNat_natCast] at hx9
              have hT := HT.out
              rw [drop_str hjl] at hT
              generalize rdOf ByteArray.empty lf.f1 (j : Int) = s at *
              have HO1 := Lib.hid (order_spec s x hsz (by omega) (Nat.le_refl 2002))
              have HO2 := Lib.hid (order_spec s y hsz (by omega) (Nat.le_refl 2002))
              have hkp : keepB x y s = (decide (ordB s x ≥ 0) && decide (ordB s y < 0)) := rfl
              simp only [List.filter_cons] at hT
              generalize ordB s x = o1 at *
              generalize ordB s y = o2 at *
              have hj0 := eq_true (show (0 : Int) ≤ (j : Int) by omega)
              have hj1 := eq_true (show (j : Int) < (lf.f1.length : Int) by omega)
              clear HT hsz
              by_cases b1 : 0 ≤ o1
              · have b1b : decide (0 ≤ o1) = true := decide_eq_true b1
                by_cases b2 : o2 < 0
                · have b2b : decide (o2 < 0) = true := decide_eq_true b2
                  rw [if_pos (show keepB x y s = true by rw [hkp]; simp; omega)] at hT
                  have HT2 := Lib.hid hT
                  clear hT hkp hn9
                  go_wp2_with (first | (go_at_call 14; (with_reducible refine (cobwebref02_Order.calls 2002 s x o1 _ HO1.out).mono ?_); rintro e w1 ⟨rfl, hd⟩; have n_ := Lib.hid (HQ.out.grow hd.below); clear HQ; have HQ := n_; clear n_; have n_ := (hd.below.cell (World.block_lt_of_cell? _ _ hx9)).trans hx9; clear hx9; have hx9 := n_; clear n_ hd) | (go_at_call 14; (with_reducible refine (cobwebref02_Order.calls 2002 s y o2 _ HO2.out).mono ?_); rintro e w2 ⟨rfl, hd⟩; have n_ := Lib.hid (HQ.out.grow hd.below); clear HQ; have HQ := n_; clear n_; have n_ := (hd.below.cell (World.block_lt_of_cell? _ _ hx9)).trans hx9; clear hx9; have hx9 := n_; clear n_ hd) | ((with_reducible refine gate_builtin (b := .append) (xs := #[.tmp 139, .tmp 144]) rfl ?_); at_builtin; refine Kd.R_append Kd.string N rfl (.tmp 139) (.tmp 144) 22 9 (.string ⟨#[]⟩) 16 rfl Try.underlying22 info9 rfl (by decide) (by omega) (.slice A6 out.length c6) out s [.string s] (fun _ => True) (fun _ => False) rfl rfl ?aP (fun _ hk => hk.elim) (fun _ _ => trivial) HQ.out.ro (Below.refl _ _) HQ.out.size ?aL ?_; (case aP => exact rfl); (case aL => have h1 := HZ.out; have h2 := HLL.out; have h4 := HN9.out; have h3 : i * 1000 ≤ 1000 * 1000 := Nat.mul_le_mul_right _ (by omega); omega); intro v7 w7 hv hb hg hat; obtain ⟨A7, c7, rfl⟩ := Kd.R_slice hv; have n_ := Lib.hid (HQ.out.app hv hg); clear HQ; have HQ := n_; clear n_ hv hb hg hat hx9))
                  go_roundg (lf.f1.length - (j + 1))
                  case measure => have := HDj.out; omega
                  case rel => exact ⟨j + 1, A7, c7, out ++ [s], (by simp), inc_int hjl (by have := HN9.out; omega), by omega, ⟨rfl⟩, ⟨by rw [List.append_assoc]; exact HT2.out⟩, ⟨by have := HZ.out; simp; omega⟩, ⟨HQ.out⟩⟩
                · have b2b : decide (o2 < 0) = false := decide_eq_false b2
                  rw [if_neg (show ¬ keepB x y s = true by rw [hkp]; simp; omega)] at hT
                  have HT2 := Lib.hid hT
                  clear hT hkp hn9
                  go_wp2_with (first | (go_at_call 14; (with_reducible refine (cobwebref02_Order.calls 2002 s x o1 _ HO1.out).mono ?_); rintro e w1 ⟨rfl, hd⟩; have n_ := Lib.hid (HQ.out.grow hd.below); clear HQ; have HQ := n_; clear n_; have n_ := (hd.below.cell (World.block_lt_of_cell? _ _ hx9)).trans hx9; clear hx9; have hx9 := n_; clear n_ hd) | (go_at_call 14; (with_reducible refine (cobwebref02_Order.calls 2002 s y o2 _ HO2.out).mono ?_); rintro e w2 ⟨rfl, hd⟩; have n_ := Lib.hid (HQ.out.grow hd.below); clear HQ; have HQ := n_; clear n_; have n_ := (hd.below.cell (World.block_lt_of_cell? _ _ hx9)).trans hx9; clear hx9; have hx9 := n_; clear n_ hd))
                  go_roundg (lf.f1.length - (j + 1))
                  case measure => have := HDj.out; omega
                  case rel => exact ⟨j + 1, A6, c6, out, rfl, inc_int hjl (by have := HN9.out; omega), by omega, ⟨rfl⟩, ⟨HT2.out⟩, ⟨by have := HZ.out; omega⟩, ⟨HQ.out⟩⟩
              · have b1b : decide (0 ≤ o1) = false := decide_eq_false b1
                rw [if_neg (show ¬ keepB x y s = true by rw [hkp]; simp; omega)] at hT
                have HT2 := Lib.hid hT
                clear hT hkp hn9
                go_wp2_with (first | (go_at_call 14; (with_reducible refine (cobwebref02_Order.calls 2002 s x o1 _ HO1.out).mono ?_); rintro e w1 ⟨rfl, hd⟩; have n_ := Lib.hid (HQ.out.grow hd.below); clear HQ; have HQ := n_; clear n_; have n_ := (hd.below.cell (World.block_lt_of_cell? _ _ hx9)).trans hx9; clear hx9; have hx9 := n_; clear n_ hd) | (go_at_call 14; (with_reducible refine (cobwebref02_Order.calls 2002 s y o2 _ HO2.out).mono ?_); rintro e w2 ⟨rfl, hd⟩; have n_ := Lib.hid (HQ.out.grow hd.below); clear HQ; have HQ := n_; clear n_; have n_ := (hd.below.cell (World.block_lt_of_cell? _ _ hx9)).trans hx9; clear hx9; have hx9 := n_; clear n_ hd))
                go_roundg (lf.f1.length - (j + 1))
                case measure => have := HDj.out; omega
                case rel => exact ⟨j + 1, A6, c6, out, rfl, inc_int hjl (by have := HN9.out; omega), by omega, ⟨rfl⟩, ⟨HT2.out⟩, ⟨by have := HZ.out; omega⟩, ⟨HQ.out⟩⟩
            · have hje : j = lf.f1.length := by omega
              subst hje
              have hT := HT.out
              rw [List.drop_length] at hT
              have HT2 := Lib.hid (show out ++ pickP x y ps (l.drop (i + 1)) = pickP x y ps l from hT)
              clear hT HT
              go_wp2
              go_roundg (l.length - (i + 1))
              case measure => have := HD.out; omega
              case rel => exact ⟨i + 1, A6, c6, out, rfl, inc_int hlt (by have := HLL.out; omega), by omega, ⟨rfl⟩, ⟨HT2.out⟩, ⟨by have := HZ.out; omega⟩, ⟨HQ.out.bare⟩⟩
        · have hie : i = l.length := by omega
          subst hie
          have hT := HT.out
          rw [List.drop_length] at hT
          have hto : out = pickP x y ps l := (List.append_nil out).symm.trans hT
          clear hT HT hi hlt HD
          subst hto
          have HC8 := Lib.hid (Kd.R_reads' HQ.out.ro).2.1
          obtain ⟨N3, hN3⟩ : ∃ N3, N3 = wr.heap.size := ⟨_, rfl⟩
          have n_ := Lib.hid (HQ.out.next hN3); clear HQ; have HQ := n_; clear n_ hN3 HZ HLL
          have HLL := Lib.hid HLB.out
          generalize A6 = A8 at *
          generalize c6 = c8 at *
          generalize N3 = N at *
          go_wp2
          go_loopg [16, 21] b.length (fun d v15 v18 w' => ∃ (i : Nat) (A6 : Option Addr) (c6 : Nat) (out : List ByteArray), v15 = .slice A6 out.length c6 ∧ v18 = .int .i64 i ∧ i ≤ b.length ∧ Aside0 (d = b.length - i) ∧ Aside0 (out ++ pickP x y ps (b.drop i) = pickP x y ps b) ∧ Aside0 (out.length ≤ i * 1000) ∧ Aside0 (Bs w w' N g7 bm A0 c0 a A1 c1 b vs ps A6 c6 out A1 b A8 (pickP x y ps l) none []))
          case atStart => exact ⟨0, none, 0, [], rfl, rfl, Nat.zero_le _, ⟨rfl⟩, ⟨rfl⟩, ⟨Nat.zero_le _⟩, ⟨HQ.out⟩⟩
          case round =>
            clear HQ
            obtain ⟨i, A6, c6, out, rfl, rfl, hi, HD, HT, HZ, HQ⟩ := hrel
            by_cases hlt : i < b.length
            · obtain ⟨lf, hk⟩ := HK2.out _ (mem_int hlt)
              obtain ⟨v, hlk, A9, c9, rfl, hl9, hf9⟩ := HQ.out.sp.av.lkp_some hk
              have hn9 : lf.f1.length ≤ 1000 := (HK3.out _ (lkp_some_mem hk)).1
              have hs9 : ∀ s ∈ lf.f1, s.size ≤ 1000 := (HK3.out _ (lkp_some_mem hk)).2
              have HN9 := Lib.hid hn9
              have HS9 := Lib.hid hs9
              have HT2 := Lib.hid (show out ++ (lf.f1.filter (keepB x y) ++ pickP x y ps (b.drop (i + 1))) = pickP x y ps b from by have h := HT.out; rw [drop_int hlt] at h; simp only [pickP, hk] at h; exact h)
              obtain ⟨ad5, e5, hx5⟩ := Kd.at_int (Kd.F_now HQ.out.fl) (i : Int) (by omega) (by omega)
              subst e5
              simp only [Int.toNat_natCast] at hx5
              have q0 := HQ.out.sp.cell0
              have q1 := HQ.out.sp.cell1
              generalize rd b (i : Int) = no at *
              have HLK := Lib.hid hlk
              have HL9 := Lib.hid hl9
              have n_ := Lib.hid (HQ.out.leaf hf9); clear HQ; have HQ := n_; clear n_
              have hi0 := eq_true (show (0 : Int) ≤ (i : Int) by omega)
              have hi1 := eq_true (show (i : Int) < (b.length : Int) by omega)
              clear HT hk hlk hl9 hf9 hn9 hs9
              go_wp2_with (first | (at_lookup; refine gate_guard (by rfl) ?_; refine wpList_lookup_imap rfl _ _ 31 false rfl 3 28 Try.underlying31 Try.underlying3 (.agg #[.int .i64 0, .slice none 0 0, .bool false]) (zero28 _) bm vs rfl HQ.out.sp.im no rfl ?_; rw [HLK.out]))
              clear q0 q1 hx5 hi0 hi1
              go_loopg [16, 23] lf.f1.length (fun d v15 v20 w' => ∃ (j : Nat) (A6 : Option Addr) (c6 : Nat) (out : List ByteArray), v15 = .slice A6 out.length c6 ∧ v20 = .int .i64 j ∧ j ≤ lf.f1.length ∧ Aside0 (d = lf.f1.length - j) ∧ Aside0 (out ++ ((lf.f1.drop j).filter (keepB x y) ++ pickP x y ps (b.drop (i + 1))) = pickP x y ps b) ∧ Aside0 (out.length ≤ i * 1000 + j) ∧ Aside0 (Bs w w' N g7 bm A0 c0 a (some ad5) c1 b vs ps A6 c6 out (some ad5) b A8 (pickP x y ps l) A9 lf.f1))
              case atStart => exact ⟨0, A6, c6, out, rfl, rfl, Nat.zero_le _, ⟨rfl⟩, ⟨HT2.out⟩, ⟨HZ.out⟩, ⟨HQ.out⟩⟩
              case round =>
                clear HT2 HZ HQ
                obtain ⟨j, A6, c6, out, rfl, rfl, hj, HDj, HT, HZ, HQ⟩ := hrel
                have hn9 := HN9.out
                by_cases hjl : j < lf.f1.length
                · have hsz := HS9.out _ (mem_str hjl)
                  obtain ⟨ad9, e9, hx9⟩ := Kd.at_string (Kd.F_now HQ.out.fe) (j : Int) (by omega) (by omega)
                  subst e9
                  simp only [Int.toNat_natCast] at hx9
                  have hT := HT.out
                  rw [drop_str hjl] at hT
                  generalize rdOf ByteArray.empty lf.f1 (j : Int) = s at *
                  have HO1 := Lib.hid (order_spec s x hsz (by omega) (Nat.le_refl 2002))
                  have HO2 := Lib.hid (order_spec s y hsz (by omega) (Nat.le_refl 2002))
                  have hkp : keepB x y s = (decide (ordB s x ≥ 0) && decide (ordB s y < 0)) := rfl
                  simp only [List.filter_cons] at hT
                  generalize ordB s x = o1 at *
                  generalize ordB s y = o2 at *
                  have hj0 := eq_true (show (0 : Int) ≤ (j : Int) by omega)
                  have hj1 := eq_true (show (j : Int) < (lf.f1.length : Int) by omega)
                  clear HT hsz
                  by_cases b1 : 0 ≤ o1
                  · have b1b : decide (0 ≤ o1) = true := decide_eq_true b1
                    by_cases b2 : o2 < 0
                    · have b2b : decide (o2 < 0) = true := decide_eq_true b2
                      rw [if_pos (show keepB x y s = true by rw [hkp]; simp; omega)] at hT
                      have HT2 := Lib.hid hT
                      clear hT hkp hn9
                      go_wp2_with (first | (go_at_call 14; (with_reducible refine (cobwebref02_Order.calls 2002 s x o1 _ HO1.out).mono ?_); rintro e w1 ⟨rfl, hd⟩; have n_ := Lib.hid (HQ.out.grow hd.below); clear HQ; have HQ := n_; clear n_; have n_ := (hd.below.cell (World.block_lt_of_cell? _ _ hx9)).trans hx9; clear hx9; have hx9 := n_; clear n_ hd) | (go_at_call 14; (with_reducible refine (cobwebref02_Order.calls 2002 s y o2 _ HO2.out).mono ?_); rintro e w2 ⟨rfl, hd⟩; have n_ := Lib.hid (HQ.out.grow hd.below); clear HQ; have HQ := n_; clear n_; have n_ := (hd.below.cell (World.block_lt_of_cell? _ _ hx9)).trans hx9; clear hx9; have hx9 := n_; clear n_ hd) | ((with_reducible refine gate_builtin (b := .append) (xs := #[.tmp 183, .tmp 188]) rfl ?_); at_builtin; refine Kd.R_append Kd.string N rfl (.tmp 183) (.tmp 188) 22 9 (.string ⟨#[]⟩) 16 rfl Try.underlying22 info9 rfl (by decide) (by omega) (.slice A6 out.length c6) out s [.string s] (fun _ => True) (fun _ => False) rfl rfl ?aP (fun _ hk => hk.elim) (fun _ _ => trivial) HQ.out.ro (Below.refl _ _) HQ.out.size ?aL ?_; (case aP => exact rfl); (case aL => have h1 := HZ.out; have h2 := HLL.out; have h4 := HN9.out; have h3 : i * 1000 ≤ 1000 * 1000 := Nat.mul_le_mul_right _ (by omega); omega); intro v7 w7 hv hb hg hat; obtain ⟨A7, c7, rfl⟩ := Kd.R_slice hv; have n_ := Lib.hid (HQ.out.app hv hg); clear HQ; have HQ := n_; clear n_ hv hb hg hat hx9))
                      go_roundg (lf.f1.length - (j + 1))
                      case measure => have := HDj.out; omega
                      case rel => exact ⟨j + 1, A7, c7, out ++ [s], (by simp), inc_int hjl (by have := HN9.out; omega), by omega, ⟨rfl⟩, ⟨by rw [List.append_assoc]; exact HT2.out⟩, ⟨by have := HZ.out; simp; omega⟩, ⟨HQ.out⟩⟩
                    · have b2b : decide (o2 < 0) = false := decide_eq_false b2
                      rw [if_neg (show ¬ keepB x y s = true by rw [hkp]; simp; omega)] at hT
                      have HT2 := Lib.hid hT
                      clear hT hkp hn9
                      go_wp2_with (first | (go_at_call 14; (with_reducible refine (cobwebref02_Order.calls 2002 s x o1 _ HO1.out).mono ?_); rintro e w1 ⟨rfl, hd⟩; have n_ := Lib.hid (HQ.out.grow hd.below); clear HQ; have HQ := n_; clear n_; have n_ := (hd.below.cell (World.block_lt_of_cell? _ _ hx9)).trans hx9; clear hx9; have hx9 := n_; clear n_ hd) | (go_at_call 14; (with_reducible refine (cobwebref02_Order.calls 2002 s y o2 _ HO2.out).mono ?_); rintro e w2 ⟨rfl, hd⟩; have n_ := Lib.hid (HQ.out.grow hd.below); clear HQ; have HQ := n_; clear n_; have n_ := (hd.below.cell (World.block_lt_of_cell? _ _ hx9)).trans hx9; clear hx9; have hx9 := n_; clear n_ hd))
                      go_roundg (lf.f1.length - (j + 1))
                      case measure => have := HDj.out; omega
                      case rel => exact ⟨j + 1, A6, c6, out, rfl, inc_int hjl (by have := HN9.out; omega), by omega, ⟨rfl⟩, ⟨HT2.out⟩, ⟨by have := HZ.out; omega⟩, ⟨HQ.out⟩⟩
                  · have b1b : decide (0 ≤ o1) = false := decide_eq_false b1
                    rw [if_neg (show ¬ keepB x y s = true by rw [hkp]; simp; omega)] at hT
                    have HT2 := Lib.hid hT
                    clear hT hkp hn9
                    go_wp2_with (first | (go_at_call 14; (with_reducible refine (cobwebref02_Order.calls 2002 s x o1 _ HO1.out).mono ?_); rintro e w1 ⟨rfl, hd⟩; have n_ := Lib.hid (HQ.out.grow hd.below); clear HQ; have HQ := n_; clear n_; have n_ := (hd.below.cell (World.block_lt_of_cell? _ _ hx9)).trans hx9; clear hx9; have hx9 := n_; clear n_ hd) | (go_at_call 14; (with_reducible refine (cobwebref02_Order.calls 2002 s y o2 _ HO2.out).mono ?_); rintro e w2 ⟨rfl, hd⟩; have n_ := Lib.hid (HQ.out.grow hd.below); clear HQ; have HQ := n_; clear n_; have n_ := (hd.below.cell (World.block_lt_of_cell? _ _ hx9)).trans hx9; clear hx9; have hx9 := n_; clear n_ hd))
                    go_roundg (lf.f1.length - (j + 1))
                    case measure => have := HDj.out; omega
                    case rel => exact ⟨j + 1, A6, c6, out, rfl, inc_int hjl (by have := HN9.out; omega), by omega, ⟨rfl⟩, ⟨HT2.out⟩, ⟨by have := HZ.out; omega⟩, ⟨HQ.out⟩⟩
                · have hje : j = lf.f1.length := by omega
                  subst hje
                  have hT := HT.out
                  rw [List.drop_length] at hT
                  have HT2 := Lib.hid (show out ++ pickP x y ps (b.drop (i + 1)) = pickP x y ps b from hT)
                  clear hT HT
                  go_wp2
                  go_roundg (b.length - (i + 1))
                  case measure => have := HD.out; omega
                  case rel => exact ⟨i + 1, A6, c6, out, rfl, inc_int hlt (by have := HLL.out; omega), by omega, ⟨rfl⟩, ⟨HT2.out⟩, ⟨by have := HZ.out; omega⟩, ⟨HQ.out.bare⟩⟩
            · have hie : i = b.length := by omega
              subst hie
              have hT := HT.out
              rw [List.drop_length] at hT
              have hto : out = pickP x y ps b := (List.append_nil out).symm.trans hT
              clear hT HT hi hlt HD
              subst hto
              have q1 := HQ.out.sp.cell1
              go_wp2_with (first | (go_at_call 15; refine (cobwebref11_Texts.calls k A8 c8 _ A6 c6 _ true _ (Kd.F_now HQ.out.fi) HC8.out (Kd.R_reads' HQ.out.ro).2.2 (Kd.R_reads' HQ.out.ro).2.1 HTX.out).mono ?_; rintro e w1 ⟨rfl, hd⟩; have n_ := Lib.hid (HQ.out.grow hd.below); clear HQ; have HQ := n_; clear n_ hd) | (go_at_call 16; refine (cobwebref11_Rise.calls k A6 c6 _ true _ (Kd.R_reads' HQ.out.ro).2.2 (Kd.R_reads' HQ.out.ro).2.1 HRI.out).mono ?_; rintro e w2 ⟨rfl, hd⟩; have n_ := Lib.hid (HQ.out.grow hd.below); clear HQ; have HQ := n_; clear n_ hd))
              go_ret
              exact ⟨rfl, HQ.out.sp.below⟩
end Go.Proofs.Ytneagipmllgejaa.PL
end
