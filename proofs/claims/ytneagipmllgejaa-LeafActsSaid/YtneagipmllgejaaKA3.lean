/- A part of the proof: lemmas that the row uses, laid together by a program of this session's (pack.py) out of its texts and of what the kit's printer wrote for this seat. -/
import Derived.MapKept
import Derived.Carry
import Derived.OwnWalk
import Derived.Below
import Derived.Maps.OwnOps
import Derived.KernelRfl
import Derived.Test.YtneagipmllgejaaKA0
import Derived.Test.YtneagipmllgejaaKA1
import Derived.Test.YtneagipmllgejaaKA2
section
set_option linter.unusedVariables false
set_option linter.unusedSimpArgs false
namespace Go.Proofs.YtneagipmllgejaaH
open Go.RowKit
open Go.MapKept (IsKey heap_set run_checkKey run_findKey run_keyThatStays)
def lkp {α : Type} (k : Int) : List (Int × α) → Option α
  | [] => none
  | (a, v) :: r => if a = k then some v else lkp k r
def putP {α : Type} (k : Int) (v : α) : List (Int × α) → List (Int × α)
  | [] => [(k, v)]
  | (a, u) :: r => if a = k then (a, v) :: r else (a, u) :: putP k v r
def delP {α : Type} (k : Int) : List (Int × α) → List (Int × α)
  | [] => []
  | (a, u) :: r => if a = k then r else (a, u) :: delP k r
theorem lkp_putP {α : Type} (k j : Int) (v : α) : ∀ ps : List (Int × α), lkp j (putP k v ps) = if k = j then some v else lkp j ps
  | [] => by simp [lkp, putP]
  | (a, u) :: r => by
    unfold putP
    split
    · rename_i h
      subst h
      simp only [lkp]
      split <;> simp_all
    · rename_i h
      simp only [lkp]
      rw [lkp_putP k j v r]
      split
      · rename_i h2
        subst h2
        rw [if_neg (fun e => h e.symm)]
      · rfl
/-- Block b of w is a map that has just these entries. -/
def IMap (w : World) (b : Nat) (ps : List (Int × Value)) : Prop :=
  ∃ es clock, w.heap[b]? = some (.map es clock) ∧ es.toList.map (fun e => (e.key, e.val)) = ps.map (fun p => (Value.int .i64 p.1, p.2))
theorem IMap.made (w : World) : IMap (w.alloc (.map #[] 0)) w.heap.size [] := ⟨#[], 0, heap_alloc_new w _, rfl⟩
theorem IMap.lt {w : World} {b : Nat} {ps : List (Int × Value)} (h : IMap w b ps) : b < w.heap.size := by
  obtain ⟨es, c, hb, _⟩ := h
  exact (Array.getElem?_eq_some_iff.1 hb).1
theorem IMap.of_block {w w' : World} {b : Nat} {ps : List (Int × Value)} (h : IMap w b ps) (he : w'.heap[b]? = w.heap[b]?) : IMap w' b ps := by
  obtain ⟨es, c, hb, hm⟩ := h
  exact ⟨es, c, he.trans hb, hm⟩
theorem IMap.below {w w' : World} {b : Nat} {ps : List (Int × Value)} (h : IMap w b ps) (hb : Below w.heap.size w w') : IMap w' b ps := h.of_block (hb.block b h.lt)
theorem IMap.alloc {w : World} {b : Nat} {ps : List (Int × Value)} (h : IMap w b ps) (o : Obj) : IMap (w.alloc o) b ps := h.of_block (Below.heap_alloc w o b h.lt)
theorem IMap.setCell {w : World} {b : Nat} {ps : List (Int × Value)} (h : IMap w b ps) {p : Addr} (hne : b ≠ p.block) (v : Value) : IMap (w.setCell p v) b ps := h.of_block (Below.heap_setCell w p v b hne)
def findI (k : Int) : List (Int × Value) → Nat → Option (Nat × Value)
  | [], _ => none
  | (a, v) :: r, i => if a = k then some (i, v) else findI k r (i + 1)
theorem findNow_ints (q : IntKind) (k : Int) : ∀ (es : List MapEntry) (ps : List (Int × Value)) (i : Nat), es.map (fun e => (e.key, e.val)) = ps.map (fun p => (Value.int .i64 p.1, p.2)) →
    Instr.findNow (.int q) (.int .i64 k) es i = some (findI k ps i)
  | [], [], i, _ => rfl
  | [], _ :: _, i, h => by simp at h
  | _ :: _, [], i, h => by simp at h
  | e :: es, (a, v) :: ps, i, h => by
    simp only [List.map_cons, List.cons.injEq, Prod.mk.injEq] at h
    obtain ⟨⟨hk, hv⟩, hr⟩ := h
    have hs : Instr.sameNow (.int q) (.int .i64 k) e.key = some (k == a) := by rw [hk]; simp [Instr.sameNow]
    unfold Instr.findNow findI
    rw [hs]
    by_cases hka : a = k
    · subst hka; simp [hv]
    · have : (k == a) = false := beq_eq_false_iff_ne.2 (fun e => hka e.symm)
      rw [this, if_neg hka]
      exact findNow_ints q k es ps (i + 1) hr
theorem findI_none {k : Int} : ∀ {ps : List (Int × Value)} {i : Nat}, findI k ps i = none → lkp k ps = none ∧ ∀ v, putP k v ps = ps ++ [(k, v)]
  | [], _, _ => ⟨rfl, fun _ => rfl⟩
  | (a, u) :: r, i, h => by
    unfold findI at h
    split at h
    · cases h
    · rename_i hne
      obtain ⟨h1, h2⟩ := findI_none h
      exact ⟨by simp [lkp, hne, h1], fun v => by simp [putP, hne, h2]⟩
theorem findI_some {k : Int} {v : Value} : ∀ {ps : List (Int × Value)} {i j : Nat}, findI k ps i = some (j, v) → ∃ n, j = i + n ∧ ps[n]? = some (k, v) ∧ lkp k ps = some v ∧ (∀ x, putP k x ps = ps.set n (k, x)) ∧ delP k ps = ps.eraseIdx n
  | [], _, _, h => by simp [findI] at h
  | (a, u) :: r, i, j, h => by
    unfold findI at h
    split at h
    · rename_i e
      subst e
      simp only [Option.some.injEq, Prod.mk.injEq] at h
      obtain ⟨rfl, rfl⟩ := h
      exact ⟨0, rfl, rfl, by simp [lkp], fun x => by simp [putP], by simp [delP]⟩
    · rename_i hne
      obtain ⟨n, rfl, h1, h2, h3, h4⟩ := findI_some h
      exact ⟨n + 1, by omega, by simpa using h1, by simp [lkp, hne, h2], fun x => by simp [putP, hne, h3], by simp [delP, hne, h4]⟩
section
variable {P : Program} {t kt et : TypeId} {w : World} {b : Nat} {ps : List (Int × Value)}
theorem IMap.run_lookup (h : IMap w b ps) (ht : P.underlying t = some (.map kt et)) (hk : P.underlying kt = some (.int .i64)) {z : Value} (hz : (zeroValue et).run P w = .ok z w) (k : Int) (ok : Bool) :
    (Instr.lookup t (.map (some b)) (.int .i64 k) ok).run P w = .ok (if ok then .tuple #[(lkp k ps).getD z, .bool (lkp k ps).isSome] else (lkp k ps).getD z) w := by
  obtain ⟨es, clock, hb, hm⟩ := h
  have hf := findNow_ints .i64 k es.toList ps 0 hm
  have hkey : IsKey (.int .i64) (.int .i64 k) := by simp [IsKey]
  cases hfi : findI k ps 0 with
  | none =>
    obtain ⟨hl, _⟩ := findI_none hfi
    rw [hfi] at hf
    cases ok <;> simp [Instr.lookup, run_underlying ht, MapKept.run_getObj_map hb, run_checkKey hk hkey, run_findKey hk hf, hz, hl, Result.andThen]
  | some jv =>
    obtain ⟨j, v⟩ := jv
    obtain ⟨n, _, _, hl, _⟩ := findI_some hfi
    rw [hfi] at hf
    cases ok <;> simp [Instr.lookup, run_underlying ht, MapKept.run_getObj_map hb, run_checkKey hk hkey, run_findKey hk hf, hz, hl, Result.andThen]
theorem IMap.run_update (h : IMap w b ps) (ht : P.underlying t = some (.map kt et)) (hk : P.underlying kt = some (.int .i64)) (k : Int) (v : Value) :
    ∃ w', (Instr.mapUpdate t (.map (some b)) (.int .i64 k) v).run P w = .ok () w' ∧ IMap w' b (putP k v ps) ∧ w.grownBy w' (some b) ∧ w'.heap.size = w.heap.size := by
  obtain ⟨es, clock, hb, hm⟩ := h
  have hf := findNow_ints .i64 k es.toList ps 0 hm
  have hkey : IsKey (.int .i64) (.int .i64 k) := by simp [IsKey]
  have hg : ∀ o, w.grownBy { w with heap := w.heap.setIfInBounds b o } (some b) := fun o => ⟨rfl, rfl, rfl, by simp, fun j hj hne => (heap_set hb).2 j (fun e => hne (by rw [e]))⟩
  cases hfi : findI k ps 0 with
  | none =>
    obtain ⟨_, hp⟩ := findI_none hfi
    rw [hfi] at hf
    refine ⟨_, by simp [Instr.mapUpdate, run_underlying ht, MapKept.run_getObj_map hb, run_checkKey hk hkey, run_findKey hk hf, MapKept.run_setObj_map _ hb, Result.andThen]; rfl, ⟨_, _, (heap_set hb).1, ?_⟩, hg _, by simp⟩
    rw [hp]
    simp [hm]
  | some jv =>
    obtain ⟨j, v0⟩ := jv
    obtain ⟨n, hn, hps, _, hp, _⟩ := findI_some hfi
    rw [hfi] at hf
    have hj : j = n := by omega
    subst hj
    have hlt : j < ps.length := (List.getElem?_eq_some_iff.1 hps).1
    have hl : es.toList.length = ps.length := by simpa using congrArg List.length hm
    have hes : ∃ e, es[j]? = some e ∧ e.key = .int .i64 k := by
      have he : es.toList[j]? = some (es.toList[j]'(by omega)) := List.getElem?_eq_getElem (by omega)
      refine ⟨_, by rw [← Array.getElem?_toList]; exact he, ?_⟩
      have h2 := congrArg (fun l => l[j]?) hm
      simp only [List.getElem?_map, he, hps, Option.map_some, Option.some.injEq, Prod.mk.injEq] at h2
      exact h2.1
    obtain ⟨e, he, hek⟩ := hes
    refine ⟨_, by simp [Instr.mapUpdate, run_underlying ht, MapKept.run_getObj_map hb, run_checkKey hk hkey, run_findKey hk hf, he, hek, run_keyThatStays hkey, MapKept.run_setObj_map _ hb, Result.andThen]; rfl, ⟨_, _, (heap_set hb).1, ?_⟩, hg _, by simp⟩
    rw [hp]
    apply List.ext_getElem?
    intro i
    have h3 := congrArg (fun l => l[i]?) hm
    simp only [List.getElem?_map] at h3
    by_cases hi : j = i
    · subst hi
      simp [List.getElem?_set, hlt, Array.getElem?_modify, he]
    · simp only [List.getElem?_map, List.getElem?_set_ne hi]
      rw [← h3]
      simp [Array.getElem?_modify, hi]
end
section
variable {P : Program} {ops : Array Oper} {rest : List Oper} {o : Oper} {a : Act} {Q : Exit → Act → World → Prop} {w : World}
/-- 'm[k]', 'v, ok := m[k]' as one step of a walk. -/
theorem wpList_lookup_imap (hg : o.guard = none) (m x : Operand) (t : TypeId) (ok : Bool) (hop : o.op = Op.lookup t m x ok) (kt et : TypeId) (ht : P.underlying t = some (.map kt et)) (hk : P.underlying kt = some (.int .i64)) (z : Value) (hz : (zeroValue et).run P w = .ok z w)
    (b : Nat) (ps : List (Int × Value)) (hm : a.eval m = .map (some b)) (H : IMap w b ps) (k : Int) (hx : a.eval x = .int .i64 k)
    (hK : wpList P ops Q rest (a.put o.dst (if ok then .tuple #[(lkp k ps).getD z, .bool (lkp k ps).isSome] else (lkp k ps).getD z)) w) : wpList P ops Q (o :: rest) a w := by
  refine wpList_plain hg fun K' hK' => ?_
  have hrun := H.run_lookup ht hk hz k ok
  unfold Oper.wp
  simp only [execOp, hop, hm, hx, Sem.run_bind, hrun, Result.andThen_ok, Sem.run_pure]
  exact hK' _ _ hK
theorem wpList_update_imap (hg : o.guard = none) (m x y : Operand) (t : TypeId) (hop : o.op = Op.mapUpdate t m x y) (kt et : TypeId) (ht : P.underlying t = some (.map kt et)) (hk : P.underlying kt = some (.int .i64))
    (b : Nat) (ps : List (Int × Value)) (hm : a.eval m = .map (some b)) (H : IMap w b ps) (k : Int) (hx : a.eval x = .int .i64 k) (v : Value) (hv : a.eval y = v)
    (hK : ∀ w', IMap w' b (putP k v ps) → w.grownBy w' (some b) → w'.heap.size = w.heap.size → wpList P ops Q rest (a.put o.dst undef) w') : wpList P ops Q (o :: rest) a w := by
  refine wpList_plain hg fun K' hK' => ?_
  obtain ⟨w', hrun, h1, h2, h3⟩ := H.run_update ht hk k v
  unfold Oper.wp
  simp only [execOp, hop, hm, hx, hv, Sem.run_bind, hrun, Result.andThen_ok, Sem.run_pure]
  exact hK' _ _ (hK w' h1 h2 h3)
end
/-- A goal that the walk leaves as it is. -/
def Hold (p : Prop) : Prop := p
theorem Hold.go {p : Prop} (h : Hold p) : p := h
theorem Hold.of {p : Prop} (h : p) : Hold p := h
section
variable {P : Program} {ops : Array Oper} {rest : List Oper} {a : Act} {Q : Exit → Act → World → Prop}
end
end Go.Proofs.YtneagipmllgejaaH
end
