/- A part of the proof: lemmas that the row uses, laid together by a program of this session's (pack.py) out of its texts and of what the kit's printer wrote for this seat. -/
import Derived.Maps.OwnSet
import Derived.Test.YtneagipmllgejaaKA0
import Derived.Test.YtneagipmllgejaaKA1
import Derived.Test.YtneagipmllgejaaKA2
import Derived.Test.YtneagipmllgejaaKA3
import Derived.Test.YtneagipmllgejaaKA4
import Derived.Test.YtneagipmllgejaaKA5
import Derived.Test.YtneagipmllgejaaKA6
import Derived.Test.YtneagipmllgejaaKA7
import Derived.Test.YtneagipmllgejaaKA8
section
set_option linter.unusedVariables false
set_option linter.unusedSimpArgs false
namespace Go.Proofs.YtneagipmllgejaaH
open Go.RowKit Go.Proofs.YtneagipmllgejaaW.PrintWords Go.Proofs.YtneagipmllgejaaW.PrintLast Go.Proofs.YtneagipmllgejaaW.PrintMore
section
variable {P : Program} {ops : Array Oper} {rest : List Oper} {o : Oper} {a : Act} {Q : Exit → Act → World → Prop} {w : World}
variable {Kc : Act → World → Prop} {W : World}
/-- A new block, as a step of a region that draws its order. -/
theorem alloc_step (hw : Region.wanted o (yielded ops a.tmps) = true) (v : Nat → Value) (obj : Obj) (hrun : (execOp a.eval o).run P W = .ok (.value (v W.heap.size)) (W.alloc obj))
    (h : ∀ g, g = W.heap.size → ∀ w1, w1.heap[g]? = some obj → Below W.heap.size W w1 → Kc (a.put o.dst (v g)) w1) : if Region.wanted o (yielded ops a.tmps) = true then Oper.wp P o a W Kc Q else Kc (a.put o.dst undef) W :=
  event_step hw hrun (h _ rfl _ (heap_alloc_new W _) (below_alloc (Below.refl _ _) _))
/-- A whole block is stored into, likewise. -/
theorem store_step (hw : Region.wanted o (yielded ops a.tmps) = true) {t : TypeId} {p x : Operand} (ho : o.op = .store t p x) (hN : o.dst = none) (g : Nat) (cur : Array Value) (e : TypeId) (cs : List Value) (hp : a.eval p = .pointer (some ⟨g, 0, none⟩)) (u : Value) (hx : a.eval x = u) (hu : u.cells.toList = cs)
    (hbox : W.heap[g]? = some (.cells cur e (0, 0))) (hsz : cs.length = cur.size) (ht : (P.info? t).map (·.size) = some cs.length) (h1 : ∀ q ∈ cs, q.oneCell' = true)
    (h : ∀ w1, w1.heap[g]? = some (.cells cs.toArray e (0, 0)) → W.grownBy w1 (some g) → w1.heap.size = W.heap.size → Kc a w1) : if Region.wanted o (yielded ops a.tmps) = true then Oper.wp P o a W Kc Q else Kc (a.put none undef) W := by
  have hrun := run_store_run (o := 0) t u cs hbox hu ht (by omega) h1
  obtain ⟨cur', h2, h3, h4⟩ := setCells_row cs 0 W cur hbox (by omega)
  obtain ⟨s1, s2, s3, s4⟩ := setCells_same g cs 0 W
  rw [if_pos hw]
  unfold Oper.wp
  simp only [execOp, ho, hp, hx, Sem.run_bind, hrun, Result.andThen_ok, Sem.run_pure]
  show Kc (a.put o.dst undef) _
  rw [hN]
  refine h _ ?_ ⟨s1, s2, s3, by omega, fun k hk hne => setCells_far cs 0 k (fun e => hne (by rw [e]))⟩ s4
  have h5 : cur' = cs.toArray := by
    apply Array.toList_inj.1
    rw [h4]
    simp only [List.take_zero, List.nil_append, Nat.zero_add]
    rw [List.drop_eq_nil_of_le (by rw [hsz, Array.length_toList]; omega)]
    simp
  rw [h2, h5]
end
end Go.Proofs.YtneagipmllgejaaH
namespace Go.Proofs.Ytneagipmllgejaa.PL
open Go.RowKit Go.Proofs.YtneagipmllgejaaW.PrintWords Go.Proofs.YtneagipmllgejaaW.PrintLast Go.Proofs.YtneagipmllgejaaW.PrintMore Go.Proofs.YtneagipmllgejaaH
/-- The leaves that a change names, laid into the table. -/
def layP : List (Int × S28) → List S28 → List (Int × S28)
  | t, [] => t
  | t, c :: r => layP (putP c.f0 c t) r
/-- Leaf j of a row lies there. -/
def heldL (ad : Addr) (j : Nat) (A9 : Option Addr) (c9 : Nat) (lf : S28) : World → Prop :=
  fun W => W.cell? (ad.add (j * 3)) = some (.int .i64 lf.f0) ∧ W.cell? ⟨(ad.add (j * 3)).block, (ad.add (j * 3)).off + 1, none⟩ = some (.slice A9 lf.f1.length c9) ∧ W.cell? ⟨(ad.add (j * 3)).block, (ad.add (j * 3)).off + 2, none⟩ = some (.bool lf.f2)
section
variable {w W W1 : World} {ok ok' : Nat → Prop} {g7 bm g : Nat} {A0 : Option Addr} {c0 : Nat} {a : List ByteArray} {A1 : Option Addr} {c1 : Nat} {b : List Int} {vs : List (Int × Value)} {ps : List (Int × S28)} {A2 : Option Addr} {c2 : Nat} {ls : List S28}
/-- What an insert yields: a root's two rows, leaves; they lie in ok. -/
structure Rs (W : World) (ok : Nat → Prop) (A0 : Option Addr) (c0 : Nat) (a : List ByteArray) (A1 : Option Addr) (c1 : Nat) (b : List Int) (A2 : Option Addr) (c2 : Nat) (ls : List S28) : Prop where
  f0 : Kd.F Kd.string W ok A0 a.length a
  h0 : a.length ≤ c0
  f1 : Kd.F (Kd.int .i64) W ok A1 b.length b
  h1 : b.length ≤ c1
  f2 : Kd.F k28 W ok A2 ls.length ls
  h2 : ls.length ≤ c2
theorem Rs.fresh {base n0 n1 n2 : Nat} {k0 k1 k2 : Nat → Prop} (h0 : Kd.R Kd.string 9 W base k0 (.slice A0 n0 c0) a) (h1 : Kd.R (Kd.int .i64) 3 W base k1 (.slice A1 n1 c1) b) (h2 : Kd.N k28 28 W base k2 (.slice A2 n2 c2) ls) (hk2 : ∀ k, k2 k → base ≤ k) (hok : ∀ k, base ≤ k → ok' k) : Rs W ok' A0 c0 a A1 c1 b A2 c2 ls :=
  have e0 := freshS h0 (fun k hk _ => hok k hk)
  have e1 := freshN h1 (fun k hk _ => hok k hk)
  have e2 := freshL h2 (fun k hk _ => hok k (hk2 k hk))
  ⟨e0.2, e0.1, e1.2, e1.1, e2.2, e2.1⟩
theorem Rs.grow (h : Rs W ok A0 c0 a A1 c1 b A2 c2 ls) (hb : Below W.heap.size W W1) : Rs W1 ok A0 c0 a A1 c1 b A2 c2 ls := ⟨Kd.F_below h.f0 hb, h.h0, Kd.F_below h.f1 hb, h.h1, Kd.F_below h.f2 hb, h.h2⟩
theorem Rs.mono (h : Rs W ok A0 c0 a A1 c1 b A2 c2 ls) (hok : ∀ k, ok k → ok' k) : Rs W ok' A0 c0 a A1 c1 b A2 c2 ls := ⟨Kd.F_mono h.f0 hok, h.h0, Kd.F_mono h.f1 hok, h.h1, Kd.F_mono h.f2 hok, h.h2⟩
theorem Rs.far (h : Rs W ok A0 c0 a A1 c1 b A2 c2 ls) (hg : W.grownBy W1 (some g)) (hok : ∀ k, ok k → k ≠ g) : Rs W1 ok A0 c0 a A1 c1 b A2 c2 ls :=
  have hk : ∀ k, ok k → some k ≠ some g := fun k h e => hok k h (Option.some.inj e)
  ⟨Kd.F_grown h.f0 hg hk, h.h0, Kd.F_grown h.f1 hg hk, h.h1, Kd.F_grown h.f2 hg hk, h.h2⟩
theorem Rs.alloc (h : Rs W ok A0 c0 a A1 c1 b A2 c2 ls) (hg : g = W.heap.size) (hb : Below W.heap.size W W1) : Rs W1 (fun k => ok k ∧ k ≠ g) A0 c0 a A1 c1 b A2 c2 ls :=
  Rs.grow ⟨Kd.F_mono (Kd.F_bound h.f0) (fun k hk => ⟨hk.1, by have := hk.2; omega⟩), h.h0, Kd.F_mono (Kd.F_bound h.f1) (fun k hk => ⟨hk.1, by have := hk.2; omega⟩), h.h1, Kd.F_mono (Kd.F_bound h.f2) (fun k hk => ⟨hk.1, by have := hk.2; omega⟩), h.h2⟩ hb
theorem Sp.alloc (h : Sp w W ok g7 bm A0 c0 a A1 c1 b vs ps) (hg : g = W.heap.size) (hb : Below W.heap.size W W1) : Sp w W1 (fun k => ok k ∧ k ≠ g) g7 bm A0 c0 a A1 c1 b vs ps ∧ g7 ≠ g ∧ bm ≠ g ∧ w.heap.size ≤ g := by
  have l7 := h.lt7
  have lm := h.ltm
  have hs := h.below.size
  exact ⟨(h.bound.weak (ok' := fun k => ok k ∧ k ≠ g) (fun k hk => ⟨hk.1, by have := hk.2; omega⟩) (fun k hk => h.k7 k hk.1) (fun k hk => h.km k hk.1)).grow hb, by omega, by omega, by omega⟩
end
/-- What the gathering loops hold. -/
structure Bs (w W : World) (N g7 bm : Nat) (A0 : Option Addr) (c0 : Nat) (a : List ByteArray) (A1 : Option Addr) (c1 : Nat) (b : List Int) (vs : List (Int × Value)) (ps : List (Int × S28)) (A6 : Option Addr) (c6 : Nat) (out : List ByteArray) (A5 : Option Addr) (l : List Int) (A8 : Option Addr) (il : List ByteArray) (A9 : Option Addr) (es : List ByteArray) : Prop where
  sp : Sp w W (fun k => (k ≠ g7 ∧ k ≠ bm) ∧ k < N) g7 bm A0 c0 a A1 c1 b vs ps
  ro : Kd.R Kd.string 9 W N (fun _ => True) (.slice A6 out.length c6) out
  fl : Kd.F (Kd.int .i64) W (fun k => k < N) A5 l.length l
  fi : Kd.F Kd.string W (fun k => k < N) A8 il.length il
  fe : Kd.F Kd.string W (fun k => k < N) A9 es.length es
  size : N ≤ W.heap.size
  n7 : g7 < N
  nm : bm < N
  nw : w.heap.size ≤ N
section
variable {w W W1 : World} {N g7 bm : Nat} {A0 : Option Addr} {c0 : Nat} {a : List ByteArray} {A1 : Option Addr} {c1 : Nat} {b : List Int} {vs : List (Int × Value)} {ps : List (Int × S28)} {A6 A6' : Option Addr} {c6 c6' : Nat} {out out' : List ByteArray} {A5 : Option Addr} {l : List Int} {A8 : Option Addr} {il : List ByteArray} {A9 A9' : Option Addr} {es es' : List ByteArray}
theorem Bs.first (h : Sp w W (fun k => k ≠ g7 ∧ k ≠ bm) g7 bm A0 c0 a A1 c1 b vs ps) (hN : N = W.heap.size) (hl : Kd.F (Kd.int .i64) W (fun k => k < N) A5 l.length l) : Bs w W N g7 bm A0 c0 a A1 c1 b vs ps none 0 [] A5 l none [] none [] := by
  have n7 := h.lt7
  have nm := h.ltm
  have hs := h.below.size
  exact ⟨h.bound.weak (fun k hk => ⟨hk.1, by have := hk.2; omega⟩) (fun k hk => hk.1.1) (fun k hk => hk.1.2), Kd.R_nil _ _ _ _ _, hl, Kd.F_nil _ _ _, Kd.F_nil _ _ _, by omega, by omega, by omega, by omega⟩
theorem Bs.grow (h : Bs w W N g7 bm A0 c0 a A1 c1 b vs ps A6 c6 out A5 l A8 il A9 es) (hb : Below W.heap.size W W1) : Bs w W1 N g7 bm A0 c0 a A1 c1 b vs ps A6 c6 out A5 l A8 il A9 es :=
  ⟨h.sp.grow hb, Kd.R_below h.ro hb, Kd.F_below h.fl hb, Kd.F_below h.fi hb, Kd.F_below h.fe hb, Nat.le_trans h.size hb.size, h.n7, h.nm, h.nw⟩
theorem Bs.next {N3 : Nat} (h : Bs w W N g7 bm A0 c0 a A1 c1 b vs ps A6 c6 out A5 l A8 il A9 es) (hN : N3 = W.heap.size) : Bs w W N3 g7 bm A0 c0 a A1 c1 b vs ps none 0 [] A1 b A6 out none [] := by
  have n7 := h.n7
  have nm := h.nm
  have nw := h.nw
  have hs := h.size
  exact ⟨h.sp.bound.weak (fun k hk => ⟨hk.1.1, by have := hk.2; omega⟩) (fun k hk => hk.1.1) (fun k hk => hk.1.2), Kd.R_nil _ _ _ _ _, Kd.F_mono (Kd.F_bound h.sp.f1) (fun k hk => by have := hk.2; omega), (freshS h.ro (fun k _ hk => by omega)).2, Kd.F_nil _ _ _, by omega, by omega, by omega, by omega⟩
end
theorem mem_int {l : List Int} {i : Nat} (h : i < l.length) : rd l (i : Int) ∈ l := by simp [rd, List.getD_eq_getElem?_getD, List.getElem?_eq_getElem h]
theorem drop_str {l : List ByteArray} {i : Nat} (h : i < l.length) : l.drop i = rdOf ByteArray.empty l (i : Int) :: l.drop (i + 1) := by
  rw [List.drop_eq_getElem_cons h]
  congr 1
  simp [rdOf, List.getD_eq_getElem?_getD, List.getElem?_eq_getElem h]
theorem mem_str {l : List ByteArray} {i : Nat} (h : i < l.length) : rdOf ByteArray.empty l (i : Int) ∈ l := by simp [rdOf, List.getD_eq_getElem?_getD, List.getElem?_eq_getElem h]
end Go.Proofs.Ytneagipmllgejaa.PL
end
section
set_option linter.unusedVariables false
set_option linter.unusedSimpArgs false
namespace Go.Proofs.Ytneagipmllgejaa.PL
open Go.RowKit Go.Proofs.YtneagipmllgejaaW.PrintWords Go.Proofs.YtneagipmllgejaaW.PrintLast Go.Proofs.YtneagipmllgejaaW.PrintMore Go.Proofs.YtneagipmllgejaaH
theorem less_tri {a b : ByteArray} (h1 : lessB a b = false) (h2 : lessB b a = false) : a = b := text_eq (bl_tri h1 h2)
theorem le_less {z y x : ByteArray} (h1 : lessB z y = false) (h2 : lessB z x = true) : lessB y x = true := by
  cases h : lessB y z with
  | true => exact less_trans h h2
  | false => rw [← less_tri h1 h]; exact h2
theorem cnt_mono {e x : ByteArray} (h : lessB e x = false) (a : List ByteArray) : cntLe x a ≤ cntLe e a := by
  unfold cntLe
  refine List.countP_mono_left fun y _ hy => ?_
  simp only [Bool.not_eq_true'] at hy ⊢
  cases h2 : lessB e y with
  | false => rfl
  | true => have := le_less h h2; rw [hy] at this; cases this
theorem less_of_cnt {e x : ByteArray} {a : List ByteArray} (h : cntLe e a < cntLe x a) : lessB e x = true := by
  cases h2 : lessB e x with
  | true => rfl
  | false => have := cnt_mono h2 a; omega
theorem not_less_of_cnt {e x : ByteArray} {a : List ByteArray} (h : cntLe x a < cntLe e a) : lessB e x = false := by
  cases h2 : lessB e x with
  | false => rfl
  | true => have := cnt_mono (less_asymm h2) a; omega
theorem cnt_ins (e x : ByteArray) (i : Nat) (a : List ByteArray) : cntLe e (insAt i x a) = cntLe e a + (if lessB e x = true then 0 else 1) := by
  have h : cntLe e a = cntLe e (a.take i) + cntLe e (a.drop i) := by unfold cntLe; rw [← List.countP_append, List.take_append_drop]
  rw [h]
  unfold cntLe insAt
  rw [List.countP_append, List.countP_cons]
  cases lessB e x <;> simp <;> omega
theorem mem_take_rs {l : List ByteArray} {k : Nat} {y : ByteArray} (h : y ∈ l.take k) : ∃ j, j < k ∧ j < l.length ∧ y = rdOf ByteArray.empty l (j : Int) := by
  obtain ⟨j, hj, e⟩ := List.getElem_of_mem h
  simp only [List.length_take] at hj
  refine ⟨j, by omega, by omega, ?_⟩
  rw [← e]
  simp [rdOf, List.getD_eq_getElem?_getD, List.getElem?_eq_getElem (show j < l.length by omega)]
theorem mem_drop_rs {l : List ByteArray} {k : Nat} {y : ByteArray} (h : y ∈ l.drop k) : ∃ j, k ≤ j ∧ j < l.length ∧ y = rdOf ByteArray.empty l (j : Int) := by
  obtain ⟨j, hj, e⟩ := List.getElem_of_mem h
  simp only [List.length_drop] at hj
  refine ⟨k + j, by omega, by omega, ?_⟩
  rw [← e, List.getElem_drop]
  simp only [rdOf, Int.toNat_natCast]
  rw [List.getD_eq_getElem?_getD, List.getElem?_eq_getElem (show k + j < l.length by omega)]
  rfl
theorem rise_ins {l : List ByteArray} {k : Nat} {x : ByteArray} (h : riseB l = true) (h1 : ∀ y ∈ l.take k, lessB y x = true) (h2 : ∀ y ∈ l.drop k, lessB x y = true) : riseB (insAt k x l) = true := by
  rw [riseB_pairwise] at h ⊢
  have h0 : (l.take k ++ l.drop k).Pairwise (fun a b => lessB a b = true) := by rw [List.take_append_drop]; exact h
  obtain ⟨a1, a2, a3⟩ := List.pairwise_append.1 h0
  unfold insAt
  refine List.pairwise_append.2 ⟨a1, List.pairwise_cons.2 ⟨h2, a2⟩, fun y hy z hz => ?_⟩
  rcases List.mem_cons.1 hz with rfl | hz
  · exact h1 y hy
  · exact a3 y hy z hz
theorem mem_ins {α : Type} {k : Nat} {x e : α} {l : List α} : e ∈ insAt k x l ↔ e = x ∨ e ∈ l := by
  unfold insAt
  rw [List.mem_append, List.mem_cons]
  constructor
  · rintro (h | h | h)
    · exact .inr (List.mem_of_mem_take h)
    · exact .inl h
    · exact .inr (List.mem_of_mem_drop h)
  · rintro (h | h)
    · exact .inr (.inl h)
    · rw [← List.take_append_drop k l] at h
      rcases List.mem_append.1 h with h | h
      · exact .inl h
      · exact .inr (.inr h)
theorem rd_ins {k : Nat} {x : Int} {l : List Int} (hk : k ≤ l.length) (j : Nat) : rd (insAt k x l) (j : Int) = if j < k then rd l (j : Int) else if j = k then x else rd l ((j - 1 : Nat) : Int) := by
  unfold insAt
  simp only [rd, List.getD_eq_getElem?_getD, Int.toNat_natCast]
  by_cases h1 : j < k
  · rw [if_pos h1, List.getElem?_append_left (by simp; omega), List.getElem?_take, if_pos h1]
  · rw [if_neg h1, List.getElem?_append_right (by simp; omega)]
    simp only [List.length_take, Nat.min_eq_left hk]
    by_cases h2 : j = k
    · subst h2
      simp
    · rw [if_neg h2]
      obtain ⟨m, rfl⟩ : ∃ m, j = k + (m + 1) := ⟨j - k - 1, by omega⟩
      have e1 : k + (m + 1) - k = m + 1 := by omega
      have e2 : k + (m + 1) - 1 = k + m := by omega
      rw [e1, e2, List.getElem?_cons_succ, List.getElem?_drop]
theorem rd_getElem {b : List Int} {i : Nat} (hi : i < b.length) : rd b (i : Int) = b[i] := by simp [rd, List.getD_eq_getElem?_getD, List.getElem?_eq_getElem hi]
theorem seen_iff : ∀ {l seen : List Int}, seenGo seen l = true ↔ l.Nodup ∧ ∀ x ∈ l, 1 ≤ x ∧ x ∉ seen
  | [], seen => by simp [seenGo]
  | n :: r, seen => by
    unfold seenGo
    by_cases h : (decide (n < 1) || seen.contains n) = true
    · rw [if_pos h]
      constructor
      · intro h2; cases h2
      · rintro ⟨_, h2⟩
        have h3 := h2 n (by simp)
        rcases Bool.or_eq_true_iff.1 h with h4 | h4
        · have := of_decide_eq_true h4; omega
        · exact absurd (List.contains_iff_mem.1 h4) h3.2
    · rw [if_neg h, seen_iff]
      have h5 : ¬ n < 1 ∧ n ∉ seen := by
        constructor
        · intro h6; exact h (by rw [decide_eq_true h6]; rfl)
        · intro h6; exact h (by rw [List.contains_iff_mem.2 h6]; simp)
      constructor
      · rintro ⟨h1, h2⟩
        refine ⟨List.nodup_cons.2 ⟨fun hm => (h2 n hm).2 (by simp), h1⟩, fun x hx => ?_⟩
        rcases List.mem_cons.1 hx with rfl | hx
        · exact ⟨by omega, h5.2⟩
        · exact ⟨(h2 x hx).1, fun hs => (h2 x hx).2 (List.mem_cons_of_mem _ hs)⟩
      · rintro ⟨h1, h2⟩
        obtain ⟨h7, h8⟩ := List.nodup_cons.1 h1
        refine ⟨h8, fun x hx => ⟨(h2 x (List.mem_cons_of_mem _ hx)).1, fun hs => ?_⟩⟩
        rcases List.mem_cons.1 hs with rfl | hs
        · exact h7 hx
        · exact (h2 x (List.mem_cons_of_mem _ hx)).2 hs
theorem rd_inj {b : List Int} (hn : b.Nodup) {i j : Nat} (hi : i < b.length) (hj : j < b.length) (h : rd b (i : Int) = rd b (j : Int)) : i = j := by
  rw [rd_getElem hi, rd_getElem hj] at h
  exact (List.getElem_inj hn).1 h
theorem nodup_ins {k : Nat} {x : Int} {l : List Int} (hn : l.Nodup) (hx : x ∉ l) : (insAt k x l).Nodup := by
  unfold insAt
  have h0 : (l.take k ++ l.drop k).Nodup := by rw [List.take_append_drop]; exact hn
  obtain ⟨a1, a2, a3⟩ := List.nodup_append.1 h0
  refine List.nodup_append.2 ⟨a1, List.nodup_cons.2 ⟨fun h => hx (List.mem_of_mem_drop h), a2⟩, fun y hy z hz => ?_⟩
  rcases List.mem_cons.1 hz with rfl | hz
  · rintro rfl; exact hx (List.mem_of_mem_take hy)
  · exact a3 y hy z hz
theorem fresh_from (l : List Int) : ∀ (f : Nat) (n : Int), l.countP (fun c => decide (n ≤ c)) < f → ∃ m, freshI l f n = some m ∧ n ≤ m ∧ m ∉ l
  | 0, n, h => absurd h (Nat.not_lt_zero _)
  | f + 1, n, h => by
    unfold freshI
    by_cases h1 : l.contains n = true
    · rw [if_pos h1]
      have hm : n ∈ l := List.contains_iff_mem.1 h1
      have hlt : l.countP (fun c => decide (n + 1 ≤ c)) < l.countP (fun c => decide (n ≤ c)) := by
        clear h h1
        induction l with
        | nil => cases hm
        | cons y r ih =>
          simp only [List.countP_cons]
          have hle : r.countP (fun c => decide (n + 1 ≤ c)) ≤ r.countP (fun c => decide (n ≤ c)) := List.countP_mono_left fun z _ hz => by
            have := of_decide_eq_true hz; exact decide_eq_true (by omega)
          rcases List.mem_cons.1 hm with rfl | hm
          · have e1 : decide (n + 1 ≤ n) = false := decide_eq_false (by omega)
            have e2 : decide (n ≤ n) = true := decide_eq_true (by omega)
            rw [e1, e2]; simp; omega
          · have := ih hm
            by_cases h3 : n + 1 ≤ y
            · have e1 : decide (n + 1 ≤ y) = true := decide_eq_true h3
              have e2 : decide (n ≤ y) = true := decide_eq_true (by omega)
              rw [e1, e2]; simp; omega
            · have e1 : decide (n + 1 ≤ y) = false := decide_eq_false h3
              rw [e1]; simp; omega
      obtain ⟨m, h4, h5, h6⟩ := fresh_from l f (n + 1) (by omega)
      exact ⟨m, h4, by omega, h6⟩
    · rw [if_neg h1]
      exact ⟨n, rfl, Int.le_refl _, fun hm => h1 (List.contains_iff_mem.2 hm)⟩
theorem fresh_some (l : List Int) : ∃ m, freshI l (l.length + 1) 1 = some m ∧ 1 ≤ m ∧ m ∉ l :=
  fresh_from l (l.length + 1) 1 (by have := List.countP_le_length (p := fun c : Int => decide ((1 : Int) ≤ c)) (l := l); omega)
end Go.Proofs.Ytneagipmllgejaa.PL
end
section
set_option linter.unusedVariables false
set_option linter.unusedSimpArgs false
namespace Go.Proofs.Ytneagipmllgejaa.PL
open Go.RowKit Go.Proofs.YtneagipmllgejaaW.PrintWords Go.Proofs.YtneagipmllgejaaW.PrintLast Go.Proofs.YtneagipmllgejaaW.PrintMore Go.Proofs.YtneagipmllgejaaH
/-- An index after at most n entries: the root, and the table's leaf for each of its numbers. -/
structure Grown (n : Nat) (a : List ByteArray) (b : List Int) (t : List (Int × S28)) : Prop where
  root : rootB a b = true
  len : b.length ≤ n + 1
  asz : ∀ s ∈ a, s.size ≤ 100
  lf : ∀ i : Nat, i < b.length → ∃ c, lkp (rd b (i : Int)) t = some c ∧ c.f0 = rd b (i : Int) ∧ c.f2 = false ∧ c.f1.length ≤ 4 ∧ riseB c.f1 = true ∧ (∀ e ∈ c.f1, cntLe e a = i) ∧ ∀ e ∈ c.f1, e.size ≤ 100
  tab : ∀ p ∈ t, p.2.f1.length ≤ 4 ∧ ∀ s ∈ p.2.f1, s.size ≤ 100
theorem Grown.more {n : Nat} {a : List ByteArray} {b : List Int} {t : List (Int × S28)} (h : Grown n a b t) : Grown (n + 1) a b t := ⟨h.root, by have := h.len; omega, h.asz, h.lf, h.tab⟩
theorem rise_insS {s : ByteArray} {es : List ByteArray} (h : riseB es = true) (hf : fndS s es = false) : riseB (insS s es) = true := by
  unfold insS
  have H := loS_at s h
  refine rise_ins h (fun y hy => ?_) (fun y hy => ?_)
  · obtain ⟨j, h1, h2, rfl⟩ := mem_take_rs hy
    exact H.lo j h1
  · obtain ⟨j, h1, h2, rfl⟩ := mem_drop_rs hy
    refine (at_iff h h2).2 ?_
    unfold atS
    rw [hf]
    simpa using h1
section
variable {n : Nat} {a : List ByteArray} {b : List Int} {t : List (Int × S28)}
end
theorem texts_self (l : List ByteArray) (hl : l.length ≤ 100000) : ∀ (d k i : Nat), i + d = l.length → d < k → cobwebref11_Texts.l0 k l l (i : Int) = some true := by
  intro d
  induction d with
  | zero =>
    intro k i hi hk
    obtain ⟨k, rfl⟩ : ∃ m, k = m + 1 := ⟨k - 1, by omega⟩
    simp only [cobwebref11_Texts.l0]
    rw [if_neg (by omega)]
  | succ d ih =>
    intro k i hi hk
    obtain ⟨k, rfl⟩ : ∃ m, k = m + 1 := ⟨k - 1, by omega⟩
    simp only [cobwebref11_Texts.l0]
    rw [if_pos (by omega), if_pos (by omega), if_pos (by omega), if_pos trivial, w64 (by omega) (by omega)]
    exact ih k (i + 1) (by omega) (by omega)
end Go.Proofs.Ytneagipmllgejaa.PL
end
