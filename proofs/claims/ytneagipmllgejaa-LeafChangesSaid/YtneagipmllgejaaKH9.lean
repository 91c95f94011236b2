/- A part of the proof: lemmas that the row uses, laid together by a program of this session's (pack.py) out of its texts and of what the kit's printer wrote for this seat. -/
import Derived.Maps.OwnSet
import Derived.Test.YtneagipmllgejaaKH0
import Derived.Test.YtneagipmllgejaaKH1
import Derived.Test.YtneagipmllgejaaKH2
import Derived.Test.YtneagipmllgejaaKH3
import Derived.Test.YtneagipmllgejaaKH4
import Derived.Test.YtneagipmllgejaaKH5
import Derived.Test.YtneagipmllgejaaKH6
import Derived.Test.YtneagipmllgejaaKH7
import Derived.Test.YtneagipmllgejaaKH8
section
set_option linter.unusedVariables false
set_option linter.unusedSimpArgs false
namespace Go.Proofs.YtneagipmllgejaaH
open Go.RowKit Go.Proofs.YtneagipmllgejaaW.PrintWords Go.Proofs.YtneagipmllgejaaW.PrintLast Go.Proofs.YtneagipmllgejaaW.PrintMore
section
variable {P : Program} {ops : Array Oper} {rest : List Oper} {o : Oper} {a : Act} {Q : Exit → Act → World → Prop} {w : World}
variable {Kc : Act → World → Prop} {W : World}
/-- A new block, as a step of a region that draws its order. -/
theorem alloc_step (hw : Region.wanted o (yielded ops a.tmps) = true) (v : Nat → Value) (obj : Obj) (hrun : (execOp a.eval o).run P W = .ok (.value (v W.heap.size)) (W.alloc obj))
    (h : ∀ g, g = W.heap.size → ∀ w1, w1.heap[g]? = some obj → Below W.heap.size W w1 → Kc (a.put o.dst (v g)) w1) : if Region.wanted o (yielded ops a.tmps) = true then Oper.wp P o a W Kc Q else Kc (a.put o.dst undef) W :=
  event_step hw hrun (h _ rfl _ (heap_alloc_new W _) (below_alloc (Below.refl _ _) _))
/-- A whole block is stored into, likewise. -/
theorem store_step (hw : Region.wanted o (yielded ops a.tmps) = true) {t : TypeId} {p x : Operand} (ho : o.op = .store t p x) (hN : o.dst = none) (g : Nat) (cur : Array Value) (e : TypeId) (cs : List Value) (hp : a.eval p = .pointer (some ⟨g, 0, none⟩)) (u : Value) (hx : a.eval x = u) (hu : u.cells.toList = cs)
    (hbox : W.heap[g]? = some (.cells cur e (0, 0))) (hsz : cs.length = cur.size) (ht : (P.info? t).map (·.size) = some cs.length) (h1 : ∀ q ∈ cs, q.oneCell' = true)
    (h : ∀ w1, w1.heap[g]? = some (.cells cs.toArray e (0, 0)) → W.grownBy w1 (some g) → w1.heap.size = W.heap.size → Kc a w1) : if Region.wanted o (yielded ops a.tmps) = true then Oper.wp P o a W Kc Q else Kc (a.put none undef) W := by
  have hrun := run_store_run (o := 0) t u cs hbox hu ht (by omega) h1
  obtain ⟨cur', h2, h3, h4⟩ := setCells_row cs 0 W cur hbox (by omega)
  obtain ⟨s1, s2, s3, s4⟩ := setCells_same g cs 0 W
  rw [if_pos hw]
  unfold Oper.wp
  simp only [execOp, ho, hp, hx, Sem.run_bind, hrun, Result.andThen_ok, Sem.run_pure]
  show Kc (a.put o.dst undef) _
  rw [hN]
  refine h _ ?_ ⟨s1, s2, s3, by omega, fun k hk hne => setCells_far cs 0 k (fun e => hne (by rw [e]))⟩ s4
  have h5 : cur' = cs.toArray := by
    apply Array.toList_inj.1
    rw [h4]
    simp only [List.take_zero, List.nil_append, Nat.zero_add]
    rw [List.drop_eq_nil_of_le (by rw [hsz, Array.length_toList]; omega)]
    simp
  rw [h2, h5]
end
end Go.Proofs.YtneagipmllgejaaH
namespace Go.Proofs.Ytneagipmllgejaa.PL
open Go.RowKit Go.Proofs.YtneagipmllgejaaW.PrintWords Go.Proofs.YtneagipmllgejaaW.PrintLast Go.Proofs.YtneagipmllgejaaW.PrintMore Go.Proofs.YtneagipmllgejaaH
section
variable {w W W1 : World} {ok ok' : Nat → Prop} {g7 bm g : Nat} {A0 : Option Addr} {c0 : Nat} {a : List ByteArray} {A1 : Option Addr} {c1 : Nat} {b : List Int} {vs : List (Int × Value)} {ps : List (Int × S28)} {A2 : Option Addr} {c2 : Nat} {ls : List S28}
/-- What an insert yields: a root's two rows, leaves; they lie in ok. -/
structure Rs (W : World) (ok : Nat → Prop) (A0 : Option Addr) (c0 : Nat) (a : List ByteArray) (A1 : Option Addr) (c1 : Nat) (b : List Int) (A2 : Option Addr) (c2 : Nat) (ls : List S28) : Prop where
  f0 : Kd.F Kd.string W ok A0 a.length a
  h0 : a.length ≤ c0
  f1 : Kd.F (Kd.int .i64) W ok A1 b.length b
  h1 : b.length ≤ c1
  f2 : Kd.F k28 W ok A2 ls.length ls
  h2 : ls.length ≤ c2
theorem Rs.grow (h : Rs W ok A0 c0 a A1 c1 b A2 c2 ls) (hb : Below W.heap.size W W1) : Rs W1 ok A0 c0 a A1 c1 b A2 c2 ls := ⟨Kd.F_below h.f0 hb, h.h0, Kd.F_below h.f1 hb, h.h1, Kd.F_below h.f2 hb, h.h2⟩
theorem Rs.mono (h : Rs W ok A0 c0 a A1 c1 b A2 c2 ls) (hok : ∀ k, ok k → ok' k) : Rs W ok' A0 c0 a A1 c1 b A2 c2 ls := ⟨Kd.F_mono h.f0 hok, h.h0, Kd.F_mono h.f1 hok, h.h1, Kd.F_mono h.f2 hok, h.h2⟩
theorem Rs.far (h : Rs W ok A0 c0 a A1 c1 b A2 c2 ls) (hg : W.grownBy W1 (some g)) (hok : ∀ k, ok k → k ≠ g) : Rs W1 ok A0 c0 a A1 c1 b A2 c2 ls :=
  have hk : ∀ k, ok k → some k ≠ some g := fun k h e => hok k h (Option.some.inj e)
  ⟨Kd.F_grown h.f0 hg hk, h.h0, Kd.F_grown h.f1 hg hk, h.h1, Kd.F_grown h.f2 hg hk, h.h2⟩
theorem Rs.alloc (h : Rs W ok A0 c0 a A1 c1 b A2 c2 ls) (hg : g = W.heap.size) (hb : Below W.heap.size W W1) : Rs W1 (fun k => ok k ∧ k ≠ g) A0 c0 a A1 c1 b A2 c2 ls :=
  Rs.grow ⟨Kd.F_mono (Kd.F_bound h.f0) (fun k hk => ⟨hk.1, by have := hk.2; omega⟩), h.h0, Kd.F_mono (Kd.F_bound h.f1) (fun k hk => ⟨hk.1, by have := hk.2; omega⟩), h.h1, Kd.F_mono (Kd.F_bound h.f2) (fun k hk => ⟨hk.1, by have := hk.2; omega⟩), h.h2⟩ hb
theorem Sp.alloc (h : Sp w W ok g7 bm A0 c0 a A1 c1 b vs ps) (hg : g = W.heap.size) (hb : Below W.heap.size W W1) : Sp w W1 (fun k => ok k ∧ k ≠ g) g7 bm A0 c0 a A1 c1 b vs ps ∧ g7 ≠ g ∧ bm ≠ g ∧ w.heap.size ≤ g := by
  have l7 := h.lt7
  have lm := h.ltm
  have hs := h.below.size
  exact ⟨(h.bound.weak (ok' := fun k => ok k ∧ k ≠ g) (fun k hk => ⟨hk.1, by have := hk.2; omega⟩) (fun k hk => h.k7 k hk.1) (fun k hk => h.km k hk.1)).grow hb, by omega, by omega, by omega⟩
end
/-- What the gathering loops hold. -/
structure Bs (w W : World) (N g7 bm : Nat) (A0 : Option Addr) (c0 : Nat) (a : List ByteArray) (A1 : Option Addr) (c1 : Nat) (b : List Int) (vs : List (Int × Value)) (ps : List (Int × S28)) (A6 : Option Addr) (c6 : Nat) (out : List ByteArray) (A5 : Option Addr) (l : List Int) (A8 : Option Addr) (il : List ByteArray) (A9 : Option Addr) (es : List ByteArray) : Prop where
  sp : Sp w W (fun k => (k ≠ g7 ∧ k ≠ bm) ∧ k < N) g7 bm A0 c0 a A1 c1 b vs ps
  ro : Kd.R Kd.string 9 W N (fun _ => True) (.slice A6 out.length c6) out
  fl : Kd.F (Kd.int .i64) W (fun k => k < N) A5 l.length l
  fi : Kd.F Kd.string W (fun k => k < N) A8 il.length il
  fe : Kd.F Kd.string W (fun k => k < N) A9 es.length es
  size : N ≤ W.heap.size
  n7 : g7 < N
  nm : bm < N
  nw : w.heap.size ≤ N
section
variable {w W W1 : World} {N g7 bm : Nat} {A0 : Option Addr} {c0 : Nat} {a : List ByteArray} {A1 : Option Addr} {c1 : Nat} {b : List Int} {vs : List (Int × Value)} {ps : List (Int × S28)} {A6 A6' : Option Addr} {c6 c6' : Nat} {out out' : List ByteArray} {A5 : Option Addr} {l : List Int} {A8 : Option Addr} {il : List ByteArray} {A9 A9' : Option Addr} {es es' : List ByteArray}
theorem Bs.first (h : Sp w W (fun k => k ≠ g7 ∧ k ≠ bm) g7 bm A0 c0 a A1 c1 b vs ps) (hN : N = W.heap.size) (hl : Kd.F (Kd.int .i64) W (fun k => k < N) A5 l.length l) : Bs w W N g7 bm A0 c0 a A1 c1 b vs ps none 0 [] A5 l none [] none [] := by
  have n7 := h.lt7
  have nm := h.ltm
  have hs := h.below.size
  exact ⟨h.bound.weak (fun k hk => ⟨hk.1, by have := hk.2; omega⟩) (fun k hk => hk.1.1) (fun k hk => hk.1.2), Kd.R_nil _ _ _ _ _, hl, Kd.F_nil _ _ _, Kd.F_nil _ _ _, by omega, by omega, by omega, by omega⟩
end
theorem mem_int {l : List Int} {i : Nat} (h : i < l.length) : rd l (i : Int) ∈ l := by simp [rd, List.getD_eq_getElem?_getD, List.getElem?_eq_getElem h]
theorem drop_str {l : List ByteArray} {i : Nat} (h : i < l.length) : l.drop i = rdOf ByteArray.empty l (i : Int) :: l.drop (i + 1) := by
  rw [List.drop_eq_getElem_cons h]
  congr 1
  simp [rdOf, List.getD_eq_getElem?_getD, List.getElem?_eq_getElem h]
theorem mem_str {l : List ByteArray} {i : Nat} (h : i < l.length) : rdOf ByteArray.empty l (i : Int) ∈ l := by simp [rdOf, List.getD_eq_getElem?_getD, List.getElem?_eq_getElem h]
end Go.Proofs.Ytneagipmllgejaa.PL
end
section
set_option linter.unusedVariables false
set_option linter.unusedSimpArgs false
namespace Go.Proofs.Ytneagipmllgejaa.PL
open Go.RowKit Go.Proofs.YtneagipmllgejaaW.PrintWords Go.Proofs.YtneagipmllgejaaW.PrintLast Go.Proofs.YtneagipmllgejaaW.PrintMore Go.Proofs.YtneagipmllgejaaH
theorem rd_getElem {b : List Int} {i : Nat} (hi : i < b.length) : rd b (i : Int) = b[i] := by simp [rd, List.getD_eq_getElem?_getD, List.getElem?_eq_getElem hi]
theorem seen_iff : ∀ {l seen : List Int}, seenGo seen l = true ↔ l.Nodup ∧ ∀ x ∈ l, 1 ≤ x ∧ x ∉ seen
  | [], seen => by simp [seenGo]
  | n :: r, seen => by
    unfold seenGo
    by_cases h : (decide (n < 1) || seen.contains n) = true
    · rw [if_pos h]
      constructor
      · intro h2; cases h2
      · rintro ⟨_, h2⟩
        have h3 := h2 n (by simp)
        rcases Bool.or_eq_true_iff.1 h with h4 | h4
        · have := of_decide_eq_true h4; omega
        · exact absurd (List.contains_iff_mem.1 h4) h3.2
    · rw [if_neg h, seen_iff]
      have h5 : ¬ n < 1 ∧ n ∉ seen := by
        constructor
        · intro h6; exact h (by rw [decide_eq_true h6]; rfl)
        · intro h6; exact h (by rw [List.contains_iff_mem.2 h6]; simp)
      constructor
      · rintro ⟨h1, h2⟩
        refine ⟨List.nodup_cons.2 ⟨fun hm => (h2 n hm).2 (by simp), h1⟩, fun x hx => ?_⟩
        rcases List.mem_cons.1 hx with rfl | hx
        · exact ⟨by omega, h5.2⟩
        · exact ⟨(h2 x hx).1, fun hs => (h2 x hx).2 (List.mem_cons_of_mem _ hs)⟩
      · rintro ⟨h1, h2⟩
        obtain ⟨h7, h8⟩ := List.nodup_cons.1 h1
        refine ⟨h8, fun x hx => ⟨(h2 x (List.mem_cons_of_mem _ hx)).1, fun hs => ?_⟩⟩
        rcases List.mem_cons.1 hs with rfl | hs
        · exact h7 hx
        · exact (h2 x (List.mem_cons_of_mem _ hx)).2 hs
theorem fresh_from (l : List Int) : ∀ (f : Nat) (n : Int), l.countP (fun c => decide (n ≤ c)) < f → ∃ m, freshI l f n = some m ∧ n ≤ m ∧ m ∉ l
  | 0, n, h => absurd h (Nat.not_lt_zero _)
  | f + 1, n, h => by
    unfold freshI
    by_cases h1 : l.contains n = true
    · rw [if_pos h1]
      have hm : n ∈ l := List.contains_iff_mem.1 h1
      have hlt : l.countP (fun c => decide (n + 1 ≤ c)) < l.countP (fun c => decide (n ≤ c)) := by
        clear h h1
        induction l with
        | nil => cases hm
        | cons y r ih =>
          simp only [List.countP_cons]
          have hle : r.countP (fun c => decide (n + 1 ≤ c)) ≤ r.countP (fun c => decide (n ≤ c)) := List.countP_mono_left fun z _ hz => by
            have := of_decide_eq_true hz; exact decide_eq_true (by omega)
          rcases List.mem_cons.1 hm with rfl | hm
          · have e1 : decide (n + 1 ≤ n) = false := decide_eq_false (by omega)
            have e2 : decide (n ≤ n) = true := decide_eq_true (by omega)
            rw [e1, e2]; simp; omega
          · have := ih hm
            by_cases h3 : n + 1 ≤ y
            · have e1 : decide (n + 1 ≤ y) = true := decide_eq_true h3
              have e2 : decide (n ≤ y) = true := decide_eq_true (by omega)
              rw [e1, e2]; simp; omega
            · have e1 : decide (n + 1 ≤ y) = false := decide_eq_false h3
              rw [e1]; simp; omega
      obtain ⟨m, h4, h5, h6⟩ := fresh_from l f (n + 1) (by omega)
      exact ⟨m, h4, by omega, h6⟩
    · rw [if_neg h1]
      exact ⟨n, rfl, Int.le_refl _, fun hm => h1 (List.contains_iff_mem.2 hm)⟩
theorem fresh_some (l : List Int) : ∃ m, freshI l (l.length + 1) 1 = some m ∧ 1 ≤ m ∧ m ∉ l :=
  fresh_from l (l.length + 1) 1 (by have := List.countP_le_length (p := fun c : Int => decide ((1 : Int) ≤ c)) (l := l); omega)
end Go.Proofs.Ytneagipmllgejaa.PL
end
section
set_option linter.unusedVariables false
set_option linter.unusedSimpArgs false
namespace Go.Proofs.Ytneagipmllgejaa.PL
open Go.RowKit Go.Proofs.YtneagipmllgejaaW.PrintWords Go.Proofs.YtneagipmllgejaaW.PrintLast Go.Proofs.YtneagipmllgejaaW.PrintMore Go.Proofs.YtneagipmllgejaaH
section
variable {n : Nat} {a : List ByteArray} {b : List Int} {t : List (Int × S28)}
end
theorem texts_self (l : List ByteArray) (hl : l.length ≤ 100000) : ∀ (d k i : Nat), i + d = l.length → d < k → cobwebref11_Texts.l0 k l l (i : Int) = some true := by
  intro d
  induction d with
  | zero =>
    intro k i hi hk
    obtain ⟨k, rfl⟩ : ∃ m, k = m + 1 := ⟨k - 1, by omega⟩
    simp only [cobwebref11_Texts.l0]
    rw [if_neg (by omega)]
  | succ d ih =>
    intro k i hi hk
    obtain ⟨k, rfl⟩ : ∃ m, k = m + 1 := ⟨k - 1, by omega⟩
    simp only [cobwebref11_Texts.l0]
    rw [if_pos (by omega), if_pos (by omega), if_pos (by omega), if_pos trivial, w64 (by omega) (by omega)]
    exact ih k (i + 1) (by omega) (by omega)
end Go.Proofs.Ytneagipmllgejaa.PL
end
