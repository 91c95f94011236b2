/- Chunks whose ids lie in what came in: a kind of element that says so of every later world; slices.Clone of chunks. -/
/- Apply, as lists: what the table holds, what comes out; the table's values beside it. -/
import Derived.Test.YtfbegchhgigjeaaHEv
set_option linter.unusedVariables false
set_option linter.unusedSimpArgs false
namespace Go.Proofs.Ytfbegchhgigjeaa.PC
open Go.RowKit Go.Proofs.YtfbegchhgigjeaaW.PrintWords Go.Proofs.YtfbegchhgigjeaaW.PrintLast Go.Proofs.YtfbegchhgigjeaaW.PrintMore Go.Proofs.YtfbegchhgigjeaaH
/-- The cells of a chunk whose ids are there in every world behind w. -/
def ValRow (w : World) (x : S39) (cs : List Value) : Prop :=
  ∃ A1 c1, cs = [.int .i64 x.f0, .slice A1 x.f1.length c1, .int .i64 x.f2, .bool x.f3] ∧ x.f1.length ≤ c1 ∧ ∀ W, Below w.heap.size w W → Kd.C (Kd.int .i64) W A1 x.f1.length x.f1
def valKd (w : World) : Kd S39 where
  sz := 4
  E := []
  K := fun _ x cs => ValRow w x cs
  M := fun _ _ _ x cs => ValRow w x cs
  K_len := fun h => by obtain ⟨A1, c1, rfl, _⟩ := h; rfl
  K_one := fun h => by obtain ⟨A1, c1, rfl, _⟩ := h; exact one39 (.bool true) _ (.bool true) rfl _ _ _
  K_below := fun _ h => h
  K_of_M := fun h => h
  M_mono := fun _ h => h
  M_bound := fun h => h
  M_move := fun _ h => h
  M_lower := fun _ h => h
/-- What came in, so read. -/
theorem reads_val {w W : World} {A : Option Addr} {n : Nat} {xs : List S39} (h : Kd.C k39 w A n xs) (hb : Below w.heap.size w W) : ReadsRow (ValRow w) 4 W A n xs := by
  refine ⟨h.1, h.2.1, fun hp => ?_⟩
  obtain ⟨ad, rfl, hc⟩ := h.2.2 hp
  refine ⟨ad, rfl, fun j p hj => ?_⟩
  obtain ⟨c, hl, hK, hcell⟩ := hc j p hj
  obtain ⟨A1, c1, rfl, h1, h2⟩ := k39_open hK
  exact ⟨_, hl, ⟨A1, c1, rfl, h1, fun W' hW' => Kd.C_below h2 hW'⟩, fun i u hu => pw_cell_below hb (hcell i u hu)⟩
/-- Element i of a row that is read. -/
theorem at_val {w W : World} {A : Option Addr} {n : Nat} {xs : List S39} (h : ReadsRow (ValRow w) 4 W A n xs) (i : Nat) (h1 : i < n) :
    ∃ ad A1 c1, A = some ad ∧ W.cell? (ad.add (i * 4)) = some (.int .i64 (rd_T39 xs i).f0) ∧ W.cell? ⟨(ad.add (i * 4)).block, (ad.add (i * 4)).off + 1, none⟩ = some (.slice A1 (rd_T39 xs i).f1.length c1) ∧ W.cell? ⟨(ad.add (i * 4)).block, (ad.add (i * 4)).off + 2, none⟩ = some (.int .i64 (rd_T39 xs i).f2) ∧ W.cell? ⟨(ad.add (i * 4)).block, (ad.add (i * 4)).off + 3, none⟩ = some (.bool (rd_T39 xs i).f3) ∧ (rd_T39 xs i).f1.length ≤ c1 ∧ (∀ W', Below w.heap.size w W' → Kd.C (Kd.int .i64) W' A1 (rd_T39 xs i).f1.length (rd_T39 xs i).f1) := by
  obtain ⟨ad, c, rfl, hl, hR, hc0⟩ := ReadsRow.get_ h z39 (i : Int) (by omega) (by omega)
  simp only [Int.toNat_natCast] at hR hc0
  obtain ⟨A1, c1, rfl, h2, h3⟩ := hR
  have hc : ∀ j u, ([.int .i64 (xs.getD i z39).f0, .slice A1 (xs.getD i z39).f1.length c1, .int .i64 (xs.getD i z39).f2, .bool (xs.getD i z39).f3] : List Value)[j]? = some u → W.cell? (ad.add (i * 4 + j)) = some u := hc0
  refine ⟨ad, A1, c1, rfl, ?_, ?_, ?_, ?_, h2, h3⟩
  · exact hc 0 _ rfl
  · rw [← add_field _ _ 1 (by omega)]; exact hc 1 _ rfl
  · rw [← add_field _ _ 2 (by omega)]; exact hc 2 _ rfl
  · rw [← add_field _ _ 3 (by omega)]; exact hc 3 _ rfl
theorem val_nil (w W : World) (base : Nat) (g : Nat) (hg : W.heap[g]? = some (.cells #[] 39 (0, 0))) (hb : base ≤ g) : (valKd w).R 39 W base (fun _ => True) (.slice (some ⟨g, 0, none⟩) 0 0) [] :=
  ⟨fun _ _ => trivial, [], ⟨rfl, .inr ⟨g, 0, #[], rfl, hb, hg, Nat.le_refl _, by unfold maxLen; omega, rfl, rfl⟩⟩, Reps.none _ _⟩
/-- slices.Clone of chunks: their cells are copied. -/
theorem cloneC (w0 : World) (A0 : Option Addr) (c0 : Nat) (l0 : List S39) (w : World) (hr0 : Kd.C k39 w0 A0 l0.length l0) (hb0 : Below w0.heap.size w0 w) (hc0 : l0.length ≤ c0) (hl : l0.length ≤ 1000000) :
    Calls Try.prog 34 #[.slice A0 l0.length c0] w fun e w' => ∃ A' c', e = .returned (.slice A' l0.length c') ∧ l0.length ≤ c' ∧ (valKd w0).R 39 w' w.heap.size (fun _ => True) (.slice A' l0.length c') l0 ∧ Below w.heap.size w w' := by
  have HR := Lib.hid hr0; clear hr0
  have HB0 := Lib.hid hb0; clear hb0
  cases A0 with
  | none =>
    have h0 : l0 = [] := by
      rcases Nat.eq_zero_or_pos l0.length with h0 | h0
      · exact List.eq_nil_of_length_eq_zero h0
      · obtain ⟨ad, e, _⟩ := HR.out.2.2 h0
        cases e
    subst h0
    have hnil := fun (w : World) => Lib.run_eql_slice_nil (P := Try.prog) w 24 39 none 0 c0 0 0 Try.underlying24
    go_enter Try.func34, Try.ntmps34
    go_wp2
    go_ret
    exact ⟨_, _, rfl, Nat.le_refl _, Kd.R_nil _ _ _ _ _, Below.refl _ _⟩
  | some a =>
    have hnil := fun (w : World) => Lib.run_eql_slice_nil (P := Try.prog) w 24 39 (some a) l0.length c0 0 0 Try.underlying24
    go_enter Try.func34, Try.ntmps34
    go_wp2_with (at_builtin; go_loud (refine Kd.R_append_rows (valKd w0) (w0 := w) w.heap.size rfl _ _ 24 39 (.agg #[(.int .i64 0), (.slice none 0 0), (.int .i64 0), (.bool false)]) 48 rfl Try.underlying24 info39 rfl (show 0 < 4 by decide) (by omega) (.slice (some ⟨w.heap.size, 0, none⟩) 0 0) [] l0 (some a) _ _ (fun _ => True) (fun _ => False) rfl rfl ?c1 ?c2 (fun _ _ h => h) (fun _ h => h.elim) (fun _ _ => trivial) ?c3 ?c4 ?c5 ?_))
    case c1 => exact val_nil _ _ _ _ (heap_alloc_new w _) (Nat.le_refl _)
    case c2 => exact reads_val HR.out (below_alloc HB0.out _)
    case c3 => exact below_alloc (Below.refl _ _) _
    case c4 => simp
    case c5 => simp; omega
    intro v1 w1 hv hb _ _
    obtain ⟨A1, c1, rfl, h1, _⟩ := Kd.R_reads hv
    go_wp2
    go_ret
    exact ⟨_, _, rfl, h1, hv, hb⟩
end Go.Proofs.Ytfbegchhgigjeaa.PC

set_option linter.unusedVariables false
set_option linter.unusedSimpArgs false
namespace Go.Proofs.Ytfbegchhgigjeaa.PC
open Go.RowKit Go.Proofs.YtfbegchhgigjeaaW.PrintWords Go.Proofs.YtfbegchhgigjeaaW.PrintLast Go.Proofs.YtfbegchhgigjeaaW.PrintMore Go.Proofs.YtfbegchhgigjeaaH
def tabGo : List (Int × S39) → List S39 → List (Int × S39)
  | ps, [] => ps
  | ps, c :: r => tabGo (putP c.f0 c ps) r
def tabOf (l : List S39) : List (Int × S39) := tabGo [] l
def applyGo : Nat → List (Int × S39) → Int → List S39
  | 0, _, _ => []
  | k + 1, ps, no => match lkp no ps with
    | none => []
    | some c => if c.f3 = true then [] else c :: (if c.f2 = 0 then [] else applyGo k (delP no ps) c.f2)
def chunk_Apply.f (l0 l1 : List S39) : Option (List S39) :=
  if l0.length ≤ 100000 ∧ l1.length ≤ 100000 ∧ (l0 ++ l1).all (fun c => decide (c.f1.length ≤ 1000000)) = true then some (applyGo ((tabOf (l0 ++ l1)).length + 1) (tabOf (l0 ++ l1)) 0) else none
theorem length_delP {α : Type} (k : Int) : ∀ {ps : List (Int × α)} {v : α}, lkp k ps = some v → (delP k ps).length + 1 = ps.length
  | [], v, h => by simp [lkp] at h
  | (a, u) :: r, v, h => by
    simp only [lkp] at h
    unfold delP
    split at h
    · rename_i e
      rw [if_pos e]; rfl
    · rename_i e
      rw [if_neg e]
      simp only [List.length_cons]
      have := length_delP k h
      omega
theorem length_tabGo : ∀ (l : List S39) (ps : List (Int × S39)), (tabGo ps l).length ≤ ps.length + l.length
  | [], ps => Nat.le_refl _
  | c :: r, ps => by
    have h1 := length_tabGo r (putP c.f0 c ps)
    have h2 := length_putP c.f0 c ps
    simp only [tabGo, List.length_cons]
    omega
theorem tab_all {p : S39 → Prop} : ∀ (l : List S39) (ps : List (Int × S39)), (∀ c ∈ l, p c) → (∀ q ∈ ps, p q.2) → ∀ q ∈ tabGo ps l, p q.2
  | [], ps, _, h => h
  | c :: r, ps, hl, h => by
    refine tab_all r (putP c.f0 c ps) (fun x hx => hl x (List.mem_cons_of_mem _ hx)) ?_
    have : ∀ ps : List (Int × S39), (∀ q ∈ ps, p q.2) → ∀ q ∈ putP c.f0 c ps, p q.2 := by
      intro ps
      induction ps with
      | nil => intro _ q hq; simp [putP] at hq; subst hq; exact hl c (by simp)
      | cons u r ih =>
        intro h q hq
        obtain ⟨a, u⟩ := u
        unfold putP at hq
        split at hq
        · rcases List.mem_cons.1 hq with rfl | hq
          · exact hl c (by simp)
          · exact h q (List.mem_cons_of_mem _ hq)
        · rcases List.mem_cons.1 hq with rfl | hq
          · exact h _ (by simp)
          · exact ih (fun q hq => h q (List.mem_cons_of_mem _ hq)) q hq
    exact this ps h
theorem del_all {α : Type} {p : Int × α → Prop} {k : Int} : ∀ {ps : List (Int × α)}, (∀ q ∈ ps, p q) → ∀ q ∈ delP k ps, p q
  | [], _ => by simp [delP]
  | (a, u) :: r, h => by
    intro q hq
    unfold delP at hq
    split at hq
    · exact h q (List.mem_cons_of_mem _ hq)
    · rcases List.mem_cons.1 hq with rfl | hq
      · exact h _ (by simp)
      · exact del_all (fun q hq => h q (List.mem_cons_of_mem _ hq)) q hq
/-- The table's values, beside the table. -/
def AllV (w : World) : List (Int × Value) → List (Int × S39) → Prop
  | [], [] => True
  | p :: vs, q :: ps => p.1 = q.1 ∧ (∃ cs, p.2 = .agg cs.toArray ∧ ValRow w q.2 cs) ∧ AllV w vs ps
  | _, _ => False
theorem AllV.lkp_some {w : World} {k : Int} {c : S39} : ∀ {vs : List (Int × Value)} {ps : List (Int × S39)}, AllV w vs ps → lkp k ps = some c → ∃ cs, lkp k vs = some (.agg cs.toArray) ∧ ValRow w c cs
  | [], [], _, h => by simp [lkp] at h
  | (a, u) :: vs, (b, d) :: ps, h, hk => by
    obtain ⟨h1, ⟨cs, h2, h3⟩, h4⟩ := h
    simp only at h1 h2
    subst h1
    simp only [lkp] at hk ⊢
    split at hk
    · rename_i e
      rw [if_pos e]
      obtain rfl := Option.some.inj hk
      exact ⟨cs, by rw [h2], h3⟩
    · rename_i e
      rw [if_neg e]
      exact h4.lkp_some hk
theorem AllV.lkp_none {w : World} {k : Int} : ∀ {vs : List (Int × Value)} {ps : List (Int × S39)}, AllV w vs ps → lkp k ps = none → lkp k vs = none
  | [], [], _, h => rfl
  | (a, u) :: vs, (b, d) :: ps, h, hk => by
    obtain ⟨h1, _, h4⟩ := h
    simp only at h1
    subst h1
    simp only [lkp] at hk ⊢
    split at hk
    · cases hk
    · rename_i e
      rw [if_neg e]
      exact h4.lkp_none hk
theorem AllV.put {w : World} {k : Int} {c : S39} {cs : List Value} (hv : ValRow w c cs) : ∀ {vs : List (Int × Value)} {ps : List (Int × S39)}, AllV w vs ps → AllV w (putP k (.agg cs.toArray) vs) (putP k c ps)
  | [], [], _ => ⟨rfl, ⟨cs, rfl, hv⟩, trivial⟩
  | (a, u) :: vs, (b, d) :: ps, h => by
    obtain ⟨h1, h2, h4⟩ := h
    simp only at h1
    subst h1
    unfold putP
    by_cases e : a = k
    · rw [if_pos e, if_pos e]
      exact ⟨rfl, ⟨cs, rfl, hv⟩, h4⟩
    · rw [if_neg e, if_neg e]
      exact ⟨rfl, h2, h4.put hv⟩
theorem AllV.del {w : World} {k : Int} : ∀ {vs : List (Int × Value)} {ps : List (Int × S39)}, AllV w vs ps → AllV w (delP k vs) (delP k ps)
  | [], [], _ => trivial
  | (a, u) :: vs, (b, d) :: ps, h => by
    obtain ⟨h1, h2, h4⟩ := h
    simp only at h1
    subst h1
    unfold delP
    by_cases e : a = k
    · rw [if_pos e, if_pos e]
      exact h4
    · rw [if_neg e, if_neg e]
      exact ⟨rfl, h2, h4.del⟩
/-- Block b is a table of chunks. -/
def MapOf (w : World) (W : World) (b : Nat) (ps : List (Int × S39)) : Prop := ∃ vs, IMap W b vs ∧ AllV w vs ps
end Go.Proofs.Ytfbegchhgigjeaa.PC
