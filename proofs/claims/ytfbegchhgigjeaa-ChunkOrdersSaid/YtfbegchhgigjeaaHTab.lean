/- Apply, as lists: what the table holds, what comes out; the table's values beside it. -/
import Derived.Test.YtfbegchhgigjeaaHCl
set_option linter.unusedVariables false
set_option linter.unusedSimpArgs false
namespace Go.Proofs.Ytfbegchhgigjeaa.PC
open Go.RowKit Go.Proofs.YtfbegchhgigjeaaW.PrintWords Go.Proofs.YtfbegchhgigjeaaW.PrintLast Go.Proofs.YtfbegchhgigjeaaW.PrintMore Go.Proofs.YtfbegchhgigjeaaH
def tabGo : List (Int × S39) → List S39 → List (Int × S39)
  | ps, [] => ps
  | ps, c :: r => tabGo (putP c.f0 c ps) r
def tabOf (l : List S39) : List (Int × S39) := tabGo [] l
def applyGo : Nat → List (Int × S39) → Int → List S39
  | 0, _, _ => []
  | k + 1, ps, no => match lkp no ps with
    | none => []
    | some c => if c.f3 = true then [] else c :: (if c.f2 = 0 then [] else applyGo k (delP no ps) c.f2)
def chunk_Apply.f (l0 l1 : List S39) : Option (List S39) :=
  if l0.length ≤ 100000 ∧ l1.length ≤ 100000 ∧ (l0 ++ l1).all (fun c => decide (c.f1.length ≤ 1000000)) = true then some (applyGo ((tabOf (l0 ++ l1)).length + 1) (tabOf (l0 ++ l1)) 0) else none
theorem length_delP {α : Type} (k : Int) : ∀ {ps : List (Int × α)} {v : α}, lkp k ps = some v → (delP k ps).length + 1 = ps.length
  | [], v, h => by simp [lkp] at h
  | (a, u) :: r, v, h => by
    simp only [lkp] at h
    unfold delP
    split at h
    · rename_i e
      rw [if_pos e]; rfl
    · rename_i e
      rw [if_neg e]
      simp only [List.length_cons]
      have := length_delP k h
      omega
theorem length_tabGo : ∀ (l : List S39) (ps : List (Int × S39)), (tabGo ps l).length ≤ ps.length + l.length
  | [], ps => Nat.le_refl _
  | c :: r, ps => by
    have h1 := length_tabGo r (putP c.f0 c ps)
    have h2 := length_putP c.f0 c ps
    simp only [tabGo, List.length_cons]
    omega
theorem tab_all {p : S39 → Prop} : ∀ (l : List S39) (ps : List (Int × S39)), (∀ c ∈ l, p c) → (∀ q ∈ ps, p q.2) → ∀ q ∈ tabGo ps l, p q.2
  | [], ps, _, h => h
  | c :: r, ps, hl, h => by
    refine tab_all r (putP c.f0 c ps) (fun x hx => hl x (List.mem_cons_of_mem _ hx)) ?_
    have : ∀ ps : List (Int × S39), (∀ q ∈ ps, p q.2) → ∀ q ∈ putP c.f0 c ps, p q.2 := by
      intro ps
      induction ps with
      | nil => intro _ q hq; simp [putP] at hq; subst hq; exact hl c (by simp)
      | cons u r ih =>
        intro h q hq
        obtain ⟨a, u⟩ := u
        unfold putP at hq
        split at hq
        · rcases List.mem_cons.1 hq with rfl | hq
          · exact hl c (by simp)
          · exact h q (List.mem_cons_of_mem _ hq)
        · rcases List.mem_cons.1 hq with rfl | hq
          · exact h _ (by simp)
          · exact ih (fun q hq => h q (List.mem_cons_of_mem _ hq)) q hq
    exact this ps h
theorem del_all {α : Type} {p : Int × α → Prop} {k : Int} : ∀ {ps : List (Int × α)}, (∀ q ∈ ps, p q) → ∀ q ∈ delP k ps, p q
  | [], _ => by simp [delP]
  | (a, u) :: r, h => by
    intro q hq
    unfold delP at hq
    split at hq
    · exact h q (List.mem_cons_of_mem _ hq)
    · rcases List.mem_cons.1 hq with rfl | hq
      · exact h _ (by simp)
      · exact del_all (fun q hq => h q (List.mem_cons_of_mem _ hq)) q hq
/-- The table's values, beside the table. -/
def AllV (w : World) : List (Int × Value) → List (Int × S39) → Prop
  | [], [] => True
  | p :: vs, q :: ps => p.1 = q.1 ∧ (∃ cs, p.2 = .agg cs.toArray ∧ ValRow w q.2 cs) ∧ AllV w vs ps
  | _, _ => False
theorem AllV.lkp_some {w : World} {k : Int} {c : S39} : ∀ {vs : List (Int × Value)} {ps : List (Int × S39)}, AllV w vs ps → lkp k ps = some c → ∃ cs, lkp k vs = some (.agg cs.toArray) ∧ ValRow w c cs
  | [], [], _, h => by simp [lkp] at h
  | (a, u) :: vs, (b, d) :: ps, h, hk => by
    obtain ⟨h1, ⟨cs, h2, h3⟩, h4⟩ := h
    simp only at h1 h2
    subst h1
    simp only [lkp] at hk ⊢
    split at hk
    · rename_i e
      rw [if_pos e]
      obtain rfl := Option.some.inj hk
      exact ⟨cs, by rw [h2], h3⟩
    · rename_i e
      rw [if_neg e]
      exact h4.lkp_some hk
theorem AllV.lkp_none {w : World} {k : Int} : ∀ {vs : List (Int × Value)} {ps : List (Int × S39)}, AllV w vs ps → lkp k ps = none → lkp k vs = none
  | [], [], _, h => rfl
  | (a, u) :: vs, (b, d) :: ps, h, hk => by
    obtain ⟨h1, _, h4⟩ := h
    simp only at h1
    subst h1
    simp only [lkp] at hk ⊢
    split at hk
    · cases hk
    · rename_i e
      rw [if_neg e]
      exact h4.lkp_none hk
theorem AllV.put {w : World} {k : Int} {c : S39} {cs : List Value} (hv : ValRow w c cs) : ∀ {vs : List (Int × Value)} {ps : List (Int × S39)}, AllV w vs ps → AllV w (putP k (.agg cs.toArray) vs) (putP k c ps)
  | [], [], _ => ⟨rfl, ⟨cs, rfl, hv⟩, trivial⟩
  | (a, u) :: vs, (b, d) :: ps, h => by
    obtain ⟨h1, h2, h4⟩ := h
    simp only at h1
    subst h1
    unfold putP
    by_cases e : a = k
    · rw [if_pos e, if_pos e]
      exact ⟨rfl, ⟨cs, rfl, hv⟩, h4⟩
    · rw [if_neg e, if_neg e]
      exact ⟨rfl, h2, h4.put hv⟩
theorem AllV.del {w : World} {k : Int} : ∀ {vs : List (Int × Value)} {ps : List (Int × S39)}, AllV w vs ps → AllV w (delP k vs) (delP k ps)
  | [], [], _ => trivial
  | (a, u) :: vs, (b, d) :: ps, h => by
    obtain ⟨h1, h2, h4⟩ := h
    simp only at h1
    subst h1
    unfold delP
    by_cases e : a = k
    · rw [if_pos e, if_pos e]
      exact h4
    · rw [if_neg e, if_neg e]
      exact ⟨rfl, h2, h4.del⟩
/-- Block b is a table of chunks. -/
def MapOf (w : World) (W : World) (b : Nat) (ps : List (Int × S39)) : Prop := ∃ vs, IMap W b vs ∧ AllV w vs ps
end Go.Proofs.Ytfbegchhgigjeaa.PC
