/- Chains, in plain lists: what 'Right' says. -/
import Derived.Test.YtfbegchhgigjeaaHSpec
set_option linter.unusedVariables false
set_option linter.unusedSimpArgs false
namespace Go.Proofs.Ytfbegchhgigjeaa.PC
open Go.RowKit
def Linked : List S39 → Prop
  | [] => True
  | c :: r => c.f2 = nextNo r ∧ Linked r
def Heads (first : Bool) : List S39 → Prop
  | [] => True
  | c :: r => (c.f0 = 0 ↔ first = true) ∧ (first = false → c.f1 ≠ []) ∧ Heads false r
/-- What 'Right' says from some place of a list on. -/
structure ChainGo (first : Bool) (last : Int) (seen : List Int) (l : List S39) : Prop where
  each : ∀ c ∈ l, c.f3 = false ∧ 0 ≤ c.f0 ∧ c.f1.length ≤ 4 ∧ c.f0 ∉ seen
  nums : (l.map (·.f0)).Pairwise (· ≠ ·)
  link : Linked l
  head : Heads first l
  rise : (idsOf l).Pairwise (· < ·)
  low : ∀ x ∈ idsOf l, last < x
theorem rightIds_of : ∀ {l : List Int} {a : Int}, l.Pairwise (· < ·) → (∀ x ∈ l, a < x) → ∃ b, rightIds a l = some b ∧ (b ∈ l ∨ (l = [] ∧ b = a))
  | [], a, _, _ => ⟨a, rfl, .inr ⟨rfl, rfl⟩⟩
  | x :: r, a, h, hl => by
    obtain ⟨h1, h2⟩ := List.pairwise_cons.1 h
    obtain ⟨b, hb, hm⟩ := rightIds_of (l := r) (a := x) h2 h1
    have hx : ¬ x ≤ a := by have := hl x (by simp); omega
    refine ⟨b, by simp only [rightIds, if_neg hx]; exact hb, .inl ?_⟩
    rcases hm with hm | ⟨_, rfl⟩
    · exact List.mem_cons_of_mem _ hm
    · simp
theorem wrong_false {first : Bool} {seen : List Int} {nx : Int} {c : S39} : wrongC first seen nx c = false ↔ (c.f3 = false ∧ 0 ≤ c.f0 ∧ c.f1.length ≤ 4 ∧ c.f0 ∉ seen) ∧ c.f2 = nx ∧ (c.f0 = 0 ↔ first = true) ∧ (first = false → c.f1 ≠ []) := by
  unfold wrongC
  cases first
  · simp only [Bool.or_eq_false_iff, Bool.and_eq_false_iff, bne_eq_false_iff_eq, decide_eq_false_iff_not, beq_eq_false_iff_ne, Bool.not_false, List.contains_eq_mem]
    constructor
    · rintro ⟨⟨⟨⟨⟨⟨h1, h2⟩, h3⟩, h4⟩, h5⟩, h6⟩, h7⟩
      exact ⟨⟨h1, by omega, by omega, h4⟩, h2, ⟨fun e => absurd e h5, fun e => by cases e⟩, fun _ e => by simp [e] at h7⟩
    · rintro ⟨⟨h1, h2, h3, h4⟩, h5, h6, h7⟩
      exact ⟨⟨⟨⟨⟨⟨h1, h5⟩, by omega⟩, h4⟩, fun e => by simpa using h6.1 e⟩, by omega⟩, .inr (fun e => h7 trivial (List.length_eq_zero_iff.1 e))⟩
  · simp only [Bool.or_eq_false_iff, bne_eq_false_iff_eq, decide_eq_false_iff_not, Bool.not_true, Bool.false_and, List.contains_eq_mem, beq_iff_eq]
    constructor
    · rintro ⟨⟨⟨⟨⟨⟨h1, h2⟩, h3⟩, h4⟩, h5⟩, h6⟩, h7⟩
      exact ⟨⟨h1, by omega, by omega, h4⟩, h2, ⟨fun _ => trivial, fun _ => h5⟩, fun e => by cases e⟩
    · rintro ⟨⟨h1, h2, h3, h4⟩, h5, h6, h7⟩
      exact ⟨⟨⟨⟨⟨⟨h1, h5⟩, by omega⟩, h4⟩, h6.2 trivial⟩, by omega⟩, trivial⟩
theorem chain_iff : ∀ {l : List S39} {first : Bool} {last : Int} {seen : List Int}, rightGo first last seen l = true ↔ ChainGo first last seen l
  | [], first, last, seen => by
    simp only [rightGo, true_iff]
    exact ⟨by simp, by simp, trivial, trivial, by simp [idsOf], by simp [idsOf]⟩
  | c :: r, first, last, seen => by
    unfold rightGo
    constructor
    · intro h
      split at h
      · cases h
      · rename_i hw
        have hw := wrong_false.1 (by simpa using hw)
        split at h
        · cases h
        · rename_i b hb
          obtain ⟨r1, r2, r3, r4⟩ := rightIds_rise hb
          have H := chain_iff.1 h
          refine ⟨?_, ?_, ⟨hw.2.1, H.link⟩, ⟨hw.2.2.1, hw.2.2.2, H.head⟩, ?_, ?_⟩
          · intro d hd
            rcases List.mem_cons.1 hd with rfl | hd
            · exact hw.1
            · obtain ⟨e1, e2, e3, e4⟩ := H.each d hd
              exact ⟨e1, e2, e3, fun hm => e4 (List.mem_cons_of_mem _ hm)⟩
          · rw [List.map_cons, List.pairwise_cons]
            refine ⟨fun y hy => ?_, H.nums⟩
            obtain ⟨d, hd, rfl⟩ := List.mem_map.1 hy
            intro e
            exact (H.each d hd).2.2.2 (by rw [← e]; simp)
          · rw [idsOf_cons, List.pairwise_append]
            exact ⟨r1, H.rise, fun x hx y hy => by have := r3 x hx; have := H.low y hy; omega⟩
          · intro x hx
            rw [idsOf_cons] at hx
            rcases List.mem_append.1 hx with hx | hx
            · exact r2 x hx
            · have := H.low x hx; omega
    · intro H
      have h1 := H.each c (by simp)
      have hw : wrongC first seen (nextNo r) c = false := wrong_false.2 ⟨h1, H.link.1, H.head.1, H.head.2.1⟩
      rw [if_neg (by simp [hw])]
      have hr := H.rise
      rw [idsOf_cons, List.pairwise_append] at hr
      obtain ⟨b, hb, hm⟩ := rightIds_of hr.1 (fun x hx => H.low x (by rw [idsOf_cons]; exact List.mem_append_left _ hx))
      rw [hb]
      refine chain_iff.2 ⟨?_, ?_, H.link.2, H.head.2.2, hr.2.1, ?_⟩
      · intro d hd
        obtain ⟨e1, e2, e3, e4⟩ := H.each d (List.mem_cons_of_mem _ hd)
        refine ⟨e1, e2, e3, fun hm2 => ?_⟩
        rcases List.mem_cons.1 hm2 with e | hm2
        · have hn := H.nums
          rw [List.map_cons, List.pairwise_cons] at hn
          exact hn.1 d.f0 (List.mem_map.2 ⟨d, hd, rfl⟩) e.symm
        · exact e4 hm2
      · have hn := H.nums
        rw [List.map_cons, List.pairwise_cons] at hn
        exact hn.2
      · intro y hy
        rcases hm with hm | ⟨_, rfl⟩
        · exact hr.2.2 b hm y hy
        · exact H.low y (by rw [idsOf_cons]; exact List.mem_append_right _ hy)
def Chain (l : List S39) : Prop := ChainGo true (-1) [] l
theorem right_iff {l : List S39} : chunk_Right.f l = some true ↔ Chain l := by
  unfold chunk_Right.f
  rw [Option.some.injEq]
  exact chain_iff
end Go.Proofs.Ytfbegchhgigjeaa.PC
