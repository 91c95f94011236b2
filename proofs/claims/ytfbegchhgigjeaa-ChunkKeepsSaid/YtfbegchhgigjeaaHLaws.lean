/- What the laws of chunk share, in plain lists. -/
import Derived.Test.YtfbegchhgigjeaaC23
import Derived.Test.YtfbegchhgigjeaaC21
import Derived.Test.YtfbegchhgigjeaaC34
import Derived.Test.YtfbegchhgigjeaaHGrow
set_option linter.unusedVariables false
set_option linter.unusedSimpArgs false
namespace Go.Proofs.Ytfbegchhgigjeaa.Pure
open Go.RowKit Go.Proofs.Ytfbegchhgigjeaa.PC Go.Proofs.YtfbegchhgigjeaaW.PrintWords Go.Proofs.YtfbegchhgigjeaaW.PrintLast
theorem awake_true : ∀ k, 50 ≤ k → cobweblaw10_awake.f k = some true := by
  have h : cobweblaw10_awake.f 50 = some true := by decide +kernel
  intro k hk
  have hm : ∀ d, cobweblaw10_awake.f (50 + d) = some true := by
    intro d
    induction d with
    | zero => exact h
    | succ d ih => exact cobweblaw10_awake.mono (50 + d) _ ih
  have := hm (k - 50)
  rwa [show 50 + (k - 50) = k by omega] at this
theorem w64 {x : Int} (h0 : -9223372036854775808 ≤ x) (h1 : x < 9223372036854775808) : wrap64 x = x := by unfold wrap64; omega
/-- Two lists that rise and have the same members. -/
theorem rise_eq : ∀ {a b : List Int}, a.Pairwise (· < ·) → b.Pairwise (· < ·) → (∀ x, x ∈ a ↔ x ∈ b) → a = b
  | [], [], _, _, _ => rfl
  | [], y :: b, _, _, h => by have := (h y).2 (by simp); simp at this
  | x :: a, [], _, _, h => by have := (h x).1 (by simp); simp at this
  | x :: a, y :: b, ha, hb, h => by
    obtain ⟨a1, a2⟩ := List.pairwise_cons.1 ha
    obtain ⟨b1, b2⟩ := List.pairwise_cons.1 hb
    have hxy : x = y := by
      rcases List.mem_cons.1 ((h x).1 (by simp)) with e | e
      · exact e
      · rcases List.mem_cons.1 ((h y).2 (by simp)) with e2 | e2
        · exact e2.symm
        · have := b1 x e; have := a1 y e2; omega
    subst hxy
    congr 1
    refine rise_eq a2 b2 fun z => ?_
    have hz := h z
    simp only [List.mem_cons] at hz
    constructor
    · intro hm
      rcases hz.1 (.inr hm) with e | e
      · have := a1 z hm; omega
      · exact e
    · intro hm
      rcases hz.2 (.inr hm) with e | e
      · have := b1 z hm; omega
      · exact e
theorem ints_from (l : List Int) (hl : l.length ≤ 1000000) : ∀ (d k i : Nat), i + d = l.length → d < k → cobwebref10_Ints.l0 k l l (i : Int) = some true := by
  intro d
  induction d with
  | zero =>
    intro k i hi hk
    obtain ⟨k, rfl⟩ : ∃ m, k = m + 1 := ⟨k - 1, by omega⟩
    simp only [cobwebref10_Ints.l0]
    rw [if_neg (by omega)]
  | succ d ih =>
    intro k i hi hk
    obtain ⟨k, rfl⟩ : ∃ m, k = m + 1 := ⟨k - 1, by omega⟩
    simp only [cobwebref10_Ints.l0]
    rw [if_pos (by omega), if_pos (by omega), if_pos (by omega), if_pos trivial, w64 (by omega) (by omega), show (i : Int) + 1 = ((i + 1 : Nat) : Int) by omega]
    exact ih k (i + 1) (by omega) (by omega)
theorem ints_self (l : List Int) (hl : l.length ≤ 1000000) {k : Nat} (hk : l.length < k) : cobwebref10_Ints.f k l l = some true := by
  unfold cobwebref10_Ints.f
  rw [if_pos rfl]
  exact ints_from l hl l.length k 0 (by omega) hk
/-- The id that a number stands for. -/
def key (x : Int) : Int := Int.tmod (wrap64 (Int.tmod x 100 + 100)) 100
theorem key_range (x : Int) : 0 ≤ key x ∧ key x < 100 := by
  have h1 := Int.tmod_lt_of_pos x (b := 100) (by omega)
  have h2 := Int.lt_tmod_of_pos x (b := 100) (by omega)
  unfold key
  rw [w64 (by omega) (by omega)]
  exact ⟨Int.tmod_nonneg _ (by omega), Int.tmod_lt_of_pos _ (by omega)⟩
/-- A chain that has just these ids, and is no longer than n. -/
structure Has (l : List S39) (n : Nat) (p : Int → Prop) : Prop where
  chain : Chain l
  len : l.length ≤ n
  ids : (idsOf l).length ≤ n
  mem : ∀ x, x ∈ idsOf l ↔ p x
theorem Has.nil : Has [] 0 (fun _ => False) := ⟨⟨by simp, by simp, trivial, trivial, by simp [idsOf], by simp [idsOf]⟩, by simp, by simp [idsOf], by simp [idsOf]⟩
/-- An id is laid, or it is there. -/
theorem Has.step {l : List S39} {n : Nat} {p : Int → Prop} (H : Has l n p) (hn : n ≤ 10000) (id : Int) (h0 : 0 ≤ id) (h1 : id < 100) :
    (∃ l', Has l' (n + 1) (fun x => p x ∨ x = id) ∧ ∃ ch, chunk_Insert.f l id = some (ch, 0) ∧ chunk_Apply.f l ch = some l') ∨ (Has l (n + 1) (fun x => p x ∨ x = id) ∧ chunk_Insert.f l id = some ([], 31)) := by
  have hl := H.len
  have hi := H.ids
  by_cases hm : id ∈ idsOf l
  · refine .inr ⟨⟨H.chain, by omega, by omega, fun x => ?_⟩, insert_twice H.chain h0 (by omega) (by omega) (by omega) hm⟩
    constructor
    · exact fun h => .inl ((H.mem x).1 h)
    · rintro (h | rfl)
      · exact (H.mem x).2 h
      · exact hm
  · obtain ⟨ch, l', h2, h3, h4, h5, h6, h7, _⟩ := insert_grow H.chain h0 (by omega) (by omega) (by omega) hm
    refine .inl ⟨l', ⟨h4, by omega, by omega, fun x => ?_⟩, ch, h2, h3⟩
    rw [h5, H.mem]
    exact Or.comm
theorem Has.congr {l : List S39} {n : Nat} {p q : Int → Prop} (H : Has l n p) (h : ∀ x, p x ↔ q x) : Has l n q := ⟨H.chain, H.len, H.ids, fun x => (H.mem x).trans (h x)⟩
theorem has_from (l : List Int) (x : Int) (hl : l.length ≤ 1000000) : ∀ (d k i : Nat), i + d = l.length → d < k → cobwebref10_Has.l0 k l x (i : Int) = some ((l.drop i).contains x) := by
  intro d
  induction d with
  | zero =>
    intro k i hi hk
    obtain ⟨k, rfl⟩ : ∃ m, k = m + 1 := ⟨k - 1, by omega⟩
    simp only [cobwebref10_Has.l0]
    rw [if_neg (by omega), List.drop_eq_nil_of_le (by omega)]
    rfl
  | succ d ih =>
    intro k i hi hk
    obtain ⟨k, rfl⟩ : ∃ m, k = m + 1 := ⟨k - 1, by omega⟩
    simp only [cobwebref10_Has.l0]
    rw [if_pos (by omega), if_pos (by omega), w64 (by omega) (by omega), show (i : Int) + 1 = ((i + 1 : Nat) : Int) by omega, drop_rd (by omega)]
    by_cases h : rd l (i : Int) = x
    · rw [if_pos h]; simp [h]
    · rw [if_neg h, ih k (i + 1) (by omega) (by omega)]
      have h2 : ¬ x = rd l (i : Int) := fun e => h e.symm
      simp [h2]
theorem has_spec (l : List Int) (x : Int) (hl : l.length ≤ 1000000) {k : Nat} (hk : l.length < k) : cobwebref10_Has.f k l x = some (l.contains x) := by
  have := has_from l x hl l.length k 0 (by omega) hk
  simpa [cobwebref10_Has.f] using this
end Go.Proofs.Ytfbegchhgigjeaa.Pure
