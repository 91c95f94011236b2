/- Proved: for every list of chunks and every id, cobweblaw10.ChunkChanges answers true and leaves its arguments as they were; no condition beside the given statement's own. -/
import Derived.WalkKit
import Derived.ProofKit
import Derived.OpenShut
import Derived.ShutString
import Derived.ChangeOld
import Derived.Below
import Derived.SizedLaws
import Derived.Test.YtfbegchhgigjeaaRows
import Derived.Test.YtfbegchhgigjeaaKC0
import Derived.Test.YtfbegchhgigjeaaKC1
import Derived.Test.YtfbegchhgigjeaaKC2
import Derived.Test.YtfbegchhgigjeaaKC3
import Derived.Test.YtfbegchhgigjeaaKC4
import Derived.Test.YtfbegchhgigjeaaKC5
import Derived.Test.YtfbegchhgigjeaaKC6
import Derived.Test.YtfbegchhgigjeaaKC7
import Derived.Test.YtfbegchhgigjeaaKC8
import Derived.Test.YtfbegchhgigjeaaKC9
import Derived.Test.YtfbegchhgigjeaaKC10
import Derived.Test.YtfbegchhgigjeaaKC11
section
namespace Go.Proofs.Ytfbegchhgigjeaa.chunkChanges
open Go.ChangeShapes Go.WideShapes Go.ChangeAt Go.RowKit
open Go.ChangeMaps (open_string shut_string)
set_option linter.unusedVariables false
def Plain : Prop := ∀ (l0 : List PC.S39) (a1 : Int), (Lit.int .i64 a1).wf = true → ∃ k, PC.cobweblaw10_ChunkChanges.f k l0 a1 = some true
theorem own : ownKnob Try.prog.godebug = none := by kernel_rfl
theorem laidOut : laidOutB Try.prog = true := by kernel_rfl
set_option maxRecDepth 100000 in
theorem lifted (HP : Plain) (os : Os) (started : os.Started) (H : Type) (enc : TypeId × Value → H) :
    ReturnsInHanded {} Try.checked os 4 .any (Rows.chunkChangesSpec.pre6 enc Try.prog Try.f4 Rows.chunkChangesRow.domain false) (Rows.chunkChangesSpec.post enc Try.prog Try.f4 false true false false) := by
  refine returnsInHanded_of_change_sized (C := Try.checked) own started (by kernel_rfl) Try.func4
    (ChangeSpec.witness6 (enc := enc) (C := Try.checked) false ⟨#[], #[.slice none 0 0, .int .i64 0], []⟩ 8 (by kernel_rfl) (by kernel_rfl) (by kernel_rfl) (by kernel_rfl)) ?_
  intro W base args ds gs before hval0 hW hcnd hsz0 _
  have hval : ∀ (j : Nat) t v, Try.f4.params[j]? = some t → args[j]? = some v → Value.okWide Try.prog W .any base t v := hval0
  have hW' := hW
  obtain ⟨p, q, hA0, hV, rfl, hfz, hnd⟩ := hW
  have hA : DataW.TrodAll enc Try.prog W 0 (fun _ => true) true Try.f4.params.toList args.toList ds p := hA0
  rw [Try.params4] at hA hval
  obtain ⟨v0, vs0, d0, ds0, p0, q0, hargs, rfl, rfl, h0, r0⟩ := trodAll_cons hA
  obtain ⟨v1, vs1, d1, ds1, p1, q1, rfl, rfl, rfl, h1, r1⟩ := trodAll_cons r0
  obtain ⟨rfl, rfl, rfl⟩ := trodAll_nil r1
  obtain rfl : args = #[v0, v1] := by cases args; simp_all
  obtain ⟨rfl, rfl⟩ := trodVars_none hV
  obtain ⟨a0, len0, cap0, rfl⟩ := okWide_slice Try.underlying24 (hval 0 24 v0 rfl rfl)
  have k0 := h0
  have lt0 : ∀ x ∈ p0, x.block < W.heap.size := by obtain ⟨m, hm⟩ := k0; exact DataW.trod_lt m _ _ _ hm
  obtain ⟨l0, hlen0, hcap0, hC0⟩ : ∃ l0 : List PC.S39, len0 = l0.length ∧ l0.length ≤ cap0 ∧ YtfbegchhgigjeaaW.PrintWords.Kd.C PC.k39 W a0 l0.length l0 := by
    obtain ⟨fuel, hf⟩ := h0
    obtain ⟨A, cap, l0, hcs, hl, _, hC⟩ := PC.open_chunks hf
    simp [Value.cells] at hcs
    obtain ⟨rfl, rfl, rfl⟩ := hcs
    exact ⟨l0, rfl, hl, hC⟩
  subst hlen0
  obtain ⟨a1, rfl, rfl, rfl, w1⟩ := open_int Try.underlying3 (hval 1 3 v1 rfl rfl) h1
  clear hA0 hval0 hsz0
  obtain ⟨k, hk⟩ := HP l0 a1 w1
  refine (PC.cobweblaw10_ChunkChanges.calls k a0 cap0 l0 a1 true W hC0 hcap0 hk).mono fun e W' ⟨he, bel⟩ => ?_
  subst he
  exact ⟨_, rfl, _, _, _, [], _, [], hW', trodAll_mk1 (shut_bool Try.underlying4 _), (trodAll_cons_mk (Below.trod laidOut (by kernel_rfl) (of_decide_eq_true (by kernel_rfl)) k0 bel lt0) (trodAll_cons_mk (shut_int Try.underlying3 w1) trodAll_mk0)), rfl, bel.frame _, fun h => by cases h⟩
theorem over (HP : Plain) : Rows.chunkChangesRow.holds Try.pinned (OpenSpec.ofChange Rows.chunkChangesSpec) :=
  OpenClaim.holds_of_wide 4 Try.f4 rfl rfl rfl rfl rfl rfl rfl ⟨rfl, rfl, rfl, rfl, rfl⟩ rfl rfl rfl rfl rfl (by kernel_rfl) Try.func4 (by kernel_rfl)
    (of_decide_eq_true (by kernel_rfl)) (by unfold Func.isWrapper; first | (rw [if_pos (by decide +kernel)]; kernel_rfl) | (rw [if_neg (by decide +kernel)]; exact ⟨rfl, rfl⟩))
    (fun os started H enc _ => lifted HP os started H enc)
end Go.Proofs.Ytfbegchhgigjeaa.chunkChanges
end
section
set_option linter.unusedVariables false
set_option linter.unusedSimpArgs false
namespace Go.Proofs.Ytfbegchhgigjeaa.PC
open Go.RowKit Go.Proofs.YtfbegchhgigjeaaW.PrintWords Go.Proofs.YtfbegchhgigjeaaW.PrintLast Go.Proofs.YtfbegchhgigjeaaW.PrintMore Go.Proofs.YtfbegchhgigjeaaH
end Go.Proofs.Ytfbegchhgigjeaa.PC
set_option linter.unusedVariables false
set_option linter.unusedSimpArgs false
namespace Go.Proofs.Ytfbegchhgigjeaa.PC
open Go.RowKit Go.Proofs.YtfbegchhgigjeaaW.PrintWords Go.Proofs.YtfbegchhgigjeaaW.PrintLast Go.Proofs.YtfbegchhgigjeaaW.PrintMore Go.Proofs.YtfbegchhgigjeaaH
def tabGo : List (Int × S39) → List S39 → List (Int × S39)
  | ps, [] => ps
  | ps, c :: r => tabGo (putP c.f0 c ps) r
def tabOf (l : List S39) : List (Int × S39) := tabGo [] l
def applyGo : Nat → List (Int × S39) → Int → List S39
  | 0, _, _ => []
  | k + 1, ps, no => match lkp no ps with
    | none => []
    | some c => if c.f3 = true then [] else c :: (if c.f2 = 0 then [] else applyGo k (delP no ps) c.f2)
def chunk_Apply.f (l0 l1 : List S39) : Option (List S39) :=
  if l0.length ≤ 100000 ∧ l1.length ≤ 100000 ∧ (l0 ++ l1).all (fun c => decide (c.f1.length ≤ 1000000)) = true then some (applyGo ((tabOf (l0 ++ l1)).length + 1) (tabOf (l0 ++ l1)) 0) else none
end Go.Proofs.Ytfbegchhgigjeaa.PC
end
section
set_option linter.unusedVariables false
set_option linter.unusedSimpArgs false
namespace Go.Proofs.Ytfbegchhgigjeaa.PC
open Go.RowKit
def Linked : List S39 → Prop
  | [] => True
  | c :: r => c.f2 = nextNo r ∧ Linked r
def Heads (first : Bool) : List S39 → Prop
  | [] => True
  | c :: r => (c.f0 = 0 ↔ first = true) ∧ (first = false → c.f1 ≠ []) ∧ Heads false r
/-- What 'Right' says from some place of a list on. -/
structure ChainGo (first : Bool) (last : Int) (seen : List Int) (l : List S39) : Prop where
  each : ∀ c ∈ l, c.f3 = false ∧ 0 ≤ c.f0 ∧ c.f1.length ≤ 4 ∧ c.f0 ∉ seen
  nums : (l.map (·.f0)).Pairwise (· ≠ ·)
  link : Linked l
  head : Heads first l
  rise : (idsOf l).Pairwise (· < ·)
  low : ∀ x ∈ idsOf l, last < x
theorem rightIds_of : ∀ {l : List Int} {a : Int}, l.Pairwise (· < ·) → (∀ x ∈ l, a < x) → ∃ b, rightIds a l = some b ∧ (b ∈ l ∨ (l = [] ∧ b = a))
  | [], a, _, _ => ⟨a, rfl, .inr ⟨rfl, rfl⟩⟩
  | x :: r, a, h, hl => by
    obtain ⟨h1, h2⟩ := List.pairwise_cons.1 h
    obtain ⟨b, hb, hm⟩ := rightIds_of (l := r) (a := x) h2 h1
    have hx : ¬ x ≤ a := by have := hl x (by simp); omega
    refine ⟨b, by simp only [rightIds, if_neg hx]; exact hb, .inl ?_⟩
    rcases hm with hm | ⟨_, rfl⟩
    · exact List.mem_cons_of_mem _ hm
    · simp
theorem wrong_false {first : Bool} {seen : List Int} {nx : Int} {c : S39} : wrongC first seen nx c = false ↔ (c.f3 = false ∧ 0 ≤ c.f0 ∧ c.f1.length ≤ 4 ∧ c.f0 ∉ seen) ∧ c.f2 = nx ∧ (c.f0 = 0 ↔ first = true) ∧ (first = false → c.f1 ≠ []) := by
  unfold wrongC
  cases first
  · simp only [Bool.or_eq_false_iff, Bool.and_eq_false_iff, bne_eq_false_iff_eq, decide_eq_false_iff_not, beq_eq_false_iff_ne, Bool.not_false, List.contains_eq_mem]
    constructor
    · rintro ⟨⟨⟨⟨⟨⟨h1, h2⟩, h3⟩, h4⟩, h5⟩, h6⟩, h7⟩
      exact ⟨⟨h1, by omega, by omega, h4⟩, h2, ⟨fun e => absurd e h5, fun e => by cases e⟩, fun _ e => by simp [e] at h7⟩
    · rintro ⟨⟨h1, h2, h3, h4⟩, h5, h6, h7⟩
      exact ⟨⟨⟨⟨⟨⟨h1, h5⟩, by omega⟩, h4⟩, fun e => by simpa using h6.1 e⟩, by omega⟩, .inr (fun e => h7 trivial (List.length_eq_zero_iff.1 e))⟩
  · simp only [Bool.or_eq_false_iff, bne_eq_false_iff_eq, decide_eq_false_iff_not, Bool.not_true, Bool.false_and, List.contains_eq_mem, beq_iff_eq]
    constructor
    · rintro ⟨⟨⟨⟨⟨⟨h1, h2⟩, h3⟩, h4⟩, h5⟩, h6⟩, h7⟩
      exact ⟨⟨h1, by omega, by omega, h4⟩, h2, ⟨fun _ => trivial, fun _ => h5⟩, fun e => by cases e⟩
    · rintro ⟨⟨h1, h2, h3, h4⟩, h5, h6, h7⟩
      exact ⟨⟨⟨⟨⟨⟨h1, h5⟩, by omega⟩, h4⟩, h6.2 trivial⟩, by omega⟩, trivial⟩
theorem chain_iff : ∀ {l : List S39} {first : Bool} {last : Int} {seen : List Int}, rightGo first last seen l = true ↔ ChainGo first last seen l
  | [], first, last, seen => by
    simp only [rightGo, true_iff]
    exact ⟨by simp, by simp, trivial, trivial, by simp [idsOf], by simp [idsOf]⟩
  | c :: r, first, last, seen => by
    unfold rightGo
    constructor
    · intro h
      split at h
      · cases h
      · rename_i hw
        have hw := wrong_false.1 (by simpa using hw)
        split at h
        · cases h
        · rename_i b hb
          obtain ⟨r1, r2, r3, r4⟩ := rightIds_rise hb
          have H := chain_iff.1 h
          refine ⟨?_, ?_, ⟨hw.2.1, H.link⟩, ⟨hw.2.2.1, hw.2.2.2, H.head⟩, ?_, ?_⟩
          · intro d hd
            rcases List.mem_cons.1 hd with rfl | hd
            · exact hw.1
            · obtain ⟨e1, e2, e3, e4⟩ := H.each d hd
              exact ⟨e1, e2, e3, fun hm => e4 (List.mem_cons_of_mem _ hm)⟩
          · rw [List.map_cons, List.pairwise_cons]
            refine ⟨fun y hy => ?_, H.nums⟩
            obtain ⟨d, hd, rfl⟩ := List.mem_map.1 hy
            intro e
            exact (H.each d hd).2.2.2 (by rw [← e]; simp)
          · rw [idsOf_cons, List.pairwise_append]
            exact ⟨r1, H.rise, fun x hx y hy => by have := r3 x hx; have := H.low y hy; omega⟩
          · intro x hx
            rw [idsOf_cons] at hx
            rcases List.mem_append.1 hx with hx | hx
            · exact r2 x hx
            · have := H.low x hx; omega
    · intro H
      have h1 := H.each c (by simp)
      have hw : wrongC first seen (nextNo r) c = false := wrong_false.2 ⟨h1, H.link.1, H.head.1, H.head.2.1⟩
      rw [if_neg (by simp [hw])]
      have hr := H.rise
      rw [idsOf_cons, List.pairwise_append] at hr
      obtain ⟨b, hb, hm⟩ := rightIds_of hr.1 (fun x hx => H.low x (by rw [idsOf_cons]; exact List.mem_append_left _ hx))
      rw [hb]
      refine chain_iff.2 ⟨?_, ?_, H.link.2, H.head.2.2, hr.2.1, ?_⟩
      · intro d hd
        obtain ⟨e1, e2, e3, e4⟩ := H.each d (List.mem_cons_of_mem _ hd)
        refine ⟨e1, e2, e3, fun hm2 => ?_⟩
        rcases List.mem_cons.1 hm2 with e | hm2
        · have hn := H.nums
          rw [List.map_cons, List.pairwise_cons] at hn
          exact hn.1 d.f0 (List.mem_map.2 ⟨d, hd, rfl⟩) e.symm
        · exact e4 hm2
      · have hn := H.nums
        rw [List.map_cons, List.pairwise_cons] at hn
        exact hn.2
      · intro y hy
        rcases hm with hm | ⟨_, rfl⟩
        · exact hr.2.2 b hm y hy
        · exact H.low y (by rw [idsOf_cons]; exact List.mem_append_right _ hy)
def Chain (l : List S39) : Prop := ChainGo true (-1) [] l
end Go.Proofs.Ytfbegchhgigjeaa.PC
set_option linter.unusedVariables false
set_option linter.unusedSimpArgs false
namespace Go.Proofs.Ytfbegchhgigjeaa.PC
open Go.RowKit Go.Proofs.YtfbegchhgigjeaaH Go.Proofs.YtfbegchhgigjeaaW.PrintWords Go.Proofs.YtfbegchhgigjeaaW.PrintLast
theorem freshNo_some (l : List S39) : ∀ (f : Nat) (n : Int), (l.countP (fun c => decide (n ≤ c.f0))) < f → ∃ m, freshNo l f n = some m ∧ n ≤ m ∧ ∀ c ∈ l, c.f0 ≠ m
  | 0, n, h => by omega
  | f + 1, n, h => by
    unfold freshNo
    by_cases ha : l.any (fun c => c.f0 == n) = true
    · rw [if_pos ha]
      have hlt : l.countP (fun c => decide (n + 1 ≤ c.f0)) < l.countP (fun c => decide (n ≤ c.f0)) := by
        clear h
        induction l with
        | nil => simp at ha
        | cons d r ih =>
          simp only [List.any_cons, Bool.or_eq_true, beq_iff_eq] at ha
          simp only [List.countP_cons, decide_eq_true_eq]
          have hle : r.countP (fun c => decide (n + 1 ≤ c.f0)) ≤ r.countP (fun c => decide (n ≤ c.f0)) := List.countP_mono_left (fun x _ hx => by simp at hx ⊢; omega)
          rcases ha with ha | ha
          · rw [if_neg (by omega), if_pos (by omega)]; omega
          · have := ih ha
            split <;> split <;> omega
      obtain ⟨m, h1, h2, h3⟩ := freshNo_some l f (n + 1) (by omega)
      exact ⟨m, h1, by omega, h3⟩
    · rw [if_neg ha]
      refine ⟨n, rfl, Int.le_refl _, fun c hc e => ha ?_⟩
      exact List.any_eq_true.2 ⟨c, hc, by simp [e]⟩
theorem fresh_some (l : List S39) (h : l.length ≤ 1000000) : ∃ m, chunk_fresh.f l = some m ∧ 1 ≤ m ∧ ∀ c ∈ l, c.f0 ≠ m := by
  obtain ⟨m, h1, h2, h3⟩ := freshNo_some l (l.length + 1) 1 (by have := List.countP_le_length (p := fun c : S39 => decide ((1 : Int) ≤ c.f0)) (l := l); omega)
  exact ⟨m, by unfold chunk_fresh.f; rw [if_pos h]; exact h1, h2, h3⟩
theorem placeGo_spec (id : Int) : ∀ (l : List S39) (at_ i : Int), (placeGo id at_ i l = at_ ∧ ∀ d ∈ l, ¬ (0 < d.f1.length ∧ rd d.f1 0 ≤ id)) ∨ ∃ a c b, l = a ++ c :: b ∧ placeGo id at_ i l = i + a.length ∧ (0 < c.f1.length ∧ rd c.f1 0 ≤ id) ∧ ∀ d ∈ b, ¬ (0 < d.f1.length ∧ rd d.f1 0 ≤ id)
  | [], at_, i => .inl ⟨rfl, by simp⟩
  | c :: r, at_, i => by
    unfold placeGo
    by_cases hc : 0 < c.f1.length ∧ rd c.f1 0 ≤ id
    · rw [if_pos hc]
      rcases placeGo_spec id r i (i + 1) with ⟨h1, h2⟩ | ⟨a, d, b, rfl, h1, h2, h3⟩
      · exact .inr ⟨[], c, r, rfl, by rw [h1]; simp, hc, h2⟩
      · exact .inr ⟨c :: a, d, b, rfl, by rw [h1]; simp; omega, h2, h3⟩
    · rw [if_neg hc]
      rcases placeGo_spec id r at_ (i + 1) with ⟨h1, h2⟩ | ⟨a, d, b, rfl, h1, h2, h3⟩
      · exact .inl ⟨h1, fun d hd => by rcases List.mem_cons.1 hd with rfl | hd; exact hc; exact h2 d hd⟩
      · exact .inr ⟨c :: a, d, b, rfl, by rw [h1]; simp; omega, h2, h3⟩
theorem rd_head {x : Int} {l : List Int} : rd (x :: l) 0 = x := rfl
theorem mem_idsOf {l : List S39} {x : Int} : x ∈ idsOf l ↔ ∃ c ∈ l, x ∈ c.f1 := by simp [idsOf]
theorem heads_false : ∀ {l : List S39}, Heads false l → ∀ c ∈ l, c.f0 ≠ 0 ∧ c.f1 ≠ []
  | c :: r, h, d, hd => by
    obtain ⟨h1, h2, h3⟩ := h
    rcases List.mem_cons.1 hd with rfl | hd
    · exact ⟨fun e => by simpa using h1.1 e, h2 rfl⟩
    · exact heads_false h3 d hd
/-- Where an id goes. -/
theorem place_split {l : List S39} (H : Chain l) (id : Int) (hne : l ≠ []) (hni : id ∉ idsOf l) : ∃ a c b, l = a ++ c :: b ∧ placeGo id 0 0 l = (a.length : Int) ∧ (∀ x ∈ idsOf a, x < id) ∧ (∀ x ∈ idsOf b, id < x) := by
  have hb : ∀ b : List S39, (∀ d ∈ b, d.f1 ≠ []) → (∀ d ∈ b, d.f1.Pairwise (· < ·)) → (∀ d ∈ b, ¬ (0 < d.f1.length ∧ rd d.f1 0 ≤ id)) → ∀ x ∈ idsOf b, id < x := by
    intro b h1 h2 h3 x hx
    obtain ⟨d, hd, hx⟩ := mem_idsOf.1 hx
    have e1 := h1 d hd
    have e2 := h2 d hd
    have e3 := h3 d hd
    cases hf : d.f1 with
    | nil => exact absurd hf e1
    | cons y r =>
      rw [hf] at e2 e3 hx
      rw [rd_head] at e3
      have e4 : id < y := by
        have : ¬ y ≤ id := fun h => e3 ⟨by simp, h⟩
        omega
      rcases List.mem_cons.1 hx with rfl | hx
      · exact e4
      · have := (List.pairwise_cons.1 e2).1 x hx; omega
  have hp : ∀ d ∈ l, d.f1.Pairwise (· < ·) := fun d hd => (rightGo_mem (chain_iff.2 H) d hd).1
  cases l with
  | nil => exact absurd rfl hne
  | cons c0 r =>
    have hh := heads_false H.head.2.2
    have hp0 : placeGo id 0 0 (c0 :: r) = placeGo id 0 1 r := by
      show placeGo id (if 0 < c0.f1.length ∧ rd c0.f1 0 ≤ id then 0 else 0) (0 + 1) r = _
      rw [ite_self, Int.zero_add]
    rcases placeGo_spec id r 0 1 with ⟨h1, h2⟩ | ⟨a, c, b, hr, h1, h2, h3⟩
    · exact ⟨[], c0, r, rfl, by rw [hp0, h1]; simp, by simp [idsOf], hb r (fun d hd => (hh d hd).2) (fun d hd => hp d (List.mem_cons_of_mem _ hd)) h2⟩
    · subst hr
      refine ⟨c0 :: a, c, b, rfl, by rw [hp0, h1]; simp; omega, ?_, hb b (fun d hd => (hh d (by simp [hd])).2) (fun d hd => hp d (by simp [hd])) h3⟩
      intro x hx
      have hri := H.rise
      rw [show c0 :: (a ++ c :: b) = (c0 :: a) ++ c :: b from rfl, idsOf_append, idsOf_cons, List.pairwise_append] at hri
      cases hf : c.f1 with
      | nil => rw [hf] at h2; simp at h2
      | cons y r =>
        rw [hf, rd_head] at h2
        have := hri.2.2 x hx y (by rw [idsOf_cons, hf]; simp)
        omega
end Go.Proofs.Ytfbegchhgigjeaa.PC
namespace Go.Proofs.Ytfbegchhgigjeaa.PC
open Go.RowKit Go.Proofs.YtfbegchhgigjeaaH Go.Proofs.YtfbegchhgigjeaaW.PrintWords Go.Proofs.YtfbegchhgigjeaaW.PrintLast
theorem rd_mid (a : List S39) (c : S39) (b : List S39) : rd_T39 (a ++ c :: b) (a.length : Int) = c := by
  simp [rd_T39, List.getD_eq_getElem?_getD]
end Go.Proofs.Ytfbegchhgigjeaa.PC
namespace Go.Proofs.Ytfbegchhgigjeaa.PC
open Go.RowKit Go.Proofs.YtfbegchhgigjeaaH Go.Proofs.YtfbegchhgigjeaaW.PrintWords Go.Proofs.YtfbegchhgigjeaaW.PrintLast
end Go.Proofs.Ytfbegchhgigjeaa.PC
end
section
set_option linter.unusedVariables false
set_option linter.unusedSimpArgs false
namespace Go.Proofs.Ytfbegchhgigjeaa.Pure
open Go.RowKit Go.Proofs.Ytfbegchhgigjeaa.PC Go.Proofs.YtfbegchhgigjeaaW.PrintWords Go.Proofs.YtfbegchhgigjeaaW.PrintLast
theorem awake_true : ∀ k, 50 ≤ k → cobweblaw10_awake.f k = some true := by
  have h : cobweblaw10_awake.f 50 = some true := by decide +kernel
  intro k hk
  have hm : ∀ d, cobweblaw10_awake.f (50 + d) = some true := by
    intro d
    induction d with
    | zero => exact h
    | succ d ih => exact cobweblaw10_awake.mono (50 + d) _ ih
  have := hm (k - 50)
  rwa [show 50 + (k - 50) = k by omega] at this
theorem w64 {x : Int} (h0 : -9223372036854775808 ≤ x) (h1 : x < 9223372036854775808) : wrap64 x = x := by unfold wrap64; omega
theorem ints_from (l : List Int) (hl : l.length ≤ 1000000) : ∀ (d k i : Nat), i + d = l.length → d < k → cobwebref10_Ints.l0 k l l (i : Int) = some true := by
  intro d
  induction d with
  | zero =>
    intro k i hi hk
    obtain ⟨k, rfl⟩ : ∃ m, k = m + 1 := ⟨k - 1, by omega⟩
    simp only [cobwebref10_Ints.l0]
    rw [if_neg (by omega)]
  | succ d ih =>
    intro k i hi hk
    obtain ⟨k, rfl⟩ : ∃ m, k = m + 1 := ⟨k - 1, by omega⟩
    simp only [cobwebref10_Ints.l0]
    rw [if_pos (by omega), if_pos (by omega), if_pos (by omega), if_pos trivial, w64 (by omega) (by omega), show (i : Int) + 1 = ((i + 1 : Nat) : Int) by omega]
    exact ih k (i + 1) (by omega) (by omega)
theorem ints_self (l : List Int) (hl : l.length ≤ 1000000) {k : Nat} (hk : l.length < k) : cobwebref10_Ints.f k l l = some true := by
  unfold cobwebref10_Ints.f
  rw [if_pos rfl]
  exact ints_from l hl l.length k 0 (by omega) hk
theorem has_from (l : List Int) (x : Int) (hl : l.length ≤ 1000000) : ∀ (d k i : Nat), i + d = l.length → d < k → cobwebref10_Has.l0 k l x (i : Int) = some ((l.drop i).contains x) := by
  intro d
  induction d with
  | zero =>
    intro k i hi hk
    obtain ⟨k, rfl⟩ : ∃ m, k = m + 1 := ⟨k - 1, by omega⟩
    simp only [cobwebref10_Has.l0]
    rw [if_neg (by omega), List.drop_eq_nil_of_le (by omega)]
    rfl
  | succ d ih =>
    intro k i hi hk
    obtain ⟨k, rfl⟩ : ∃ m, k = m + 1 := ⟨k - 1, by omega⟩
    simp only [cobwebref10_Has.l0]
    rw [if_pos (by omega), if_pos (by omega), w64 (by omega) (by omega), show (i : Int) + 1 = ((i + 1 : Nat) : Int) by omega, drop_rd (by omega)]
    by_cases h : rd l (i : Int) = x
    · rw [if_pos h]; simp [h]
    · rw [if_neg h, ih k (i + 1) (by omega) (by omega)]
      have h2 : ¬ x = rd l (i : Int) := fun e => h e.symm
      simp [h2]
theorem has_spec (l : List Int) (x : Int) (hl : l.length ≤ 1000000) {k : Nat} (hk : l.length < k) : cobwebref10_Has.f k l x = some (l.contains x) := by
  have := has_from l x hl l.length k 0 (by omega) hk
  simpa [cobwebref10_Has.f] using this
end Go.Proofs.Ytfbegchhgigjeaa.Pure
end
section
set_option linter.unusedVariables false
set_option linter.unusedSimpArgs false
namespace Go.Proofs.Ytfbegchhgigjeaa.Pure
open Go.RowKit Go.Proofs.Ytfbegchhgigjeaa.PC Go.Proofs.YtfbegchhgigjeaaW.PrintWords Go.Proofs.YtfbegchhgigjeaaW.PrintLast
def wrongR (i : Nat) (nx : Int) (c : S39) : Bool := (decide (i = 0) && c.f0 != 0) || (decide (i > 0) && decide (c.f1.length = 0)) || decide (c.f0 < 0) || c.f3 || c.f2 != nx || decide (c.f1.length > 4)
theorem right_j1 (l : List S39) (last : Int) (i : Nat) (nx : Int) (c : S39) (k : Nat) : cobwebref10_Right.j1 (k + 1) l last (i : Int) nx c.f0 c.f1 c.f2 c.f3 = cobwebref10_Right.j2 k l last (i : Int) (wrongR i nx c) c.f0 c.f1 c.f2 c.f3 := by
  simp only [cobwebref10_Right.j1]
  repeat' split
  all_goals (congr 1; unfold wrongR; first | grind | (simp_all; done) | (simp_all <;> omega))
theorem right_l2 (l : List S39) (i : Nat) (c : S39) (hc : c.f1.length ≤ 1000) : ∀ (m k j : Nat) (last : Int) (K : Nat), j + m = c.f1.length → m + 1 + K ≤ k →
    (rightIds last (c.f1.drop j) = none ∧ cobwebref10_Right.l2 k l last (i : Int) (j : Int) c.f0 c.f1 c.f2 c.f3 = some false) ∨ (∃ b k', rightIds last (c.f1.drop j) = some b ∧ K ≤ k' ∧ cobwebref10_Right.l2 k l last (i : Int) (j : Int) c.f0 c.f1 c.f2 c.f3 = cobwebref10_Right.l0 k' l b (wrap64 ((i : Int) + 1))) := by
  intro m
  induction m with
  | zero =>
    intro k j last K hj hk
    obtain ⟨k, rfl⟩ : ∃ q, k = q + 1 := ⟨k - 1, by omega⟩
    simp only [cobwebref10_Right.l2]
    rw [if_neg (by omega), List.drop_eq_nil_of_le (by omega)]
    exact .inr ⟨last, k, rfl, by omega, rfl⟩
  | succ m ih =>
    intro k j last K hj hk
    obtain ⟨k, rfl⟩ : ∃ q, k = q + 1 := ⟨k - 1, by omega⟩
    simp only [cobwebref10_Right.l2]
    rw [if_pos (by omega), if_pos (by omega), drop_rd (by omega), w64 (x := (j : Int) + 1) (by omega) (by omega), show (j : Int) + 1 = ((j + 1 : Nat) : Int) by omega]
    simp only [rightIds]
    by_cases h : rd c.f1 (j : Int) ≤ last
    · rw [if_pos h, if_pos h]
      exact .inl ⟨rfl, rfl⟩
    · rw [if_neg h, if_neg h]
      exact ih k (j + 1) _ K (by omega) (by omega)
theorem right_l1 (l : List S39) (last : Int) (i : Nat) (hi : i ≤ l.length) (hl : l.length ≤ 1000) (c : S39) : ∀ (m k j : Nat) (K : Nat), j + m = i → m + 1 + K ≤ k →
    (((l.drop j).take m).any (fun d => d.f0 == c.f0) = true ∧ cobwebref10_Right.l1 k l last (i : Int) (j : Int) c.f0 c.f1 c.f2 c.f3 = some false) ∨ (((l.drop j).take m).any (fun d => d.f0 == c.f0) = false ∧ ∃ k', K ≤ k' ∧ cobwebref10_Right.l1 k l last (i : Int) (j : Int) c.f0 c.f1 c.f2 c.f3 = cobwebref10_Right.l2 k' l last (i : Int) 0 c.f0 c.f1 c.f2 c.f3) := by
  intro m
  induction m with
  | zero =>
    intro k j K hj hk
    obtain ⟨k, rfl⟩ : ∃ q, k = q + 1 := ⟨k - 1, by omega⟩
    simp only [cobwebref10_Right.l1]
    rw [if_neg (by omega)]
    exact .inr ⟨by simp, k, by omega, rfl⟩
  | succ m ih =>
    intro k j K hj hk
    obtain ⟨k, rfl⟩ : ∃ q, k = q + 1 := ⟨k - 1, by omega⟩
    simp only [cobwebref10_Right.l1]
    rw [if_pos (by omega), if_pos (by omega), if_pos (by omega), drop_c (by omega), w64 (x := (j : Int) + 1) (by omega) (by omega), show (j : Int) + 1 = ((j + 1 : Nat) : Int) by omega]
    simp only [List.take_succ_cons, List.any_cons]
    by_cases h : (rd_T39 l (j : Int)).f0 = c.f0
    · rw [if_pos h]
      exact .inl ⟨by simp [h], rfl⟩
    · rw [if_neg h]
      rcases ih k (j + 1) K (by omega) (by omega) with ⟨h1, h2⟩ | ⟨h1, h2⟩
      · exact .inl ⟨by simp [h1], h2⟩
      · exact .inr ⟨by simp only [h1, Bool.or_false]; simpa using h, h2⟩
def refGo : List S39 → Int → List S39 → Bool
  | pre, last, [] => true
  | pre, last, c :: r => if r ≠ [] ∧ nextNo r = 0 then false else if wrongR pre.length (nextNo r) c = true then false else if pre.any (fun d => d.f0 == c.f0) = true then false else match rightIds last c.f1 with
    | none => false
    | some b => refGo (pre ++ [c]) b r
theorem right_l0 (l : List S39) (hl : l.length ≤ 1000) (h4 : ∀ c ∈ l, c.f1.length ≤ 1000) : ∀ (d k i : Nat) (last : Int), i + d = l.length → 3000 * d + 10 ≤ k → cobwebref10_Right.l0 k l last (i : Int) = some (refGo (l.take i) last (l.drop i)) := by
  intro d
  induction d with
  | zero =>
    intro k i last hi hk
    obtain ⟨k, rfl⟩ : ∃ q, k = q + 1 := ⟨k - 1, by omega⟩
    simp only [cobwebref10_Right.l0]
    rw [if_neg (by omega), List.drop_eq_nil_of_le (by omega)]
    rfl
  | succ d ih =>
    intro k i last hi hk
    obtain ⟨k, rfl⟩ : ∃ q, k = q + 3 := ⟨k - 3, by omega⟩
    have hlt : i < l.length := by omega
    have hci : rd_T39 l (i : Int) ∈ l := by simp [rd_T39, List.getD_eq_getElem?_getD, List.getElem?_eq_getElem hlt]
    have hlen := h4 _ hci
    have hi1 : wrap64 ((i : Int) + 1) = ((i + 1 : Nat) : Int) := by rw [w64 (by omega) (by omega)]; omega
    have htake : l.take (i + 1) = l.take i ++ [rd_T39 l (i : Int)] := by
      rw [List.take_succ_eq_append_getElem hlt]
      simp [rd_T39, List.getD_eq_getElem?_getD, List.getElem?_eq_getElem hlt]
    have hpre : (l.take i).length = i := by simp; omega
    have rest : ∀ nx, nx = nextNo (l.drop (i + 1)) → ¬ (l.drop (i + 1) ≠ [] ∧ nextNo (l.drop (i + 1)) = 0) → cobwebref10_Right.j1 (k + 2) l last (i : Int) nx (rd_T39 l (i : Int)).f0 (rd_T39 l (i : Int)).f1 (rd_T39 l (i : Int)).f2 (rd_T39 l (i : Int)).f3 = some (refGo (l.take i) last (rd_T39 l (i : Int) :: l.drop (i + 1))) := by
      intro nx hnx hz
      rw [show k + 2 = (k + 1) + 1 by omega, right_j1]
      simp only [cobwebref10_Right.j2, refGo]
      rw [if_neg hz, hpre, ← hnx]
      by_cases hw : wrongR i nx (rd_T39 l (i : Int)) = true
      · rw [if_pos hw, if_pos hw]
      · rw [if_neg hw, if_neg hw]
        obtain ⟨K, hK⟩ : ∃ K, K = 3000 * d + 10 := ⟨_, rfl⟩
        rcases right_l1 l last i (by omega) hl (rd_T39 l (i : Int)) i k 0 (K + (rd_T39 l (i : Int)).f1.length + 1) (by omega) (by omega) with ⟨h1, h2⟩ | ⟨h1, k1, hk1, h2⟩
        · rw [show ((0 : Nat) : Int) = 0 from rfl] at h2
          rw [List.drop_zero] at h1
          rw [h2, if_pos h1]
        · rw [show ((0 : Nat) : Int) = 0 from rfl] at h2
          rw [List.drop_zero] at h1
          rw [h2, if_neg (by simp [h1])]
          rcases right_l2 l i (rd_T39 l (i : Int)) hlen (rd_T39 l (i : Int)).f1.length k1 0 last K (by omega) (by omega) with ⟨h3, h4'⟩ | ⟨b, k2, h3, hk2, h4'⟩
          · rw [show ((0 : Nat) : Int) = 0 from rfl] at h4'
            rw [List.drop_zero] at h3
            rw [h4', h3]
          · rw [show ((0 : Nat) : Int) = 0 from rfl] at h4'
            rw [List.drop_zero] at h3
            rw [h4', h3, hi1, ih k2 (i + 1) b (by omega) (by omega), htake]
    rw [drop_c hlt]
    simp only [cobwebref10_Right.l0]
    rw [if_pos (by omega), if_pos (by omega), hi1]
    by_cases hn : i + 1 < l.length
    · rw [if_pos (by omega), if_pos (by omega)]
      have hd := drop_c hn
      have hnx : (rd_T39 l ((i + 1 : Nat) : Int)).f0 = nextNo (l.drop (i + 1)) := by rw [hd]; rfl
      by_cases hz : (rd_T39 l ((i + 1 : Nat) : Int)).f0 = 0
      · rw [if_pos hz]
        simp only [refGo]
        rw [if_pos ⟨by rw [hd]; simp, by rw [← hnx]; exact hz⟩]
      · rw [if_neg hz]
        exact rest _ hnx (fun h => hz (by rw [hnx]; exact h.2))
    · rw [if_neg (by omega)]
      have hd : l.drop (i + 1) = [] := List.drop_eq_nil_of_le (by omega)
      exact rest 0 (by rw [hd]; rfl) (fun h => h.1 hd)
theorem wrong_both (pre : List S39) (seen : List Int) (nx : Int) (c : S39) (hs : ∀ x, seen.contains x = pre.any (fun d => d.f0 == x)) (hp : pre ≠ [] → pre.any (fun d => d.f0 == 0) = true) :
    wrongC (decide (pre = [])) seen nx c = (wrongR pre.length nx c || pre.any (fun d => d.f0 == c.f0)) := by
  unfold wrongC wrongR
  rw [hs c.f0]
  by_cases h : pre = []
  · subst h
    simp
    grind
  · have hl : pre.length > 0 := List.length_pos_iff.2 h
    have hl2 : ¬ pre.length = 0 := by omega
    have h0 := hp h
    by_cases hc : c.f0 = 0
    · rw [hc, h0]; simp
    · simp [h, hc]
      grind
theorem refGo_eq : ∀ (suf pre : List S39) (last : Int) (seen : List Int), (∀ x, seen.contains x = pre.any (fun d => d.f0 == x)) → (pre ≠ [] → pre.any (fun d => d.f0 == 0) = true) → refGo pre last suf = rightGo (decide (pre = [])) last seen suf
  | [], pre, last, seen, _, _ => rfl
  | c :: r, pre, last, seen, hs, hp => by
    have hw := wrong_both pre seen (nextNo r) c hs hp
    simp only [refGo, rightGo]
    by_cases hz : r ≠ [] ∧ nextNo r = 0
    · rw [if_pos hz]
      split
      · rfl
      · split
        · rfl
        · cases r with
          | nil => exact absurd rfl hz.1
          | cons d r =>
            have h0 : d.f0 = 0 := hz.2
            simp only [rightGo]
            rw [if_pos (by unfold wrongC; simp [h0])]
    · rw [if_neg hz, hw]
      by_cases h1 : wrongR pre.length (nextNo r) c = true
      · rw [if_pos h1, h1]; simp
      · have h1' : wrongR pre.length (nextNo r) c = false := by simpa using h1
        rw [if_neg h1, h1', Bool.false_or]
        by_cases h2 : pre.any (fun d => d.f0 == c.f0) = true
        · rw [if_pos h2, if_pos h2]
        · rw [if_neg h2, if_neg h2]
          cases rightIds last c.f1 with
          | none => rfl
          | some b =>
            simp only []
            have := refGo_eq r (pre ++ [c]) b (c.f0 :: seen) (fun x => by
              rw [List.any_append, ← hs x]
              simp only [List.contains_cons, List.any_cons, List.any_nil, Bool.or_false]
              rw [Bool.or_comm]
              congr 1
              rw [Bool.eq_iff_iff, beq_iff_eq, beq_iff_eq]; exact ⟨fun e => e.symm, fun e => e.symm⟩) (fun _ => by
              by_cases he : pre = []
              · subst he
                have : c.f0 = 0 := by
                  unfold wrongR at h1'
                  simp at h1'
                  exact h1'.1.1.1.1
                simp [this]
              · rw [List.any_append, hp he]; rfl)
            rw [this]
            simp
set_option maxRecDepth 20000 in
theorem ref_right (l : List S39) (hl : l.length ≤ 1000) (h4 : ∀ c ∈ l, c.f1.length ≤ 1000) {k : Nat} (hk : 3000 * l.length + 10 ≤ k) : cobwebref10_Right.f k l = some (rightGo true (-1) [] l) := by
  have h := right_l0 l hl h4 l.length k 0 (-1) (by omega) hk
  rw [show ((0 : Nat) : Int) = 0 from rfl, List.take_zero, List.drop_zero, refGo_eq l [] (-1) [] (fun _ => rfl) (fun e => absurd rfl e)] at h
  exact h
end Go.Proofs.Ytfbegchhgigjeaa.Pure
end
section
set_option linter.unusedVariables false
set_option linter.unusedSimpArgs false
namespace Go.Proofs.Ytfbegchhgigjeaa.PC
open Go.RowKit Go.Proofs.YtfbegchhgigjeaaH Go.Proofs.YtfbegchhgigjeaaW.PrintWords Go.Proofs.YtfbegchhgigjeaaW.PrintLast
/-- Where an id lies. -/
theorem place_in {l : List S39} (H : Chain l) {id : Int} (hm : id ∈ idsOf l) : ∃ a c b, l = a ++ c :: b ∧ placeGo id 0 0 l = (a.length : Int) ∧ id ∈ c.f1 := by
  have hp : ∀ d ∈ l, d.f1.Pairwise (· < ·) := fun d hd => (rightGo_mem (chain_iff.2 H) d hd).1
  have hnb : ∀ b : List S39, (∀ d ∈ b, d.f1.Pairwise (· < ·)) → (∀ d ∈ b, ¬ (0 < d.f1.length ∧ rd d.f1 0 ≤ id)) → id ∉ idsOf b := by
    intro b h2 h3 hx
    obtain ⟨d, hd, hx⟩ := mem_idsOf.1 hx
    have e2 := h2 d hd
    have e3 := h3 d hd
    cases hf : d.f1 with
    | nil => rw [hf] at hx; simp at hx
    | cons y r =>
      rw [hf] at e2 e3 hx
      rw [rd_head] at e3
      rcases List.mem_cons.1 hx with rfl | hx
      · exact e3 ⟨by simp, Int.le_refl _⟩
      · exact e3 ⟨by simp, by have := (List.pairwise_cons.1 e2).1 id hx; omega⟩
  cases l with
  | nil => simp [idsOf] at hm
  | cons c0 r =>
    have hp0 : placeGo id 0 0 (c0 :: r) = placeGo id 0 1 r := by
      show placeGo id (if 0 < c0.f1.length ∧ rd c0.f1 0 ≤ id then 0 else 0) (0 + 1) r = _
      rw [ite_self, Int.zero_add]
    rcases placeGo_spec id r 0 1 with ⟨h1, h2⟩ | ⟨a, c, b, hr, h1, h2, h3⟩
    · refine ⟨[], c0, r, rfl, by rw [hp0, h1]; simp, ?_⟩
      rw [idsOf_cons] at hm
      exact (List.mem_append.1 hm).resolve_right (hnb r (fun d hd => hp d (List.mem_cons_of_mem _ hd)) h2)
    · subst hr
      refine ⟨c0 :: a, c, b, rfl, by rw [hp0, h1]; simp; omega, ?_⟩
      have hri := H.rise
      rw [show c0 :: (a ++ c :: b) = (c0 :: a) ++ c :: b from rfl, idsOf_append, idsOf_cons] at hm hri
      rcases List.mem_append.1 hm with h | h
      · exfalso
        cases hf : c.f1 with
        | nil => rw [hf] at h2; simp at h2
        | cons y t =>
          rw [hf, rd_head] at h2
          have := (List.pairwise_append.1 hri).2.2 id h y (by rw [idsOf_cons, hf]; simp)
          omega
      · rw [idsOf_cons] at h
        exact (List.mem_append.1 h).resolve_right (hnb b (fun d hd => hp d (by simp [hd])) h3)
end Go.Proofs.Ytfbegchhgigjeaa.PC
end
section
set_option linter.unusedVariables false
set_option linter.unusedSimpArgs false
namespace Go.Proofs.Ytfbegchhgigjeaa.Pure
open Go.RowKit Go.Proofs.Ytfbegchhgigjeaa.PC Go.Proofs.YtfbegchhgigjeaaW.PrintWords Go.Proofs.YtfbegchhgigjeaaW.PrintLast
theorem ref_ids1 (l : List S39) (i : Nat) (hi : i < l.length) (hl : l.length ≤ 1000) (hc : (rd_T39 l (i : Int)).f1.length ≤ 1000) : ∀ (m k j : Nat) (acc : List Int) (K : Nat), j + m = (rd_T39 l (i : Int)).f1.length → m + 1 + K ≤ k → acc.length + m ≤ 3000000 →
    ∃ k', K ≤ k' ∧ cobwebref10_IDs.l1 k l acc (i : Int) (j : Int) = cobwebref10_IDs.l0 k' l (acc ++ (rd_T39 l (i : Int)).f1.drop j) ((i + 1 : Nat) : Int) := by
  intro m
  induction m with
  | zero =>
    intro k j acc K hj hk ha
    obtain ⟨k, rfl⟩ : ∃ q, k = q + 1 := ⟨k - 1, by omega⟩
    simp only [cobwebref10_IDs.l1]
    rw [if_pos (by omega), if_pos (by omega), if_neg (by omega), List.drop_eq_nil_of_le (by omega), w64 (by omega) (by omega), List.append_nil]
    exact ⟨k, by omega, rfl⟩
  | succ m ih =>
    intro k j acc K hj hk ha
    obtain ⟨k, rfl⟩ : ∃ q, k = q + 1 := ⟨k - 1, by omega⟩
    simp only [cobwebref10_IDs.l1]
    rw [if_pos (by omega), if_pos (by omega), if_pos (by omega), if_pos (by omega), if_pos (by omega), w64 (x := (j : Int) + 1) (by omega) (by omega), show (j : Int) + 1 = ((j + 1 : Nat) : Int) by omega]
    obtain ⟨k', h1, h2⟩ := ih k (j + 1) (acc ++ [rd (rd_T39 l (i : Int)).f1 (j : Int)]) K (by omega) (by omega) (by simp; omega)
    exact ⟨k', h1, by rw [h2, drop_rd (by omega : j < (rd_T39 l (i : Int)).f1.length)]; simp⟩
theorem ref_ids (l : List S39) (hl : l.length ≤ 1000) (h4 : ∀ c ∈ l, c.f1.length ≤ 1000) : ∀ (d k i : Nat) (acc : List Int), i + d = l.length → 2000 * d + 10 ≤ k → acc.length + 1000 * d ≤ 2000000 → cobwebref10_IDs.l0 k l acc (i : Int) = some (acc ++ idsOf (l.drop i)) := by
  intro d
  induction d with
  | zero =>
    intro k i acc hi hk ha
    obtain ⟨k, rfl⟩ : ∃ q, k = q + 1 := ⟨k - 1, by omega⟩
    simp only [cobwebref10_IDs.l0]
    rw [if_neg (by omega), List.drop_eq_nil_of_le (by omega)]
    simp [idsOf]
  | succ d ih =>
    intro k i acc hi hk ha
    obtain ⟨k, rfl⟩ : ∃ q, k = q + 1 := ⟨k - 1, by omega⟩
    have hlt : i < l.length := by omega
    have hci : rd_T39 l (i : Int) ∈ l := by simp [rd_T39, List.getD_eq_getElem?_getD, List.getElem?_eq_getElem hlt]
    have hlen := h4 _ hci
    simp only [cobwebref10_IDs.l0]
    rw [if_pos (by omega)]
    obtain ⟨K, hK⟩ : ∃ K, K = 2000 * d + 10 := ⟨_, rfl⟩
    obtain ⟨k', h1, h2⟩ := ref_ids1 l i hlt hl hlen (rd_T39 l (i : Int)).f1.length k 0 acc K (by omega) (by omega) (by omega)
    rw [show ((0 : Nat) : Int) = 0 from rfl, List.drop_zero] at h2
    rw [h2, ih k' (i + 1) _ (by omega) (by omega) (by simp; omega), drop_c hlt, idsOf_cons, List.append_assoc]
theorem ref_ids_spec (l : List S39) (hl : l.length ≤ 1000) (h4 : ∀ c ∈ l, c.f1.length ≤ 1000) {k : Nat} (hk : 2000 * l.length + 10 ≤ k) : cobwebref10_IDs.f k l = some (idsOf l) := by
  have := ref_ids l hl h4 l.length k 0 [] (by omega) hk (by simp; omega)
  simpa [cobwebref10_IDs.f] using this
theorem ref_without (l : List Int) (x : Int) (hl : l.length ≤ 1000) : ∀ (d k i : Nat) (acc : List Int), i + d = l.length → d < k → acc.length + d ≤ 100000 → cobwebref10_without.l0 k l x acc (i : Int) = some (acc ++ without x (l.drop i)) := by
  intro d
  induction d with
  | zero =>
    intro k i acc hi hk ha
    obtain ⟨k, rfl⟩ : ∃ q, k = q + 1 := ⟨k - 1, by omega⟩
    simp only [cobwebref10_without.l0]
    rw [if_neg (by omega), List.drop_eq_nil_of_le (by omega)]
    simp [without]
  | succ d ih =>
    intro k i acc hi hk ha
    obtain ⟨k, rfl⟩ : ∃ q, k = q + 1 := ⟨k - 1, by omega⟩
    simp only [cobwebref10_without.l0]
    rw [if_pos (by omega), if_pos (by omega), w64 (x := (i : Int) + 1) (by omega) (by omega), show (i : Int) + 1 = ((i + 1 : Nat) : Int) by omega, drop_rd (by omega)]
    by_cases h : rd l (i : Int) = x
    · rw [if_pos h, ih k (i + 1) acc (by omega) (by omega) (by omega)]
      simp [without, h]
    · rw [if_neg h, if_pos (by omega), ih k (i + 1) _ (by omega) (by omega) (by simp; omega)]
      simp [without, h]
theorem ref_without_spec (l : List Int) (x : Int) (hl : l.length ≤ 1000) {k : Nat} (hk : l.length < k) : cobwebref10_without.f k l x = some (without x l) := by
  have := ref_without l x hl l.length k 0 [] (by omega) hk (by simp; omega)
  simpa [cobwebref10_without.f] using this
theorem ref_copied (l : List S39) (hl : l.length ≤ 1000) (h4 : ∀ c ∈ l, c.f1.length ≤ 1000) : ∀ (d k i : Nat) (acc : List S39), i + d = l.length → d < k → acc.length + d ≤ 100000 → cobweblaw10_copied.l0 k l acc (i : Int) = some (acc ++ l.drop i) := by
  intro d
  induction d with
  | zero =>
    intro k i acc hi hk ha
    obtain ⟨k, rfl⟩ : ∃ q, k = q + 1 := ⟨k - 1, by omega⟩
    simp only [cobweblaw10_copied.l0]
    rw [if_neg (by omega), List.drop_eq_nil_of_le (by omega), List.append_nil]
  | succ d ih =>
    intro k i acc hi hk ha
    obtain ⟨k, rfl⟩ : ∃ q, k = q + 1 := ⟨k - 1, by omega⟩
    have hlt : i < l.length := by omega
    have hci : rd_T39 l (i : Int) ∈ l := by simp [rd_T39, List.getD_eq_getElem?_getD, List.getElem?_eq_getElem hlt]
    have hlen := h4 _ hci
    simp only [cobweblaw10_copied.l0, Option.bind_some, List.length_nil, List.nil_append]
    rw [if_pos (by omega), if_pos (by omega), if_pos (by omega), if_pos (by omega), w64 (x := (i : Int) + 1) (by omega) (by omega), show (i : Int) + 1 = ((i + 1 : Nat) : Int) by omega, drop_c hlt, ih k (i + 1) _ (by omega) (by omega) (by simp; omega)]
    simp
theorem ref_copied_spec (l : List S39) (hl : l.length ≤ 1000) (h4 : ∀ c ∈ l, c.f1.length ≤ 1000) {k : Nat} (hk : l.length < k) : cobweblaw10_copied.f k l = some l := by
  have := ref_copied l hl h4 l.length k 0 [] (by omega) hk (by simp; omega)
  simpa [cobweblaw10_copied.f] using this
end Go.Proofs.Ytfbegchhgigjeaa.Pure
end
section
set_option linter.unusedVariables false
set_option linter.unusedSimpArgs false
namespace Go.Proofs.Ytfbegchhgigjeaa.Pure
open Go.RowKit Go.Proofs.Ytfbegchhgigjeaa.PC Go.Proofs.YtfbegchhgigjeaaW.PrintWords Go.Proofs.YtfbegchhgigjeaaW.PrintLast
def putR (id : Int) : Bool → List Int → List Int
  | b, [] => if b = true then [] else [id]
  | b, y :: r => if y > id ∧ b = false then id :: y :: putR id true r else y :: putR id b r
theorem putR_true (id : Int) : ∀ l : List Int, putR id true l = l
  | [] => rfl
  | y :: r => by
    simp only [putR]
    rw [if_neg (by simp), putR_true id r]
theorem putR_false (id : Int) : ∀ {l : List Int}, l.Pairwise (· < ·) → id ∉ l → putR id false l = putAt id l
  | [], _, _ => rfl
  | y :: r, h, hn => by
    obtain ⟨h1, h2⟩ := List.pairwise_cons.1 h
    have hne : y ≠ id := fun e => hn (by simp [e])
    have hr : id ∉ r := fun e => hn (List.mem_cons_of_mem _ e)
    simp only [putR]
    by_cases hy : y > id
    · rw [if_pos ⟨hy, trivial⟩, putR_true]
      have : ¬ y < id := by omega
      simp [putAt, this]
    · rw [if_neg (fun e => hy e.1), putR_false id h2 hr]
      have : y < id := by omega
      simp [putAt, this]
theorem ref_put (l : List Int) (x : Int) (hl : l.length ≤ 1000) : ∀ (d k i : Nat) (acc : List Int) (b : Bool), i + d = l.length → d < k → acc.length + 2 * d + 1 ≤ 100000 → cobwebref10_put.l0 k l x acc b (i : Int) = some (acc ++ putR x b (l.drop i)) := by
  intro d
  induction d with
  | zero =>
    intro k i acc b hi hk ha
    obtain ⟨k, rfl⟩ : ∃ q, k = q + 1 := ⟨k - 1, by omega⟩
    simp only [cobwebref10_put.l0]
    rw [if_neg (by omega), List.drop_eq_nil_of_le (by omega)]
    cases b
    · rw [if_neg (by decide), if_pos (by omega)]; simp [putR]
    · rw [if_pos rfl]; simp [putR]
  | succ d ih =>
    intro k i acc b hi hk ha
    obtain ⟨k, rfl⟩ : ∃ q, k = q + 1 := ⟨k - 1, by omega⟩
    simp only [cobwebref10_put.l0, Option.bind_some]
    rw [if_pos (by omega), if_pos (by omega), w64 (x := (i : Int) + 1) (by omega) (by omega), show (i : Int) + 1 = ((i + 1 : Nat) : Int) by omega, drop_rd (by omega)]
    simp only [putR]
    by_cases h : rd l (i : Int) > x
    · rw [if_pos h]
      cases b
      · rw [if_neg (by decide), if_pos (by omega), if_pos (by simp; omega), if_pos ⟨h, rfl⟩, ih k (i + 1) _ true (by omega) (by omega) (by simp; omega)]
        simp
      · rw [if_pos rfl, if_pos (by omega), if_neg (by simp), ih k (i + 1) _ true (by omega) (by omega) (by simp; omega)]
        simp
    · rw [if_neg h, if_pos (by omega), if_neg (fun e => h e.1), ih k (i + 1) _ b (by omega) (by omega) (by simp; omega)]
      simp
theorem ref_put_spec (l : List Int) (x : Int) (hl : l.length ≤ 1000) (hs : l.Pairwise (· < ·)) (hn : x ∉ l) {k : Nat} (hk : l.length < k) : cobwebref10_put.f k l x = some (putAt x l) := by
  have := ref_put l x hl l.length k 0 [] false (by omega) hk (by simp; omega)
  rw [← putR_false x hs hn]
  simpa [cobwebref10_put.f] using this
theorem ref_used (l : List S39) (n : Int) (hl : l.length ≤ 1000) : ∀ (d k i : Nat), i + d = l.length → d < k → cobwebref10_used.l0 k l n (i : Int) = some ((l.drop i).any (fun c => c.f0 == n)) := by
  intro d
  induction d with
  | zero =>
    intro k i hi hk
    obtain ⟨k, rfl⟩ : ∃ q, k = q + 1 := ⟨k - 1, by omega⟩
    simp only [cobwebref10_used.l0]
    rw [if_neg (by omega), List.drop_eq_nil_of_le (by omega)]
    rfl
  | succ d ih =>
    intro k i hi hk
    obtain ⟨k, rfl⟩ : ∃ q, k = q + 1 := ⟨k - 1, by omega⟩
    simp only [cobwebref10_used.l0]
    rw [if_pos (by omega), if_pos (by omega), w64 (x := (i : Int) + 1) (by omega) (by omega), show (i : Int) + 1 = ((i + 1 : Nat) : Int) by omega, drop_c (by omega)]
    by_cases h : (rd_T39 l (i : Int)).f0 = n
    · rw [if_pos h]; simp [h]
    · rw [if_neg h, ih k (i + 1) (by omega) (by omega)]
      simp [h]
theorem ref_used_spec (l : List S39) (n : Int) (hl : l.length ≤ 1000) {k : Nat} (hk : l.length < k) : cobwebref10_used.f k l n = some (l.any (fun c => c.f0 == n)) := by
  have := ref_used l n hl l.length k 0 (by omega) hk
  simpa [cobwebref10_used.f] using this
theorem ref_fresh (l : List S39) (ids : List Int) (a : Int) (b : List Int) (c : Int) (e : Bool) (hl : l.length ≤ 1000) (h3 : 3 ≤ ids.length) (m : Int) : ∀ (f k : Nat) (n : Int), f + l.length + 2 ≤ k → 0 ≤ n → n + f ≤ 1000000 → freshNo l f n = some m → cobwebref10_Insert.l1 k l ids n a b c e = some ([⟨a, ids.take 3, m, false⟩, ⟨m, ids.drop 3, c, false⟩], 0) := by
  intro f
  induction f with
  | zero => intro k n _ _ _ h; simp [freshNo] at h
  | succ f ih =>
    intro k n hk h0 hn h
    obtain ⟨k, rfl⟩ : ∃ q, k = q + 1 := ⟨k - 1, by omega⟩
    simp only [cobwebref10_Insert.l1]
    rw [ref_used_spec l n hl (by omega)]
    simp only [Option.bind_some]
    unfold freshNo at h
    by_cases hu : l.any (fun c => c.f0 == n) = true
    · rw [if_pos hu] at h ⊢
      rw [w64 (by omega) (by omega)]
      exact ih k (n + 1) (by omega) (by omega) (by omega) h
    · rw [if_neg hu] at h ⊢
      obtain rfl := Option.some.inj h
      rw [if_pos (by omega)]
def refPlace (id : Int) : Int → Int → List S39 → Int
  | at_, _, [] => at_
  | at_, i, c :: r => refPlace id (if rd c.f1 0 < id then i else at_) (i + 1) r
theorem refPlace_eq (id : Int) : ∀ (l : List S39) (at_ i : Int), (∀ c ∈ l, c.f1 ≠ [] ∧ id ∉ c.f1) → refPlace id at_ i l = placeGo id at_ i l
  | [], _, _, _ => rfl
  | c :: r, at_, i, h => by
    simp only [refPlace, placeGo]
    rw [refPlace_eq id r _ _ (fun d hd => h d (List.mem_cons_of_mem _ hd))]
    obtain ⟨h1, h2⟩ := h c (by simp)
    congr 1
    cases hf : c.f1 with
    | nil => exact absurd hf h1
    | cons y t =>
      rw [rd_head]
      have : y ≠ id := fun e => h2 (by rw [hf, e]; simp)
      by_cases hy : y < id
      · rw [if_pos hy, if_pos ⟨by simp, by omega⟩]
      · rw [if_neg hy, if_neg (fun e => by have := e.2; omega)]
theorem ref_place (l : List S39) (id : Int) (hl : l.length ≤ 1000) (hne : ∀ c ∈ l.drop 1, c.f1 ≠ []) : ∀ (d k i : Nat) (at_ : Int) (K : Nat), 1 ≤ i → i + d = l.length → d + K ≤ k → ∃ k', K ≤ k' ∧ cobwebref10_Insert.l0 k l id at_ (i : Int) = cobwebref10_Insert.l0 k' l id (refPlace id at_ (i : Int) (l.drop i)) (l.length : Int) := by
  intro d
  induction d with
  | zero =>
    intro k i at_ K h1 hi hk
    obtain rfl : i = l.length := by omega
    exact ⟨k, by omega, by rw [List.drop_length]; rfl⟩
  | succ d ih =>
    intro k i at_ K h1 hi hk
    obtain ⟨k, rfl⟩ : ∃ q, k = q + 1 := ⟨k - 1, by omega⟩
    have hlt : i < l.length := by omega
    have hmem : rd_T39 l (i : Int) ∈ l.drop 1 := by
      have e : rd_T39 l (i : Int) = l[i] := by simp [rd_T39, List.getD_eq_getElem?_getD, List.getElem?_eq_getElem hlt]
      rw [e, List.mem_drop_iff_getElem]
      exact ⟨i - 1, by omega, by congr 1; omega⟩
    have hp : 0 < (rd_T39 l (i : Int)).f1.length := List.length_pos_iff.2 (hne _ hmem)
    rw [drop_c hlt]
    simp only [refPlace]
    have hw : wrap64 ((i : Int) + 1) = ((i + 1 : Nat) : Int) := by rw [w64 (by omega) (by omega)]; omega
    rw [show (i : Int) + 1 = ((i + 1 : Nat) : Int) by omega] at hw ⊢
    by_cases h : rd (rd_T39 l (i : Int)).f1 0 < id
    · rw [if_pos h]
      obtain ⟨k', g1, g2⟩ := ih k (i + 1) (i : Int) K (by omega) (by omega) (by omega)
      refine ⟨k', g1, ?_⟩
      rw [← g2]
      conv => lhs; unfold cobwebref10_Insert.l0
      rw [if_pos (by omega), if_pos (by omega), if_pos (by omega), if_pos h, show (i : Int) + 1 = ((i + 1 : Nat) : Int) by omega, hw]
    · rw [if_neg h]
      obtain ⟨k', g1, g2⟩ := ih k (i + 1) at_ K (by omega) (by omega) (by omega)
      refine ⟨k', g1, ?_⟩
      rw [← g2]
      conv => lhs; unfold cobwebref10_Insert.l0
      rw [if_pos (by omega), if_pos (by omega), if_pos (by omega), if_neg h, show (i : Int) + 1 = ((i + 1 : Nat) : Int) by omega, hw]
theorem ref_insert (l : List S39) (id : Int) (hl : l.length ≤ 1000) (h4 : ∀ c ∈ l, c.f1.length ≤ 1000) (hi : (idsOf l).length ≤ 100000) {k : Nat} (hk : 5000000 ≤ k) :
    ∃ r, cobwebref10_Insert.f k l id = some r ∧ chunk_Insert.f l id = some r := by
  have hR := ref_right l hl h4 (k := k) (by omega)
  unfold cobwebref10_Insert.f
  rw [hR]
  simp only [Option.bind_some]
  cases hr : rightGo true (-1) [] l with
  | false =>
    refine ⟨([], 100), by rw [if_neg (by decide)], ?_⟩
    unfold chunk_Insert.f
    rw [if_pos ⟨by omega, hi⟩, if_pos hr]
  | true =>
    have H : Chain l := chain_iff.1 hr
    obtain ⟨k, rfl⟩ : ∃ q, k = q + 1 := ⟨k - 1, by omega⟩
    have hc : chunk_Insert.f l id = if id < 0 ∨ id ≥ 1099511627776 then some ([], 2) else if (idsOf l).contains id = true then some ([], 31) else if l.length = 0 then some ([⟨0, [id], 0, false⟩], 0) else insertAt l id (rd_T39 l (placeGo id 0 0 l)) := by
      unfold chunk_Insert.f
      rw [if_pos ⟨by omega, hi⟩, if_neg (by rw [hr]; decide)]
    rw [if_pos rfl]
    by_cases hlo : id < 0
    · exact ⟨([], 2), by rw [if_pos hlo]; simp only [cobwebref10_Insert.j0, if_true], by rw [hc, if_pos (.inl hlo)]⟩
    · rw [if_neg hlo]
      by_cases hhi : id ≥ 1099511627776
      · exact ⟨([], 2), by rw [decide_eq_true hhi]; simp only [cobwebref10_Insert.j0, if_true], by rw [hc, if_pos (.inr hhi)]⟩
      · rw [decide_eq_false hhi]
        rw [if_neg (by omega)] at hc
        simp only [cobwebref10_Insert.j0]
        rw [if_neg (by decide), ref_ids_spec l hl h4 (by omega)]
        simp only [Option.bind_some]
        rw [has_spec _ _ (by omega) (by omega)]
        simp only [Option.bind_some]
        by_cases hin : (idsOf l).contains id = true
        · rw [if_pos hin]
          rw [if_pos hin] at hc
          exact ⟨_, rfl, hc⟩
        · rw [if_neg hin]
          rw [if_neg hin] at hc
          have hni : id ∉ idsOf l := by simpa using hin
          by_cases hz : l.length = 0
          · rw [if_pos (by omega)]
            rw [if_pos hz] at hc
            exact ⟨_, rfl, hc⟩
          · rw [if_neg (by omega)]
            rw [if_neg hz] at hc
            have hnel : l ≠ [] := by intro e; rw [e] at hz; simp at hz
            obtain ⟨a, c, b, hlb, hp, ha, hb⟩ := place_split H id hnel hni
            have hd1 : ∀ d ∈ l.drop 1, d.f1 ≠ [] := by
              cases l with
              | nil => simp
              | cons c0 r => exact fun d hd => (heads_false H.head.2.2 d (by simpa using hd)).2
            obtain ⟨K, hK⟩ : ∃ K, K = 2000000 := ⟨_, rfl⟩
            obtain ⟨k', hk', hpl⟩ := ref_place l id hl hd1 (l.length - 1) k 1 0 K (by omega) (by omega) (by omega)
            have hrp : refPlace id 0 ((1 : Nat) : Int) (l.drop 1) = (a.length : Int) := by
              rw [refPlace_eq id _ _ _ (fun d hd => ⟨hd1 d hd, fun h => hni (mem_idsOf.2 ⟨d, List.mem_of_mem_drop hd, h⟩)⟩), ← hp]
              cases l with
              | nil => exact absurd rfl hnel
              | cons c0 r =>
                show placeGo id 0 1 r = placeGo id (if 0 < c0.f1.length ∧ rd c0.f1 0 ≤ id then 0 else 0) (0 + 1) r
                rw [ite_self, Int.zero_add]
            rw [hrp] at hpl
            rw [show (1 : Int) = ((1 : Nat) : Int) from rfl, hpl]
            rw [hp] at hc
            obtain ⟨k', rfl⟩ : ∃ q, k' = q + 1 := ⟨k' - 1, by omega⟩
            have hal : a.length < l.length := by rw [hlb]; simp
            have hrd : rd_T39 l (a.length : Int) = c := by rw [hlb]; exact rd_mid a c b
            have hcm : c ∈ l := by rw [hlb]; simp
            have hri := rightGo_mem hr c hcm
            have hnc : id ∉ c.f1 := fun h => hni (mem_idsOf.2 ⟨c, hcm, h⟩)
            simp only [cobwebref10_Insert.l0]
            rw [if_neg (by omega), if_pos (by omega), if_pos (by omega), hrd, ref_put_spec _ _ (by omega) hri.1 hnc (by omega)]
            simp only [Option.bind_some]
            rw [hrd] at hc
            unfold insertAt at hc
            by_cases h5 : (putAt id c.f1).length ≤ 4
            · rw [if_pos (by omega)]
              rw [if_pos h5] at hc
              rw [hri.2.2] at hc
              exact ⟨_, rfl, hc⟩
            · rw [if_neg (by omega)]
              rw [if_neg h5] at hc
              obtain ⟨m, hm1, hm2, hm3⟩ := fresh_some l (by omega)
              rw [hm1, hri.2.2] at hc
              unfold chunk_fresh.f at hm1
              rw [if_pos (by omega)] at hm1
              rw [ref_fresh l _ _ _ _ _ hl (by omega) m (l.length + 1) k' 1 (by omega) (by omega) (by omega) hm1]
              exact ⟨_, rfl, hc⟩
theorem ref_rem_skip (l : List S39) (id : Int) (hl : l.length ≤ 1000) (h4 : ∀ c ∈ l, c.f1.length ≤ 1000) (n : Nat) (hn : n ≤ l.length) (hno : id ∉ idsOf (l.take n)) : ∀ (d k i : Nat) (K : Nat), i + d = n → d + K ≤ k → 2000 ≤ K → ∃ k', K ≤ k' ∧ cobwebref10_Remove.l0 k l id (i : Int) = cobwebref10_Remove.l0 k' l id (n : Int) := by
  intro d
  induction d with
  | zero =>
    intro k i K hi hk hK
    obtain rfl : i = n := by omega
    exact ⟨k, by omega, rfl⟩
  | succ d ih =>
    intro k i K hi hk hK
    obtain ⟨k, rfl⟩ : ∃ q, k = q + 1 := ⟨k - 1, by omega⟩
    have hlt : i < l.length := by omega
    have e : rd_T39 l (i : Int) = l[i] := by simp [rd_T39, List.getD_eq_getElem?_getD, List.getElem?_eq_getElem hlt]
    have hm : rd_T39 l (i : Int) ∈ l.take n := by
      rw [e, List.mem_take_iff_getElem]
      exact ⟨i, by omega, rfl⟩
    have hlen := h4 _ (List.mem_of_mem_take hm)
    have hnc : (rd_T39 l (i : Int)).f1.contains id = false := by
      have : id ∉ (rd_T39 l (i : Int)).f1 := fun h => hno (mem_idsOf.2 ⟨_, hm, h⟩)
      simpa using this
    obtain ⟨k', g1, g2⟩ := ih k (i + 1) K (by omega) (by omega) hK
    refine ⟨k', g1, ?_⟩
    rw [← g2]
    conv => lhs; unfold cobwebref10_Remove.l0
    rw [if_pos (by omega), if_pos (by omega), has_spec _ _ (by omega) (by omega)]
    simp only [Option.bind_some]
    rw [hnc, if_neg (by decide), w64 (by omega) (by omega), show (i : Int) + 1 = ((i + 1 : Nat) : Int) by omega]
theorem ref_remove (l : List S39) (id : Int) (hl : l.length ≤ 1000) (h4 : ∀ c ∈ l, c.f1.length ≤ 1000) {k : Nat} (hk : 5000000 ≤ k) :
    ∃ r, cobwebref10_Remove.f k l id = some r ∧ chunk_Remove.f l id = some r := by
  have hR := ref_right l hl h4 (k := k) (by omega)
  unfold cobwebref10_Remove.f
  rw [hR]
  simp only [Option.bind_some]
  cases hr : rightGo true (-1) [] l with
  | false =>
    refine ⟨([], 100), by rw [if_neg (by decide)], ?_⟩
    unfold chunk_Remove.f
    rw [if_pos (by omega), if_pos hr]
  | true =>
    have H : Chain l := chain_iff.1 hr
    rw [if_pos rfl]
    have hc : chunk_Remove.f l id = if l.length = 0 ∨ (rd_T39 l (placeGo id 0 0 l)).f1.contains id = false then some ([], 101) else some (removeAt l id (placeGo id 0 0 l) (rd_T39 l (placeGo id 0 0 l))) := by
      unfold chunk_Remove.f
      rw [if_pos (by omega), if_neg (by rw [hr]; decide)]
    obtain ⟨K, hK⟩ : ∃ K, K = 2000000 := ⟨_, rfl⟩
    by_cases hin : id ∈ idsOf l
    · obtain ⟨a, c, b, hlb, hp, hcin⟩ := place_in H hin
      have hal : a.length < l.length := by rw [hlb]; simp
      have hrd : rd_T39 l (a.length : Int) = c := by rw [hlb]; exact rd_mid a c b
      have hcm : c ∈ l := by rw [hlb]; simp
      have hri := H.rise
      have hna : id ∉ idsOf (l.take a.length) := by
        have e : l.take a.length = a := by rw [hlb]; simp
        rw [e]
        intro h
        rw [hlb, idsOf_append, idsOf_cons, List.pairwise_append] at hri
        have := hri.2.2 id h id (List.mem_append_left _ hcin)
        omega
      obtain ⟨k', hk', hsk⟩ := ref_rem_skip l id hl h4 a.length (by omega) hna a.length k 0 K (by omega) (by omega) (by omega)
      rw [show (0 : Int) = ((0 : Nat) : Int) from rfl, hsk]
      obtain ⟨k', rfl⟩ : ∃ q, k' = q + 1 := ⟨k' - 1, by omega⟩
      have hlen := h4 _ hcm
      have hcc : c.f1.contains id = true := by simpa using hcin
      rw [hp, hrd, if_neg (by rw [hcc]; simp; intro e; rw [e] at hal; simp at hal)] at hc
      simp only [cobwebref10_Remove.l0]
      rw [if_pos (by omega), if_pos (by omega), hrd, has_spec _ _ (by omega) (by omega)]
      simp only [Option.bind_some]
      rw [hcc, if_pos rfl, ref_without_spec _ _ hlen (by omega)]
      simp only [Option.bind_some]
      have hcf := (rightGo_mem hr c hcm).2.2
      unfold removeAt at hc
      rw [hcf] at hc
      by_cases h0 : 0 < (without id c.f1).length
      · rw [if_pos (by omega)]
        rw [if_pos (.inl h0)] at hc
        exact ⟨_, rfl, hc⟩
      · rw [if_neg (by omega)]
        by_cases hz : (a.length : Int) = 0
        · rw [if_pos hz]
          rw [if_pos (.inr hz)] at hc
          exact ⟨_, rfl, hc⟩
        · rw [if_neg hz, w64 (by omega) (by omega), if_pos (by omega), if_pos (by omega)]
          rw [if_neg (by rintro (h | h); exact h0 h; exact hz h)] at hc
          have hpm : rd_T39 l ((a.length : Int) - 1) ∈ l := by
            rw [show (a.length : Int) - 1 = ((a.length - 1 : Nat) : Int) by omega]
            simp [rd_T39, List.getD_eq_getElem?_getD, List.getElem?_eq_getElem (show a.length - 1 < l.length by omega)]
          rw [(rightGo_mem hr _ hpm).2.2] at hc
          exact ⟨_, rfl, hc⟩
    · obtain ⟨k', hk', hsk⟩ := ref_rem_skip l id hl h4 l.length (Nat.le_refl _) (by rw [List.take_length]; exact hin) l.length k 0 K (by omega) (by omega) (by omega)
      rw [show (0 : Int) = ((0 : Nat) : Int) from rfl, hsk]
      obtain ⟨k', rfl⟩ : ∃ q, k' = q + 1 := ⟨k' - 1, by omega⟩
      refine ⟨([], 101), ?_, ?_⟩
      · simp only [cobwebref10_Remove.l0]
        rw [if_neg (by omega)]
      · rw [hc]
        rw [if_pos]
        by_cases hz : l.length = 0
        · exact .inl hz
        · right
          obtain ⟨hp0, hp1⟩ := placeGo_range id l 0 0 l.length (by omega) (by omega) (by omega) (by omega)
          obtain ⟨pn, hpn⟩ := Int.eq_ofNat_of_zero_le hp0
          rw [hpn] at hp1 ⊢
          have hmem : rd_T39 l (pn : Int) ∈ l := by simp [rd_T39, List.getD_eq_getElem?_getD, List.getElem?_eq_getElem (show pn < l.length by omega)]
          have : id ∉ (rd_T39 l (pn : Int)).f1 := fun h => hin (mem_idsOf.2 ⟨_, hmem, h⟩)
          simpa using this
theorem same_from (l : List S39) (hl : l.length ≤ 1000) (h4 : ∀ c ∈ l, c.f1.length ≤ 1000) : ∀ (d k i : Nat), i + d = l.length → d + 2000 < k → cobwebref10_Same.l0 k l l (i : Int) = some true := by
  intro d
  induction d with
  | zero =>
    intro k i hi hk
    obtain ⟨k, rfl⟩ : ∃ q, k = q + 1 := ⟨k - 1, by omega⟩
    simp only [cobwebref10_Same.l0]
    rw [if_neg (by omega)]
  | succ d ih =>
    intro k i hi hk
    obtain ⟨k, rfl⟩ : ∃ q, k = q + 1 := ⟨k - 1, by omega⟩
    have hlt : i < l.length := by omega
    have hci : rd_T39 l (i : Int) ∈ l := by simp [rd_T39, List.getD_eq_getElem?_getD, List.getElem?_eq_getElem hlt]
    have hlen := h4 _ hci
    simp only [cobwebref10_Same.l0]
    rw [if_pos (by omega), if_pos (by omega), if_pos (by omega), if_pos trivial, if_pos trivial, if_neg (by simp), ints_self _ (by omega) (by omega)]
    simp only [Option.bind_some, if_true]
    rw [w64 (by omega) (by omega), show (i : Int) + 1 = ((i + 1 : Nat) : Int) by omega]
    exact ih k (i + 1) (by omega) (by omega)
theorem same_self (l : List S39) (hl : l.length ≤ 1000) (h4 : ∀ c ∈ l, c.f1.length ≤ 1000) {k : Nat} (hk : 5000 ≤ k) : cobwebref10_Same.f k l l = some true := by
  unfold cobwebref10_Same.f
  rw [if_pos rfl]
  exact same_from l hl h4 l.length k 0 (by omega) (by omega)
end Go.Proofs.Ytfbegchhgigjeaa.Pure
end
section
set_option linter.unusedVariables false
set_option linter.unusedSimpArgs false
namespace Go.Proofs.Ytfbegchhgigjeaa.Pure
open Go.RowKit Go.Proofs.Ytfbegchhgigjeaa.PC Go.Proofs.YtfbegchhgigjeaaW.PrintWords Go.Proofs.YtfbegchhgigjeaaW.PrintLast
theorem small_from (l : List S39) (hl : l.length ≤ 40) : ∀ (d k i : Nat), i + d = l.length → d < k → ∃ b, cobweblaw10_small.l0 k l (i : Int) = some b ∧ (b = true → ∀ c ∈ l.drop i, c.f1.length ≤ 20) := by
  intro d
  induction d with
  | zero =>
    intro k i hi hk
    obtain ⟨k, rfl⟩ : ∃ q, k = q + 1 := ⟨k - 1, by omega⟩
    simp only [cobweblaw10_small.l0]
    rw [if_neg (by omega), List.drop_eq_nil_of_le (by omega)]
    exact ⟨true, rfl, fun _ c hc => by simp at hc⟩
  | succ d ih =>
    intro k i hi hk
    obtain ⟨k, rfl⟩ : ∃ q, k = q + 1 := ⟨k - 1, by omega⟩
    simp only [cobweblaw10_small.l0]
    rw [if_pos (by omega), if_pos (by omega), w64 (by omega) (by omega), show (i : Int) + 1 = ((i + 1 : Nat) : Int) by omega, drop_c (by omega)]
    by_cases h : ((rd_T39 l (i : Int)).f1.length : Int) > 20
    · rw [if_pos h]
      exact ⟨false, rfl, fun e => by cases e⟩
    · rw [if_neg h]
      obtain ⟨b, h1, h2⟩ := ih k (i + 1) (by omega) (by omega)
      refine ⟨b, h1, fun e c hc => ?_⟩
      rcases List.mem_cons.1 hc with rfl | hc
      · omega
      · exact h2 e c hc
theorem small_spec (l : List S39) {k : Nat} (hk : 50 ≤ k) : ∃ b, cobweblaw10_small.f k l = some b ∧ (b = true → l.length ≤ 40 ∧ ∀ c ∈ l, c.f1.length ≤ 20) := by
  unfold cobweblaw10_small.f
  by_cases h : (l.length : Int) > 40
  · rw [if_pos h]
    exact ⟨false, rfl, fun e => by cases e⟩
  · rw [if_neg h]
    obtain ⟨b, h1, h2⟩ := small_from l (by omega) l.length k 0 (by omega) (by omega)
    exact ⟨b, h1, fun e => ⟨by omega, by simpa using h2 e⟩⟩
theorem rd_len (l : List S39) (h4 : ∀ c ∈ l, c.f1.length ≤ 20) (i : Int) : (rd_T39 l i).f1.length ≤ 20 := by
  unfold rd_T39
  rw [List.getD_eq_getElem?_getD]
  cases h : l[i.toNat]? with
  | none => simp [z39]
  | some c => exact h4 c (List.mem_of_getElem? h)
theorem insert_bound {l : List S39} {id : Int} {r : List S39 × Int} (h4 : ∀ c ∈ l, c.f1.length ≤ 20) (h : chunk_Insert.f l id = some r) : r.1.length ≤ 2 ∧ ∀ c ∈ r.1, c.f1.length ≤ 30 := by
  unfold chunk_Insert.f at h
  split at h
  · split at h
    · cases h; simp
    · split at h
      · cases h; simp
      · split at h
        · cases h; simp
        · split at h
          · cases h; simp
          · have hb := rd_len l h4 (placeGo id 0 0 l)
            generalize rd_T39 l (placeGo id 0 0 l) = c at *
            have hp := putAt_len id c.f1
            unfold insertAt at h
            split at h
            · cases h; simp; omega
            · cases hf : chunk_fresh.f l with
              | none => rw [hf] at h; cases h
              | some no =>
                rw [hf] at h
                simp only [Option.bind_some] at h
                cases h
                simp
                omega
  · cases h
theorem remove_bound {l : List S39} {id : Int} {r : List S39 × Int} (h4 : ∀ c ∈ l, c.f1.length ≤ 20) (h : chunk_Remove.f l id = some r) : r.1.length ≤ 2 ∧ ∀ c ∈ r.1, c.f1.length ≤ 30 := by
  unfold chunk_Remove.f at h
  split at h
  · split at h
    · cases h; simp
    · split at h
      · cases h; simp
      · have hb := rd_len l h4 (placeGo id 0 0 l)
        have hb2 := rd_len l h4 (placeGo id 0 0 l - 1)
        generalize rd_T39 l (placeGo id 0 0 l) = c at *
        have hw : (without id c.f1).length ≤ c.f1.length := List.length_filter_le _ _
        unfold removeAt at h
        split at h
        · cases h; simp; omega
        · cases h; simp; omega
  · cases h
theorem ids_le (l : List S39) (h4 : ∀ c ∈ l, c.f1.length ≤ 20) : (idsOf l).length ≤ 20 * l.length := by
  induction l with
  | nil => simp [idsOf]
  | cons c r ih =>
    have h1 := h4 c (by simp)
    have h2 := ih (fun d hd => h4 d (List.mem_cons_of_mem _ hd))
    rw [idsOf_cons, List.length_append, List.length_cons]
    omega
theorem ChunkChanges (l : List S39) (id : Int) : ∃ k, cobweblaw10_ChunkChanges.f k l id = some true := by
  refine ⟨6000001, ?_⟩
  unfold cobweblaw10_ChunkChanges.f
  rw [awake_true _ (by omega)]
  simp only [Option.bind_some, if_true]
  obtain ⟨b, hb, hs⟩ := small_spec l (k := 6000001) (by omega)
  rw [hb]
  simp only [Option.bind_some]
  rw [show (6000001 : Nat) = 6000000 + 1 by omega]
  cases b with
  | false =>
    simp only [cobweblaw10_ChunkChanges.j0, Bool.not_false, if_true]
    rw [awake_true _ (by omega)]
    rfl
  | true =>
    obtain ⟨h40, h20⟩ := hs rfl
    have h1000 : ∀ c ∈ l, c.f1.length ≤ 1000 := fun c hc => by have := h20 c hc; omega
    have hi := ids_le l h20
    obtain ⟨r, hr1, hr2⟩ := ref_insert l id (by omega) h1000 (by omega) (k := 6000000) (by omega)
    obtain ⟨s, hs1, hs2⟩ := ref_remove l id (by omega) h1000 (k := 6000000) (by omega)
    obtain ⟨b1, b2⟩ := insert_bound h20 hr2
    obtain ⟨b3, b4⟩ := remove_bound h20 hs2
    simp only [cobweblaw10_ChunkChanges.j0, Bool.not_true]
    rw [if_neg (by decide), ref_copied_spec l (by omega) h1000 (by omega)]
    simp only [Option.bind_some]
    rw [hr2]
    simp only [Option.bind_some]
    rw [hs2]
    simp only [Option.bind_some]
    rw [hr1]
    simp only [Option.bind_some]
    rw [hs1]
    simp only [Option.bind_some]
    rw [same_self l (by omega) h1000 (by omega)]
    simp only [Option.bind_some, if_true]
    rw [show chunk_Right.f l = some (rightGo true (-1) [] l) from rfl]
    simp only [Option.bind_some]
    rw [ref_right l (by omega) h1000 (by omega)]
    simp only [Option.bind_some]
    rw [if_pos (by simp), IDs_spec l (by omega) (by omega) _ (by omega)]
    simp only [Option.bind_some]
    rw [ref_ids_spec l (by omega) h1000 (by omega)]
    simp only [Option.bind_some]
    rw [ints_self _ (by omega) (by omega)]
    simp only [Option.bind_some, if_true]
    rw [same_self r.1 (by omega) (fun c hc => by have := b2 c hc; omega) (by omega)]
    simp only [Option.bind_some, if_true]
    rw [same_self s.1 (by omega) (fun c hc => by have := b4 c hc; omega) (by omega)]
    rfl
end Go.Proofs.Ytfbegchhgigjeaa.Pure
end
section
namespace Go.Proofs.Ytfbegchhgigjeaa
theorem chunkChanges_holds : Rows.ChunkChangesSaid := chunkChanges.over (fun l0 a1 _ => Pure.ChunkChanges l0 a1)
end Go.Proofs.Ytfbegchhgigjeaa
end
#print axioms Go.Proofs.Ytfbegchhgigjeaa.chunkChanges_holds
