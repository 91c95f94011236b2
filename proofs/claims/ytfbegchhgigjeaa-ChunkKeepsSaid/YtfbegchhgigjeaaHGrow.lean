/- Chains, in plain lists: what 'Right' says. -/
/- Insert and Apply, in plain lists: a chain grows by an id. -/
import Derived.Test.YtfbegchhgigjeaaHSpec
import Derived.Test.YtfbegchhgigjeaaHInsert
import Derived.Test.YtfbegchhgigjeaaHTab
set_option linter.unusedVariables false
set_option linter.unusedSimpArgs false
namespace Go.Proofs.Ytfbegchhgigjeaa.PC
open Go.RowKit
def Linked : List S39 → Prop
  | [] => True
  | c :: r => c.f2 = nextNo r ∧ Linked r
def Heads (first : Bool) : List S39 → Prop
  | [] => True
  | c :: r => (c.f0 = 0 ↔ first = true) ∧ (first = false → c.f1 ≠ []) ∧ Heads false r
/-- What 'Right' says from some place of a list on. -/
structure ChainGo (first : Bool) (last : Int) (seen : List Int) (l : List S39) : Prop where
  each : ∀ c ∈ l, c.f3 = false ∧ 0 ≤ c.f0 ∧ c.f1.length ≤ 4 ∧ c.f0 ∉ seen
  nums : (l.map (·.f0)).Pairwise (· ≠ ·)
  link : Linked l
  head : Heads first l
  rise : (idsOf l).Pairwise (· < ·)
  low : ∀ x ∈ idsOf l, last < x
theorem rightIds_of : ∀ {l : List Int} {a : Int}, l.Pairwise (· < ·) → (∀ x ∈ l, a < x) → ∃ b, rightIds a l = some b ∧ (b ∈ l ∨ (l = [] ∧ b = a))
  | [], a, _, _ => ⟨a, rfl, .inr ⟨rfl, rfl⟩⟩
  | x :: r, a, h, hl => by
    obtain ⟨h1, h2⟩ := List.pairwise_cons.1 h
    obtain ⟨b, hb, hm⟩ := rightIds_of (l := r) (a := x) h2 h1
    have hx : ¬ x ≤ a := by have := hl x (by simp); omega
    refine ⟨b, by simp only [rightIds, if_neg hx]; exact hb, .inl ?_⟩
    rcases hm with hm | ⟨_, rfl⟩
    · exact List.mem_cons_of_mem _ hm
    · simp
theorem wrong_false {first : Bool} {seen : List Int} {nx : Int} {c : S39} : wrongC first seen nx c = false ↔ (c.f3 = false ∧ 0 ≤ c.f0 ∧ c.f1.length ≤ 4 ∧ c.f0 ∉ seen) ∧ c.f2 = nx ∧ (c.f0 = 0 ↔ first = true) ∧ (first = false → c.f1 ≠ []) := by
  unfold wrongC
  cases first
  · simp only [Bool.or_eq_false_iff, Bool.and_eq_false_iff, bne_eq_false_iff_eq, decide_eq_false_iff_not, beq_eq_false_iff_ne, Bool.not_false, List.contains_eq_mem]
    constructor
    · rintro ⟨⟨⟨⟨⟨⟨h1, h2⟩, h3⟩, h4⟩, h5⟩, h6⟩, h7⟩
      exact ⟨⟨h1, by omega, by omega, h4⟩, h2, ⟨fun e => absurd e h5, fun e => by cases e⟩, fun _ e => by simp [e] at h7⟩
    · rintro ⟨⟨h1, h2, h3, h4⟩, h5, h6, h7⟩
      exact ⟨⟨⟨⟨⟨⟨h1, h5⟩, by omega⟩, h4⟩, fun e => by simpa using h6.1 e⟩, by omega⟩, .inr (fun e => h7 trivial (List.length_eq_zero_iff.1 e))⟩
  · simp only [Bool.or_eq_false_iff, bne_eq_false_iff_eq, decide_eq_false_iff_not, Bool.not_true, Bool.false_and, List.contains_eq_mem, beq_iff_eq]
    constructor
    · rintro ⟨⟨⟨⟨⟨⟨h1, h2⟩, h3⟩, h4⟩, h5⟩, h6⟩, h7⟩
      exact ⟨⟨h1, by omega, by omega, h4⟩, h2, ⟨fun _ => trivial, fun _ => h5⟩, fun e => by cases e⟩
    · rintro ⟨⟨h1, h2, h3, h4⟩, h5, h6, h7⟩
      exact ⟨⟨⟨⟨⟨⟨h1, h5⟩, by omega⟩, h4⟩, h6.2 trivial⟩, by omega⟩, trivial⟩
theorem chain_iff : ∀ {l : List S39} {first : Bool} {last : Int} {seen : List Int}, rightGo first last seen l = true ↔ ChainGo first last seen l
  | [], first, last, seen => by
    simp only [rightGo, true_iff]
    exact ⟨by simp, by simp, trivial, trivial, by simp [idsOf], by simp [idsOf]⟩
  | c :: r, first, last, seen => by
    unfold rightGo
    constructor
    · intro h
      split at h
      · cases h
      · rename_i hw
        have hw := wrong_false.1 (by simpa using hw)
        split at h
        · cases h
        · rename_i b hb
          obtain ⟨r1, r2, r3, r4⟩ := rightIds_rise hb
          have H := chain_iff.1 h
          refine ⟨?_, ?_, ⟨hw.2.1, H.link⟩, ⟨hw.2.2.1, hw.2.2.2, H.head⟩, ?_, ?_⟩
          · intro d hd
            rcases List.mem_cons.1 hd with rfl | hd
            · exact hw.1
            · obtain ⟨e1, e2, e3, e4⟩ := H.each d hd
              exact ⟨e1, e2, e3, fun hm => e4 (List.mem_cons_of_mem _ hm)⟩
          · rw [List.map_cons, List.pairwise_cons]
            refine ⟨fun y hy => ?_, H.nums⟩
            obtain ⟨d, hd, rfl⟩ := List.mem_map.1 hy
            intro e
            exact (H.each d hd).2.2.2 (by rw [← e]; simp)
          · rw [idsOf_cons, List.pairwise_append]
            exact ⟨r1, H.rise, fun x hx y hy => by have := r3 x hx; have := H.low y hy; omega⟩
          · intro x hx
            rw [idsOf_cons] at hx
            rcases List.mem_append.1 hx with hx | hx
            · exact r2 x hx
            · have := H.low x hx; omega
    · intro H
      have h1 := H.each c (by simp)
      have hw : wrongC first seen (nextNo r) c = false := wrong_false.2 ⟨h1, H.link.1, H.head.1, H.head.2.1⟩
      rw [if_neg (by simp [hw])]
      have hr := H.rise
      rw [idsOf_cons, List.pairwise_append] at hr
      obtain ⟨b, hb, hm⟩ := rightIds_of hr.1 (fun x hx => H.low x (by rw [idsOf_cons]; exact List.mem_append_left _ hx))
      rw [hb]
      refine chain_iff.2 ⟨?_, ?_, H.link.2, H.head.2.2, hr.2.1, ?_⟩
      · intro d hd
        obtain ⟨e1, e2, e3, e4⟩ := H.each d (List.mem_cons_of_mem _ hd)
        refine ⟨e1, e2, e3, fun hm2 => ?_⟩
        rcases List.mem_cons.1 hm2 with e | hm2
        · have hn := H.nums
          rw [List.map_cons, List.pairwise_cons] at hn
          exact hn.1 d.f0 (List.mem_map.2 ⟨d, hd, rfl⟩) e.symm
        · exact e4 hm2
      · have hn := H.nums
        rw [List.map_cons, List.pairwise_cons] at hn
        exact hn.2
      · intro y hy
        rcases hm with hm | ⟨_, rfl⟩
        · exact hr.2.2 b hm y hy
        · exact H.low y (by rw [idsOf_cons]; exact List.mem_append_right _ hy)
def Chain (l : List S39) : Prop := ChainGo true (-1) [] l
theorem right_iff {l : List S39} : chunk_Right.f l = some true ↔ Chain l := by
  unfold chunk_Right.f
  rw [Option.some.injEq]
  exact chain_iff
end Go.Proofs.Ytfbegchhgigjeaa.PC

set_option linter.unusedVariables false
set_option linter.unusedSimpArgs false
namespace Go.Proofs.Ytfbegchhgigjeaa.PC
open Go.RowKit Go.Proofs.YtfbegchhgigjeaaH Go.Proofs.YtfbegchhgigjeaaW.PrintWords Go.Proofs.YtfbegchhgigjeaaW.PrintLast
/-! ### Apply -/
theorem lkp_delP {α : Type} {j k : Int} (h : j ≠ k) : ∀ {ps : List (Int × α)}, lkp j (delP k ps) = lkp j ps
  | [] => rfl
  | (a, u) :: r => by
    unfold delP
    by_cases e : a = k
    · subst e
      rw [if_pos rfl]
      simp only [lkp]
      rw [if_neg (fun e => h e.symm)]
    · rw [if_neg e]
      simp only [lkp]
      rw [lkp_delP h]
theorem applyGo_chain : ∀ (l : List S39) (ps : List (Int × S39)), l ≠ [] → Linked l → (l.map (·.f0)).Pairwise (· ≠ ·) → (∀ c ∈ l, c.f3 = false) → (∀ c ∈ l.tail, c.f0 ≠ 0) → (∀ c ∈ l, lkp c.f0 ps = some c) → applyGo (ps.length + 1) ps (nextNo l) = l
  | [], _, h, _, _, _, _, _ => absurd rfl h
  | c :: r, ps, _, hl, hn, hg, ht, hk => by
    have h1 := hk c (by simp)
    have h3 : ¬ c.f3 = true := by simp [hg c (by simp)]
    simp only [nextNo, applyGo, h1, if_neg h3]
    cases r with
    | nil =>
      have : c.f2 = 0 := hl.1
      rw [if_pos this]
    | cons d r =>
      have h2 : c.f2 = d.f0 := hl.1
      have h4 : ¬ c.f2 = 0 := by rw [h2]; exact ht d (by simp)
      rw [if_neg h4, h2]
      rw [List.map_cons, List.pairwise_cons] at hn
      have h5 := applyGo_chain (d :: r) (delP c.f0 ps) (by simp) hl.2 hn.2 (fun x hx => hg x (List.mem_cons_of_mem _ hx)) (fun x hx => ht x (List.mem_of_mem_tail hx)) (fun x hx => by
        rw [lkp_delP (fun e => hn.1 x.f0 (List.mem_map.2 ⟨x, hx, rfl⟩) e.symm)]
        exact hk x (List.mem_cons_of_mem _ hx))
      rw [length_delP _ h1] at h5
      exact congrArg (c :: ·) h5
theorem tabGo_append : ∀ (a b : List S39) (ps : List (Int × S39)), tabGo ps (a ++ b) = tabGo (tabGo ps a) b
  | [], b, ps => rfl
  | c :: a, b, ps => tabGo_append a b _
theorem lkp_tab_other {k : Int} : ∀ {l : List S39} {ps : List (Int × S39)}, (∀ c ∈ l, c.f0 ≠ k) → lkp k (tabGo ps l) = lkp k ps
  | [], ps, _ => rfl
  | c :: r, ps, h => by
    simp only [tabGo]
    rw [lkp_tab_other (fun d hd => h d (List.mem_cons_of_mem _ hd)), lkp_putP, if_neg (h c (by simp))]
theorem lkp_tab {c : S39} : ∀ {l : List S39} {ps : List (Int × S39)}, (l.map (·.f0)).Pairwise (· ≠ ·) → c ∈ l → lkp c.f0 (tabGo ps l) = some c
  | d :: r, ps, hn, hc => by
    rw [List.map_cons, List.pairwise_cons] at hn
    simp only [tabGo]
    rcases List.mem_cons.1 hc with rfl | hc
    · rw [lkp_tab_other (fun x hx e => hn.1 x.f0 (List.mem_map.2 ⟨x, hx, rfl⟩) e.symm), lkp_putP, if_pos rfl]
    · exact lkp_tab hn.2 hc
/-! ### fresh -/
theorem freshNo_some (l : List S39) : ∀ (f : Nat) (n : Int), (l.countP (fun c => decide (n ≤ c.f0))) < f → ∃ m, freshNo l f n = some m ∧ n ≤ m ∧ ∀ c ∈ l, c.f0 ≠ m
  | 0, n, h => by omega
  | f + 1, n, h => by
    unfold freshNo
    by_cases ha : l.any (fun c => c.f0 == n) = true
    · rw [if_pos ha]
      have hlt : l.countP (fun c => decide (n + 1 ≤ c.f0)) < l.countP (fun c => decide (n ≤ c.f0)) := by
        clear h
        induction l with
        | nil => simp at ha
        | cons d r ih =>
          simp only [List.any_cons, Bool.or_eq_true, beq_iff_eq] at ha
          simp only [List.countP_cons, decide_eq_true_eq]
          have hle : r.countP (fun c => decide (n + 1 ≤ c.f0)) ≤ r.countP (fun c => decide (n ≤ c.f0)) := List.countP_mono_left (fun x _ hx => by simp at hx ⊢; omega)
          rcases ha with ha | ha
          · rw [if_neg (by omega), if_pos (by omega)]; omega
          · have := ih ha
            split <;> split <;> omega
      obtain ⟨m, h1, h2, h3⟩ := freshNo_some l f (n + 1) (by omega)
      exact ⟨m, h1, by omega, h3⟩
    · rw [if_neg ha]
      refine ⟨n, rfl, Int.le_refl _, fun c hc e => ha ?_⟩
      exact List.any_eq_true.2 ⟨c, hc, by simp [e]⟩
theorem fresh_some (l : List S39) (h : l.length ≤ 1000000) : ∃ m, chunk_fresh.f l = some m ∧ 1 ≤ m ∧ ∀ c ∈ l, c.f0 ≠ m := by
  obtain ⟨m, h1, h2, h3⟩ := freshNo_some l (l.length + 1) 1 (by have := List.countP_le_length (p := fun c : S39 => decide ((1 : Int) ≤ c.f0)) (l := l); omega)
  exact ⟨m, by unfold chunk_fresh.f; rw [if_pos h]; exact h1, h2, h3⟩
/-! ### place -/
theorem placeGo_spec (id : Int) : ∀ (l : List S39) (at_ i : Int), (placeGo id at_ i l = at_ ∧ ∀ d ∈ l, ¬ (0 < d.f1.length ∧ rd d.f1 0 ≤ id)) ∨ ∃ a c b, l = a ++ c :: b ∧ placeGo id at_ i l = i + a.length ∧ (0 < c.f1.length ∧ rd c.f1 0 ≤ id) ∧ ∀ d ∈ b, ¬ (0 < d.f1.length ∧ rd d.f1 0 ≤ id)
  | [], at_, i => .inl ⟨rfl, by simp⟩
  | c :: r, at_, i => by
    unfold placeGo
    by_cases hc : 0 < c.f1.length ∧ rd c.f1 0 ≤ id
    · rw [if_pos hc]
      rcases placeGo_spec id r i (i + 1) with ⟨h1, h2⟩ | ⟨a, d, b, rfl, h1, h2, h3⟩
      · exact .inr ⟨[], c, r, rfl, by rw [h1]; simp, hc, h2⟩
      · exact .inr ⟨c :: a, d, b, rfl, by rw [h1]; simp; omega, h2, h3⟩
    · rw [if_neg hc]
      rcases placeGo_spec id r at_ (i + 1) with ⟨h1, h2⟩ | ⟨a, d, b, rfl, h1, h2, h3⟩
      · exact .inl ⟨h1, fun d hd => by rcases List.mem_cons.1 hd with rfl | hd; exact hc; exact h2 d hd⟩
      · exact .inr ⟨c :: a, d, b, rfl, by rw [h1]; simp; omega, h2, h3⟩
theorem rd_head {x : Int} {l : List Int} : rd (x :: l) 0 = x := rfl
theorem mem_idsOf {l : List S39} {x : Int} : x ∈ idsOf l ↔ ∃ c ∈ l, x ∈ c.f1 := by simp [idsOf]
theorem heads_false : ∀ {l : List S39}, Heads false l → ∀ c ∈ l, c.f0 ≠ 0 ∧ c.f1 ≠ []
  | c :: r, h, d, hd => by
    obtain ⟨h1, h2, h3⟩ := h
    rcases List.mem_cons.1 hd with rfl | hd
    · exact ⟨fun e => by simpa using h1.1 e, h2 rfl⟩
    · exact heads_false h3 d hd
/-- Where an id goes. -/
theorem place_split {l : List S39} (H : Chain l) (id : Int) (hne : l ≠ []) (hni : id ∉ idsOf l) : ∃ a c b, l = a ++ c :: b ∧ placeGo id 0 0 l = (a.length : Int) ∧ (∀ x ∈ idsOf a, x < id) ∧ (∀ x ∈ idsOf b, id < x) := by
  have hb : ∀ b : List S39, (∀ d ∈ b, d.f1 ≠ []) → (∀ d ∈ b, d.f1.Pairwise (· < ·)) → (∀ d ∈ b, ¬ (0 < d.f1.length ∧ rd d.f1 0 ≤ id)) → ∀ x ∈ idsOf b, id < x := by
    intro b h1 h2 h3 x hx
    obtain ⟨d, hd, hx⟩ := mem_idsOf.1 hx
    have e1 := h1 d hd
    have e2 := h2 d hd
    have e3 := h3 d hd
    cases hf : d.f1 with
    | nil => exact absurd hf e1
    | cons y r =>
      rw [hf] at e2 e3 hx
      rw [rd_head] at e3
      have e4 : id < y := by
        have : ¬ y ≤ id := fun h => e3 ⟨by simp, h⟩
        omega
      rcases List.mem_cons.1 hx with rfl | hx
      · exact e4
      · have := (List.pairwise_cons.1 e2).1 x hx; omega
  have hp : ∀ d ∈ l, d.f1.Pairwise (· < ·) := fun d hd => (rightGo_mem (chain_iff.2 H) d hd).1
  cases l with
  | nil => exact absurd rfl hne
  | cons c0 r =>
    have hh := heads_false H.head.2.2
    have hp0 : placeGo id 0 0 (c0 :: r) = placeGo id 0 1 r := by
      show placeGo id (if 0 < c0.f1.length ∧ rd c0.f1 0 ≤ id then 0 else 0) (0 + 1) r = _
      rw [ite_self, Int.zero_add]
    rcases placeGo_spec id r 0 1 with ⟨h1, h2⟩ | ⟨a, c, b, hr, h1, h2, h3⟩
    · exact ⟨[], c0, r, rfl, by rw [hp0, h1]; simp, by simp [idsOf], hb r (fun d hd => (hh d hd).2) (fun d hd => hp d (List.mem_cons_of_mem _ hd)) h2⟩
    · subst hr
      refine ⟨c0 :: a, c, b, rfl, by rw [hp0, h1]; simp; omega, ?_, hb b (fun d hd => (hh d (by simp [hd])).2) (fun d hd => hp d (by simp [hd])) h3⟩
      intro x hx
      have hri := H.rise
      rw [show c0 :: (a ++ c :: b) = (c0 :: a) ++ c :: b from rfl, idsOf_append, idsOf_cons, List.pairwise_append] at hri
      cases hf : c.f1 with
      | nil => rw [hf] at h2; simp at h2
      | cons y r =>
        rw [hf, rd_head] at h2
        have := hri.2.2 x hx y (by rw [idsOf_cons, hf]; simp)
        omega
end Go.Proofs.Ytfbegchhgigjeaa.PC
namespace Go.Proofs.Ytfbegchhgigjeaa.PC
open Go.RowKit Go.Proofs.YtfbegchhgigjeaaH Go.Proofs.YtfbegchhgigjeaaW.PrintWords Go.Proofs.YtfbegchhgigjeaaW.PrintLast
theorem mem_putAt {x y : Int} {l : List Int} : y ∈ putAt x l ↔ y = x ∨ y ∈ l := by
  unfold putAt
  have h : ∀ y, y ∈ l ↔ y ∈ l.takeWhile (fun y => decide (y < x)) ∨ y ∈ l.dropWhile (fun y => decide (y < x)) := fun y => by
    rw [← List.mem_append, List.takeWhile_append_dropWhile]
  rw [List.mem_append, List.mem_cons, h y]
  constructor
  · rintro (h | h | h)
    · exact .inr (.inl h)
    · exact .inl h
    · exact .inr (.inr h)
  · rintro (h | h | h)
    · exact .inr (.inl h)
    · exact .inl h
    · exact .inr (.inr h)
theorem putAt_rise {x : Int} : ∀ {l : List Int}, l.Pairwise (· < ·) → x ∉ l → (putAt x l).Pairwise (· < ·)
  | [], _, _ => by simp [putAt]
  | y :: r, h, hn => by
    obtain ⟨h1, h2⟩ := List.pairwise_cons.1 h
    have hxy : x ≠ y := fun e => hn (by simp [e])
    by_cases hy : y < x
    · have e : putAt x (y :: r) = y :: putAt x r := by simp [putAt, hy]
      rw [e, List.pairwise_cons]
      refine ⟨fun z hz => ?_, putAt_rise h2 (fun hm => hn (List.mem_cons_of_mem _ hm))⟩
      rcases mem_putAt.1 hz with rfl | hz
      · exact hy
      · exact h1 z hz
    · have e : putAt x (y :: r) = x :: y :: r := by simp [putAt, hy]
      rw [e, List.pairwise_cons]
      refine ⟨fun z hz => ?_, h⟩
      rcases List.mem_cons.1 hz with rfl | hz
      · omega
      · have := h1 z hz; omega
theorem linked_swap : ∀ {a m m' : List S39}, Linked (a ++ m) → nextNo m' = nextNo m → Linked m' → Linked (a ++ m')
  | [], m, m', _, _, h => h
  | c :: a, m, m', h, hn, hm => by
    refine ⟨?_, linked_swap h.2 hn hm⟩
    have h1 : c.f2 = nextNo (a ++ m) := h.1
    show c.f2 = nextNo (a ++ m')
    rw [h1]
    cases a with
    | nil => exact hn.symm
    | cons d a => rfl
theorem linked_tail : ∀ {a m : List S39}, Linked (a ++ m) → Linked m
  | [], _, h => h
  | _ :: a, _, h => linked_tail h.2
theorem heads_swap : ∀ {a : List S39} {f : Bool} {c c' : S39} {b b' : List S39}, Heads f (a ++ c :: b) → c'.f0 = c.f0 → c'.f1 ≠ [] → Heads false b' → Heads f (a ++ c' :: b')
  | [], f, c, c', b, b', h, h0, h1, hb => ⟨by rw [h0]; exact h.1, fun _ => h1, hb⟩
  | d :: a, f, c, c', b, b', h, h0, h1, hb => ⟨h.1, h.2.1, heads_swap h.2.2 h0 h1 hb⟩
theorem heads_tail : ∀ {a : List S39} {f : Bool} {c : S39} {b : List S39}, Heads f (a ++ c :: b) → Heads false b
  | [], f, c, b, h => h.2.2
  | d :: a, f, c, b, h => heads_tail (a := a) h.2.2
theorem rd_mid (a : List S39) (c : S39) (b : List S39) : rd_T39 (a ++ c :: b) (a.length : Int) = c := by
  simp [rd_T39, List.getD_eq_getElem?_getD]
/-- A chain, one of whose chunks is put another way. -/
theorem chain_swap {a b m : List S39} {c c' : S39} (H : Chain (a ++ c :: b)) (h0 : c'.f0 = c.f0) (h1 : c'.f1 ≠ []) (hm : ∀ d ∈ c' :: m, d.f3 = false ∧ 0 ≤ d.f0 ∧ d.f1.length ≤ 4) (hl : Linked (c' :: m ++ b)) (hh : Heads false m)
    (hn : ((m ++ b).map (·.f0)).Pairwise (· ≠ ·)) (hn2 : ∀ d ∈ a ++ [c], ∀ e ∈ m, d.f0 ≠ e.f0) (hr : (idsOf (c' :: m)).Pairwise (· < ·)) (ha : ∀ x ∈ idsOf a, ∀ y ∈ idsOf (c' :: m), x < y) (hb : ∀ x ∈ idsOf b, ∀ y ∈ idsOf (c' :: m), y < x) (h2 : ∀ y ∈ idsOf (c' :: m), 0 ≤ y) :
    Chain (a ++ c' :: m ++ b) := by
  have hri := H.rise
  rw [idsOf_append, idsOf_cons, List.pairwise_append] at hri
  have hbb := List.pairwise_append.1 hri.2.1
  have hnn := H.nums
  rw [List.map_append, List.map_cons, List.pairwise_append] at hnn
  have hcb := List.pairwise_cons.1 hnn.2.1
  have hHb := heads_tail (a := a) H.head
  have hHm : Heads false (m ++ b) := by
    clear hm hl hn hn2 hr ha hb h2
    induction m with
    | nil => exact hHb
    | cons d m ih => exact ⟨hh.1, hh.2.1, ih hh.2.2⟩
  rw [List.append_assoc]
  show Chain (a ++ (c' :: (m ++ b)))
  refine ⟨?_, ?_, ?_, ?_, ?_, ?_⟩
  · intro d hd
    rcases List.mem_append.1 hd with hd | hd
    · exact H.each d (List.mem_append_left _ hd)
    · rcases List.mem_cons.1 hd with rfl | hd
      · obtain ⟨e1, e2, e3⟩ := hm d (by simp)
        exact ⟨e1, e2, e3, by simp⟩
      · rcases List.mem_append.1 hd with hd | hd
        · obtain ⟨e1, e2, e3⟩ := hm d (List.mem_cons_of_mem _ hd)
          exact ⟨e1, e2, e3, by simp⟩
        · exact H.each d (List.mem_append_right _ (List.mem_cons_of_mem _ hd))
  · rw [List.map_append, List.map_cons, List.pairwise_append]
    refine ⟨hnn.1, List.pairwise_cons.2 ⟨fun y hy => ?_, hn⟩, fun x hx y hy => ?_⟩
    · obtain ⟨e, he, rfl⟩ := List.mem_map.1 hy
      rw [h0]
      rcases List.mem_append.1 he with he | he
      · exact hn2 c (by simp) e he
      · exact hcb.1 e.f0 (List.mem_map.2 ⟨e, he, rfl⟩)
    · rcases List.mem_cons.1 hy with rfl | hy
      · rw [h0]; exact hnn.2.2 x hx c.f0 (by simp)
      · obtain ⟨e, he, rfl⟩ := List.mem_map.1 hy
        obtain ⟨d, hd, rfl⟩ := List.mem_map.1 hx
        rcases List.mem_append.1 he with he | he
        · exact hn2 d (by simp [hd]) e he
        · exact hnn.2.2 d.f0 hx e.f0 (List.mem_cons_of_mem _ (List.mem_map.2 ⟨e, he, rfl⟩))
  · exact linked_swap H.link h0 hl
  · exact heads_swap H.head h0 h1 hHm
  · rw [idsOf_append, show c' :: (m ++ b) = (c' :: m) ++ b from rfl, idsOf_append, List.pairwise_append, List.pairwise_append]
    refine ⟨hri.1, ⟨hr, hbb.2.1, fun x hx y hy => hb y hy x hx⟩, fun x hx y hy => ?_⟩
    rcases List.mem_append.1 hy with hy | hy
    · exact ha x hx y hy
    · exact hri.2.2 x hx y (List.mem_append_right _ hy)
  · intro x hx
    rw [idsOf_append, show c' :: (m ++ b) = (c' :: m) ++ b from rfl, idsOf_append] at hx
    rcases List.mem_append.1 hx with hx | hx
    · exact H.low x (by rw [idsOf_append]; exact List.mem_append_left _ hx)
    · rcases List.mem_append.1 hx with hx | hx
      · have := h2 x hx; omega
      · exact H.low x (by rw [idsOf_append, idsOf_cons]; exact List.mem_append_right _ (List.mem_append_right _ hx))
end Go.Proofs.Ytfbegchhgigjeaa.PC
namespace Go.Proofs.Ytfbegchhgigjeaa.PC
open Go.RowKit Go.Proofs.YtfbegchhgigjeaaH Go.Proofs.YtfbegchhgigjeaaW.PrintWords Go.Proofs.YtfbegchhgigjeaaW.PrintLast
theorem apply_eq {l ch l' : List S39} (hl : l.length ≤ 100000) (hch : ch.length ≤ 100000) (hids : ∀ c ∈ l ++ ch, c.f1.length ≤ 1000000) (hne : l' ≠ []) (H : Chain l') (hk : ∀ c ∈ l', lkp c.f0 (tabOf (l ++ ch)) = some c) : chunk_Apply.f l ch = some l' := by
  unfold chunk_Apply.f
  rw [if_pos ⟨hl, hch, List.all_eq_true.2 (fun c hc => decide_eq_true (hids c hc))⟩]
  congr 1
  have h0 : nextNo l' = 0 := by
    cases l' with
    | nil => exact absurd rfl hne
    | cons c r => exact H.head.1.2 rfl
  rw [← h0]
  refine applyGo_chain l' _ hne H.link H.nums (fun c hc => (H.each c hc).1) (fun c hc => ?_) hk
  cases l' with
  | nil => cases hc
  | cons d r => exact (heads_false H.head.2.2 c hc).1
theorem chain_len {l : List S39} (H : Chain l) {c : S39} (h : c ∈ l) : c.f1.length ≤ 4 := (H.each c h).2.2.1
theorem insert_twice {l : List S39} {id : Int} (H : Chain l) (h0 : 0 ≤ id) (h1 : id < 1099511627776) (hl : l.length ≤ 50000) (hi : (idsOf l).length ≤ 50000) (hm : id ∈ idsOf l) : chunk_Insert.f l id = some ([], 31) := by
  unfold chunk_Insert.f
  rw [if_pos ⟨by omega, by omega⟩, chain_iff.2 H, if_neg (by decide), if_neg (by omega), if_pos (by simpa using hm)]
theorem insert_grow2 {l : List S39} {id : Int} (H : Chain l) (h0 : 0 ≤ id) (h1 : id < 1099511627776) (hl : l.length ≤ 50000) (hi : (idsOf l).length ≤ 50000) (hni : id ∉ idsOf l) :
    ∃ ch l', chunk_Insert.f l id = some (ch, 0) ∧ chunk_Apply.f l ch = some l' ∧ Chain l' ∧ (∀ x, x ∈ idsOf l' ↔ x = id ∨ x ∈ idsOf l) ∧ l'.length ≤ l.length + 1 ∧ (idsOf l').length = (idsOf l).length + 1 ∧ 1 ≤ ch.length ∧ ch.length ≤ 2 ∧ (∀ d ∈ l, (∃ e ∈ ch, e.f0 = d.f0) ∨ d ∈ l') := by
  have hins : chunk_Insert.f l id = if l.length = 0 then some ([⟨0, [id], 0, false⟩], 0) else insertAt l id (rd_T39 l (placeGo id 0 0 l)) := by
    unfold chunk_Insert.f
    rw [if_pos ⟨by omega, by omega⟩, chain_iff.2 H, if_neg (by decide), if_neg (by omega), if_neg (by simpa using hni)]
  rcases Nat.eq_zero_or_pos l.length with hz | hz
  · obtain rfl := List.eq_nil_of_length_eq_zero hz
    rw [if_pos hz] at hins
    have H' : Chain [⟨0, [id], 0, false⟩] := ⟨by simp, by simp, ⟨rfl, trivial⟩, ⟨by simp, by simp, trivial⟩, by simp [idsOf], by simp [idsOf]; omega⟩
    refine ⟨_, _, hins, apply_eq (l' := [⟨0, [id], 0, false⟩]) (by simp) (by simp) (by simp) (by simp) H' ?_, H', by simp [idsOf], by simp, by simp [idsOf], by simp, by simp, fun d hd => by cases hd⟩
    intro c hc
    simp only [List.mem_singleton] at hc
    subst hc
    rfl
  · rw [if_neg (by omega)] at hins
    obtain ⟨a, c, b, rfl, hp, ha, hb⟩ := place_split H id (by intro e; rw [e] at hz; simp at hz) hni
    rw [hp, rd_mid] at hins
    have hnc : id ∉ c.f1 := fun h => hni (by rw [idsOf_append, idsOf_cons]; simp [h])
    have hri := H.rise
    rw [idsOf_append, idsOf_cons, List.pairwise_append] at hri
    have hcb := List.pairwise_append.1 hri.2.1
    have hput := putAt_rise hcb.1 hnc
    have hc4 := chain_len H (c := c) (by simp)
    have hlen := putAt_len id c.f1
    have hne : putAt id c.f1 ≠ [] := by intro e; rw [e] at hlen; simp at hlen
    have hA : ∀ x ∈ idsOf a, ∀ y ∈ putAt id c.f1, x < y := fun x hx y hy => by
      rcases mem_putAt.1 hy with rfl | hy
      · exact ha x hx
      · exact hri.2.2 x hx y (List.mem_append_left _ hy)
    have hB : ∀ x ∈ idsOf b, ∀ y ∈ putAt id c.f1, y < x := fun x hx y hy => by
      rcases mem_putAt.1 hy with rfl | hy
      · exact hb x hx
      · exact hcb.2.2 y hy x hx
    have hP : ∀ y ∈ putAt id c.f1, 0 ≤ y := fun y hy => by
      rcases mem_putAt.1 hy with rfl | hy
      · exact h0
      · have := H.low y (by rw [idsOf_append, idsOf_cons]; simp [hy]); omega
    have hec := H.each c (by simp)
    have hlk := linked_tail (a := a) H.link
    have hnn := H.nums
    rw [List.map_append, List.map_cons, List.pairwise_append] at hnn
    have hnb := List.pairwise_cons.1 hnn.2.1
    have hna : ∀ d ∈ a, d.f0 ≠ c.f0 := fun d hd => hnn.2.2 d.f0 (List.mem_map.2 ⟨d, hd, rfl⟩) c.f0 (by simp)
    have hnb2 : ∀ d ∈ b, d.f0 ≠ c.f0 := fun d hd e => hnb.1 d.f0 (List.mem_map.2 ⟨d, hd, rfl⟩) e.symm
    have htab : ∀ d ∈ a ++ b, lkp d.f0 (tabOf (a ++ c :: b)) = some d := fun d hd => lkp_tab H.nums (by rcases List.mem_append.1 hd with hd | hd; exact List.mem_append_left _ hd; exact List.mem_append_right _ (List.mem_cons_of_mem _ hd))
    have hother : ∀ d ∈ a ++ b, d.f0 ≠ c.f0 := fun d hd => by
      rcases List.mem_append.1 hd with hd | hd
      · exact hna d hd
      · exact hnb2 d hd
    have hids4 : ∀ d ∈ a ++ c :: b, d.f1.length ≤ 1000000 := fun d hd => by have := chain_len H hd; omega
    by_cases h4 : (putAt id c.f1).length ≤ 4
    · -- the chunk has room
      have hres : insertAt (a ++ c :: b) id c = some ([⟨c.f0, putAt id c.f1, c.f2, c.f3⟩], 0) := if_pos h4
      rw [hres] at hins
      generalize hc' : (⟨c.f0, putAt id c.f1, c.f2, c.f3⟩ : S39) = c' at *
      have e0 : c'.f0 = c.f0 := by rw [← hc']
      have e1 : c'.f1 = putAt id c.f1 := by rw [← hc']
      have e2 : c'.f2 = c.f2 := by rw [← hc']
      have e3 : c'.f3 = c.f3 := by rw [← hc']
      have H' : Chain (a ++ c' :: b) := by
        have := chain_swap (m := []) (c' := c') H e0 (by rw [e1]; exact hne) (fun d hd => by simp only [List.mem_singleton] at hd; subst hd; rw [e3, e0, e1]; exact ⟨hec.1, hec.2.1, h4⟩) ⟨by rw [e2]; exact hlk.1, hlk.2⟩ trivial hnb.2 (by simp) (by simpa [idsOf, e1] using hput) (fun x hx y hy => hA x hx y (by simpa [idsOf, e1] using hy)) (fun x hx y hy => hB x hx y (by simpa [idsOf, e1] using hy)) (fun y hy => hP y (by simpa [idsOf, e1] using hy))
        simpa using this
      refine ⟨_, a ++ c' :: b, hins, apply_eq (by omega) (by simp) (fun d hd => ?_) (by simp) H' (fun d hd => ?_), H', fun x => ?_, by simp, ?_, by simp, by simp, fun d hd => (List.mem_append.1 hd).elim (fun h => .inr (List.mem_append_left _ h)) (fun h => (List.mem_cons.1 h).elim (fun h => .inl ⟨c', by simp, by rw [h, e0]⟩) (fun h => .inr (List.mem_append_right _ (by simp [h]))))⟩
      · rcases List.mem_append.1 hd with hd | hd
        · exact hids4 d hd
        · simp only [List.mem_singleton] at hd; subst hd; rw [e1]; omega
      · rw [tabOf, tabGo_append]
        show lkp d.f0 (putP c'.f0 c' (tabOf (a ++ c :: b))) = some d
        rw [lkp_putP, e0]
        rcases List.mem_append.1 hd with hd | hd
        · rw [if_neg (fun e => hna d hd e.symm)]; exact htab d (List.mem_append_left _ hd)
        · rcases List.mem_cons.1 hd with rfl | hd
          · rw [if_pos e0.symm]
          · rw [if_neg (fun e => hnb2 d hd e.symm)]; exact htab d (List.mem_append_right _ hd)
      · rw [idsOf_append, idsOf_cons, idsOf_append, idsOf_cons, e1]
        simp only [List.mem_append, mem_putAt]
        constructor
        · rintro (h | (h | h) | h)
          · exact .inr (.inl h)
          · exact .inl h
          · exact .inr (.inr (.inl h))
          · exact .inr (.inr (.inr h))
        · rintro (h | h | h | h)
          · exact .inr (.inl (.inl h))
          · exact .inl h
          · exact .inr (.inl (.inr h))
          · exact .inr (.inr h)
      · rw [idsOf_append, idsOf_cons, idsOf_append, idsOf_cons, e1]
        simp only [List.length_append]
        omega
    · -- it is parted
      obtain ⟨no, hf, hno, hfn⟩ := fresh_some (a ++ c :: b) (by omega)
      have hres : insertAt (a ++ c :: b) id c = some ([⟨c.f0, (putAt id c.f1).take 3, no, c.f3⟩, ⟨no, (putAt id c.f1).drop 3, c.f2, false⟩], 0) := by
        unfold insertAt
        rw [if_neg h4, hf]
        rfl
      rw [hres] at hins
      generalize hc' : (⟨c.f0, (putAt id c.f1).take 3, no, c.f3⟩ : S39) = c' at *
      generalize hd' : (⟨no, (putAt id c.f1).drop 3, c.f2, false⟩ : S39) = d' at *
      have e0 : c'.f0 = c.f0 := by rw [← hc']
      have e1 : c'.f1 = (putAt id c.f1).take 3 := by rw [← hc']
      have e2 : c'.f2 = no := by rw [← hc']
      have e3 : c'.f3 = c.f3 := by rw [← hc']
      have g0 : d'.f0 = no := by rw [← hd']
      have g1 : d'.f1 = (putAt id c.f1).drop 3 := by rw [← hd']
      have g2 : d'.f2 = c.f2 := by rw [← hd']
      have g3 : d'.f3 = false := by rw [← hd']
      have hl1 : c'.f1.length = 3 := by rw [e1, List.length_take]; omega
      have hl2 : d'.f1.length = (putAt id c.f1).length - 3 := by rw [g1, List.length_drop]
      have hcat : idsOf (c' :: [d']) = putAt id c.f1 := by
        rw [idsOf_cons, e1]
        simp only [idsOf, List.flatMap_cons, List.flatMap_nil, List.append_nil]
        rw [g1, List.take_append_drop]
      have hne1 : c'.f1 ≠ [] := by intro e; rw [e] at hl1; simp at hl1
      have hne2 : d'.f1 ≠ [] := by intro e; rw [e] at hl2; simp at hl2; omega
      have hnew : ∀ x ∈ a ++ c :: b, x.f0 ≠ d'.f0 := fun x hx => by rw [g0]; exact hfn x hx
      have H' : Chain (a ++ c' :: d' :: b) := by
        have := chain_swap (m := [d']) (c' := c') H e0 hne1 (fun x hx => by
            rcases List.mem_cons.1 hx with rfl | hx
            · rw [e3, e0]; exact ⟨hec.1, hec.2.1, by omega⟩
            · simp only [List.mem_singleton] at hx; subst hx; rw [g3, g0]; exact ⟨rfl, by omega, by omega⟩)
          ⟨by rw [e2]; exact g0.symm, by rw [g2]; exact hlk.1, hlk.2⟩ ⟨⟨fun e => by omega, fun e => by cases e⟩, fun _ => hne2, trivial⟩
          (by
            show (d'.f0 :: b.map (·.f0)).Pairwise (· ≠ ·)
            refine List.pairwise_cons.2 ⟨fun y hy => ?_, hnb.2⟩
            obtain ⟨e, he, rfl⟩ := List.mem_map.1 hy
            exact fun h => hnew e (by simp [he]) h.symm)
          (fun x hx e he => by
            simp only [List.mem_singleton] at he
            subst he
            refine hnew x ?_
            rcases List.mem_append.1 hx with hx | hx
            · exact List.mem_append_left _ hx
            · simp only [List.mem_singleton] at hx; subst hx; simp)
          (by rw [hcat]; exact hput) (fun x hx y hy => hA x hx y (hcat ▸ hy)) (fun x hx y hy => hB x hx y (hcat ▸ hy)) (fun y hy => hP y (hcat ▸ hy))
        simpa using this
      have hidl : idsOf (a ++ c' :: d' :: b) = idsOf a ++ (putAt id c.f1 ++ idsOf b) := by
        rw [idsOf_append, show c' :: d' :: b = [c', d'] ++ b from rfl, idsOf_append, hcat]
      refine ⟨_, a ++ c' :: d' :: b, hins, apply_eq (by omega) (by simp) (fun d hd => ?_) (by simp) H' (fun d hd => ?_), H', fun x => ?_, by simp; omega, ?_, by simp, by simp, fun d hd => (List.mem_append.1 hd).elim (fun h => .inr (List.mem_append_left _ h)) (fun h => (List.mem_cons.1 h).elim (fun h => .inl ⟨c', by simp, by rw [h, e0]⟩) (fun h => .inr (List.mem_append_right _ (by simp [h]))))⟩
      · rcases List.mem_append.1 hd with hd | hd
        · exact hids4 d hd
        · rcases List.mem_cons.1 hd with rfl | hd
          · omega
          · simp only [List.mem_singleton] at hd; subst hd; omega
      · rw [tabOf, tabGo_append]
        show lkp d.f0 (putP d'.f0 d' (putP c'.f0 c' (tabOf (a ++ c :: b)))) = some d
        rw [lkp_putP, lkp_putP, e0]
        rcases List.mem_append.1 hd with hd | hd
        · rw [if_neg (fun e => hnew d (List.mem_append_left _ hd) e.symm), if_neg (fun e => hna d hd e.symm)]; exact htab d (List.mem_append_left _ hd)
        · rcases List.mem_cons.1 hd with rfl | hd
          · rw [if_neg (fun e => hnew c (by simp) (by rw [← e0]; exact e.symm)), if_pos e0.symm]
          · rcases List.mem_cons.1 hd with rfl | hd
            · rw [if_pos rfl]
            · rw [if_neg (fun e => hnew d (by simp [hd]) e.symm), if_neg (fun e => hnb2 d hd e.symm)]; exact htab d (List.mem_append_right _ hd)
      · rw [hidl, idsOf_append, idsOf_cons]
        simp only [List.mem_append, mem_putAt]
        constructor
        · rintro (h | (h | h) | h)
          · exact .inr (.inl h)
          · exact .inl h
          · exact .inr (.inr (.inl h))
          · exact .inr (.inr (.inr h))
        · rintro (h | h | h | h)
          · exact .inr (.inl (.inl h))
          · exact .inl h
          · exact .inr (.inl (.inr h))
          · exact .inr (.inr h)
      · rw [hidl, idsOf_append, idsOf_cons]
        simp only [List.length_append]
        omega
theorem insert_grow {l : List S39} {id : Int} (H : Chain l) (h0 : 0 ≤ id) (h1 : id < 1099511627776) (hl : l.length ≤ 50000) (hi : (idsOf l).length ≤ 50000) (hni : id ∉ idsOf l) :
    ∃ ch l', chunk_Insert.f l id = some (ch, 0) ∧ chunk_Apply.f l ch = some l' ∧ Chain l' ∧ (∀ x, x ∈ idsOf l' ↔ x = id ∨ x ∈ idsOf l) ∧ l'.length ≤ l.length + 1 ∧ (idsOf l').length = (idsOf l).length + 1 ∧ 1 ≤ ch.length ∧ ch.length ≤ 2 := by
  obtain ⟨ch, l', e1, e2, e3, e4, e5, e6, e7, e8, _⟩ := insert_grow2 H h0 h1 hl hi hni
  exact ⟨ch, l', e1, e2, e3, e4, e5, e6, e7, e8⟩
end Go.Proofs.Ytfbegchhgigjeaa.PC
