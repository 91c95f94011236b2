/- Remove and Apply, in plain lists: a chain loses an id. -/
import Derived.Test.YtfbegchhgigjeaaHGrow
import Derived.Test.YtfbegchhgigjeaaHRemove
set_option linter.unusedVariables false
set_option linter.unusedSimpArgs false
namespace Go.Proofs.Ytfbegchhgigjeaa.PC
open Go.RowKit Go.Proofs.YtfbegchhgigjeaaH Go.Proofs.YtfbegchhgigjeaaW.PrintWords Go.Proofs.YtfbegchhgigjeaaW.PrintLast
/-- Where an id lies. -/
theorem place_in {l : List S39} (H : Chain l) {id : Int} (hm : id ∈ idsOf l) : ∃ a c b, l = a ++ c :: b ∧ placeGo id 0 0 l = (a.length : Int) ∧ id ∈ c.f1 := by
  have hp : ∀ d ∈ l, d.f1.Pairwise (· < ·) := fun d hd => (rightGo_mem (chain_iff.2 H) d hd).1
  have hnb : ∀ b : List S39, (∀ d ∈ b, d.f1.Pairwise (· < ·)) → (∀ d ∈ b, ¬ (0 < d.f1.length ∧ rd d.f1 0 ≤ id)) → id ∉ idsOf b := by
    intro b h2 h3 hx
    obtain ⟨d, hd, hx⟩ := mem_idsOf.1 hx
    have e2 := h2 d hd
    have e3 := h3 d hd
    cases hf : d.f1 with
    | nil => rw [hf] at hx; simp at hx
    | cons y r =>
      rw [hf] at e2 e3 hx
      rw [rd_head] at e3
      rcases List.mem_cons.1 hx with rfl | hx
      · exact e3 ⟨by simp, Int.le_refl _⟩
      · exact e3 ⟨by simp, by have := (List.pairwise_cons.1 e2).1 id hx; omega⟩
  cases l with
  | nil => simp [idsOf] at hm
  | cons c0 r =>
    have hp0 : placeGo id 0 0 (c0 :: r) = placeGo id 0 1 r := by
      show placeGo id (if 0 < c0.f1.length ∧ rd c0.f1 0 ≤ id then 0 else 0) (0 + 1) r = _
      rw [ite_self, Int.zero_add]
    rcases placeGo_spec id r 0 1 with ⟨h1, h2⟩ | ⟨a, c, b, hr, h1, h2, h3⟩
    · refine ⟨[], c0, r, rfl, by rw [hp0, h1]; simp, ?_⟩
      rw [idsOf_cons] at hm
      exact (List.mem_append.1 hm).resolve_right (hnb r (fun d hd => hp d (List.mem_cons_of_mem _ hd)) h2)
    · subst hr
      refine ⟨c0 :: a, c, b, rfl, by rw [hp0, h1]; simp; omega, ?_⟩
      have hri := H.rise
      rw [show c0 :: (a ++ c :: b) = (c0 :: a) ++ c :: b from rfl, idsOf_append, idsOf_cons] at hm hri
      rcases List.mem_append.1 hm with h | h
      · exfalso
        cases hf : c.f1 with
        | nil => rw [hf] at h2; simp at h2
        | cons y t =>
          rw [hf, rd_head] at h2
          have := (List.pairwise_append.1 hri).2.2 id h y (by rw [idsOf_cons, hf]; simp)
          omega
      · rw [idsOf_cons] at h
        exact (List.mem_append.1 h).resolve_right (hnb b (fun d hd => hp d (by simp [hd])) h3)
theorem mem_without {id x : Int} {l : List Int} : x ∈ without id l ↔ x ≠ id ∧ x ∈ l := by
  unfold without
  rw [List.mem_filter]
  simp [and_comm]
theorem heads_keep : ∀ {a : List S39} {f : Bool} {c c' : S39} {b b' : List S39}, Heads f (a ++ c :: b) → c'.f0 = c.f0 → (f = false ∨ a ≠ [] → c'.f1 ≠ []) → Heads false b' → Heads f (a ++ c' :: b')
  | [], f, c, c', b, b', h, h0, h1, hb => ⟨by rw [h0]; exact h.1, fun e => h1 (.inl e), hb⟩
  | d :: a, f, c, c', b, b', h, h0, h1, hb => ⟨h.1, h.2.1, heads_keep h.2.2 h0 (fun _ => h1 (.inr (by simp))) hb⟩
/-- A chain, whose ids get fewer. -/
theorem chain_fewer {a b b' : List S39} {c c' : S39} (H : Chain (a ++ c :: b)) (h0 : c'.f0 = c.f0) (h1 : a ≠ [] → c'.f1 ≠ []) (hc : c'.f3 = false ∧ 0 ≤ c'.f0 ∧ c'.f1.length ≤ 4) (hl : Linked (c' :: b')) (hh : Heads false b')
    (hb : b'.Sublist b) (hs : (idsOf (c' :: b')).Sublist (idsOf (c :: b))) : Chain (a ++ c' :: b') := by
  have hsub : (idsOf (a ++ c' :: b')).Sublist (idsOf (a ++ c :: b)) := by
    rw [idsOf_append, idsOf_append]
    exact hs.append_left _
  have hnn := H.nums
  rw [List.map_append, List.map_cons] at hnn
  refine ⟨?_, ?_, linked_swap H.link h0 hl, heads_keep H.head h0 (fun h => h1 (h.resolve_left (by decide))) hh, H.rise.sublist hsub, fun x hx => H.low x (hsub.subset hx)⟩
  · intro d hd
    rcases List.mem_append.1 hd with hd | hd
    · exact H.each d (List.mem_append_left _ hd)
    · rcases List.mem_cons.1 hd with rfl | hd
      · exact ⟨hc.1, hc.2.1, hc.2.2, by simp⟩
      · exact H.each d (List.mem_append_right _ (List.mem_cons_of_mem _ (hb.subset hd)))
  · rw [List.map_append, List.map_cons, h0]
    refine hnn.sublist ?_
    exact ((hb.map _).cons_cons _).append_left _
theorem remove_shrink {l : List S39} {id : Int} (H : Chain l) (hl : l.length ≤ 50000) (hm : id ∈ idsOf l) :
    ∃ ch l', chunk_Remove.f l id = some (ch, 0) ∧ chunk_Apply.f l ch = some l' ∧ Chain l' ∧ (∀ x, x ∈ idsOf l' ↔ x ≠ id ∧ x ∈ idsOf l) ∧ l'.length ≤ l.length ∧ (idsOf l').length ≤ (idsOf l).length ∧ 1 ≤ ch.length ∧ ch.length ≤ 2 := by
  obtain ⟨a, c, b, rfl, hp, hin⟩ := place_in H hm
  have hrem : chunk_Remove.f (a ++ c :: b) id = some (removeAt (a ++ c :: b) id (a.length : Int) c) := by
    unfold chunk_Remove.f
    rw [if_pos (by omega), chain_iff.2 H, if_neg (by decide), hp, rd_mid, if_neg]
    rintro (h | h)
    · simp at h
    · have : c.f1.contains id = true := by simpa using hin
      rw [this] at h; cases h
  have hri := H.rise
  rw [idsOf_append, idsOf_cons, List.pairwise_append] at hri
  have hcb := List.pairwise_append.1 hri.2.1
  have hna : id ∉ idsOf a := fun h => by have := hri.2.2 id h id (List.mem_append_left _ hin); omega
  have hnb : id ∉ idsOf b := fun h => by have := hcb.2.2 id hin id h; omega
  have hec := H.each c (by simp)
  have hlk := linked_tail (a := a) H.link
  have hnn := H.nums
  rw [List.map_append, List.map_cons, List.pairwise_append] at hnn
  have hnb1 := List.pairwise_cons.1 hnn.2.1
  have hnac : ∀ d ∈ a, d.f0 ≠ c.f0 := fun d hd => hnn.2.2 d.f0 (List.mem_map.2 ⟨d, hd, rfl⟩) c.f0 (by simp)
  have hnbc : ∀ d ∈ b, d.f0 ≠ c.f0 := fun d hd e => hnb1.1 d.f0 (List.mem_map.2 ⟨d, hd, rfl⟩) e.symm
  have htab : ∀ d ∈ a ++ c :: b, lkp d.f0 (tabOf (a ++ c :: b)) = some d := fun d hd => lkp_tab H.nums hd
  have hids4 : ∀ d ∈ a ++ c :: b, d.f1.length ≤ 1000000 := fun d hd => by have := chain_len H hd; omega
  have hHb := heads_tail (a := a) H.head
  have hwl : (without id c.f1).length ≤ c.f1.length := List.length_filter_le _ _
  by_cases h1 : 0 < (without id c.f1).length ∨ a = []
  · have hres : removeAt (a ++ c :: b) id (a.length : Int) c = ([⟨c.f0, without id c.f1, c.f2, c.f3⟩], 0) := by
      unfold removeAt
      rw [if_pos]
      rcases h1 with h | h
      · exact .inl h
      · exact .inr (by rw [h]; rfl)
    rw [hres] at hrem
    generalize hc' : (⟨c.f0, without id c.f1, c.f2, c.f3⟩ : S39) = c' at *
    have e0 : c'.f0 = c.f0 := by rw [← hc']
    have e1 : c'.f1 = without id c.f1 := by rw [← hc']
    have e2 : c'.f2 = c.f2 := by rw [← hc']
    have e3 : c'.f3 = c.f3 := by rw [← hc']
    have hsl : (idsOf (c' :: b)).Sublist (idsOf (c :: b)) := by
      rw [idsOf_cons, idsOf_cons, e1]
      exact (List.filter_sublist).append_right _
    have H' : Chain (a ++ c' :: b) := chain_fewer H e0 (fun ha e => by
        rcases h1 with h | h
        · rw [← e1, e] at h; simp at h
        · exact ha h) (by rw [e0, e1, e3]; exact ⟨hec.1, hec.2.1, by omega⟩) ⟨by rw [e2]; exact hlk.1, hlk.2⟩ hHb (List.Sublist.refl _) hsl
    refine ⟨_, a ++ c' :: b, hrem, apply_eq (by omega) (by simp) (fun d hd => ?_) (by simp) H' (fun d hd => ?_), H', fun x => ?_, by simp, ?_, by simp, by simp⟩
    · rcases List.mem_append.1 hd with hd | hd
      · exact hids4 d hd
      · simp only [List.mem_singleton] at hd; subst hd; rw [e1]; have := hec.2.2.1; omega
    · rw [tabOf, tabGo_append]
      show lkp d.f0 (putP c'.f0 c' (tabOf (a ++ c :: b))) = some d
      rw [lkp_putP, e0]
      rcases List.mem_append.1 hd with hd | hd
      · rw [if_neg (fun e => hnac d hd e.symm)]; exact htab d (by simp [hd])
      · rcases List.mem_cons.1 hd with rfl | hd
        · rw [if_pos e0.symm]
        · rw [if_neg (fun e => hnbc d hd e.symm)]; exact htab d (by simp [hd])
    · rw [idsOf_append, idsOf_cons, idsOf_append, idsOf_cons, e1]
      simp only [List.mem_append, mem_without]
      constructor
      · rintro (h | ⟨h2, h⟩ | h)
        · exact ⟨fun e => hna (e ▸ h), .inl h⟩
        · exact ⟨h2, .inr (.inl h)⟩
        · exact ⟨fun e => hnb (e ▸ h), .inr (.inr h)⟩
      · rintro ⟨h2, h | h | h⟩
        · exact .inl h
        · exact .inr (.inl ⟨h2, h⟩)
        · exact .inr (.inr h)
    · rw [idsOf_append, idsOf_cons, idsOf_append, idsOf_cons, e1]
      simp only [List.length_append]
      omega
  · -- the chunk goes
    have hw0 : without id c.f1 = [] := List.eq_nil_of_length_eq_zero (by have : ¬ 0 < (without id c.f1).length := fun h => h1 (.inl h); omega)
    have hane : a ≠ [] := fun h => h1 (.inr h)
    obtain ⟨a', p, rfl⟩ : ∃ a' p, a = a' ++ [p] := ⟨a.dropLast, a.getLast hane, (List.dropLast_concat_getLast hane).symm⟩
    have hlist : a' ++ [p] ++ c :: b = a' ++ p :: (c :: b) := by simp
    have hres : removeAt (a' ++ [p] ++ c :: b) id ((a' ++ [p]).length : Int) c = ([⟨p.f0, p.f1, c.f2, p.f3⟩, ⟨c.f0, [], 0, true⟩], 0) := by
      unfold removeAt
      rw [if_neg (by rw [hw0]; simp; omega)]
      have : (((a' ++ [p]).length : Int) - 1) = (a'.length : Int) := by simp
      rw [this, hlist, rd_mid]
    rw [hres] at hrem
    rw [hlist] at H hrem htab hids4 hm hl hp ⊢
    generalize hp' : (⟨p.f0, p.f1, c.f2, p.f3⟩ : S39) = p' at *
    have e0 : p'.f0 = p.f0 := by rw [← hp']
    have e1 : p'.f1 = p.f1 := by rw [← hp']
    have e2 : p'.f2 = c.f2 := by rw [← hp']
    have e3 : p'.f3 = p.f3 := by rw [← hp']
    have hep := H.each p (by simp)
    have hHp := heads_tail (a := a') H.head
    have hsl : (idsOf (p' :: b)).Sublist (idsOf (p :: c :: b)) := by
      rw [idsOf_cons, idsOf_cons, idsOf_cons, e1]
      exact List.Sublist.append_left (List.sublist_append_right _ _) _
    have hpne : a' ≠ [] → p'.f1 ≠ [] := fun ha => by
      rw [e1]
      cases a' with
      | nil => exact absurd rfl ha
      | cons d a' => exact (heads_false H.head.2.2 p (by simp)).2
    have H' : Chain (a' ++ p' :: b) := chain_fewer H e0 hpne (by rw [e0, e1, e3]; exact ⟨hep.1, hep.2.1, hep.2.2.1⟩) ⟨by rw [e2]; exact (linked_tail (a := a' ++ [p]) (m := c :: b) (by rw [hlist]; exact H.link)).1, (linked_tail (a := a' ++ [p]) (m := c :: b) (by rw [hlist]; exact H.link)).2⟩ hHp.2.2 (List.sublist_cons_self _ _) hsl
    have hnp : ∀ d ∈ a' ++ b, d.f0 ≠ p.f0 ∧ d.f0 ≠ c.f0 := fun d hd => by
      have hn := H.nums
      rw [List.map_append, List.map_cons, List.map_cons, List.pairwise_append] at hn
      have h2 := List.pairwise_cons.1 hn.2.1
      have h3 := List.pairwise_cons.1 h2.2
      rcases List.mem_append.1 hd with hd | hd
      · have hdm := List.mem_map.2 ⟨d, hd, (rfl : d.f0 = d.f0)⟩
        exact ⟨hn.2.2 d.f0 hdm p.f0 (by simp), hn.2.2 d.f0 hdm c.f0 (by simp)⟩
      · have hdm := List.mem_map.2 ⟨d, hd, (rfl : d.f0 = d.f0)⟩
        exact ⟨fun e => h2.1 d.f0 (List.mem_cons_of_mem _ hdm) e.symm, fun e => h3.1 d.f0 hdm e.symm⟩
    have hpc : p.f0 ≠ c.f0 := hnac p (by simp)
    refine ⟨_, a' ++ p' :: b, hrem, apply_eq (by omega) (by simp) (fun d hd => ?_) (by simp) H' (fun d hd => ?_), H', fun x => ?_, by simp, ?_, by simp, by simp⟩
    · rcases List.mem_append.1 hd with hd | hd
      · exact hids4 d hd
      · rcases List.mem_cons.1 hd with rfl | hd
        · rw [e1]; have := hep.2.2.1; omega
        · simp only [List.mem_singleton] at hd; subst hd; simp
    · rw [tabOf, tabGo_append]
      show lkp d.f0 (putP c.f0 _ (putP p'.f0 p' (tabOf (a' ++ p :: c :: b)))) = some d
      rw [lkp_putP, lkp_putP, e0]
      rcases List.mem_append.1 hd with hd | hd
      · obtain ⟨g1, g2⟩ := hnp d (by simp [hd])
        rw [if_neg (fun e => g2 e.symm), if_neg (fun e => g1 e.symm)]; exact htab d (by simp [hd])
      · rcases List.mem_cons.1 hd with rfl | hd
        · rw [if_neg (fun e => hpc (by rw [← e0]; exact e.symm)), if_pos e0.symm]
        · obtain ⟨g1, g2⟩ := hnp d (by simp [hd])
          rw [if_neg (fun e => g2 e.symm), if_neg (fun e => g1 e.symm)]; exact htab d (by simp [hd])
    · rw [idsOf_append, idsOf_cons, idsOf_append, idsOf_cons, idsOf_cons, e1]
      have hcid : ∀ x ∈ c.f1, x = id := fun x hx => by
        by_cases e : x = id
        · exact e
        · have := mem_without.2 ⟨e, hx⟩
          rw [hw0] at this; simp at this
      rw [idsOf_append, idsOf_cons] at hna
      simp only [idsOf, List.flatMap_nil, List.append_nil] at hna
      simp only [List.mem_append] at hna ⊢
      constructor
      · rintro (h | h | h)
        · exact ⟨fun e => hna (.inl (e ▸ h)), .inl h⟩
        · exact ⟨fun e => hna (.inr (e ▸ h)), .inr (.inl h)⟩
        · exact ⟨fun e => hnb (e ▸ h), .inr (.inr (.inr h))⟩
      · rintro ⟨h2, h | h | h | h⟩
        · exact .inl h
        · exact .inr (.inl h)
        · exact absurd (hcid x h) h2
        · exact .inr (.inr h)
    · rw [idsOf_append, idsOf_cons, idsOf_append, idsOf_cons, idsOf_cons, e1]
      simp only [List.length_append]
      omega
end Go.Proofs.Ytfbegchhgigjeaa.PC
