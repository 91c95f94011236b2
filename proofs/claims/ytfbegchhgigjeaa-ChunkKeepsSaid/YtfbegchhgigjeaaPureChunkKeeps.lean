/- ChunkKeeps, in plain lists: an id that is laid, and taken out again, leaves the ids that were; other chunks stay. -/
import Derived.Test.YtfbegchhgigjeaaC49
import Derived.Test.YtfbegchhgigjeaaHLaws
import Derived.Test.YtfbegchhgigjeaaHShrink
set_option linter.unusedVariables false
set_option linter.unusedSimpArgs false
set_option linter.unusedSectionVars false
namespace Go.Proofs.Ytfbegchhgigjeaa.Pure
open Go.RowKit Go.Proofs.Ytfbegchhgigjeaa.PC Go.Proofs.YtfbegchhgigjeaaW.PrintWords Go.Proofs.YtfbegchhgigjeaaW.PrintLast
theorem ints_total (a b : List Int) (hab : a.length = b.length) (hl : a.length ≤ 1000000) : ∀ (d k i : Nat), i + d = a.length → d < k → ∃ r, cobwebref10_Ints.l0 k a b (i : Int) = some r := by
  intro d
  induction d with
  | zero =>
    intro k i hi hk
    obtain ⟨k, rfl⟩ : ∃ m, k = m + 1 := ⟨k - 1, by omega⟩
    simp only [cobwebref10_Ints.l0]
    rw [if_neg (by omega)]
    exact ⟨_, rfl⟩
  | succ d ih =>
    intro k i hi hk
    obtain ⟨k, rfl⟩ : ∃ m, k = m + 1 := ⟨k - 1, by omega⟩
    simp only [cobwebref10_Ints.l0]
    rw [if_pos (by omega), if_pos (by omega), if_pos (by omega), w64 (by omega) (by omega), show (i : Int) + 1 = ((i + 1 : Nat) : Int) by omega]
    split
    · exact ih k (i + 1) (by omega) (by omega)
    · exact ⟨_, rfl⟩
theorem ints_any (a b : List Int) (hl : a.length ≤ 1000000) {k : Nat} (hk : a.length < k) : ∃ r, cobwebref10_Ints.f k a b = some r := by
  unfold cobwebref10_Ints.f
  split
  · exact ints_total a b (by omega) hl a.length k 0 (by omega) hk
  · exact ⟨_, rfl⟩
/-- Two chunks, compared. -/
theorem same_one (a b : S39) (ha : a.f1.length ≤ 1000) {k : Nat} (hk : 2000 ≤ k) : ∃ r, cobwebref10_Same.f k [a] [b] = some r ∧ (a = b → r = true) := by
  obtain ⟨k, rfl⟩ : ∃ m, k = m + 2 := ⟨k - 2, by omega⟩
  unfold cobwebref10_Same.f
  rw [if_pos (by simp)]
  simp only [cobwebref10_Same.l0]
  have e1 : rd_T39 [a] 0 = a := rfl
  have e2 : rd_T39 [b] 0 = b := rfl
  have hw : wrap64 ((0 : Int) + 1) = 1 := by rw [w64 (by omega) (by omega)]; rfl
  rw [if_pos (by simp), if_pos (by omega), if_pos (by simp), e1, e2, hw]
  by_cases h1 : a.f0 = b.f0
  · rw [if_pos h1]
    by_cases h2 : a.f2 = b.f2
    · rw [if_pos h2]
      by_cases h3 : (a.f3 != b.f3) = true
      · rw [if_pos h3]
        exact ⟨_, rfl, fun e => by subst e; simp at h3⟩
      · rw [if_neg h3]
        obtain ⟨r, hr⟩ := ints_any a.f1 b.f1 (by omega) (k := k + 1) (by omega)
        rw [hr]
        simp only [Option.bind_some]
        cases r
        · refine ⟨false, by simp, fun e => ?_⟩
          subst e
          rw [ints_self _ (by omega) (by omega)] at hr
          exact (Option.some.inj hr).symm
        · rw [if_pos rfl, if_neg (by simp)]
          exact ⟨_, rfl, fun _ => rfl⟩
    · rw [if_neg h2]
      exact ⟨_, rfl, fun e => absurd (congrArg _ e) h2⟩
  · rw [if_neg h1]
    exact ⟨_, rfl, fun e => absurd (congrArg _ e) h1⟩
theorem take_drop_one {l : List S39} {j : Nat} (h : j < l.length) : (l.take (j + 1)).drop j = [rd_T39 l (j : Int)] := by
  rw [List.take_succ_eq_append_getElem h, List.drop_append_of_le_length (by simp; omega), List.drop_eq_nil_of_le (by simp; omega)]
  simp [rd_T39, List.getD_eq_getElem?_getD, List.getElem?_eq_getElem h]
section
variable (l ch m : List S39) (kk e : Int) (hl : l.length ≤ 1000) (hc : ch.length ≤ 1000) (hm : m.length ≤ 1000)
include hl hc hm
theorem keep_changed (i : Nat) (hi : i < l.length) : ∀ (d k j : Nat) (b : Bool) (K : Nat), j + d = ch.length → d + 1 + K ≤ k →
    ∃ k', K ≤ k' ∧ cobweblaw10_ChunkKeeps.l2 k l kk ch e m (i : Int) b (j : Int) = cobweblaw10_ChunkKeeps.l3 k' l kk ch e m (i : Int) (b || (ch.drop j).any (fun x => x.f0 == (rd_T39 l (i : Int)).f0)) false 0 := by
  intro d
  induction d with
  | zero =>
    intro k j b K hj hk
    obtain ⟨k, rfl⟩ : ∃ q, k = q + 1 := ⟨k - 1, by omega⟩
    simp only [cobweblaw10_ChunkKeeps.l2]
    rw [if_neg (by omega), List.drop_eq_nil_of_le (by omega)]
    exact ⟨k, by omega, by simp⟩
  | succ d ih =>
    intro k j b K hj hk
    obtain ⟨k, rfl⟩ : ∃ q, k = q + 1 := ⟨k - 1, by omega⟩
    simp only [cobweblaw10_ChunkKeeps.l2]
    rw [if_pos (by omega), drop_c (by omega), w64 (x := (j : Int) + 1) (by omega) (by omega), show (j : Int) + 1 = ((j + 1 : Nat) : Int) by omega]
    cases b
    · rw [if_neg (by decide), if_pos (by omega), if_pos (by omega), if_pos (by omega)]
      obtain ⟨k', h1, h2⟩ := ih k (j + 1) ((rd_T39 ch (j : Int)).f0 == (rd_T39 l (i : Int)).f0) K (by omega) (by omega)
      exact ⟨k', h1, by rw [h2]; simp⟩
    · rw [if_pos rfl]
      obtain ⟨k', h1, h2⟩ := ih k (j + 1) true K (by omega) (by omega)
      exact ⟨k', h1, by rw [h2]; simp⟩
theorem keep_same (hm4 : ∀ c ∈ m, c.f1.length ≤ 1000) (i : Nat) (hi : i < l.length) (b : Bool) : ∀ (d k j : Nat) (s : Bool) (K : Nat), j + d = m.length → 2001 ≤ K → d + 1 + K ≤ k →
    ∃ k' s', K ≤ k' ∧ (s = true ∨ rd_T39 l (i : Int) ∈ m.drop j → s' = true) ∧ cobweblaw10_ChunkKeeps.l3 k l kk ch e m (i : Int) b s (j : Int) = (if b = true ∨ s' = true then cobweblaw10_ChunkKeeps.l1 k' l kk ch e m (wrap64 ((i : Int) + 1)) else some false) := by
  intro d
  induction d with
  | zero =>
    intro k j s K hj hK hk
    obtain ⟨k, rfl⟩ : ∃ q, k = q + 1 := ⟨k - 1, by omega⟩
    simp only [cobweblaw10_ChunkKeeps.l3]
    rw [if_neg (by omega)]
    refine ⟨k, s, by omega, fun h => ?_, ?_⟩
    · rcases h with h | h
      · exact h
      · rw [List.drop_eq_nil_of_le (by omega)] at h; cases h
    · cases b <;> cases s <;> simp
  | succ d ih =>
    intro k j s K hj hK hk
    obtain ⟨k, rfl⟩ : ∃ q, k = q + 1 := ⟨k - 1, by omega⟩
    simp only [cobweblaw10_ChunkKeeps.l3]
    have hj1 : wrap64 ((j : Int) + 1) = ((j + 1 : Nat) : Int) := by rw [w64 (by omega) (by omega)]; omega
    have hi1 : wrap64 ((i : Int) + 1) = ((i + 1 : Nat) : Int) := by rw [w64 (by omega) (by omega)]; omega
    rw [if_pos (by omega), hj1, drop_c (by omega)]
    cases s
    · rw [if_neg (by decide), hi1, if_pos (by omega), if_pos (by omega), if_pos (by omega), if_pos (by omega), if_pos (by omega), if_pos (by omega)]
      simp only [Int.toNat_natCast]
      rw [take_drop_one (by omega), take_drop_one hi]
      have hjm : rd_T39 m (j : Int) ∈ m := by simp [rd_T39, List.getD_eq_getElem?_getD, List.getElem?_eq_getElem (show j < m.length by omega)]
      obtain ⟨r, hr, hrt⟩ := same_one (rd_T39 m (j : Int)) (rd_T39 l (i : Int)) (hm4 _ hjm) (k := k) (by omega)
      rw [hr]
      simp only [Option.bind_some]
      obtain ⟨k', s', h1, h2, h3⟩ := ih k (j + 1) r K (by omega) hK (by omega)
      refine ⟨k', s', h1, fun h => ?_, by rw [h3, hi1]⟩
      rcases h with h | h
      · cases h
      · rcases List.mem_cons.1 h with h | h
        · exact h2 (.inl (hrt h.symm))
        · exact h2 (.inr h)
    · rw [if_pos rfl]
      obtain ⟨k', s', h1, h2, h3⟩ := ih k (j + 1) true K (by omega) hK (by omega)
      exact ⟨k', s', h1, fun _ => h2 (.inl rfl), h3⟩
end
theorem keep_all (l ch m : List S39) (kk : Int) (hl : l.length ≤ 1000) (hc : ch.length ≤ 10) (hm : m.length ≤ 100) (hm4 : ∀ c ∈ m, c.f1.length ≤ 1000) (hstay : ∀ c ∈ l, (∃ e ∈ ch, e.f0 = c.f0) ∨ c ∈ m)
    (dc m2 : List S39) (hrem : chunk_Remove.f m kk = some (dc, 0)) (hap : chunk_Apply.f m dc = some m2) (he : idsOf m2 = idsOf l) (hm2 : m2.length ≤ 1000) (hi2 : (idsOf l).length ≤ 1000) :
    ∀ (d k i : Nat), i + d = l.length → 200 * d + 4000 ≤ k → cobweblaw10_ChunkKeeps.l1 k l kk ch 0 m (i : Int) = some true := by
  intro d
  induction d with
  | zero =>
    intro k i hi hk
    obtain ⟨k, rfl⟩ : ∃ q, k = q + 1 := ⟨k - 1, by omega⟩
    simp only [cobweblaw10_ChunkKeeps.l1]
    rw [if_neg (by omega), hrem]
    simp only [Option.bind_some, if_true, hap]
    rw [IDs_spec m2 (by omega) (by rw [he]; omega) k (by omega), IDs_spec l (by omega) (by omega) k (by omega), he]
    simp only [Option.bind_some]
    rw [ints_self _ (by omega) (by omega)]
    rfl
  | succ d ih =>
    intro k i hi hk
    obtain ⟨k, rfl⟩ : ∃ q, k = q + 1 := ⟨k - 1, by omega⟩
    simp only [cobweblaw10_ChunkKeeps.l1]
    rw [if_pos (by omega)]
    obtain ⟨K, hK⟩ : ∃ K, K = 200 * d + 4000 := ⟨_, rfl⟩
    obtain ⟨k1, hk1, h1⟩ := keep_changed l ch m kk 0 hl (by omega) (by omega) i (by omega) ch.length k 0 false (K + m.length + 1) (by omega) (by omega)
    rw [show ((0 : Nat) : Int) = 0 from rfl] at h1
    rw [h1]
    obtain ⟨k2, s', hk2, hs, h2⟩ := keep_same l ch m kk 0 hl (by omega) (by omega) hm4 i (by omega) (false || (ch.drop 0).any (fun x => x.f0 == (rd_T39 l (i : Int)).f0)) m.length k1 0 false K (by omega) (by omega) (by omega)
    rw [show ((0 : Nat) : Int) = 0 from rfl] at h2
    rw [h2]
    have him : rd_T39 l (i : Int) ∈ l := by simp [rd_T39, List.getD_eq_getElem?_getD, List.getElem?_eq_getElem (show i < l.length by omega)]
    rw [if_pos, w64 (by omega) (by omega), show (i : Int) + 1 = ((i + 1 : Nat) : Int) by omega]
    · exact ih k2 (i + 1) (by omega) (by omega)
    · rcases hstay _ him with ⟨e, he1, he2⟩ | h
      · left
        simp only [Bool.false_or, List.drop_zero]
        exact List.any_eq_true.2 ⟨e, he1, by simp [he2]⟩
      · exact .inr (hs (.inr (by simpa using h)))
/-- The first loop. -/
theorem firstK (ids : List Int) (t : Int) (hl : ids.length ≤ 40) : ∀ (d k i : Nat) (l : List S39), i + d = ids.length → d < k → Has l i (fun x => ∃ j, j < i ∧ x = key (rd ids (j : Int))) →
    ∃ l', Has l' ids.length (fun x => ∃ j, j < ids.length ∧ x = key (rd ids (j : Int))) ∧ cobweblaw10_ChunkKeeps.l0 k ids t l (i : Int) = (if (Int.tmod t 2) = 0 then cobweblaw10_ChunkKeeps.j2 (k - d - 1) l' (key t) else cobweblaw10_ChunkKeeps.j2 (k - d - 1) l' (wrap64 (100 + key t))) := by
  intro d
  induction d with
  | zero =>
    intro k i l hi hk H
    obtain ⟨k, rfl⟩ : ∃ m, k = m + 1 := ⟨k - 1, by omega⟩
    obtain rfl : i = ids.length := by omega
    refine ⟨l, H, ?_⟩
    simp only [cobweblaw10_ChunkKeeps.l0]
    rw [if_neg (by omega)]
    rfl
  | succ d ih =>
    intro k i l hi hk H
    obtain ⟨k, rfl⟩ : ∃ m, k = m + 1 := ⟨k - 1, by omega⟩
    obtain ⟨r1, r2⟩ := key_range (rd ids (i : Int))
    have hnext : ∀ l', Has l' (i + 1) (fun x => (∃ j, j < i ∧ x = key (rd ids (j : Int))) ∨ x = key (rd ids (i : Int))) → Has l' (i + 1) (fun x => ∃ j, j < i + 1 ∧ x = key (rd ids (j : Int))) := fun l' h => h.congr fun x => by
      constructor
      · rintro (⟨j, hj, rfl⟩ | rfl)
        · exact ⟨j, by omega, rfl⟩
        · exact ⟨i, by omega, rfl⟩
      · rintro ⟨j, hj, rfl⟩
        rcases Nat.lt_or_ge j i with h | h
        · exact .inl ⟨j, h, rfl⟩
        · obtain rfl : j = i := by omega
          exact .inr rfl
    simp only [cobweblaw10_ChunkKeeps.l0]
    rw [if_pos (by omega), if_pos (by omega), w64 (x := (i : Int) + 1) (by omega) (by omega), show (i : Int) + 1 = ((i + 1 : Nat) : Int) by omega]
    change ∃ l', _ ∧ (chunk_Insert.f l (key (rd ids (i : Int)))).bind _ = _
    have hkd : k + 1 - (d + 1) - 1 = k - d - 1 := by omega
    rw [hkd]
    rcases H.step (by omega) _ r1 r2 with ⟨l', H', ch, h1, h2⟩ | ⟨H', h1⟩
    · obtain ⟨l2, H2, h3⟩ := ih k (i + 1) l' (by omega) (by omega) (hnext _ H')
      refine ⟨l2, H2, ?_⟩
      rw [h1]
      simp only [Option.bind_some, if_true, h2]
      exact h3
    · obtain ⟨l2, H2, h3⟩ := ih k (i + 1) l (by omega) (by omega) (hnext _ H')
      refine ⟨l2, H2, ?_⟩
      rw [h1]
      simp only [Option.bind_some]
      rw [if_neg (by decide)]
      exact h3
theorem keep_end (l : List S39) (kk : Int) (H : Chain l) (h0 : 0 ≤ kk) (h1 : kk < 1000) (hl : l.length ≤ 40) (hi : (idsOf l).length ≤ 40) (k : Nat) (hk : 20000 ≤ k) : cobweblaw10_ChunkKeeps.j2 k l kk = some true := by
  obtain ⟨k, rfl⟩ : ∃ q, k = q + 1 := ⟨k - 1, by omega⟩
  simp only [cobweblaw10_ChunkKeeps.j2]
  by_cases hm : kk ∈ idsOf l
  · rw [insert_twice H h0 (by omega) (by omega) (by omega) hm]
    simp only [Option.bind_some, if_true]
    rw [IDs_spec l (by omega) (by omega) k (by omega)]
    simp only [Option.bind_some]
    rw [has_spec _ _ (by omega) (by omega)]
    simpa using hm
  · obtain ⟨ch, m, e1, e2, e3, e4, e5, e6, e7, e8, e9⟩ := insert_grow2 H h0 (by omega) (by omega) (by omega) hm
    rw [e1]
    simp only [Option.bind_some]
    rw [if_neg (by decide), e2]
    simp only [Option.bind_some]
    obtain ⟨dc, m2, g1, g2, g3, g4, g5, g6, _, _⟩ := remove_shrink e3 (by omega) ((e4 kk).2 (.inl rfl))
    have hids : idsOf m2 = idsOf l := rise_eq g3.rise H.rise fun x => by
      rw [g4, e4]
      constructor
      · rintro ⟨h2, h3 | h3⟩
        · exact absurd h3 h2
        · exact h3
      · exact fun h2 => ⟨fun e => hm (e ▸ h2), .inr h2⟩
    have := keep_all l ch m kk (by omega) (by omega) (by omega) (fun c hc => by have := chain_len e3 hc; omega) e9 dc m2 g1 g2 hids (by omega) (by omega) l.length k 0 (by omega) (by omega)
    exact this
theorem ChunkKeeps : cobweblaw10_ChunkKeeps.Pure := by
  intro ids t _ _ _ _
  refine ⟨30001, ?_⟩
  unfold cobweblaw10_ChunkKeeps.f
  rw [awake_true _ (by omega)]
  simp only [Option.bind_some, if_true]
  rw [show (30001 : Nat) = 30000 + 1 by omega]
  simp only [cobweblaw10_ChunkKeeps.j0]
  by_cases hl : ids.length ≤ 40
  · rw [if_neg (by simp; omega)]
    obtain ⟨l, H, h1⟩ := firstK ids t hl ids.length 30000 0 [] (by omega) (by omega) (Has.nil.congr (fun x => by simp))
    rw [show ((0 : Nat) : Int) = 0 from rfl] at h1
    rw [h1]
    obtain ⟨r1, r2⟩ := key_range t
    have hll := H.len
    have hii := H.ids
    split
    · exact keep_end l _ H.chain r1 (by omega) (by omega) (by omega) _ (by omega)
    · rw [w64 (by omega) (by omega)]
      exact keep_end l _ H.chain (by omega) (by omega) (by omega) (by omega) _ (by omega)
  · rw [if_pos (by simp; omega), awake_true _ (by omega)]
    rfl
end Go.Proofs.Ytfbegchhgigjeaa.Pure
