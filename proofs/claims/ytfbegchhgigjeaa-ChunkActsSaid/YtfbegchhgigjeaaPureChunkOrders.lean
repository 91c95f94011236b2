/- ChunkOrders, in plain lists: in whichever order ids are laid, a chain has them in theirs. -/
import Derived.Test.YtfbegchhgigjeaaC26
import Derived.Test.YtfbegchhgigjeaaHGrow
set_option linter.unusedVariables false
set_option linter.unusedSimpArgs false
namespace Go.Proofs.Ytfbegchhgigjeaa.Pure
open Go.RowKit Go.Proofs.Ytfbegchhgigjeaa.PC Go.Proofs.YtfbegchhgigjeaaW.PrintWords Go.Proofs.YtfbegchhgigjeaaW.PrintLast

theorem awake_true : ∀ k, 50 ≤ k → cobweblaw10_awake.f k = some true := by
  have h : cobweblaw10_awake.f 50 = some true := by decide +kernel
  intro k hk
  have hm : ∀ d, cobweblaw10_awake.f (50 + d) = some true := by
    intro d
    induction d with
    | zero => exact h
    | succ d ih => exact cobweblaw10_awake.mono (50 + d) _ ih
  have := hm (k - 50)
  rwa [show 50 + (k - 50) = k by omega] at this
theorem w64 {x : Int} (h0 : -9223372036854775808 ≤ x) (h1 : x < 9223372036854775808) : wrap64 x = x := by unfold wrap64; omega
/-- Two lists that rise and have the same members. -/
theorem rise_eq : ∀ {a b : List Int}, a.Pairwise (· < ·) → b.Pairwise (· < ·) → (∀ x, x ∈ a ↔ x ∈ b) → a = b
  | [], [], _, _, _ => rfl
  | [], y :: b, _, _, h => by have := (h y).2 (by simp); simp at this
  | x :: a, [], _, _, h => by have := (h x).1 (by simp); simp at this
  | x :: a, y :: b, ha, hb, h => by
    obtain ⟨a1, a2⟩ := List.pairwise_cons.1 ha
    obtain ⟨b1, b2⟩ := List.pairwise_cons.1 hb
    have hxy : x = y := by
      rcases List.mem_cons.1 ((h x).1 (by simp)) with e | e
      · exact e
      · rcases List.mem_cons.1 ((h y).2 (by simp)) with e2 | e2
        · exact e2.symm
        · have := b1 x e; have := a1 y e2; omega
    subst hxy
    congr 1
    refine rise_eq a2 b2 fun z => ?_
    have hz := h z
    simp only [List.mem_cons] at hz
    constructor
    · intro hm
      rcases hz.1 (.inr hm) with e | e
      · have := a1 z hm; omega
      · exact e
    · intro hm
      rcases hz.2 (.inr hm) with e | e
      · have := b1 z hm; omega
      · exact e
theorem ints_from (l : List Int) (hl : l.length ≤ 1000000) : ∀ (d k i : Nat), i + d = l.length → d < k → cobwebref10_Ints.l0 k l l (i : Int) = some true := by
  intro d
  induction d with
  | zero =>
    intro k i hi hk
    obtain ⟨k, rfl⟩ : ∃ m, k = m + 1 := ⟨k - 1, by omega⟩
    simp only [cobwebref10_Ints.l0]
    rw [if_neg (by omega)]
  | succ d ih =>
    intro k i hi hk
    obtain ⟨k, rfl⟩ : ∃ m, k = m + 1 := ⟨k - 1, by omega⟩
    simp only [cobwebref10_Ints.l0]
    rw [if_pos (by omega), if_pos (by omega), if_pos (by omega), if_pos trivial, w64 (by omega) (by omega), show (i : Int) + 1 = ((i + 1 : Nat) : Int) by omega]
    exact ih k (i + 1) (by omega) (by omega)
theorem ints_self (l : List Int) (hl : l.length ≤ 1000000) {k : Nat} (hk : l.length < k) : cobwebref10_Ints.f k l l = some true := by
  unfold cobwebref10_Ints.f
  rw [if_pos rfl]
  exact ints_from l hl l.length k 0 (by omega) hk
/-- The id that a number stands for. -/
def key (x : Int) : Int := Int.tmod (wrap64 (Int.tmod x 100 + 100)) 100
theorem key_range (x : Int) : 0 ≤ key x ∧ key x < 100 := by
  have h1 := Int.tmod_lt_of_pos x (b := 100) (by omega)
  have h2 := Int.lt_tmod_of_pos x (b := 100) (by omega)
  unfold key
  rw [w64 (by omega) (by omega)]
  exact ⟨Int.tmod_nonneg _ (by omega), Int.tmod_lt_of_pos _ (by omega)⟩
/-- A chain that has just these ids, and is no longer than n. -/
structure Has (l : List S39) (n : Nat) (p : Int → Prop) : Prop where
  chain : Chain l
  len : l.length ≤ n
  ids : (idsOf l).length ≤ n
  mem : ∀ x, x ∈ idsOf l ↔ p x
theorem Has.nil : Has [] 0 (fun _ => False) := ⟨⟨by simp, by simp, trivial, trivial, by simp [idsOf], by simp [idsOf]⟩, by simp, by simp [idsOf], by simp [idsOf]⟩
/-- An id is laid, or it is there. -/
theorem Has.step {l : List S39} {n : Nat} {p : Int → Prop} (H : Has l n p) (hn : n ≤ 10000) (id : Int) (h0 : 0 ≤ id) (h1 : id < 100) :
    (∃ l', Has l' (n + 1) (fun x => p x ∨ x = id) ∧ ∃ ch, chunk_Insert.f l id = some (ch, 0) ∧ chunk_Apply.f l ch = some l') ∨ (Has l (n + 1) (fun x => p x ∨ x = id) ∧ chunk_Insert.f l id = some ([], 31)) := by
  have hl := H.len
  have hi := H.ids
  by_cases hm : id ∈ idsOf l
  · refine .inr ⟨⟨H.chain, by omega, by omega, fun x => ?_⟩, insert_twice H.chain h0 (by omega) (by omega) (by omega) hm⟩
    constructor
    · exact fun h => .inl ((H.mem x).1 h)
    · rintro (h | rfl)
      · exact (H.mem x).2 h
      · exact hm
  · obtain ⟨ch, l', h2, h3, h4, h5, h6, h7, _⟩ := insert_grow H.chain h0 (by omega) (by omega) (by omega) hm
    refine .inl ⟨l', ⟨h4, by omega, by omega, fun x => ?_⟩, ch, h2, h3⟩
    rw [h5, H.mem]
    exact Or.comm
theorem Has.congr {l : List S39} {n : Nat} {p q : Int → Prop} (H : Has l n p) (h : ∀ x, p x ↔ q x) : Has l n q := ⟨H.chain, H.len, H.ids, fun x => (H.mem x).trans (h x)⟩
/-- The first loop. -/
theorem first (ids : List Int) (t : Int) (hl : ids.length ≤ 40) : ∀ (d k i : Nat) (l : List S39), i + d = ids.length → d < k → Has l i (fun x => ∃ j, j < i ∧ x = key (rd ids (j : Int))) →
    ∃ l', Has l' ids.length (fun x => ∃ j, j < ids.length ∧ x = key (rd ids (j : Int))) ∧ cobweblaw10_ChunkOrders.l0 k ids t l (i : Int) = cobweblaw10_ChunkOrders.l1 (k - d - 1) ids t l' [] (wrap64 ((ids.length : Int) - 1)) := by
  intro d
  induction d with
  | zero =>
    intro k i l hi hk H
    obtain ⟨k, rfl⟩ : ∃ m, k = m + 1 := ⟨k - 1, by omega⟩
    obtain rfl : i = ids.length := by omega
    refine ⟨l, H, ?_⟩
    simp only [cobweblaw10_ChunkOrders.l0]
    rw [if_neg (by omega)]
    rfl
  | succ d ih =>
    intro k i l hi hk H
    obtain ⟨k, rfl⟩ : ∃ m, k = m + 1 := ⟨k - 1, by omega⟩
    obtain ⟨r1, r2⟩ := key_range (rd ids (i : Int))
    have hnext : ∀ l', Has l' (i + 1) (fun x => (∃ j, j < i ∧ x = key (rd ids (j : Int))) ∨ x = key (rd ids (i : Int))) → Has l' (i + 1) (fun x => ∃ j, j < i + 1 ∧ x = key (rd ids (j : Int))) := fun l' h => h.congr fun x => by
      constructor
      · rintro (⟨j, hj, rfl⟩ | rfl)
        · exact ⟨j, by omega, rfl⟩
        · exact ⟨i, by omega, rfl⟩
      · rintro ⟨j, hj, rfl⟩
        rcases Nat.lt_or_ge j i with h | h
        · exact .inl ⟨j, h, rfl⟩
        · obtain rfl : j = i := by omega
          exact .inr rfl
    simp only [cobweblaw10_ChunkOrders.l0]
    rw [if_pos (by omega), if_pos (by omega), w64 (x := (i : Int) + 1) (by omega) (by omega), show (i : Int) + 1 = ((i + 1 : Nat) : Int) by omega]
    change ∃ l', _ ∧ (chunk_Insert.f l (key (rd ids (i : Int)))).bind _ = _
    rcases H.step (by omega) _ r1 r2 with ⟨l', H', ch, h1, h2⟩ | ⟨H', h1⟩
    · obtain ⟨l2, H2, h3⟩ := ih k (i + 1) l' (by omega) (by omega) (hnext _ H')
      refine ⟨l2, H2, ?_⟩
      rw [h1]
      simp only [Option.bind_some, if_true, h2]
      rw [h3]
      congr 1
      omega
    · obtain ⟨l2, H2, h3⟩ := ih k (i + 1) l (by omega) (by omega) (hnext _ H')
      refine ⟨l2, H2, ?_⟩
      rw [h1]
      simp only [Option.bind_some]
      rw [if_neg (by decide), h3]
      congr 1
      omega
/-- The turned index. -/
def turned (n : Nat) (t : Int) (i : Int) : Int := Int.tmod (wrap64 (i + Int.tmod (wrap64 (Int.tmod t (n : Int) + (n : Int))) (n : Int))) (n : Int)
theorem turned_eq (n : Nat) (hn : 0 < n) (hl : n ≤ 40) (t : Int) : ∃ r : Nat, r < n ∧ ∀ i : Nat, i < n → turned n t (i : Int) = (((i + r) % n : Nat) : Int) := by
  have h1 := Int.tmod_lt_of_pos t (b := (n : Int)) (by omega)
  have h2 := Int.lt_tmod_of_pos t (b := (n : Int)) (by omega)
  have h3 : 0 ≤ Int.tmod (wrap64 (Int.tmod t (n : Int) + (n : Int))) (n : Int) := Int.tmod_nonneg _ (by rw [w64 (by omega) (by omega)]; omega)
  have h4 := Int.tmod_lt_of_pos (wrap64 (Int.tmod t (n : Int) + (n : Int))) (b := (n : Int)) (by omega)
  obtain ⟨r, hr⟩ := Int.eq_ofNat_of_zero_le h3
  refine ⟨r, by omega, fun i hi => ?_⟩
  unfold turned
  rw [hr, w64 (by omega) (by omega), Int.tmod_eq_emod_of_nonneg (by omega)]
  first | norm_cast | simp
/-- The second loop: what has been laid once i ids are left. -/
theorem second (ids : List Int) (t : Int) (hl : ids.length ≤ 40) (hn : 0 < ids.length) (r : Nat) (hr : ∀ i : Nat, i < ids.length → turned ids.length t (i : Int) = (((i + r) % ids.length : Nat) : Int)) (a : List S39) : ∀ (i k m : Nat) (l : List S39), i + m = ids.length → i < k → Has l m (fun x => ∃ j, i ≤ j ∧ j < ids.length ∧ x = key (rd ids (((j + r) % ids.length : Nat) : Int))) →
    ∃ l', Has l' ids.length (fun x => ∃ j, 0 ≤ j ∧ j < ids.length ∧ x = key (rd ids (((j + r) % ids.length : Nat) : Int))) ∧ cobweblaw10_ChunkOrders.l1 k ids t a l ((i : Int) - 1) = cobweblaw10_ChunkOrders.l1 (k - i) ids t a l' (-1) := by
  intro i
  induction i with
  | zero =>
    intro k m l hi hk H
    obtain rfl : m = ids.length := by omega
    exact ⟨l, H, rfl⟩
  | succ i ih =>
    intro k m l hi hk H
    obtain ⟨k, rfl⟩ : ∃ q, k = q + 1 := ⟨k - 1, by omega⟩
    have hk2 := hr i (by omega)
    have hlt : (i + r) % ids.length < ids.length := Nat.mod_lt _ hn
    obtain ⟨r1, r2⟩ := key_range (rd ids (((i + r) % ids.length : Nat) : Int))
    have hnext : ∀ l', Has l' (m + 1) (fun x => (∃ j, i + 1 ≤ j ∧ j < ids.length ∧ x = key (rd ids (((j + r) % ids.length : Nat) : Int))) ∨ x = key (rd ids (((i + r) % ids.length : Nat) : Int))) → Has l' (m + 1) (fun x => ∃ j, i ≤ j ∧ j < ids.length ∧ x = key (rd ids (((j + r) % ids.length : Nat) : Int))) := fun l' h => h.congr fun x => by
      constructor
      · rintro (⟨j, h1, h2, rfl⟩ | rfl)
        · exact ⟨j, by omega, h2, rfl⟩
        · exact ⟨i, by omega, by omega, rfl⟩
      · rintro ⟨j, h1, h2, rfl⟩
        rcases Nat.lt_or_ge i j with h | h
        · exact .inl ⟨j, h, h2, rfl⟩
        · obtain rfl : j = i := by omega
          exact .inr rfl
    rw [show ((i + 1 : Nat) : Int) - 1 = (i : Int) by omega]
    simp only [cobweblaw10_ChunkOrders.l1]
    rw [if_pos (by omega), if_neg (by omega)]
    change ∃ l', _ ∧ (if 0 ≤ turned ids.length t (i : Int) then (if turned ids.length t (i : Int) < (ids.length : Int) then (chunk_Insert.f l (key (rd ids (turned ids.length t (i : Int))))).bind _ else none) else none) = _
    rw [hk2, if_pos (by omega), if_pos (by omega), w64 (x := (i : Int) - 1) (by omega) (by omega)]
    rcases H.step (by omega) _ r1 r2 with ⟨l', H', ch, h1, h2⟩ | ⟨H', h1⟩
    · obtain ⟨l2, H2, h3⟩ := ih k (m + 1) l' (by omega) (by omega) (hnext _ H')
      refine ⟨l2, H2, ?_⟩
      rw [h1]
      simp only [Option.bind_some, if_true, h2]
      rw [h3]
      congr 1
      omega
    · obtain ⟨l2, H2, h3⟩ := ih k (m + 1) l (by omega) (by omega) (hnext _ H')
      refine ⟨l2, H2, ?_⟩
      rw [h1]
      simp only [Option.bind_some]
      rw [if_neg (by decide), h3]
      congr 1
      omega
theorem ends (ids : List Int) (t : Int) (a b : List S39) (k : Nat) (hk : 1000 ≤ k) (Ha : Chain a) (Hb : Chain b) (la : a.length ≤ 100) (lb : b.length ≤ 100) (ia : (idsOf a).length ≤ 100) (ib : (idsOf b).length ≤ 100) (he : idsOf a = idsOf b) :
    cobweblaw10_ChunkOrders.l1 k ids t a b (-1) = some true := by
  obtain ⟨k, rfl⟩ : ∃ m, k = m + 1 := ⟨k - 1, by omega⟩
  simp only [cobweblaw10_ChunkOrders.l1]
  rw [if_neg (by omega), right_iff.2 Ha, right_iff.2 Hb, IDs_spec a (by omega) (by omega) k (by omega), IDs_spec b (by omega) (by omega) k (by omega), he]
  simp only [Option.bind_some, if_true]
  rw [ints_self _ (by omega) (by omega)]
  rfl
theorem ChunkOrders : cobweblaw10_ChunkOrders.Pure := by
  intro ids t _ _ _ _
  refine ⟨3002, ?_⟩
  unfold cobweblaw10_ChunkOrders.f
  rw [awake_true _ (by omega)]
  simp only [Option.bind_some, if_true]
  simp only [cobweblaw10_ChunkOrders.j0]
  by_cases hl : ids.length ≤ 40
  · rw [if_neg (by simp; omega)]
    obtain ⟨a, Ha, h1⟩ := first ids t hl ids.length 3001 0 [] (by omega) (by omega) (Has.nil.congr (fun x => by simp))
    rw [show ((0 : Nat) : Int) = 0 from rfl] at h1
    rw [h1, w64 (by omega) (by omega)]
    rcases Nat.eq_zero_or_pos ids.length with h0 | h0
    · have : ids = [] := List.eq_nil_of_length_eq_zero h0
      subst this
      have ha : idsOf a = [] := List.eq_nil_of_length_eq_zero (by have := Ha.ids; simpa using this)
      exact ends [] t a [] _ (by simp) Ha.chain Has.nil.chain (by have := Ha.len; simp at this; simp [this]) (by simp) (by rw [ha]; simp) (by simp [idsOf]) (by rw [ha]; rfl)
    · obtain ⟨r, hr, ht⟩ := turned_eq ids.length h0 hl t
      obtain ⟨b, Hb, h2⟩ := second ids t hl h0 r ht a ids.length (3001 - ids.length - 1) 0 [] (by omega) (by omega) (Has.nil.congr (fun x => by
        constructor
        · exact fun h => h.elim
        · rintro ⟨j, h3, h4, _⟩
          omega))
      rw [h2]
      have hla := Ha.len
      have hlb := Hb.len
      have hia := Ha.ids
      have hib := Hb.ids
      refine ends ids t a b _ (by omega) Ha.chain Hb.chain (by omega) (by omega) (by omega) (by omega) (rise_eq Ha.chain.rise Hb.chain.rise fun x => ?_)
      rw [Ha.mem, Hb.mem]
      constructor
      · rintro ⟨j, hj, rfl⟩
        rcases Nat.lt_or_ge j r with h | h
        · refine ⟨j + ids.length - r, by omega, by omega, ?_⟩
          rw [show (j + ids.length - r + r) = j + ids.length by omega, Nat.add_mod_right, Nat.mod_eq_of_lt hj]
        · refine ⟨j - r, by omega, by omega, ?_⟩
          rw [show (j - r + r) = j by omega, Nat.mod_eq_of_lt hj]
      · rintro ⟨j, _, hj, rfl⟩
        exact ⟨(j + r) % ids.length, Nat.mod_lt _ h0, rfl⟩
  · rw [if_pos (by simp; omega), awake_true _ (by omega)]
    rfl
end Go.Proofs.Ytfbegchhgigjeaa.Pure
