/- What the small functions of chunk come to, in plain Lean. -/
import Derived.Test.YtfbegchhgigjeaaC2
import Derived.Test.YtfbegchhgigjeaaC3
import Derived.Test.YtfbegchhgigjeaaC4
import Derived.Test.YtfbegchhgigjeaaC7
import Derived.Test.YtfbegchhgigjeaaC11
import Derived.Test.YtfbegchhgigjeaaHRight
import Derived.Test.YtfbegchhgigjeaaHFresh
namespace Go.Proofs.Ytfbegchhgigjeaa.PC
open Go.RowKit Go.Proofs.YtfbegchhgigjeaaW.PrintWords Go.Proofs.YtfbegchhgigjeaaW.PrintLast Go.Proofs.YtfbegchhgigjeaaW.PrintMore Go.Proofs.YtfbegchhgigjeaaH
set_option linter.unusedVariables false
set_option linter.unusedSimpArgs false

theorem wrap1 {x : Int} (h : 0 ≤ x) (h2 : x ≤ 1000000000) : wrap64 (x + 1) = x + 1 := by unfold wrap64; omega
def idsOf (l : List S39) : List Int := l.flatMap (·.f1)
theorem idsOf_cons (c : S39) (l : List S39) : idsOf (c :: l) = c.f1 ++ idsOf l := rfl
theorem idsOf_append (a b : List S39) : idsOf (a ++ b) = idsOf a ++ idsOf b := by simp [idsOf]
theorem idsOf_drop_le (l : List S39) (i : Nat) : (idsOf (l.drop i)).length ≤ (idsOf l).length := by
  have h : idsOf l = idsOf (l.take i) ++ idsOf (l.drop i) := by rw [← idsOf_append, List.take_append_drop]
  rw [h, List.length_append]; omega

theorem IDs_from (l : List S39) (hl : l.length ≤ 1000000) (hs : (idsOf l).length ≤ 1000000) : ∀ (d k i : Nat) (acc : List Int), i + d = l.length → d < k → acc.length + (idsOf (l.drop i)).length ≤ 1000000 →
    chunk_IDs.l0 k acc l (l.length : Int) (i : Int) = some (acc ++ idsOf (l.drop i)) := by
  intro d
  induction d with
  | zero =>
    intro k i acc hi hk ha
    obtain ⟨k, rfl⟩ : ∃ m, k = m + 1 := ⟨k - 1, by omega⟩
    simp only [chunk_IDs.l0]
    rw [if_neg (by omega), List.drop_eq_nil_of_le (by omega)]
    simp [idsOf]
  | succ d ih =>
    intro k i acc hi hk ha
    obtain ⟨k, rfl⟩ : ∃ m, k = m + 1 := ⟨k - 1, by omega⟩
    have hlt : i < l.length := by omega
    have hd := drop_c hlt
    rw [hd, idsOf_cons] at ha ⊢
    rw [List.length_append] at ha
    simp only [chunk_IDs.l0]
    rw [if_pos (by omega), if_pos (by omega), if_pos (by omega), if_pos (by omega), wrap1 (by omega) (by omega)]
    have h2 := ih k (i + 1) (acc ++ (rd_T39 l i).f1) (by omega) (by omega) (by rw [List.length_append]; omega)
    rw [show ((i : Int) + 1) = ((i + 1 : Nat) : Int) by omega, h2, List.append_assoc]
theorem IDs_spec (l : List S39) (hl : l.length ≤ 1000000) (hs : (idsOf l).length ≤ 1000000) : ∀ k, l.length < k → chunk_IDs.f k l = some (idsOf l) := fun k hk => by
  have := IDs_from l hl hs l.length k 0 [] (by omega) hk (by simpa using hs)
  simpa [chunk_IDs.f] using this

theorem Index_from (l : List Int) (x : Int) (hl : l.length ≤ 1000000) : ∀ (d k i : Nat), i + d = l.length → d < k →
    ∃ r, slices_Index_int_int.l0 k l x (l.length : Int) (i : Int) = some r ∧ decide (r ≥ 0) = (l.drop i).contains x := by
  intro d
  induction d with
  | zero =>
    intro k i hi hk
    obtain ⟨k, rfl⟩ : ∃ m, k = m + 1 := ⟨k - 1, by omega⟩
    refine ⟨-1, ?_, by rw [List.drop_eq_nil_of_le (by omega)]; rfl⟩
    simp only [slices_Index_int_int.l0]
    rw [if_neg (by omega)]
  | succ d ih =>
    intro k i hi hk
    obtain ⟨k, rfl⟩ : ∃ m, k = m + 1 := ⟨k - 1, by omega⟩
    have hlt : i < l.length := by omega
    have hd := drop_rd hlt
    by_cases e : x = rd l (i : Int)
    · refine ⟨i, ?_, by rw [hd, e]; simp⟩
      simp only [slices_Index_int_int.l0]
      rw [if_pos (by omega), if_pos (by omega), if_pos (by omega), if_pos e]
    · obtain ⟨r, hr, hc⟩ := ih k (i + 1) (by omega) (by omega)
      refine ⟨r, ?_, by rw [hd, hc]; simp [e]⟩
      simp only [slices_Index_int_int.l0]
      rw [if_pos (by omega), if_pos (by omega), if_pos (by omega), if_neg e, wrap1 (by omega) (by omega), show ((i : Int) + 1) = ((i + 1 : Nat) : Int) by omega]
      exact hr
theorem Contains_spec (l : List Int) (x : Int) (hl : l.length ≤ 1000000) : ∀ k, l.length < k → slices_Contains_int_int.f k l x = some (l.contains x) := fun k hk => by
  obtain ⟨r, hr, hc⟩ := Index_from l x hl l.length k 0 (by omega) hk
  unfold slices_Contains_int_int.f slices_Index_int_int.f
  rw [show ((0 : Nat) : Int) = 0 from rfl] at hr
  rw [hr]
  simpa using hc

def placeGo (id : Int) : Int → Int → List S39 → Int
  | at_, _, [] => at_
  | at_, i, c :: r => placeGo id (if 0 < c.f1.length ∧ rd c.f1 0 ≤ id then i else at_) (i + 1) r
theorem place_from (l : List S39) (id : Int) (hl : l.length ≤ 1000000) : ∀ (d k i : Nat) (at_ : Int), i + d = l.length → d < k →
    chunk_place.l0 k id at_ l (l.length : Int) (i : Int) = some (placeGo id at_ i (l.drop i)) := by
  intro d
  induction d with
  | zero =>
    intro k i at_ hi hk
    obtain ⟨k, rfl⟩ : ∃ m, k = m + 1 := ⟨k - 1, by omega⟩
    simp only [chunk_place.l0]
    rw [if_neg (by omega), List.drop_eq_nil_of_le (by omega)]
    rfl
  | succ d ih =>
    intro k i at_ hi hk
    obtain ⟨k, rfl⟩ : ∃ m, k = m + 1 := ⟨k - 1, by omega⟩
    have hlt : i < l.length := by omega
    rw [drop_c hlt]
    simp only [chunk_place.l0, placeGo]
    rw [if_pos (by omega), if_pos (by omega), if_pos (by omega), wrap1 (by omega) (by omega), show ((i : Int) + 1) = ((i + 1 : Nat) : Int) by omega]
    by_cases h1 : 0 < (rd_T39 l (i : Int)).f1.length
    · rw [if_pos (by omega), if_pos (by omega)]
      by_cases h2 : rd (rd_T39 l (i : Int)).f1 0 ≤ id
      · rw [if_pos h2, if_pos ⟨h1, h2⟩]; exact ih k (i + 1) _ (by omega) (by omega)
      · rw [if_neg h2, if_neg (fun h => h2 h.2)]; exact ih k (i + 1) _ (by omega) (by omega)
    · rw [if_neg (by omega), if_neg (fun h => h1 h.1)]; exact ih k (i + 1) _ (by omega) (by omega)
theorem place_spec (l : List S39) (id : Int) (hl : l.length ≤ 1000000) : ∀ k, l.length < k → chunk_place.f k l id = some (placeGo id 0 0 l) := fun k hk => by
  have := place_from l id hl l.length k 0 0 (by omega) hk
  simpa [chunk_place.f] using this
theorem placeGo_range (id : Int) : ∀ (l : List S39) (at_ i n : Int), 0 ≤ at_ → at_ < n → 0 ≤ i → i + l.length ≤ n → 0 ≤ placeGo id at_ i l ∧ placeGo id at_ i l < n
  | [], at_, i, n, h1, h2, _, _ => ⟨h1, h2⟩
  | c :: r, at_, i, n, h1, h2, h3, h4 => by
    simp only [List.length_cons] at h4
    unfold placeGo
    apply placeGo_range id r _ _ n
    · split <;> omega
    · split <;> omega
    · omega
    · omega

/-- The place in a list that rises: what lies ahead is less. -/
structure At (x : Int) (l : List Int) (p : Nat) : Prop where
  le : p ≤ l.length
  lo : ∀ j, j < p → rd l j < x
  hi : ∀ j, p ≤ j → j < l.length → x ≤ rd l j
theorem rise_rd {l : List Int} (h : l.Pairwise (· < ·)) {i j : Nat} (hij : i < j) (hj : j < l.length) : rd l i < rd l j := by
  have := List.pairwise_iff_getElem.1 h i j (by omega) hj hij
  simpa [rd, List.getD_eq_getElem?_getD, List.getElem?_eq_getElem hj, List.getElem?_eq_getElem (show i < l.length by omega)] using this
theorem search_from (l : List Int) (x : Int) (hs : l.Pairwise (· < ·)) (hl : l.length ≤ 1000000) : ∀ (d k i j : Nat), i + d = j → d < k → j ≤ l.length → (∀ m, m < i → rd l m < x) → (∀ m, j ≤ m → m < l.length → x ≤ rd l m) →
    ∃ (p : Nat) (b : Bool), slices_BinarySearch_int_int.l0 k l x (l.length : Int) (i : Int) (j : Int) = some (((p : Nat) : Int), b) ∧ At x l p := by
  intro d
  induction d using Nat.strongRecOn with
  | _ d ih =>
    intro k i j hi hk hj h1 h2
    obtain ⟨k, rfl⟩ : ∃ m, k = m + 1 := ⟨k - 1, by omega⟩
    simp only [slices_BinarySearch_int_int.l0]
    by_cases hd : i < j
    · have hh : wrap64 ((IntKind.u64.wrap (wrap64 ((i : Int) + j))) / 2) = (((i + j) / 2 : Nat) : Int) := by
        have e1 : wrap64 ((i : Int) + j) = (i : Int) + j := by unfold wrap64; omega
        have e2 : IntKind.u64.wrap ((i : Int) + j) = (i : Int) + j := by simp [IntKind.wrap, IntKind.bits, IntKind.signed]; omega
        rw [e1, e2]; unfold wrap64; omega
      rw [if_pos (by omega), hh, if_pos (by omega), if_pos (by omega)]
      have hless : cmp_Less_int.f (rd l (((i + j) / 2 : Nat) : Int)) x = some (decide (rd l (((i + j) / 2 : Nat) : Int) < x)) := by
        simp [cmp_Less_int.f, cmp_isNaN_int.f]
      rw [hless]
      simp only [Option.bind_some]
      by_cases hx : rd l (((i + j) / 2 : Nat) : Int) < x
      · rw [if_pos (by simpa using hx), wrap1 (by omega) (by omega), show ((((i + j) / 2 : Nat) : Int) + 1) = (((i + j) / 2 + 1 : Nat) : Int) by omega]
        exact ih (j - ((i + j) / 2 + 1)) (by omega) k ((i + j) / 2 + 1) j (by omega) (by omega) hj (fun m hm => by
          rcases Nat.lt_or_ge m ((i + j) / 2) with hm2 | hm2
          · exact Int.lt_trans (rise_rd hs hm2 (by omega)) hx
          · rw [show m = (i + j) / 2 by omega]; exact hx) h2
      · rw [if_neg (by simpa using hx)]
        exact ih ((i + j) / 2 - i) (by omega) k i ((i + j) / 2) (by omega) (by omega) (by omega) h1 (fun m hm hml => by
          rcases Nat.lt_or_ge ((i + j) / 2) m with hm2 | hm2
          · have := rise_rd hs hm2 hml; omega
          · rw [show m = (i + j) / 2 by omega]; omega)
    · have hij : i = j := by omega
      subst hij
      rw [if_neg (by omega)]
      have hat : At x l i := ⟨hj, h1, h2⟩
      by_cases hlt : i < l.length
      · rw [if_pos (by omega), if_pos (by omega), if_pos (by omega)]
        by_cases e : rd l (i : Int) = x
        · exact ⟨i, true, by rw [if_pos e], hat⟩
        · exact ⟨i, false, by rw [if_neg e]; simp [slices_isNaN_int.f], hat⟩
      · exact ⟨i, false, by rw [if_neg (by omega)], hat⟩
theorem search_spec (l : List Int) (x : Int) (hs : l.Pairwise (· < ·)) (hl : l.length ≤ 1000000) (k : Nat) (hk : l.length < k) : ∃ (p : Nat) (b : Bool), slices_BinarySearch_int_int.f k l x = some (((p : Nat) : Int), b) ∧ At x l p := by
  have := search_from l x hs hl l.length k 0 l.length (by omega) hk (Nat.le_refl _) (fun m hm => by omega) (fun m h1 h2 => by omega)
  simpa [slices_BinarySearch_int_int.f] using this

def putAt (x : Int) (l : List Int) : List Int := l.takeWhile (fun y => decide (y < x)) ++ x :: l.dropWhile (fun y => decide (y < x))
theorem putAt_eq {x : Int} : ∀ {l : List Int} {p : Nat}, At x l p → l.take p ++ x :: l.drop p = putAt x l
  | [], p, h => by have := h.le; simp at this; subst this; rfl
  | y :: r, 0, h => by
    have := h.hi 0 (by omega) (by simp)
    simp only [rd, List.getD_cons_zero, Int.toNat_zero] at this
    have hn : ¬ y < x := by have : x ≤ y := by simpa using this
                            omega
    simp [putAt, hn]
  | y :: r, p + 1, h => by
    have h0 : y < x := by have := h.lo 0 (by omega); simpa [rd] using this
    have hr : At x r p := ⟨by have := h.le; simp at this; omega, fun j hj => by have := h.lo (j + 1) (by omega); simpa [rd] using this, fun j h1 h2 => by have := h.hi (j + 1) (by omega) (by simp; omega); simpa [rd] using this⟩
    have ih := putAt_eq hr
    simp only [putAt, List.take_succ_cons, List.drop_succ_cons, h0, decide_true, List.takeWhile_cons, List.dropWhile_cons, if_true, List.cons_append]
    rw [ih]; rfl

theorem rightIds_rise : ∀ {l : List Int} {a b : Int}, rightIds a l = some b → l.Pairwise (· < ·) ∧ (∀ x ∈ l, a < x) ∧ (∀ x ∈ l, x ≤ b) ∧ a ≤ b
  | [], a, b, h => by simp [rightIds] at h; subst h; simp
  | x :: r, a, b, h => by
    unfold rightIds at h
    split at h
    · cases h
    · rename_i hx
      obtain ⟨h1, h2, h3, h4⟩ := rightIds_rise h
      refine ⟨List.pairwise_cons.2 ⟨fun y hy => h2 y hy, h1⟩, fun y hy => ?_, fun y hy => ?_, by omega⟩
      · rcases List.mem_cons.1 hy with rfl | hy
        · omega
        · have := h2 y hy; omega
      · rcases List.mem_cons.1 hy with rfl | hy
        · exact h4
        · exact h3 y hy
theorem rightGo_mem : ∀ {l : List S39} {f : Bool} {a : Int} {s : List Int}, rightGo f a s l = true → ∀ c ∈ l, c.f1.Pairwise (· < ·) ∧ c.f1.length ≤ 4 ∧ c.f3 = false
  | [], _, _, _, _, c, hc => by simp at hc
  | d :: r, f, a, s, h, c, hc => by
    unfold rightGo at h
    split at h
    · cases h
    · rename_i hw
      split at h
      · cases h
      · rename_i b hb
        rcases List.mem_cons.1 hc with rfl | hc
        · refine ⟨(rightIds_rise hb).1, ?_, ?_⟩ <;> (simp [wrongC] at hw; simp_all)
        · exact rightGo_mem h c hc
end Go.Proofs.Ytfbegchhgigjeaa.PC
