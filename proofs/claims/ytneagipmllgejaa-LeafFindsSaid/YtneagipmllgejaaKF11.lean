/- Proved: for every index (a root and leaves) and every two texts, cobweblaw11.LeafFinds answers true and leaves its arguments as they were; no condition beside the given statement's own. -/
import Derived.Lib.Strings
import Derived.Test.YtneagipmllgejaaRows
import Derived.Test.YtneagipmllgejaaKF0
import Derived.Test.YtneagipmllgejaaKF1
import Derived.Test.YtneagipmllgejaaKF2
import Derived.Test.YtneagipmllgejaaKF3
import Derived.Test.YtneagipmllgejaaKF4
import Derived.Test.YtneagipmllgejaaKF5
import Derived.Test.YtneagipmllgejaaKF6
import Derived.Test.YtneagipmllgejaaKF7
import Derived.Test.YtneagipmllgejaaKF8
import Derived.Test.YtneagipmllgejaaKF9
import Derived.Test.YtneagipmllgejaaKF10
section
set_option linter.unusedVariables false
set_option linter.unusedSimpArgs false
namespace Go.Proofs.Ytneagipmllgejaa.PL
open Go.RowKit Go.Proofs.YtneagipmllgejaaW.PrintWords Go.Proofs.YtneagipmllgejaaW.PrintLast
theorem toList_len (s : ByteArray) : s.toList.length = s.size := by rw [Go.Lib.toList_data, Array.length_toList]; rfl
def byt (s : ByteArray) (i : Nat) : UInt8 := s.toList.getD i 0
theorem bt_byt {s : ByteArray} {i : Nat} (h : i < s.size) : bt s (i : Int) = ((byt s i).toNat : Int) := by
  unfold bt byt
  have h' : (i : Int).toNat < s.size := by omega
  rw [dif_pos h']
  congr 2
  rw [Go.Lib.toList_data]
  have h2 : i < s.data.toList.length := by rw [Array.length_toList]; exact h
  rw [List.getD_eq_getElem?_getD, List.getElem?_eq_getElem h2]
  rfl
theorem drop_byt {s : ByteArray} {i : Nat} (h : i < s.size) : s.toList.drop i = byt s i :: s.toList.drop (i + 1) := by
  have h2 : i < s.toList.length := by rw [toList_len]; exact h
  rw [List.drop_eq_getElem_cons h2]
  congr 1
  simp [byt, List.getD_eq_getElem?_getD, List.getElem?_eq_getElem h2]
def ordL : List UInt8 → List UInt8 → Int
  | [], [] => 0
  | [], _ :: _ => -1
  | _ :: _, [] => 1
  | x :: a, y :: b => if x = y then ordL a b else if x < y then -1 else 1
theorem ordL_lt : ∀ {a b : List UInt8}, ordL a b < 0 ↔ Op.bytesLess a b = true
  | [], [] => by simp [ordL, Op.bytesLess]
  | [], y :: b => by simp [ordL, Op.bytesLess]
  | x :: a, [] => by simp [ordL, Op.bytesLess]
  | x :: a, y :: b => by
    simp only [ordL, Op.bytesLess, Bool.or_eq_true, Bool.and_eq_true, decide_eq_true_eq, beq_iff_eq]
    by_cases h : x = y
    · subst h
      rw [if_pos rfl, ordL_lt]
      simp
    · rw [if_neg h]
      by_cases h2 : x < y
      · rw [if_pos h2]; simp [h2]
      · rw [if_neg h2]; simp [h2, h]
theorem ordL_gt : ∀ {a b : List UInt8}, 0 < ordL a b ↔ Op.bytesLess b a = true
  | [], [] => by simp [ordL, Op.bytesLess]
  | [], y :: b => by simp [ordL, Op.bytesLess]
  | x :: a, [] => by simp [ordL, Op.bytesLess]
  | x :: a, y :: b => by
    simp only [ordL, Op.bytesLess, Bool.or_eq_true, Bool.and_eq_true, decide_eq_true_eq, beq_iff_eq]
    by_cases h : x = y
    · subst h
      rw [if_pos rfl, ordL_gt]
      simp
    · rw [if_neg h]
      have hyx : ¬ y = x := fun e => h e.symm
      by_cases h2 : x < y
      · rw [if_pos h2]
        have h3 : ¬ y < x := fun h4 => absurd (UInt8.lt_trans h2 h4) (UInt8.lt_irrefl _)
        simp [h3, hyx]
      · rw [if_neg h2]
        have h3 : y < x := by
          rcases UInt8.lt_or_eq_of_le (UInt8.not_lt.1 h2) with h4 | h4
          · exact h4
          · exact absurd h4 hyx
        simp [h3]
def ordB (a b : ByteArray) : Int := ordL a.toList b.toList
theorem order_from (x y : ByteArray) (hx : x.size ≤ 1000000) (hy : y.size ≤ 1000000) : ∀ (d k i : Nat), i + d = x.size → 2 * d + 2 ≤ k → cobwebref02_Order.l0 k x y (i : Int) = some (ordL (x.toList.drop i) (y.toList.drop i)) ∨ y.size < i := by
  intro d
  induction d with
  | zero =>
    intro k i hi hk
    obtain ⟨k, rfl⟩ : ∃ q, k = q + 2 := ⟨k - 2, by omega⟩
    by_cases hy2 : y.size < i
    · exact .inr hy2
    left
    simp only [cobwebref02_Order.l0, cobwebref02_Order.j1]
    rw [if_neg (by omega), if_neg (by decide)]
    have h1 : x.toList.drop i = [] := List.drop_eq_nil_of_le (by rw [toList_len]; omega)
    rw [h1]
    by_cases he : (x.size : Int) = (y.size : Int)
    · rw [if_pos he]
      have h2 : y.toList.drop i = [] := List.drop_eq_nil_of_le (by rw [toList_len]; omega)
      rw [h2]; rfl
    · rw [if_neg he, decide_eq_true (show (x.size : Int) < (y.size : Int) by omega), drop_byt (s := y) (i := i) (by omega)]
      rfl
  | succ d ih =>
    intro k i hi hk
    obtain ⟨k, rfl⟩ : ∃ q, k = q + 2 := ⟨k - 2, by omega⟩
    by_cases hy2 : y.size < i
    · exact .inr hy2
    left
    simp only [cobwebref02_Order.l0, cobwebref02_Order.j1]
    rw [if_pos (by omega), drop_byt (s := x) (i := i) (by omega)]
    by_cases hyi : i < y.size
    · rw [decide_eq_true (show (i : Int) < (y.size : Int) by omega), if_pos rfl, if_pos (by omega), if_pos (by omega), if_pos (by omega), drop_byt (s := y) (i := i) hyi, bt_byt (by omega), bt_byt hyi, w64 (x := (i : Int) + 1) (by omega) (by omega), show (i : Int) + 1 = ((i + 1 : Nat) : Int) by omega]
      simp only [ordL]
      by_cases he : byt x i = byt y i
      · rw [if_pos (by rw [he]), if_pos he]
        rcases ih k (i + 1) (by omega) (by omega) with h | h
        · exact h
        · omega
      · have hne : ¬ ((byt x i).toNat : Int) = ((byt y i).toNat : Int) := fun e => he (UInt8.toNat_inj.1 (by omega))
        rw [if_neg hne, if_neg he]
        by_cases hl : byt x i < byt y i
        · rw [if_pos hl, decide_eq_true (show ((byt x i).toNat : Int) < ((byt y i).toNat : Int) by have := UInt8.lt_iff_toNat_lt.1 hl; omega)]
          rfl
        · rw [if_neg hl, decide_eq_false (show ¬ ((byt x i).toNat : Int) < ((byt y i).toNat : Int) by intro h; exact hl (UInt8.lt_iff_toNat_lt.2 (by omega)))]
          rfl
    · rw [decide_eq_false (show ¬ (i : Int) < (y.size : Int) by omega), if_neg (by decide), if_neg (by omega), decide_eq_false (show ¬ (x.size : Int) < (y.size : Int) by omega)]
      have h2 : y.toList.drop i = [] := List.drop_eq_nil_of_le (by rw [toList_len]; omega)
      rw [h2]
      rfl
theorem order_spec (x y : ByteArray) (hx : x.size ≤ 1000) (hy : y.size ≤ 1000) {k : Nat} (hk : 2002 ≤ k) : cobwebref02_Order.f k x y = some (ordB x y) := by
  rcases order_from x y (by omega) (by omega) x.size k 0 (by omega) (by omega) with h | h
  · simpa [cobwebref02_Order.f, ordB] using h
  · omega
theorem ord_ge {a b : ByteArray} : ordB a b ≥ 0 ↔ lessB a b = false := by
  have := @ordL_lt a.toList b.toList
  unfold ordB lessB
  cases h : Op.bytesLess a.toList b.toList with
  | true => have := this.2 h; simp; omega
  | false => simp; exact Int.not_lt.1 (fun h2 => by rw [this.1 h2] at h; cases h)
theorem ord_le {a b : ByteArray} : ordB a b ≤ 0 ↔ lessB b a = false := by
  have := @ordL_gt a.toList b.toList
  unfold ordB lessB
  cases h : Op.bytesLess b.toList a.toList with
  | true => have := this.2 h; simp; omega
  | false => simp; exact Int.not_lt.1 (fun h2 => by rw [this.1 h2] at h; cases h)
theorem ord_lt {a b : ByteArray} : ordB a b < 0 ↔ lessB a b = true := ordL_lt
theorem rd_size {l : List ByteArray} (h : ∀ s ∈ l, s.size ≤ 1000) (i : Int) : (rdOf ByteArray.empty l i).size ≤ 1000 := by
  unfold rdOf
  rw [List.getD_eq_getElem?_getD]
  cases h2 : l[i.toNat]? with
  | none => simp
  | some c => exact h c (List.mem_of_getElem? h2)
theorem ref_rise_from (l : List ByteArray) (hl : l.length ≤ 100000) (hs : ∀ s ∈ l, s.size ≤ 1000) : ∀ (d k i : Nat), 1 ≤ i → i + d = l.length → d + 2010 ≤ k → cobwebref11_Rise.l0 k l (i : Int) = some (riseB (l.drop (i - 1))) := by
  intro d
  induction d with
  | zero =>
    intro k i h1 hi hk
    obtain ⟨k, rfl⟩ : ∃ m, k = m + 1 := ⟨k - 1, by omega⟩
    simp only [cobwebref11_Rise.l0]
    rw [if_neg (by omega), drop_rs (j := i - 1) (by omega), List.drop_eq_nil_of_le (by omega)]
    rfl
  | succ d ih =>
    intro k i h1 hi hk
    obtain ⟨k, rfl⟩ : ∃ m, k = m + 1 := ⟨k - 1, by omega⟩
    simp only [cobwebref11_Rise.l0]
    rw [if_pos (by omega), w64 (x := (i : Int) - 1) (by omega) (by omega), if_pos (by omega), if_pos (by omega), if_pos (by omega),
      order_spec _ _ (rd_size hs _) (rd_size hs _) (by omega), show (i : Int) - 1 = ((i - 1 : Nat) : Int) by omega, w64 (x := (i : Int) + 1) (by omega) (by omega), show (i : Int) + 1 = ((i + 1 : Nat) : Int) by omega,
      ih k (i + 1) (by omega) (by omega) (by omega), drop_rs (j := i - 1) (by omega), show i - 1 + 1 = i by omega, show i + 1 - 1 = i by omega, drop_rs (j := i) (by omega)]
    simp only [Option.bind_some, riseB]
    show (if ordB _ _ ≥ 0 then some false else _) = some (if lessB _ _ = true then _ else _)
    by_cases h : ordB (rdOf ByteArray.empty l ((i - 1 : Nat) : Int)) (rdOf ByteArray.empty l (i : Int)) ≥ 0
    · rw [if_pos h, if_neg (by rw [ord_ge.1 h]; decide)]
    · rw [if_neg h, if_pos (ord_lt.1 (by omega))]
theorem ref_rise (l : List ByteArray) (hl : l.length ≤ 100000) (hs : ∀ s ∈ l, s.size ≤ 1000) {k : Nat} (hk : l.length + 2020 ≤ k) : cobwebref11_Rise.f k l = some (riseB l) := by
  unfold cobwebref11_Rise.f
  by_cases h : l.length = 0
  · obtain rfl := List.eq_nil_of_length_eq_zero h
    obtain ⟨k, rfl⟩ : ∃ m, k = m + 1 := ⟨k - 1, by omega⟩
    simp only [cobwebref11_Rise.l0]
    rfl
  · have := ref_rise_from l hl hs (l.length - 1) k 1 (by omega) (by omega) (by omega)
    simpa using this
theorem ref_root1 (a : List ByteArray) (b : List Int) (i : Nat) (hi : i < b.length) (hl : b.length ≤ 100000) : ∀ (m k j : Nat) (K : Nat), j + m = i → m + 1 + K ≤ k →
    ((((b.take i).drop j).contains (rd b (i : Int)) = true ∧ cobwebref11_Root.l1 k (i : Int) (j : Int) a b = some false) ∨ (((b.take i).drop j).contains (rd b (i : Int)) = false ∧ ∃ k', K ≤ k' ∧ cobwebref11_Root.l1 k (i : Int) (j : Int) a b = cobwebref11_Root.l0 k' ((i + 1 : Nat) : Int) a b)) := by
  intro m
  induction m with
  | zero =>
    intro k j K hj hk
    obtain ⟨k, rfl⟩ : ∃ q, k = q + 1 := ⟨k - 1, by omega⟩
    simp only [cobwebref11_Root.l1]
    rw [if_neg (by omega), List.drop_eq_nil_of_le (by simp; omega), w64 (by omega) (by omega)]
    exact .inr ⟨rfl, k, by omega, rfl⟩
  | succ m ih =>
    intro k j K hj hk
    obtain ⟨k, rfl⟩ : ∃ q, k = q + 1 := ⟨k - 1, by omega⟩
    have hd : (b.take i).drop j = rd b (j : Int) :: (b.take i).drop (j + 1) := by
      rw [drop_rd (l := b.take i) (j := j) (by simp; omega)]
      congr 1
      simp [rd, List.getD_eq_getElem?_getD, List.getElem?_take, show j < i by omega]
    simp only [cobwebref11_Root.l1]
    rw [if_pos (by omega), if_pos (by omega), if_pos (by omega), if_pos (by omega), if_pos (by omega), hd, w64 (x := (j : Int) + 1) (by omega) (by omega), show (j : Int) + 1 = ((j + 1 : Nat) : Int) by omega]
    by_cases h : rd b (j : Int) = rd b (i : Int)
    · rw [if_pos h]
      exact .inl ⟨by simp [h], rfl⟩
    · rw [if_neg h]
      have h' : ¬ rd b (i : Int) = rd b (j : Int) := fun e => h e.symm
      rcases ih k (j + 1) K (by omega) (by omega) with ⟨h1, h2⟩ | ⟨h1, h2⟩
      · exact .inl ⟨by rw [List.contains_cons, h1]; simp, h2⟩
      · exact .inr ⟨by rw [List.contains_cons, h1]; simpa using h', h2⟩
theorem ref_root0 (a : List ByteArray) (b : List Int) (hl : b.length ≤ 10000) : ∀ (d k i : Nat) (seen : List Int), (∀ x, seen.contains x = (b.take i).contains x) → i + d = b.length → 20000 * d + 10 ≤ k → cobwebref11_Root.l0 k (i : Int) a b = some (seenGo seen (b.drop i)) := by
  intro d
  induction d with
  | zero =>
    intro k i seen hs hi hk
    obtain ⟨k, rfl⟩ : ∃ q, k = q + 1 := ⟨k - 1, by omega⟩
    simp only [cobwebref11_Root.l0]
    rw [if_neg (by omega), List.drop_eq_nil_of_le (by omega)]
    rfl
  | succ d ih =>
    intro k i seen hs hi hk
    obtain ⟨k, rfl⟩ : ∃ q, k = q + 1 := ⟨k - 1, by omega⟩
    have hlt : i < b.length := by omega
    simp only [cobwebref11_Root.l0]
    rw [if_pos (by omega), if_pos (by omega), drop_rd hlt]
    simp only [seenGo]
    by_cases h1 : rd b (i : Int) < 1
    · rw [if_pos h1, decide_eq_true h1]
      rfl
    · rw [if_neg h1, decide_eq_false h1, hs]
      obtain ⟨K, hK⟩ : ∃ K, K = 20000 * d + 10 := ⟨_, rfl⟩
      rcases ref_root1 a b i hlt (by omega) i k 0 K (by omega) (by omega) with ⟨h2, h3⟩ | ⟨h2, k', hk', h3⟩
      · rw [List.drop_zero] at h2
        rw [show (0 : Int) = ((0 : Nat) : Int) from rfl, h3, h2]
        rfl
      · rw [List.drop_zero] at h2
        rw [show (0 : Int) = ((0 : Nat) : Int) from rfl, h3, h2, ih k' (i + 1) (rd b (i : Int) :: seen) (fun x => ?_) (by omega) (by omega)]
        · rfl
        · rw [List.contains_cons, hs x, List.take_succ_eq_append_getElem hlt]
          have e : rd b (i : Int) = b[i] := by simp [rd, List.getD_eq_getElem?_getD, List.getElem?_eq_getElem hlt]
          rw [e, Bool.eq_iff_iff]
          generalize b.take i = t
          generalize b[i] = y
          simp [or_comm]
theorem ref_root (a : List ByteArray) (b : List Int) (ha : a.length ≤ 10000) (hb : b.length ≤ 10000) (hs : ∀ s ∈ a, s.size ≤ 1000) {k : Nat} (hk : 200000100 ≤ k) : cobwebref11_Root.f k a b = some (rootB a b) := by
  obtain ⟨k, rfl⟩ : ∃ q, k = q + 1 := ⟨k - 1, by omega⟩
  unfold cobwebref11_Root.f rootB
  rw [w64 (x := (a.length : Int) + 1) (by omega) (by omega)]
  by_cases h : b.length = a.length + 1
  · rw [if_pos (by omega), ref_rise a (by omega) hs (by omega)]
    simp only [Option.bind_some, if_pos h]
    have h0 := ref_root0 a b hb b.length k 0 [] (fun x => by simp) (by omega) (by omega)
    rw [show ((0 : Nat) : Int) = 0 from rfl, List.drop_zero] at h0
    cases hr : riseB a with
    | true =>
      simp only [cobwebref11_Root.j0, Bool.not_true]
      rw [if_neg (by decide), h0]
      cases seenGo [] b <;> rfl
    | false =>
      simp only [cobwebref11_Root.j0, Bool.not_false, if_true]
      cases seenGo [] b <;> rfl
  · rw [if_neg (by omega)]
    simp only [cobwebref11_Root.j0, if_true, if_neg h]
    cases seenGo [] b <;> rfl
/-- How many of a list aren't above a text. -/
def cntLe (s : ByteArray) (l : List ByteArray) : Nat := l.countP (fun y => !lessB s y)
theorem ref_at_from (a : List ByteArray) (b : List Int) (s : ByteArray) (hl : a.length ≤ 100000) (hs : ∀ s ∈ a, s.size ≤ 1000) (hs2 : s.size ≤ 1000) : ∀ (d k i n : Nat), i + d = a.length → d + 2010 ≤ k → n ≤ i → cobwebref11_At.l0 k s (n : Int) (i : Int) a b = some ((n + cntLe s (a.drop i) : Nat) : Int) := by
  intro d
  induction d with
  | zero =>
    intro k i n hi hk hn
    obtain ⟨k, rfl⟩ : ∃ q, k = q + 1 := ⟨k - 1, by omega⟩
    simp only [cobwebref11_At.l0]
    rw [if_neg (by omega), List.drop_eq_nil_of_le (by omega)]
    simp [cntLe]
  | succ d ih =>
    intro k i n hi hk hn
    obtain ⟨k, rfl⟩ : ∃ q, k = q + 1 := ⟨k - 1, by omega⟩
    simp only [cobwebref11_At.l0]
    rw [if_pos (by omega), if_pos (by omega), order_spec _ _ (rd_size hs _) hs2 (by omega), w64 (x := (i : Int) + 1) (by omega) (by omega), w64 (x := (n : Int) + 1) (by omega) (by omega), show (i : Int) + 1 = ((i + 1 : Nat) : Int) by omega, show (n : Int) + 1 = ((n + 1 : Nat) : Int) by omega, drop_rs (by omega)]
    simp only [Option.bind_some]
    by_cases h : ordB (rdOf ByteArray.empty a (i : Int)) s ≤ 0
    · rw [if_pos h, ih k (i + 1) (n + 1) (by omega) (by omega) (by omega)]
      have := ord_le.1 h
      unfold cntLe
      rw [List.countP_cons, this]
      simp only [Bool.not_false, if_true]
      congr 2
      omega
    · rw [if_neg h, ih k (i + 1) n (by omega) (by omega) (by omega)]
      have h2 : lessB s (rdOf ByteArray.empty a (i : Int)) = true := by
        cases h3 : lessB s (rdOf ByteArray.empty a (i : Int)) with
        | true => rfl
        | false => exact absurd (ord_le.2 h3) h
      unfold cntLe
      rw [List.countP_cons, h2]
      simp
theorem ref_at (a : List ByteArray) (b : List Int) (s : ByteArray) (hl : a.length ≤ 10000) (hs : ∀ s ∈ a, s.size ≤ 1000) (hs2 : s.size ≤ 1000) {k : Nat} (hk : 20000 ≤ k) : cobwebref11_At.f k a b s = some (cntLe s a : Int) := by
  have := ref_at_from a b s (by omega) hs hs2 a.length k 0 0 (by omega) (by omega) (by omega)
  simpa [cobwebref11_At.f] using this
theorem cntLe_rise (s : ByteArray) : ∀ {l : List ByteArray}, riseB l = true → cntLe s l = atS s l
  | [], _ => rfl
  | y :: l, h => by
    have ih := cntLe_rise s (riseB_tail h)
    have hp := List.pairwise_cons.1 (riseB_pairwise.1 h)
    unfold cntLe at ih ⊢
    rw [List.countP_cons]
    by_cases h1 : lessB y s = true
    · have h2 := less_asymm h1
      rw [h2, ih]
      simp only [Bool.not_false, if_true]
      have e1 : loS s (y :: l) = loS s l + 1 := by simp [loS, h1]
      have e2 : fndS s (y :: l) = fndS s l := by unfold fndS; rw [e1]; rfl
      unfold atS
      rw [e1, e2]
      split <;> rfl
    · have h1' : lessB y s = false := by simpa using h1
      have e1 : loS s (y :: l) = 0 := by simp [loS, h1']
      by_cases h2 : lessB s y = true
      · have h3 : l.countP (fun y => !lessB s y) = 0 := by
          rw [List.countP_eq_zero]
          intro z hz
          have := less_trans h2 (hp.1 z hz)
          simp [this]
        rw [h3, h2]
        have e2 : fndS s (y :: l) = false := by
          unfold fndS
          rw [e1]
          show decide (y.toList = s.toList) = false
          apply decide_eq_false
          intro e
          have : lessB s y = false := by unfold lessB; rw [e]; exact bl_irrefl _
          rw [h2] at this; cases this
        unfold atS
        rw [e2, e1]
        rfl
      · have h2' : lessB s y = false := by simpa using h2
        have e : y.toList = s.toList := bl_tri h1' h2'
        have h3 : l.countP (fun y => !lessB s y) = 0 := by
          rw [List.countP_eq_zero]
          intro z hz
          have := hp.1 z hz
          have h4 : lessB s z = true := by unfold lessB at this ⊢; rw [← e]; exact this
          simp [h4]
        rw [h3, h2']
        have e2 : fndS s (y :: l) = true := by
          unfold fndS
          rw [e1]
          show decide (y.toList = s.toList) = true
          exact decide_eq_true e
        unfold atS
        rw [e2, e1]
        rfl
theorem ref_leaf (no : Int) (es : List ByteArray) (gone : Bool) (hl : es.length ≤ 10000) (hs : ∀ s ∈ es, s.size ≤ 1000) {k : Nat} (hk : 20000 ≤ k) : cobwebref11_Leaf.f k no es gone = some (leafB es gone) := by
  unfold cobwebref11_Leaf.f leafB
  by_cases h : gone = true
  · rw [if_pos h, if_pos h]
  · rw [if_neg h, if_neg h]
    by_cases h4 : es.length ≤ 4
    · rw [if_pos (by omega), if_pos h4, ref_rise es (by omega) hs (by omega)]; rfl
    · rw [if_neg (by omega), if_neg h4]
theorem ref_find (a : List ByteArray) (b : List Int) (s : ByteArray) (ha : a.length ≤ 10000) (hb : b.length ≤ 10000) (hs : ∀ s ∈ a, s.size ≤ 1000) (hs2 : s.size ≤ 1000) {k : Nat} (hk : 200000100 ≤ k) : cobwebref11_Find.f k a b s = some (findB a b s) := by
  unfold cobwebref11_Find.f findB
  rw [ref_root a b ha hb hs hk]
  simp only [Option.bind_some]
  by_cases h : rootB a b = true
  · rw [if_pos h, if_pos h]
    obtain ⟨h1, h2, h3⟩ := rootB_iff.1 h
    rw [ref_at a b s ha hs hs2 (by omega), cntLe_rise s h3]
    simp only [Option.bind_some]
    have := atS_le s a
    rw [if_pos (by omega), if_pos (by omega)]
  · rw [if_neg h, if_neg h]
end Go.Proofs.Ytneagipmllgejaa.PL
end
section
set_option linter.unusedVariables false
set_option linter.unusedSimpArgs false
namespace Go.Proofs.Ytneagipmllgejaa.PL
open Go.RowKit Go.Proofs.YtneagipmllgejaaW.PrintWords Go.Proofs.YtneagipmllgejaaW.PrintLast
theorem loS_at (s : ByteArray) : ∀ {l : List ByteArray}, riseB l = true → AtP s l (loS s l)
  | [], _ => ⟨by simp [loS], fun j h => by simp [loS] at h, fun j _ h => by simp at h⟩
  | y :: r, h => by
    have ih := loS_at s (riseB_tail h)
    have hp := List.pairwise_cons.1 (riseB_pairwise.1 h)
    by_cases h1 : lessB y s = true
    · have e1 : loS s (y :: r) = loS s r + 1 := by simp [loS, h1]
      rw [e1]
      refine ⟨by have := ih.le; simp; omega, fun j hj => ?_, fun j h2 h3 => ?_⟩
      · cases j with
        | zero => simpa [rdOf] using h1
        | succ j => have := ih.lo j (by omega); simpa [rdOf] using this
      · cases j with
        | zero => omega
        | succ j => have := ih.hi j (by omega) (by simp at h3; omega); simpa [rdOf] using this
    · have h1' : lessB y s = false := by simpa using h1
      have e1 : loS s (y :: r) = 0 := by simp [loS, h1']
      rw [e1]
      refine ⟨by omega, fun j hj => by omega, fun j h2 h3 => ?_⟩
      cases j with
      | zero => simpa [rdOf] using h1'
      | succ j =>
        have hj : j < r.length := by simp at h3; omega
        have hm : rdOf ByteArray.empty r (j : Int) ∈ r := by simp [rdOf, List.getD_eq_getElem?_getD, List.getElem?_eq_getElem hj]
        have h4 := hp.1 _ hm
        have e : rdOf ByteArray.empty (y :: r) ((j + 1 : Nat) : Int) = rdOf ByteArray.empty r (j : Int) := by simp [rdOf]
        rw [e]
        cases h5 : lessB (rdOf ByteArray.empty r (j : Int)) s with
        | false => rfl
        | true => rw [less_trans h4 h5] at h1'; cases h1'
theorem lo_iff {s : ByteArray} {l : List ByteArray} (h : riseB l = true) {j : Nat} (hj : j < l.length) : lessB (rdOf ByteArray.empty l (j : Int)) s = true ↔ j < loS s l := by
  have H := loS_at s h
  constructor
  · intro h1
    rcases Nat.lt_or_ge j (loS s l) with h2 | h2
    · exact h2
    · rw [H.hi j h2 hj] at h1; cases h1
  · exact H.lo j
theorem at_iff {s : ByteArray} {l : List ByteArray} (h : riseB l = true) {j : Nat} (hj : j < l.length) : lessB s (rdOf ByteArray.empty l (j : Int)) = true ↔ atS s l ≤ j := by
  have H := loS_at s h
  have hle := H.le
  rcases Nat.lt_trichotomy j (loS s l) with h2 | h2 | h2
  · have h3 := less_asymm (H.lo j h2)
    rw [h3]
    have : loS s l ≤ atS s l := by unfold atS; split <;> omega
    constructor
    · intro e; cases e
    · intro e; omega
  · subst h2
    have h3 := H.hi (loS s l) (Nat.le_refl _) hj
    have hd := drop_rs hj
    by_cases e : (rdOf ByteArray.empty l (loS s l : Int)).toList = s.toList
    · have hf : fndS s l = true := by unfold fndS; rw [hd]; show decide (_ = _) = true; exact decide_eq_true e
      have h4 : lessB s (rdOf ByteArray.empty l (loS s l : Int)) = false := by unfold lessB; rw [e]; exact bl_irrefl _
      rw [h4]
      unfold atS
      rw [if_pos hf]
      constructor
      · intro e; cases e
      · intro e; omega
    · have hf : fndS s l = false := by unfold fndS; rw [hd]; show decide (_ = _) = false; exact decide_eq_false e
      unfold atS
      rw [if_neg (by rw [hf]; decide)]
      refine ⟨fun _ => Nat.le_refl _, fun _ => ?_⟩
      cases h5 : lessB s (rdOf ByteArray.empty l (loS s l : Int)) with
      | true => rfl
      | false => exact absurd (bl_tri h3 h5) e
  · have h3 := H.hi (loS s l) (Nat.le_refl _) (by omega)
    have h4 := rise_rs h h2 hj
    have h5 : lessB s (rdOf ByteArray.empty l (j : Int)) = true := by
      cases h6 : lessB s (rdOf ByteArray.empty l (loS s l : Int)) with
      | true => exact less_trans h6 h4
      | false =>
        have e := bl_tri h3 h6
        unfold lessB at h4 ⊢
        rw [← e]; exact h4
    rw [h5]
    have : atS s l ≤ loS s l + 1 := by unfold atS; split <;> omega
    exact ⟨fun _ => by omega, fun _ => rfl⟩
theorem at_lo {x y : ByteArray} {l : List ByteArray} (h : riseB l = true) (hxy : lessB x y = true) : atS x l ≤ loS y l := by
  have h1 := atS_le x l
  rcases Nat.eq_zero_or_pos (atS x l) with h2 | h2
  · omega
  · have hj : atS x l - 1 < l.length := by omega
    have h3 : lessB x (rdOf ByteArray.empty l ((atS x l - 1 : Nat) : Int)) = false := by
      cases h4 : lessB x (rdOf ByteArray.empty l ((atS x l - 1 : Nat) : Int)) with
      | false => rfl
      | true => have := (at_iff h hj).1 h4; omega
    have h5 : lessB (rdOf ByteArray.empty l ((atS x l - 1 : Nat) : Int)) y = true := by
      cases h6 : lessB (rdOf ByteArray.empty l ((atS x l - 1 : Nat) : Int)) x with
      | true => exact less_trans h6 hxy
      | false =>
        have e := bl_tri h3 h6
        unfold lessB at hxy ⊢
        rw [← e]; exact hxy
    have := (lo_iff h hj).1 h5
    omega
def rangeB (a : List ByteArray) (b : List Int) (x y : ByteArray) : List Int := if rootB a b = true then (if lessB x y = true then (b.take (loS y a + 1)).drop (atS x a) else []) else []
theorem clone_nums {l : List Int} (h : l.length ≤ 1000000) : slices_Clone_int_int.f l = some l := by
  unfold slices_Clone_int_int.f
  rw [if_pos (by omega)]
theorem cut_len {l : List Int} {p q : Nat} (h : l.length ≤ 100000) : ((l.take q).drop p).length ≤ 1000000 := by
  rw [List.length_drop, List.length_take]
  omega
theorem range_f (a : List ByteArray) (b : List Int) (x : ByteArray) (q : Nat) (h3 : riseB a = true) (ha : a.length ≤ 100000) (hb : b.length ≤ 100000) (hq : q + 1 ≤ b.length) (hat : atS x a ≤ q + 1) {k : Nat} (hk : a.length < k) : leaf_Range.j1 (k + 1) x (q : Int) false a b = some ((b.take (q + 1)).drop (atS x a)) := by
  have e2 : wrap64 ((q : Int) + 1) = (q : Int) + 1 := w64 (by omega) (by omega)
  have e3 : ((q : Int) + 1).toNat = q + 1 := by omega
  have e4 : (0 : Int) ≤ (atS x a : Int) := by omega
  have e5 : (atS x a : Int) ≤ (q : Int) + 1 := by omega
  have e6 : (q : Int) + 1 ≤ (b.length : Int) := by omega
  have e7 := clone_nums (cut_len (l := b) (p := atS x a) (q := q + 1) hb)
  have e8 := at_spec a b x h3 (by omega) hk
  clear hq hat hb ha hk
  simp only [leaf_Range.j1, e2, e8, Option.bind_some, e3, Int.toNat_natCast, e7, if_pos e4, if_pos e5, if_pos e6, if_false, Bool.false_eq_true]
theorem range_t (a : List ByteArray) (b : List Int) (x : ByteArray) (q : Nat) (t : Int) (ht : t = (q : Int) + 1) (h3 : riseB a = true) (ha : a.length ≤ 100000) (hb : b.length ≤ 100000) (hq : q + 1 ≤ b.length) (hat : atS x a ≤ q + 1) {k : Nat} (hk : a.length < k) : leaf_Range.j1 (k + 1) x t true a b = some ((b.take (q + 1)).drop (atS x a)) := by
  have e1 : wrap64 (t - 1) = (q : Int) := by rw [w64 (by omega) (by omega)]; omega
  have e2 : wrap64 ((q : Int) + 1) = (q : Int) + 1 := w64 (by omega) (by omega)
  have e3 : ((q : Int) + 1).toNat = q + 1 := by omega
  have e4 : (0 : Int) ≤ (atS x a : Int) := by omega
  have e5 : (atS x a : Int) ≤ (q : Int) + 1 := by omega
  have e6 : (q : Int) + 1 ≤ (b.length : Int) := by omega
  have e7 := clone_nums (cut_len (l := b) (p := atS x a) (q := q + 1) hb)
  have e8 := at_spec a b x h3 (by omega) hk
  clear ht hq hat hb ha hk
  simp only [leaf_Range.j1, e1, e2, e8, Option.bind_some, e3, Int.toNat_natCast, e7, if_pos e4, if_pos e5, if_pos e6, if_true]
theorem range_j0 (a : List ByteArray) (b : List Int) (x y : ByteArray) (h3 : riseB a = true) (h2 : b.length = a.length + 1) (hxy : lessB x y = true) (ha : a.length ≤ 10000) {k : Nat} (hk : a.length < k) : leaf_Range.j0 (k + 1 + 1) x y false a b = some ((b.take (loS y a + 1)).drop (atS x a)) := by
  have hal := at_lo h3 hxy
  have hlo := loS_le y a
  have hat := atS_le x a
  simp only [leaf_Range.j0]
  rw [if_neg (by decide), at_spec a b y h3 (by omega) (by omega)]
  simp only [Option.bind_some]
  by_cases hf : fndS y a = true
  · have hlt : loS y a < a.length := by
      rcases Nat.lt_or_ge (loS y a) a.length with h5 | h5
      · exact h5
      · unfold fndS at hf; rw [List.drop_eq_nil_of_le h5] at hf; cases hf
    have hy : (rdOf ByteArray.empty a (loS y a : Int)).toList = y.toList := by
      unfold fndS at hf
      rw [drop_rs hlt] at hf
      exact of_decide_eq_true hf
    have e1 : atS y a = loS y a + 1 := by unfold atS; rw [if_pos hf]
    rw [e1, if_pos (by omega), w64 (by omega) (by omega), show (((loS y a + 1 : Nat) : Int) - 1) = (loS y a : Int) by omega, if_pos (by omega), if_pos (by omega), beq_iff_eq.2 hy]
    exact range_t a b x (loS y a) _ (by omega) h3 (by omega) (by omega) (by omega) (by omega) hk
  · have e1 : atS y a = loS y a := by unfold atS; rw [if_neg hf]
    rw [e1]
    by_cases h0 : loS y a = 0
    · rw [if_neg (by omega)]
      exact range_f a b x _ h3 (by omega) (by omega) (by omega) (by omega) hk
    · rw [if_pos (by omega), w64 (by omega) (by omega), if_pos (by omega), if_pos (by omega), show ((loS y a : Int) - 1) = ((loS y a - 1 : Nat) : Int) by omega]
      have hne : ((rdOf ByteArray.empty a ((loS y a - 1 : Nat) : Int)).toList == y.toList) = false := by
        have := (loS_at y h3).lo (loS y a - 1) (by omega)
        apply beq_eq_false_iff_ne.2
        intro e
        unfold lessB at this
        rw [e, bl_irrefl] at this
        cases this
      rw [hne]
      exact range_f a b x _ h3 (by omega) (by omega) (by omega) (by omega) hk
theorem range_spec (a : List ByteArray) (b : List Int) (x y : ByteArray) (ha : a.length ≤ 10000) (hb : b.length ≤ 10000) {k : Nat} (hk : a.length < k) : leaf_Range.f (k + 1 + 1) a b x y = some (rangeB a b x y) := by
  unfold leaf_Range.f rangeB
  rw [root_spec a b (by omega) (by omega)]
  simp only [Option.bind_some]
  by_cases h : rootB a b = true
  · rw [if_pos h, if_pos h]
    obtain ⟨h1, h2, h3⟩ := rootB_iff.1 h
    by_cases hxy : lessB x y = true
    · have hfold : Op.bytesLess x.toList y.toList = true := hxy
      rw [if_pos hxy, hfold]
      exact range_j0 a b x y h3 h2 hxy ha hk
    · have hfold : Op.bytesLess x.toList y.toList = false := by unfold lessB at hxy; simpa using hxy
      rw [if_neg hxy, hfold]
      simp only [leaf_Range.j0, Bool.not_false, if_true]
  · rw [if_neg h, if_neg h]
    simp only [leaf_Range.j0, if_true]
def selR (p q : Nat) : Nat → List Int → List Int
  | _, [] => []
  | i, v :: r => if p ≤ i ∧ i ≤ q then v :: selR p q (i + 1) r else selR p q (i + 1) r
theorem selR_eq (p q : Nat) : ∀ (l : List Int) (i : Nat), selR p q i l = (l.take (q + 1 - i)).drop (p - i)
  | [], i => by simp [selR]
  | v :: r, i => by
    simp only [selR]
    rw [selR_eq p q r (i + 1)]
    by_cases h : p ≤ i ∧ i ≤ q
    · rw [if_pos h, show q + 1 - i = (q + 1 - (i + 1)) + 1 by omega, show p - i = 0 by omega, show p - (i + 1) = 0 by omega]
      simp
    · rw [if_neg h]
      by_cases h1 : i < p
      · rw [show p - i = (p - (i + 1)) + 1 by omega]
        by_cases h2 : q + 1 - i = 0
        · rw [h2, show q + 1 - (i + 1) = 0 by omega]; simp
        · rw [show q + 1 - i = (q + 1 - (i + 1)) + 1 by omega]; simp
      · rw [show q + 1 - i = 0 by omega, show q + 1 - (i + 1) = 0 by omega]; simp
theorem ref_range_from (a : List ByteArray) (b : List Int) (x y : ByteArray) (h3 : riseB a = true) (h2 : b.length = a.length + 1) (hl : b.length ≤ 10000) (hs : ∀ s ∈ a, s.size ≤ 1000) (hx : x.size ≤ 1000) (hy : y.size ≤ 1000) (hxy : lessB x y = true) : ∀ (d k i : Nat) (acc : List Int), i + d = b.length → d + 3000 ≤ k → acc.length ≤ i → cobwebref11_Range.l0 k x y acc (i : Int) a b = some (acc ++ selR (atS x a) (loS y a) i (b.drop i)) := by
  have hlo := loS_le y a
  have hat := atS_le x a
  intro d
  induction d with
  | zero =>
    intro k i acc hi hk hc
    obtain ⟨k, rfl⟩ : ∃ q, k = q + 1 := ⟨k - 1, by omega⟩
    simp only [cobwebref11_Range.l0]
    rw [if_neg (by omega), List.drop_eq_nil_of_le (by omega)]
    simp [selR]
  | succ d ih =>
    intro k i acc hi hk hc
    obtain ⟨k, rfl⟩ : ∃ q, k = q + 1 := ⟨k - 1, by omega⟩
    have hlt : i < b.length := by omega
    have yes : atS x a ≤ i ∧ i ≤ loS y a → cobwebref11_Range.l0 k x y (acc ++ [rd b (i : Int)]) ((i + 1 : Nat) : Int) a b = some (acc ++ selR (atS x a) (loS y a) i (rd b (i : Int) :: b.drop (i + 1))) := fun h => by
      rw [ih k (i + 1) _ (by omega) (by omega) (by simp; omega)]
      simp only [selR]
      rw [if_pos h]
      simp
    have no : ¬ (atS x a ≤ i ∧ i ≤ loS y a) → cobwebref11_Range.l0 k x y acc ((i + 1 : Nat) : Int) a b = some (acc ++ selR (atS x a) (loS y a) i (rd b (i : Int) :: b.drop (i + 1))) := fun h => by
      rw [ih k (i + 1) _ (by omega) (by omega) (by omega)]
      simp only [selR]
      rw [if_neg h]
    simp only [cobwebref11_Range.l0]
    rw [if_pos (by omega), drop_rd hlt, w64 (x := (i : Int) + 1) (by omega) (by omega), show (i : Int) + 1 = ((i + 1 : Nat) : Int) by omega, w64 (x := (b.length : Int) - 1) (by omega) (by omega)]
    by_cases h0 : i = 0
    · rw [if_pos (by omega)]
      by_cases h1 : (i : Int) = (b.length : Int) - 1
      · rw [if_pos h1, if_pos (by omega), if_pos (by omega)]
        exact yes ⟨by omega, by omega⟩
      · rw [if_neg h1, if_pos (by omega), if_pos (by omega), order_spec _ _ hx (rd_size hs _) (by omega)]
        simp only [Option.bind_some]
        have hi2 := at_iff (s := x) h3 (j := i) (by omega)
        by_cases h4 : ordB x (rdOf ByteArray.empty a (i : Int)) < 0
        · rw [if_pos h4, if_pos (by omega)]
          exact yes ⟨hi2.1 (ord_lt.1 h4), by omega⟩
        · rw [if_neg h4]
          exact no (fun h => h4 (ord_lt.2 (hi2.2 h.1)))
    · rw [if_neg (by omega), w64 (x := (i : Int) - 1) (by omega) (by omega), if_pos (by omega), if_pos (by omega), show (i : Int) - 1 = ((i - 1 : Nat) : Int) by omega, order_spec _ _ (rd_size hs _) hy (by omega)]
      simp only [Option.bind_some]
      have hl2 := lo_iff (s := y) h3 (j := i - 1) (by omega)
      by_cases h1 : (i : Int) = (b.length : Int) - 1
      · rw [if_pos h1]
        by_cases h4 : ordB (rdOf ByteArray.empty a ((i - 1 : Nat) : Int)) y < 0
        · rw [if_pos h4, if_pos (by omega), if_pos (by omega)]
          have := hl2.1 (ord_lt.1 h4)
          exact yes ⟨by omega, by omega⟩
        · rw [if_neg h4]
          exact no (fun h => h4 (ord_lt.2 (hl2.2 (by omega))))
      · rw [if_neg h1, if_pos (by omega), if_pos (by omega), order_spec _ _ hx (rd_size hs _) (by omega)]
        simp only [Option.bind_some]
        have hi2 := at_iff (s := x) h3 (j := i) (by omega)
        by_cases h4 : ordB (rdOf ByteArray.empty a ((i - 1 : Nat) : Int)) y < 0
        · rw [if_pos h4]
          have := hl2.1 (ord_lt.1 h4)
          by_cases h5 : ordB x (rdOf ByteArray.empty a (i : Int)) < 0
          · rw [if_pos h5, if_pos (by omega)]
            exact yes ⟨hi2.1 (ord_lt.1 h5), by omega⟩
          · rw [if_neg h5]
            exact no (fun h => h5 (ord_lt.2 (hi2.2 h.1)))
        · rw [if_neg h4]
          exact no (fun h => h4 (ord_lt.2 (hl2.2 (by omega))))
theorem ref_range (a : List ByteArray) (b : List Int) (x y : ByteArray) (ha : a.length ≤ 10000) (hb : b.length ≤ 10000) (hs : ∀ s ∈ a, s.size ≤ 1000) (hx : x.size ≤ 1000) (hy : y.size ≤ 1000) {k : Nat} (hk : 300000000 ≤ k) : cobwebref11_Range.f k a b x y = some (rangeB a b x y) := by
  obtain ⟨k, rfl⟩ : ∃ q, k = q + 1 := ⟨k - 1, by omega⟩
  unfold cobwebref11_Range.f rangeB
  rw [ref_root a b ha hb hs (by omega)]
  simp only [Option.bind_some]
  by_cases h : rootB a b = true
  · rw [if_pos h, if_pos h, order_spec x y hx hy (by omega)]
    obtain ⟨h1, h2, h3⟩ := rootB_iff.1 h
    simp only [Option.bind_some]
    by_cases hxy : lessB x y = true
    · rw [if_pos hxy, decide_eq_false (show ¬ ordB x y ≥ 0 by intro h4; rw [ord_ge.1 h4] at hxy; cases hxy)]
      simp only [cobwebref11_Range.j0]
      rw [if_neg (by decide)]
      have := ref_range_from a b x y h3 h2 hb hs hx hy hxy b.length k 0 [] (by omega) (by omega) (by simp)
      rw [show ((0 : Nat) : Int) = 0 from rfl, List.drop_zero, selR_eq] at this
      rw [this]
      rfl
    · rw [if_neg hxy, decide_eq_true (ord_ge.2 (by simpa using hxy))]
      simp only [cobwebref11_Range.j0, if_true]
  · rw [if_neg h, if_neg h]
    simp only [cobwebref11_Range.j0, if_true]
theorem ref_right1 (a : List ByteArray) (b : List Int) (ls : List S28) (i : Nat) (hi : i < ls.length) (hl : ls.length ≤ 10000) (ha : a.length ≤ 10000) (h3 : riseB a = true) (hs : ∀ s ∈ a, s.size ≤ 1000) (he : ∀ s ∈ (rd_T28 ls (i : Int)).f1, s.size ≤ 1000) (hn : (rd_T28 ls (i : Int)).f1.length ≤ 10000) : ∀ (m k j : Nat) (K : Nat), j + m = (rd_T28 ls (i : Int)).f1.length → m + 20010 + K ≤ k →
    ((((rd_T28 ls (i : Int)).f1.drop j).any (fun y => (atS y a : Int) != (i : Int)) = true ∧ cobwebref11_Right.l1 k ls (i : Int) (j : Int) a b = some false) ∨ (((rd_T28 ls (i : Int)).f1.drop j).any (fun y => (atS y a : Int) != (i : Int)) = false ∧ ∃ k', K ≤ k' ∧ cobwebref11_Right.l1 k ls (i : Int) (j : Int) a b = cobwebref11_Right.l0 k' ls ((i + 1 : Nat) : Int) a b)) := by
  intro m
  induction m with
  | zero =>
    intro k j K hj hk
    obtain ⟨k, rfl⟩ : ∃ q, k = q + 1 := ⟨k - 1, by omega⟩
    simp only [cobwebref11_Right.l1]
    rw [if_pos (by omega), if_pos (by omega), if_neg (by omega), List.drop_eq_nil_of_le (by omega), w64 (by omega) (by omega)]
    exact .inr ⟨rfl, k, by omega, rfl⟩
  | succ m ih =>
    intro k j K hj hk
    obtain ⟨k, rfl⟩ : ∃ q, k = q + 1 := ⟨k - 1, by omega⟩
    simp only [cobwebref11_Right.l1]
    rw [if_pos (by omega), if_pos (by omega), if_pos (by omega), if_pos (by omega), ref_at a b _ ha hs (rd_size he _) (by omega), cntLe_rise _ h3, drop_rs (by omega), w64 (x := (j : Int) + 1) (by omega) (by omega), show (j : Int) + 1 = ((j + 1 : Nat) : Int) by omega]
    simp only [Option.bind_some, List.any_cons]
    by_cases h : (atS (rdOf ByteArray.empty (rd_T28 ls (i : Int)).f1 (j : Int)) a : Int) = (i : Int)
    · rw [if_pos h, bne_eq_false_iff_eq.mpr h, Bool.false_or]
      exact ih k (j + 1) K (by omega) (by omega)
    · rw [if_neg h, bne_iff_ne.mpr h]
      exact .inl ⟨rfl, rfl⟩
theorem ref_right0 (a : List ByteArray) (b : List Int) (ls : List S28) (hl : ls.length ≤ 10000) (hlb : ls.length ≤ b.length) (ha : a.length ≤ 10000) (h3 : riseB a = true) (hs : ∀ s ∈ a, s.size ≤ 1000) (he : ∀ x ∈ ls, x.f1.length ≤ 10000 ∧ ∀ s ∈ x.f1, s.size ≤ 1000) : ∀ (d k i : Nat), i + d = ls.length → 40000 * d + 30000 ≤ k → cobwebref11_Right.l0 k ls (i : Int) a b = some (goR a b i (ls.drop i)) := by
  intro d
  induction d with
  | zero =>
    intro k i hi hk
    obtain ⟨k, rfl⟩ : ∃ q, k = q + 1 := ⟨k - 1, by omega⟩
    simp only [cobwebref11_Right.l0]
    rw [if_neg (by omega), List.drop_eq_nil_of_le (by omega)]
    rfl
  | succ d ih =>
    intro k i hi hk
    obtain ⟨k, rfl⟩ : ∃ q, k = q + 2 := ⟨k - 2, by omega⟩
    have hlt : i < ls.length := by omega
    obtain ⟨e1, e2⟩ := he _ (mem_28 hlt)
    simp only [cobwebref11_Right.l0]
    rw [if_pos (by omega), if_pos (by omega), drop_28 hlt, ref_leaf _ _ _ e1 e2 (by omega)]
    simp only [Option.bind_some, goR]
    by_cases h1 : leafB (rd_T28 ls (i : Int)).f1 (rd_T28 ls (i : Int)).f2 = true
    · rw [if_pos h1, if_pos h1, if_pos (by omega)]
      by_cases h2 : (rd_T28 ls (i : Int)).f0 = rd b (i : Int)
      · rw [bne_eq_false_iff_eq.mpr h2, if_pos h2]
        simp only [cobwebref11_Right.j2]
        rw [if_neg (by decide)]
        obtain ⟨K, hK⟩ : ∃ K, K = 40000 * d + 30000 := ⟨_, rfl⟩
        rcases ref_right1 a b ls i hlt hl ha h3 hs e2 e1 (rd_T28 ls (i : Int)).f1.length k 0 K (by omega) (by omega) with ⟨g1, g2⟩ | ⟨g1, k', hk', g2⟩
        · rw [List.drop_zero] at g1
          rw [show (0 : Int) = ((0 : Nat) : Int) from rfl, g2, if_pos g1]
        · rw [List.drop_zero] at g1
          rw [show (0 : Int) = ((0 : Nat) : Int) from rfl, g2, if_neg (by rw [g1]; decide), ih k' (i + 1) (by omega) (by omega)]
      · rw [bne_iff_ne.mpr h2, if_neg h2]
        simp only [cobwebref11_Right.j2, if_true]
    · rw [if_neg h1, if_neg h1]
      simp only [cobwebref11_Right.j2, if_true]
theorem ref_right (a : List ByteArray) (b : List Int) (ls : List S28) (hl : ls.length ≤ 1000) (ha : a.length ≤ 10000) (hb : b.length ≤ 10000) (hs : ∀ s ∈ a, s.size ≤ 1000) (he : ∀ x ∈ ls, x.f1.length ≤ 10000 ∧ ∀ s ∈ x.f1, s.size ≤ 1000) {k : Nat} (hk : 300000000 ≤ k) : cobwebref11_Right.f k a b ls = some (rightB a b ls) := by
  obtain ⟨k, rfl⟩ : ∃ q, k = q + 1 := ⟨k - 1, by omega⟩
  unfold cobwebref11_Right.f rightB
  rw [ref_root a b ha hb hs (by omega)]
  simp only [Option.bind_some]
  by_cases h : rootB a b = true
  · rw [if_pos h, if_pos h]
    obtain ⟨h1, h2, h3⟩ := rootB_iff.1 h
    by_cases h4 : ls.length = b.length
    · rw [if_pos h4, bne_eq_false_iff_eq.mpr (show (ls.length : Int) = (b.length : Int) by omega)]
      simp only [cobwebref11_Right.j0]
      rw [if_neg (by decide)]
      exact ref_right0 a b ls (by omega) (by omega) ha h3 hs he ls.length k 0 (by omega) (by omega)
    · rw [if_neg h4, bne_iff_ne.mpr (show (ls.length : Int) ≠ (b.length : Int) by omega)]
      simp only [cobwebref11_Right.j0, if_true]
  · rw [if_neg h, if_neg h]
    simp only [cobwebref11_Right.j0, if_true]
theorem awake_true : ∀ k, 50 ≤ k → cobweblaw11_awake.f k = some true := by
  have h : cobweblaw11_awake.f 50 = some true := by decide +kernel
  intro k hk
  have hm : ∀ d, cobweblaw11_awake.f (50 + d) = some true := by
    intro d
    induction d with
    | zero => exact h
    | succ d ih => exact cobweblaw11_awake.mono (50 + d) _ ih
  have := hm (k - 50)
  rwa [show 50 + (k - 50) = k by omega] at this
theorem texts_from (l : List ByteArray) (hl : l.length ≤ 30) : ∀ (d k i : Nat), i + d = l.length → d < k → ∃ b, cobweblaw11_texts.l0 k l (i : Int) = some b ∧ (b = true → ∀ s ∈ l.drop i, s.size ≤ 700) := by
  intro d
  induction d with
  | zero =>
    intro k i hi hk
    obtain ⟨k, rfl⟩ : ∃ q, k = q + 1 := ⟨k - 1, by omega⟩
    simp only [cobweblaw11_texts.l0]
    rw [if_neg (by omega), List.drop_eq_nil_of_le (by omega)]
    exact ⟨true, rfl, fun _ c hc => by simp at hc⟩
  | succ d ih =>
    intro k i hi hk
    obtain ⟨k, rfl⟩ : ∃ q, k = q + 1 := ⟨k - 1, by omega⟩
    simp only [cobweblaw11_texts.l0]
    rw [if_pos (by omega), if_pos (by omega), w64 (by omega) (by omega), show (i : Int) + 1 = ((i + 1 : Nat) : Int) by omega, drop_rs (by omega)]
    by_cases h : ((rdOf ByteArray.empty l (i : Int)).size : Int) > 700
    · rw [if_pos h]
      exact ⟨false, rfl, fun e => by cases e⟩
    · rw [if_neg h]
      obtain ⟨b, h1, h2⟩ := ih k (i + 1) (by omega) (by omega)
      refine ⟨b, h1, fun e c hc => ?_⟩
      rcases List.mem_cons.1 hc with rfl | hc
      · omega
      · exact h2 e c hc
theorem texts_spec (l : List ByteArray) {k : Nat} (hk : 50 ≤ k) : ∃ b, cobweblaw11_texts.f k l = some b ∧ (b = true → l.length ≤ 30 ∧ ∀ s ∈ l, s.size ≤ 700) := by
  unfold cobweblaw11_texts.f
  by_cases h : (l.length : Int) > 30
  · rw [if_pos h]
    exact ⟨false, rfl, fun e => by cases e⟩
  · rw [if_neg h]
    obtain ⟨b, h1, h2⟩ := texts_from l (by omega) l.length k 0 (by omega) (by omega)
    exact ⟨b, h1, fun e => ⟨by omega, by simpa using h2 e⟩⟩
theorem small_from (l : List S28) (hl : l.length ≤ 40) : ∀ (d k i : Nat), i + d = l.length → d + 60 ≤ k → ∃ b, cobweblaw11_small.l0 k l (i : Int) = some b ∧ (b = true → ∀ x ∈ l.drop i, x.f1.length ≤ 30 ∧ ∀ s ∈ x.f1, s.size ≤ 700) := by
  intro d
  induction d with
  | zero =>
    intro k i hi hk
    obtain ⟨k, rfl⟩ : ∃ q, k = q + 1 := ⟨k - 1, by omega⟩
    simp only [cobweblaw11_small.l0]
    rw [if_neg (by omega), List.drop_eq_nil_of_le (by omega)]
    exact ⟨true, rfl, fun _ c hc => by simp at hc⟩
  | succ d ih =>
    intro k i hi hk
    obtain ⟨k, rfl⟩ : ∃ q, k = q + 1 := ⟨k - 1, by omega⟩
    simp only [cobweblaw11_small.l0]
    obtain ⟨t, ht, hs⟩ := texts_spec (rd_T28 l (i : Int)).f1 (k := k) (by omega)
    rw [if_pos (by omega), if_pos (by omega), w64 (by omega) (by omega), show (i : Int) + 1 = ((i + 1 : Nat) : Int) by omega, drop_28 (by omega), ht]
    simp only [Option.bind_some]
    cases t with
    | false => exact ⟨false, by rw [if_neg (by decide)], fun e => by cases e⟩
    | true =>
      rw [if_pos rfl]
      obtain ⟨b, h1, h2⟩ := ih k (i + 1) (by omega) (by omega)
      refine ⟨b, h1, fun e c hc => ?_⟩
      rcases List.mem_cons.1 hc with rfl | hc
      · exact hs rfl
      · exact h2 e c hc
structure SmallL (a : List ByteArray) (b : List Int) (ls : List S28) : Prop where
  na : a.length ≤ 30
  sa : ∀ s ∈ a, s.size ≤ 700
  nb : b.length ≤ 40
  nl : ls.length ≤ 40
  sl : ∀ x ∈ ls, x.f1.length ≤ 30 ∧ ∀ s ∈ x.f1, s.size ≤ 700
theorem small_spec (a : List ByteArray) (b : List Int) (ls : List S28) {k : Nat} (hk : 200 ≤ k) : ∃ r, cobweblaw11_small.f k a b ls = some r ∧ (r = true → SmallL a b ls) := by
  obtain ⟨k, rfl⟩ : ∃ q, k = q + 1 := ⟨k - 1, by omega⟩
  unfold cobweblaw11_small.f
  obtain ⟨t, ht, hs⟩ := texts_spec a (k := k + 1) (by omega)
  rw [ht]
  simp only [Option.bind_some]
  cases t with
  | false => exact ⟨false, by rw [if_neg (by decide)]; simp only [cobweblaw11_small.j0, if_true], fun e => by cases e⟩
  | true =>
    rw [if_pos rfl]
    by_cases h1 : (b.length : Int) > 40
    · rw [if_pos h1]
      exact ⟨false, by simp only [cobweblaw11_small.j0, if_true], fun e => by cases e⟩
    · rw [if_neg h1]
      by_cases h2 : (ls.length : Int) > 40
      · rw [decide_eq_true h2]
        exact ⟨false, by simp only [cobweblaw11_small.j0, if_true], fun e => by cases e⟩
      · rw [decide_eq_false h2]
        simp only [cobweblaw11_small.j0]
        rw [if_neg (by decide)]
        obtain ⟨r, h3, h4⟩ := small_from ls (by omega) ls.length k 0 (by omega) (by omega)
        exact ⟨r, h3, fun e => ⟨(hs rfl).1, (hs rfl).2, by omega, by omega, by simpa using h4 e⟩⟩
end Go.Proofs.Ytneagipmllgejaa.PL
end
section
set_option linter.unusedVariables false
set_option linter.unusedSimpArgs false
namespace Go.Proofs.Ytneagipmllgejaa.PL
open Go.RowKit Go.Proofs.YtneagipmllgejaaW.PrintWords Go.Proofs.YtneagipmllgejaaW.PrintLast
theorem finds_loop (a : List ByteArray) (b : List Int) (ls : List S28) (x y : ByteArray) (H : SmallL a b ls) (hx : x.size ≤ 1000) (l : List Int) (hl : l.length ≤ 10000) : ∀ (d k i : Nat), i + d = l.length → d + 300000001 ≤ k → cobweblaw11_LeafFinds.l0 k x l l (i : Int) a b ls = some true := by
  have hna := H.na
  have hnb := H.nb
  have hnl := H.nl
  have hsa : ∀ s ∈ a, s.size ≤ 1000 := fun s hs => by have := H.sa s hs; omega
  have hsl : ∀ x ∈ ls, x.f1.length ≤ 10000 ∧ ∀ s ∈ x.f1, s.size ≤ 1000 := fun x hx => by
    obtain ⟨h1, h2⟩ := H.sl x hx
    exact ⟨by omega, fun s hs => by have := h2 s hs; omega⟩
  intro d
  induction d with
  | zero =>
    intro k i hi hk
    obtain ⟨k, rfl⟩ : ∃ q, k = q + 1 := ⟨k - 1, by omega⟩
    have e1 : leaf_Right.f a b ls = some (rightB a b ls) := by
      unfold leaf_Right.f
      rw [if_pos ⟨by omega, by omega, fun x hx => by have := (hsl x hx).1; omega⟩]
    have e2 := ref_right a b ls (by omega) (by omega) (by omega) hsa hsl (k := k) (by omega)
    have e3 := find_spec a b x (by omega) (by omega) (k := k) (by omega)
    have e4 := ref_find a b x (by omega) (by omega) hsa hx (k := k) (by omega)
    simp only [cobweblaw11_LeafFinds.l0]
    rw [if_neg (by omega), e1, e2, e3, e4]
    simp
  | succ d ih =>
    intro k i hi hk
    obtain ⟨k, rfl⟩ : ∃ q, k = q + 1 := ⟨k - 1, by omega⟩
    simp only [cobweblaw11_LeafFinds.l0]
    rw [if_pos (by omega), if_pos (by omega), if_pos (by omega), if_pos trivial, w64 (by omega) (by omega), show (i : Int) + 1 = ((i + 1 : Nat) : Int) by omega]
    exact ih k (i + 1) (by omega) (by omega)
theorem finds_out (a : List ByteArray) (b : List Int) (ls : List S28) (x y : ByteArray) {k : Nat} (hk : 50 ≤ k) : cobweblaw11_LeafFinds.j0 (k + 1) x y true a b ls = some true := by
  have e := awake_true k hk
  simp only [cobweblaw11_LeafFinds.j0, if_true, e, Option.bind_some]
theorem range_len (a : List ByteArray) (b : List Int) (x y : ByteArray) (hb : b.length ≤ 10000) : (rangeB a b x y).length ≤ 10000 := by
  unfold rangeB
  split
  · split
    · rw [List.length_drop, List.length_take]; omega
    · simp
  · simp
theorem finds_in (a : List ByteArray) (b : List Int) (ls : List S28) (x y : ByteArray) (H : SmallL a b ls) (hx : x.size ≤ 1000) (hy : y.size ≤ 1000) {k : Nat} (hk : 300010001 ≤ k) : cobweblaw11_LeafFinds.j0 (k + 1 + 1 + 1) x y false a b ls = some true := by
  have hna := H.na
  have hnb := H.nb
  have hsa : ∀ s ∈ a, s.size ≤ 1000 := fun s hs => by have := H.sa s hs; omega
  have e1 := range_spec a b x y (by omega) (by omega) (k := k) (by omega)
  have e2 := ref_range a b x y (by omega) (by omega) hsa hx hy (k := k + 1 + 1) (by omega)
  have hlen := range_len a b x y (by omega)
  have e3 := finds_loop a b ls x y H hx (rangeB a b x y) hlen (rangeB a b x y).length (k + 1 + 1) 0 (by omega) (by omega)
  rw [show ((0 : Nat) : Int) = 0 from rfl] at e3
  clear hk hna hnb hlen
  simp only [cobweblaw11_LeafFinds.j0, Bool.false_eq_true, if_false, e1, e2, Option.bind_some, if_true, e3]
theorem finds_k (a : List ByteArray) (b : List Int) (ls : List S28) (x y : ByteArray) {k : Nat} (hk : 300010001 ≤ k) : cobweblaw11_LeafFinds.f (k + 1 + 1 + 1) a b ls x y = some true := by
  have e := awake_true (k + 1 + 1 + 1) (by omega)
  obtain ⟨r, hr, hs⟩ := small_spec a b ls (k := k + 1 + 1 + 1) (by omega)
  have out := finds_out a b ls x y (k := k + 1 + 1) (by omega)
  cases r with
  | false => simp only [cobweblaw11_LeafFinds.f, e, hr, Option.bind_some, if_true, Bool.false_eq_true, if_false, out]
  | true =>
    by_cases h1 : (x.size : Int) > 700
    · simp only [cobweblaw11_LeafFinds.f, e, hr, Option.bind_some, if_true, if_pos h1, out]
    · by_cases h2 : (y.size : Int) > 700
      · have h3 := decide_eq_true h2
        simp only [cobweblaw11_LeafFinds.f, e, hr, Option.bind_some, if_true, if_neg h1, h3, out]
      · have h3 := decide_eq_false h2
        have h4 := finds_in a b ls x y (hs rfl) (by omega) (by omega) hk
        simp only [cobweblaw11_LeafFinds.f, e, hr, Option.bind_some, if_true, if_neg h1, h3, h4]
theorem finds_plain (a : List ByteArray) (b : List Int) (ls : List S28) (x y : ByteArray) : ∃ k, cobweblaw11_LeafFinds.f k a b ls x y = some true :=
  ⟨300010001 + 1 + 1 + 1, finds_k a b ls x y (Nat.le_refl _)⟩
end Go.Proofs.Ytneagipmllgejaa.PL
end
section
namespace Go.Proofs.Ytneagipmllgejaa
theorem leafFinds_holds : Rows.LeafFindsSaid := leafFinds.over (fun a b ls x y => PL.finds_plain a b ls x y)
end Go.Proofs.Ytneagipmllgejaa
end
#print axioms Go.Proofs.Ytneagipmllgejaa.leafFinds_holds
