/- A part of the proof: lemmas that the row uses, laid together by a program of this session's (pack.py) out of its texts and of what the kit's printer wrote for this seat. -/
import Derived.Lib.Strings
import Derived.Deep.RegionWith
import Derived.Test.YtneagipmllgejaaKH0
import Derived.Test.YtneagipmllgejaaKH1
import Derived.Test.YtneagipmllgejaaKH2
import Derived.Test.YtneagipmllgejaaKH3
import Derived.Test.YtneagipmllgejaaKH4
import Derived.Test.YtneagipmllgejaaKH5
import Derived.Test.YtneagipmllgejaaKH6
section
set_option linter.unusedVariables false
set_option linter.unusedSimpArgs false
namespace Go.Proofs.Ytneagipmllgejaa.PL
open Go.RowKit Go.Proofs.YtneagipmllgejaaW.PrintWords Go.Proofs.YtneagipmllgejaaW.PrintLast
theorem toList_len (s : ByteArray) : s.toList.length = s.size := by rw [Go.Lib.toList_data, Array.length_toList]; rfl
theorem text_eq {a b : ByteArray} (h : a.toList = b.toList) : a = b := by
  rw [Go.Lib.toList_data, Go.Lib.toList_data] at h
  cases a; cases b
  simp only [ByteArray.mk.injEq]
  exact Array.toList_inj.1 h
def byt (s : ByteArray) (i : Nat) : UInt8 := s.toList.getD i 0
theorem bt_byt {s : ByteArray} {i : Nat} (h : i < s.size) : bt s (i : Int) = ((byt s i).toNat : Int) := by
  unfold bt byt
  have h' : (i : Int).toNat < s.size := by omega
  rw [dif_pos h']
  congr 2
  rw [Go.Lib.toList_data]
  have h2 : i < s.data.toList.length := by rw [Array.length_toList]; exact h
  rw [List.getD_eq_getElem?_getD, List.getElem?_eq_getElem h2]
  rfl
theorem drop_byt {s : ByteArray} {i : Nat} (h : i < s.size) : s.toList.drop i = byt s i :: s.toList.drop (i + 1) := by
  have h2 : i < s.toList.length := by rw [toList_len]; exact h
  rw [List.drop_eq_getElem_cons h2]
  congr 1
  simp [byt, List.getD_eq_getElem?_getD, List.getElem?_eq_getElem h2]
def ordL : List UInt8 → List UInt8 → Int
  | [], [] => 0
  | [], _ :: _ => -1
  | _ :: _, [] => 1
  | x :: a, y :: b => if x = y then ordL a b else if x < y then -1 else 1
theorem ordL_lt : ∀ {a b : List UInt8}, ordL a b < 0 ↔ Op.bytesLess a b = true
  | [], [] => by simp [ordL, Op.bytesLess]
  | [], y :: b => by simp [ordL, Op.bytesLess]
  | x :: a, [] => by simp [ordL, Op.bytesLess]
  | x :: a, y :: b => by
    simp only [ordL, Op.bytesLess, Bool.or_eq_true, Bool.and_eq_true, decide_eq_true_eq, beq_iff_eq]
    by_cases h : x = y
    · subst h
      rw [if_pos rfl, ordL_lt]
      simp
    · rw [if_neg h]
      by_cases h2 : x < y
      · rw [if_pos h2]; simp [h2]
      · rw [if_neg h2]; simp [h2, h]
theorem ordL_gt : ∀ {a b : List UInt8}, 0 < ordL a b ↔ Op.bytesLess b a = true
  | [], [] => by simp [ordL, Op.bytesLess]
  | [], y :: b => by simp [ordL, Op.bytesLess]
  | x :: a, [] => by simp [ordL, Op.bytesLess]
  | x :: a, y :: b => by
    simp only [ordL, Op.bytesLess, Bool.or_eq_true, Bool.and_eq_true, decide_eq_true_eq, beq_iff_eq]
    by_cases h : x = y
    · subst h
      rw [if_pos rfl, ordL_gt]
      simp
    · rw [if_neg h]
      have hyx : ¬ y = x := fun e => h e.symm
      by_cases h2 : x < y
      · rw [if_pos h2]
        have h3 : ¬ y < x := fun h4 => absurd (UInt8.lt_trans h2 h4) (UInt8.lt_irrefl _)
        simp [h3, hyx]
      · rw [if_neg h2]
        have h3 : y < x := by
          rcases UInt8.lt_or_eq_of_le (UInt8.not_lt.1 h2) with h4 | h4
          · exact h4
          · exact absurd h4 hyx
        simp [h3]
def ordB (a b : ByteArray) : Int := ordL a.toList b.toList
theorem order_from (x y : ByteArray) (hx : x.size ≤ 1000000) (hy : y.size ≤ 1000000) : ∀ (d k i : Nat), i + d = x.size → 2 * d + 2 ≤ k → cobwebref02_Order.l0 k x y (i : Int) = some (ordL (x.toList.drop i) (y.toList.drop i)) ∨ y.size < i := by
  intro d
  induction d with
  | zero =>
    intro k i hi hk
    obtain ⟨k, rfl⟩ : ∃ q, k = q + 2 := ⟨k - 2, by omega⟩
    by_cases hy2 : y.size < i
    · exact .inr hy2
    left
    simp only [cobwebref02_Order.l0, cobwebref02_Order.j1]
    rw [if_neg (by omega), if_neg (by decide)]
    have h1 : x.toList.drop i = [] := List.drop_eq_nil_of_le (by rw [toList_len]; omega)
    rw [h1]
    by_cases he : (x.size : Int) = (y.size : Int)
    · rw [if_pos he]
      have h2 : y.toList.drop i = [] := List.drop_eq_nil_of_le (by rw [toList_len]; omega)
      rw [h2]; rfl
    · rw [if_neg he, decide_eq_true (show (x.size : Int) < (y.size : Int) by omega), drop_byt (s := y) (i := i) (by omega)]
      rfl
  | succ d ih =>
    intro k i hi hk
    obtain ⟨k, rfl⟩ : ∃ q, k = q + 2 := ⟨k - 2, by omega⟩
    by_cases hy2 : y.size < i
    · exact .inr hy2
    left
    simp only [cobwebref02_Order.l0, cobwebref02_Order.j1]
    rw [if_pos (by omega), drop_byt (s := x) (i := i) (by omega)]
    by_cases hyi : i < y.size
    · rw [decide_eq_true (show (i : Int) < (y.size : Int) by omega), if_pos rfl, if_pos (by omega), if_pos (by omega), if_pos (by omega), drop_byt (s := y) (i := i) hyi, bt_byt (by omega), bt_byt hyi, w64 (x := (i : Int) + 1) (by omega) (by omega), show (i : Int) + 1 = ((i + 1 : Nat) : Int) by omega]
      simp only [ordL]
      by_cases he : byt x i = byt y i
      · rw [if_pos (by rw [he]), if_pos he]
        rcases ih k (i + 1) (by omega) (by omega) with h | h
        · exact h
        · omega
      · have hne : ¬ ((byt x i).toNat : Int) = ((byt y i).toNat : Int) := fun e => he (UInt8.toNat_inj.1 (by omega))
        rw [if_neg hne, if_neg he]
        by_cases hl : byt x i < byt y i
        · rw [if_pos hl, decide_eq_true (show ((byt x i).toNat : Int) < ((byt y i).toNat : Int) by have := UInt8.lt_iff_toNat_lt.1 hl; omega)]
          rfl
        · rw [if_neg hl, decide_eq_false (show ¬ ((byt x i).toNat : Int) < ((byt y i).toNat : Int) by intro h; exact hl (UInt8.lt_iff_toNat_lt.2 (by omega)))]
          rfl
    · rw [decide_eq_false (show ¬ (i : Int) < (y.size : Int) by omega), if_neg (by decide), if_neg (by omega), decide_eq_false (show ¬ (x.size : Int) < (y.size : Int) by omega)]
      have h2 : y.toList.drop i = [] := List.drop_eq_nil_of_le (by rw [toList_len]; omega)
      rw [h2]
      rfl
theorem order_spec (x y : ByteArray) (hx : x.size ≤ 1000) (hy : y.size ≤ 1000) {k : Nat} (hk : 2002 ≤ k) : cobwebref02_Order.f k x y = some (ordB x y) := by
  rcases order_from x y (by omega) (by omega) x.size k 0 (by omega) (by omega) with h | h
  · simpa [cobwebref02_Order.f, ordB] using h
  · omega
theorem ord_ge {a b : ByteArray} : ordB a b ≥ 0 ↔ lessB a b = false := by
  have := @ordL_lt a.toList b.toList
  unfold ordB lessB
  cases h : Op.bytesLess a.toList b.toList with
  | true => have := this.2 h; simp; omega
  | false => simp; exact Int.not_lt.1 (fun h2 => by rw [this.1 h2] at h; cases h)
theorem ord_le {a b : ByteArray} : ordB a b ≤ 0 ↔ lessB b a = false := by
  have := @ordL_gt a.toList b.toList
  unfold ordB lessB
  cases h : Op.bytesLess b.toList a.toList with
  | true => have := this.2 h; simp; omega
  | false => simp; exact Int.not_lt.1 (fun h2 => by rw [this.1 h2] at h; cases h)
theorem ord_lt {a b : ByteArray} : ordB a b < 0 ↔ lessB a b = true := ordL_lt
theorem rd_size {l : List ByteArray} (h : ∀ s ∈ l, s.size ≤ 1000) (i : Int) : (rdOf ByteArray.empty l i).size ≤ 1000 := by
  unfold rdOf
  rw [List.getD_eq_getElem?_getD]
  cases h2 : l[i.toNat]? with
  | none => simp
  | some c => exact h c (List.mem_of_getElem? h2)
theorem ref_rise_from (l : List ByteArray) (hl : l.length ≤ 100000) (hs : ∀ s ∈ l, s.size ≤ 1000) : ∀ (d k i : Nat), 1 ≤ i → i + d = l.length → d + 2010 ≤ k → cobwebref11_Rise.l0 k l (i : Int) = some (riseB (l.drop (i - 1))) := by
  intro d
  induction d with
  | zero =>
    intro k i h1 hi hk
    obtain ⟨k, rfl⟩ : ∃ m, k = m + 1 := ⟨k - 1, by omega⟩
    simp only [cobwebref11_Rise.l0]
    rw [if_neg (by omega), drop_rs (j := i - 1) (by omega), List.drop_eq_nil_of_le (by omega)]
    rfl
  | succ d ih =>
    intro k i h1 hi hk
    obtain ⟨k, rfl⟩ : ∃ m, k = m + 1 := ⟨k - 1, by omega⟩
    simp only [cobwebref11_Rise.l0]
    rw [if_pos (by omega), w64 (x := (i : Int) - 1) (by omega) (by omega), if_pos (by omega), if_pos (by omega), if_pos (by omega),
      order_spec _ _ (rd_size hs _) (rd_size hs _) (by omega), show (i : Int) - 1 = ((i - 1 : Nat) : Int) by omega, w64 (x := (i : Int) + 1) (by omega) (by omega), show (i : Int) + 1 = ((i + 1 : Nat) : Int) by omega,
      ih k (i + 1) (by omega) (by omega) (by omega), drop_rs (j := i - 1) (by omega), show i - 1 + 1 = i by omega, show i + 1 - 1 = i by omega, drop_rs (j := i) (by omega)]
    simp only [Option.bind_some, riseB]
    show (if ordB _ _ ≥ 0 then some false else _) = some (if lessB _ _ = true then _ else _)
    by_cases h : ordB (rdOf ByteArray.empty l ((i - 1 : Nat) : Int)) (rdOf ByteArray.empty l (i : Int)) ≥ 0
    · rw [if_pos h, if_neg (by rw [ord_ge.1 h]; decide)]
    · rw [if_neg h, if_pos (ord_lt.1 (by omega))]
theorem ref_rise (l : List ByteArray) (hl : l.length ≤ 100000) (hs : ∀ s ∈ l, s.size ≤ 1000) {k : Nat} (hk : l.length + 2020 ≤ k) : cobwebref11_Rise.f k l = some (riseB l) := by
  unfold cobwebref11_Rise.f
  by_cases h : l.length = 0
  · obtain rfl := List.eq_nil_of_length_eq_zero h
    obtain ⟨k, rfl⟩ : ∃ m, k = m + 1 := ⟨k - 1, by omega⟩
    simp only [cobwebref11_Rise.l0]
    rfl
  · have := ref_rise_from l hl hs (l.length - 1) k 1 (by omega) (by omega) (by omega)
    simpa using this
theorem ref_root1 (a : List ByteArray) (b : List Int) (i : Nat) (hi : i < b.length) (hl : b.length ≤ 100000) : ∀ (m k j : Nat) (K : Nat), j + m = i → m + 1 + K ≤ k →
    ((((b.take i).drop j).contains (rd b (i : Int)) = true ∧ cobwebref11_Root.l1 k (i : Int) (j : Int) a b = some false) ∨ (((b.take i).drop j).contains (rd b (i : Int)) = false ∧ ∃ k', K ≤ k' ∧ cobwebref11_Root.l1 k (i : Int) (j : Int) a b = cobwebref11_Root.l0 k' ((i + 1 : Nat) : Int) a b)) := by
  intro m
  induction m with
  | zero =>
    intro k j K hj hk
    obtain ⟨k, rfl⟩ : ∃ q, k = q + 1 := ⟨k - 1, by omega⟩
    simp only [cobwebref11_Root.l1]
    rw [if_neg (by omega), List.drop_eq_nil_of_le (by simp; omega), w64 (by omega) (by omega)]
    exact .inr ⟨rfl, k, by omega, rfl⟩
  | succ m ih =>
    intro k j K hj hk
    obtain ⟨k, rfl⟩ : ∃ q, k = q + 1 := ⟨k - 1, by omega⟩
    have hd : (b.take i).drop j = rd b (j : Int) :: (b.take i).drop (j + 1) := by
      rw [drop_rd (l := b.take i) (j := j) (by simp; omega)]
      congr 1
      simp [rd, List.getD_eq_getElem?_getD, List.getElem?_take, show j < i by omega]
    simp only [cobwebref11_Root.l1]
    rw [if_pos (by omega), if_pos (by omega), if_pos (by omega), if_pos (by omega), if_pos (by omega), hd, w64 (x := (j : Int) + 1) (by omega) (by omega), show (j : Int) + 1 = ((j + 1 : Nat) : Int) by omega]
    by_cases h : rd b (j : Int) = rd b (i : Int)
    · rw [if_pos h]
      exact .inl ⟨by simp [h], rfl⟩
    · rw [if_neg h]
      have h' : ¬ rd b (i : Int) = rd b (j : Int) := fun e => h e.symm
      rcases ih k (j + 1) K (by omega) (by omega) with ⟨h1, h2⟩ | ⟨h1, h2⟩
      · exact .inl ⟨by rw [List.contains_cons, h1]; simp, h2⟩
      · exact .inr ⟨by rw [List.contains_cons, h1]; simpa using h', h2⟩
theorem ref_root0 (a : List ByteArray) (b : List Int) (hl : b.length ≤ 10000) : ∀ (d k i : Nat) (seen : List Int), (∀ x, seen.contains x = (b.take i).contains x) → i + d = b.length → 20000 * d + 10 ≤ k → cobwebref11_Root.l0 k (i : Int) a b = some (seenGo seen (b.drop i)) := by
  intro d
  induction d with
  | zero =>
    intro k i seen hs hi hk
    obtain ⟨k, rfl⟩ : ∃ q, k = q + 1 := ⟨k - 1, by omega⟩
    simp only [cobwebref11_Root.l0]
    rw [if_neg (by omega), List.drop_eq_nil_of_le (by omega)]
    rfl
  | succ d ih =>
    intro k i seen hs hi hk
    obtain ⟨k, rfl⟩ : ∃ q, k = q + 1 := ⟨k - 1, by omega⟩
    have hlt : i < b.length := by omega
    simp only [cobwebref11_Root.l0]
    rw [if_pos (by omega), if_pos (by omega), drop_rd hlt]
    simp only [seenGo]
    by_cases h1 : rd b (i : Int) < 1
    · rw [if_pos h1, decide_eq_true h1]
      rfl
    · rw [if_neg h1, decide_eq_false h1, hs]
      obtain ⟨K, hK⟩ : ∃ K, K = 20000 * d + 10 := ⟨_, rfl⟩
      rcases ref_root1 a b i hlt (by omega) i k 0 K (by omega) (by omega) with ⟨h2, h3⟩ | ⟨h2, k', hk', h3⟩
      · rw [List.drop_zero] at h2
        rw [show (0 : Int) = ((0 : Nat) : Int) from rfl, h3, h2]
        rfl
      · rw [List.drop_zero] at h2
        rw [show (0 : Int) = ((0 : Nat) : Int) from rfl, h3, h2, ih k' (i + 1) (rd b (i : Int) :: seen) (fun x => ?_) (by omega) (by omega)]
        · rfl
        · rw [List.contains_cons, hs x, List.take_succ_eq_append_getElem hlt]
          have e : rd b (i : Int) = b[i] := by simp [rd, List.getD_eq_getElem?_getD, List.getElem?_eq_getElem hlt]
          rw [e, Bool.eq_iff_iff]
          generalize b.take i = t
          generalize b[i] = y
          simp [or_comm]
theorem ref_root (a : List ByteArray) (b : List Int) (ha : a.length ≤ 10000) (hb : b.length ≤ 10000) (hs : ∀ s ∈ a, s.size ≤ 1000) {k : Nat} (hk : 200000100 ≤ k) : cobwebref11_Root.f k a b = some (rootB a b) := by
  obtain ⟨k, rfl⟩ : ∃ q, k = q + 1 := ⟨k - 1, by omega⟩
  unfold cobwebref11_Root.f rootB
  rw [w64 (x := (a.length : Int) + 1) (by omega) (by omega)]
  by_cases h : b.length = a.length + 1
  · rw [if_pos (by omega), ref_rise a (by omega) hs (by omega)]
    simp only [Option.bind_some, if_pos h]
    have h0 := ref_root0 a b hb b.length k 0 [] (fun x => by simp) (by omega) (by omega)
    rw [show ((0 : Nat) : Int) = 0 from rfl, List.drop_zero] at h0
    cases hr : riseB a with
    | true =>
      simp only [cobwebref11_Root.j0, Bool.not_true]
      rw [if_neg (by decide), h0]
      cases seenGo [] b <;> rfl
    | false =>
      simp only [cobwebref11_Root.j0, Bool.not_false, if_true]
      cases seenGo [] b <;> rfl
  · rw [if_neg (by omega)]
    simp only [cobwebref11_Root.j0, if_true, if_neg h]
    cases seenGo [] b <;> rfl
/-- How many of a list aren't above a text. -/
def cntLe (s : ByteArray) (l : List ByteArray) : Nat := l.countP (fun y => !lessB s y)
theorem ref_at_from (a : List ByteArray) (b : List Int) (s : ByteArray) (hl : a.length ≤ 100000) (hs : ∀ s ∈ a, s.size ≤ 1000) (hs2 : s.size ≤ 1000) : ∀ (d k i n : Nat), i + d = a.length → d + 2010 ≤ k → n ≤ i → cobwebref11_At.l0 k s (n : Int) (i : Int) a b = some ((n + cntLe s (a.drop i) : Nat) : Int) := by
  intro d
  induction d with
  | zero =>
    intro k i n hi hk hn
    obtain ⟨k, rfl⟩ : ∃ q, k = q + 1 := ⟨k - 1, by omega⟩
    simp only [cobwebref11_At.l0]
    rw [if_neg (by omega), List.drop_eq_nil_of_le (by omega)]
    simp [cntLe]
  | succ d ih =>
    intro k i n hi hk hn
    obtain ⟨k, rfl⟩ : ∃ q, k = q + 1 := ⟨k - 1, by omega⟩
    simp only [cobwebref11_At.l0]
    rw [if_pos (by omega), if_pos (by omega), order_spec _ _ (rd_size hs _) hs2 (by omega), w64 (x := (i : Int) + 1) (by omega) (by omega), w64 (x := (n : Int) + 1) (by omega) (by omega), show (i : Int) + 1 = ((i + 1 : Nat) : Int) by omega, show (n : Int) + 1 = ((n + 1 : Nat) : Int) by omega, drop_rs (by omega)]
    simp only [Option.bind_some]
    by_cases h : ordB (rdOf ByteArray.empty a (i : Int)) s ≤ 0
    · rw [if_pos h, ih k (i + 1) (n + 1) (by omega) (by omega) (by omega)]
      have := ord_le.1 h
      unfold cntLe
      rw [List.countP_cons, this]
      simp only [Bool.not_false, if_true]
      congr 2
      omega
    · rw [if_neg h, ih k (i + 1) n (by omega) (by omega) (by omega)]
      have h2 : lessB s (rdOf ByteArray.empty a (i : Int)) = true := by
        cases h3 : lessB s (rdOf ByteArray.empty a (i : Int)) with
        | true => rfl
        | false => exact absurd (ord_le.2 h3) h
      unfold cntLe
      rw [List.countP_cons, h2]
      simp
theorem ref_at (a : List ByteArray) (b : List Int) (s : ByteArray) (hl : a.length ≤ 10000) (hs : ∀ s ∈ a, s.size ≤ 1000) (hs2 : s.size ≤ 1000) {k : Nat} (hk : 20000 ≤ k) : cobwebref11_At.f k a b s = some (cntLe s a : Int) := by
  have := ref_at_from a b s (by omega) hs hs2 a.length k 0 0 (by omega) (by omega) (by omega)
  simpa [cobwebref11_At.f] using this
theorem cntLe_rise (s : ByteArray) : ∀ {l : List ByteArray}, riseB l = true → cntLe s l = atS s l
  | [], _ => rfl
  | y :: l, h => by
    have ih := cntLe_rise s (riseB_tail h)
    have hp := List.pairwise_cons.1 (riseB_pairwise.1 h)
    unfold cntLe at ih ⊢
    rw [List.countP_cons]
    by_cases h1 : lessB y s = true
    · have h2 := less_asymm h1
      rw [h2, ih]
      simp only [Bool.not_false, if_true]
      have e1 : loS s (y :: l) = loS s l + 1 := by simp [loS, h1]
      have e2 : fndS s (y :: l) = fndS s l := by unfold fndS; rw [e1]; rfl
      unfold atS
      rw [e1, e2]
      split <;> rfl
    · have h1' : lessB y s = false := by simpa using h1
      have e1 : loS s (y :: l) = 0 := by simp [loS, h1']
      by_cases h2 : lessB s y = true
      · have h3 : l.countP (fun y => !lessB s y) = 0 := by
          rw [List.countP_eq_zero]
          intro z hz
          have := less_trans h2 (hp.1 z hz)
          simp [this]
        rw [h3, h2]
        have e2 : fndS s (y :: l) = false := by
          unfold fndS
          rw [e1]
          show decide (y.toList = s.toList) = false
          apply decide_eq_false
          intro e
          have : lessB s y = false := by unfold lessB; rw [e]; exact bl_irrefl _
          rw [h2] at this; cases this
        unfold atS
        rw [e2, e1]
        rfl
      · have h2' : lessB s y = false := by simpa using h2
        have e : y.toList = s.toList := bl_tri h1' h2'
        have h3 : l.countP (fun y => !lessB s y) = 0 := by
          rw [List.countP_eq_zero]
          intro z hz
          have := hp.1 z hz
          have h4 : lessB s z = true := by unfold lessB at this ⊢; rw [← e]; exact this
          simp [h4]
        rw [h3, h2']
        have e2 : fndS s (y :: l) = true := by
          unfold fndS
          rw [e1]
          show decide (y.toList = s.toList) = true
          exact decide_eq_true e
        unfold atS
        rw [e2, e1]
        rfl
theorem ref_leaf (no : Int) (es : List ByteArray) (gone : Bool) (hl : es.length ≤ 10000) (hs : ∀ s ∈ es, s.size ≤ 1000) {k : Nat} (hk : 20000 ≤ k) : cobwebref11_Leaf.f k no es gone = some (leafB es gone) := by
  unfold cobwebref11_Leaf.f leafB
  by_cases h : gone = true
  · rw [if_pos h, if_pos h]
  · rw [if_neg h, if_neg h]
    by_cases h4 : es.length ≤ 4
    · rw [if_pos (by omega), if_pos h4, ref_rise es (by omega) hs (by omega)]; rfl
    · rw [if_neg (by omega), if_neg h4]
theorem ref_find (a : List ByteArray) (b : List Int) (s : ByteArray) (ha : a.length ≤ 10000) (hb : b.length ≤ 10000) (hs : ∀ s ∈ a, s.size ≤ 1000) (hs2 : s.size ≤ 1000) {k : Nat} (hk : 200000100 ≤ k) : cobwebref11_Find.f k a b s = some (findB a b s) := by
  unfold cobwebref11_Find.f findB
  rw [ref_root a b ha hb hs hk]
  simp only [Option.bind_some]
  by_cases h : rootB a b = true
  · rw [if_pos h, if_pos h]
    obtain ⟨h1, h2, h3⟩ := rootB_iff.1 h
    rw [ref_at a b s ha hs hs2 (by omega), cntLe_rise s h3]
    simp only [Option.bind_some]
    have := atS_le s a
    rw [if_pos (by omega), if_pos (by omega)]
  · rw [if_neg h, if_neg h]
end Go.Proofs.Ytneagipmllgejaa.PL
end
section
namespace Go.Proofs.Ytneagipmllgejaa.PL
open Go.Shelf Go.RowKit Go.Proofs.YtneagipmllgejaaW.PrintWords Go.Proofs.YtneagipmllgejaaW.PrintLast Go.Proofs.YtneagipmllgejaaW.PrintMore Go.Proofs.YtneagipmllgejaaH
set_option linter.unusedVariables false
set_option linter.unusedSimpArgs false
/-- Leaf by leaf: is it one, with its number and its entries? -/
def goR (a : List ByteArray) (b : List Int) : Nat → List S28 → Bool
  | _, [] => true
  | i, x :: r => if leafB x.f1 x.f2 = true then (if x.f0 = rd b (i : Int) then (if (x.f1.any fun y => (atS y a : Int) != (i : Int)) = true then false else goR a b (i + 1) r) else false) else false
def rightB (a : List ByteArray) (b : List Int) (ls : List S28) : Bool := if rootB a b = true then (if ls.length = b.length then goR a b 0 ls else false) else false
def leaf_Right.f (a : List ByteArray) (b : List Int) (ls : List S28) : Option Bool :=
  if a.length ≤ 100000 ∧ b.length ≤ 100000 ∧ (∀ x ∈ ls, x.f1.length ≤ 100000) then some (rightB a b ls) else none
theorem drop_28 {l : List S28} {i : Nat} (h : i < l.length) : l.drop i = rd_T28 l (i : Int) :: l.drop (i + 1) := by
  rw [List.drop_eq_getElem_cons h]
  congr 1
  simp [rd_T28, List.getD_eq_getElem?_getD, List.getElem?_eq_getElem h]
theorem mem_28 {l : List S28} {i : Nat} (h : i < l.length) : rd_T28 l (i : Int) ∈ l := by simp [rd_T28, List.getD_eq_getElem?_getD, List.getElem?_eq_getElem h]
end Go.Proofs.Ytneagipmllgejaa.PL
end
section
namespace Go.Proofs.Ytneagipmllgejaa.PL
open Go.RowKit Go.Proofs.YtneagipmllgejaaW.PrintWords Go.Proofs.YtneagipmllgejaaW.PrintLast Go.Proofs.YtneagipmllgejaaW.PrintMore
attribute [local go_sem] max2_int min2_int max_two min_two max_three min_three max_four min_four   -- for this text's walks alone
set_option linter.unusedVariables false
set_option linter.unusedSimpArgs false
mutual
def cobwebref11_Right.j0 : Nat → List (S28) → Bool → List ByteArray → List Int → Option (Bool)
  | 0, _, _, _, _ => none
  | k + 1, x1, x17, x461000, x461001 => if x17 = true then (some false) else (cobwebref11_Right.l0 k x1 0 x461000 x461001)
def cobwebref11_Right.l0 : Nat → List (S28) → Int → List ByteArray → List Int → Option (Bool)
  | 0, _, _, _, _ => none
  | k + 1, x1, x5, x461000, x461001 => if x5 < (x1.length : Int) then (if 0 ≤ x5 then ((cobwebref11_Leaf.f k ((rd_T28 x1 x5).f0) ((rd_T28 x1 x5).f1) ((rd_T28 x1 x5).f2)).bind fun t463 => (if t463 = true then (if x5 < (x461001.length : Int) then (cobwebref11_Right.j2 k x1 x5 (((rd_T28 x1 x5).f0) != (rd x461001 x5)) x461000 x461001) else (none)) else (cobwebref11_Right.j2 k x1 x5 true x461000 x461001))) else (none)) else (some true)
def cobwebref11_Right.j2 : Nat → List (S28) → Int → Bool → List ByteArray → List Int → Option (Bool)
  | 0, _, _, _, _, _ => none
  | k + 1, x1, x5, x42, x461000, x461001 => if x42 = true then (some false) else (cobwebref11_Right.l1 k x1 x5 0 x461000 x461001)
def cobwebref11_Right.l1 : Nat → List (S28) → Int → Int → List ByteArray → List Int → Option (Bool)
  | 0, _, _, _, _, _ => none
  | k + 1, x1, x5, x6, x461000, x461001 => if 0 ≤ x5 then (if x5 < (x1.length : Int) then (if x6 < (((rd_T28 x1 x5).f1).length : Int) then (if 0 ≤ x6 then ((cobwebref11_At.f k x461000 x461001 (rdOf ByteArray.empty ((rd_T28 x1 x5).f1) x6)).bind fun t469 => (if t469 = x5 then (cobwebref11_Right.l1 k x1 x5 (wrap64 (x6 + 1)) x461000 x461001) else (some false))) else (none)) else (cobwebref11_Right.l0 k x1 (wrap64 (x5 + 1)) x461000 x461001)) else (none)) else (none)
end
def cobwebref11_Right.f (k : Nat) (l0_0 : List ByteArray) (l0_1 : List Int) (l1 : List (S28)) : Option (Bool) := (cobwebref11_Root.f k l0_0 l0_1).bind fun t461 => (if t461 = true then (cobwebref11_Right.j0 k l1 ((l1.length : Int) != (l0_1.length : Int)) l0_0 l0_1) else (cobwebref11_Right.j0 k l1 true l0_0 l0_1))
theorem cobwebref11_Right.mono_l : ∀ k, (∀ y0 y1 y2 y3, LeO (cobwebref11_Right.j0 k y0 y1 y2 y3) (cobwebref11_Right.j0 (k + 1) y0 y1 y2 y3)) ∧ (∀ y0 y1 y2 y3, LeO (cobwebref11_Right.l0 k y0 y1 y2 y3) (cobwebref11_Right.l0 (k + 1) y0 y1 y2 y3)) ∧ (∀ y0 y1 y2 y3 y4, LeO (cobwebref11_Right.j2 k y0 y1 y2 y3 y4) (cobwebref11_Right.j2 (k + 1) y0 y1 y2 y3 y4)) ∧ (∀ y0 y1 y2 y3 y4, LeO (cobwebref11_Right.l1 k y0 y1 y2 y3 y4) (cobwebref11_Right.l1 (k + 1) y0 y1 y2 y3 y4))
  | 0 => ⟨fun _ _ _ _ r h => by simp [cobwebref11_Right.j0] at h, fun _ _ _ _ r h => by simp [cobwebref11_Right.l0] at h, fun _ _ _ _ _ r h => by simp [cobwebref11_Right.j2] at h, fun _ _ _ _ _ r h => by simp [cobwebref11_Right.l1] at h⟩
  | k + 1 => by
    obtain ⟨ih0, ih1, ih2, ih3⟩ := cobwebref11_Right.mono_l k
    refine ⟨?_, ?_, ?_, ?_⟩
    · intro y0 y1 y2 y3
      unfold cobwebref11_Right.j0
      repeat' first
      | (with_reducible exact ih0 _ _ _ _)
      | (with_reducible exact ih1 _ _ _ _)
      | (with_reducible exact ih2 _ _ _ _ _)
      | (with_reducible exact ih3 _ _ _ _ _)
      | (with_reducible exact cobwebref11_At.mono _ _ _ _)
      | (with_reducible exact cobwebref11_Leaf.mono _ _ _ _)
      | (with_reducible exact cobwebref11_Root.mono _ _ _)
      | (with_reducible exact LeO.refl _)
      | (with_reducible exact LeO.none _)
      | (with_reducible refine LeO.ite ?_ ?_)
      | (with_reducible refine LeO.bind ?_ (fun _ => ?_))
      | exact ih0 _ _ _ _
      | exact ih1 _ _ _ _
      | exact ih2 _ _ _ _ _
      | exact ih3 _ _ _ _ _
      | exact cobwebref11_At.mono _ _ _ _
      | exact cobwebref11_Leaf.mono _ _ _ _
      | exact cobwebref11_Root.mono _ _ _
      | exact LeO.none _
      | refine LeO.ite ?_ ?_
      | refine LeO.bind ?_ (fun _ => ?_)
    · intro y0 y1 y2 y3
      unfold cobwebref11_Right.l0
      repeat' first
      | (with_reducible exact ih0 _ _ _ _)
      | (with_reducible exact ih1 _ _ _ _)
      | (with_reducible exact ih2 _ _ _ _ _)
      | (with_reducible exact ih3 _ _ _ _ _)
      | (with_reducible exact cobwebref11_At.mono _ _ _ _)
      | (with_reducible exact cobwebref11_Leaf.mono _ _ _ _)
      | (with_reducible exact cobwebref11_Root.mono _ _ _)
      | (with_reducible exact LeO.refl _)
      | (with_reducible exact LeO.none _)
      | (with_reducible refine LeO.ite ?_ ?_)
      | (with_reducible refine LeO.bind ?_ (fun _ => ?_))
      | exact ih0 _ _ _ _
      | exact ih1 _ _ _ _
      | exact ih2 _ _ _ _ _
      | exact ih3 _ _ _ _ _
      | exact cobwebref11_At.mono _ _ _ _
      | exact cobwebref11_Leaf.mono _ _ _ _
      | exact cobwebref11_Root.mono _ _ _
      | exact LeO.none _
      | refine LeO.ite ?_ ?_
      | refine LeO.bind ?_ (fun _ => ?_)
    · intro y0 y1 y2 y3 y4
      unfold cobwebref11_Right.j2
      repeat' first
      | (with_reducible exact ih0 _ _ _ _)
      | (with_reducible exact ih1 _ _ _ _)
      | (with_reducible exact ih2 _ _ _ _ _)
      | (with_reducible exact ih3 _ _ _ _ _)
      | (with_reducible exact cobwebref11_At.mono _ _ _ _)
      | (with_reducible exact cobwebref11_Leaf.mono _ _ _ _)
      | (with_reducible exact cobwebref11_Root.mono _ _ _)
      | (with_reducible exact LeO.refl _)
      | (with_reducible exact LeO.none _)
      | (with_reducible refine LeO.ite ?_ ?_)
      | (with_reducible refine LeO.bind ?_ (fun _ => ?_))
      | exact ih0 _ _ _ _
      | exact ih1 _ _ _ _
      | exact ih2 _ _ _ _ _
      | exact ih3 _ _ _ _ _
      | exact cobwebref11_At.mono _ _ _ _
      | exact cobwebref11_Leaf.mono _ _ _ _
      | exact cobwebref11_Root.mono _ _ _
      | exact LeO.none _
      | refine LeO.ite ?_ ?_
      | refine LeO.bind ?_ (fun _ => ?_)
    · intro y0 y1 y2 y3 y4
      unfold cobwebref11_Right.l1
      repeat' first
      | (with_reducible exact ih0 _ _ _ _)
      | (with_reducible exact ih1 _ _ _ _)
      | (with_reducible exact ih2 _ _ _ _ _)
      | (with_reducible exact ih3 _ _ _ _ _)
      | (with_reducible exact cobwebref11_At.mono _ _ _ _)
      | (with_reducible exact cobwebref11_Leaf.mono _ _ _ _)
      | (with_reducible exact cobwebref11_Root.mono _ _ _)
      | (with_reducible exact LeO.refl _)
      | (with_reducible exact LeO.none _)
      | (with_reducible refine LeO.ite ?_ ?_)
      | (with_reducible refine LeO.bind ?_ (fun _ => ?_))
      | exact ih0 _ _ _ _
      | exact ih1 _ _ _ _
      | exact ih2 _ _ _ _ _
      | exact ih3 _ _ _ _ _
      | exact cobwebref11_At.mono _ _ _ _
      | exact cobwebref11_Leaf.mono _ _ _ _
      | exact cobwebref11_Root.mono _ _ _
      | exact LeO.none _
      | refine LeO.ite ?_ ?_
      | refine LeO.bind ?_ (fun _ => ?_)
theorem cobwebref11_Right.mono : ∀ a0 a1 a2 k, LeO (cobwebref11_Right.f k a0 a1 a2) (cobwebref11_Right.f (k + 1) a0 a1 a2) := by
  intro a0 a1 a2 k
  obtain ⟨ih0, ih1, ih2, ih3⟩ := cobwebref11_Right.mono_l k
  unfold cobwebref11_Right.f
  repeat' first
      | (with_reducible exact ih0 _ _ _ _)
      | (with_reducible exact ih1 _ _ _ _)
      | (with_reducible exact ih2 _ _ _ _ _)
      | (with_reducible exact ih3 _ _ _ _ _)
      | (with_reducible exact cobwebref11_At.mono _ _ _ _)
      | (with_reducible exact cobwebref11_Leaf.mono _ _ _ _)
      | (with_reducible exact cobwebref11_Root.mono _ _ _)
      | (with_reducible exact LeO.refl _)
      | (with_reducible exact LeO.none _)
      | (with_reducible refine LeO.ite ?_ ?_)
      | (with_reducible refine LeO.bind ?_ (fun _ => ?_))
      | exact ih0 _ _ _ _
      | exact ih1 _ _ _ _
      | exact ih2 _ _ _ _ _
      | exact ih3 _ _ _ _ _
      | exact cobwebref11_At.mono _ _ _ _
      | exact cobwebref11_Leaf.mono _ _ _ _
      | exact cobwebref11_Root.mono _ _ _
      | exact LeO.none _
      | refine LeO.ite ?_ ?_
      | refine LeO.bind ?_ (fun _ => ?_)
def cobwebref11_Right.T6 : Bool × List (List Nat × List Nat) := (true, [([], []), ([], []), ([0, 1], [0, 1]), ([2], [2]), ([3], [3]), ([4], [4]), ([5, 4], [5]), ([6], [6]), ([6], [6]), ([7, 8, 6], [6, 7, 8]), ([9, 6], [6, 9]), ([10, 6], [6, 10]), ([6], [6]), ([12, 6], [6, 12]), ([6], [6]), ([13, 14, 6], [6, 13, 14]), ([15, 6], [6, 15]), ([11, 16, 6], [6, 11, 16]), ([6, 17], [6, 17])])
def cobwebref11_Right.B6 : List Nat := [0, 0, 3, 7, 15, 31, 63, 127, 127, 511, 1023, 2047, 127, 4223, 127, 28799, 61567, 131071, 262143]
theorem cobwebref11_Right.tab6 : rtab .any (opsOf Try.f25 6) = cobwebref11_Right.T6 := by kernel_rfl
theorem cobwebref11_Right.bits6 : waitsOk cobwebref11_Right.T6.2 cobwebref11_Right.B6 = true := by kernel_rfl
end Go.Proofs.Ytneagipmllgejaa.PL
end
section
namespace Go.Proofs.Ytneagipmllgejaa.PL
open Go.RowKit Go.Proofs.YtneagipmllgejaaW.PrintWords Go.Proofs.YtneagipmllgejaaW.PrintLast Go.Proofs.YtneagipmllgejaaW.PrintMore
attribute [local go_sem] max2_int min2_int max_two min_two max_three min_three max_four min_four   -- for this text's walks alone
set_option linter.unusedVariables false
set_option linter.unusedSimpArgs false
mutual
def leaf_Range.j0 : Nat → ByteArray → ByteArray → Bool → List ByteArray → List Int → Option (List Int)
  | 0, _, _, _, _, _ => none
  | k + 1, x1, x2, x15, x217000, x217001 => if x15 = true then (some ([] : List Int)) else ((leaf_at.f k x217000 x217001 x2).bind fun t218 => (if t218 > 0 then (if 0 ≤ (wrap64 (t218 - 1)) then (if (wrap64 (t218 - 1)) < (x217000.length : Int) then (leaf_Range.j1 k x1 t218 ((rdOf ByteArray.empty x217000 (wrap64 (t218 - 1))).toList == x2.toList) x217000 x217001) else (none)) else (none)) else (leaf_Range.j1 k x1 t218 false x217000 x217001)))
def leaf_Range.j1 : Nat → ByteArray → Int → Bool → List ByteArray → List Int → Option (List Int)
  | 0, _, _, _, _, _ => none
  | k + 1, x1, x7, x30, x217000, x217001 => if x30 = true then ((leaf_at.f k x217000 x217001 x1).bind fun t220 => (if 0 ≤ t220 then (if t220 ≤ (wrap64 ((wrap64 (x7 - 1)) + 1)) then (if (wrap64 ((wrap64 (x7 - 1)) + 1)) ≤ (x217001.length : Int) then ((slices_Clone_int_int.f ((x217001.take ((wrap64 ((wrap64 (x7 - 1)) + 1)) : Int).toNat).drop (t220 : Int).toNat)).bind fun t222 => (some t222)) else (none)) else (none)) else (none))) else ((leaf_at.f k x217000 x217001 x1).bind fun t225 => (if 0 ≤ t225 then (if t225 ≤ (wrap64 (x7 + 1)) then (if (wrap64 (x7 + 1)) ≤ (x217001.length : Int) then ((slices_Clone_int_int.f ((x217001.take ((wrap64 (x7 + 1)) : Int).toNat).drop (t225 : Int).toNat)).bind fun t227 => (some t227)) else (none)) else (none)) else (none)))
end
def leaf_Range.f (k : Nat) (l0_0 : List ByteArray) (l0_1 : List Int) (a1 : ByteArray) (a2 : ByteArray) : Option (List Int) := (leaf_root.f l0_0 l0_1).bind fun t217 => (if t217 = true then (leaf_Range.j0 k a1 a2 (!(Op.bytesLess a1.toList a2.toList)) l0_0 l0_1) else (leaf_Range.j0 k a1 a2 true l0_0 l0_1))
theorem leaf_Range.mono_l : ∀ k, (∀ y0 y1 y2 y3 y4, LeO (leaf_Range.j0 k y0 y1 y2 y3 y4) (leaf_Range.j0 (k + 1) y0 y1 y2 y3 y4)) ∧ (∀ y0 y1 y2 y3 y4, LeO (leaf_Range.j1 k y0 y1 y2 y3 y4) (leaf_Range.j1 (k + 1) y0 y1 y2 y3 y4))
  | 0 => ⟨fun _ _ _ _ _ r h => by simp [leaf_Range.j0] at h, fun _ _ _ _ _ r h => by simp [leaf_Range.j1] at h⟩
  | k + 1 => by
    obtain ⟨ih0, ih1⟩ := leaf_Range.mono_l k
    refine ⟨?_, ?_⟩
    · intro y0 y1 y2 y3 y4
      unfold leaf_Range.j0
      repeat' first
      | (with_reducible exact ih0 _ _ _ _ _)
      | (with_reducible exact ih1 _ _ _ _ _)
      | (with_reducible exact leaf_at.mono _ _ _ _)
      | (with_reducible exact LeO.refl _)
      | (with_reducible exact LeO.none _)
      | (with_reducible refine LeO.ite ?_ ?_)
      | (with_reducible refine LeO.bind ?_ (fun _ => ?_))
      | exact ih0 _ _ _ _ _
      | exact ih1 _ _ _ _ _
      | exact leaf_at.mono _ _ _ _
      | exact LeO.none _
      | refine LeO.ite ?_ ?_
      | refine LeO.bind ?_ (fun _ => ?_)
    · intro y0 y1 y2 y3 y4
      unfold leaf_Range.j1
      repeat' first
      | (with_reducible exact ih0 _ _ _ _ _)
      | (with_reducible exact ih1 _ _ _ _ _)
      | (with_reducible exact leaf_at.mono _ _ _ _)
      | (with_reducible exact LeO.refl _)
      | (with_reducible exact LeO.none _)
      | (with_reducible refine LeO.ite ?_ ?_)
      | (with_reducible refine LeO.bind ?_ (fun _ => ?_))
      | exact ih0 _ _ _ _ _
      | exact ih1 _ _ _ _ _
      | exact leaf_at.mono _ _ _ _
      | exact LeO.none _
      | refine LeO.ite ?_ ?_
      | refine LeO.bind ?_ (fun _ => ?_)
theorem leaf_Range.mono : ∀ a0 a1 a2 a3 k, LeO (leaf_Range.f k a0 a1 a2 a3) (leaf_Range.f (k + 1) a0 a1 a2 a3) := by
  intro a0 a1 a2 a3 k
  obtain ⟨ih0, ih1⟩ := leaf_Range.mono_l k
  unfold leaf_Range.f
  repeat' first
      | (with_reducible exact ih0 _ _ _ _ _)
      | (with_reducible exact ih1 _ _ _ _ _)
      | (with_reducible exact leaf_at.mono _ _ _ _)
      | (with_reducible exact LeO.refl _)
      | (with_reducible exact LeO.none _)
      | (with_reducible refine LeO.ite ?_ ?_)
      | (with_reducible refine LeO.bind ?_ (fun _ => ?_))
      | exact ih0 _ _ _ _ _
      | exact ih1 _ _ _ _ _
      | exact leaf_at.mono _ _ _ _
      | exact LeO.none _
      | refine LeO.ite ?_ ?_
      | refine LeO.bind ?_ (fun _ => ?_)
def leaf_Range.T6 : Bool × List (List Nat × List Nat) := (true, [([], []), ([0], [0]), ([], []), ([], []), ([2, 3], [2, 3]), ([], []), ([5], [5]), ([1, 4, 6], [1, 4, 6]), ([7, 4], [7]), ([8, 8, 0, 1, 2, 3, 4, 5, 6, 7, 8], [8])])
def leaf_Range.B6 : List Nat := [0, 1, 0, 0, 12, 0, 32, 127, 255, 511]
theorem leaf_Range.tab6 : rtab .any (opsOf Try.f13 6) = leaf_Range.T6 := by kernel_rfl
theorem leaf_Range.bits6 : waitsOk leaf_Range.T6.2 leaf_Range.B6 = true := by kernel_rfl
end Go.Proofs.Ytneagipmllgejaa.PL
end
section
namespace Go.Proofs.Ytneagipmllgejaa.PL
open Go.RowKit Go.Proofs.YtneagipmllgejaaW.PrintWords Go.Proofs.YtneagipmllgejaaW.PrintLast Go.Proofs.YtneagipmllgejaaW.PrintMore
attribute [local go_sem] max2_int min2_int max_two min_two max_three min_three max_four min_four   -- for this text's walks alone
set_option linter.unusedVariables false
set_option linter.unusedSimpArgs false
mutual
def cobwebref11_Range.j0 : Nat → ByteArray → ByteArray → List Int → Bool → List ByteArray → List Int → Option (List Int)
 | 0, _, _, _, _, _, _ => none
 | k + 1, x1, x2, x7, x19, x418000, x418001 => if x19 = true then (some ([] : List Int)) else (cobwebref11_Range.l0 k x1 x2 x7 0 x418000 x418001)
def cobwebref11_Range.l0 : Nat → ByteArray → ByteArray → List Int → Int → List ByteArray → List Int → Option (List Int)
 | 0, _, _, _, _, _, _ => none
 | k + 1, x1, x2, x7, x8, x418000, x418001 => if x8 < (x418001.length : Int) then (if x8 = 0 then (if x8 = (wrap64 ((x418001.length : Int) - 1)) then (if 0 ≤ x8 then (if x7.length < 17592186044416 then (cobwebref11_Range.l0 k x1 x2 (x7 ++ [rd x418001 x8]) (wrap64 (x8 + 1)) x418000 x418001) else (none)) else (none)) else (if 0 ≤ x8 then (if x8 < (x418000.length : Int) then ((cobwebref02_Order.f k x1 (rdOf ByteArray.empty x418000 x8)).bind fun t425 => (if t425 < 0 then (if x7.length < 17592186044416 then (cobwebref11_Range.l0 k x1 x2 (x7 ++ [rd x418001 x8]) (wrap64 (x8 + 1)) x418000 x418001) else (none)) else (cobwebref11_Range.l0 k x1 x2 x7 (wrap64 (x8 + 1)) x418000 x418001))) else (none)) else (none))) else (if 0 ≤ (wrap64 (x8 - 1)) then (if (wrap64 (x8 - 1)) < (x418000.length : Int) then ((cobwebref02_Order.f k (rdOf ByteArray.empty x418000 (wrap64 (x8 - 1))) x2).bind fun t431 => (if x8 = (wrap64 ((x418001.length : Int) - 1)) then (if t431 < 0 then (if 0 ≤ x8 then (if x7.length < 17592186044416 then (cobwebref11_Range.l0 k x1 x2 (x7 ++ [rd x418001 x8]) (wrap64 (x8 + 1)) x418000 x418001) else (none)) else (none)) else (cobwebref11_Range.l0 k x1 x2 x7 (wrap64 (x8 + 1)) x418000 x418001)) else (if 0 ≤ x8 then (if x8 < (x418000.length : Int) then ((cobwebref02_Order.f k x1 (rdOf ByteArray.empty x418000 x8)).bind fun t437 => (if t431 < 0 then (if t437 < 0 then (if x7.length < 17592186044416 then (cobwebref11_Range.l0 k x1 x2 (x7 ++ [rd x418001 x8]) (wrap64 (x8 + 1)) x418000 x418001) else (none)) else (cobwebref11_Range.l0 k x1 x2 x7 (wrap64 (x8 + 1)) x418000 x418001)) else (cobwebref11_Range.l0 k x1 x2 x7 (wrap64 (x8 + 1)) x418000 x418001))) else (none)) else (none)))) else (none)) else (none))) else (some x7)
end
def cobwebref11_Range.f (k : Nat) (l0_0 : List ByteArray) (l0_1 : List Int) (a1 : ByteArray) (a2 : ByteArray) : Option (List Int) := (cobwebref11_Root.f k l0_0 l0_1).bind fun t418 => (if t418 = true then ((cobwebref02_Order.f k a1 a2).bind fun t419 => (cobwebref11_Range.j0 k a1 a2 ([] : List Int) (decide (t419 ≥ 0)) l0_0 l0_1)) else (cobwebref11_Range.j0 k a1 a2 ([] : List Int) true l0_0 l0_1))
theorem cobwebref11_Range.mono_l : ∀ k, (∀ y0 y1 y2 y3 y4 y5, LeO (cobwebref11_Range.j0 k y0 y1 y2 y3 y4 y5) (cobwebref11_Range.j0 (k + 1) y0 y1 y2 y3 y4 y5)) ∧ (∀ y0 y1 y2 y3 y4 y5, LeO (cobwebref11_Range.l0 k y0 y1 y2 y3 y4 y5) (cobwebref11_Range.l0 (k + 1) y0 y1 y2 y3 y4 y5))
 | 0 => ⟨fun _ _ _ _ _ _ r h => by simp [cobwebref11_Range.j0] at h, fun _ _ _ _ _ _ r h => by simp [cobwebref11_Range.l0] at h⟩
 | k + 1 => by
  obtain ⟨ih0, ih1⟩ := cobwebref11_Range.mono_l k
  refine ⟨?_, ?_⟩
  ·intro y0 y1 y2 y3 y4 y5
   unfold cobwebref11_Range.j0
   repeat' first
   | (with_reducible exact ih0 _ _ _ _ _ _)
   | (with_reducible exact ih1 _ _ _ _ _ _)
   | (with_reducible exact cobwebref02_Order.mono _ _ _)
   | (with_reducible exact cobwebref11_Root.mono _ _ _)
   | (with_reducible exact LeO.refl _)
   | (with_reducible exact LeO.none _)
   | (with_reducible refine LeO.ite ?_ ?_)
   | (with_reducible refine LeO.bind ?_ (fun _ => ?_))
   | exact ih0 _ _ _ _ _ _
   | exact ih1 _ _ _ _ _ _
   | exact cobwebref02_Order.mono _ _ _
   | exact cobwebref11_Root.mono _ _ _
   | exact LeO.none _
   | refine LeO.ite ?_ ?_
   | refine LeO.bind ?_ (fun _ => ?_)
  ·intro y0 y1 y2 y3 y4 y5
   unfold cobwebref11_Range.l0
   repeat' first
   | (with_reducible exact ih0 _ _ _ _ _ _)
   | (with_reducible exact ih1 _ _ _ _ _ _)
   | (with_reducible exact cobwebref02_Order.mono _ _ _)
   | (with_reducible exact cobwebref11_Root.mono _ _ _)
   | (with_reducible exact LeO.refl _)
   | (with_reducible exact LeO.none _)
   | (with_reducible refine LeO.ite ?_ ?_)
   | (with_reducible refine LeO.bind ?_ (fun _ => ?_))
   | exact ih0 _ _ _ _ _ _
   | exact ih1 _ _ _ _ _ _
   | exact cobwebref02_Order.mono _ _ _
   | exact cobwebref11_Root.mono _ _ _
   | exact LeO.none _
   | refine LeO.ite ?_ ?_
   | refine LeO.bind ?_ (fun _ => ?_)
theorem cobwebref11_Range.mono : ∀ a0 a1 a2 a3 k, LeO (cobwebref11_Range.f k a0 a1 a2 a3) (cobwebref11_Range.f (k + 1) a0 a1 a2 a3) := by
 intro a0 a1 a2 a3 k
 obtain ⟨ih0, ih1⟩ := cobwebref11_Range.mono_l k
 unfold cobwebref11_Range.f
 repeat' first
   | (with_reducible exact ih0 _ _ _ _ _ _)
   | (with_reducible exact ih1 _ _ _ _ _ _)
   | (with_reducible exact cobwebref02_Order.mono _ _ _)
   | (with_reducible exact cobwebref11_Root.mono _ _ _)
   | (with_reducible exact LeO.refl _)
   | (with_reducible exact LeO.none _)
   | (with_reducible refine LeO.ite ?_ ?_)
   | (with_reducible refine LeO.bind ?_ (fun _ => ?_))
   | exact ih0 _ _ _ _ _ _
   | exact ih1 _ _ _ _ _ _
   | exact cobwebref02_Order.mono _ _ _
   | exact cobwebref11_Root.mono _ _ _
   | exact LeO.none _
   | refine LeO.ite ?_ ?_
   | refine LeO.bind ?_ (fun _ => ?_)
end Go.Proofs.Ytneagipmllgejaa.PL
end
section
namespace Go.Proofs.Ytneagipmllgejaa.PL
open Go.RowKit Go.Proofs.YtneagipmllgejaaW.PrintWords Go.Proofs.YtneagipmllgejaaW.PrintLast Go.Proofs.YtneagipmllgejaaW.PrintMore
attribute [local go_sem] max2_int min2_int max_two min_two max_three min_three max_four min_four   -- for this text's walks alone
set_option linter.unusedVariables false
set_option linter.unusedSimpArgs false
def cobweblaw11_texts.l0 : Nat → List ByteArray → Int → Option (Bool)
 | 0, _, _ => none
 | k + 1, x0, x3 => if x3 < (x0.length : Int) then (if 0 ≤ x3 then (if ((rdOf ByteArray.empty x0 x3).size : Int) > 700 then (some false) else (cobweblaw11_texts.l0 k x0 (wrap64 (x3 + 1)))) else (none)) else (some true)
def cobweblaw11_texts.f (k : Nat) (l0 : List ByteArray) : Option (Bool) := if (l0.length : Int) > 30 then (some false) else (cobweblaw11_texts.l0 k l0 0)
theorem cobweblaw11_texts.mono_l : ∀ k, (∀ y0 y1, LeO (cobweblaw11_texts.l0 k y0 y1) (cobweblaw11_texts.l0 (k + 1) y0 y1))
 | 0 => fun _ _ r h => by simp [cobweblaw11_texts.l0] at h
 | k + 1 => by
  have ih0 := cobweblaw11_texts.mono_l k
  ·intro y0 y1
   unfold cobweblaw11_texts.l0
   repeat' first
   | (with_reducible exact ih0 _ _)
   | (with_reducible exact LeO.refl _)
   | (with_reducible exact LeO.none _)
   | (with_reducible refine LeO.ite ?_ ?_)
   | (with_reducible refine LeO.bind ?_ (fun _ => ?_))
   | exact ih0 _ _
   | exact LeO.none _
   | refine LeO.ite ?_ ?_
   | refine LeO.bind ?_ (fun _ => ?_)
theorem cobweblaw11_texts.mono : ∀ a0 k, LeO (cobweblaw11_texts.f k a0) (cobweblaw11_texts.f (k + 1) a0) := by
 intro a0 k
 have ih0 := cobweblaw11_texts.mono_l k
 unfold cobweblaw11_texts.f
 repeat' first
   | (with_reducible exact ih0 _ _)
   | (with_reducible exact LeO.refl _)
   | (with_reducible exact LeO.none _)
   | (with_reducible refine LeO.ite ?_ ?_)
   | (with_reducible refine LeO.bind ?_ (fun _ => ?_))
   | exact ih0 _ _
   | exact LeO.none _
   | refine LeO.ite ?_ ?_
   | refine LeO.bind ?_ (fun _ => ?_)
set_option maxHeartbeats 8000000 in
set_option maxRecDepth 100000 in
theorem cobweblaw11_texts.calls (k : Nat) (A0 : Option Addr) (c0 : Nat) (l0 : List ByteArray) (r : Bool) (w : World) (hr0 : Kd.C Kd.string w A0 l0.length l0) (hc0 : l0.length ≤ c0) (h : cobweblaw11_texts.f k l0 = some r) :
  Calls Try.prog 44 #[.slice A0 l0.length c0] w fun e w' => e = .returned (.bool r) ∧ Drawn0 w w' := by
 have HR0 := Aside0.mk hr0
 have HC0 := Aside0.mk hc0
 clear hr0 hc0
 have H : (if (l0.length : Int) > 30 then (some false) else (cobweblaw11_texts.l0 k l0 0)) = some r := h
 clear h
 by_cases c2 : (l0.length : Int) > 30
 ·rw [if_pos c2] at H
  have c2b0 : decide (30 < (l0.length : Int)) = true := decide_eq_true c2
  have c2b1 : decide (30 < l0.length) = true := decide_eq_true (by omega)
  clear c2
  obtain rfl := Option.some.inj H
  go_enter Try.func44, Try.ntmps44
  go_wp2
  go_ret
  exact ⟨by first | rfl | (simp; done) | (simp [*]; done), by repeat (first | exact Drawn0.refl _ | apply Drawn0.step)⟩
 ·rw [if_neg c2] at H
  have c2b0 : decide (30 < (l0.length : Int)) = false := decide_eq_false c2
  have c2b1 : decide (30 < l0.length) = false := decide_eq_false (by omega)
  clear c2
  have H' := Aside0.mk H
  clear H
  go_enter Try.func44, Try.ntmps44
  go_wp2
  go_loopg [3] k (fun kq v3 w' => ∃ (x3_1 : Int), v3 = .int .i64 x3_1 ∧ Aside0 (cobweblaw11_texts.l0 kq l0 x3_1 = some r) ∧ Aside0 (kq ≤ k) ∧ Drawn0 w w')
  case atStart => exact ⟨(0), (by first | rfl | (simp; done) | (simp [*]; done)), H', ⟨Nat.le_refl _⟩, by repeat (first | exact Drawn0.refl _ | apply Drawn0.step)⟩
  case round =>
   clear H'
   try clear c2
   try clear c2b0
   try clear c2b1
   try clear p2
   obtain ⟨x3_1, rfl, HA, HK1, ⟨m1, rfl⟩⟩ := hrel
   cases gk with
   | zero => exact absurd HA.out (by simp [cobweblaw11_texts.l0])
   | succ k1 =>
    have H := HA.out
    clear HA
    simp only [cobweblaw11_texts.l0] at H
    by_cases c3 : x3_1 < (l0.length : Int)
    ·rw [if_pos c3] at H
     have c3b0 : decide (x3_1 < (l0.length : Int)) = true := decide_eq_true c3
     clear c3
     by_cases c4 : 0 ≤ x3_1
     ·rw [if_pos c4] at H
      have c4b0 : decide (0 ≤ x3_1) = true := decide_eq_true c4
      clear c4
      by_cases c5 : ((rdOf ByteArray.empty l0 x3_1).size : Int) > 700
      ·rw [if_pos c5] at H
       have c5b0 : decide (700 < ((rdOf ByteArray.empty l0 x3_1).size : Int)) = true := decide_eq_true c5
       have c5b1 : decide (700 < (rdOf ByteArray.empty l0 x3_1).size) = true := decide_eq_true (by omega)
       clear c5
       obtain rfl := Option.some.inj H
       have p234 : 0 ≤ (x3_1 : Int) := of_decide_eq_true (by first | (with_reducible assumption) | assumption)
       have q234 : x3_1 < (l0.length : Int) := of_decide_eq_true (by first | (with_reducible assumption) | assumption)
       obtain ⟨ad234, e234, hx234_0⟩ := Kd.at_string HR0.out x3_1 p234 q234
       cases e234
       replace p234 := eq_true p234
       replace q234 := eq_true q234
       go_wp2
       go_ret
       exact ⟨by first | rfl | (simp; done) | (simp [*]; done), by repeat (first | exact Drawn0.refl _ | apply Drawn0.step)⟩
      ·rw [if_neg c5] at H
       have c5b0 : decide (700 < ((rdOf ByteArray.empty l0 x3_1).size : Int)) = false := decide_eq_false c5
       have c5b1 : decide (700 < (rdOf ByteArray.empty l0 x3_1).size) = false := decide_eq_false (by omega)
       clear c5
       have H' := Aside0.mk H
       clear H
       have p234 : 0 ≤ (x3_1 : Int) := of_decide_eq_true (by first | (with_reducible assumption) | assumption)
       have q234 : x3_1 < (l0.length : Int) := of_decide_eq_true (by first | (with_reducible assumption) | assumption)
       obtain ⟨ad234, e234, hx234_0⟩ := Kd.at_string HR0.out x3_1 p234 q234
       cases e234
       replace p234 := eq_true p234
       replace q234 := eq_true q234
       go_wp2
       go_roundg k1
       case measure => have := HK1.out; omega
       case rel => exact ⟨(wrap64 (x3_1 + 1)), (by first | rfl | (simp; done) | (simp [*]; done)), H', ⟨by have := HK1.out; omega⟩, by repeat (first | exact Drawn0.refl _ | apply Drawn0.step)⟩
     ·rw [if_neg c4] at H
      exact absurd H (by simp)
    ·rw [if_neg c3] at H
     have c3b0 : decide (x3_1 < (l0.length : Int)) = false := decide_eq_false c3
     clear c3
     obtain rfl := Option.some.inj H
     go_wp2
     go_ret
     exact ⟨by first | rfl | (simp; done) | (simp [*]; done), by repeat (first | exact Drawn0.refl _ | apply Drawn0.step)⟩
end Go.Proofs.Ytneagipmllgejaa.PL
end
section
namespace Go.Proofs.Ytneagipmllgejaa.PL
open Go.RowKit Go.Proofs.YtneagipmllgejaaW.PrintWords Go.Proofs.YtneagipmllgejaaW.PrintLast Go.Proofs.YtneagipmllgejaaW.PrintMore
attribute [local go_sem] max2_int min2_int max_two min_two max_three min_three max_four min_four   -- for this text's walks alone
set_option linter.unusedVariables false
set_option linter.unusedSimpArgs false
mutual
def cobweblaw11_small.j0 : Nat → List (S28) → Bool → Option (Bool)
 | 0, _, _ => none
 | k + 1, x1, x20 => if x20 = true then (some false) else (cobweblaw11_small.l0 k x1 0)
def cobweblaw11_small.l0 : Nat → List (S28) → Int → Option (Bool)
 | 0, _, _ => none
 | k + 1, x1, x5 => if x5 < (x1.length : Int) then (if 0 ≤ x5 then ((cobweblaw11_texts.f k ((rd_T28 x1 x5).f1)).bind fun t238 => (if t238 = true then (cobweblaw11_small.l0 k x1 (wrap64 (x5 + 1))) else (some false))) else (none)) else (some true)
end
def cobweblaw11_small.f (k : Nat) (l0_0 : List ByteArray) (l0_1 : List Int) (l1 : List (S28)) : Option (Bool) := (cobweblaw11_texts.f k l0_0).bind fun t236 => (if t236 = true then (if (l0_1.length : Int) > 40 then (cobweblaw11_small.j0 k l1 true) else (cobweblaw11_small.j0 k l1 (decide ((l1.length : Int) > 40)))) else (cobweblaw11_small.j0 k l1 true))
theorem cobweblaw11_small.mono_l : ∀ k, (∀ y0 y1, LeO (cobweblaw11_small.j0 k y0 y1) (cobweblaw11_small.j0 (k + 1) y0 y1)) ∧ (∀ y0 y1, LeO (cobweblaw11_small.l0 k y0 y1) (cobweblaw11_small.l0 (k + 1) y0 y1))
 | 0 => ⟨fun _ _ r h => by simp [cobweblaw11_small.j0] at h, fun _ _ r h => by simp [cobweblaw11_small.l0] at h⟩
 | k + 1 => by
  obtain ⟨ih0, ih1⟩ := cobweblaw11_small.mono_l k
  refine ⟨?_, ?_⟩
  ·intro y0 y1
   unfold cobweblaw11_small.j0
   repeat' first
   | (with_reducible exact ih0 _ _)
   | (with_reducible exact ih1 _ _)
   | (with_reducible exact cobweblaw11_texts.mono _ _)
   | (with_reducible exact LeO.refl _)
   | (with_reducible exact LeO.none _)
   | (with_reducible refine LeO.ite ?_ ?_)
   | (with_reducible refine LeO.bind ?_ (fun _ => ?_))
   | exact ih0 _ _
   | exact ih1 _ _
   | exact cobweblaw11_texts.mono _ _
   | exact LeO.none _
   | refine LeO.ite ?_ ?_
   | refine LeO.bind ?_ (fun _ => ?_)
  ·intro y0 y1
   unfold cobweblaw11_small.l0
   repeat' first
   | (with_reducible exact ih0 _ _)
   | (with_reducible exact ih1 _ _)
   | (with_reducible exact cobweblaw11_texts.mono _ _)
   | (with_reducible exact LeO.refl _)
   | (with_reducible exact LeO.none _)
   | (with_reducible refine LeO.ite ?_ ?_)
   | (with_reducible refine LeO.bind ?_ (fun _ => ?_))
   | exact ih0 _ _
   | exact ih1 _ _
   | exact cobweblaw11_texts.mono _ _
   | exact LeO.none _
   | refine LeO.ite ?_ ?_
   | refine LeO.bind ?_ (fun _ => ?_)
theorem cobweblaw11_small.mono : ∀ a0 a1 a2 k, LeO (cobweblaw11_small.f k a0 a1 a2) (cobweblaw11_small.f (k + 1) a0 a1 a2) := by
 intro a0 a1 a2 k
 obtain ⟨ih0, ih1⟩ := cobweblaw11_small.mono_l k
 unfold cobweblaw11_small.f
 repeat' first
   | (with_reducible exact ih0 _ _)
   | (with_reducible exact ih1 _ _)
   | (with_reducible exact cobweblaw11_texts.mono _ _)
   | (with_reducible exact LeO.refl _)
   | (with_reducible exact LeO.none _)
   | (with_reducible refine LeO.ite ?_ ?_)
   | (with_reducible refine LeO.bind ?_ (fun _ => ?_))
   | exact ih0 _ _
   | exact ih1 _ _
   | exact cobweblaw11_texts.mono _ _
   | exact LeO.none _
   | refine LeO.ite ?_ ?_
   | refine LeO.bind ?_ (fun _ => ?_)
set_option maxHeartbeats 8000000 in
set_option maxRecDepth 100000 in
theorem cobweblaw11_small.calls (k : Nat) (A0_0 : Option Addr) (c0_0 : Nat) (l0_0 : List ByteArray) (A0_1 : Option Addr) (c0_1 : Nat) (l0_1 : List Int) (A1 : Option Addr) (c1 : Nat) (l1 : List (S28)) (r : Bool) (w : World) (hr0_0 : Kd.C Kd.string w A0_0 l0_0.length l0_0) (hc0_0 : l0_0.length ≤ c0_0) (hr0_1 : Kd.C (Kd.int .i64) w A0_1 l0_1.length l0_1) (hc0_1 : l0_1.length ≤ c0_1) (hr1 : Kd.C k28 w A1 l1.length l1) (hc1 : l1.length ≤ c1) (h : cobweblaw11_small.f k l0_0 l0_1 l1 = some r) :
  Calls Try.prog 17 #[.agg #[.slice A0_0 l0_0.length c0_0, .slice A0_1 l0_1.length c0_1], .slice A1 l1.length c1] w fun e w' => e = .returned (.bool r) ∧ Below w.heap.size w w' := by
 have hu26 := Try.underlying26
 have HR0_0 := Aside0.mk hr0_0
 have HC0_0 := Aside0.mk hc0_0
 clear hr0_0 hc0_0
 have HR0_1 := Aside0.mk hr0_1
 have HC0_1 := Aside0.mk hc0_1
 clear hr0_1 hc0_1
 have HR1 := Aside0.mk hr1
 have HC1 := Aside0.mk hc1
 clear hr1 hc1
 have HB := Aside0.mk (Below.refl w.heap.size w)
 have H : ((cobweblaw11_texts.f k l0_0).bind fun t236 => (if t236 = true then (if (l0_1.length : Int) > 40 then (cobweblaw11_small.j0 k l1 true) else (cobweblaw11_small.j0 k l1 (decide ((l1.length : Int) > 40)))) else (cobweblaw11_small.j0 k l1 true))) = some r := h
 clear h
 have HC3 := Aside0.mk H
 clear H
 go_enter Try.func17, Try.ntmps17
 go_upto_region 1 with (first | ((with_reducible refine gate_dst (N := 2) rfl ?_); (try (refine gate_guard (by rfl) ?_; dsimp only)); refine box_event ?hg (N := 2) ?hd (cs := #[.slice A0_0 l0_0.length c0_0, .slice A0_1 l0_1.length c0_1]) (t := 26) ?hr ?_; (case hd => rfl); (case hg => rfl); (case hr => first | (go_simp; done) | (go_simp; rfl)); intro gb235 hg w4 hbox hb; have n0_ := Aside0.mk (below_step (by repeat (first | (with_reducible first | exact HB.out | apply below_alloc | apply pw_below_drewN | apply below_drew1) | exact HB.out)) hb); have n1_ := Aside0.mk (hbox); have n2_ := Aside0.mk ((by rw [hg]; exact (below_size (by repeat (first | (with_reducible first | exact HB.out | apply below_alloc | apply pw_below_drewN | apply below_drew1) | exact HB.out))) : w.heap.size ≤ gb235)); have n3_ := Aside0.mk ((by rw [hg]; exact (below_size (by repeat (first | (with_reducible first | exact HB.out | apply below_alloc | apply pw_below_drewN | apply below_drew1) | exact HB.out))) : w.heap.size ≤ gb235)); clear HB; have HB := n0_; have BK235 := n1_; have GW235 := n2_; have GE235 := n3_; clear n0_ n1_ n2_ n3_; clear hb hbox hg))
 (try simp only [Act.put, List.setIfInBounds_toArray, List.set_cons_zero, List.set_cons_succ])
 go_cut [20] (fun v20 wc => ∃ (kq : Nat) (x20_2 : Bool), v20 = .bool x20_2 ∧ Aside0 (cobweblaw11_small.j0 kq l1 x20_2 = some r) ∧ Aside0 (kq ≤ k) ∧ Aside0 (wc.heap[gb235]? = some (.cells #[(.slice A0_0 l0_0.length c0_0), (.slice A0_1 l0_1.length c0_1)] 26 (0, 0))) ∧ Aside0 (Below w.heap.size w wc))
 case first =>
  have H := HC3.out
  clear HC3
  replace H := Option.bind_eq_some_iff.mp H
  obtain ⟨t236, A50, H⟩ := H
  replace H : (if t236 = true then (if (l0_1.length : Int) > 40 then (cobweblaw11_small.j0 k l1 true) else (cobweblaw11_small.j0 k l1 (decide ((l1.length : Int) > 40)))) else (cobweblaw11_small.j0 k l1 true)) = some r := H
  have A5 := Aside0.mk A50
  clear A50
  by_cases c6 : t236 = true
  ·subst c6
   have H1 : (if (l0_1.length : Int) > 40 then (cobweblaw11_small.j0 k l1 true) else (cobweblaw11_small.j0 k l1 (decide ((l1.length : Int) > 40)))) = some r := by rw [if_pos rfl] at H; exact H
   clear H
   have H := H1
   clear H1
   by_cases c7 : (l0_1.length : Int) > 40
   ·rw [if_pos c7] at H
    have c7b0 : decide (40 < (l0_1.length : Int)) = true := decide_eq_true c7
    have c7b1 : decide (40 < l0_1.length) = true := decide_eq_true (by omega)
    clear c7
    (first | rw [c7b0] | (simp only [i64_w, i32_w]; rw [c7b0]) | skip)
    have H' := Aside0.mk H
    clear H
    have hcz8_0 : w4.cell? ⟨gb235, 0, none⟩ = some (.slice A0_0 l0_0.length c0_0) := (blk_cell BK235.out 0).trans rfl
    have hcz8_1 : w4.cell? ⟨gb235, 1, none⟩ = some (.slice A0_1 l0_1.length c0_1) := (blk_cell BK235.out 1).trans rfl
    have hfz8_0 := blk_frozen BK235.out 0
    have hfz8_1 := blk_frozen BK235.out 1
    go_wp2_with (first | ((with_reducible refine gate_callee (f := 44) rfl ?_); refine goesL_ (some 8) rfl rfl Try.func44 (by kernel_rfl) rfl #[.slice A0_0 l0_0.length c0_0] rfl (by (try simp only [List.map_toArray, List.map_cons, List.map_nil]); first | done | rfl | (simp only [List.length_drop, List.length_take]; rfl)) ?_; (with_reducible refine (cobweblaw11_texts.calls k _ _ l0_0 true _ ?side1 ?side2 A5.out).mono ?_); (case side1 => repeat (first | exact (Kd.C_below HR0_0.out HB.out) | (with_reducible refine Kd.C_alloc ?_ _) | (with_reducible refine Kd.C_drewN ?_ _) | (with_reducible refine Kd.C_drew ?_))); (case side2 => exact HC0_0.out); rintro e w' ⟨rfl, ⟨nd, rfl⟩⟩; refine ⟨_, rfl, ?_⟩))
    go_meet
    case rel => exact ⟨_, (true), (by first | rfl | (simp; done) | (simp [*]; done)), H', ⟨by first | omega | exact Nat.le_refl _⟩, ⟨by (with_reducible repeat (first | refine blk_drewN ?_ _ | refine blk_drew ?_ | refine blk_alloc ?_ _)); exact BK235.out⟩, ⟨by repeat (first | (with_reducible first | exact HB.out | apply below_alloc | apply pw_below_drewN | apply below_drew1 | refine below_set ?_ GE235.out) | exact HB.out)⟩⟩
   ·rw [if_neg c7] at H
    have c7b0 : decide (40 < (l0_1.length : Int)) = false := decide_eq_false c7
    have c7b1 : decide (40 < l0_1.length) = false := decide_eq_false (by omega)
    clear c7
    (first | rw [c7b0] | (simp only [i64_w, i32_w]; rw [c7b0]) | skip)
    have H' := Aside0.mk H
    clear H
    have hcz9_0 : w4.cell? ⟨gb235, 0, none⟩ = some (.slice A0_0 l0_0.length c0_0) := (blk_cell BK235.out 0).trans rfl
    have hcz9_1 : w4.cell? ⟨gb235, 1, none⟩ = some (.slice A0_1 l0_1.length c0_1) := (blk_cell BK235.out 1).trans rfl
    have hfz9_0 := blk_frozen BK235.out 0
    have hfz9_1 := blk_frozen BK235.out 1
    go_wp2_with (first | ((with_reducible refine gate_callee (f := 44) rfl ?_); refine goesL_ (some 8) rfl rfl Try.func44 (by kernel_rfl) rfl #[.slice A0_0 l0_0.length c0_0] rfl (by (try simp only [List.map_toArray, List.map_cons, List.map_nil]); first | done | rfl | (simp only [List.length_drop, List.length_take]; rfl)) ?_; (with_reducible refine (cobweblaw11_texts.calls k _ _ l0_0 true _ ?side1 ?side2 A5.out).mono ?_); (case side1 => repeat (first | exact (Kd.C_below HR0_0.out HB.out) | (with_reducible refine Kd.C_alloc ?_ _) | (with_reducible refine Kd.C_drewN ?_ _) | (with_reducible refine Kd.C_drew ?_))); (case side2 => exact HC0_0.out); rintro e w' ⟨rfl, ⟨nd, rfl⟩⟩; refine ⟨_, rfl, ?_⟩))
    go_meet
    case rel => exact ⟨_, (decide ((l1.length : Int) > 40)), (by first | rfl | (simp; done) | (simp [*]; done)), H', ⟨by first | omega | exact Nat.le_refl _⟩, ⟨by (with_reducible repeat (first | refine blk_drewN ?_ _ | refine blk_drew ?_ | refine blk_alloc ?_ _)); exact BK235.out⟩, ⟨by repeat (first | (with_reducible first | exact HB.out | apply below_alloc | apply pw_below_drewN | apply below_drew1 | refine below_set ?_ GE235.out) | exact HB.out)⟩⟩
  ·replace c6 := Bool.eq_false_iff.mpr c6
   subst c6
   have H1 : (cobweblaw11_small.j0 k l1 true) = some r := by rw [if_neg (show ¬ (false = true) by decide)] at H; exact H
   clear H
   have H := H1
   clear H1
   have H' := Aside0.mk H
   clear H
   have hcz10_0 : w4.cell? ⟨gb235, 0, none⟩ = some (.slice A0_0 l0_0.length c0_0) := (blk_cell BK235.out 0).trans rfl
   have hcz10_1 : w4.cell? ⟨gb235, 1, none⟩ = some (.slice A0_1 l0_1.length c0_1) := (blk_cell BK235.out 1).trans rfl
   have hfz10_0 := blk_frozen BK235.out 0
   have hfz10_1 := blk_frozen BK235.out 1
   go_wp2_with (first | ((with_reducible refine gate_callee (f := 44) rfl ?_); refine goesL_ (some 8) rfl rfl Try.func44 (by kernel_rfl) rfl #[.slice A0_0 l0_0.length c0_0] rfl (by (try simp only [List.map_toArray, List.map_cons, List.map_nil]); first | done | rfl | (simp only [List.length_drop, List.length_take]; rfl)) ?_; (with_reducible refine (cobweblaw11_texts.calls k _ _ l0_0 false _ ?side1 ?side2 A5.out).mono ?_); (case side1 => repeat (first | exact (Kd.C_below HR0_0.out HB.out) | (with_reducible refine Kd.C_alloc ?_ _) | (with_reducible refine Kd.C_drewN ?_ _) | (with_reducible refine Kd.C_drew ?_))); (case side2 => exact HC0_0.out); rintro e w' ⟨rfl, ⟨nd, rfl⟩⟩; refine ⟨_, rfl, ?_⟩))
   go_meet
   case rel => exact ⟨_, (true), (by first | rfl | (simp; done) | (simp [*]; done)), H', ⟨by first | omega | exact Nat.le_refl _⟩, ⟨by (with_reducible repeat (first | refine blk_drewN ?_ _ | refine blk_drew ?_ | refine blk_alloc ?_ _)); exact BK235.out⟩, ⟨by repeat (first | (with_reducible first | exact HB.out | apply below_alloc | apply pw_below_drewN | apply below_drew1 | refine below_set ?_ GE235.out) | exact HB.out)⟩⟩
 case rest =>
  clear HC3
  try clear c1
  try clear p2
  try clear c4
  try clear c6
  try clear c7
  try clear c7b0
  try clear c7b1
  try clear hcz10_0
  try clear hcz10_1
  try clear hcz8_0
  try clear hcz8_1
  try clear hcz9_0
  try clear hcz9_1
  try clear hfz10_0
  try clear hfz10_1
  try clear hfz8_0
  try clear hfz8_1
  try clear hfz9_0
  try clear hfz9_1
  obtain ⟨kq, x20_2, rfl, HA, HJ2, BK235, HB⟩ := hcut
  cases kq with
  | zero => exact absurd HA.out (by simp [cobweblaw11_small.j0])
  | succ kj2 =>
   have H := HA.out
   clear HA
   simp only [cobweblaw11_small.j0] at H
   by_cases c11 : x20_2 = true
   ·subst c11
    have H1 : (some false) = some r := by rw [if_pos rfl] at H; exact H
    clear H
    have H := H1
    clear H1
    obtain rfl := Option.some.inj H
    go_wp2
    go_ret
    exact ⟨by first | rfl | (simp [errW_none, errW_some] <;> rfl) | (simp [*, errW_none, errW_some] <;> rfl), by repeat (first | (with_reducible first | exact HB.out | apply below_alloc | apply pw_below_drewN | apply below_drew1 | refine below_set ?_ GE235.out) | exact HB.out)⟩
   ·replace c11 := Bool.eq_false_iff.mpr c11
    subst c11
    have H1 : (cobweblaw11_small.l0 kj2 l1 0) = some r := by rw [if_neg (show ¬ (false = true) by decide)] at H; exact H
    clear H
    have H := H1
    clear H1
    have H' := Aside0.mk H
    clear H
    go_wp2
    go_loopg [5] kj2 (fun kq v5 w' => ∃ (x5_2 : Int), v5 = .int .i64 x5_2 ∧ Aside0 (cobweblaw11_small.l0 kq l1 x5_2 = some r) ∧ Aside0 (kq ≤ kj2) ∧ Aside0 (w'.heap[gb235]? = some (.cells #[(.slice A0_0 l0_0.length c0_0), (.slice A0_1 l0_1.length c0_1)] 26 (0, 0))) ∧ Aside0 (Below w.heap.size w w'))
    case atStart => exact ⟨(0), (by first | rfl | (simp; done) | (simp [*]; done)), H', ⟨Nat.le_refl _⟩, ⟨by (with_reducible repeat (first | refine blk_drewN ?_ _ | refine blk_drew ?_ | refine blk_alloc ?_ _)); exact BK235.out⟩, ⟨by repeat (first | (with_reducible first | exact HB.out | apply below_alloc | apply pw_below_drewN | apply below_drew1 | refine below_set ?_ GE235.out) | exact HB.out)⟩⟩
    case round =>
     clear H'
     try clear c1
     try clear p2
     try clear c4
     try clear c6
     try clear c7
     try clear c7b0
     try clear c7b1
     try clear c11
     try clear hcz10_0
     try clear hcz10_1
     try clear hcz8_0
     try clear hcz8_1
     try clear hcz9_0
     try clear hcz9_1
     try clear hfz10_0
     try clear hfz10_1
     try clear hfz8_0
     try clear hfz8_1
     try clear hfz9_0
     try clear hfz9_1
     try clear p2
     obtain ⟨x5_2, rfl, HA, HK2, BK235, HB⟩ := hrel
     cases gk with
     | zero => exact absurd HA.out (by simp [cobweblaw11_small.l0])
     | succ k2 =>
      have H := HA.out
      clear HA
      simp only [cobweblaw11_small.l0] at H
      by_cases c12 : x5_2 < (l1.length : Int)
      ·rw [if_pos c12] at H
       have c12b0 : decide (x5_2 < (l1.length : Int)) = true := decide_eq_true c12
       clear c12
       by_cases c13 : 0 ≤ x5_2
       ·rw [if_pos c13] at H
        have c13b0 : decide (0 ≤ x5_2) = true := decide_eq_true c13
        clear c13
        replace H := Option.bind_eq_some_iff.mp H
        obtain ⟨t238, A140, H⟩ := H
        replace H : (if t238 = true then (cobweblaw11_small.l0 k2 l1 (wrap64 (x5_2 + 1))) else (some false)) = some r := H
        have A14 := Aside0.mk A140
        clear A140
        by_cases c15 : t238 = true
        ·subst c15
         have H1 : (cobweblaw11_small.l0 k2 l1 (wrap64 (x5_2 + 1))) = some r := by rw [if_pos rfl] at H; exact H
         clear H
         have H := H1
         clear H1
         have H' := Aside0.mk H
         clear H
         have p237 : 0 ≤ (x5_2 : Int) := of_decide_eq_true (by first | (with_reducible assumption) | assumption)
         have q237 : x5_2 < (l1.length : Int) := of_decide_eq_true (by first | (with_reducible assumption) | assumption)
         obtain ⟨ad237, A237_1, c237_1, e237, hx237_0, hx237_1, hx237_2, hl237_1, hi237_1⟩ := at_T28 HR1.out x5_2 p237 q237
         cases e237
         replace hx237_0 := (HB.out.cell (World.block_lt_of_cell? w _ hx237_0)).trans hx237_0
         replace hx237_1 := (HB.out.cell (World.block_lt_of_cell? w _ hx237_1)).trans hx237_1
         replace hx237_2 := (HB.out.cell (World.block_lt_of_cell? w _ hx237_2)).trans hx237_2
         have HR237_1 := Aside0.mk hi237_1
         have HC237_1 := Aside0.mk hl237_1
         clear hi237_1 hl237_1
         replace p237 := eq_true p237
         replace q237 := eq_true q237
         go_wp2_with (first | ((with_reducible refine gate_callee (f := 44) rfl ?_); refine goesL_ (some 32) rfl rfl Try.func44 (by kernel_rfl) rfl #[.slice A237_1 ((rd_T28 l1 x5_2).f1).length c237_1] rfl (by (try simp only [List.map_toArray, List.map_cons, List.map_nil]); first | done | rfl | (simp only [List.length_drop, List.length_take]; rfl)) ?_; (with_reducible refine (cobweblaw11_texts.calls k2 _ _ ((rd_T28 l1 x5_2).f1) true _ ?side1 ?side2 A14.out).mono ?_); (case side1 => repeat (first | exact (Kd.C_below HR237_1.out HB.out) | (with_reducible refine Kd.C_alloc ?_ _) | (with_reducible refine Kd.C_drewN ?_ _) | (with_reducible refine Kd.C_drew ?_))); (case side2 => exact HC237_1.out); rintro e w' ⟨rfl, ⟨nd, rfl⟩⟩; refine ⟨_, rfl, ?_⟩))
         go_roundg k2
         case measure => have := HJ2.out; have := HK2.out; omega
         case rel => exact ⟨(wrap64 (x5_2 + 1)), (by first | rfl | (simp; done) | (simp [*]; done)), H', ⟨by have := HJ2.out; have := HK2.out; omega⟩, ⟨by (with_reducible repeat (first | refine blk_drewN ?_ _ | refine blk_drew ?_ | refine blk_alloc ?_ _)); exact BK235.out⟩, ⟨by repeat (first | (with_reducible first | exact HB.out | apply below_alloc | apply pw_below_drewN | apply below_drew1 | refine below_set ?_ GE235.out) | exact HB.out)⟩⟩
        ·replace c15 := Bool.eq_false_iff.mpr c15
         subst c15
         have H1 : (some false) = some r := by rw [if_neg (show ¬ (false = true) by decide)] at H; exact H
         clear H
         have H := H1
         clear H1
         obtain rfl := Option.some.inj H
         have p237 : 0 ≤ (x5_2 : Int) := of_decide_eq_true (by first | (with_reducible assumption) | assumption)
         have q237 : x5_2 < (l1.length : Int) := of_decide_eq_true (by first | (with_reducible assumption) | assumption)
         obtain ⟨ad237, A237_1, c237_1, e237, hx237_0, hx237_1, hx237_2, hl237_1, hi237_1⟩ := at_T28 HR1.out x5_2 p237 q237
         cases e237
         replace hx237_0 := (HB.out.cell (World.block_lt_of_cell? w _ hx237_0)).trans hx237_0
         replace hx237_1 := (HB.out.cell (World.block_lt_of_cell? w _ hx237_1)).trans hx237_1
         replace hx237_2 := (HB.out.cell (World.block_lt_of_cell? w _ hx237_2)).trans hx237_2
         have HR237_1 := Aside0.mk hi237_1
         have HC237_1 := Aside0.mk hl237_1
         clear hi237_1 hl237_1
         replace p237 := eq_true p237
         replace q237 := eq_true q237
         go_wp2_with (first | ((with_reducible refine gate_callee (f := 44) rfl ?_); refine goesL_ (some 32) rfl rfl Try.func44 (by kernel_rfl) rfl #[.slice A237_1 ((rd_T28 l1 x5_2).f1).length c237_1] rfl (by (try simp only [List.map_toArray, List.map_cons, List.map_nil]); first | done | rfl | (simp only [List.length_drop, List.length_take]; rfl)) ?_; (with_reducible refine (cobweblaw11_texts.calls k2 _ _ ((rd_T28 l1 x5_2).f1) false _ ?side1 ?side2 A14.out).mono ?_); (case side1 => repeat (first | exact (Kd.C_below HR237_1.out HB.out) | (with_reducible refine Kd.C_alloc ?_ _) | (with_reducible refine Kd.C_drewN ?_ _) | (with_reducible refine Kd.C_drew ?_))); (case side2 => exact HC237_1.out); rintro e w' ⟨rfl, ⟨nd, rfl⟩⟩; refine ⟨_, rfl, ?_⟩))
         go_ret
         exact ⟨by first | rfl | (simp [errW_none, errW_some] <;> rfl) | (simp [*, errW_none, errW_some] <;> rfl), by repeat (first | (with_reducible first | exact HB.out | apply below_alloc | apply pw_below_drewN | apply below_drew1 | refine below_set ?_ GE235.out) | exact HB.out)⟩
       ·rw [if_neg c13] at H
        exact absurd H (by simp)
      ·rw [if_neg c12] at H
       have c12b0 : decide (x5_2 < (l1.length : Int)) = false := decide_eq_false c12
       clear c12
       obtain rfl := Option.some.inj H
       go_wp2
       go_ret
       exact ⟨by first | rfl | (simp [errW_none, errW_some] <;> rfl) | (simp [*, errW_none, errW_some] <;> rfl), by repeat (first | (with_reducible first | exact HB.out | apply below_alloc | apply pw_below_drewN | apply below_drew1 | refine below_set ?_ GE235.out) | exact HB.out)⟩
end Go.Proofs.Ytneagipmllgejaa.PL
end
section
namespace Go.Proofs.Ytneagipmllgejaa.PL
open Go.RowKit Go.Proofs.YtneagipmllgejaaW.PrintWords Go.Proofs.YtneagipmllgejaaW.PrintLast Go.Proofs.YtneagipmllgejaaW.PrintMore
attribute [local go_sem] max2_int min2_int max_two min_two max_three min_three max_four min_four   -- for this text's walks alone
set_option linter.unusedVariables false
set_option linter.unusedSimpArgs false
def cobwebref11_Texts.l0 : Nat → List ByteArray → List ByteArray → Int → Option (Bool)
 | 0, _, _, _ => none
 | k + 1, x0, x1, x5 => if x5 < (x0.length : Int) then (if 0 ≤ x5 then (if x5 < (x1.length : Int) then (if (rdOf ByteArray.empty x0 x5).toList = (rdOf ByteArray.empty x1 x5).toList then (cobwebref11_Texts.l0 k x0 x1 (wrap64 (x5 + 1))) else (some false)) else (none)) else (none)) else (some true)
def cobwebref11_Texts.f (k : Nat) (l0 : List ByteArray) (l1 : List ByteArray) : Option (Bool) := if (l0.length : Int) = (l1.length : Int) then (cobwebref11_Texts.l0 k l0 l1 0) else (some false)
theorem cobwebref11_Texts.mono_l : ∀ k, (∀ y0 y1 y2, LeO (cobwebref11_Texts.l0 k y0 y1 y2) (cobwebref11_Texts.l0 (k + 1) y0 y1 y2))
 | 0 => fun _ _ _ r h => by simp [cobwebref11_Texts.l0] at h
 | k + 1 => by
  have ih0 := cobwebref11_Texts.mono_l k
  ·intro y0 y1 y2
   unfold cobwebref11_Texts.l0
   repeat' first
   | (with_reducible exact ih0 _ _ _)
   | (with_reducible exact LeO.refl _)
   | (with_reducible exact LeO.none _)
   | (with_reducible refine LeO.ite ?_ ?_)
   | (with_reducible refine LeO.bind ?_ (fun _ => ?_))
   | exact ih0 _ _ _
   | exact LeO.none _
   | refine LeO.ite ?_ ?_
   | refine LeO.bind ?_ (fun _ => ?_)
theorem cobwebref11_Texts.mono : ∀ a0 a1 k, LeO (cobwebref11_Texts.f k a0 a1) (cobwebref11_Texts.f (k + 1) a0 a1) := by
 intro a0 a1 k
 have ih0 := cobwebref11_Texts.mono_l k
 unfold cobwebref11_Texts.f
 repeat' first
   | (with_reducible exact ih0 _ _ _)
   | (with_reducible exact LeO.refl _)
   | (with_reducible exact LeO.none _)
   | (with_reducible refine LeO.ite ?_ ?_)
   | (with_reducible refine LeO.bind ?_ (fun _ => ?_))
   | exact ih0 _ _ _
   | exact LeO.none _
   | refine LeO.ite ?_ ?_
   | refine LeO.bind ?_ (fun _ => ?_)
set_option maxHeartbeats 8000000 in
set_option maxRecDepth 100000 in
theorem cobwebref11_Texts.calls (k : Nat) (A0 : Option Addr) (c0 : Nat) (l0 : List ByteArray) (A1 : Option Addr) (c1 : Nat) (l1 : List ByteArray) (r : Bool) (w : World) (hr0 : Kd.C Kd.string w A0 l0.length l0) (hc0 : l0.length ≤ c0) (hr1 : Kd.C Kd.string w A1 l1.length l1) (hc1 : l1.length ≤ c1) (h : cobwebref11_Texts.f k l0 l1 = some r) :
  Calls Try.prog 15 #[.slice A0 l0.length c0, .slice A1 l1.length c1] w fun e w' => e = .returned (.bool r) ∧ Drawn0 w w' := by
 have HR0 := Aside0.mk hr0
 have HC0 := Aside0.mk hc0
 clear hr0 hc0
 have HR1 := Aside0.mk hr1
 have HC1 := Aside0.mk hc1
 clear hr1 hc1
 have H : (if (l0.length : Int) = (l1.length : Int) then (cobwebref11_Texts.l0 k l0 l1 0) else (some false)) = some r := h
 clear h
 by_cases c3 : (l0.length : Int) = (l1.length : Int)
 ·rw [if_pos c3] at H
  have c3b0 : ((l0.length : Int) == (l1.length : Int)) = true := beq_iff_eq.mpr c3
  have c3b1 : ((l0.length : Int) != (l1.length : Int)) = false := bne_eq_false_iff_eq.mpr c3
  have c3b2 : (l0.length == l1.length) = true := by first | simpa using c3 | (simp at c3 ⊢; omega)
  clear c3
  have H' := Aside0.mk H
  clear H
  go_enter Try.func15, Try.ntmps15
  go_wp2
  repeat (go_quiet (fail); try go_wp2)
  go_loopg [5] k (fun kq v5 w' => ∃ (x5_1 : Int), v5 = .int .i64 x5_1 ∧ Aside0 (cobwebref11_Texts.l0 kq l0 l1 x5_1 = some r) ∧ Aside0 (kq ≤ k) ∧ Drawn0 w w')
  case atStart => exact ⟨(0), (by first | rfl | (simp; done) | (simp [*]; done)), H', ⟨Nat.le_refl _⟩, by repeat (first | exact Drawn0.refl _ | apply Drawn0.step)⟩
  case round =>
   clear H'
   try clear c1
   try clear p2
   try clear c3
   try clear c3b0
   try clear c3b1
   try clear c3b2
   obtain ⟨x5_1, rfl, HA, HK1, ⟨m1, rfl⟩⟩ := hrel
   cases gk with
   | zero => exact absurd HA.out (by simp [cobwebref11_Texts.l0])
   | succ k1 =>
    have H := HA.out
    clear HA
    simp only [cobwebref11_Texts.l0] at H
    by_cases c4 : x5_1 < (l0.length : Int)
    ·rw [if_pos c4] at H
     have c4b0 : decide (x5_1 < (l0.length : Int)) = true := decide_eq_true c4
     clear c4
     by_cases c5 : 0 ≤ x5_1
     ·rw [if_pos c5] at H
      have c5b0 : decide (0 ≤ x5_1) = true := decide_eq_true c5
      clear c5
      by_cases c6 : x5_1 < (l1.length : Int)
      ·rw [if_pos c6] at H
       have c6b0 : decide (x5_1 < (l1.length : Int)) = true := decide_eq_true c6
       clear c6
       by_cases c7 : (rdOf ByteArray.empty l0 x5_1).toList = (rdOf ByteArray.empty l1 x5_1).toList
       ·rw [if_pos c7] at H
        have c7b0 : ((rdOf ByteArray.empty l0 x5_1).toList == (rdOf ByteArray.empty l1 x5_1).toList) = true := beq_iff_eq.mpr c7
        have c7b1 : ((rdOf ByteArray.empty l0 x5_1).toList != (rdOf ByteArray.empty l1 x5_1).toList) = false := bne_eq_false_iff_eq.mpr c7
        clear c7
        have H' := Aside0.mk H
        clear H
        have p163 : 0 ≤ (x5_1 : Int) := of_decide_eq_true (by first | (with_reducible assumption) | assumption)
        have q163 : x5_1 < (l0.length : Int) := of_decide_eq_true (by first | (with_reducible assumption) | assumption)
        obtain ⟨ad163, e163, hx163_0⟩ := Kd.at_string HR0.out x5_1 p163 q163
        cases e163
        replace p163 := eq_true p163
        replace q163 := eq_true q163
        have p164 : 0 ≤ (x5_1 : Int) := of_decide_eq_true (by first | (with_reducible assumption) | assumption)
        have q164 : x5_1 < (l1.length : Int) := of_decide_eq_true (by first | (with_reducible assumption) | assumption)
        obtain ⟨ad164, e164, hx164_0⟩ := Kd.at_string HR1.out x5_1 p164 q164
        cases e164
        replace p164 := eq_true p164
        replace q164 := eq_true q164
        go_wp2
        repeat (go_quiet (fail); try go_wp2)
        go_roundg k1
        case measure => have := HK1.out; omega
        case rel => exact ⟨(wrap64 (x5_1 + 1)), (by first | rfl | (simp; done) | (simp [*]; done)), H', ⟨by have := HK1.out; omega⟩, by repeat (first | exact Drawn0.refl _ | apply Drawn0.step)⟩
       ·rw [if_neg c7] at H
        have c7b0 : ((rdOf ByteArray.empty l0 x5_1).toList == (rdOf ByteArray.empty l1 x5_1).toList) = false := beq_eq_false_iff_ne.mpr c7
        have c7b1 : ((rdOf ByteArray.empty l0 x5_1).toList != (rdOf ByteArray.empty l1 x5_1).toList) = true := bne_iff_ne.mpr c7
        obtain rfl := Option.some.inj H
        have p163 : 0 ≤ (x5_1 : Int) := of_decide_eq_true (by first | (with_reducible assumption) | assumption)
        have q163 : x5_1 < (l0.length : Int) := of_decide_eq_true (by first | (with_reducible assumption) | assumption)
        obtain ⟨ad163, e163, hx163_0⟩ := Kd.at_string HR0.out x5_1 p163 q163
        cases e163
        replace p163 := eq_true p163
        replace q163 := eq_true q163
        have p164 : 0 ≤ (x5_1 : Int) := of_decide_eq_true (by first | (with_reducible assumption) | assumption)
        have q164 : x5_1 < (l1.length : Int) := of_decide_eq_true (by first | (with_reducible assumption) | assumption)
        obtain ⟨ad164, e164, hx164_0⟩ := Kd.at_string HR1.out x5_1 p164 q164
        cases e164
        replace p164 := eq_true p164
        replace q164 := eq_true q164
        go_wp2
        repeat (go_quiet (fail); try go_wp2)
        go_ret
        exact ⟨by first | rfl | (simp; done) | (simp [*]; done), by repeat (first | exact Drawn0.refl _ | apply Drawn0.step)⟩
      ·rw [if_neg c6] at H
       exact absurd H (by simp)
     ·rw [if_neg c5] at H
      exact absurd H (by simp)
    ·rw [if_neg c4] at H
     have c4b0 : decide (x5_1 < (l0.length : Int)) = false := decide_eq_false c4
     clear c4
     obtain rfl := Option.some.inj H
     go_wp2
     repeat (go_quiet (fail); try go_wp2)
     go_ret
     exact ⟨by first | rfl | (simp; done) | (simp [*]; done), by repeat (first | exact Drawn0.refl _ | apply Drawn0.step)⟩
 ·rw [if_neg c3] at H
  have c3b0 : ((l0.length : Int) == (l1.length : Int)) = false := beq_eq_false_iff_ne.mpr c3
  have c3b1 : ((l0.length : Int) != (l1.length : Int)) = true := bne_iff_ne.mpr c3
  have c3b2 : (l0.length == l1.length) = false := by first | simpa using c3 | (simp at c3 ⊢; omega)
  obtain rfl := Option.some.inj H
  go_enter Try.func15, Try.ntmps15
  go_wp2
  repeat (go_quiet (fail); try go_wp2)
  go_ret
  exact ⟨by first | rfl | (simp; done) | (simp [*]; done), by repeat (first | exact Drawn0.refl _ | apply Drawn0.step)⟩
end Go.Proofs.Ytneagipmllgejaa.PL
end
section
namespace Go.Proofs.Ytneagipmllgejaa.PL
open Go.RowKit Go.Proofs.YtneagipmllgejaaW.PrintWords Go.Proofs.YtneagipmllgejaaW.PrintLast Go.Proofs.YtneagipmllgejaaW.PrintMore
attribute [local go_sem] max2_int min2_int max_two min_two max_three min_three max_four min_four   -- for this text's walks alone
set_option linter.unusedVariables false
set_option linter.unusedSimpArgs false
def cobwebref11_SameRoot.l0 : Nat → Int → List ByteArray → List Int → List ByteArray → List Int → Option (Bool)
 | 0, _, _, _, _, _ => none
 | k + 1, x5, x166000, x166001, x167000, x167001 => if x5 < (x166001.length : Int) then (if 0 ≤ x5 then (if x5 < (x167001.length : Int) then (if (rd x166001 x5) = (rd x167001 x5) then (cobwebref11_SameRoot.l0 k (wrap64 (x5 + 1)) x166000 x166001 x167000 x167001) else (some false)) else (none)) else (none)) else ((cobwebref11_Texts.f k x166000 x167000).bind fun t169 => (some t169))
def cobwebref11_SameRoot.f (k : Nat) (l0_0 : List ByteArray) (l0_1 : List Int) (l1_0 : List ByteArray) (l1_1 : List Int) : Option (Bool) := if (l0_1.length : Int) = (l1_1.length : Int) then (cobwebref11_SameRoot.l0 k 0 l0_0 l0_1 l1_0 l1_1) else (some false)
theorem cobwebref11_SameRoot.mono_l : ∀ k, (∀ y0 y1 y2 y3 y4, LeO (cobwebref11_SameRoot.l0 k y0 y1 y2 y3 y4) (cobwebref11_SameRoot.l0 (k + 1) y0 y1 y2 y3 y4))
 | 0 => fun _ _ _ _ _ r h => by simp [cobwebref11_SameRoot.l0] at h
 | k + 1 => by
  have ih0 := cobwebref11_SameRoot.mono_l k
  ·intro y0 y1 y2 y3 y4
   unfold cobwebref11_SameRoot.l0
   repeat' first
   | (with_reducible exact ih0 _ _ _ _ _)
   | (with_reducible exact cobwebref11_Texts.mono _ _ _)
   | (with_reducible exact LeO.refl _)
   | (with_reducible exact LeO.none _)
   | (with_reducible refine LeO.ite ?_ ?_)
   | (with_reducible refine LeO.bind ?_ (fun _ => ?_))
   | exact ih0 _ _ _ _ _
   | exact cobwebref11_Texts.mono _ _ _
   | exact LeO.none _
   | refine LeO.ite ?_ ?_
   | refine LeO.bind ?_ (fun _ => ?_)
theorem cobwebref11_SameRoot.mono : ∀ a0 a1 a2 a3 k, LeO (cobwebref11_SameRoot.f k a0 a1 a2 a3) (cobwebref11_SameRoot.f (k + 1) a0 a1 a2 a3) := by
 intro a0 a1 a2 a3 k
 have ih0 := cobwebref11_SameRoot.mono_l k
 unfold cobwebref11_SameRoot.f
 repeat' first
   | (with_reducible exact ih0 _ _ _ _ _)
   | (with_reducible exact cobwebref11_Texts.mono _ _ _)
   | (with_reducible exact LeO.refl _)
   | (with_reducible exact LeO.none _)
   | (with_reducible refine LeO.ite ?_ ?_)
   | (with_reducible refine LeO.bind ?_ (fun _ => ?_))
   | exact ih0 _ _ _ _ _
   | exact cobwebref11_Texts.mono _ _ _
   | exact LeO.none _
   | refine LeO.ite ?_ ?_
   | refine LeO.bind ?_ (fun _ => ?_)
set_option maxHeartbeats 8000000 in
set_option maxRecDepth 100000 in
theorem cobwebref11_SameRoot.calls (k : Nat) (A0_0 : Option Addr) (c0_0 : Nat) (l0_0 : List ByteArray) (A0_1 : Option Addr) (c0_1 : Nat) (l0_1 : List Int) (A1_0 : Option Addr) (c1_0 : Nat) (l1_0 : List ByteArray) (A1_1 : Option Addr) (c1_1 : Nat) (l1_1 : List Int) (r : Bool) (w : World) (hr0_0 : Kd.C Kd.string w A0_0 l0_0.length l0_0) (hc0_0 : l0_0.length ≤ c0_0) (hr0_1 : Kd.C (Kd.int .i64) w A0_1 l0_1.length l0_1) (hc0_1 : l0_1.length ≤ c0_1) (hr1_0 : Kd.C Kd.string w A1_0 l1_0.length l1_0) (hc1_0 : l1_0.length ≤ c1_0) (hr1_1 : Kd.C (Kd.int .i64) w A1_1 l1_1.length l1_1) (hc1_1 : l1_1.length ≤ c1_1) (h : cobwebref11_SameRoot.f k l0_0 l0_1 l1_0 l1_1 = some r) :
  Calls Try.prog 21 #[.agg #[.slice A0_0 l0_0.length c0_0, .slice A0_1 l0_1.length c0_1], .agg #[.slice A1_0 l1_0.length c1_0, .slice A1_1 l1_1.length c1_1]] w fun e w' => e = .returned (.bool r) ∧ Below w.heap.size w w' := by
 have hu26 := Try.underlying26
 have HR0_0 := Aside0.mk hr0_0
 have HC0_0 := Aside0.mk hc0_0
 clear hr0_0 hc0_0
 have HR0_1 := Aside0.mk hr0_1
 have HC0_1 := Aside0.mk hc0_1
 clear hr0_1 hc0_1
 have HR1_0 := Aside0.mk hr1_0
 have HC1_0 := Aside0.mk hc1_0
 clear hr1_0 hc1_0
 have HR1_1 := Aside0.mk hr1_1
 have HC1_1 := Aside0.mk hc1_1
 clear hr1_1 hc1_1
 have HB := Aside0.mk (Below.refl w.heap.size w)
 have H : (if (l0_1.length : Int) = (l1_1.length : Int) then (cobwebref11_SameRoot.l0 k 0 l0_0 l0_1 l1_0 l1_1) else (some false)) = some r := h
 clear h
 by_cases c3 : (l0_1.length : Int) = (l1_1.length : Int)
 ·rw [if_pos c3] at H
  have c3b0 : ((l0_1.length : Int) == (l1_1.length : Int)) = true := beq_iff_eq.mpr c3
  have c3b1 : ((l0_1.length : Int) != (l1_1.length : Int)) = false := bne_eq_false_iff_eq.mpr c3
  have c3b2 : (l0_1.length == l1_1.length) = true := by first | simpa using c3 | (simp at c3 ⊢; omega)
  clear c3
  have H' := Aside0.mk H
  clear H
  go_enter Try.func21, Try.ntmps21
  go_wp2_with (first | ((with_reducible refine gate_dst (N := 2) rfl ?_); refine box_event ?hg (N := 2) ?hd (cs := #[.slice A0_0 l0_0.length c0_0, .slice A0_1 l0_1.length c0_1]) (t := 26) ?hr ?_; (case hd => rfl); (case hg => rfl); (case hr => first | (go_simp; done) | (go_simp; rfl)); intro gb165 hg w4 hbox hb; have n0_ := Aside0.mk (below_step (by repeat (first | (with_reducible first | exact HB.out | apply below_alloc | apply pw_below_drewN | apply below_drew1) | exact HB.out)) hb); have n1_ := Aside0.mk (hbox); have n2_ := Aside0.mk ((by rw [hg]; exact (below_size (by repeat (first | (with_reducible first | exact HB.out | apply below_alloc | apply pw_below_drewN | apply below_drew1) | exact HB.out))) : w.heap.size ≤ gb165)); have n3_ := Aside0.mk ((by rw [hg]; exact (below_size (by repeat (first | (with_reducible first | exact HB.out | apply below_alloc | apply pw_below_drewN | apply below_drew1) | exact HB.out))) : w.heap.size ≤ gb165)); clear HB; have HB := n0_; have BK165 := n1_; have GW165 := n2_; have GE165 := n3_; clear n0_ n1_ n2_ n3_; clear hb hbox hg) | ((with_reducible refine gate_dst (N := 3) rfl ?_); refine box_event ?hg (N := 3) ?hd (cs := #[.slice A1_0 l1_0.length c1_0, .slice A1_1 l1_1.length c1_1]) (t := 26) ?hr ?_; (case hd => rfl); (case hg => rfl); (case hr => first | (go_simp; done) | (go_simp; rfl)); intro gb166 hg w5 hbox hb; have n0_ := Aside0.mk (blk_below (g := gb165) (o := .cells #[.slice A0_0 l0_0.length c0_0, .slice A0_1 l0_1.length c0_1] 26 (0, 0)) (by (with_reducible repeat (first | refine blk_drewN ?_ _ | refine blk_drew ?_ | refine blk_alloc ?_ _)); exact BK165.out) hb); have n1_ := Aside0.mk (below_step (by repeat (first | (with_reducible first | exact HB.out | apply below_alloc | apply pw_below_drewN | apply below_drew1 | refine below_set ?_ GE165.out) | exact HB.out)) hb); have n2_ := Aside0.mk (hbox); have n3_ := Aside0.mk ((by rw [hg]; exact (below_size (by repeat (first | (with_reducible first | exact HB.out | apply below_alloc | apply pw_below_drewN | apply below_drew1 | refine below_set ?_ GE165.out) | exact HB.out))) : w.heap.size ≤ gb166)); have n4_ := Aside0.mk ((by rw [hg]; exact (below_size (by repeat (first | (with_reducible first | exact HB.out | apply below_alloc | apply pw_below_drewN | apply below_drew1 | refine below_set ?_ GE165.out) | exact HB.out))) : w.heap.size ≤ gb166)); have n5_ := Aside0.mk ((by rw [hg]; exact Nat.ne_of_lt (blk_lt (g := gb165) (o := .cells #[.slice A0_0 l0_0.length c0_0, .slice A0_1 l0_1.length c0_1] 26 (0, 0)) (by (with_reducible repeat (first | refine blk_drewN ?_ _ | refine blk_drew ?_ | refine blk_alloc ?_ _)); exact BK165.out)) : gb165 ≠ gb166)); have n6_ := Aside0.mk ((by rw [hg]; exact Nat.ne_of_gt (blk_lt (g := gb165) (o := .cells #[.slice A0_0 l0_0.length c0_0, .slice A0_1 l0_1.length c0_1] 26 (0, 0)) (by (with_reducible repeat (first | refine blk_drewN ?_ _ | refine blk_drew ?_ | refine blk_alloc ?_ _)); exact BK165.out)) : gb166 ≠ gb165)); clear BK165; clear HB; have BK165 := n0_; have HB := n1_; have BK166 := n2_; have GW166 := n3_; have GE166 := n4_; have NB165_166 := n5_; have NB166_165 := n6_; clear n0_ n1_ n2_ n3_ n4_ n5_ n6_; clear hb hbox hg; have hnb6 := NB165_166.out; have hnc6 := NB166_165.out; have hcz7_0 : w5.cell? ⟨gb165, 0, none⟩ = some (.slice A0_0 l0_0.length c0_0) := (blk_cell BK165.out 0).trans rfl; have hcz7_1 : w5.cell? ⟨gb165, 1, none⟩ = some (.slice A0_1 l0_1.length c0_1) := (blk_cell BK165.out 1).trans rfl; have hfz7_0 := blk_frozen BK165.out 0; have hfz7_1 := blk_frozen BK165.out 1; have hcz8_0 : w5.cell? ⟨gb166, 0, none⟩ = some (.slice A1_0 l1_0.length c1_0) := (blk_cell BK166.out 0).trans rfl; have hcz8_1 : w5.cell? ⟨gb166, 1, none⟩ = some (.slice A1_1 l1_1.length c1_1) := (blk_cell BK166.out 1).trans rfl; have hfz8_0 := blk_frozen BK166.out 0; have hfz8_1 := blk_frozen BK166.out 1))
  repeat (go_quiet (first | ((with_reducible refine gate_dst (N := 2) rfl ?_); refine box_event ?hg (N := 2) ?hd (cs := #[.slice A0_0 l0_0.length c0_0, .slice A0_1 l0_1.length c0_1]) (t := 26) ?hr ?_; (case hd => rfl); (case hg => rfl); (case hr => first | (go_simp; done) | (go_simp; rfl)); intro gb165 hg w4 hbox hb; have n0_ := Aside0.mk (below_step (by repeat (first | (with_reducible first | exact HB.out | apply below_alloc | apply pw_below_drewN | apply below_drew1) | exact HB.out)) hb); have n1_ := Aside0.mk (hbox); have n2_ := Aside0.mk ((by rw [hg]; exact (below_size (by repeat (first | (with_reducible first | exact HB.out | apply below_alloc | apply pw_below_drewN | apply below_drew1) | exact HB.out))) : w.heap.size ≤ gb165)); have n3_ := Aside0.mk ((by rw [hg]; exact (below_size (by repeat (first | (with_reducible first | exact HB.out | apply below_alloc | apply pw_below_drewN | apply below_drew1) | exact HB.out))) : w.heap.size ≤ gb165)); clear HB; have HB := n0_; have BK165 := n1_; have GW165 := n2_; have GE165 := n3_; clear n0_ n1_ n2_ n3_; clear hb hbox hg) | ((with_reducible refine gate_dst (N := 3) rfl ?_); refine box_event ?hg (N := 3) ?hd (cs := #[.slice A1_0 l1_0.length c1_0, .slice A1_1 l1_1.length c1_1]) (t := 26) ?hr ?_; (case hd => rfl); (case hg => rfl); (case hr => first | (go_simp; done) | (go_simp; rfl)); intro gb166 hg w5 hbox hb; have n0_ := Aside0.mk (blk_below (g := gb165) (o := .cells #[.slice A0_0 l0_0.length c0_0, .slice A0_1 l0_1.length c0_1] 26 (0, 0)) (by (with_reducible repeat (first | refine blk_drewN ?_ _ | refine blk_drew ?_ | refine blk_alloc ?_ _)); exact BK165.out) hb); have n1_ := Aside0.mk (below_step (by repeat (first | (with_reducible first | exact HB.out | apply below_alloc | apply pw_below_drewN | apply below_drew1 | refine below_set ?_ GE165.out) | exact HB.out)) hb); have n2_ := Aside0.mk (hbox); have n3_ := Aside0.mk ((by rw [hg]; exact (below_size (by repeat (first | (with_reducible first | exact HB.out | apply below_alloc | apply pw_below_drewN | apply below_drew1 | refine below_set ?_ GE165.out) | exact HB.out))) : w.heap.size ≤ gb166)); have n4_ := Aside0.mk ((by rw [hg]; exact (below_size (by repeat (first | (with_reducible first | exact HB.out | apply below_alloc | apply pw_below_drewN | apply below_drew1 | refine below_set ?_ GE165.out) | exact HB.out))) : w.heap.size ≤ gb166)); have n5_ := Aside0.mk ((by rw [hg]; exact Nat.ne_of_lt (blk_lt (g := gb165) (o := .cells #[.slice A0_0 l0_0.length c0_0, .slice A0_1 l0_1.length c0_1] 26 (0, 0)) (by (with_reducible repeat (first | refine blk_drewN ?_ _ | refine blk_drew ?_ | refine blk_alloc ?_ _)); exact BK165.out)) : gb165 ≠ gb166)); have n6_ := Aside0.mk ((by rw [hg]; exact Nat.ne_of_gt (blk_lt (g := gb165) (o := .cells #[.slice A0_0 l0_0.length c0_0, .slice A0_1 l0_1.length c0_1] 26 (0, 0)) (by (with_reducible repeat (first | refine blk_drewN ?_ _ | refine blk_drew ?_ | refine blk_alloc ?_ _)); exact BK165.out)) : gb166 ≠ gb165)); clear BK165; clear HB; have BK165 := n0_; have HB := n1_; have BK166 := n2_; have GW166 := n3_; have GE166 := n4_; have NB165_166 := n5_; have NB166_165 := n6_; clear n0_ n1_ n2_ n3_ n4_ n5_ n6_; clear hb hbox hg; have hnb6 := NB165_166.out; have hnc6 := NB166_165.out; have hcz7_0 : w5.cell? ⟨gb165, 0, none⟩ = some (.slice A0_0 l0_0.length c0_0) := (blk_cell BK165.out 0).trans rfl; have hcz7_1 : w5.cell? ⟨gb165, 1, none⟩ = some (.slice A0_1 l0_1.length c0_1) := (blk_cell BK165.out 1).trans rfl; have hfz7_0 := blk_frozen BK165.out 0; have hfz7_1 := blk_frozen BK165.out 1; have hcz8_0 : w5.cell? ⟨gb166, 0, none⟩ = some (.slice A1_0 l1_0.length c1_0) := (blk_cell BK166.out 0).trans rfl; have hcz8_1 : w5.cell? ⟨gb166, 1, none⟩ = some (.slice A1_1 l1_1.length c1_1) := (blk_cell BK166.out 1).trans rfl; have hfz8_0 := blk_frozen BK166.out 0; have hfz8_1 := blk_frozen BK166.out 1)); try go_wp2_with (first | ((with_reducible refine gate_dst (N := 2) rfl ?_); refine box_event ?hg (N := 2) ?hd (cs := #[.slice A0_0 l0_0.length c0_0, .slice A0_1 l0_1.length c0_1]) (t := 26) ?hr ?_; (case hd => rfl); (case hg => rfl); (case hr => first | (go_simp; done) | (go_simp; rfl)); intro gb165 hg w4 hbox hb; have n0_ := Aside0.mk (below_step (by repeat (first | (with_reducible first | exact HB.out | apply below_alloc | apply pw_below_drewN | apply below_drew1) | exact HB.out)) hb); have n1_ := Aside0.mk (hbox); have n2_ := Aside0.mk ((by rw [hg]; exact (below_size (by repeat (first | (with_reducible first | exact HB.out | apply below_alloc | apply pw_below_drewN | apply below_drew1) | exact HB.out))) : w.heap.size ≤ gb165)); have n3_ := Aside0.mk ((by rw [hg]; exact (below_size (by repeat (first | (with_reducible first | exact HB.out | apply below_alloc | apply pw_below_drewN | apply below_drew1) | exact HB.out))) : w.heap.size ≤ gb165)); clear HB; have HB := n0_; have BK165 := n1_; have GW165 := n2_; have GE165 := n3_; clear n0_ n1_ n2_ n3_; clear hb hbox hg) | ((with_reducible refine gate_dst (N := 3) rfl ?_); refine box_event ?hg (N := 3) ?hd (cs := #[.slice A1_0 l1_0.length c1_0, .slice A1_1 l1_1.length c1_1]) (t := 26) ?hr ?_; (case hd => rfl); (case hg => rfl); (case hr => first | (go_simp; done) | (go_simp; rfl)); intro gb166 hg w5 hbox hb; have n0_ := Aside0.mk (blk_below (g := gb165) (o := .cells #[.slice A0_0 l0_0.length c0_0, .slice A0_1 l0_1.length c0_1] 26 (0, 0)) (by (with_reducible repeat (first | refine blk_drewN ?_ _ | refine blk_drew ?_ | refine blk_alloc ?_ _)); exact BK165.out) hb); have n1_ := Aside0.mk (below_step (by repeat (first | (with_reducible first | exact HB.out | apply below_alloc | apply pw_below_drewN | apply below_drew1 | refine below_set ?_ GE165.out) | exact HB.out)) hb); have n2_ := Aside0.mk (hbox); have n3_ := Aside0.mk ((by rw [hg]; exact (below_size (by repeat (first | (with_reducible first | exact HB.out | apply below_alloc | apply pw_below_drewN | apply below_drew1 | refine below_set ?_ GE165.out) | exact HB.out))) : w.heap.size ≤ gb166)); have n4_ := Aside0.mk ((by rw [hg]; exact (below_size (by repeat (first | (with_reducible first | exact HB.out | apply below_alloc | apply pw_below_drewN | apply below_drew1 | refine below_set ?_ GE165.out) | exact HB.out))) : w.heap.size ≤ gb166)); have n5_ := Aside0.mk ((by rw [hg]; exact Nat.ne_of_lt (blk_lt (g := gb165) (o := .cells #[.slice A0_0 l0_0.length c0_0, .slice A0_1 l0_1.length c0_1] 26 (0, 0)) (by (with_reducible repeat (first | refine blk_drewN ?_ _ | refine blk_drew ?_ | refine blk_alloc ?_ _)); exact BK165.out)) : gb165 ≠ gb166)); have n6_ := Aside0.mk ((by rw [hg]; exact Nat.ne_of_gt (blk_lt (g := gb165) (o := .cells #[.slice A0_0 l0_0.length c0_0, .slice A0_1 l0_1.length c0_1] 26 (0, 0)) (by (with_reducible repeat (first | refine blk_drewN ?_ _ | refine blk_drew ?_ | refine blk_alloc ?_ _)); exact BK165.out)) : gb166 ≠ gb165)); clear BK165; clear HB; have BK165 := n0_; have HB := n1_; have BK166 := n2_; have GW166 := n3_; have GE166 := n4_; have NB165_166 := n5_; have NB166_165 := n6_; clear n0_ n1_ n2_ n3_ n4_ n5_ n6_; clear hb hbox hg; have hnb6 := NB165_166.out; have hnc6 := NB166_165.out; have hcz7_0 : w5.cell? ⟨gb165, 0, none⟩ = some (.slice A0_0 l0_0.length c0_0) := (blk_cell BK165.out 0).trans rfl; have hcz7_1 : w5.cell? ⟨gb165, 1, none⟩ = some (.slice A0_1 l0_1.length c0_1) := (blk_cell BK165.out 1).trans rfl; have hfz7_0 := blk_frozen BK165.out 0; have hfz7_1 := blk_frozen BK165.out 1; have hcz8_0 : w5.cell? ⟨gb166, 0, none⟩ = some (.slice A1_0 l1_0.length c1_0) := (blk_cell BK166.out 0).trans rfl; have hcz8_1 : w5.cell? ⟨gb166, 1, none⟩ = some (.slice A1_1 l1_1.length c1_1) := (blk_cell BK166.out 1).trans rfl; have hfz8_0 := blk_frozen BK166.out 0; have hfz8_1 := blk_frozen BK166.out 1)))
  go_loopg [5] k (fun kq v5 w' => ∃ (x5_1 : Int), v5 = .int .i64 x5_1 ∧ Aside0 (cobwebref11_SameRoot.l0 kq x5_1 l0_0 l0_1 l1_0 l1_1 = some r) ∧ Aside0 (kq ≤ k) ∧ Aside0 (w'.heap[gb165]? = some (.cells #[(.slice A0_0 l0_0.length c0_0), (.slice A0_1 l0_1.length c0_1)] 26 (0, 0))) ∧ Aside0 (w'.heap[gb166]? = some (.cells #[(.slice A1_0 l1_0.length c1_0), (.slice A1_1 l1_1.length c1_1)] 26 (0, 0))) ∧ Aside0 (Below w.heap.size w w'))
  case atStart => exact ⟨(0), (by first | rfl | (simp; done) | (simp [*]; done)), H', ⟨Nat.le_refl _⟩, ⟨by (with_reducible repeat (first | refine blk_drewN ?_ _ | refine blk_drew ?_ | refine blk_alloc ?_ _)); exact BK165.out⟩, ⟨by (with_reducible repeat (first | refine blk_drewN ?_ _ | refine blk_drew ?_ | refine blk_alloc ?_ _)); exact BK166.out⟩, ⟨by repeat (first | (with_reducible first | exact HB.out | apply below_alloc | apply pw_below_drewN | apply below_drew1 | refine below_set ?_ GE165.out | refine below_set ?_ GE166.out) | exact HB.out)⟩⟩
  case round =>
   clear H'
   try clear c1
   try clear c2
   try clear p2
   try clear c3
   try clear c3b0
   try clear c3b1
   try clear c3b2
   try clear c6
   try clear hcz7_0
   try clear hcz7_1
   try clear hcz8_0
   try clear hcz8_1
   try clear hfz7_0
   try clear hfz7_1
   try clear hfz8_0
   try clear hfz8_1
   obtain ⟨x5_1, rfl, HA, HK1, BK165, BK166, HB⟩ := hrel
   cases gk with
   | zero => exact absurd HA.out (by simp [cobwebref11_SameRoot.l0])
   | succ k1 =>
    have H := HA.out
    clear HA
    simp only [cobwebref11_SameRoot.l0] at H
    by_cases c9 : x5_1 < (l0_1.length : Int)
    ·rw [if_pos c9] at H
     have c9b0 : decide (x5_1 < (l0_1.length : Int)) = true := decide_eq_true c9
     clear c9
     by_cases c10 : 0 ≤ x5_1
     ·rw [if_pos c10] at H
      have c10b0 : decide (0 ≤ x5_1) = true := decide_eq_true c10
      clear c10
      by_cases c11 : x5_1 < (l1_1.length : Int)
      ·rw [if_pos c11] at H
       have c11b0 : decide (x5_1 < (l1_1.length : Int)) = true := decide_eq_true c11
       clear c11
       by_cases c12 : (rd l0_1 x5_1) = (rd l1_1 x5_1)
       ·rw [if_pos c12] at H
        have c12b0 : ((rd l0_1 x5_1) == (rd l1_1 x5_1)) = true := beq_iff_eq.mpr c12
        have c12b1 : ((rd l0_1 x5_1) != (rd l1_1 x5_1)) = false := bne_eq_false_iff_eq.mpr c12
        clear c12
        have H' := Aside0.mk H
        clear H
        have hnb13 := NB165_166.out
        have hnc13 := NB166_165.out
        have hcz14_0 : wr.cell? ⟨gb165, 0, none⟩ = some (.slice A0_0 l0_0.length c0_0) := (blk_cell BK165.out 0).trans rfl
        have hcz14_1 : wr.cell? ⟨gb165, 1, none⟩ = some (.slice A0_1 l0_1.length c0_1) := (blk_cell BK165.out 1).trans rfl
        have hfz14_0 := blk_frozen BK165.out 0
        have hfz14_1 := blk_frozen BK165.out 1
        have p167 : 0 ≤ (x5_1 : Int) := of_decide_eq_true (by first | (with_reducible assumption) | assumption)
        have q167 : x5_1 < (l0_1.length : Int) := of_decide_eq_true (by first | (with_reducible assumption) | assumption)
        obtain ⟨ad167, e167, hx167_0⟩ := Kd.at_int HR0_1.out x5_1 p167 q167
        cases e167
        replace hx167_0 := (HB.out.cell (World.block_lt_of_cell? w _ hx167_0)).trans hx167_0
        replace p167 := eq_true p167
        replace q167 := eq_true q167
        have hcz15_0 : wr.cell? ⟨gb166, 0, none⟩ = some (.slice A1_0 l1_0.length c1_0) := (blk_cell BK166.out 0).trans rfl
        have hcz15_1 : wr.cell? ⟨gb166, 1, none⟩ = some (.slice A1_1 l1_1.length c1_1) := (blk_cell BK166.out 1).trans rfl
        have hfz15_0 := blk_frozen BK166.out 0
        have hfz15_1 := blk_frozen BK166.out 1
        have p168 : 0 ≤ (x5_1 : Int) := of_decide_eq_true (by first | (with_reducible assumption) | assumption)
        have q168 : x5_1 < (l1_1.length : Int) := of_decide_eq_true (by first | (with_reducible assumption) | assumption)
        obtain ⟨ad168, e168, hx168_0⟩ := Kd.at_int HR1_1.out x5_1 p168 q168
        cases e168
        replace hx168_0 := (HB.out.cell (World.block_lt_of_cell? w _ hx168_0)).trans hx168_0
        replace p168 := eq_true p168
        replace q168 := eq_true q168
        go_wp2
        repeat (go_quiet (fail); try go_wp2)
        go_roundg k1
        case measure => have := HK1.out; omega
        case rel => exact ⟨(wrap64 (x5_1 + 1)), (by first | rfl | (simp; done) | (simp [*]; done)), H', ⟨by have := HK1.out; omega⟩, ⟨by (with_reducible repeat (first | refine blk_drewN ?_ _ | refine blk_drew ?_ | refine blk_alloc ?_ _)); exact BK165.out⟩, ⟨by (with_reducible repeat (first | refine blk_drewN ?_ _ | refine blk_drew ?_ | refine blk_alloc ?_ _)); exact BK166.out⟩, ⟨by repeat (first | (with_reducible first | exact HB.out | apply below_alloc | apply pw_below_drewN | apply below_drew1 | refine below_set ?_ GE165.out | refine below_set ?_ GE166.out) | exact HB.out)⟩⟩
       ·rw [if_neg c12] at H
        have c12b0 : ((rd l0_1 x5_1) == (rd l1_1 x5_1)) = false := beq_eq_false_iff_ne.mpr c12
        have c12b1 : ((rd l0_1 x5_1) != (rd l1_1 x5_1)) = true := bne_iff_ne.mpr c12
        obtain rfl := Option.some.inj H
        have hnb16 := NB165_166.out
        have hnc16 := NB166_165.out
        have hcz17_0 : wr.cell? ⟨gb165, 0, none⟩ = some (.slice A0_0 l0_0.length c0_0) := (blk_cell BK165.out 0).trans rfl
        have hcz17_1 : wr.cell? ⟨gb165, 1, none⟩ = some (.slice A0_1 l0_1.length c0_1) := (blk_cell BK165.out 1).trans rfl
        have hfz17_0 := blk_frozen BK165.out 0
        have hfz17_1 := blk_frozen BK165.out 1
        have p167 : 0 ≤ (x5_1 : Int) := of_decide_eq_true (by first | (with_reducible assumption) | assumption)
        have q167 : x5_1 < (l0_1.length : Int) := of_decide_eq_true (by first | (with_reducible assumption) | assumption)
        obtain ⟨ad167, e167, hx167_0⟩ := Kd.at_int HR0_1.out x5_1 p167 q167
        cases e167
        replace hx167_0 := (HB.out.cell (World.block_lt_of_cell? w _ hx167_0)).trans hx167_0
        replace p167 := eq_true p167
        replace q167 := eq_true q167
        have hcz18_0 : wr.cell? ⟨gb166, 0, none⟩ = some (.slice A1_0 l1_0.length c1_0) := (blk_cell BK166.out 0).trans rfl
        have hcz18_1 : wr.cell? ⟨gb166, 1, none⟩ = some (.slice A1_1 l1_1.length c1_1) := (blk_cell BK166.out 1).trans rfl
        have hfz18_0 := blk_frozen BK166.out 0
        have hfz18_1 := blk_frozen BK166.out 1
        have p168 : 0 ≤ (x5_1 : Int) := of_decide_eq_true (by first | (with_reducible assumption) | assumption)
        have q168 : x5_1 < (l1_1.length : Int) := of_decide_eq_true (by first | (with_reducible assumption) | assumption)
        obtain ⟨ad168, e168, hx168_0⟩ := Kd.at_int HR1_1.out x5_1 p168 q168
        cases e168
        replace hx168_0 := (HB.out.cell (World.block_lt_of_cell? w _ hx168_0)).trans hx168_0
        replace p168 := eq_true p168
        replace q168 := eq_true q168
        go_wp2
        repeat (go_quiet (fail); try go_wp2)
        go_ret
        exact ⟨by first | rfl | (simp [errW_none, errW_some] <;> rfl) | (simp [*, errW_none, errW_some] <;> rfl), by repeat (first | (with_reducible first | exact HB.out | apply below_alloc | apply pw_below_drewN | apply below_drew1 | refine below_set ?_ GE165.out | refine below_set ?_ GE166.out) | exact HB.out)⟩
      ·rw [if_neg c11] at H
       exact absurd H (by simp)
     ·rw [if_neg c10] at H
      exact absurd H (by simp)
    ·rw [if_neg c9] at H
     have c9b0 : decide (x5_1 < (l0_1.length : Int)) = false := decide_eq_false c9
     clear c9
     replace H := Option.bind_eq_some_iff.mp H
     obtain ⟨t169, A190, H⟩ := H
     replace H : (some t169) = some r := H
     have A19 := Aside0.mk A190
     clear A190
     obtain rfl := Option.some.inj H
     have hnb20 := NB165_166.out
     have hnc20 := NB166_165.out
     have hcz21_0 : wr.cell? ⟨gb165, 0, none⟩ = some (.slice A0_0 l0_0.length c0_0) := (blk_cell BK165.out 0).trans rfl
     have hcz21_1 : wr.cell? ⟨gb165, 1, none⟩ = some (.slice A0_1 l0_1.length c0_1) := (blk_cell BK165.out 1).trans rfl
     have hfz21_0 := blk_frozen BK165.out 0
     have hfz21_1 := blk_frozen BK165.out 1
     have hcz22_0 : wr.cell? ⟨gb166, 0, none⟩ = some (.slice A1_0 l1_0.length c1_0) := (blk_cell BK166.out 0).trans rfl
     have hcz22_1 : wr.cell? ⟨gb166, 1, none⟩ = some (.slice A1_1 l1_1.length c1_1) := (blk_cell BK166.out 1).trans rfl
     have hfz22_0 := blk_frozen BK166.out 0
     have hfz22_1 := blk_frozen BK166.out 1
     go_wp2_with (first | (go_at_call 15; (with_reducible refine (cobwebref11_Texts.calls k1 _ _ l0_0 _ _ l1_0 t169 _ ?side1 ?side2 ?side3 ?side4 A19.out).mono ?_); (case side1 => repeat (first | exact (Kd.C_below HR0_0.out HB.out) | (with_reducible refine Kd.C_alloc ?_ _) | (with_reducible refine Kd.C_drewN ?_ _) | (with_reducible refine Kd.C_drew ?_))); (case side2 => exact HC0_0.out); (case side3 => repeat (first | exact (Kd.C_below HR1_0.out HB.out) | (with_reducible refine Kd.C_alloc ?_ _) | (with_reducible refine Kd.C_drewN ?_ _) | (with_reducible refine Kd.C_drew ?_))); (case side4 => exact HC1_0.out); rintro e w' ⟨rfl, ⟨nd, rfl⟩⟩; (try first | exact ⟨rfl, _, World.drewN_drewN _ _ _⟩ | exact ⟨rfl, _, Eq.trans (World.drewN_drewN _ _ _) (congrArg (World.drewN _) (Nat.add_assoc _ _ _))⟩)))
     repeat (go_quiet (first | (go_at_call 15; (with_reducible refine (cobwebref11_Texts.calls k1 _ _ l0_0 _ _ l1_0 t169 _ ?side1 ?side2 ?side3 ?side4 A19.out).mono ?_); (case side1 => repeat (first | exact (Kd.C_below HR0_0.out HB.out) | (with_reducible refine Kd.C_alloc ?_ _) | (with_reducible refine Kd.C_drewN ?_ _) | (with_reducible refine Kd.C_drew ?_))); (case side2 => exact HC0_0.out); (case side3 => repeat (first | exact (Kd.C_below HR1_0.out HB.out) | (with_reducible refine Kd.C_alloc ?_ _) | (with_reducible refine Kd.C_drewN ?_ _) | (with_reducible refine Kd.C_drew ?_))); (case side4 => exact HC1_0.out); rintro e w' ⟨rfl, ⟨nd, rfl⟩⟩; (try first | exact ⟨rfl, _, World.drewN_drewN _ _ _⟩ | exact ⟨rfl, _, Eq.trans (World.drewN_drewN _ _ _) (congrArg (World.drewN _) (Nat.add_assoc _ _ _))⟩))); try go_wp2_with (first | (go_at_call 15; (with_reducible refine (cobwebref11_Texts.calls k1 _ _ l0_0 _ _ l1_0 t169 _ ?side1 ?side2 ?side3 ?side4 A19.out).mono ?_); (case side1 => repeat (first | exact (Kd.C_below HR0_0.out HB.out) | (with_reducible refine Kd.C_alloc ?_ _) | (with_reducible refine Kd.C_drewN ?_ _) | (with_reducible refine Kd.C_drew ?_))); (case side2 => exact HC0_0.out); (case side3 => repeat (first | exact (Kd.C_below HR1_0.out HB.out) | (with_reducible refine Kd.C_alloc ?_ _) | (with_reducible refine Kd.C_drewN ?_ _) | (with_reducible refine Kd.C_drew ?_))); (case side4 => exact HC1_0.out); rintro e w' ⟨rfl, ⟨nd, rfl⟩⟩; (try first | exact ⟨rfl, _, World.drewN_drewN _ _ _⟩ | exact ⟨rfl, _, Eq.trans (World.drewN_drewN _ _ _) (congrArg (World.drewN _) (Nat.add_assoc _ _ _))⟩))))
     go_ret
     exact ⟨by first | rfl | (simp [errW_none, errW_some] <;> rfl) | (simp [*, errW_none, errW_some] <;> rfl), by repeat (first | (with_reducible first | exact HB.out | apply below_alloc | apply pw_below_drewN | apply below_drew1 | refine below_set ?_ GE165.out | refine below_set ?_ GE166.out) | exact HB.out)⟩
 ·rw [if_neg c3] at H
  have c3b0 : ((l0_1.length : Int) == (l1_1.length : Int)) = false := beq_eq_false_iff_ne.mpr c3
  have c3b1 : ((l0_1.length : Int) != (l1_1.length : Int)) = true := bne_iff_ne.mpr c3
  have c3b2 : (l0_1.length == l1_1.length) = false := by first | simpa using c3 | (simp at c3 ⊢; omega)
  obtain rfl := Option.some.inj H
  go_enter Try.func21, Try.ntmps21
  go_wp2_with (first | ((with_reducible refine gate_dst (N := 2) rfl ?_); refine box_event ?hg (N := 2) ?hd (cs := #[.slice A0_0 l0_0.length c0_0, .slice A0_1 l0_1.length c0_1]) (t := 26) ?hr ?_; (case hd => rfl); (case hg => rfl); (case hr => first | (go_simp; done) | (go_simp; rfl)); intro gb165 hg w23 hbox hb; have n0_ := Aside0.mk (below_step (by repeat (first | (with_reducible first | exact HB.out | apply below_alloc | apply pw_below_drewN | apply below_drew1) | exact HB.out)) hb); have n1_ := Aside0.mk (hbox); have n2_ := Aside0.mk ((by rw [hg]; exact (below_size (by repeat (first | (with_reducible first | exact HB.out | apply below_alloc | apply pw_below_drewN | apply below_drew1) | exact HB.out))) : w.heap.size ≤ gb165)); have n3_ := Aside0.mk ((by rw [hg]; exact (below_size (by repeat (first | (with_reducible first | exact HB.out | apply below_alloc | apply pw_below_drewN | apply below_drew1) | exact HB.out))) : w.heap.size ≤ gb165)); clear HB; have HB := n0_; have BK165 := n1_; have GW165 := n2_; have GE165 := n3_; clear n0_ n1_ n2_ n3_; clear hb hbox hg) | ((with_reducible refine gate_dst (N := 3) rfl ?_); refine box_event ?hg (N := 3) ?hd (cs := #[.slice A1_0 l1_0.length c1_0, .slice A1_1 l1_1.length c1_1]) (t := 26) ?hr ?_; (case hd => rfl); (case hg => rfl); (case hr => first | (go_simp; done) | (go_simp; rfl)); intro gb166 hg w24 hbox hb; have n0_ := Aside0.mk (blk_below (g := gb165) (o := .cells #[.slice A0_0 l0_0.length c0_0, .slice A0_1 l0_1.length c0_1] 26 (0, 0)) (by (with_reducible repeat (first | refine blk_drewN ?_ _ | refine blk_drew ?_ | refine blk_alloc ?_ _)); exact BK165.out) hb); have n1_ := Aside0.mk (below_step (by repeat (first | (with_reducible first | exact HB.out | apply below_alloc | apply pw_below_drewN | apply below_drew1 | refine below_set ?_ GE165.out) | exact HB.out)) hb); have n2_ := Aside0.mk (hbox); have n3_ := Aside0.mk ((by rw [hg]; exact (below_size (by repeat (first | (with_reducible first | exact HB.out | apply below_alloc | apply pw_below_drewN | apply below_drew1 | refine below_set ?_ GE165.out) | exact HB.out))) : w.heap.size ≤ gb166)); have n4_ := Aside0.mk ((by rw [hg]; exact (below_size (by repeat (first | (with_reducible first | exact HB.out | apply below_alloc | apply pw_below_drewN | apply below_drew1 | refine below_set ?_ GE165.out) | exact HB.out))) : w.heap.size ≤ gb166)); have n5_ := Aside0.mk ((by rw [hg]; exact Nat.ne_of_lt (blk_lt (g := gb165) (o := .cells #[.slice A0_0 l0_0.length c0_0, .slice A0_1 l0_1.length c0_1] 26 (0, 0)) (by (with_reducible repeat (first | refine blk_drewN ?_ _ | refine blk_drew ?_ | refine blk_alloc ?_ _)); exact BK165.out)) : gb165 ≠ gb166)); have n6_ := Aside0.mk ((by rw [hg]; exact Nat.ne_of_gt (blk_lt (g := gb165) (o := .cells #[.slice A0_0 l0_0.length c0_0, .slice A0_1 l0_1.length c0_1] 26 (0, 0)) (by (with_reducible repeat (first | refine blk_drewN ?_ _ | refine blk_drew ?_ | refine blk_alloc ?_ _)); exact BK165.out)) : gb166 ≠ gb165)); clear BK165; clear HB; have BK165 := n0_; have HB := n1_; have BK166 := n2_; have GW166 := n3_; have GE166 := n4_; have NB165_166 := n5_; have NB166_165 := n6_; clear n0_ n1_ n2_ n3_ n4_ n5_ n6_; clear hb hbox hg; have hnb25 := NB165_166.out; have hnc25 := NB166_165.out; have hcz26_0 : w24.cell? ⟨gb165, 0, none⟩ = some (.slice A0_0 l0_0.length c0_0) := (blk_cell BK165.out 0).trans rfl; have hcz26_1 : w24.cell? ⟨gb165, 1, none⟩ = some (.slice A0_1 l0_1.length c0_1) := (blk_cell BK165.out 1).trans rfl; have hfz26_0 := blk_frozen BK165.out 0; have hfz26_1 := blk_frozen BK165.out 1; have hcz27_0 : w24.cell? ⟨gb166, 0, none⟩ = some (.slice A1_0 l1_0.length c1_0) := (blk_cell BK166.out 0).trans rfl; have hcz27_1 : w24.cell? ⟨gb166, 1, none⟩ = some (.slice A1_1 l1_1.length c1_1) := (blk_cell BK166.out 1).trans rfl; have hfz27_0 := blk_frozen BK166.out 0; have hfz27_1 := blk_frozen BK166.out 1))
  repeat (go_quiet (first | ((with_reducible refine gate_dst (N := 2) rfl ?_); refine box_event ?hg (N := 2) ?hd (cs := #[.slice A0_0 l0_0.length c0_0, .slice A0_1 l0_1.length c0_1]) (t := 26) ?hr ?_; (case hd => rfl); (case hg => rfl); (case hr => first | (go_simp; done) | (go_simp; rfl)); intro gb165 hg w23 hbox hb; have n0_ := Aside0.mk (below_step (by repeat (first | (with_reducible first | exact HB.out | apply below_alloc | apply pw_below_drewN | apply below_drew1) | exact HB.out)) hb); have n1_ := Aside0.mk (hbox); have n2_ := Aside0.mk ((by rw [hg]; exact (below_size (by repeat (first | (with_reducible first | exact HB.out | apply below_alloc | apply pw_below_drewN | apply below_drew1) | exact HB.out))) : w.heap.size ≤ gb165)); have n3_ := Aside0.mk ((by rw [hg]; exact (below_size (by repeat (first | (with_reducible first | exact HB.out | apply below_alloc | apply pw_below_drewN | apply below_drew1) | exact HB.out))) : w.heap.size ≤ gb165)); clear HB; have HB := n0_; have BK165 := n1_; have GW165 := n2_; have GE165 := n3_; clear n0_ n1_ n2_ n3_; clear hb hbox hg) | ((with_reducible refine gate_dst (N := 3) rfl ?_); refine box_event ?hg (N := 3) ?hd (cs := #[.slice A1_0 l1_0.length c1_0, .slice A1_1 l1_1.length c1_1]) (t := 26) ?hr ?_; (case hd => rfl); (case hg => rfl); (case hr => first | (go_simp; done) | (go_simp; rfl)); intro gb166 hg w24 hbox hb; have n0_ := Aside0.mk (blk_below (g := gb165) (o := .cells #[.slice A0_0 l0_0.length c0_0, .slice A0_1 l0_1.length c0_1] 26 (0, 0)) (by (with_reducible repeat (first | refine blk_drewN ?_ _ | refine blk_drew ?_ | refine blk_alloc ?_ _)); exact BK165.out) hb); have n1_ := Aside0.mk (below_step (by repeat (first | (with_reducible first | exact HB.out | apply below_alloc | apply pw_below_drewN | apply below_drew1 | refine below_set ?_ GE165.out) | exact HB.out)) hb); have n2_ := Aside0.mk (hbox); have n3_ := Aside0.mk ((by rw [hg]; exact (below_size (by repeat (first | (with_reducible first | exact HB.out | apply below_alloc | apply pw_below_drewN | apply below_drew1 | refine below_set ?_ GE165.out) | exact HB.out))) : w.heap.size ≤ gb166)); have n4_ := Aside0.mk ((by rw [hg]; exact (below_size (by repeat (first | (with_reducible first | exact HB.out | apply below_alloc | apply pw_below_drewN | apply below_drew1 | refine below_set ?_ GE165.out) | exact HB.out))) : w.heap.size ≤ gb166)); have n5_ := Aside0.mk ((by rw [hg]; exact Nat.ne_of_lt (blk_lt (g := gb165) (o := .cells #[.slice A0_0 l0_0.length c0_0, .slice A0_1 l0_1.length c0_1] 26 (0, 0)) (by (with_reducible repeat (first | refine blk_drewN ?_ _ | refine blk_drew ?_ | refine blk_alloc ?_ _)); exact BK165.out)) : gb165 ≠ gb166)); have n6_ := Aside0.mk ((by rw [hg]; exact Nat.ne_of_gt (blk_lt (g := gb165) (o := .cells #[.slice A0_0 l0_0.length c0_0, .slice A0_1 l0_1.length c0_1] 26 (0, 0)) (by (with_reducible repeat (first | refine blk_drewN ?_ _ | refine blk_drew ?_ | refine blk_alloc ?_ _)); exact BK165.out)) : gb166 ≠ gb165)); clear BK165; clear HB; have BK165 := n0_; have HB := n1_; have BK166 := n2_; have GW166 := n3_; have GE166 := n4_; have NB165_166 := n5_; have NB166_165 := n6_; clear n0_ n1_ n2_ n3_ n4_ n5_ n6_; clear hb hbox hg; have hnb25 := NB165_166.out; have hnc25 := NB166_165.out; have hcz26_0 : w24.cell? ⟨gb165, 0, none⟩ = some (.slice A0_0 l0_0.length c0_0) := (blk_cell BK165.out 0).trans rfl; have hcz26_1 : w24.cell? ⟨gb165, 1, none⟩ = some (.slice A0_1 l0_1.length c0_1) := (blk_cell BK165.out 1).trans rfl; have hfz26_0 := blk_frozen BK165.out 0; have hfz26_1 := blk_frozen BK165.out 1; have hcz27_0 : w24.cell? ⟨gb166, 0, none⟩ = some (.slice A1_0 l1_0.length c1_0) := (blk_cell BK166.out 0).trans rfl; have hcz27_1 : w24.cell? ⟨gb166, 1, none⟩ = some (.slice A1_1 l1_1.length c1_1) := (blk_cell BK166.out 1).trans rfl; have hfz27_0 := blk_frozen BK166.out 0; have hfz27_1 := blk_frozen BK166.out 1)); try go_wp2_with (first | ((with_reducible refine gate_dst (N := 2) rfl ?_); refine box_event ?hg (N := 2) ?hd (cs := #[.slice A0_0 l0_0.length c0_0, .slice A0_1 l0_1.length c0_1]) (t := 26) ?hr ?_; (case hd => rfl); (case hg => rfl); (case hr => first | (go_simp; done) | (go_simp; rfl)); intro gb165 hg w23 hbox hb; have n0_ := Aside0.mk (below_step (by repeat (first | (with_reducible first | exact HB.out | apply below_alloc | apply pw_below_drewN | apply below_drew1) | exact HB.out)) hb); have n1_ := Aside0.mk (hbox); have n2_ := Aside0.mk ((by rw [hg]; exact (below_size (by repeat (first | (with_reducible first | exact HB.out | apply below_alloc | apply pw_below_drewN | apply below_drew1) | exact HB.out))) : w.heap.size ≤ gb165)); have n3_ := Aside0.mk ((by rw [hg]; exact (below_size (by repeat (first | (with_reducible first | exact HB.out | apply below_alloc | apply pw_below_drewN | apply below_drew1) | exact HB.out))) : w.heap.size ≤ gb165)); clear HB; have HB := n0_; have BK165 := n1_; have GW165 := n2_; have GE165 := n3_; clear n0_ n1_ n2_ n3_; clear hb hbox hg) | ((with_reducible refine gate_dst (N := 3) rfl ?_); refine box_event ?hg (N := 3) ?hd (cs := #[.slice A1_0 l1_0.length c1_0, .slice A1_1 l1_1.length c1_1]) (t := 26) ?hr ?_; (case hd => rfl); (case hg => rfl); (case hr => first | (go_simp; done) | (go_simp; rfl)); intro gb166 hg w24 hbox hb; have n0_ := Aside0.mk (blk_below (g := gb165) (o := .cells #[.slice A0_0 l0_0.length c0_0, .slice A0_1 l0_1.length c0_1] 26 (0, 0)) (by (with_reducible repeat (first | refine blk_drewN ?_ _ | refine blk_drew ?_ | refine blk_alloc ?_ _)); exact BK165.out) hb); have n1_ := Aside0.mk (below_step (by repeat (first | (with_reducible first | exact HB.out | apply below_alloc | apply pw_below_drewN | apply below_drew1 | refine below_set ?_ GE165.out) | exact HB.out)) hb); have n2_ := Aside0.mk (hbox); have n3_ := Aside0.mk ((by rw [hg]; exact (below_size (by repeat (first | (with_reducible first | exact HB.out | apply below_alloc | apply pw_below_drewN | apply below_drew1 | refine below_set ?_ GE165.out) | exact HB.out))) : w.heap.size ≤ gb166)); have n4_ := Aside0.mk ((by rw [hg]; exact (below_size (by repeat (first | (with_reducible first | exact HB.out | apply below_alloc | apply pw_below_drewN | apply below_drew1 | refine below_set ?_ GE165.out) | exact HB.out))) : w.heap.size ≤ gb166)); have n5_ := Aside0.mk ((by rw [hg]; exact Nat.ne_of_lt (blk_lt (g := gb165) (o := .cells #[.slice A0_0 l0_0.length c0_0, .slice A0_1 l0_1.length c0_1] 26 (0, 0)) (by (with_reducible repeat (first | refine blk_drewN ?_ _ | refine blk_drew ?_ | refine blk_alloc ?_ _)); exact BK165.out)) : gb165 ≠ gb166)); have n6_ := Aside0.mk ((by rw [hg]; exact Nat.ne_of_gt (blk_lt (g := gb165) (o := .cells #[.slice A0_0 l0_0.length c0_0, .slice A0_1 l0_1.length c0_1] 26 (0, 0)) (by (with_reducible repeat (first | refine blk_drewN ?_ _ | refine blk_drew ?_ | refine blk_alloc ?_ _)); exact BK165.out)) : gb166 ≠ gb165)); clear BK165; clear HB; have BK165 := n0_; have HB := n1_; have BK166 := n2_; have GW166 := n3_; have GE166 := n4_; have NB165_166 := n5_; have NB166_165 := n6_; clear n0_ n1_ n2_ n3_ n4_ n5_ n6_; clear hb hbox hg; have hnb25 := NB165_166.out; have hnc25 := NB166_165.out; have hcz26_0 : w24.cell? ⟨gb165, 0, none⟩ = some (.slice A0_0 l0_0.length c0_0) := (blk_cell BK165.out 0).trans rfl; have hcz26_1 : w24.cell? ⟨gb165, 1, none⟩ = some (.slice A0_1 l0_1.length c0_1) := (blk_cell BK165.out 1).trans rfl; have hfz26_0 := blk_frozen BK165.out 0; have hfz26_1 := blk_frozen BK165.out 1; have hcz27_0 : w24.cell? ⟨gb166, 0, none⟩ = some (.slice A1_0 l1_0.length c1_0) := (blk_cell BK166.out 0).trans rfl; have hcz27_1 : w24.cell? ⟨gb166, 1, none⟩ = some (.slice A1_1 l1_1.length c1_1) := (blk_cell BK166.out 1).trans rfl; have hfz27_0 := blk_frozen BK166.out 0; have hfz27_1 := blk_frozen BK166.out 1)))
  go_ret
  exact ⟨by first | rfl | (simp [errW_none, errW_some] <;> rfl) | (simp [*, errW_none, errW_some] <;> rfl), by repeat (first | (with_reducible first | exact HB.out | apply below_alloc | apply pw_below_drewN | apply below_drew1 | refine below_set ?_ GE165.out | refine below_set ?_ GE166.out) | exact HB.out)⟩
end Go.Proofs.Ytneagipmllgejaa.PL
end
