/- A part of the proof: lemmas that the row uses, laid together by a program of this session's (pack.py) out of its texts and of what the kit's printer wrote for this seat. -/
import Derived.Lib.Strings
import Derived.Deep.RegionWith
import Derived.Test.YtneagipmllgejaaKA0
import Derived.Test.YtneagipmllgejaaKA1
import Derived.Test.YtneagipmllgejaaKA2
import Derived.Test.YtneagipmllgejaaKA3
import Derived.Test.YtneagipmllgejaaKA4
import Derived.Test.YtneagipmllgejaaKA5
import Derived.Test.YtneagipmllgejaaKA6
section
set_option linter.unusedVariables false
set_option linter.unusedSimpArgs false
namespace Go.Proofs.Ytneagipmllgejaa.PL
open Go.RowKit Go.Proofs.YtneagipmllgejaaW.PrintWords Go.Proofs.YtneagipmllgejaaW.PrintLast
theorem toList_len (s : ByteArray) : s.toList.length = s.size := by rw [Go.Lib.toList_data, Array.length_toList]; rfl
theorem text_eq {a b : ByteArray} (h : a.toList = b.toList) : a = b := by
  rw [Go.Lib.toList_data, Go.Lib.toList_data] at h
  cases a; cases b
  simp only [ByteArray.mk.injEq]
  exact Array.toList_inj.1 h
def byt (s : ByteArray) (i : Nat) : UInt8 := s.toList.getD i 0
theorem bt_byt {s : ByteArray} {i : Nat} (h : i < s.size) : bt s (i : Int) = ((byt s i).toNat : Int) := by
  unfold bt byt
  have h' : (i : Int).toNat < s.size := by omega
  rw [dif_pos h']
  congr 2
  rw [Go.Lib.toList_data]
  have h2 : i < s.data.toList.length := by rw [Array.length_toList]; exact h
  rw [List.getD_eq_getElem?_getD, List.getElem?_eq_getElem h2]
  rfl
theorem drop_byt {s : ByteArray} {i : Nat} (h : i < s.size) : s.toList.drop i = byt s i :: s.toList.drop (i + 1) := by
  have h2 : i < s.toList.length := by rw [toList_len]; exact h
  rw [List.drop_eq_getElem_cons h2]
  congr 1
  simp [byt, List.getD_eq_getElem?_getD, List.getElem?_eq_getElem h2]
def ordL : List UInt8 → List UInt8 → Int
  | [], [] => 0
  | [], _ :: _ => -1
  | _ :: _, [] => 1
  | x :: a, y :: b => if x = y then ordL a b else if x < y then -1 else 1
theorem ordL_lt : ∀ {a b : List UInt8}, ordL a b < 0 ↔ Op.bytesLess a b = true
  | [], [] => by simp [ordL, Op.bytesLess]
  | [], y :: b => by simp [ordL, Op.bytesLess]
  | x :: a, [] => by simp [ordL, Op.bytesLess]
  | x :: a, y :: b => by
    simp only [ordL, Op.bytesLess, Bool.or_eq_true, Bool.and_eq_true, decide_eq_true_eq, beq_iff_eq]
    by_cases h : x = y
    · subst h
      rw [if_pos rfl, ordL_lt]
      simp
    · rw [if_neg h]
      by_cases h2 : x < y
      · rw [if_pos h2]; simp [h2]
      · rw [if_neg h2]; simp [h2, h]
theorem ordL_gt : ∀ {a b : List UInt8}, 0 < ordL a b ↔ Op.bytesLess b a = true
  | [], [] => by simp [ordL, Op.bytesLess]
  | [], y :: b => by simp [ordL, Op.bytesLess]
  | x :: a, [] => by simp [ordL, Op.bytesLess]
  | x :: a, y :: b => by
    simp only [ordL, Op.bytesLess, Bool.or_eq_true, Bool.and_eq_true, decide_eq_true_eq, beq_iff_eq]
    by_cases h : x = y
    · subst h
      rw [if_pos rfl, ordL_gt]
      simp
    · rw [if_neg h]
      have hyx : ¬ y = x := fun e => h e.symm
      by_cases h2 : x < y
      · rw [if_pos h2]
        have h3 : ¬ y < x := fun h4 => absurd (UInt8.lt_trans h2 h4) (UInt8.lt_irrefl _)
        simp [h3, hyx]
      · rw [if_neg h2]
        have h3 : y < x := by
          rcases UInt8.lt_or_eq_of_le (UInt8.not_lt.1 h2) with h4 | h4
          · exact h4
          · exact absurd h4 hyx
        simp [h3]
def ordB (a b : ByteArray) : Int := ordL a.toList b.toList
theorem order_from (x y : ByteArray) (hx : x.size ≤ 1000000) (hy : y.size ≤ 1000000) : ∀ (d k i : Nat), i + d = x.size → 2 * d + 2 ≤ k → cobwebref02_Order.l0 k x y (i : Int) = some (ordL (x.toList.drop i) (y.toList.drop i)) ∨ y.size < i := by
  intro d
  induction d with
  | zero =>
    intro k i hi hk
    obtain ⟨k, rfl⟩ : ∃ q, k = q + 2 := ⟨k - 2, by omega⟩
    by_cases hy2 : y.size < i
    · exact .inr hy2
    left
    simp only [cobwebref02_Order.l0, cobwebref02_Order.j1]
    rw [if_neg (by omega), if_neg (by decide)]
    have h1 : x.toList.drop i = [] := List.drop_eq_nil_of_le (by rw [toList_len]; omega)
    rw [h1]
    by_cases he : (x.size : Int) = (y.size : Int)
    · rw [if_pos he]
      have h2 : y.toList.drop i = [] := List.drop_eq_nil_of_le (by rw [toList_len]; omega)
      rw [h2]; rfl
    · rw [if_neg he, decide_eq_true (show (x.size : Int) < (y.size : Int) by omega), drop_byt (s := y) (i := i) (by omega)]
      rfl
  | succ d ih =>
    intro k i hi hk
    obtain ⟨k, rfl⟩ : ∃ q, k = q + 2 := ⟨k - 2, by omega⟩
    by_cases hy2 : y.size < i
    · exact .inr hy2
    left
    simp only [cobwebref02_Order.l0, cobwebref02_Order.j1]
    rw [if_pos (by omega), drop_byt (s := x) (i := i) (by omega)]
    by_cases hyi : i < y.size
    · rw [decide_eq_true (show (i : Int) < (y.size : Int) by omega), if_pos rfl, if_pos (by omega), if_pos (by omega), if_pos (by omega), drop_byt (s := y) (i := i) hyi, bt_byt (by omega), bt_byt hyi, w64 (x := (i : Int) + 1) (by omega) (by omega), show (i : Int) + 1 = ((i + 1 : Nat) : Int) by omega]
      simp only [ordL]
      by_cases he : byt x i = byt y i
      · rw [if_pos (by rw [he]), if_pos he]
        rcases ih k (i + 1) (by omega) (by omega) with h | h
        · exact h
        · omega
      · have hne : ¬ ((byt x i).toNat : Int) = ((byt y i).toNat : Int) := fun e => he (UInt8.toNat_inj.1 (by omega))
        rw [if_neg hne, if_neg he]
        by_cases hl : byt x i < byt y i
        · rw [if_pos hl, decide_eq_true (show ((byt x i).toNat : Int) < ((byt y i).toNat : Int) by have := UInt8.lt_iff_toNat_lt.1 hl; omega)]
          rfl
        · rw [if_neg hl, decide_eq_false (show ¬ ((byt x i).toNat : Int) < ((byt y i).toNat : Int) by intro h; exact hl (UInt8.lt_iff_toNat_lt.2 (by omega)))]
          rfl
    · rw [decide_eq_false (show ¬ (i : Int) < (y.size : Int) by omega), if_neg (by decide), if_neg (by omega), decide_eq_false (show ¬ (x.size : Int) < (y.size : Int) by omega)]
      have h2 : y.toList.drop i = [] := List.drop_eq_nil_of_le (by rw [toList_len]; omega)
      rw [h2]
      rfl
theorem order_spec (x y : ByteArray) (hx : x.size ≤ 1000) (hy : y.size ≤ 1000) {k : Nat} (hk : 2002 ≤ k) : cobwebref02_Order.f k x y = some (ordB x y) := by
  rcases order_from x y (by omega) (by omega) x.size k 0 (by omega) (by omega) with h | h
  · simpa [cobwebref02_Order.f, ordB] using h
  · omega
theorem ord_le {a b : ByteArray} : ordB a b ≤ 0 ↔ lessB b a = false := by
  have := @ordL_gt a.toList b.toList
  unfold ordB lessB
  cases h : Op.bytesLess b.toList a.toList with
  | true => have := this.2 h; simp; omega
  | false => simp; exact Int.not_lt.1 (fun h2 => by rw [this.1 h2] at h; cases h)
theorem ord_lt {a b : ByteArray} : ordB a b < 0 ↔ lessB a b = true := ordL_lt
theorem rd_size {l : List ByteArray} (h : ∀ s ∈ l, s.size ≤ 1000) (i : Int) : (rdOf ByteArray.empty l i).size ≤ 1000 := by
  unfold rdOf
  rw [List.getD_eq_getElem?_getD]
  cases h2 : l[i.toNat]? with
  | none => simp
  | some c => exact h c (List.mem_of_getElem? h2)
/-- How many of a list aren't above a text. -/
def cntLe (s : ByteArray) (l : List ByteArray) : Nat := l.countP (fun y => !lessB s y)
theorem cntLe_rise (s : ByteArray) : ∀ {l : List ByteArray}, riseB l = true → cntLe s l = atS s l
  | [], _ => rfl
  | y :: l, h => by
    have ih := cntLe_rise s (riseB_tail h)
    have hp := List.pairwise_cons.1 (riseB_pairwise.1 h)
    unfold cntLe at ih ⊢
    rw [List.countP_cons]
    by_cases h1 : lessB y s = true
    · have h2 := less_asymm h1
      rw [h2, ih]
      simp only [Bool.not_false, if_true]
      have e1 : loS s (y :: l) = loS s l + 1 := by simp [loS, h1]
      have e2 : fndS s (y :: l) = fndS s l := by unfold fndS; rw [e1]; rfl
      unfold atS
      rw [e1, e2]
      split <;> rfl
    · have h1' : lessB y s = false := by simpa using h1
      have e1 : loS s (y :: l) = 0 := by simp [loS, h1']
      by_cases h2 : lessB s y = true
      · have h3 : l.countP (fun y => !lessB s y) = 0 := by
          rw [List.countP_eq_zero]
          intro z hz
          have := less_trans h2 (hp.1 z hz)
          simp [this]
        rw [h3, h2]
        have e2 : fndS s (y :: l) = false := by
          unfold fndS
          rw [e1]
          show decide (y.toList = s.toList) = false
          apply decide_eq_false
          intro e
          have : lessB s y = false := by unfold lessB; rw [e]; exact bl_irrefl _
          rw [h2] at this; cases this
        unfold atS
        rw [e2, e1]
        rfl
      · have h2' : lessB s y = false := by simpa using h2
        have e : y.toList = s.toList := bl_tri h1' h2'
        have h3 : l.countP (fun y => !lessB s y) = 0 := by
          rw [List.countP_eq_zero]
          intro z hz
          have := hp.1 z hz
          have h4 : lessB s z = true := by unfold lessB at this ⊢; rw [← e]; exact this
          simp [h4]
        rw [h3, h2']
        have e2 : fndS s (y :: l) = true := by
          unfold fndS
          rw [e1]
          show decide (y.toList = s.toList) = true
          exact decide_eq_true e
        unfold atS
        rw [e2, e1]
        rfl
end Go.Proofs.Ytneagipmllgejaa.PL
end
section
namespace Go.Proofs.Ytneagipmllgejaa.PL
open Go.Shelf Go.RowKit Go.Proofs.YtneagipmllgejaaW.PrintWords Go.Proofs.YtneagipmllgejaaW.PrintLast Go.Proofs.YtneagipmllgejaaW.PrintMore Go.Proofs.YtneagipmllgejaaH
set_option linter.unusedVariables false
set_option linter.unusedSimpArgs false
theorem cell26a {W : World} {g : Nat} {u v : Value} (h : W.heap[g]? = some (.cells #[u, v] 26 (0, 0))) : W.cell? ⟨g, 0, none⟩ = some u := (blk_cell h 0).trans rfl
theorem cell26b {W : World} {g : Nat} {u v : Value} (h : W.heap[g]? = some (.cells #[u, v] 26 (0, 0))) : W.cell? ⟨g, 1, none⟩ = some v := (blk_cell h 1).trans rfl
theorem cell3 {W : World} {g : Nat} {u : Value} {t : TypeId} (h : W.heap[g]? = some (.cells #[u] t (0, 0))) : W.cell? ⟨g, 0, none⟩ = some u := (blk_cell h 0).trans rfl
theorem cell28 {W : World} {g : Nat} {u v x : Value} (h : W.heap[g]? = some (.cells #[u, v, x] 28 (0, 0))) : W.cell? ⟨g, 0, none⟩ = some u ∧ W.cell? ⟨g, 1, none⟩ = some v ∧ W.cell? ⟨g, 2, none⟩ = some x := ⟨(blk_cell h 0).trans rfl, (blk_cell h 1).trans rfl, (blk_cell h 2).trans rfl⟩
/-- The place of the first that meets p; -1: none does. -/
def idxFrom {α : Type} (p : α → Bool) (i : Int) : List α → Int
  | [] => -1
  | x :: r => if p x then i else idxFrom p (i + 1) r
theorem idxFrom_nonneg {α : Type} (p : α → Bool) : ∀ (l : List α) (i : Int), 0 ≤ i → decide (0 ≤ idxFrom p i l) = l.any p
  | [], i, h => by simp [idxFrom]
  | x :: r, i, h => by
    unfold idxFrom
    split
    · rename_i hp; simp [hp, h]
    · rename_i hp
      rw [idxFrom_nonneg p r (i + 1) (by omega)]
      simp [hp]
/-- What is asked of a predicate on texts. -/
def PredS (g : Nat) (lb : Array Value) (p : ByteArray → Bool) (w : World) : Prop :=
  ∀ (W : World) (x : ByteArray), Below w.heap.size w W → Calls Try.prog g (#[.string x] ++ lb) W fun e w' => e = .returned (.bool (p x)) ∧ Below W.heap.size W w'
set_option maxHeartbeats 1000000 in
set_option maxRecDepth 100000 in
theorem indexS (p : ByteArray → Bool) (g : Nat) (lb : Array Value) (eg : ∀ args w, (callFunc g args).run Try.prog w = .ok (.enter g args) w) (A0 : Option Addr) (c0 : Nat) (l0 : List ByteArray) (w : World) (hr0 : Kd.C Kd.string w A0 l0.length l0) (hp : PredS g lb p w) :
    Calls Try.prog 72 #[.slice A0 l0.length c0, .func (.func g) #[] lb] w fun e w' => e = .returned (.int .i64 (idxFrom p 0 l0)) ∧ Below w.heap.size w w' := by
  have HR0 := Aside0.mk hr0
  have hm := hr0.2.1
  have HP := Lib.hid hp
  clear hr0 hp
  obtain ⟨r, hr⟩ : ∃ r, r = idxFrom p 0 l0 := ⟨_, rfl⟩
  rw [← hr]
  have H0 := Aside0.mk hr
  clear hr
  go_enter Try.func72, Try.ntmps72
  go_wp2
  go_loopg [8] l0.length (fun d v8 w' => ∃ (i : Nat), v8 = .int .i64 i ∧ i ≤ l0.length ∧ Aside0 (d = l0.length - i) ∧ Aside0 (r = idxFrom p i (l0.drop i)) ∧ Aside0 (Below w.heap.size w w'))
  case atStart => exact ⟨0, rfl, Nat.zero_le _, ⟨rfl⟩, H0, ⟨Below.refl _ _⟩⟩
  case round =>
    obtain ⟨i, rfl, hi, HD, HA, HB⟩ := hrel
    by_cases hlt : i < l0.length
    · have hcons := Aside0.mk (drop_rs hlt)
      obtain ⟨ad, e1, hx0⟩ := Kd.at_string HR0.out (i : Int) (by omega) (by omega)
      subst e1
      replace hx0 := (HB.out.cell (World.block_lt_of_cell? w _ hx0)).trans hx0
      simp only [Int.toNat_natCast] at hx0
      generalize rdOf ByteArray.empty l0 (i : Int) = c at *
      have hcall := HP.out wr c HB.out
      have HC := Lib.hid hcall
      clear hcall
      cases hq : p c with
      | true =>
        have hri : r = i := by rw [HA.out, hcons.out]; simp [idxFrom, hq]
        have HQ := Lib.hid hq
        have HRI := Lib.hid hri
        clear hq hri
        go_wp2_with (go_at_fn g; refine HC.out.mono ?_; rintro e w' ⟨rfl, hb'⟩; rw [HQ.out])
        go_ret
        exact ⟨by rw [HRI.out]; rfl, below_then HB.out HB.out.size ‹_›⟩
      | false =>
        have HQ := Lib.hid hq
        have HRI := Aside0.mk (show r = idxFrom p (i + 1 : Nat) (l0.drop (i + 1)) by rw [HA.out, hcons.out]; simp [idxFrom, hq])
        clear hq
        go_wp2_with (go_at_fn g; refine HC.out.mono ?_; rintro e w' ⟨rfl, hb'⟩; rw [HQ.out]; have HB' := Aside0.mk (below_then HB.out HB.out.size hb'); clear hb')
        go_roundg (l0.length - (i + 1))
        case measure => have := HD.out; omega
        case rel => exact ⟨i + 1, by go_num, by omega, ⟨rfl⟩, HRI, HB'⟩
    · have hri : r = -1 := by rw [HA.out, List.drop_eq_nil_of_le (by omega)]; rfl
      have HRI := Lib.hid hri
      clear hri
      go_wp2
      go_ret
      exact ⟨by rw [HRI.out]; rfl, HB.out⟩
set_option maxHeartbeats 1000000 in
theorem containsS (p : ByteArray → Bool) (g : Nat) (lb : Array Value) (eg : ∀ args w, (callFunc g args).run Try.prog w = .ok (.enter g args) w) (A0 : Option Addr) (c0 : Nat) (l0 : List ByteArray) (w : World) (hr0 : Kd.C Kd.string w A0 l0.length l0) (hp : PredS g lb p w) :
    Calls Try.prog 55 #[.slice A0 l0.length c0, .func (.func g) #[] lb] w fun e w' => e = .returned (.bool (l0.any p)) ∧ Below w.heap.size w w' := by
  rw [← idxFrom_nonneg p l0 0 (by omega)]
  generalize hr : idxFrom p 0 l0 = r
  have HC := Lib.hid (indexS p g lb eg A0 c0 l0 w hr0 hp)
  rw [hr] at HC
  clear hr hr0 hp
  go_enter Try.func55, Try.ntmps55
  go_wp2_with (go_at_call 72; refine HC.out.mono ?_; rintro e w' ⟨rfl, hb'⟩)
  go_ret
  exact ⟨rfl, ‹_›⟩
set_option maxHeartbeats 1000000 in
set_option maxRecDepth 100000 in
theorem right1 (a : List ByteArray) (b : List Int) (A0 : Option Addr) (c0 : Nat) (A1 : Option Addr) (c1 : Nat) (i : Int) (g2 g5 : Nat) (x : ByteArray) (W : World) (ha : riseB a = true) (hl : a.length ≤ 100000)
    (hx2 : W.heap[g2]? = some (.cells #[.slice A0 a.length c0, .slice A1 b.length c1] 26 (0, 0))) (hx5 : W.heap[g5]? = some (.cells #[.int .i64 i] 3 (0, 0))) (h0 : Kd.C Kd.string W A0 a.length a) (hc0 : a.length ≤ c0) (h1 : Kd.C (Kd.int .i64) W A1 b.length b) (hc1 : b.length ≤ c1) :
    Calls Try.prog 53 #[.string x, .pointer (some ⟨g2, 0, none⟩), .pointer (some ⟨g5, 0, none⟩)] W fun e w' => e = .returned (.bool ((atS x a : Int) != i)) ∧ Below W.heap.size W w' := by
  have hu26 := Try.underlying26
  have HX2 := Lib.hid hx2
  have HX5 := Lib.hid hx5
  have H0 := Lib.hid h0
  have HC0 := Lib.hid hc0
  have H1 := Lib.hid h1
  have HC1 := Lib.hid hc1
  have HAT := Lib.hid (show leaf_at.f (a.length + 1) a b x = some (atS x a : Int) from at_spec a b x ha (by omega) (by omega))
  clear hx2 hx5 h0 hc0 h1 hc1 ha
  go_enter Try.func53, Try.ntmps53
  go_wp2
  have HBD := Lib.hid (below_drew1 (Below.refl W.heap.size W))
  have HZ2 := Lib.hid (show W.drew.heap[g2]? = some (.cells #[.slice A0 a.length c0, .slice A1 b.length c1] 26 (0, 0)) from HX2.out)
  have HZ5 := Lib.hid (show W.drew.heap[g5]? = some (.cells #[.int .i64 i] 3 (0, 0)) from HX5.out)
  go_region_held3 (fun w' => w'.cell? ⟨g2, 0, none⟩ = some (.slice A0 a.length c0) ∧ w'.cell? ⟨g2, 1, none⟩ = some (.slice A1 b.length c1) ∧ w'.cell? ⟨g5, 0, none⟩ = some (.int .i64 i)) (first | (with_reducible exact ⟨cell26a HZ2.out, cell26b HZ2.out, cell3 HZ5.out⟩) | (with_reducible exact ⟨cell26a HY2.out, cell26b HY2.out, cell3 HY5.out⟩)) (first | (go_at_call 38; refine (leaf_at.calls (a.length + 1) A0 c0 a A1 c1 b x (atS x a : Int) _ (Kd.C_below H0.out HBD.out) HC0.out (Kd.C_below H1.out HBD.out) HC1.out HAT.out).mono ?_; rintro e w1 ⟨rfl, hb⟩; have HB1 := Lib.hid (below_then HBD.out HBD.out.size hb); have HY2 := Lib.hid (blk_below HX2.out HB1.out); have HY5 := Lib.hid (blk_below HX5.out HB1.out); clear hb))
  all_goals (go_wp2; go_ret; exact ⟨rfl, HB1.out⟩)
/-- Leaf by leaf: is it one, with its number and its entries? -/
def goR (a : List ByteArray) (b : List Int) : Nat → List S28 → Bool
  | _, [] => true
  | i, x :: r => if leafB x.f1 x.f2 = true then (if x.f0 = rd b (i : Int) then (if (x.f1.any fun y => (atS y a : Int) != (i : Int)) = true then false else goR a b (i + 1) r) else false) else false
def rightB (a : List ByteArray) (b : List Int) (ls : List S28) : Bool := if rootB a b = true then (if ls.length = b.length then goR a b 0 ls else false) else false
def leaf_Right.f (a : List ByteArray) (b : List Int) (ls : List S28) : Option Bool :=
  if a.length ≤ 100000 ∧ b.length ≤ 100000 ∧ (∀ x ∈ ls, x.f1.length ≤ 100000) then some (rightB a b ls) else none
theorem drop_28 {l : List S28} {i : Nat} (h : i < l.length) : l.drop i = rd_T28 l (i : Int) :: l.drop (i + 1) := by
  rw [List.drop_eq_getElem_cons h]
  congr 1
  simp [rd_T28, List.getD_eq_getElem?_getD, List.getElem?_eq_getElem h]
theorem mem_28 {l : List S28} {i : Nat} (h : i < l.length) : rd_T28 l (i : Int) ∈ l := by simp [rd_T28, List.getD_eq_getElem?_getD, List.getElem?_eq_getElem h]
def rightT : Bool × List (List Nat × List Nat) := (true,
  [([], []), ([0], [0]), ([1], [1]), ([2, 1], [2]), ([3], [3]), ([4, 3], [3, 4]), ([3], [3]), ([6, 3], [3, 6]),
    ([3], [3]), ([7, 8, 3], [3, 7, 8]), ([9, 3], [3, 9]), ([5, 10, 3], [3, 5, 10]), ([3, 11], [3, 11]), ([12, 3], [12]),
    ([13], [13]), ([14, 13], [13, 14]), ([13], [13]), ([15, 16, 13, 13], [13, 15, 16]), ([13, 17], [13, 17])])
def rightBits : List Nat := [0, 1, 3, 7, 15, 31, 15, 79, 15, 463, 975, 2047, 4095, 8191, 16383, 32767, 16383, 131071, 262143]
theorem rightTab : rtab .any (opsOf Try.f24 7) = rightT := by kernel_rfl
theorem rightWaits : waitsOk rightT.2 rightBits = true := by kernel_rfl
set_option maxHeartbeats 4000000 in
set_option maxRecDepth 100000 in
theorem right_calls (A0 : Option Addr) (c0 : Nat) (a : List ByteArray) (A1 : Option Addr) (c1 : Nat) (b : List Int) (A2 : Option Addr) (c2 : Nat) (ls : List S28) (r : Bool) (w : World) (hr0 : Kd.C Kd.string w A0 a.length a) (hc0 : a.length ≤ c0) (hr1 : Kd.C (Kd.int .i64) w A1 b.length b) (hc1 : b.length ≤ c1) (hr2 : Kd.C k28 w A2 ls.length ls) (hc2 : ls.length ≤ c2) (hla : a.length ≤ 100000) (hlb : b.length ≤ 100000) (hll : ∀ x ∈ ls, x.f1.length ≤ 100000) (h : rightB a b ls = r) :
    Calls Try.prog 24 #[.agg #[.slice A0 a.length c0, .slice A1 b.length c1], .slice A2 ls.length c2] w fun e w' => e = .returned (.bool r) ∧ Below w.heap.size w w' := by
  have hu26 := Try.underlying26
  have hu28 := Try.underlying28
  have HR0 := Lib.hid hr0
  have HC0 := Lib.hid hc0
  have HR1 := Lib.hid hr1
  have HC1 := Lib.hid hc1
  have HR2 := Lib.hid hr2
  have HLL := Lib.hid hll
  have hm2 := hr2.2.1
  clear hr0 hc0 hr1 hc1 hr2 hc2 hll
  have ROOT : ∀ q, rootB a b = q → leaf_root.f a b = some q := fun q hq => by rw [root_spec a b (by omega) (by omega), hq]
  have eg53 := enters_of Try.func53 (by kernel_rfl) rfl
  cases hq : rootB a b with
  | false =>
    have HRO := Lib.hid (ROOT _ hq)
    have hr : r = false := by rw [← h]; unfold rightB; rw [hq]; rfl
    subst hr
    clear ROOT hq h
    go_enter Try.func24, Try.ntmps24
    go_wp2_with (go_at_call 41; refine (leaf_root.calls A0 c0 a A1 c1 b false _ (Kd.C_below HR0.out (below_alloc (Below.refl _ _) _)) HC0.out (Kd.C_below HR1.out (below_alloc (Below.refl _ _) _)) HC1.out HRO.out).mono ?_; rintro e w1 ⟨rfl, hb⟩; have HB1 := Lib.hid (below_then (below_alloc (Below.refl w.heap.size w) _) (by simp) hb); clear hb)
    go_ret
    exact ⟨rfl, HB1.out⟩
  | true =>
    have HRO := Lib.hid (ROOT _ hq)
    have HRT := Lib.hid (rootB_iff.1 hq)
    by_cases hlen : ls.length = b.length
    case neg =>
      have hr : r = false := by rw [← h]; unfold rightB; rw [hq, if_pos rfl, if_neg hlen]
      subst hr
      have hn1 : ((ls.length : Int) != (b.length : Int)) = true := bne_iff_ne.mpr (by omega)
      have hn2 : (ls.length != b.length) = true := bne_iff_ne.mpr hlen
      have hn3 : (ls.length == b.length) = false := beq_eq_false_iff_ne.mpr hlen
      clear ROOT hq h hlen
      go_enter Try.func24, Try.ntmps24
      go_wp2_with (go_at_call 41; refine (leaf_root.calls A0 c0 a A1 c1 b true _ (Kd.C_below HR0.out (below_alloc (Below.refl _ _) _)) HC0.out (Kd.C_below HR1.out (below_alloc (Below.refl _ _) _)) HC1.out HRO.out).mono ?_; rintro e w1 ⟨rfl, hb⟩; have HB1 := Lib.hid (below_then (below_alloc (Below.refl w.heap.size w) _) (by simp) hb); have HX2 := Lib.hid (blk_below (heap_alloc_new w (.cells #[.slice A0 a.length c0, .slice A1 b.length c1] 26)) hb); have q1 := cell26b HX2.out; clear hb)
      go_ret
      exact ⟨rfl, HB1.out⟩
    have hn1 : ((ls.length : Int) != (b.length : Int)) = false := bne_eq_false_iff_eq.mpr (by omega)
    have hn2 : (ls.length != b.length) = false := bne_eq_false_iff_eq.mpr hlen
    have hn3 : (ls.length == b.length) = true := beq_iff_eq.mpr hlen
    have hle1 : ls.length ≤ b.length := by omega
    have hle2 : b.length ≤ ls.length := by omega
    have H0 := Aside0.mk (show goR a b 0 ls = r by rw [← h]; unfold rightB; rw [hq, if_pos rfl, if_pos hlen])
    clear ROOT hq h hlen
    go_enter Try.func24, Try.ntmps24
    go_wp2_with (go_at_call 41; refine (leaf_root.calls A0 c0 a A1 c1 b true _ (Kd.C_below HR0.out (below_alloc (Below.refl _ _) _)) HC0.out (Kd.C_below HR1.out (below_alloc (Below.refl _ _) _)) HC1.out HRO.out).mono ?_; rintro e w1 ⟨rfl, hb⟩; have HB1 := Lib.hid (below_then (below_alloc (Below.refl w.heap.size w) _) (by simp) hb); have HX2 := Lib.hid (blk_below (heap_alloc_new w (.cells #[.slice A0 a.length c0, .slice A1 b.length c1] 26)) hb); have q1 := cell26b HX2.out; clear hb)
    clear hn1 hn2 hn3 q1
    go_loopg [21] ls.length (fun d v21 w' => ∃ (i : Nat), v21 = .int .i64 i ∧ i ≤ ls.length ∧ Aside0 (d = ls.length - i) ∧ Aside0 (goR a b i (ls.drop i) = r) ∧ Aside0 (w'.heap[w.heap.size]? = some (.cells #[.slice A0 a.length c0, .slice A1 b.length c1] 26 (0, 0))) ∧ Aside0 (Below w.heap.size w w'))
    case atStart => exact ⟨0, rfl, Nat.zero_le _, ⟨rfl⟩, H0, ⟨HX2.out⟩, ⟨HB1.out⟩⟩
    case round =>
      clear HX2 HB1
      obtain ⟨i, rfl, hi, HD, HA, HX2, HBW⟩ := hrel
      by_cases hlt : i < ls.length
      · have hib : i < b.length := by omega
        obtain ⟨ad, A3, c3, e1, hx0, hx1, hx2, hl3, hi3⟩ := at_T28 HR2.out (i : Int) (by omega) (by omega)
        subst e1
        obtain ⟨ad1, e1, hx4⟩ := Kd.at_int HR1.out (i : Int) (by omega) (by omega)
        subst e1
        have hmem := mem_28 hlt
        have hxl := HLL.out _ hmem
        have HA2 := HA.out
        rw [drop_28 hlt] at HA2
        simp only [Int.toNat_natCast] at hx0 hx1 hx2 hx4
        clear hmem HA
        generalize rd_T28 ls (i : Int) = x at *
        replace hx0 := (HBW.out.cell (World.block_lt_of_cell? w _ hx0)).trans hx0
        replace hx1 := (HBW.out.cell (World.block_lt_of_cell? w _ hx1)).trans hx1
        replace hx2 := (HBW.out.cell (World.block_lt_of_cell? w _ hx2)).trans hx2
        have HXL := Lib.hid hx4
        have HL3 := Lib.hid hl3
        have HI3 := Lib.hid hi3
        have HA := Lib.hid HA2
        clear hx4 hl3 hi3 HA2
        go_wp2_with (first | ((with_reducible refine gate_dst (N := 5) rfl ?_); refine alloc_event ?hg (N := 5) ?hd (fun g => .pointer (some ⟨g, 0, none⟩)) (.cells #[.int .i64 0] 3 (0, 0)) ?hr ?_; (case hd => rfl); (case hg => rfl); (case hr => first | (go_simp; done) | (go_simp; rfl)); intro g5 hg w1 hbox hb; have HG5 := Lib.hid (show w.heap.size < g5 by rw [hg]; exact blk_lt HX2.out); have HX5_1 := Lib.hid hbox; have HX2_1 := Lib.hid (blk_below HX2.out hb); have HB1 := Lib.hid (below_then HBW.out HBW.out.size hb); clear hg hbox hb hx0 hx1 hx2) | ((with_reducible refine gate_dst (N := 6) rfl ?_); refine alloc_event ?hg (N := 6) ?hd (fun g => .pointer (some ⟨g, 0, none⟩)) (.cells #[.int .i64 0, .slice none 0 0, .bool false] 28 (0, 0)) ?hr ?_; (case hd => rfl); (case hg => rfl); (case hr => first | (go_simp; done) | (go_simp; rfl)); intro g6 hg w2 hbox hb; have HN := Lib.hid (show g5 ≠ g6 by have := blk_lt HX5_1.out; omega); have HG6 := Lib.hid (show w.heap.size < g6 by have := blk_lt HX2_1.out; omega); have HX6_2 := Lib.hid hbox; have HX2_2 := Lib.hid (blk_below HX2_1.out hb); have HX5_2 := Lib.hid (blk_below HX5_1.out hb); have HB2 := Lib.hid (below_then HB1.out HB1.out.size hb); clear hg hbox hb) | ((with_reducible refine gate_store (t := 3) (p := 5) rfl ?_); refine store_cell rfl rfl rfl g5 0 _ 3 rfl (.int .i64 i) ?haA ?hbA HX5_2.out (by simp) (by kernel_rfl) rfl ?_; (case haA => rfl); (case hbA => first | rfl | simp [Value.cells]); intro w3 hbox hg hz; have HX5_3 := Lib.hid (show w3.heap[g5]? = some (.cells #[.int .i64 i] 3 (0, 0)) from hbox); have HX6_3 := Lib.hid (blk_grown HX6_2.out hg (fun e_ => HN.out (by injection e_ with e_; exact e_.symm))); have HX2_3 := Lib.hid (blk_grown HX2_2.out hg (fun e_ => by injection e_ with e_; have := HG5.out; omega)); have HB3 := Lib.hid (below_own HB2.out hg (Nat.le_of_lt HG5.out) HB2.out.size); clear hbox hg hz) | ((with_reducible refine gate_store (t := 28) (p := 6) rfl ?_); refine store_row rfl rfl rfl g6 _ 28 [.int .i64 x.f0, .slice A3 x.f1.length c3, .bool x.f2] rfl (.agg #[.int .i64 x.f0, .slice A3 x.f1.length c3, .bool x.f2]) ?haB ?hbB HX6_3.out rfl (by kernel_rfl) (one28 (.slice A3 x.f1.length c3) rfl x.f0 x.f2) ?_; (case haB => rfl); (case hbB => first | rfl | simp [Value.cells]); intro w4 hbox hg hz; have HX6_4 := Lib.hid (show w4.heap[g6]? = some (.cells #[.int .i64 x.f0, .slice A3 x.f1.length c3, .bool x.f2] 28 (0, 0)) from hbox); have HX5_4 := Lib.hid (blk_grown HX5_3.out hg (fun e_ => HN.out (by injection e_))); have HX2_4 := Lib.hid (blk_grown HX2_3.out hg (fun e_ => by injection e_ with e_; have := HG6.out; omega)); have HB4 := Lib.hid (below_own HB3.out hg (Nat.le_of_lt HG6.out) HB3.out.size); clear hbox hg hz; refine Hold.go ?_))
        clear HX5_1 HX2_1 HB1 HX6_2 HX2_2 HX5_2 HB2 HX5_3 HX6_3 HX2_3 HB3 HX2 HBW
        have HBQ := Lib.hid (below_drew1 HB4.out)
        have HZ2 := Lib.hid (show w4.drew.heap[w.heap.size]? = some (.cells #[.slice A0 a.length c0, .slice (some ad1) b.length c1] 26 (0, 0)) from HX2_4.out)
        have HZ5 := Lib.hid (show w4.drew.heap[g5]? = some (.cells #[.int .i64 i] 3 (0, 0)) from HX5_4.out)
        have HZ6 := Lib.hid (show w4.drew.heap[g6]? = some (.cells #[.int .i64 x.f0, .slice A3 x.f1.length c3, .bool x.f2] 28 (0, 0)) from HX6_4.out)
        have HZL := Lib.hid (show w4.drew.cell? (ad1.add i) = some (.int .i64 (rd b i)) from (HB4.out.cell (World.block_lt_of_cell? w _ HXL.out)).trans HXL.out)
        clear HX2_4 HX5_4 HX6_4 HB4 HXL
        have HAX := Lib.hid HA.out
        clear HA
        have hb1 : (0 : Int) ≤ (i : Int) := by omega
        have hb2 : (i : Int) < (b.length : Int) := by omega
        refine Hold.of ?_
        cases hlf : leafB x.f1 x.f2 with
        | false =>
          have hr : r = false := by have := HAX.out; simp only [goR] at this; rw [if_neg (by rw [hlf]; decide)] at this; exact this.symm
          subst hr
          have HLF := Lib.hid hlf
          clear hlf HAX
          go_wp2
          refine start_ (n := 19) (S := fun w' => w'.cell? ⟨w.heap.size, 0, none⟩ = some (.slice A0 a.length c0) ∧ w'.cell? ⟨w.heap.size, 1, none⟩ = some (.slice (some ad1) b.length c1) ∧ w'.cell? ⟨g5, 0, none⟩ = some (.int .i64 i) ∧ (w'.cell? ⟨g6, 0, none⟩ = some (.int .i64 x.f0) ∧ w'.cell? ⟨g6, 1, none⟩ = some (.slice A3 x.f1.length c3) ∧ w'.cell? ⟨g6, 2, none⟩ = some (.bool x.f2)) ∧ w'.cell? (ad1.add i) = some (.int .i64 (rd b i))) (ds := []) #[false, false, false, false, false, false, false, false, false, false, false, false, false, false, false, false, false, false, false] (by kernel_rfl) rfl rfl ⟨cell26a HZ2.out, cell26b HZ2.out, cell3 HZ5.out, cell28 HZ6.out, HZL.out⟩ (fun hHeld => ?_); refine with_tabW rightTab rightWaits (fun HT_ HW_ => ?_)
          generalize w4.drew = w5 at HBQ HZ2 HZ5 HZ6 HZL hHeld ⊢
          refine take_ (i := 0) (N := some 27) (v := ?_) (a' := ?_) #[true, false, false, false, false, false, false, false, false, false, false, false, false, false, false, false, false, false, false] rfl rfl (take_ofW HT_.out HW_.out (by kernel_rfl)) (fun _ _ _ h => h) (Or.inl ⟨by rfl, ?_⟩) hHeld ?_ ?_
          rotate_left
          · rintro w' ⟨s0, s1, s2, ⟨s3, s4, s5⟩, s6⟩
            go_simp
            with_reducible rfl
          rotate_left
          · simp only [Act.put, List.setIfInBounds_toArray, List.set_cons_zero, List.set_cons_succ, i64_w, i32_w]
            rfl
          refine one_ (i := 1) (N := some 28) #[true, true, false, false, false, false, false, false, false, false, false, false, false, false, false, false, false, false, false] rfl rfl (one_of HT_.out (by kernel_rfl)) (by decide) (fun K hK => ?_)
          refine goes_ Try.func54 (by kernel_rfl) rfl #[.agg #[.int .i64 x.f0, .slice A3 x.f1.length c3, .bool x.f2]] (by rfl) rfl rfl (by (try simp only [List.map_toArray, List.map_cons, List.map_nil]); first | done | rfl | (simp only [List.length_drop, List.length_take]; rfl)) ?_
          with_reducible refine (leaf_leaf.calls (x.f1.length + 2) x.f0 A3 c3 x.f1 x.f2 false _ (Kd.C_below HI3.out HBQ.out) HL3.out (by rw [leaf_spec _ _ _ (by omega) (by omega), HLF.out])).mono ?_
          rintro e w6 ⟨rfl, hb⟩
          refine ⟨_, rfl, ?_⟩
          have HB4 := Lib.hid (below_then HBQ.out HBQ.out.size hb)
          have HY2 := Lib.hid (blk_below HZ2.out hb)
          have HY5 := Lib.hid (blk_below HZ5.out hb)
          have HY6 := Lib.hid (blk_below HZ6.out hb)
          have HYL := Lib.hid ((hb.cell (World.block_lt_of_cell? _ _ HZL.out)).trans HZL.out)
          clear hb HZ2 HZ5 HZ6 HZL HBQ
          refine hK.out _ _ ⟨cell26a HY2.out, cell26b HY2.out, cell3 HY5.out, cell28 HY6.out, HYL.out⟩ (fun hHeld => ?_)
          clear hK K
          refine norm_ (a' := ?_) ?_ ?_
          rotate_left
          · show Act.put _ (some 28) _ = _
            simp only [Act.put, List.setIfInBounds_toArray, List.set_cons_zero, List.set_cons_succ, i64_w, i32_w]
            rfl
          refine pure_ (i := 2) (N := some 29) (v := ?_) (a' := ?_) #[true, true, true, false, false, false, false, false, false, false, false, false, false, false, false, false, false, false, false] rfl rfl (any_of HT_.out (by kernel_rfl)) (fun _ _ _ h => h) (Or.inl ⟨by rfl, ?_⟩) ?_ ?_
          rotate_left
          · intro w'
            go_simp
            with_reducible rfl
          rotate_left
          · simp only [Act.put, List.setIfInBounds_toArray, List.set_cons_zero, List.set_cons_succ, i64_w, i32_w]
            rfl
          refine pure_ (i := 3) (N := some 30) (v := ?_) (a' := ?_) #[true, true, true, true, false, false, false, false, false, false, false, false, false, false, false, false, false, false, false] rfl rfl (any_of HT_.out (by kernel_rfl)) (fun _ _ _ h => h) (Or.inl ⟨by rfl, ?_⟩) ?_ ?_
          rotate_left
          · intro w'
            go_simp
            with_reducible rfl
          rotate_left
          · simp only [Act.put, List.setIfInBounds_toArray, List.set_cons_zero, List.set_cons_succ, i64_w, i32_w]
            rfl
          refine pure_ (i := 4) (N := some 31) (v := undef) (a' := ?_) #[true, true, true, true, true, false, false, false, false, false, false, false, false, false, false, false, false, false, false] rfl rfl (any_of HT_.out (by kernel_rfl)) (fun _ _ _ h => h) (Or.inr ⟨by rfl, rfl⟩) ?_ ?_
          rotate_left
          · simp only [Act.put, List.setIfInBounds_toArray, List.set_cons_zero, List.set_cons_succ, i64_w, i32_w]
            rfl
          refine pure_ (i := 5) (N := some 32) (v := undef) (a' := ?_) #[true, true, true, true, true, true, false, false, false, false, false, false, false, false, false, false, false, false, false] rfl rfl (any_of HT_.out (by kernel_rfl)) (fun _ _ _ h => h) (Or.inr ⟨by rfl, rfl⟩) ?_ ?_
          rotate_left
          · simp only [Act.put, List.setIfInBounds_toArray, List.set_cons_zero, List.set_cons_succ, i64_w, i32_w]
            rfl
          refine pure_ (i := 6) (N := some 33) (v := undef) (a' := ?_) #[true, true, true, true, true, true, true, false, false, false, false, false, false, false, false, false, false, false, false] rfl rfl (any_of HT_.out (by kernel_rfl)) (fun _ _ _ h => h) (Or.inr ⟨by rfl, rfl⟩) ?_ ?_
          rotate_left
          · simp only [Act.put, List.setIfInBounds_toArray, List.set_cons_zero, List.set_cons_succ, i64_w, i32_w]
            rfl
          refine pure_ (i := 7) (N := some 34) (v := undef) (a' := ?_) #[true, true, true, true, true, true, true, true, false, false, false, false, false, false, false, false, false, false, false] rfl rfl (any_of HT_.out (by kernel_rfl)) (fun _ _ _ h => h) (Or.inr ⟨by rfl, rfl⟩) ?_ ?_
          rotate_left
          · simp only [Act.put, List.setIfInBounds_toArray, List.set_cons_zero, List.set_cons_succ, i64_w, i32_w]
            rfl
          refine pure_ (i := 8) (N := some 35) (v := undef) (a' := ?_) #[true, true, true, true, true, true, true, true, true, false, false, false, false, false, false, false, false, false, false] rfl rfl (any_of HT_.out (by kernel_rfl)) (fun _ _ _ h => h) (Or.inr ⟨by rfl, rfl⟩) ?_ ?_
          rotate_left
          · simp only [Act.put, List.setIfInBounds_toArray, List.set_cons_zero, List.set_cons_succ, i64_w, i32_w]
            rfl
          refine pure_ (i := 9) (N := some 36) (v := undef) (a' := ?_) #[true, true, true, true, true, true, true, true, true, true, false, false, false, false, false, false, false, false, false] rfl rfl (any_of HT_.out (by kernel_rfl)) (fun _ _ _ h => h) (Or.inr ⟨by rfl, rfl⟩) ?_ ?_
          rotate_left
          · simp only [Act.put, List.setIfInBounds_toArray, List.set_cons_zero, List.set_cons_succ, i64_w, i32_w]
            rfl
          refine pure_ (i := 10) (N := some 37) (v := undef) (a' := ?_) #[true, true, true, true, true, true, true, true, true, true, true, false, false, false, false, false, false, false, false] rfl rfl (any_of HT_.out (by kernel_rfl)) (fun _ _ _ h => h) (Or.inr ⟨by rfl, rfl⟩) ?_ ?_
          rotate_left
          · simp only [Act.put, List.setIfInBounds_toArray, List.set_cons_zero, List.set_cons_succ, i64_w, i32_w]
            rfl
          refine pure_ (i := 11) (N := some 38) (v := undef) (a' := ?_) #[true, true, true, true, true, true, true, true, true, true, true, true, false, false, false, false, false, false, false] rfl rfl (any_of HT_.out (by kernel_rfl)) (fun _ _ _ h => h) (Or.inr ⟨by rfl, rfl⟩) ?_ ?_
          rotate_left
          · simp only [Act.put, List.setIfInBounds_toArray, List.set_cons_zero, List.set_cons_succ, i64_w, i32_w]
            rfl
          refine pure_ (i := 12) (N := some 39) (v := ?_) (a' := ?_) #[true, true, true, true, true, true, true, true, true, true, true, true, true, false, false, false, false, false, false] rfl rfl (any_of HT_.out (by kernel_rfl)) (fun _ _ _ h => h) (Or.inl ⟨by rfl, ?_⟩) ?_ ?_
          rotate_left
          · intro w'
            go_simp
            with_reducible rfl
          rotate_left
          · simp only [Act.put, List.setIfInBounds_toArray, List.set_cons_zero, List.set_cons_succ, i64_w, i32_w]
            rfl
          refine pure_ (i := 13) (N := some 40) (v := ?_) (a' := ?_) #[true, true, true, true, true, true, true, true, true, true, true, true, true, true, false, false, false, false, false] rfl rfl (any_of HT_.out (by kernel_rfl)) (fun _ _ _ h => h) (Or.inl ⟨by rfl, ?_⟩) ?_ ?_
          rotate_left
          · intro w'
            go_simp
            with_reducible rfl
          rotate_left
          · simp only [Act.put, List.setIfInBounds_toArray, List.set_cons_zero, List.set_cons_succ, i64_w, i32_w]
            rfl
          refine pure_ (i := 14) (N := some 41) (v := undef) (a' := ?_) #[true, true, true, true, true, true, true, true, true, true, true, true, true, true, true, false, false, false, false] rfl rfl (any_of HT_.out (by kernel_rfl)) (fun _ _ _ h => h) (Or.inr ⟨by rfl, rfl⟩) ?_ ?_
          rotate_left
          · simp only [Act.put, List.setIfInBounds_toArray, List.set_cons_zero, List.set_cons_succ, i64_w, i32_w]
            rfl
          refine pure_ (i := 15) (N := some 42) (v := undef) (a' := ?_) #[true, true, true, true, true, true, true, true, true, true, true, true, true, true, true, true, false, false, false] rfl rfl (any_of HT_.out (by kernel_rfl)) (fun _ _ _ h => h) (Or.inr ⟨by rfl, rfl⟩) ?_ ?_
          rotate_left
          · simp only [Act.put, List.setIfInBounds_toArray, List.set_cons_zero, List.set_cons_succ, i64_w, i32_w]
            rfl
          refine pure_ (i := 16) (N := some 43) (v := undef) (a' := ?_) #[true, true, true, true, true, true, true, true, true, true, true, true, true, true, true, true, true, false, false] rfl rfl (any_of HT_.out (by kernel_rfl)) (fun _ _ _ h => h) (Or.inr ⟨by rfl, rfl⟩) ?_ ?_
          rotate_left
          · simp only [Act.put, List.setIfInBounds_toArray, List.set_cons_zero, List.set_cons_succ, i64_w, i32_w]
            rfl
          refine pure_ (i := 17) (N := some 44) (v := undef) (a' := ?_) #[true, true, true, true, true, true, true, true, true, true, true, true, true, true, true, true, true, true, false] rfl rfl (any_of HT_.out (by kernel_rfl)) (fun _ _ _ h => h) (Or.inr ⟨by rfl, rfl⟩) ?_ ?_
          rotate_left
          · simp only [Act.put, List.setIfInBounds_toArray, List.set_cons_zero, List.set_cons_succ, i64_w, i32_w]
            rfl
          refine pure_ (i := 18) (N := some 45) (v := ?_) (a' := ?_) #[true, true, true, true, true, true, true, true, true, true, true, true, true, true, true, true, true, true, true] rfl rfl (any_of HT_.out (by kernel_rfl)) (fun _ _ _ h => h) (Or.inl ⟨by rfl, ?_⟩) ?_ ?_
          rotate_left
          · intro w'
            go_simp
            with_reducible rfl
          rotate_left
          · simp only [Act.put, List.setIfInBounds_toArray, List.set_cons_zero, List.set_cons_succ, i64_w, i32_w]
            rfl
          refine done_ (done_of HT_.out (by kernel_rfl)) ?_
          go_wp2
          go_ret
          exact ⟨rfl, HB4.out⟩
        | true =>
          have HLF := Lib.hid hlf
          by_cases hno : x.f0 = rd b (i : Int)
          case neg =>
            have hr : r = false := by have := HAX.out; simp only [goR] at this; rw [if_pos hlf, if_neg hno] at this; exact this.symm
            subst hr
            have hno1 : (x.f0 != rd b (i : Int)) = true := bne_iff_ne.mpr hno
            have hno2 : (x.f0 == rd b (i : Int)) = false := beq_eq_false_iff_ne.mpr hno
            clear hlf HAX hno
            go_wp2
            refine start_ (n := 19) (S := fun w' => w'.cell? ⟨w.heap.size, 0, none⟩ = some (.slice A0 a.length c0) ∧ w'.cell? ⟨w.heap.size, 1, none⟩ = some (.slice (some ad1) b.length c1) ∧ w'.cell? ⟨g5, 0, none⟩ = some (.int .i64 i) ∧ (w'.cell? ⟨g6, 0, none⟩ = some (.int .i64 x.f0) ∧ w'.cell? ⟨g6, 1, none⟩ = some (.slice A3 x.f1.length c3) ∧ w'.cell? ⟨g6, 2, none⟩ = some (.bool x.f2)) ∧ w'.cell? (ad1.add i) = some (.int .i64 (rd b i))) (ds := []) #[false, false, false, false, false, false, false, false, false, false, false, false, false, false, false, false, false, false, false] (by kernel_rfl) rfl rfl ⟨cell26a HZ2.out, cell26b HZ2.out, cell3 HZ5.out, cell28 HZ6.out, HZL.out⟩ (fun hHeld => ?_); refine with_tabW rightTab rightWaits (fun HT_ HW_ => ?_)
            generalize w4.drew = w5 at HBQ HZ2 HZ5 HZ6 HZL hHeld ⊢
            refine take_ (i := 0) (N := some 27) (v := ?_) (a' := ?_) #[true, false, false, false, false, false, false, false, false, false, false, false, false, false, false, false, false, false, false] rfl rfl (take_ofW HT_.out HW_.out (by kernel_rfl)) (fun _ _ _ h => h) (Or.inl ⟨by rfl, ?_⟩) hHeld ?_ ?_
            rotate_left
            · rintro w' ⟨s0, s1, s2, ⟨s3, s4, s5⟩, s6⟩
              go_simp
              with_reducible rfl
            rotate_left
            · simp only [Act.put, List.setIfInBounds_toArray, List.set_cons_zero, List.set_cons_succ, i64_w, i32_w]
              rfl
            refine one_ (i := 1) (N := some 28) #[true, true, false, false, false, false, false, false, false, false, false, false, false, false, false, false, false, false, false] rfl rfl (one_of HT_.out (by kernel_rfl)) (by decide) (fun K hK => ?_)
            refine goes_ Try.func54 (by kernel_rfl) rfl #[.agg #[.int .i64 x.f0, .slice A3 x.f1.length c3, .bool x.f2]] (by rfl) rfl rfl (by (try simp only [List.map_toArray, List.map_cons, List.map_nil]); first | done | rfl | (simp only [List.length_drop, List.length_take]; rfl)) ?_
            with_reducible refine (leaf_leaf.calls (x.f1.length + 2) x.f0 A3 c3 x.f1 x.f2 true _ (Kd.C_below HI3.out HBQ.out) HL3.out (by rw [leaf_spec _ _ _ (by omega) (by omega), HLF.out])).mono ?_
            rintro e w6 ⟨rfl, hb⟩
            refine ⟨_, rfl, ?_⟩
            have HB4 := Lib.hid (below_then HBQ.out HBQ.out.size hb)
            have HY2 := Lib.hid (blk_below HZ2.out hb)
            have HY5 := Lib.hid (blk_below HZ5.out hb)
            have HY6 := Lib.hid (blk_below HZ6.out hb)
            have HYL := Lib.hid ((hb.cell (World.block_lt_of_cell? _ _ HZL.out)).trans HZL.out)
            clear hb HZ2 HZ5 HZ6 HZL HBQ
            refine hK.out _ _ ⟨cell26a HY2.out, cell26b HY2.out, cell3 HY5.out, cell28 HY6.out, HYL.out⟩ (fun hHeld => ?_)
            clear hK K
            refine norm_ (a' := ?_) ?_ ?_
            rotate_left
            · show Act.put _ (some 28) _ = _
              simp only [Act.put, List.setIfInBounds_toArray, List.set_cons_zero, List.set_cons_succ, i64_w, i32_w]
              rfl
            refine pure_ (i := 2) (N := some 29) (v := ?_) (a' := ?_) #[true, true, true, false, false, false, false, false, false, false, false, false, false, false, false, false, false, false, false] rfl rfl (any_of HT_.out (by kernel_rfl)) (fun _ _ _ h => h) (Or.inl ⟨by rfl, ?_⟩) ?_ ?_
            rotate_left
            · intro w'
              go_simp
              with_reducible rfl
            rotate_left
            · simp only [Act.put, List.setIfInBounds_toArray, List.set_cons_zero, List.set_cons_succ, i64_w, i32_w]
              rfl
            refine pure_ (i := 3) (N := some 30) (v := ?_) (a' := ?_) #[true, true, true, true, false, false, false, false, false, false, false, false, false, false, false, false, false, false, false] rfl rfl (any_of HT_.out (by kernel_rfl)) (fun _ _ _ h => h) (Or.inl ⟨by rfl, ?_⟩) ?_ ?_
            rotate_left
            · intro w'
              go_simp
              with_reducible rfl
            rotate_left
            · simp only [Act.put, List.setIfInBounds_toArray, List.set_cons_zero, List.set_cons_succ, i64_w, i32_w]
              rfl
            refine pure_ (i := 4) (N := some 31) (v := ?_) (a' := ?_) #[true, true, true, true, true, false, false, false, false, false, false, false, false, false, false, false, false, false, false] rfl rfl (any_of HT_.out (by kernel_rfl)) (fun _ _ _ h => h) (Or.inl ⟨by rfl, ?_⟩) ?_ ?_
            rotate_left
            · intro w'
              go_simp
              with_reducible rfl
            rotate_left
            · simp only [Act.put, List.setIfInBounds_toArray, List.set_cons_zero, List.set_cons_succ, i64_w, i32_w]
              rfl
            refine pure_ (i := 6) (N := some 33) (v := ?_) (a' := ?_) #[true, true, true, true, true, false, true, false, false, false, false, false, false, false, false, false, false, false, false] rfl rfl (any_of HT_.out (by kernel_rfl)) (fun _ _ _ h => h) (Or.inl ⟨by rfl, ?_⟩) ?_ ?_
            rotate_left
            · intro w'
              go_simp
              with_reducible rfl
            rotate_left
            · simp only [Act.put, List.setIfInBounds_toArray, List.set_cons_zero, List.set_cons_succ, i64_w, i32_w]
              rfl
            refine take_ (i := 5) (N := some 32) (v := ?_) (a' := ?_) #[true, true, true, true, true, true, true, false, false, false, false, false, false, false, false, false, false, false, false] rfl rfl (take_ofW HT_.out HW_.out (by kernel_rfl)) (fun _ _ _ h => h) (Or.inl ⟨by rfl, ?_⟩) hHeld ?_ ?_
            rotate_left
            · rintro w' ⟨s0, s1, s2, ⟨s3, s4, s5⟩, s6⟩
              go_simp
              with_reducible rfl
            rotate_left
            · simp only [Act.put, List.setIfInBounds_toArray, List.set_cons_zero, List.set_cons_succ, i64_w, i32_w]
              rfl
            refine take_ (i := 7) (N := some 34) (v := ?_) (a' := ?_) #[true, true, true, true, true, true, true, true, false, false, false, false, false, false, false, false, false, false, false] rfl rfl (take_ofW HT_.out HW_.out (by kernel_rfl)) (fun _ _ _ h => h) (Or.inl ⟨by rfl, ?_⟩) hHeld ?_ ?_
            rotate_left
            · rintro w' ⟨s0, s1, s2, ⟨s3, s4, s5⟩, s6⟩
              go_simp
              with_reducible rfl
            rotate_left
            · simp only [Act.put, List.setIfInBounds_toArray, List.set_cons_zero, List.set_cons_succ, i64_w, i32_w]
              rfl
            refine take_ (i := 8) (N := some 35) (v := ?_) (a' := ?_) #[true, true, true, true, true, true, true, true, true, false, false, false, false, false, false, false, false, false, false] rfl rfl (take_ofW HT_.out HW_.out (by kernel_rfl)) (fun _ _ _ h => h) (Or.inl ⟨by rfl, ?_⟩) hHeld ?_ ?_
            rotate_left
            · rintro w' ⟨s0, s1, s2, ⟨s3, s4, s5⟩, s6⟩
              go_simp
              with_reducible rfl
            rotate_left
            · simp only [Act.put, List.setIfInBounds_toArray, List.set_cons_zero, List.set_cons_succ, i64_w, i32_w]
              rfl
            refine pure_ (i := 9) (N := some 36) (v := ?_) (a' := ?_) #[true, true, true, true, true, true, true, true, true, true, false, false, false, false, false, false, false, false, false] rfl rfl (any_of HT_.out (by kernel_rfl)) (fun _ _ _ h => h) (Or.inl ⟨by rfl, ?_⟩) ?_ ?_
            rotate_left
            · intro w'
              go_simp
              with_reducible rfl
            rotate_left
            · simp only [Act.put, List.setIfInBounds_toArray, List.set_cons_zero, List.set_cons_succ, i64_w, i32_w]
              rfl
            refine take_ (i := 10) (N := some 37) (v := ?_) (a' := ?_) #[true, true, true, true, true, true, true, true, true, true, true, false, false, false, false, false, false, false, false] rfl rfl (take_ofW HT_.out HW_.out (by kernel_rfl)) (fun _ _ _ h => h) (Or.inl ⟨by rfl, ?_⟩) hHeld ?_ ?_
            rotate_left
            · rintro w' ⟨s0, s1, s2, ⟨s3, s4, s5⟩, s6⟩
              go_simp
              with_reducible rfl
            rotate_left
            · simp only [Act.put, List.setIfInBounds_toArray, List.set_cons_zero, List.set_cons_succ, i64_w, i32_w]
              rfl
            refine pure_ (i := 11) (N := some 38) (v := ?_) (a' := ?_) #[true, true, true, true, true, true, true, true, true, true, true, true, false, false, false, false, false, false, false] rfl rfl (any_of HT_.out (by kernel_rfl)) (fun _ _ _ h => h) (Or.inl ⟨by rfl, ?_⟩) ?_ ?_
            rotate_left
            · intro w'
              go_simp
              with_reducible rfl
            rotate_left
            · simp only [Act.put, List.setIfInBounds_toArray, List.set_cons_zero, List.set_cons_succ, i64_w, i32_w]
              rfl
            refine pure_ (i := 12) (N := some 39) (v := ?_) (a' := ?_) #[true, true, true, true, true, true, true, true, true, true, true, true, true, false, false, false, false, false, false] rfl rfl (any_of HT_.out (by kernel_rfl)) (fun _ _ _ h => h) (Or.inl ⟨by rfl, ?_⟩) ?_ ?_
            rotate_left
            · intro w'
              go_simp
              with_reducible rfl
            rotate_left
            · simp only [Act.put, List.setIfInBounds_toArray, List.set_cons_zero, List.set_cons_succ, i64_w, i32_w]
              rfl
            refine pure_ (i := 13) (N := some 40) (v := ?_) (a' := ?_) #[true, true, true, true, true, true, true, true, true, true, true, true, true, true, false, false, false, false, false] rfl rfl (any_of HT_.out (by kernel_rfl)) (fun _ _ _ h => h) (Or.inl ⟨by rfl, ?_⟩) ?_ ?_
            rotate_left
            · intro w'
              go_simp
              with_reducible rfl
            rotate_left
            · simp only [Act.put, List.setIfInBounds_toArray, List.set_cons_zero, List.set_cons_succ, i64_w, i32_w]
              rfl
            refine pure_ (i := 14) (N := some 41) (v := undef) (a' := ?_) #[true, true, true, true, true, true, true, true, true, true, true, true, true, true, true, false, false, false, false] rfl rfl (any_of HT_.out (by kernel_rfl)) (fun _ _ _ h => h) (Or.inr ⟨by rfl, rfl⟩) ?_ ?_
            rotate_left
            · simp only [Act.put, List.setIfInBounds_toArray, List.set_cons_zero, List.set_cons_succ, i64_w, i32_w]
              rfl
            refine pure_ (i := 15) (N := some 42) (v := undef) (a' := ?_) #[true, true, true, true, true, true, true, true, true, true, true, true, true, true, true, true, false, false, false] rfl rfl (any_of HT_.out (by kernel_rfl)) (fun _ _ _ h => h) (Or.inr ⟨by rfl, rfl⟩) ?_ ?_
            rotate_left
            · simp only [Act.put, List.setIfInBounds_toArray, List.set_cons_zero, List.set_cons_succ, i64_w, i32_w]
              rfl
            refine pure_ (i := 16) (N := some 43) (v := undef) (a' := ?_) #[true, true, true, true, true, true, true, true, true, true, true, true, true, true, true, true, true, false, false] rfl rfl (any_of HT_.out (by kernel_rfl)) (fun _ _ _ h => h) (Or.inr ⟨by rfl, rfl⟩) ?_ ?_
            rotate_left
            · simp only [Act.put, List.setIfInBounds_toArray, List.set_cons_zero, List.set_cons_succ, i64_w, i32_w]
              rfl
            refine pure_ (i := 17) (N := some 44) (v := undef) (a' := ?_) #[true, true, true, true, true, true, true, true, true, true, true, true, true, true, true, true, true, true, false] rfl rfl (any_of HT_.out (by kernel_rfl)) (fun _ _ _ h => h) (Or.inr ⟨by rfl, rfl⟩) ?_ ?_
            rotate_left
            · simp only [Act.put, List.setIfInBounds_toArray, List.set_cons_zero, List.set_cons_succ, i64_w, i32_w]
              rfl
            refine pure_ (i := 18) (N := some 45) (v := ?_) (a' := ?_) #[true, true, true, true, true, true, true, true, true, true, true, true, true, true, true, true, true, true, true] rfl rfl (any_of HT_.out (by kernel_rfl)) (fun _ _ _ h => h) (Or.inl ⟨by rfl, ?_⟩) ?_ ?_
            rotate_left
            · intro w'
              go_simp
              with_reducible rfl
            rotate_left
            · simp only [Act.put, List.setIfInBounds_toArray, List.set_cons_zero, List.set_cons_succ, i64_w, i32_w]
              rfl
            refine done_ (done_of HT_.out (by kernel_rfl)) ?_
            go_wp2
            go_ret
            exact ⟨rfl, HB4.out⟩
          case pos =>
            have hno1 : (x.f0 != rd b (i : Int)) = false := bne_eq_false_iff_eq.mpr hno
            have hno2 : (x.f0 == rd b (i : Int)) = true := beq_iff_eq.mpr hno
            cases hk : x.f1.any fun y => (atS y a : Int) != (i : Int) with
            | true =>
              have hr : r = false := by have := HAX.out; simp only [goR] at this; rw [if_pos hlf, if_pos hno, if_pos hk] at this; exact this.symm
              subst hr
              have HK := Lib.hid hk
              clear hlf HAX hno hk
              go_wp2
              refine start_ (n := 19) (S := fun w' => w'.cell? ⟨w.heap.size, 0, none⟩ = some (.slice A0 a.length c0) ∧ w'.cell? ⟨w.heap.size, 1, none⟩ = some (.slice (some ad1) b.length c1) ∧ w'.cell? ⟨g5, 0, none⟩ = some (.int .i64 i) ∧ (w'.cell? ⟨g6, 0, none⟩ = some (.int .i64 x.f0) ∧ w'.cell? ⟨g6, 1, none⟩ = some (.slice A3 x.f1.length c3) ∧ w'.cell? ⟨g6, 2, none⟩ = some (.bool x.f2)) ∧ w'.cell? (ad1.add i) = some (.int .i64 (rd b i))) (ds := []) #[false, false, false, false, false, false, false, false, false, false, false, false, false, false, false, false, false, false, false] (by kernel_rfl) rfl rfl ⟨cell26a HZ2.out, cell26b HZ2.out, cell3 HZ5.out, cell28 HZ6.out, HZL.out⟩ (fun hHeld => ?_); refine with_tabW rightTab rightWaits (fun HT_ HW_ => ?_)
              generalize w4.drew = w5 at HBQ HZ2 HZ5 HZ6 HZL hHeld ⊢
              refine take_ (i := 0) (N := some 27) (v := ?_) (a' := ?_) #[true, false, false, false, false, false, false, false, false, false, false, false, false, false, false, false, false, false, false] rfl rfl (take_ofW HT_.out HW_.out (by kernel_rfl)) (fun _ _ _ h => h) (Or.inl ⟨by rfl, ?_⟩) hHeld ?_ ?_
              rotate_left
              · rintro w' ⟨s0, s1, s2, ⟨s3, s4, s5⟩, s6⟩
                go_simp
                with_reducible rfl
              rotate_left
              · simp only [Act.put, List.setIfInBounds_toArray, List.set_cons_zero, List.set_cons_succ, i64_w, i32_w]
                rfl
              refine one_ (i := 1) (N := some 28) #[true, true, false, false, false, false, false, false, false, false, false, false, false, false, false, false, false, false, false] rfl rfl (one_of HT_.out (by kernel_rfl)) (by decide) (fun K hK => ?_)
              refine goes_ Try.func54 (by kernel_rfl) rfl #[.agg #[.int .i64 x.f0, .slice A3 x.f1.length c3, .bool x.f2]] (by rfl) rfl rfl (by (try simp only [List.map_toArray, List.map_cons, List.map_nil]); first | done | rfl | (simp only [List.length_drop, List.length_take]; rfl)) ?_
              with_reducible refine (leaf_leaf.calls (x.f1.length + 2) x.f0 A3 c3 x.f1 x.f2 true _ (Kd.C_below HI3.out HBQ.out) HL3.out (by rw [leaf_spec _ _ _ (by omega) (by omega), HLF.out])).mono ?_
              rintro e w6 ⟨rfl, hb⟩
              refine ⟨_, rfl, ?_⟩
              have HB4 := Lib.hid (below_then HBQ.out HBQ.out.size hb)
              have HY2 := Lib.hid (blk_below HZ2.out hb)
              have HY5 := Lib.hid (blk_below HZ5.out hb)
              have HY6 := Lib.hid (blk_below HZ6.out hb)
              have HYL := Lib.hid ((hb.cell (World.block_lt_of_cell? _ _ HZL.out)).trans HZL.out)
              clear hb HZ2 HZ5 HZ6 HZL HBQ
              refine hK.out _ _ ⟨cell26a HY2.out, cell26b HY2.out, cell3 HY5.out, cell28 HY6.out, HYL.out⟩ (fun hHeld => ?_)
              clear hK K
              refine norm_ (a' := ?_) ?_ ?_
              rotate_left
              · show Act.put _ (some 28) _ = _
                simp only [Act.put, List.setIfInBounds_toArray, List.set_cons_zero, List.set_cons_succ, i64_w, i32_w]
                rfl
              refine pure_ (i := 2) (N := some 29) (v := ?_) (a' := ?_) #[true, true, true, false, false, false, false, false, false, false, false, false, false, false, false, false, false, false, false] rfl rfl (any_of HT_.out (by kernel_rfl)) (fun _ _ _ h => h) (Or.inl ⟨by rfl, ?_⟩) ?_ ?_
              rotate_left
              · intro w'
                go_simp
                with_reducible rfl
              rotate_left
              · simp only [Act.put, List.setIfInBounds_toArray, List.set_cons_zero, List.set_cons_succ, i64_w, i32_w]
                rfl
              refine pure_ (i := 3) (N := some 30) (v := ?_) (a' := ?_) #[true, true, true, true, false, false, false, false, false, false, false, false, false, false, false, false, false, false, false] rfl rfl (any_of HT_.out (by kernel_rfl)) (fun _ _ _ h => h) (Or.inl ⟨by rfl, ?_⟩) ?_ ?_
              rotate_left
              · intro w'
                go_simp
                with_reducible rfl
              rotate_left
              · simp only [Act.put, List.setIfInBounds_toArray, List.set_cons_zero, List.set_cons_succ, i64_w, i32_w]
                rfl
              refine pure_ (i := 4) (N := some 31) (v := ?_) (a' := ?_) #[true, true, true, true, true, false, false, false, false, false, false, false, false, false, false, false, false, false, false] rfl rfl (any_of HT_.out (by kernel_rfl)) (fun _ _ _ h => h) (Or.inl ⟨by rfl, ?_⟩) ?_ ?_
              rotate_left
              · intro w'
                go_simp
                with_reducible rfl
              rotate_left
              · simp only [Act.put, List.setIfInBounds_toArray, List.set_cons_zero, List.set_cons_succ, i64_w, i32_w]
                rfl
              refine pure_ (i := 6) (N := some 33) (v := ?_) (a' := ?_) #[true, true, true, true, true, false, true, false, false, false, false, false, false, false, false, false, false, false, false] rfl rfl (any_of HT_.out (by kernel_rfl)) (fun _ _ _ h => h) (Or.inl ⟨by rfl, ?_⟩) ?_ ?_
              rotate_left
              · intro w'
                go_simp
                with_reducible rfl
              rotate_left
              · simp only [Act.put, List.setIfInBounds_toArray, List.set_cons_zero, List.set_cons_succ, i64_w, i32_w]
                rfl
              refine take_ (i := 5) (N := some 32) (v := ?_) (a' := ?_) #[true, true, true, true, true, true, true, false, false, false, false, false, false, false, false, false, false, false, false] rfl rfl (take_ofW HT_.out HW_.out (by kernel_rfl)) (fun _ _ _ h => h) (Or.inl ⟨by rfl, ?_⟩) hHeld ?_ ?_
              rotate_left
              · rintro w' ⟨s0, s1, s2, ⟨s3, s4, s5⟩, s6⟩
                go_simp
                with_reducible rfl
              rotate_left
              · simp only [Act.put, List.setIfInBounds_toArray, List.set_cons_zero, List.set_cons_succ, i64_w, i32_w]
                rfl
              refine take_ (i := 7) (N := some 34) (v := ?_) (a' := ?_) #[true, true, true, true, true, true, true, true, false, false, false, false, false, false, false, false, false, false, false] rfl rfl (take_ofW HT_.out HW_.out (by kernel_rfl)) (fun _ _ _ h => h) (Or.inl ⟨by rfl, ?_⟩) hHeld ?_ ?_
              rotate_left
              · rintro w' ⟨s0, s1, s2, ⟨s3, s4, s5⟩, s6⟩
                go_simp
                with_reducible rfl
              rotate_left
              · simp only [Act.put, List.setIfInBounds_toArray, List.set_cons_zero, List.set_cons_succ, i64_w, i32_w]
                rfl
              refine take_ (i := 8) (N := some 35) (v := ?_) (a' := ?_) #[true, true, true, true, true, true, true, true, true, false, false, false, false, false, false, false, false, false, false] rfl rfl (take_ofW HT_.out HW_.out (by kernel_rfl)) (fun _ _ _ h => h) (Or.inl ⟨by rfl, ?_⟩) hHeld ?_ ?_
              rotate_left
              · rintro w' ⟨s0, s1, s2, ⟨s3, s4, s5⟩, s6⟩
                go_simp
                with_reducible rfl
              rotate_left
              · simp only [Act.put, List.setIfInBounds_toArray, List.set_cons_zero, List.set_cons_succ, i64_w, i32_w]
                rfl
              refine pure_ (i := 9) (N := some 36) (v := ?_) (a' := ?_) #[true, true, true, true, true, true, true, true, true, true, false, false, false, false, false, false, false, false, false] rfl rfl (any_of HT_.out (by kernel_rfl)) (fun _ _ _ h => h) (Or.inl ⟨by rfl, ?_⟩) ?_ ?_
              rotate_left
              · intro w'
                go_simp
                with_reducible rfl
              rotate_left
              · simp only [Act.put, List.setIfInBounds_toArray, List.set_cons_zero, List.set_cons_succ, i64_w, i32_w]
                rfl
              refine take_ (i := 10) (N := some 37) (v := ?_) (a' := ?_) #[true, true, true, true, true, true, true, true, true, true, true, false, false, false, false, false, false, false, false] rfl rfl (take_ofW HT_.out HW_.out (by kernel_rfl)) (fun _ _ _ h => h) (Or.inl ⟨by rfl, ?_⟩) hHeld ?_ ?_
              rotate_left
              · rintro w' ⟨s0, s1, s2, ⟨s3, s4, s5⟩, s6⟩
                go_simp
                with_reducible rfl
              rotate_left
              · simp only [Act.put, List.setIfInBounds_toArray, List.set_cons_zero, List.set_cons_succ, i64_w, i32_w]
                rfl
              refine pure_ (i := 11) (N := some 38) (v := ?_) (a' := ?_) #[true, true, true, true, true, true, true, true, true, true, true, true, false, false, false, false, false, false, false] rfl rfl (any_of HT_.out (by kernel_rfl)) (fun _ _ _ h => h) (Or.inl ⟨by rfl, ?_⟩) ?_ ?_
              rotate_left
              · intro w'
                go_simp
                with_reducible rfl
              rotate_left
              · simp only [Act.put, List.setIfInBounds_toArray, List.set_cons_zero, List.set_cons_succ, i64_w, i32_w]
                rfl
              refine pure_ (i := 12) (N := some 39) (v := ?_) (a' := ?_) #[true, true, true, true, true, true, true, true, true, true, true, true, true, false, false, false, false, false, false] rfl rfl (any_of HT_.out (by kernel_rfl)) (fun _ _ _ h => h) (Or.inl ⟨by rfl, ?_⟩) ?_ ?_
              rotate_left
              · intro w'
                go_simp
                with_reducible rfl
              rotate_left
              · simp only [Act.put, List.setIfInBounds_toArray, List.set_cons_zero, List.set_cons_succ, i64_w, i32_w]
                rfl
              refine pure_ (i := 13) (N := some 40) (v := ?_) (a' := ?_) #[true, true, true, true, true, true, true, true, true, true, true, true, true, true, false, false, false, false, false] rfl rfl (any_of HT_.out (by kernel_rfl)) (fun _ _ _ h => h) (Or.inl ⟨by rfl, ?_⟩) ?_ ?_
              rotate_left
              · intro w'
                go_simp
                with_reducible rfl
              rotate_left
              · simp only [Act.put, List.setIfInBounds_toArray, List.set_cons_zero, List.set_cons_succ, i64_w, i32_w]
                rfl
              refine pure_ (i := 14) (N := some 41) (v := ?_) (a' := ?_) #[true, true, true, true, true, true, true, true, true, true, true, true, true, true, true, false, false, false, false] rfl rfl (any_of HT_.out (by kernel_rfl)) (fun _ _ _ h => h) (Or.inl ⟨by rfl, ?_⟩) ?_ ?_
              rotate_left
              · intro w'
                go_simp
                with_reducible rfl
              rotate_left
              · simp only [Act.put, List.setIfInBounds_toArray, List.set_cons_zero, List.set_cons_succ, i64_w, i32_w]
                rfl
              refine pure_ (i := 16) (N := some 43) (v := ?_) (a' := ?_) #[true, true, true, true, true, true, true, true, true, true, true, true, true, true, true, false, true, false, false] rfl rfl (any_of HT_.out (by kernel_rfl)) (fun _ _ _ h => h) (Or.inl ⟨by rfl, ?_⟩) ?_ ?_
              rotate_left
              · intro w'
                go_simp
                with_reducible rfl
              rotate_left
              · simp only [Act.put, List.setIfInBounds_toArray, List.set_cons_zero, List.set_cons_succ, i64_w, i32_w]
                rfl
              refine take_ (i := 15) (N := some 42) (v := ?_) (a' := ?_) #[true, true, true, true, true, true, true, true, true, true, true, true, true, true, true, true, true, false, false] rfl rfl (take_ofW HT_.out HW_.out (by kernel_rfl)) (fun _ _ _ h => h) (Or.inl ⟨by rfl, ?_⟩) hHeld ?_ ?_
              rotate_left
              · rintro w' ⟨s0, s1, s2, ⟨s3, s4, s5⟩, s6⟩
                go_simp
                with_reducible rfl
              rotate_left
              · simp only [Act.put, List.setIfInBounds_toArray, List.set_cons_zero, List.set_cons_succ, i64_w, i32_w]
                rfl
              have HCC := containsS (fun y => (atS y a : Int) != (i : Int)) 53 #[.pointer (some ⟨w.heap.size, 0, none⟩), .pointer (some ⟨g5, 0, none⟩)] eg53 A3 c3 x.f1 w6 (Kd.C_below HI3.out HB4.out) (fun W y hb => right1 a b A0 c0 (some ad1) c1 i w.heap.size g5 y W HRT.out.2.2 hla (blk_below HY2.out hb) (blk_below HY5.out hb) (Kd.C_below HR0.out (below_then HB4.out HB4.out.size hb)) HC0.out (Kd.C_below HR1.out (below_then HB4.out HB4.out.size hb)) HC1.out)
              rw [HK.out] at HCC
              have HCD := Lib.hid HCC
              clear HCC
              refine one_ (i := 17) (N := some 44) #[true, true, true, true, true, true, true, true, true, true, true, true, true, true, true, true, true, true, false] rfl rfl (one_of HT_.out (by kernel_rfl)) (by decide) (fun K hK => ?_)
              refine goes_ Try.func55 (by kernel_rfl) rfl #[.slice A3 x.f1.length c3, .func (.func 53) #[] #[.pointer (some ⟨w.heap.size, 0, none⟩), .pointer (some ⟨g5, 0, none⟩)]] (by rfl) rfl rfl (by (try simp only [List.map_toArray, List.map_cons, List.map_nil]); first | done | rfl | (simp only [List.length_drop, List.length_take]; rfl)) ?_
              with_reducible refine (HCD.out).mono ?_
              rintro e w7 ⟨rfl, hb⟩
              refine ⟨_, rfl, ?_⟩
              have HB5 := Lib.hid (below_then HB4.out HB4.out.size hb)
              have HQ2 := Lib.hid (blk_below HY2.out hb)
              have HQ5 := Lib.hid (blk_below HY5.out hb)
              have HQ6 := Lib.hid (blk_below HY6.out hb)
              have HQL := Lib.hid ((hb.cell (World.block_lt_of_cell? _ _ HYL.out)).trans HYL.out)
              clear hb HCD
              refine hK.out _ _ ⟨cell26a HQ2.out, cell26b HQ2.out, cell3 HQ5.out, cell28 HQ6.out, HQL.out⟩ (fun hHeld => ?_)
              clear hK K
              refine norm_ (a' := ?_) ?_ ?_
              rotate_left
              · show Act.put _ (some 44) _ = _
                simp only [Act.put, List.setIfInBounds_toArray, List.set_cons_zero, List.set_cons_succ, i64_w, i32_w]
                rfl
              refine pure_ (i := 18) (N := some 45) (v := ?_) (a' := ?_) #[true, true, true, true, true, true, true, true, true, true, true, true, true, true, true, true, true, true, true] rfl rfl (any_of HT_.out (by kernel_rfl)) (fun _ _ _ h => h) (Or.inl ⟨by rfl, ?_⟩) ?_ ?_
              rotate_left
              · intro w'
                go_simp
                with_reducible rfl
              rotate_left
              · simp only [Act.put, List.setIfInBounds_toArray, List.set_cons_zero, List.set_cons_succ, i64_w, i32_w]
                rfl
              refine done_ (done_of HT_.out (by kernel_rfl)) ?_
              go_wp2
              go_ret
              exact ⟨rfl, HB5.out⟩
            | false =>
              have HA2 := HAX.out
              simp only [goR] at HA2
              rw [if_pos hlf, if_pos hno, if_neg (by rw [hk]; decide)] at HA2
              have HA3 := Aside0.mk HA2
              have HK := Lib.hid hk
              clear hlf HAX hno hk HA2
              go_wp2
              refine start_ (n := 19) (S := fun w' => w'.cell? ⟨w.heap.size, 0, none⟩ = some (.slice A0 a.length c0) ∧ w'.cell? ⟨w.heap.size, 1, none⟩ = some (.slice (some ad1) b.length c1) ∧ w'.cell? ⟨g5, 0, none⟩ = some (.int .i64 i) ∧ (w'.cell? ⟨g6, 0, none⟩ = some (.int .i64 x.f0) ∧ w'.cell? ⟨g6, 1, none⟩ = some (.slice A3 x.f1.length c3) ∧ w'.cell? ⟨g6, 2, none⟩ = some (.bool x.f2)) ∧ w'.cell? (ad1.add i) = some (.int .i64 (rd b i))) (ds := []) #[false, false, false, false, false, false, false, false, false, false, false, false, false, false, false, false, false, false, false] (by kernel_rfl) rfl rfl ⟨cell26a HZ2.out, cell26b HZ2.out, cell3 HZ5.out, cell28 HZ6.out, HZL.out⟩ (fun hHeld => ?_); refine with_tabW rightTab rightWaits (fun HT_ HW_ => ?_)
              generalize w4.drew = w5 at HBQ HZ2 HZ5 HZ6 HZL hHeld ⊢
              refine take_ (i := 0) (N := some 27) (v := ?_) (a' := ?_) #[true, false, false, false, false, false, false, false, false, false, false, false, false, false, false, false, false, false, false] rfl rfl (take_ofW HT_.out HW_.out (by kernel_rfl)) (fun _ _ _ h => h) (Or.inl ⟨by rfl, ?_⟩) hHeld ?_ ?_
              rotate_left
              · rintro w' ⟨s0, s1, s2, ⟨s3, s4, s5⟩, s6⟩
                go_simp
                with_reducible rfl
              rotate_left
              · simp only [Act.put, List.setIfInBounds_toArray, List.set_cons_zero, List.set_cons_succ, i64_w, i32_w]
                rfl
              refine one_ (i := 1) (N := some 28) #[true, true, false, false, false, false, false, false, false, false, false, false, false, false, false, false, false, false, false] rfl rfl (one_of HT_.out (by kernel_rfl)) (by decide) (fun K hK => ?_)
              refine goes_ Try.func54 (by kernel_rfl) rfl #[.agg #[.int .i64 x.f0, .slice A3 x.f1.length c3, .bool x.f2]] (by rfl) rfl rfl (by (try simp only [List.map_toArray, List.map_cons, List.map_nil]); first | done | rfl | (simp only [List.length_drop, List.length_take]; rfl)) ?_
              with_reducible refine (leaf_leaf.calls (x.f1.length + 2) x.f0 A3 c3 x.f1 x.f2 true _ (Kd.C_below HI3.out HBQ.out) HL3.out (by rw [leaf_spec _ _ _ (by omega) (by omega), HLF.out])).mono ?_
              rintro e w6 ⟨rfl, hb⟩
              refine ⟨_, rfl, ?_⟩
              have HB4 := Lib.hid (below_then HBQ.out HBQ.out.size hb)
              have HY2 := Lib.hid (blk_below HZ2.out hb)
              have HY5 := Lib.hid (blk_below HZ5.out hb)
              have HY6 := Lib.hid (blk_below HZ6.out hb)
              have HYL := Lib.hid ((hb.cell (World.block_lt_of_cell? _ _ HZL.out)).trans HZL.out)
              clear hb HZ2 HZ5 HZ6 HZL HBQ
              refine hK.out _ _ ⟨cell26a HY2.out, cell26b HY2.out, cell3 HY5.out, cell28 HY6.out, HYL.out⟩ (fun hHeld => ?_)
              clear hK K
              refine norm_ (a' := ?_) ?_ ?_
              rotate_left
              · show Act.put _ (some 28) _ = _
                simp only [Act.put, List.setIfInBounds_toArray, List.set_cons_zero, List.set_cons_succ, i64_w, i32_w]
                rfl
              refine pure_ (i := 2) (N := some 29) (v := ?_) (a' := ?_) #[true, true, true, false, false, false, false, false, false, false, false, false, false, false, false, false, false, false, false] rfl rfl (any_of HT_.out (by kernel_rfl)) (fun _ _ _ h => h) (Or.inl ⟨by rfl, ?_⟩) ?_ ?_
              rotate_left
              · intro w'
                go_simp
                with_reducible rfl
              rotate_left
              · simp only [Act.put, List.setIfInBounds_toArray, List.set_cons_zero, List.set_cons_succ, i64_w, i32_w]
                rfl
              refine pure_ (i := 3) (N := some 30) (v := ?_) (a' := ?_) #[true, true, true, true, false, false, false, false, false, false, false, false, false, false, false, false, false, false, false] rfl rfl (any_of HT_.out (by kernel_rfl)) (fun _ _ _ h => h) (Or.inl ⟨by rfl, ?_⟩) ?_ ?_
              rotate_left
              · intro w'
                go_simp
                with_reducible rfl
              rotate_left
              · simp only [Act.put, List.setIfInBounds_toArray, List.set_cons_zero, List.set_cons_succ, i64_w, i32_w]
                rfl
              refine pure_ (i := 4) (N := some 31) (v := ?_) (a' := ?_) #[true, true, true, true, true, false, false, false, false, false, false, false, false, false, false, false, false, false, false] rfl rfl (any_of HT_.out (by kernel_rfl)) (fun _ _ _ h => h) (Or.inl ⟨by rfl, ?_⟩) ?_ ?_
              rotate_left
              · intro w'
                go_simp
                with_reducible rfl
              rotate_left
              · simp only [Act.put, List.setIfInBounds_toArray, List.set_cons_zero, List.set_cons_succ, i64_w, i32_w]
                rfl
              refine pure_ (i := 6) (N := some 33) (v := ?_) (a' := ?_) #[true, true, true, true, true, false, true, false, false, false, false, false, false, false, false, false, false, false, false] rfl rfl (any_of HT_.out (by kernel_rfl)) (fun _ _ _ h => h) (Or.inl ⟨by rfl, ?_⟩) ?_ ?_
              rotate_left
              · intro w'
                go_simp
                with_reducible rfl
              rotate_left
              · simp only [Act.put, List.setIfInBounds_toArray, List.set_cons_zero, List.set_cons_succ, i64_w, i32_w]
                rfl
              refine take_ (i := 5) (N := some 32) (v := ?_) (a' := ?_) #[true, true, true, true, true, true, true, false, false, false, false, false, false, false, false, false, false, false, false] rfl rfl (take_ofW HT_.out HW_.out (by kernel_rfl)) (fun _ _ _ h => h) (Or.inl ⟨by rfl, ?_⟩) hHeld ?_ ?_
              rotate_left
              · rintro w' ⟨s0, s1, s2, ⟨s3, s4, s5⟩, s6⟩
                go_simp
                with_reducible rfl
              rotate_left
              · simp only [Act.put, List.setIfInBounds_toArray, List.set_cons_zero, List.set_cons_succ, i64_w, i32_w]
                rfl
              refine take_ (i := 7) (N := some 34) (v := ?_) (a' := ?_) #[true, true, true, true, true, true, true, true, false, false, false, false, false, false, false, false, false, false, false] rfl rfl (take_ofW HT_.out HW_.out (by kernel_rfl)) (fun _ _ _ h => h) (Or.inl ⟨by rfl, ?_⟩) hHeld ?_ ?_
              rotate_left
              · rintro w' ⟨s0, s1, s2, ⟨s3, s4, s5⟩, s6⟩
                go_simp
                with_reducible rfl
              rotate_left
              · simp only [Act.put, List.setIfInBounds_toArray, List.set_cons_zero, List.set_cons_succ, i64_w, i32_w]
                rfl
              refine take_ (i := 8) (N := some 35) (v := ?_) (a' := ?_) #[true, true, true, true, true, true, true, true, true, false, false, false, false, false, false, false, false, false, false] rfl rfl (take_ofW HT_.out HW_.out (by kernel_rfl)) (fun _ _ _ h => h) (Or.inl ⟨by rfl, ?_⟩) hHeld ?_ ?_
              rotate_left
              · rintro w' ⟨s0, s1, s2, ⟨s3, s4, s5⟩, s6⟩
                go_simp
                with_reducible rfl
              rotate_left
              · simp only [Act.put, List.setIfInBounds_toArray, List.set_cons_zero, List.set_cons_succ, i64_w, i32_w]
                rfl
              refine pure_ (i := 9) (N := some 36) (v := ?_) (a' := ?_) #[true, true, true, true, true, true, true, true, true, true, false, false, false, false, false, false, false, false, false] rfl rfl (any_of HT_.out (by kernel_rfl)) (fun _ _ _ h => h) (Or.inl ⟨by rfl, ?_⟩) ?_ ?_
              rotate_left
              · intro w'
                go_simp
                with_reducible rfl
              rotate_left
              · simp only [Act.put, List.setIfInBounds_toArray, List.set_cons_zero, List.set_cons_succ, i64_w, i32_w]
                rfl
              refine take_ (i := 10) (N := some 37) (v := ?_) (a' := ?_) #[true, true, true, true, true, true, true, true, true, true, true, false, false, false, false, false, false, false, false] rfl rfl (take_ofW HT_.out HW_.out (by kernel_rfl)) (fun _ _ _ h => h) (Or.inl ⟨by rfl, ?_⟩) hHeld ?_ ?_
              rotate_left
              · rintro w' ⟨s0, s1, s2, ⟨s3, s4, s5⟩, s6⟩
                go_simp
                with_reducible rfl
              rotate_left
              · simp only [Act.put, List.setIfInBounds_toArray, List.set_cons_zero, List.set_cons_succ, i64_w, i32_w]
                rfl
              refine pure_ (i := 11) (N := some 38) (v := ?_) (a' := ?_) #[true, true, true, true, true, true, true, true, true, true, true, true, false, false, false, false, false, false, false] rfl rfl (any_of HT_.out (by kernel_rfl)) (fun _ _ _ h => h) (Or.inl ⟨by rfl, ?_⟩) ?_ ?_
              rotate_left
              · intro w'
                go_simp
                with_reducible rfl
              rotate_left
              · simp only [Act.put, List.setIfInBounds_toArray, List.set_cons_zero, List.set_cons_succ, i64_w, i32_w]
                rfl
              refine pure_ (i := 12) (N := some 39) (v := ?_) (a' := ?_) #[true, true, true, true, true, true, true, true, true, true, true, true, true, false, false, false, false, false, false] rfl rfl (any_of HT_.out (by kernel_rfl)) (fun _ _ _ h => h) (Or.inl ⟨by rfl, ?_⟩) ?_ ?_
              rotate_left
              · intro w'
                go_simp
                with_reducible rfl
              rotate_left
              · simp only [Act.put, List.setIfInBounds_toArray, List.set_cons_zero, List.set_cons_succ, i64_w, i32_w]
                rfl
              refine pure_ (i := 13) (N := some 40) (v := ?_) (a' := ?_) #[true, true, true, true, true, true, true, true, true, true, true, true, true, true, false, false, false, false, false] rfl rfl (any_of HT_.out (by kernel_rfl)) (fun _ _ _ h => h) (Or.inl ⟨by rfl, ?_⟩) ?_ ?_
              rotate_left
              · intro w'
                go_simp
                with_reducible rfl
              rotate_left
              · simp only [Act.put, List.setIfInBounds_toArray, List.set_cons_zero, List.set_cons_succ, i64_w, i32_w]
                rfl
              refine pure_ (i := 14) (N := some 41) (v := ?_) (a' := ?_) #[true, true, true, true, true, true, true, true, true, true, true, true, true, true, true, false, false, false, false] rfl rfl (any_of HT_.out (by kernel_rfl)) (fun _ _ _ h => h) (Or.inl ⟨by rfl, ?_⟩) ?_ ?_
              rotate_left
              · intro w'
                go_simp
                with_reducible rfl
              rotate_left
              · simp only [Act.put, List.setIfInBounds_toArray, List.set_cons_zero, List.set_cons_succ, i64_w, i32_w]
                rfl
              refine pure_ (i := 16) (N := some 43) (v := ?_) (a' := ?_) #[true, true, true, true, true, true, true, true, true, true, true, true, true, true, true, false, true, false, false] rfl rfl (any_of HT_.out (by kernel_rfl)) (fun _ _ _ h => h) (Or.inl ⟨by rfl, ?_⟩) ?_ ?_
              rotate_left
              · intro w'
                go_simp
                with_reducible rfl
              rotate_left
              · simp only [Act.put, List.setIfInBounds_toArray, List.set_cons_zero, List.set_cons_succ, i64_w, i32_w]
                rfl
              refine take_ (i := 15) (N := some 42) (v := ?_) (a' := ?_) #[true, true, true, true, true, true, true, true, true, true, true, true, true, true, true, true, true, false, false] rfl rfl (take_ofW HT_.out HW_.out (by kernel_rfl)) (fun _ _ _ h => h) (Or.inl ⟨by rfl, ?_⟩) hHeld ?_ ?_
              rotate_left
              · rintro w' ⟨s0, s1, s2, ⟨s3, s4, s5⟩, s6⟩
                go_simp
                with_reducible rfl
              rotate_left
              · simp only [Act.put, List.setIfInBounds_toArray, List.set_cons_zero, List.set_cons_succ, i64_w, i32_w]
                rfl
              have HCC := containsS (fun y => (atS y a : Int) != (i : Int)) 53 #[.pointer (some ⟨w.heap.size, 0, none⟩), .pointer (some ⟨g5, 0, none⟩)] eg53 A3 c3 x.f1 w6 (Kd.C_below HI3.out HB4.out) (fun W y hb => right1 a b A0 c0 (some ad1) c1 i w.heap.size g5 y W HRT.out.2.2 hla (blk_below HY2.out hb) (blk_below HY5.out hb) (Kd.C_below HR0.out (below_then HB4.out HB4.out.size hb)) HC0.out (Kd.C_below HR1.out (below_then HB4.out HB4.out.size hb)) HC1.out)
              rw [HK.out] at HCC
              have HCD := Lib.hid HCC
              clear HCC
              refine one_ (i := 17) (N := some 44) #[true, true, true, true, true, true, true, true, true, true, true, true, true, true, true, true, true, true, false] rfl rfl (one_of HT_.out (by kernel_rfl)) (by decide) (fun K hK => ?_)
              refine goes_ Try.func55 (by kernel_rfl) rfl #[.slice A3 x.f1.length c3, .func (.func 53) #[] #[.pointer (some ⟨w.heap.size, 0, none⟩), .pointer (some ⟨g5, 0, none⟩)]] (by rfl) rfl rfl (by (try simp only [List.map_toArray, List.map_cons, List.map_nil]); first | done | rfl | (simp only [List.length_drop, List.length_take]; rfl)) ?_
              with_reducible refine (HCD.out).mono ?_
              rintro e w7 ⟨rfl, hb⟩
              refine ⟨_, rfl, ?_⟩
              have HB5 := Lib.hid (below_then HB4.out HB4.out.size hb)
              have HQ2 := Lib.hid (blk_below HY2.out hb)
              have HQ5 := Lib.hid (blk_below HY5.out hb)
              have HQ6 := Lib.hid (blk_below HY6.out hb)
              have HQL := Lib.hid ((hb.cell (World.block_lt_of_cell? _ _ HYL.out)).trans HYL.out)
              clear hb HCD
              refine hK.out _ _ ⟨cell26a HQ2.out, cell26b HQ2.out, cell3 HQ5.out, cell28 HQ6.out, HQL.out⟩ (fun hHeld => ?_)
              clear hK K
              refine norm_ (a' := ?_) ?_ ?_
              rotate_left
              · show Act.put _ (some 44) _ = _
                simp only [Act.put, List.setIfInBounds_toArray, List.set_cons_zero, List.set_cons_succ, i64_w, i32_w]
                rfl
              refine pure_ (i := 18) (N := some 45) (v := ?_) (a' := ?_) #[true, true, true, true, true, true, true, true, true, true, true, true, true, true, true, true, true, true, true] rfl rfl (any_of HT_.out (by kernel_rfl)) (fun _ _ _ h => h) (Or.inl ⟨by rfl, ?_⟩) ?_ ?_
              rotate_left
              · intro w'
                go_simp
                with_reducible rfl
              rotate_left
              · simp only [Act.put, List.setIfInBounds_toArray, List.set_cons_zero, List.set_cons_succ, i64_w, i32_w]
                rfl
              refine done_ (done_of HT_.out (by kernel_rfl)) ?_
              go_wp2
              go_roundg (ls.length - (i + 1))
              case measure => have := HD.out; omega
              case rel => exact ⟨i + 1, by go_num, by omega, ⟨rfl⟩, HA3, ⟨HQ2.out⟩, ⟨HB5.out⟩⟩
      · have hie : i = ls.length := by omega
        subst hie
        have hr : r = true := by have h1 := HA.out; rw [List.drop_length] at h1; exact h1.symm
        subst hr
        go_wp2
        go_ret
        exact ⟨rfl, HBW.out⟩
theorem leaf_Right.calls (A0_0 : Option Addr) (c0_0 : Nat) (l0_0 : List ByteArray) (A0_1 : Option Addr) (c0_1 : Nat) (l0_1 : List Int) (A1 : Option Addr) (c1 : Nat) (l1 : List S28) (r : Bool) (w : World) (hr0_0 : Kd.C Kd.string w A0_0 l0_0.length l0_0) (hc0_0 : l0_0.length ≤ c0_0) (hr0_1 : Kd.C (Kd.int .i64) w A0_1 l0_1.length l0_1) (hc0_1 : l0_1.length ≤ c0_1) (hr1 : Kd.C k28 w A1 l1.length l1) (hc1 : l1.length ≤ c1) (h : leaf_Right.f l0_0 l0_1 l1 = some r) :
    Calls Try.prog 24 #[.agg #[.slice A0_0 l0_0.length c0_0, .slice A0_1 l0_1.length c0_1], .slice A1 l1.length c1] w fun e w' => e = .returned (.bool r) ∧ Below w.heap.size w w' := by
  unfold leaf_Right.f at h
  split at h
  · rename_i hlim
    exact right_calls A0_0 c0_0 l0_0 A0_1 c0_1 l0_1 A1 c1 l1 r w hr0_0 hc0_0 hr0_1 hc0_1 hr1 hc1 hlim.1 hlim.2.1 hlim.2.2 (Option.some.inj h)
  · cases h
end Go.Proofs.Ytneagipmllgejaa.PL
end
section
namespace Go.Proofs.Ytneagipmllgejaa.PL
open Go.RowKit Go.Proofs.YtneagipmllgejaaW.PrintWords Go.Proofs.YtneagipmllgejaaW.PrintLast Go.Proofs.YtneagipmllgejaaW.PrintMore
attribute [local go_sem] max2_int min2_int max_two min_two max_three min_three max_four min_four   -- for this text's walks alone
set_option linter.unusedVariables false
set_option linter.unusedSimpArgs false
mutual
def cobwebref11_Right.j0 : Nat → List (S28) → Bool → List ByteArray → List Int → Option (Bool)
  | 0, _, _, _, _ => none
  | k + 1, x1, x17, x461000, x461001 => if x17 = true then (some false) else (cobwebref11_Right.l0 k x1 0 x461000 x461001)
def cobwebref11_Right.l0 : Nat → List (S28) → Int → List ByteArray → List Int → Option (Bool)
  | 0, _, _, _, _ => none
  | k + 1, x1, x5, x461000, x461001 => if x5 < (x1.length : Int) then (if 0 ≤ x5 then ((cobwebref11_Leaf.f k ((rd_T28 x1 x5).f0) ((rd_T28 x1 x5).f1) ((rd_T28 x1 x5).f2)).bind fun t463 => (if t463 = true then (if x5 < (x461001.length : Int) then (cobwebref11_Right.j2 k x1 x5 (((rd_T28 x1 x5).f0) != (rd x461001 x5)) x461000 x461001) else (none)) else (cobwebref11_Right.j2 k x1 x5 true x461000 x461001))) else (none)) else (some true)
def cobwebref11_Right.j2 : Nat → List (S28) → Int → Bool → List ByteArray → List Int → Option (Bool)
  | 0, _, _, _, _, _ => none
  | k + 1, x1, x5, x42, x461000, x461001 => if x42 = true then (some false) else (cobwebref11_Right.l1 k x1 x5 0 x461000 x461001)
def cobwebref11_Right.l1 : Nat → List (S28) → Int → Int → List ByteArray → List Int → Option (Bool)
  | 0, _, _, _, _, _ => none
  | k + 1, x1, x5, x6, x461000, x461001 => if 0 ≤ x5 then (if x5 < (x1.length : Int) then (if x6 < (((rd_T28 x1 x5).f1).length : Int) then (if 0 ≤ x6 then ((cobwebref11_At.f k x461000 x461001 (rdOf ByteArray.empty ((rd_T28 x1 x5).f1) x6)).bind fun t469 => (if t469 = x5 then (cobwebref11_Right.l1 k x1 x5 (wrap64 (x6 + 1)) x461000 x461001) else (some false))) else (none)) else (cobwebref11_Right.l0 k x1 (wrap64 (x5 + 1)) x461000 x461001)) else (none)) else (none)
end
def cobwebref11_Right.f (k : Nat) (l0_0 : List ByteArray) (l0_1 : List Int) (l1 : List (S28)) : Option (Bool) := (cobwebref11_Root.f k l0_0 l0_1).bind fun t461 => (if t461 = true then (cobwebref11_Right.j0 k l1 ((l1.length : Int) != (l0_1.length : Int)) l0_0 l0_1) else (cobwebref11_Right.j0 k l1 true l0_0 l0_1))
theorem cobwebref11_Right.mono_l : ∀ k, (∀ y0 y1 y2 y3, LeO (cobwebref11_Right.j0 k y0 y1 y2 y3) (cobwebref11_Right.j0 (k + 1) y0 y1 y2 y3)) ∧ (∀ y0 y1 y2 y3, LeO (cobwebref11_Right.l0 k y0 y1 y2 y3) (cobwebref11_Right.l0 (k + 1) y0 y1 y2 y3)) ∧ (∀ y0 y1 y2 y3 y4, LeO (cobwebref11_Right.j2 k y0 y1 y2 y3 y4) (cobwebref11_Right.j2 (k + 1) y0 y1 y2 y3 y4)) ∧ (∀ y0 y1 y2 y3 y4, LeO (cobwebref11_Right.l1 k y0 y1 y2 y3 y4) (cobwebref11_Right.l1 (k + 1) y0 y1 y2 y3 y4))
  | 0 => ⟨fun _ _ _ _ r h => by simp [cobwebref11_Right.j0] at h, fun _ _ _ _ r h => by simp [cobwebref11_Right.l0] at h, fun _ _ _ _ _ r h => by simp [cobwebref11_Right.j2] at h, fun _ _ _ _ _ r h => by simp [cobwebref11_Right.l1] at h⟩
  | k + 1 => by
    obtain ⟨ih0, ih1, ih2, ih3⟩ := cobwebref11_Right.mono_l k
    refine ⟨?_, ?_, ?_, ?_⟩
    · intro y0 y1 y2 y3
      unfold cobwebref11_Right.j0
      repeat' first
      | (with_reducible exact ih0 _ _ _ _)
      | (with_reducible exact ih1 _ _ _ _)
      | (with_reducible exact ih2 _ _ _ _ _)
      | (with_reducible exact ih3 _ _ _ _ _)
      | (with_reducible exact cobwebref11_At.mono _ _ _ _)
      | (with_reducible exact cobwebref11_Leaf.mono _ _ _ _)
      | (with_reducible exact cobwebref11_Root.mono _ _ _)
      | (with_reducible exact LeO.refl _)
      | (with_reducible exact LeO.none _)
      | (with_reducible refine LeO.ite ?_ ?_)
      | (with_reducible refine LeO.bind ?_ (fun _ => ?_))
      | exact ih0 _ _ _ _
      | exact ih1 _ _ _ _
      | exact ih2 _ _ _ _ _
      | exact ih3 _ _ _ _ _
      | exact cobwebref11_At.mono _ _ _ _
      | exact cobwebref11_Leaf.mono _ _ _ _
      | exact cobwebref11_Root.mono _ _ _
      | exact LeO.none _
      | refine LeO.ite ?_ ?_
      | refine LeO.bind ?_ (fun _ => ?_)
    · intro y0 y1 y2 y3
      unfold cobwebref11_Right.l0
      repeat' first
      | (with_reducible exact ih0 _ _ _ _)
      | (with_reducible exact ih1 _ _ _ _)
      | (with_reducible exact ih2 _ _ _ _ _)
      | (with_reducible exact ih3 _ _ _ _ _)
      | (with_reducible exact cobwebref11_At.mono _ _ _ _)
      | (with_reducible exact cobwebref11_Leaf.mono _ _ _ _)
      | (with_reducible exact cobwebref11_Root.mono _ _ _)
      | (with_reducible exact LeO.refl _)
      | (with_reducible exact LeO.none _)
      | (with_reducible refine LeO.ite ?_ ?_)
      | (with_reducible refine LeO.bind ?_ (fun _ => ?_))
      | exact ih0 _ _ _ _
      | exact ih1 _ _ _ _
      | exact ih2 _ _ _ _ _
      | exact ih3 _ _ _ _ _
      | exact cobwebref11_At.mono _ _ _ _
      | exact cobwebref11_Leaf.mono _ _ _ _
      | exact cobwebref11_Root.mono _ _ _
      | exact LeO.none _
      | refine LeO.ite ?_ ?_
      | refine LeO.bind ?_ (fun _ => ?_)
    · intro y0 y1 y2 y3 y4
      unfold cobwebref11_Right.j2
      repeat' first
      | (with_reducible exact ih0 _ _ _ _)
      | (with_reducible exact ih1 _ _ _ _)
      | (with_reducible exact ih2 _ _ _ _ _)
      | (with_reducible exact ih3 _ _ _ _ _)
      | (with_reducible exact cobwebref11_At.mono _ _ _ _)
      | (with_reducible exact cobwebref11_Leaf.mono _ _ _ _)
      | (with_reducible exact cobwebref11_Root.mono _ _ _)
      | (with_reducible exact LeO.refl _)
      | (with_reducible exact LeO.none _)
      | (with_reducible refine LeO.ite ?_ ?_)
      | (with_reducible refine LeO.bind ?_ (fun _ => ?_))
      | exact ih0 _ _ _ _
      | exact ih1 _ _ _ _
      | exact ih2 _ _ _ _ _
      | exact ih3 _ _ _ _ _
      | exact cobwebref11_At.mono _ _ _ _
      | exact cobwebref11_Leaf.mono _ _ _ _
      | exact cobwebref11_Root.mono _ _ _
      | exact LeO.none _
      | refine LeO.ite ?_ ?_
      | refine LeO.bind ?_ (fun _ => ?_)
    · intro y0 y1 y2 y3 y4
      unfold cobwebref11_Right.l1
      repeat' first
      | (with_reducible exact ih0 _ _ _ _)
      | (with_reducible exact ih1 _ _ _ _)
      | (with_reducible exact ih2 _ _ _ _ _)
      | (with_reducible exact ih3 _ _ _ _ _)
      | (with_reducible exact cobwebref11_At.mono _ _ _ _)
      | (with_reducible exact cobwebref11_Leaf.mono _ _ _ _)
      | (with_reducible exact cobwebref11_Root.mono _ _ _)
      | (with_reducible exact LeO.refl _)
      | (with_reducible exact LeO.none _)
      | (with_reducible refine LeO.ite ?_ ?_)
      | (with_reducible refine LeO.bind ?_ (fun _ => ?_))
      | exact ih0 _ _ _ _
      | exact ih1 _ _ _ _
      | exact ih2 _ _ _ _ _
      | exact ih3 _ _ _ _ _
      | exact cobwebref11_At.mono _ _ _ _
      | exact cobwebref11_Leaf.mono _ _ _ _
      | exact cobwebref11_Root.mono _ _ _
      | exact LeO.none _
      | refine LeO.ite ?_ ?_
      | refine LeO.bind ?_ (fun _ => ?_)
theorem cobwebref11_Right.mono : ∀ a0 a1 a2 k, LeO (cobwebref11_Right.f k a0 a1 a2) (cobwebref11_Right.f (k + 1) a0 a1 a2) := by
  intro a0 a1 a2 k
  obtain ⟨ih0, ih1, ih2, ih3⟩ := cobwebref11_Right.mono_l k
  unfold cobwebref11_Right.f
  repeat' first
      | (with_reducible exact ih0 _ _ _ _)
      | (with_reducible exact ih1 _ _ _ _)
      | (with_reducible exact ih2 _ _ _ _ _)
      | (with_reducible exact ih3 _ _ _ _ _)
      | (with_reducible exact cobwebref11_At.mono _ _ _ _)
      | (with_reducible exact cobwebref11_Leaf.mono _ _ _ _)
      | (with_reducible exact cobwebref11_Root.mono _ _ _)
      | (with_reducible exact LeO.refl _)
      | (with_reducible exact LeO.none _)
      | (with_reducible refine LeO.ite ?_ ?_)
      | (with_reducible refine LeO.bind ?_ (fun _ => ?_))
      | exact ih0 _ _ _ _
      | exact ih1 _ _ _ _
      | exact ih2 _ _ _ _ _
      | exact ih3 _ _ _ _ _
      | exact cobwebref11_At.mono _ _ _ _
      | exact cobwebref11_Leaf.mono _ _ _ _
      | exact cobwebref11_Root.mono _ _ _
      | exact LeO.none _
      | refine LeO.ite ?_ ?_
      | refine LeO.bind ?_ (fun _ => ?_)
def cobwebref11_Right.T6 : Bool × List (List Nat × List Nat) := (true, [([], []), ([], []), ([0, 1], [0, 1]), ([2], [2]), ([3], [3]), ([4], [4]), ([5, 4], [5]), ([6], [6]), ([6], [6]), ([7, 8, 6], [6, 7, 8]), ([9, 6], [6, 9]), ([10, 6], [6, 10]), ([6], [6]), ([12, 6], [6, 12]), ([6], [6]), ([13, 14, 6], [6, 13, 14]), ([15, 6], [6, 15]), ([11, 16, 6], [6, 11, 16]), ([6, 17], [6, 17])])
def cobwebref11_Right.B6 : List Nat := [0, 0, 3, 7, 15, 31, 63, 127, 127, 511, 1023, 2047, 127, 4223, 127, 28799, 61567, 131071, 262143]
theorem cobwebref11_Right.tab6 : rtab .any (opsOf Try.f25 6) = cobwebref11_Right.T6 := by kernel_rfl
theorem cobwebref11_Right.bits6 : waitsOk cobwebref11_Right.T6.2 cobwebref11_Right.B6 = true := by kernel_rfl
end Go.Proofs.Ytneagipmllgejaa.PL
end
section
namespace Go.Proofs.Ytneagipmllgejaa.PL
open Go.RowKit Go.Proofs.YtneagipmllgejaaW.PrintWords Go.Proofs.YtneagipmllgejaaW.PrintLast Go.Proofs.YtneagipmllgejaaW.PrintMore
attribute [local go_sem] max2_int min2_int max_two min_two max_three min_three max_four min_four   -- for this text's walks alone
set_option linter.unusedVariables false
set_option linter.unusedSimpArgs false
mutual
def leaf_Range.j0 : Nat → ByteArray → ByteArray → Bool → List ByteArray → List Int → Option (List Int)
  | 0, _, _, _, _, _ => none
  | k + 1, x1, x2, x15, x217000, x217001 => if x15 = true then (some ([] : List Int)) else ((leaf_at.f k x217000 x217001 x2).bind fun t218 => (if t218 > 0 then (if 0 ≤ (wrap64 (t218 - 1)) then (if (wrap64 (t218 - 1)) < (x217000.length : Int) then (leaf_Range.j1 k x1 t218 ((rdOf ByteArray.empty x217000 (wrap64 (t218 - 1))).toList == x2.toList) x217000 x217001) else (none)) else (none)) else (leaf_Range.j1 k x1 t218 false x217000 x217001)))
def leaf_Range.j1 : Nat → ByteArray → Int → Bool → List ByteArray → List Int → Option (List Int)
  | 0, _, _, _, _, _ => none
  | k + 1, x1, x7, x30, x217000, x217001 => if x30 = true then ((leaf_at.f k x217000 x217001 x1).bind fun t220 => (if 0 ≤ t220 then (if t220 ≤ (wrap64 ((wrap64 (x7 - 1)) + 1)) then (if (wrap64 ((wrap64 (x7 - 1)) + 1)) ≤ (x217001.length : Int) then ((slices_Clone_int_int.f ((x217001.take ((wrap64 ((wrap64 (x7 - 1)) + 1)) : Int).toNat).drop (t220 : Int).toNat)).bind fun t222 => (some t222)) else (none)) else (none)) else (none))) else ((leaf_at.f k x217000 x217001 x1).bind fun t225 => (if 0 ≤ t225 then (if t225 ≤ (wrap64 (x7 + 1)) then (if (wrap64 (x7 + 1)) ≤ (x217001.length : Int) then ((slices_Clone_int_int.f ((x217001.take ((wrap64 (x7 + 1)) : Int).toNat).drop (t225 : Int).toNat)).bind fun t227 => (some t227)) else (none)) else (none)) else (none)))
end
def leaf_Range.f (k : Nat) (l0_0 : List ByteArray) (l0_1 : List Int) (a1 : ByteArray) (a2 : ByteArray) : Option (List Int) := (leaf_root.f l0_0 l0_1).bind fun t217 => (if t217 = true then (leaf_Range.j0 k a1 a2 (!(Op.bytesLess a1.toList a2.toList)) l0_0 l0_1) else (leaf_Range.j0 k a1 a2 true l0_0 l0_1))
theorem leaf_Range.mono_l : ∀ k, (∀ y0 y1 y2 y3 y4, LeO (leaf_Range.j0 k y0 y1 y2 y3 y4) (leaf_Range.j0 (k + 1) y0 y1 y2 y3 y4)) ∧ (∀ y0 y1 y2 y3 y4, LeO (leaf_Range.j1 k y0 y1 y2 y3 y4) (leaf_Range.j1 (k + 1) y0 y1 y2 y3 y4))
  | 0 => ⟨fun _ _ _ _ _ r h => by simp [leaf_Range.j0] at h, fun _ _ _ _ _ r h => by simp [leaf_Range.j1] at h⟩
  | k + 1 => by
    obtain ⟨ih0, ih1⟩ := leaf_Range.mono_l k
    refine ⟨?_, ?_⟩
    · intro y0 y1 y2 y3 y4
      unfold leaf_Range.j0
      repeat' first
      | (with_reducible exact ih0 _ _ _ _ _)
      | (with_reducible exact ih1 _ _ _ _ _)
      | (with_reducible exact leaf_at.mono _ _ _ _)
      | (with_reducible exact LeO.refl _)
      | (with_reducible exact LeO.none _)
      | (with_reducible refine LeO.ite ?_ ?_)
      | (with_reducible refine LeO.bind ?_ (fun _ => ?_))
      | exact ih0 _ _ _ _ _
      | exact ih1 _ _ _ _ _
      | exact leaf_at.mono _ _ _ _
      | exact LeO.none _
      | refine LeO.ite ?_ ?_
      | refine LeO.bind ?_ (fun _ => ?_)
    · intro y0 y1 y2 y3 y4
      unfold leaf_Range.j1
      repeat' first
      | (with_reducible exact ih0 _ _ _ _ _)
      | (with_reducible exact ih1 _ _ _ _ _)
      | (with_reducible exact leaf_at.mono _ _ _ _)
      | (with_reducible exact LeO.refl _)
      | (with_reducible exact LeO.none _)
      | (with_reducible refine LeO.ite ?_ ?_)
      | (with_reducible refine LeO.bind ?_ (fun _ => ?_))
      | exact ih0 _ _ _ _ _
      | exact ih1 _ _ _ _ _
      | exact leaf_at.mono _ _ _ _
      | exact LeO.none _
      | refine LeO.ite ?_ ?_
      | refine LeO.bind ?_ (fun _ => ?_)
theorem leaf_Range.mono : ∀ a0 a1 a2 a3 k, LeO (leaf_Range.f k a0 a1 a2 a3) (leaf_Range.f (k + 1) a0 a1 a2 a3) := by
  intro a0 a1 a2 a3 k
  obtain ⟨ih0, ih1⟩ := leaf_Range.mono_l k
  unfold leaf_Range.f
  repeat' first
      | (with_reducible exact ih0 _ _ _ _ _)
      | (with_reducible exact ih1 _ _ _ _ _)
      | (with_reducible exact leaf_at.mono _ _ _ _)
      | (with_reducible exact LeO.refl _)
      | (with_reducible exact LeO.none _)
      | (with_reducible refine LeO.ite ?_ ?_)
      | (with_reducible refine LeO.bind ?_ (fun _ => ?_))
      | exact ih0 _ _ _ _ _
      | exact ih1 _ _ _ _ _
      | exact leaf_at.mono _ _ _ _
      | exact LeO.none _
      | refine LeO.ite ?_ ?_
      | refine LeO.bind ?_ (fun _ => ?_)
def leaf_Range.T6 : Bool × List (List Nat × List Nat) := (true, [([], []), ([0], [0]), ([], []), ([], []), ([2, 3], [2, 3]), ([], []), ([5], [5]), ([1, 4, 6], [1, 4, 6]), ([7, 4], [7]), ([8, 8, 0, 1, 2, 3, 4, 5, 6, 7, 8], [8])])
def leaf_Range.B6 : List Nat := [0, 1, 0, 0, 12, 0, 32, 127, 255, 511]
theorem leaf_Range.tab6 : rtab .any (opsOf Try.f13 6) = leaf_Range.T6 := by kernel_rfl
theorem leaf_Range.bits6 : waitsOk leaf_Range.T6.2 leaf_Range.B6 = true := by kernel_rfl
end Go.Proofs.Ytneagipmllgejaa.PL
end
section
namespace Go.Proofs.Ytneagipmllgejaa.PL
open Go.RowKit Go.Proofs.YtneagipmllgejaaW.PrintWords Go.Proofs.YtneagipmllgejaaW.PrintLast Go.Proofs.YtneagipmllgejaaW.PrintMore
attribute [local go_sem] max2_int min2_int max_two min_two max_three min_three max_four min_four   -- for this text's walks alone
set_option linter.unusedVariables false
set_option linter.unusedSimpArgs false
mutual
def cobwebref11_Range.j0 : Nat → ByteArray → ByteArray → List Int → Bool → List ByteArray → List Int → Option (List Int)
 | 0, _, _, _, _, _, _ => none
 | k + 1, x1, x2, x7, x19, x418000, x418001 => if x19 = true then (some ([] : List Int)) else (cobwebref11_Range.l0 k x1 x2 x7 0 x418000 x418001)
def cobwebref11_Range.l0 : Nat → ByteArray → ByteArray → List Int → Int → List ByteArray → List Int → Option (List Int)
 | 0, _, _, _, _, _, _ => none
 | k + 1, x1, x2, x7, x8, x418000, x418001 => if x8 < (x418001.length : Int) then (if x8 = 0 then (if x8 = (wrap64 ((x418001.length : Int) - 1)) then (if 0 ≤ x8 then (if x7.length < 17592186044416 then (cobwebref11_Range.l0 k x1 x2 (x7 ++ [rd x418001 x8]) (wrap64 (x8 + 1)) x418000 x418001) else (none)) else (none)) else (if 0 ≤ x8 then (if x8 < (x418000.length : Int) then ((cobwebref02_Order.f k x1 (rdOf ByteArray.empty x418000 x8)).bind fun t425 => (if t425 < 0 then (if x7.length < 17592186044416 then (cobwebref11_Range.l0 k x1 x2 (x7 ++ [rd x418001 x8]) (wrap64 (x8 + 1)) x418000 x418001) else (none)) else (cobwebref11_Range.l0 k x1 x2 x7 (wrap64 (x8 + 1)) x418000 x418001))) else (none)) else (none))) else (if 0 ≤ (wrap64 (x8 - 1)) then (if (wrap64 (x8 - 1)) < (x418000.length : Int) then ((cobwebref02_Order.f k (rdOf ByteArray.empty x418000 (wrap64 (x8 - 1))) x2).bind fun t431 => (if x8 = (wrap64 ((x418001.length : Int) - 1)) then (if t431 < 0 then (if 0 ≤ x8 then (if x7.length < 17592186044416 then (cobwebref11_Range.l0 k x1 x2 (x7 ++ [rd x418001 x8]) (wrap64 (x8 + 1)) x418000 x418001) else (none)) else (none)) else (cobwebref11_Range.l0 k x1 x2 x7 (wrap64 (x8 + 1)) x418000 x418001)) else (if 0 ≤ x8 then (if x8 < (x418000.length : Int) then ((cobwebref02_Order.f k x1 (rdOf ByteArray.empty x418000 x8)).bind fun t437 => (if t431 < 0 then (if t437 < 0 then (if x7.length < 17592186044416 then (cobwebref11_Range.l0 k x1 x2 (x7 ++ [rd x418001 x8]) (wrap64 (x8 + 1)) x418000 x418001) else (none)) else (cobwebref11_Range.l0 k x1 x2 x7 (wrap64 (x8 + 1)) x418000 x418001)) else (cobwebref11_Range.l0 k x1 x2 x7 (wrap64 (x8 + 1)) x418000 x418001))) else (none)) else (none)))) else (none)) else (none))) else (some x7)
end
def cobwebref11_Range.f (k : Nat) (l0_0 : List ByteArray) (l0_1 : List Int) (a1 : ByteArray) (a2 : ByteArray) : Option (List Int) := (cobwebref11_Root.f k l0_0 l0_1).bind fun t418 => (if t418 = true then ((cobwebref02_Order.f k a1 a2).bind fun t419 => (cobwebref11_Range.j0 k a1 a2 ([] : List Int) (decide (t419 ≥ 0)) l0_0 l0_1)) else (cobwebref11_Range.j0 k a1 a2 ([] : List Int) true l0_0 l0_1))
theorem cobwebref11_Range.mono_l : ∀ k, (∀ y0 y1 y2 y3 y4 y5, LeO (cobwebref11_Range.j0 k y0 y1 y2 y3 y4 y5) (cobwebref11_Range.j0 (k + 1) y0 y1 y2 y3 y4 y5)) ∧ (∀ y0 y1 y2 y3 y4 y5, LeO (cobwebref11_Range.l0 k y0 y1 y2 y3 y4 y5) (cobwebref11_Range.l0 (k + 1) y0 y1 y2 y3 y4 y5))
 | 0 => ⟨fun _ _ _ _ _ _ r h => by simp [cobwebref11_Range.j0] at h, fun _ _ _ _ _ _ r h => by simp [cobwebref11_Range.l0] at h⟩
 | k + 1 => by
  obtain ⟨ih0, ih1⟩ := cobwebref11_Range.mono_l k
  refine ⟨?_, ?_⟩
  ·intro y0 y1 y2 y3 y4 y5
   unfold cobwebref11_Range.j0
   repeat' first
   | (with_reducible exact ih0 _ _ _ _ _ _)
   | (with_reducible exact ih1 _ _ _ _ _ _)
   | (with_reducible exact cobwebref02_Order.mono _ _ _)
   | (with_reducible exact cobwebref11_Root.mono _ _ _)
   | (with_reducible exact LeO.refl _)
   | (with_reducible exact LeO.none _)
   | (with_reducible refine LeO.ite ?_ ?_)
   | (with_reducible refine LeO.bind ?_ (fun _ => ?_))
   | exact ih0 _ _ _ _ _ _
   | exact ih1 _ _ _ _ _ _
   | exact cobwebref02_Order.mono _ _ _
   | exact cobwebref11_Root.mono _ _ _
   | exact LeO.none _
   | refine LeO.ite ?_ ?_
   | refine LeO.bind ?_ (fun _ => ?_)
  ·intro y0 y1 y2 y3 y4 y5
   unfold cobwebref11_Range.l0
   repeat' first
   | (with_reducible exact ih0 _ _ _ _ _ _)
   | (with_reducible exact ih1 _ _ _ _ _ _)
   | (with_reducible exact cobwebref02_Order.mono _ _ _)
   | (with_reducible exact cobwebref11_Root.mono _ _ _)
   | (with_reducible exact LeO.refl _)
   | (with_reducible exact LeO.none _)
   | (with_reducible refine LeO.ite ?_ ?_)
   | (with_reducible refine LeO.bind ?_ (fun _ => ?_))
   | exact ih0 _ _ _ _ _ _
   | exact ih1 _ _ _ _ _ _
   | exact cobwebref02_Order.mono _ _ _
   | exact cobwebref11_Root.mono _ _ _
   | exact LeO.none _
   | refine LeO.ite ?_ ?_
   | refine LeO.bind ?_ (fun _ => ?_)
theorem cobwebref11_Range.mono : ∀ a0 a1 a2 a3 k, LeO (cobwebref11_Range.f k a0 a1 a2 a3) (cobwebref11_Range.f (k + 1) a0 a1 a2 a3) := by
 intro a0 a1 a2 a3 k
 obtain ⟨ih0, ih1⟩ := cobwebref11_Range.mono_l k
 unfold cobwebref11_Range.f
 repeat' first
   | (with_reducible exact ih0 _ _ _ _ _ _)
   | (with_reducible exact ih1 _ _ _ _ _ _)
   | (with_reducible exact cobwebref02_Order.mono _ _ _)
   | (with_reducible exact cobwebref11_Root.mono _ _ _)
   | (with_reducible exact LeO.refl _)
   | (with_reducible exact LeO.none _)
   | (with_reducible refine LeO.ite ?_ ?_)
   | (with_reducible refine LeO.bind ?_ (fun _ => ?_))
   | exact ih0 _ _ _ _ _ _
   | exact ih1 _ _ _ _ _ _
   | exact cobwebref02_Order.mono _ _ _
   | exact cobwebref11_Root.mono _ _ _
   | exact LeO.none _
   | refine LeO.ite ?_ ?_
   | refine LeO.bind ?_ (fun _ => ?_)
end Go.Proofs.Ytneagipmllgejaa.PL
end
section
namespace Go.Proofs.Ytneagipmllgejaa.PL
open Go.RowKit Go.Proofs.YtneagipmllgejaaW.PrintWords Go.Proofs.YtneagipmllgejaaW.PrintLast Go.Proofs.YtneagipmllgejaaW.PrintMore
attribute [local go_sem] max2_int min2_int max_two min_two max_three min_three max_four min_four   -- for this text's walks alone
set_option linter.unusedVariables false
set_option linter.unusedSimpArgs false
def cobweblaw11_texts.l0 : Nat → List ByteArray → Int → Option (Bool)
 | 0, _, _ => none
 | k + 1, x0, x3 => if x3 < (x0.length : Int) then (if 0 ≤ x3 then (if ((rdOf ByteArray.empty x0 x3).size : Int) > 700 then (some false) else (cobweblaw11_texts.l0 k x0 (wrap64 (x3 + 1)))) else (none)) else (some true)
def cobweblaw11_texts.f (k : Nat) (l0 : List ByteArray) : Option (Bool) := if (l0.length : Int) > 30 then (some false) else (cobweblaw11_texts.l0 k l0 0)
theorem cobweblaw11_texts.mono_l : ∀ k, (∀ y0 y1, LeO (cobweblaw11_texts.l0 k y0 y1) (cobweblaw11_texts.l0 (k + 1) y0 y1))
 | 0 => fun _ _ r h => by simp [cobweblaw11_texts.l0] at h
 | k + 1 => by
  have ih0 := cobweblaw11_texts.mono_l k
  ·intro y0 y1
   unfold cobweblaw11_texts.l0
   repeat' first
   | (with_reducible exact ih0 _ _)
   | (with_reducible exact LeO.refl _)
   | (with_reducible exact LeO.none _)
   | (with_reducible refine LeO.ite ?_ ?_)
   | (with_reducible refine LeO.bind ?_ (fun _ => ?_))
   | exact ih0 _ _
   | exact LeO.none _
   | refine LeO.ite ?_ ?_
   | refine LeO.bind ?_ (fun _ => ?_)
theorem cobweblaw11_texts.mono : ∀ a0 k, LeO (cobweblaw11_texts.f k a0) (cobweblaw11_texts.f (k + 1) a0) := by
 intro a0 k
 have ih0 := cobweblaw11_texts.mono_l k
 unfold cobweblaw11_texts.f
 repeat' first
   | (with_reducible exact ih0 _ _)
   | (with_reducible exact LeO.refl _)
   | (with_reducible exact LeO.none _)
   | (with_reducible refine LeO.ite ?_ ?_)
   | (with_reducible refine LeO.bind ?_ (fun _ => ?_))
   | exact ih0 _ _
   | exact LeO.none _
   | refine LeO.ite ?_ ?_
   | refine LeO.bind ?_ (fun _ => ?_)
end Go.Proofs.Ytneagipmllgejaa.PL
end
section
namespace Go.Proofs.Ytneagipmllgejaa.PL
open Go.RowKit Go.Proofs.YtneagipmllgejaaW.PrintWords Go.Proofs.YtneagipmllgejaaW.PrintLast Go.Proofs.YtneagipmllgejaaW.PrintMore
attribute [local go_sem] max2_int min2_int max_two min_two max_three min_three max_four min_four   -- for this text's walks alone
set_option linter.unusedVariables false
set_option linter.unusedSimpArgs false
mutual
def cobweblaw11_small.j0 : Nat → List (S28) → Bool → Option (Bool)
 | 0, _, _ => none
 | k + 1, x1, x20 => if x20 = true then (some false) else (cobweblaw11_small.l0 k x1 0)
def cobweblaw11_small.l0 : Nat → List (S28) → Int → Option (Bool)
 | 0, _, _ => none
 | k + 1, x1, x5 => if x5 < (x1.length : Int) then (if 0 ≤ x5 then ((cobweblaw11_texts.f k ((rd_T28 x1 x5).f1)).bind fun t238 => (if t238 = true then (cobweblaw11_small.l0 k x1 (wrap64 (x5 + 1))) else (some false))) else (none)) else (some true)
end
def cobweblaw11_small.f (k : Nat) (l0_0 : List ByteArray) (l0_1 : List Int) (l1 : List (S28)) : Option (Bool) := (cobweblaw11_texts.f k l0_0).bind fun t236 => (if t236 = true then (if (l0_1.length : Int) > 40 then (cobweblaw11_small.j0 k l1 true) else (cobweblaw11_small.j0 k l1 (decide ((l1.length : Int) > 40)))) else (cobweblaw11_small.j0 k l1 true))
theorem cobweblaw11_small.mono_l : ∀ k, (∀ y0 y1, LeO (cobweblaw11_small.j0 k y0 y1) (cobweblaw11_small.j0 (k + 1) y0 y1)) ∧ (∀ y0 y1, LeO (cobweblaw11_small.l0 k y0 y1) (cobweblaw11_small.l0 (k + 1) y0 y1))
 | 0 => ⟨fun _ _ r h => by simp [cobweblaw11_small.j0] at h, fun _ _ r h => by simp [cobweblaw11_small.l0] at h⟩
 | k + 1 => by
  obtain ⟨ih0, ih1⟩ := cobweblaw11_small.mono_l k
  refine ⟨?_, ?_⟩
  ·intro y0 y1
   unfold cobweblaw11_small.j0
   repeat' first
   | (with_reducible exact ih0 _ _)
   | (with_reducible exact ih1 _ _)
   | (with_reducible exact cobweblaw11_texts.mono _ _)
   | (with_reducible exact LeO.refl _)
   | (with_reducible exact LeO.none _)
   | (with_reducible refine LeO.ite ?_ ?_)
   | (with_reducible refine LeO.bind ?_ (fun _ => ?_))
   | exact ih0 _ _
   | exact ih1 _ _
   | exact cobweblaw11_texts.mono _ _
   | exact LeO.none _
   | refine LeO.ite ?_ ?_
   | refine LeO.bind ?_ (fun _ => ?_)
  ·intro y0 y1
   unfold cobweblaw11_small.l0
   repeat' first
   | (with_reducible exact ih0 _ _)
   | (with_reducible exact ih1 _ _)
   | (with_reducible exact cobweblaw11_texts.mono _ _)
   | (with_reducible exact LeO.refl _)
   | (with_reducible exact LeO.none _)
   | (with_reducible refine LeO.ite ?_ ?_)
   | (with_reducible refine LeO.bind ?_ (fun _ => ?_))
   | exact ih0 _ _
   | exact ih1 _ _
   | exact cobweblaw11_texts.mono _ _
   | exact LeO.none _
   | refine LeO.ite ?_ ?_
   | refine LeO.bind ?_ (fun _ => ?_)
theorem cobweblaw11_small.mono : ∀ a0 a1 a2 k, LeO (cobweblaw11_small.f k a0 a1 a2) (cobweblaw11_small.f (k + 1) a0 a1 a2) := by
 intro a0 a1 a2 k
 obtain ⟨ih0, ih1⟩ := cobweblaw11_small.mono_l k
 unfold cobweblaw11_small.f
 repeat' first
   | (with_reducible exact ih0 _ _)
   | (with_reducible exact ih1 _ _)
   | (with_reducible exact cobweblaw11_texts.mono _ _)
   | (with_reducible exact LeO.refl _)
   | (with_reducible exact LeO.none _)
   | (with_reducible refine LeO.ite ?_ ?_)
   | (with_reducible refine LeO.bind ?_ (fun _ => ?_))
   | exact ih0 _ _
   | exact ih1 _ _
   | exact cobweblaw11_texts.mono _ _
   | exact LeO.none _
   | refine LeO.ite ?_ ?_
   | refine LeO.bind ?_ (fun _ => ?_)
end Go.Proofs.Ytneagipmllgejaa.PL
end
section
namespace Go.Proofs.Ytneagipmllgejaa.PL
open Go.RowKit Go.Proofs.YtneagipmllgejaaW.PrintWords Go.Proofs.YtneagipmllgejaaW.PrintLast Go.Proofs.YtneagipmllgejaaW.PrintMore
attribute [local go_sem] max2_int min2_int max_two min_two max_three min_three max_four min_four   -- for this text's walks alone
set_option linter.unusedVariables false
set_option linter.unusedSimpArgs false
def cobwebref11_Texts.l0 : Nat → List ByteArray → List ByteArray → Int → Option (Bool)
 | 0, _, _, _ => none
 | k + 1, x0, x1, x5 => if x5 < (x0.length : Int) then (if 0 ≤ x5 then (if x5 < (x1.length : Int) then (if (rdOf ByteArray.empty x0 x5).toList = (rdOf ByteArray.empty x1 x5).toList then (cobwebref11_Texts.l0 k x0 x1 (wrap64 (x5 + 1))) else (some false)) else (none)) else (none)) else (some true)
def cobwebref11_Texts.f (k : Nat) (l0 : List ByteArray) (l1 : List ByteArray) : Option (Bool) := if (l0.length : Int) = (l1.length : Int) then (cobwebref11_Texts.l0 k l0 l1 0) else (some false)
theorem cobwebref11_Texts.mono_l : ∀ k, (∀ y0 y1 y2, LeO (cobwebref11_Texts.l0 k y0 y1 y2) (cobwebref11_Texts.l0 (k + 1) y0 y1 y2))
 | 0 => fun _ _ _ r h => by simp [cobwebref11_Texts.l0] at h
 | k + 1 => by
  have ih0 := cobwebref11_Texts.mono_l k
  ·intro y0 y1 y2
   unfold cobwebref11_Texts.l0
   repeat' first
   | (with_reducible exact ih0 _ _ _)
   | (with_reducible exact LeO.refl _)
   | (with_reducible exact LeO.none _)
   | (with_reducible refine LeO.ite ?_ ?_)
   | (with_reducible refine LeO.bind ?_ (fun _ => ?_))
   | exact ih0 _ _ _
   | exact LeO.none _
   | refine LeO.ite ?_ ?_
   | refine LeO.bind ?_ (fun _ => ?_)
theorem cobwebref11_Texts.mono : ∀ a0 a1 k, LeO (cobwebref11_Texts.f k a0 a1) (cobwebref11_Texts.f (k + 1) a0 a1) := by
 intro a0 a1 k
 have ih0 := cobwebref11_Texts.mono_l k
 unfold cobwebref11_Texts.f
 repeat' first
   | (with_reducible exact ih0 _ _ _)
   | (with_reducible exact LeO.refl _)
   | (with_reducible exact LeO.none _)
   | (with_reducible refine LeO.ite ?_ ?_)
   | (with_reducible refine LeO.bind ?_ (fun _ => ?_))
   | exact ih0 _ _ _
   | exact LeO.none _
   | refine LeO.ite ?_ ?_
   | refine LeO.bind ?_ (fun _ => ?_)
set_option maxHeartbeats 8000000 in
set_option maxRecDepth 100000 in
theorem cobwebref11_Texts.calls (k : Nat) (A0 : Option Addr) (c0 : Nat) (l0 : List ByteArray) (A1 : Option Addr) (c1 : Nat) (l1 : List ByteArray) (r : Bool) (w : World) (hr0 : Kd.C Kd.string w A0 l0.length l0) (hc0 : l0.length ≤ c0) (hr1 : Kd.C Kd.string w A1 l1.length l1) (hc1 : l1.length ≤ c1) (h : cobwebref11_Texts.f k l0 l1 = some r) :
  Calls Try.prog 15 #[.slice A0 l0.length c0, .slice A1 l1.length c1] w fun e w' => e = .returned (.bool r) ∧ Drawn0 w w' := by
 have HR0 := Aside0.mk hr0
 have HC0 := Aside0.mk hc0
 clear hr0 hc0
 have HR1 := Aside0.mk hr1
 have HC1 := Aside0.mk hc1
 clear hr1 hc1
 have H : (if (l0.length : Int) = (l1.length : Int) then (cobwebref11_Texts.l0 k l0 l1 0) else (some false)) = some r := h
 clear h
 by_cases c3 : (l0.length : Int) = (l1.length : Int)
 ·rw [if_pos c3] at H
  have c3b0 : ((l0.length : Int) == (l1.length : Int)) = true := beq_iff_eq.mpr c3
  have c3b1 : ((l0.length : Int) != (l1.length : Int)) = false := bne_eq_false_iff_eq.mpr c3
  have c3b2 : (l0.length == l1.length) = true := by first | simpa using c3 | (simp at c3 ⊢; omega)
  clear c3
  have H' := Aside0.mk H
  clear H
  go_enter Try.func15, Try.ntmps15
  go_wp2
  repeat (go_quiet (fail); try go_wp2)
  go_loopg [5] k (fun kq v5 w' => ∃ (x5_1 : Int), v5 = .int .i64 x5_1 ∧ Aside0 (cobwebref11_Texts.l0 kq l0 l1 x5_1 = some r) ∧ Aside0 (kq ≤ k) ∧ Drawn0 w w')
  case atStart => exact ⟨(0), (by first | rfl | (simp; done) | (simp [*]; done)), H', ⟨Nat.le_refl _⟩, by repeat (first | exact Drawn0.refl _ | apply Drawn0.step)⟩
  case round =>
   clear H'
   try clear c1
   try clear p2
   try clear c3
   try clear c3b0
   try clear c3b1
   try clear c3b2
   obtain ⟨x5_1, rfl, HA, HK1, ⟨m1, rfl⟩⟩ := hrel
   cases gk with
   | zero => exact absurd HA.out (by simp [cobwebref11_Texts.l0])
   | succ k1 =>
    have H := HA.out
    clear HA
    simp only [cobwebref11_Texts.l0] at H
    by_cases c4 : x5_1 < (l0.length : Int)
    ·rw [if_pos c4] at H
     have c4b0 : decide (x5_1 < (l0.length : Int)) = true := decide_eq_true c4
     clear c4
     by_cases c5 : 0 ≤ x5_1
     ·rw [if_pos c5] at H
      have c5b0 : decide (0 ≤ x5_1) = true := decide_eq_true c5
      clear c5
      by_cases c6 : x5_1 < (l1.length : Int)
      ·rw [if_pos c6] at H
       have c6b0 : decide (x5_1 < (l1.length : Int)) = true := decide_eq_true c6
       clear c6
       by_cases c7 : (rdOf ByteArray.empty l0 x5_1).toList = (rdOf ByteArray.empty l1 x5_1).toList
       ·rw [if_pos c7] at H
        have c7b0 : ((rdOf ByteArray.empty l0 x5_1).toList == (rdOf ByteArray.empty l1 x5_1).toList) = true := beq_iff_eq.mpr c7
        have c7b1 : ((rdOf ByteArray.empty l0 x5_1).toList != (rdOf ByteArray.empty l1 x5_1).toList) = false := bne_eq_false_iff_eq.mpr c7
        clear c7
        have H' := Aside0.mk H
        clear H
        have p163 : 0 ≤ (x5_1 : Int) := of_decide_eq_true (by first | (with_reducible assumption) | assumption)
        have q163 : x5_1 < (l0.length : Int) := of_decide_eq_true (by first | (with_reducible assumption) | assumption)
        obtain ⟨ad163, e163, hx163_0⟩ := Kd.at_string HR0.out x5_1 p163 q163
        cases e163
        replace p163 := eq_true p163
        replace q163 := eq_true q163
        have p164 : 0 ≤ (x5_1 : Int) := of_decide_eq_true (by first | (with_reducible assumption) | assumption)
        have q164 : x5_1 < (l1.length : Int) := of_decide_eq_true (by first | (with_reducible assumption) | assumption)
        obtain ⟨ad164, e164, hx164_0⟩ := Kd.at_string HR1.out x5_1 p164 q164
        cases e164
        replace p164 := eq_true p164
        replace q164 := eq_true q164
        go_wp2
        repeat (go_quiet (fail); try go_wp2)
        go_roundg k1
        case measure => have := HK1.out; omega
        case rel => exact ⟨(wrap64 (x5_1 + 1)), (by first | rfl | (simp; done) | (simp [*]; done)), H', ⟨by have := HK1.out; omega⟩, by repeat (first | exact Drawn0.refl _ | apply Drawn0.step)⟩
       ·rw [if_neg c7] at H
        have c7b0 : ((rdOf ByteArray.empty l0 x5_1).toList == (rdOf ByteArray.empty l1 x5_1).toList) = false := beq_eq_false_iff_ne.mpr c7
        have c7b1 : ((rdOf ByteArray.empty l0 x5_1).toList != (rdOf ByteArray.empty l1 x5_1).toList) = true := bne_iff_ne.mpr c7
        obtain rfl := Option.some.inj H
        have p163 : 0 ≤ (x5_1 : Int) := of_decide_eq_true (by first | (with_reducible assumption) | assumption)
        have q163 : x5_1 < (l0.length : Int) := of_decide_eq_true (by first | (with_reducible assumption) | assumption)
        obtain ⟨ad163, e163, hx163_0⟩ := Kd.at_string HR0.out x5_1 p163 q163
        cases e163
        replace p163 := eq_true p163
        replace q163 := eq_true q163
        have p164 : 0 ≤ (x5_1 : Int) := of_decide_eq_true (by first | (with_reducible assumption) | assumption)
        have q164 : x5_1 < (l1.length : Int) := of_decide_eq_true (by first | (with_reducible assumption) | assumption)
        obtain ⟨ad164, e164, hx164_0⟩ := Kd.at_string HR1.out x5_1 p164 q164
        cases e164
        replace p164 := eq_true p164
        replace q164 := eq_true q164
        go_wp2
        repeat (go_quiet (fail); try go_wp2)
        go_ret
        exact ⟨by first | rfl | (simp; done) | (simp [*]; done), by repeat (first | exact Drawn0.refl _ | apply Drawn0.step)⟩
      ·rw [if_neg c6] at H
       exact absurd H (by simp)
     ·rw [if_neg c5] at H
      exact absurd H (by simp)
    ·rw [if_neg c4] at H
     have c4b0 : decide (x5_1 < (l0.length : Int)) = false := decide_eq_false c4
     clear c4
     obtain rfl := Option.some.inj H
     go_wp2
     repeat (go_quiet (fail); try go_wp2)
     go_ret
     exact ⟨by first | rfl | (simp; done) | (simp [*]; done), by repeat (first | exact Drawn0.refl _ | apply Drawn0.step)⟩
 ·rw [if_neg c3] at H
  have c3b0 : ((l0.length : Int) == (l1.length : Int)) = false := beq_eq_false_iff_ne.mpr c3
  have c3b1 : ((l0.length : Int) != (l1.length : Int)) = true := bne_iff_ne.mpr c3
  have c3b2 : (l0.length == l1.length) = false := by first | simpa using c3 | (simp at c3 ⊢; omega)
  obtain rfl := Option.some.inj H
  go_enter Try.func15, Try.ntmps15
  go_wp2
  repeat (go_quiet (fail); try go_wp2)
  go_ret
  exact ⟨by first | rfl | (simp; done) | (simp [*]; done), by repeat (first | exact Drawn0.refl _ | apply Drawn0.step)⟩
end Go.Proofs.Ytneagipmllgejaa.PL
end
section
namespace Go.Proofs.Ytneagipmllgejaa.PL
open Go.RowKit Go.Proofs.YtneagipmllgejaaW.PrintWords Go.Proofs.YtneagipmllgejaaW.PrintLast Go.Proofs.YtneagipmllgejaaW.PrintMore
attribute [local go_sem] max2_int min2_int max_two min_two max_three min_three max_four min_four   -- for this text's walks alone
set_option linter.unusedVariables false
set_option linter.unusedSimpArgs false
def cobwebref11_SameRoot.l0 : Nat → Int → List ByteArray → List Int → List ByteArray → List Int → Option (Bool)
 | 0, _, _, _, _, _ => none
 | k + 1, x5, x166000, x166001, x167000, x167001 => if x5 < (x166001.length : Int) then (if 0 ≤ x5 then (if x5 < (x167001.length : Int) then (if (rd x166001 x5) = (rd x167001 x5) then (cobwebref11_SameRoot.l0 k (wrap64 (x5 + 1)) x166000 x166001 x167000 x167001) else (some false)) else (none)) else (none)) else ((cobwebref11_Texts.f k x166000 x167000).bind fun t169 => (some t169))
def cobwebref11_SameRoot.f (k : Nat) (l0_0 : List ByteArray) (l0_1 : List Int) (l1_0 : List ByteArray) (l1_1 : List Int) : Option (Bool) := if (l0_1.length : Int) = (l1_1.length : Int) then (cobwebref11_SameRoot.l0 k 0 l0_0 l0_1 l1_0 l1_1) else (some false)
theorem cobwebref11_SameRoot.mono_l : ∀ k, (∀ y0 y1 y2 y3 y4, LeO (cobwebref11_SameRoot.l0 k y0 y1 y2 y3 y4) (cobwebref11_SameRoot.l0 (k + 1) y0 y1 y2 y3 y4))
 | 0 => fun _ _ _ _ _ r h => by simp [cobwebref11_SameRoot.l0] at h
 | k + 1 => by
  have ih0 := cobwebref11_SameRoot.mono_l k
  ·intro y0 y1 y2 y3 y4
   unfold cobwebref11_SameRoot.l0
   repeat' first
   | (with_reducible exact ih0 _ _ _ _ _)
   | (with_reducible exact cobwebref11_Texts.mono _ _ _)
   | (with_reducible exact LeO.refl _)
   | (with_reducible exact LeO.none _)
   | (with_reducible refine LeO.ite ?_ ?_)
   | (with_reducible refine LeO.bind ?_ (fun _ => ?_))
   | exact ih0 _ _ _ _ _
   | exact cobwebref11_Texts.mono _ _ _
   | exact LeO.none _
   | refine LeO.ite ?_ ?_
   | refine LeO.bind ?_ (fun _ => ?_)
theorem cobwebref11_SameRoot.mono : ∀ a0 a1 a2 a3 k, LeO (cobwebref11_SameRoot.f k a0 a1 a2 a3) (cobwebref11_SameRoot.f (k + 1) a0 a1 a2 a3) := by
 intro a0 a1 a2 a3 k
 have ih0 := cobwebref11_SameRoot.mono_l k
 unfold cobwebref11_SameRoot.f
 repeat' first
   | (with_reducible exact ih0 _ _ _ _ _)
   | (with_reducible exact cobwebref11_Texts.mono _ _ _)
   | (with_reducible exact LeO.refl _)
   | (with_reducible exact LeO.none _)
   | (with_reducible refine LeO.ite ?_ ?_)
   | (with_reducible refine LeO.bind ?_ (fun _ => ?_))
   | exact ih0 _ _ _ _ _
   | exact cobwebref11_Texts.mono _ _ _
   | exact LeO.none _
   | refine LeO.ite ?_ ?_
   | refine LeO.bind ?_ (fun _ => ?_)
set_option maxHeartbeats 8000000 in
set_option maxRecDepth 100000 in
theorem cobwebref11_SameRoot.calls (k : Nat) (A0_0 : Option Addr) (c0_0 : Nat) (l0_0 : List ByteArray) (A0_1 : Option Addr) (c0_1 : Nat) (l0_1 : List Int) (A1_0 : Option Addr) (c1_0 : Nat) (l1_0 : List ByteArray) (A1_1 : Option Addr) (c1_1 : Nat) (l1_1 : List Int) (r : Bool) (w : World) (hr0_0 : Kd.C Kd.string w A0_0 l0_0.length l0_0) (hc0_0 : l0_0.length ≤ c0_0) (hr0_1 : Kd.C (Kd.int .i64) w A0_1 l0_1.length l0_1) (hc0_1 : l0_1.length ≤ c0_1) (hr1_0 : Kd.C Kd.string w A1_0 l1_0.length l1_0) (hc1_0 : l1_0.length ≤ c1_0) (hr1_1 : Kd.C (Kd.int .i64) w A1_1 l1_1.length l1_1) (hc1_1 : l1_1.length ≤ c1_1) (h : cobwebref11_SameRoot.f k l0_0 l0_1 l1_0 l1_1 = some r) :
  Calls Try.prog 21 #[.agg #[.slice A0_0 l0_0.length c0_0, .slice A0_1 l0_1.length c0_1], .agg #[.slice A1_0 l1_0.length c1_0, .slice A1_1 l1_1.length c1_1]] w fun e w' => e = .returned (.bool r) ∧ Below w.heap.size w w' := by
 have hu26 := Try.underlying26
 have HR0_0 := Aside0.mk hr0_0
 have HC0_0 := Aside0.mk hc0_0
 clear hr0_0 hc0_0
 have HR0_1 := Aside0.mk hr0_1
 have HC0_1 := Aside0.mk hc0_1
 clear hr0_1 hc0_1
 have HR1_0 := Aside0.mk hr1_0
 have HC1_0 := Aside0.mk hc1_0
 clear hr1_0 hc1_0
 have HR1_1 := Aside0.mk hr1_1
 have HC1_1 := Aside0.mk hc1_1
 clear hr1_1 hc1_1
 have HB := Aside0.mk (Below.refl w.heap.size w)
 have H : (if (l0_1.length : Int) = (l1_1.length : Int) then (cobwebref11_SameRoot.l0 k 0 l0_0 l0_1 l1_0 l1_1) else (some false)) = some r := h
 clear h
 by_cases c3 : (l0_1.length : Int) = (l1_1.length : Int)
 ·rw [if_pos c3] at H
  have c3b0 : ((l0_1.length : Int) == (l1_1.length : Int)) = true := beq_iff_eq.mpr c3
  have c3b1 : ((l0_1.length : Int) != (l1_1.length : Int)) = false := bne_eq_false_iff_eq.mpr c3
  have c3b2 : (l0_1.length == l1_1.length) = true := by first | simpa using c3 | (simp at c3 ⊢; omega)
  clear c3
  have H' := Aside0.mk H
  clear H
  go_enter Try.func21, Try.ntmps21
  go_wp2_with (first | ((with_reducible refine gate_dst (N := 2) rfl ?_); refine box_event ?hg (N := 2) ?hd (cs := #[.slice A0_0 l0_0.length c0_0, .slice A0_1 l0_1.length c0_1]) (t := 26) ?hr ?_; (case hd => rfl); (case hg => rfl); (case hr => first | (go_simp; done) | (go_simp; rfl)); intro gb165 hg w4 hbox hb; have n0_ := Aside0.mk (below_step (by repeat (first | (with_reducible first | exact HB.out | apply below_alloc | apply pw_below_drewN | apply below_drew1) | exact HB.out)) hb); have n1_ := Aside0.mk (hbox); have n2_ := Aside0.mk ((by rw [hg]; exact (below_size (by repeat (first | (with_reducible first | exact HB.out | apply below_alloc | apply pw_below_drewN | apply below_drew1) | exact HB.out))) : w.heap.size ≤ gb165)); have n3_ := Aside0.mk ((by rw [hg]; exact (below_size (by repeat (first | (with_reducible first | exact HB.out | apply below_alloc | apply pw_below_drewN | apply below_drew1) | exact HB.out))) : w.heap.size ≤ gb165)); clear HB; have HB := n0_; have BK165 := n1_; have GW165 := n2_; have GE165 := n3_; clear n0_ n1_ n2_ n3_; clear hb hbox hg) | ((with_reducible refine gate_dst (N := 3) rfl ?_); refine box_event ?hg (N := 3) ?hd (cs := #[.slice A1_0 l1_0.length c1_0, .slice A1_1 l1_1.length c1_1]) (t := 26) ?hr ?_; (case hd => rfl); (case hg => rfl); (case hr => first | (go_simp; done) | (go_simp; rfl)); intro gb166 hg w5 hbox hb; have n0_ := Aside0.mk (blk_below (g := gb165) (o := .cells #[.slice A0_0 l0_0.length c0_0, .slice A0_1 l0_1.length c0_1] 26 (0, 0)) (by (with_reducible repeat (first | refine blk_drewN ?_ _ | refine blk_drew ?_ | refine blk_alloc ?_ _)); exact BK165.out) hb); have n1_ := Aside0.mk (below_step (by repeat (first | (with_reducible first | exact HB.out | apply below_alloc | apply pw_below_drewN | apply below_drew1 | refine below_set ?_ GE165.out) | exact HB.out)) hb); have n2_ := Aside0.mk (hbox); have n3_ := Aside0.mk ((by rw [hg]; exact (below_size (by repeat (first | (with_reducible first | exact HB.out | apply below_alloc | apply pw_below_drewN | apply below_drew1 | refine below_set ?_ GE165.out) | exact HB.out))) : w.heap.size ≤ gb166)); have n4_ := Aside0.mk ((by rw [hg]; exact (below_size (by repeat (first | (with_reducible first | exact HB.out | apply below_alloc | apply pw_below_drewN | apply below_drew1 | refine below_set ?_ GE165.out) | exact HB.out))) : w.heap.size ≤ gb166)); have n5_ := Aside0.mk ((by rw [hg]; exact Nat.ne_of_lt (blk_lt (g := gb165) (o := .cells #[.slice A0_0 l0_0.length c0_0, .slice A0_1 l0_1.length c0_1] 26 (0, 0)) (by (with_reducible repeat (first | refine blk_drewN ?_ _ | refine blk_drew ?_ | refine blk_alloc ?_ _)); exact BK165.out)) : gb165 ≠ gb166)); have n6_ := Aside0.mk ((by rw [hg]; exact Nat.ne_of_gt (blk_lt (g := gb165) (o := .cells #[.slice A0_0 l0_0.length c0_0, .slice A0_1 l0_1.length c0_1] 26 (0, 0)) (by (with_reducible repeat (first | refine blk_drewN ?_ _ | refine blk_drew ?_ | refine blk_alloc ?_ _)); exact BK165.out)) : gb166 ≠ gb165)); clear BK165; clear HB; have BK165 := n0_; have HB := n1_; have BK166 := n2_; have GW166 := n3_; have GE166 := n4_; have NB165_166 := n5_; have NB166_165 := n6_; clear n0_ n1_ n2_ n3_ n4_ n5_ n6_; clear hb hbox hg; have hnb6 := NB165_166.out; have hnc6 := NB166_165.out; have hcz7_0 : w5.cell? ⟨gb165, 0, none⟩ = some (.slice A0_0 l0_0.length c0_0) := (blk_cell BK165.out 0).trans rfl; have hcz7_1 : w5.cell? ⟨gb165, 1, none⟩ = some (.slice A0_1 l0_1.length c0_1) := (blk_cell BK165.out 1).trans rfl; have hfz7_0 := blk_frozen BK165.out 0; have hfz7_1 := blk_frozen BK165.out 1; have hcz8_0 : w5.cell? ⟨gb166, 0, none⟩ = some (.slice A1_0 l1_0.length c1_0) := (blk_cell BK166.out 0).trans rfl; have hcz8_1 : w5.cell? ⟨gb166, 1, none⟩ = some (.slice A1_1 l1_1.length c1_1) := (blk_cell BK166.out 1).trans rfl; have hfz8_0 := blk_frozen BK166.out 0; have hfz8_1 := blk_frozen BK166.out 1))
  repeat (go_quiet (first | ((with_reducible refine gate_dst (N := 2) rfl ?_); refine box_event ?hg (N := 2) ?hd (cs := #[.slice A0_0 l0_0.length c0_0, .slice A0_1 l0_1.length c0_1]) (t := 26) ?hr ?_; (case hd => rfl); (case hg => rfl); (case hr => first | (go_simp; done) | (go_simp; rfl)); intro gb165 hg w4 hbox hb; have n0_ := Aside0.mk (below_step (by repeat (first | (with_reducible first | exact HB.out | apply below_alloc | apply pw_below_drewN | apply below_drew1) | exact HB.out)) hb); have n1_ := Aside0.mk (hbox); have n2_ := Aside0.mk ((by rw [hg]; exact (below_size (by repeat (first | (with_reducible first | exact HB.out | apply below_alloc | apply pw_below_drewN | apply below_drew1) | exact HB.out))) : w.heap.size ≤ gb165)); have n3_ := Aside0.mk ((by rw [hg]; exact (below_size (by repeat (first | (with_reducible first | exact HB.out | apply below_alloc | apply pw_below_drewN | apply below_drew1) | exact HB.out))) : w.heap.size ≤ gb165)); clear HB; have HB := n0_; have BK165 := n1_; have GW165 := n2_; have GE165 := n3_; clear n0_ n1_ n2_ n3_; clear hb hbox hg) | ((with_reducible refine gate_dst (N := 3) rfl ?_); refine box_event ?hg (N := 3) ?hd (cs := #[.slice A1_0 l1_0.length c1_0, .slice A1_1 l1_1.length c1_1]) (t := 26) ?hr ?_; (case hd => rfl); (case hg => rfl); (case hr => first | (go_simp; done) | (go_simp; rfl)); intro gb166 hg w5 hbox hb; have n0_ := Aside0.mk (blk_below (g := gb165) (o := .cells #[.slice A0_0 l0_0.length c0_0, .slice A0_1 l0_1.length c0_1] 26 (0, 0)) (by (with_reducible repeat (first | refine blk_drewN ?_ _ | refine blk_drew ?_ | refine blk_alloc ?_ _)); exact BK165.out) hb); have n1_ := Aside0.mk (below_step (by repeat (first | (with_reducible first | exact HB.out | apply below_alloc | apply pw_below_drewN | apply below_drew1 | refine below_set ?_ GE165.out) | exact HB.out)) hb); have n2_ := Aside0.mk (hbox); have n3_ := Aside0.mk ((by rw [hg]; exact (below_size (by repeat (first | (with_reducible first | exact HB.out | apply below_alloc | apply pw_below_drewN | apply below_drew1 | refine below_set ?_ GE165.out) | exact HB.out))) : w.heap.size ≤ gb166)); have n4_ := Aside0.mk ((by rw [hg]; exact (below_size (by repeat (first | (with_reducible first | exact HB.out | apply below_alloc | apply pw_below_drewN | apply below_drew1 | refine below_set ?_ GE165.out) | exact HB.out))) : w.heap.size ≤ gb166)); have n5_ := Aside0.mk ((by rw [hg]; exact Nat.ne_of_lt (blk_lt (g := gb165) (o := .cells #[.slice A0_0 l0_0.length c0_0, .slice A0_1 l0_1.length c0_1] 26 (0, 0)) (by (with_reducible repeat (first | refine blk_drewN ?_ _ | refine blk_drew ?_ | refine blk_alloc ?_ _)); exact BK165.out)) : gb165 ≠ gb166)); have n6_ := Aside0.mk ((by rw [hg]; exact Nat.ne_of_gt (blk_lt (g := gb165) (o := .cells #[.slice A0_0 l0_0.length c0_0, .slice A0_1 l0_1.length c0_1] 26 (0, 0)) (by (with_reducible repeat (first | refine blk_drewN ?_ _ | refine blk_drew ?_ | refine blk_alloc ?_ _)); exact BK165.out)) : gb166 ≠ gb165)); clear BK165; clear HB; have BK165 := n0_; have HB := n1_; have BK166 := n2_; have GW166 := n3_; have GE166 := n4_; have NB165_166 := n5_; have NB166_165 := n6_; clear n0_ n1_ n2_ n3_ n4_ n5_ n6_; clear hb hbox hg; have hnb6 := NB165_166.out; have hnc6 := NB166_165.out; have hcz7_0 : w5.cell? ⟨gb165, 0, none⟩ = some (.slice A0_0 l0_0.length c0_0) := (blk_cell BK165.out 0).trans rfl; have hcz7_1 : w5.cell? ⟨gb165, 1, none⟩ = some (.slice A0_1 l0_1.length c0_1) := (blk_cell BK165.out 1).trans rfl; have hfz7_0 := blk_frozen BK165.out 0; have hfz7_1 := blk_frozen BK165.out 1; have hcz8_0 : w5.cell? ⟨gb166, 0, none⟩ = some (.slice A1_0 l1_0.length c1_0) := (blk_cell BK166.out 0).trans rfl; have hcz8_1 : w5.cell? ⟨gb166, 1, none⟩ = some (.slice A1_1 l1_1.length c1_1) := (blk_cell BK166.out 1).trans rfl; have hfz8_0 := blk_frozen BK166.out 0; have hfz8_1 := blk_frozen BK166.out 1)); try go_wp2_with (first | ((with_reducible refine gate_dst (N := 2) rfl ?_); refine box_event ?hg (N := 2) ?hd (cs := #[.slice A0_0 l0_0.length c0_0, .slice A0_1 l0_1.length c0_1]) (t := 26) ?hr ?_; (case hd => rfl); (case hg => rfl); (case hr => first | (go_simp; done) | (go_simp; rfl)); intro gb165 hg w4 hbox hb; have n0_ := Aside0.mk (below_step (by repeat (first | (with_reducible first | exact HB.out | apply below_alloc | apply pw_below_drewN | apply below_drew1) | exact HB.out)) hb); have n1_ := Aside0.mk (hbox); have n2_ := Aside0.mk ((by rw [hg]; exact (below_size (by repeat (first | (with_reducible first | exact HB.out | apply below_alloc | apply pw_below_drewN | apply below_drew1) | exact HB.out))) : w.heap.size ≤ gb165)); have n3_ := Aside0.mk ((by rw [hg]; exact (below_size (by repeat (first | (with_reducible first | exact HB.out | apply below_alloc | apply pw_below_drewN | apply below_drew1) | exact HB.out))) : w.heap.size ≤ gb165)); clear HB; have HB := n0_; have BK165 := n1_; have GW165 := n2_; have GE165 := n3_; clear n0_ n1_ n2_ n3_; clear hb hbox hg) | ((with_reducible refine gate_dst (N := 3) rfl ?_); refine box_event ?hg (N := 3) ?hd (cs := #[.slice A1_0 l1_0.length c1_0, .slice A1_1 l1_1.length c1_1]) (t := 26) ?hr ?_; (case hd => rfl); (case hg => rfl); (case hr => first | (go_simp; done) | (go_simp; rfl)); intro gb166 hg w5 hbox hb; have n0_ := Aside0.mk (blk_below (g := gb165) (o := .cells #[.slice A0_0 l0_0.length c0_0, .slice A0_1 l0_1.length c0_1] 26 (0, 0)) (by (with_reducible repeat (first | refine blk_drewN ?_ _ | refine blk_drew ?_ | refine blk_alloc ?_ _)); exact BK165.out) hb); have n1_ := Aside0.mk (below_step (by repeat (first | (with_reducible first | exact HB.out | apply below_alloc | apply pw_below_drewN | apply below_drew1 | refine below_set ?_ GE165.out) | exact HB.out)) hb); have n2_ := Aside0.mk (hbox); have n3_ := Aside0.mk ((by rw [hg]; exact (below_size (by repeat (first | (with_reducible first | exact HB.out | apply below_alloc | apply pw_below_drewN | apply below_drew1 | refine below_set ?_ GE165.out) | exact HB.out))) : w.heap.size ≤ gb166)); have n4_ := Aside0.mk ((by rw [hg]; exact (below_size (by repeat (first | (with_reducible first | exact HB.out | apply below_alloc | apply pw_below_drewN | apply below_drew1 | refine below_set ?_ GE165.out) | exact HB.out))) : w.heap.size ≤ gb166)); have n5_ := Aside0.mk ((by rw [hg]; exact Nat.ne_of_lt (blk_lt (g := gb165) (o := .cells #[.slice A0_0 l0_0.length c0_0, .slice A0_1 l0_1.length c0_1] 26 (0, 0)) (by (with_reducible repeat (first | refine blk_drewN ?_ _ | refine blk_drew ?_ | refine blk_alloc ?_ _)); exact BK165.out)) : gb165 ≠ gb166)); have n6_ := Aside0.mk ((by rw [hg]; exact Nat.ne_of_gt (blk_lt (g := gb165) (o := .cells #[.slice A0_0 l0_0.length c0_0, .slice A0_1 l0_1.length c0_1] 26 (0, 0)) (by (with_reducible repeat (first | refine blk_drewN ?_ _ | refine blk_drew ?_ | refine blk_alloc ?_ _)); exact BK165.out)) : gb166 ≠ gb165)); clear BK165; clear HB; have BK165 := n0_; have HB := n1_; have BK166 := n2_; have GW166 := n3_; have GE166 := n4_; have NB165_166 := n5_; have NB166_165 := n6_; clear n0_ n1_ n2_ n3_ n4_ n5_ n6_; clear hb hbox hg; have hnb6 := NB165_166.out; have hnc6 := NB166_165.out; have hcz7_0 : w5.cell? ⟨gb165, 0, none⟩ = some (.slice A0_0 l0_0.length c0_0) := (blk_cell BK165.out 0).trans rfl; have hcz7_1 : w5.cell? ⟨gb165, 1, none⟩ = some (.slice A0_1 l0_1.length c0_1) := (blk_cell BK165.out 1).trans rfl; have hfz7_0 := blk_frozen BK165.out 0; have hfz7_1 := blk_frozen BK165.out 1; have hcz8_0 : w5.cell? ⟨gb166, 0, none⟩ = some (.slice A1_0 l1_0.length c1_0) := (blk_cell BK166.out 0).trans rfl; have hcz8_1 : w5.cell? ⟨gb166, 1, none⟩ = some (.slice A1_1 l1_1.length c1_1) := (blk_cell BK166.out 1).trans rfl; have hfz8_0 := blk_frozen BK166.out 0; have hfz8_1 := blk_frozen BK166.out 1)))
  go_loopg [5] k (fun kq v5 w' => ∃ (x5_1 : Int), v5 = .int .i64 x5_1 ∧ Aside0 (cobwebref11_SameRoot.l0 kq x5_1 l0_0 l0_1 l1_0 l1_1 = some r) ∧ Aside0 (kq ≤ k) ∧ Aside0 (w'.heap[gb165]? = some (.cells #[(.slice A0_0 l0_0.length c0_0), (.slice A0_1 l0_1.length c0_1)] 26 (0, 0))) ∧ Aside0 (w'.heap[gb166]? = some (.cells #[(.slice A1_0 l1_0.length c1_0), (.slice A1_1 l1_1.length c1_1)] 26 (0, 0))) ∧ Aside0 (Below w.heap.size w w'))
  case atStart => exact ⟨(0), (by first | rfl | (simp; done) | (simp [*]; done)), H', ⟨Nat.le_refl _⟩, ⟨by (with_reducible repeat (first | refine blk_drewN ?_ _ | refine blk_drew ?_ | refine blk_alloc ?_ _)); exact BK165.out⟩, ⟨by (with_reducible repeat (first | refine blk_drewN ?_ _ | refine blk_drew ?_ | refine blk_alloc ?_ _)); exact BK166.out⟩, ⟨by repeat (first | (with_reducible first | exact HB.out | apply below_alloc | apply pw_below_drewN | apply below_drew1 | refine below_set ?_ GE165.out | refine below_set ?_ GE166.out) | exact HB.out)⟩⟩
  case round =>
   clear H'
   try clear c1
   try clear c2
   try clear p2
   try clear c3
   try clear c3b0
   try clear c3b1
   try clear c3b2
   try clear c6
   try clear hcz7_0
   try clear hcz7_1
   try clear hcz8_0
   try clear hcz8_1
   try clear hfz7_0
   try clear hfz7_1
   try clear hfz8_0
   try clear hfz8_1
   obtain ⟨x5_1, rfl, HA, HK1, BK165, BK166, HB⟩ := hrel
   cases gk with
   | zero => exact absurd HA.out (by simp [cobwebref11_SameRoot.l0])
   | succ k1 =>
    have H := HA.out
    clear HA
    simp only [cobwebref11_SameRoot.l0] at H
    by_cases c9 : x5_1 < (l0_1.length : Int)
    ·rw [if_pos c9] at H
     have c9b0 : decide (x5_1 < (l0_1.length : Int)) = true := decide_eq_true c9
     clear c9
     by_cases c10 : 0 ≤ x5_1
     ·rw [if_pos c10] at H
      have c10b0 : decide (0 ≤ x5_1) = true := decide_eq_true c10
      clear c10
      by_cases c11 : x5_1 < (l1_1.length : Int)
      ·rw [if_pos c11] at H
       have c11b0 : decide (x5_1 < (l1_1.length : Int)) = true := decide_eq_true c11
       clear c11
       by_cases c12 : (rd l0_1 x5_1) = (rd l1_1 x5_1)
       ·rw [if_pos c12] at H
        have c12b0 : ((rd l0_1 x5_1) == (rd l1_1 x5_1)) = true := beq_iff_eq.mpr c12
        have c12b1 : ((rd l0_1 x5_1) != (rd l1_1 x5_1)) = false := bne_eq_false_iff_eq.mpr c12
        clear c12
        have H' := Aside0.mk H
        clear H
        have hnb13 := NB165_166.out
        have hnc13 := NB166_165.out
        have hcz14_0 : wr.cell? ⟨gb165, 0, none⟩ = some (.slice A0_0 l0_0.length c0_0) := (blk_cell BK165.out 0).trans rfl
        have hcz14_1 : wr.cell? ⟨gb165, 1, none⟩ = some (.slice A0_1 l0_1.length c0_1) := (blk_cell BK165.out 1).trans rfl
        have hfz14_0 := blk_frozen BK165.out 0
        have hfz14_1 := blk_frozen BK165.out 1
        have p167 : 0 ≤ (x5_1 : Int) := of_decide_eq_true (by first | (with_reducible assumption) | assumption)
        have q167 : x5_1 < (l0_1.length : Int) := of_decide_eq_true (by first | (with_reducible assumption) | assumption)
        obtain ⟨ad167, e167, hx167_0⟩ := Kd.at_int HR0_1.out x5_1 p167 q167
        cases e167
        replace hx167_0 := (HB.out.cell (World.block_lt_of_cell? w _ hx167_0)).trans hx167_0
        replace p167 := eq_true p167
        replace q167 := eq_true q167
        have hcz15_0 : wr.cell? ⟨gb166, 0, none⟩ = some (.slice A1_0 l1_0.length c1_0) := (blk_cell BK166.out 0).trans rfl
        have hcz15_1 : wr.cell? ⟨gb166, 1, none⟩ = some (.slice A1_1 l1_1.length c1_1) := (blk_cell BK166.out 1).trans rfl
        have hfz15_0 := blk_frozen BK166.out 0
        have hfz15_1 := blk_frozen BK166.out 1
        have p168 : 0 ≤ (x5_1 : Int) := of_decide_eq_true (by first | (with_reducible assumption) | assumption)
        have q168 : x5_1 < (l1_1.length : Int) := of_decide_eq_true (by first | (with_reducible assumption) | assumption)
        obtain ⟨ad168, e168, hx168_0⟩ := Kd.at_int HR1_1.out x5_1 p168 q168
        cases e168
        replace hx168_0 := (HB.out.cell (World.block_lt_of_cell? w _ hx168_0)).trans hx168_0
        replace p168 := eq_true p168
        replace q168 := eq_true q168
        go_wp2
        repeat (go_quiet (fail); try go_wp2)
        go_roundg k1
        case measure => have := HK1.out; omega
        case rel => exact ⟨(wrap64 (x5_1 + 1)), (by first | rfl | (simp; done) | (simp [*]; done)), H', ⟨by have := HK1.out; omega⟩, ⟨by (with_reducible repeat (first | refine blk_drewN ?_ _ | refine blk_drew ?_ | refine blk_alloc ?_ _)); exact BK165.out⟩, ⟨by (with_reducible repeat (first | refine blk_drewN ?_ _ | refine blk_drew ?_ | refine blk_alloc ?_ _)); exact BK166.out⟩, ⟨by repeat (first | (with_reducible first | exact HB.out | apply below_alloc | apply pw_below_drewN | apply below_drew1 | refine below_set ?_ GE165.out | refine below_set ?_ GE166.out) | exact HB.out)⟩⟩
       ·rw [if_neg c12] at H
        have c12b0 : ((rd l0_1 x5_1) == (rd l1_1 x5_1)) = false := beq_eq_false_iff_ne.mpr c12
        have c12b1 : ((rd l0_1 x5_1) != (rd l1_1 x5_1)) = true := bne_iff_ne.mpr c12
        obtain rfl := Option.some.inj H
        have hnb16 := NB165_166.out
        have hnc16 := NB166_165.out
        have hcz17_0 : wr.cell? ⟨gb165, 0, none⟩ = some (.slice A0_0 l0_0.length c0_0) := (blk_cell BK165.out 0).trans rfl
        have hcz17_1 : wr.cell? ⟨gb165, 1, none⟩ = some (.slice A0_1 l0_1.length c0_1) := (blk_cell BK165.out 1).trans rfl
        have hfz17_0 := blk_frozen BK165.out 0
        have hfz17_1 := blk_frozen BK165.out 1
        have p167 : 0 ≤ (x5_1 : Int) := of_decide_eq_true (by first | (with_reducible assumption) | assumption)
        have q167 : x5_1 < (l0_1.length : Int) := of_decide_eq_true (by first | (with_reducible assumption) | assumption)
        obtain ⟨ad167, e167, hx167_0⟩ := Kd.at_int HR0_1.out x5_1 p167 q167
        cases e167
        replace hx167_0 := (HB.out.cell (World.block_lt_of_cell? w _ hx167_0)).trans hx167_0
        replace p167 := eq_true p167
        replace q167 := eq_true q167
        have hcz18_0 : wr.cell? ⟨gb166, 0, none⟩ = some (.slice A1_0 l1_0.length c1_0) := (blk_cell BK166.out 0).trans rfl
        have hcz18_1 : wr.cell? ⟨gb166, 1, none⟩ = some (.slice A1_1 l1_1.length c1_1) := (blk_cell BK166.out 1).trans rfl
        have hfz18_0 := blk_frozen BK166.out 0
        have hfz18_1 := blk_frozen BK166.out 1
        have p168 : 0 ≤ (x5_1 : Int) := of_decide_eq_true (by first | (with_reducible assumption) | assumption)
        have q168 : x5_1 < (l1_1.length : Int) := of_decide_eq_true (by first | (with_reducible assumption) | assumption)
        obtain ⟨ad168, e168, hx168_0⟩ := Kd.at_int HR1_1.out x5_1 p168 q168
        cases e168
        replace hx168_0 := (HB.out.cell (World.block_lt_of_cell? w _ hx168_0)).trans hx168_0
        replace p168 := eq_true p168
        replace q168 := eq_true q168
        go_wp2
        repeat (go_quiet (fail); try go_wp2)
        go_ret
        exact ⟨by first | rfl | (simp [errW_none, errW_some] <;> rfl) | (simp [*, errW_none, errW_some] <;> rfl), by repeat (first | (with_reducible first | exact HB.out | apply below_alloc | apply pw_below_drewN | apply below_drew1 | refine below_set ?_ GE165.out | refine below_set ?_ GE166.out) | exact HB.out)⟩
      ·rw [if_neg c11] at H
       exact absurd H (by simp)
     ·rw [if_neg c10] at H
      exact absurd H (by simp)
    ·rw [if_neg c9] at H
     have c9b0 : decide (x5_1 < (l0_1.length : Int)) = false := decide_eq_false c9
     clear c9
     replace H := Option.bind_eq_some_iff.mp H
     obtain ⟨t169, A190, H⟩ := H
     replace H : (some t169) = some r := H
     have A19 := Aside0.mk A190
     clear A190
     obtain rfl := Option.some.inj H
     have hnb20 := NB165_166.out
     have hnc20 := NB166_165.out
     have hcz21_0 : wr.cell? ⟨gb165, 0, none⟩ = some (.slice A0_0 l0_0.length c0_0) := (blk_cell BK165.out 0).trans rfl
     have hcz21_1 : wr.cell? ⟨gb165, 1, none⟩ = some (.slice A0_1 l0_1.length c0_1) := (blk_cell BK165.out 1).trans rfl
     have hfz21_0 := blk_frozen BK165.out 0
     have hfz21_1 := blk_frozen BK165.out 1
     have hcz22_0 : wr.cell? ⟨gb166, 0, none⟩ = some (.slice A1_0 l1_0.length c1_0) := (blk_cell BK166.out 0).trans rfl
     have hcz22_1 : wr.cell? ⟨gb166, 1, none⟩ = some (.slice A1_1 l1_1.length c1_1) := (blk_cell BK166.out 1).trans rfl
     have hfz22_0 := blk_frozen BK166.out 0
     have hfz22_1 := blk_frozen BK166.out 1
     go_wp2_with (first | (go_at_call 15; (with_reducible refine (cobwebref11_Texts.calls k1 _ _ l0_0 _ _ l1_0 t169 _ ?side1 ?side2 ?side3 ?side4 A19.out).mono ?_); (case side1 => repeat (first | exact (Kd.C_below HR0_0.out HB.out) | (with_reducible refine Kd.C_alloc ?_ _) | (with_reducible refine Kd.C_drewN ?_ _) | (with_reducible refine Kd.C_drew ?_))); (case side2 => exact HC0_0.out); (case side3 => repeat (first | exact (Kd.C_below HR1_0.out HB.out) | (with_reducible refine Kd.C_alloc ?_ _) | (with_reducible refine Kd.C_drewN ?_ _) | (with_reducible refine Kd.C_drew ?_))); (case side4 => exact HC1_0.out); rintro e w' ⟨rfl, ⟨nd, rfl⟩⟩; (try first | exact ⟨rfl, _, World.drewN_drewN _ _ _⟩ | exact ⟨rfl, _, Eq.trans (World.drewN_drewN _ _ _) (congrArg (World.drewN _) (Nat.add_assoc _ _ _))⟩)))
     repeat (go_quiet (first | (go_at_call 15; (with_reducible refine (cobwebref11_Texts.calls k1 _ _ l0_0 _ _ l1_0 t169 _ ?side1 ?side2 ?side3 ?side4 A19.out).mono ?_); (case side1 => repeat (first | exact (Kd.C_below HR0_0.out HB.out) | (with_reducible refine Kd.C_alloc ?_ _) | (with_reducible refine Kd.C_drewN ?_ _) | (with_reducible refine Kd.C_drew ?_))); (case side2 => exact HC0_0.out); (case side3 => repeat (first | exact (Kd.C_below HR1_0.out HB.out) | (with_reducible refine Kd.C_alloc ?_ _) | (with_reducible refine Kd.C_drewN ?_ _) | (with_reducible refine Kd.C_drew ?_))); (case side4 => exact HC1_0.out); rintro e w' ⟨rfl, ⟨nd, rfl⟩⟩; (try first | exact ⟨rfl, _, World.drewN_drewN _ _ _⟩ | exact ⟨rfl, _, Eq.trans (World.drewN_drewN _ _ _) (congrArg (World.drewN _) (Nat.add_assoc _ _ _))⟩))); try go_wp2_with (first | (go_at_call 15; (with_reducible refine (cobwebref11_Texts.calls k1 _ _ l0_0 _ _ l1_0 t169 _ ?side1 ?side2 ?side3 ?side4 A19.out).mono ?_); (case side1 => repeat (first | exact (Kd.C_below HR0_0.out HB.out) | (with_reducible refine Kd.C_alloc ?_ _) | (with_reducible refine Kd.C_drewN ?_ _) | (with_reducible refine Kd.C_drew ?_))); (case side2 => exact HC0_0.out); (case side3 => repeat (first | exact (Kd.C_below HR1_0.out HB.out) | (with_reducible refine Kd.C_alloc ?_ _) | (with_reducible refine Kd.C_drewN ?_ _) | (with_reducible refine Kd.C_drew ?_))); (case side4 => exact HC1_0.out); rintro e w' ⟨rfl, ⟨nd, rfl⟩⟩; (try first | exact ⟨rfl, _, World.drewN_drewN _ _ _⟩ | exact ⟨rfl, _, Eq.trans (World.drewN_drewN _ _ _) (congrArg (World.drewN _) (Nat.add_assoc _ _ _))⟩))))
     go_ret
     exact ⟨by first | rfl | (simp [errW_none, errW_some] <;> rfl) | (simp [*, errW_none, errW_some] <;> rfl), by repeat (first | (with_reducible first | exact HB.out | apply below_alloc | apply pw_below_drewN | apply below_drew1 | refine below_set ?_ GE165.out | refine below_set ?_ GE166.out) | exact HB.out)⟩
 ·rw [if_neg c3] at H
  have c3b0 : ((l0_1.length : Int) == (l1_1.length : Int)) = false := beq_eq_false_iff_ne.mpr c3
  have c3b1 : ((l0_1.length : Int) != (l1_1.length : Int)) = true := bne_iff_ne.mpr c3
  have c3b2 : (l0_1.length == l1_1.length) = false := by first | simpa using c3 | (simp at c3 ⊢; omega)
  obtain rfl := Option.some.inj H
  go_enter Try.func21, Try.ntmps21
  go_wp2_with (first | ((with_reducible refine gate_dst (N := 2) rfl ?_); refine box_event ?hg (N := 2) ?hd (cs := #[.slice A0_0 l0_0.length c0_0, .slice A0_1 l0_1.length c0_1]) (t := 26) ?hr ?_; (case hd => rfl); (case hg => rfl); (case hr => first | (go_simp; done) | (go_simp; rfl)); intro gb165 hg w23 hbox hb; have n0_ := Aside0.mk (below_step (by repeat (first | (with_reducible first | exact HB.out | apply below_alloc | apply pw_below_drewN | apply below_drew1) | exact HB.out)) hb); have n1_ := Aside0.mk (hbox); have n2_ := Aside0.mk ((by rw [hg]; exact (below_size (by repeat (first | (with_reducible first | exact HB.out | apply below_alloc | apply pw_below_drewN | apply below_drew1) | exact HB.out))) : w.heap.size ≤ gb165)); have n3_ := Aside0.mk ((by rw [hg]; exact (below_size (by repeat (first | (with_reducible first | exact HB.out | apply below_alloc | apply pw_below_drewN | apply below_drew1) | exact HB.out))) : w.heap.size ≤ gb165)); clear HB; have HB := n0_; have BK165 := n1_; have GW165 := n2_; have GE165 := n3_; clear n0_ n1_ n2_ n3_; clear hb hbox hg) | ((with_reducible refine gate_dst (N := 3) rfl ?_); refine box_event ?hg (N := 3) ?hd (cs := #[.slice A1_0 l1_0.length c1_0, .slice A1_1 l1_1.length c1_1]) (t := 26) ?hr ?_; (case hd => rfl); (case hg => rfl); (case hr => first | (go_simp; done) | (go_simp; rfl)); intro gb166 hg w24 hbox hb; have n0_ := Aside0.mk (blk_below (g := gb165) (o := .cells #[.slice A0_0 l0_0.length c0_0, .slice A0_1 l0_1.length c0_1] 26 (0, 0)) (by (with_reducible repeat (first | refine blk_drewN ?_ _ | refine blk_drew ?_ | refine blk_alloc ?_ _)); exact BK165.out) hb); have n1_ := Aside0.mk (below_step (by repeat (first | (with_reducible first | exact HB.out | apply below_alloc | apply pw_below_drewN | apply below_drew1 | refine below_set ?_ GE165.out) | exact HB.out)) hb); have n2_ := Aside0.mk (hbox); have n3_ := Aside0.mk ((by rw [hg]; exact (below_size (by repeat (first | (with_reducible first | exact HB.out | apply below_alloc | apply pw_below_drewN | apply below_drew1 | refine below_set ?_ GE165.out) | exact HB.out))) : w.heap.size ≤ gb166)); have n4_ := Aside0.mk ((by rw [hg]; exact (below_size (by repeat (first | (with_reducible first | exact HB.out | apply below_alloc | apply pw_below_drewN | apply below_drew1 | refine below_set ?_ GE165.out) | exact HB.out))) : w.heap.size ≤ gb166)); have n5_ := Aside0.mk ((by rw [hg]; exact Nat.ne_of_lt (blk_lt (g := gb165) (o := .cells #[.slice A0_0 l0_0.length c0_0, .slice A0_1 l0_1.length c0_1] 26 (0, 0)) (by (with_reducible repeat (first | refine blk_drewN ?_ _ | refine blk_drew ?_ | refine blk_alloc ?_ _)); exact BK165.out)) : gb165 ≠ gb166)); have n6_ := Aside0.mk ((by rw [hg]; exact Nat.ne_of_gt (blk_lt (g := gb165) (o := .cells #[.slice A0_0 l0_0.length c0_0, .slice A0_1 l0_1.length c0_1] 26 (0, 0)) (by (with_reducible repeat (first | refine blk_drewN ?_ _ | refine blk_drew ?_ | refine blk_alloc ?_ _)); exact BK165.out)) : gb166 ≠ gb165)); clear BK165; clear HB; have BK165 := n0_; have HB := n1_; have BK166 := n2_; have GW166 := n3_; have GE166 := n4_; have NB165_166 := n5_; have NB166_165 := n6_; clear n0_ n1_ n2_ n3_ n4_ n5_ n6_; clear hb hbox hg; have hnb25 := NB165_166.out; have hnc25 := NB166_165.out; have hcz26_0 : w24.cell? ⟨gb165, 0, none⟩ = some (.slice A0_0 l0_0.length c0_0) := (blk_cell BK165.out 0).trans rfl; have hcz26_1 : w24.cell? ⟨gb165, 1, none⟩ = some (.slice A0_1 l0_1.length c0_1) := (blk_cell BK165.out 1).trans rfl; have hfz26_0 := blk_frozen BK165.out 0; have hfz26_1 := blk_frozen BK165.out 1; have hcz27_0 : w24.cell? ⟨gb166, 0, none⟩ = some (.slice A1_0 l1_0.length c1_0) := (blk_cell BK166.out 0).trans rfl; have hcz27_1 : w24.cell? ⟨gb166, 1, none⟩ = some (.slice A1_1 l1_1.length c1_1) := (blk_cell BK166.out 1).trans rfl; have hfz27_0 := blk_frozen BK166.out 0; have hfz27_1 := blk_frozen BK166.out 1))
  repeat (go_quiet (first | ((with_reducible refine gate_dst (N := 2) rfl ?_); refine box_event ?hg (N := 2) ?hd (cs := #[.slice A0_0 l0_0.length c0_0, .slice A0_1 l0_1.length c0_1]) (t := 26) ?hr ?_; (case hd => rfl); (case hg => rfl); (case hr => first | (go_simp; done) | (go_simp; rfl)); intro gb165 hg w23 hbox hb; have n0_ := Aside0.mk (below_step (by repeat (first | (with_reducible first | exact HB.out | apply below_alloc | apply pw_below_drewN | apply below_drew1) | exact HB.out)) hb); have n1_ := Aside0.mk (hbox); have n2_ := Aside0.mk ((by rw [hg]; exact (below_size (by repeat (first | (with_reducible first | exact HB.out | apply below_alloc | apply pw_below_drewN | apply below_drew1) | exact HB.out))) : w.heap.size ≤ gb165)); have n3_ := Aside0.mk ((by rw [hg]; exact (below_size (by repeat (first | (with_reducible first | exact HB.out | apply below_alloc | apply pw_below_drewN | apply below_drew1) | exact HB.out))) : w.heap.size ≤ gb165)); clear HB; have HB := n0_; have BK165 := n1_; have GW165 := n2_; have GE165 := n3_; clear n0_ n1_ n2_ n3_; clear hb hbox hg) | ((with_reducible refine gate_dst (N := 3) rfl ?_); refine box_event ?hg (N := 3) ?hd (cs := #[.slice A1_0 l1_0.length c1_0, .slice A1_1 l1_1.length c1_1]) (t := 26) ?hr ?_; (case hd => rfl); (case hg => rfl); (case hr => first | (go_simp; done) | (go_simp; rfl)); intro gb166 hg w24 hbox hb; have n0_ := Aside0.mk (blk_below (g := gb165) (o := .cells #[.slice A0_0 l0_0.length c0_0, .slice A0_1 l0_1.length c0_1] 26 (0, 0)) (by (with_reducible repeat (first | refine blk_drewN ?_ _ | refine blk_drew ?_ | refine blk_alloc ?_ _)); exact BK165.out) hb); have n1_ := Aside0.mk (below_step (by repeat (first | (with_reducible first | exact HB.out | apply below_alloc | apply pw_below_drewN | apply below_drew1 | refine below_set ?_ GE165.out) | exact HB.out)) hb); have n2_ := Aside0.mk (hbox); have n3_ := Aside0.mk ((by rw [hg]; exact (below_size (by repeat (first | (with_reducible first | exact HB.out | apply below_alloc | apply pw_below_drewN | apply below_drew1 | refine below_set ?_ GE165.out) | exact HB.out))) : w.heap.size ≤ gb166)); have n4_ := Aside0.mk ((by rw [hg]; exact (below_size (by repeat (first | (with_reducible first | exact HB.out | apply below_alloc | apply pw_below_drewN | apply below_drew1 | refine below_set ?_ GE165.out) | exact HB.out))) : w.heap.size ≤ gb166)); have n5_ := Aside0.mk ((by rw [hg]; exact Nat.ne_of_lt (blk_lt (g := gb165) (o := .cells #[.slice A0_0 l0_0.length c0_0, .slice A0_1 l0_1.length c0_1] 26 (0, 0)) (by (with_reducible repeat (first | refine blk_drewN ?_ _ | refine blk_drew ?_ | refine blk_alloc ?_ _)); exact BK165.out)) : gb165 ≠ gb166)); have n6_ := Aside0.mk ((by rw [hg]; exact Nat.ne_of_gt (blk_lt (g := gb165) (o := .cells #[.slice A0_0 l0_0.length c0_0, .slice A0_1 l0_1.length c0_1] 26 (0, 0)) (by (with_reducible repeat (first | refine blk_drewN ?_ _ | refine blk_drew ?_ | refine blk_alloc ?_ _)); exact BK165.out)) : gb166 ≠ gb165)); clear BK165; clear HB; have BK165 := n0_; have HB := n1_; have BK166 := n2_; have GW166 := n3_; have GE166 := n4_; have NB165_166 := n5_; have NB166_165 := n6_; clear n0_ n1_ n2_ n3_ n4_ n5_ n6_; clear hb hbox hg; have hnb25 := NB165_166.out; have hnc25 := NB166_165.out; have hcz26_0 : w24.cell? ⟨gb165, 0, none⟩ = some (.slice A0_0 l0_0.length c0_0) := (blk_cell BK165.out 0).trans rfl; have hcz26_1 : w24.cell? ⟨gb165, 1, none⟩ = some (.slice A0_1 l0_1.length c0_1) := (blk_cell BK165.out 1).trans rfl; have hfz26_0 := blk_frozen BK165.out 0; have hfz26_1 := blk_frozen BK165.out 1; have hcz27_0 : w24.cell? ⟨gb166, 0, none⟩ = some (.slice A1_0 l1_0.length c1_0) := (blk_cell BK166.out 0).trans rfl; have hcz27_1 : w24.cell? ⟨gb166, 1, none⟩ = some (.slice A1_1 l1_1.length c1_1) := (blk_cell BK166.out 1).trans rfl; have hfz27_0 := blk_frozen BK166.out 0; have hfz27_1 := blk_frozen BK166.out 1)); try go_wp2_with (first | ((with_reducible refine gate_dst (N := 2) rfl ?_); refine box_event ?hg (N := 2) ?hd (cs := #[.slice A0_0 l0_0.length c0_0, .slice A0_1 l0_1.length c0_1]) (t := 26) ?hr ?_; (case hd => rfl); (case hg => rfl); (case hr => first | (go_simp; done) | (go_simp; rfl)); intro gb165 hg w23 hbox hb; have n0_ := Aside0.mk (below_step (by repeat (first | (with_reducible first | exact HB.out | apply below_alloc | apply pw_below_drewN | apply below_drew1) | exact HB.out)) hb); have n1_ := Aside0.mk (hbox); have n2_ := Aside0.mk ((by rw [hg]; exact (below_size (by repeat (first | (with_reducible first | exact HB.out | apply below_alloc | apply pw_below_drewN | apply below_drew1) | exact HB.out))) : w.heap.size ≤ gb165)); have n3_ := Aside0.mk ((by rw [hg]; exact (below_size (by repeat (first | (with_reducible first | exact HB.out | apply below_alloc | apply pw_below_drewN | apply below_drew1) | exact HB.out))) : w.heap.size ≤ gb165)); clear HB; have HB := n0_; have BK165 := n1_; have GW165 := n2_; have GE165 := n3_; clear n0_ n1_ n2_ n3_; clear hb hbox hg) | ((with_reducible refine gate_dst (N := 3) rfl ?_); refine box_event ?hg (N := 3) ?hd (cs := #[.slice A1_0 l1_0.length c1_0, .slice A1_1 l1_1.length c1_1]) (t := 26) ?hr ?_; (case hd => rfl); (case hg => rfl); (case hr => first | (go_simp; done) | (go_simp; rfl)); intro gb166 hg w24 hbox hb; have n0_ := Aside0.mk (blk_below (g := gb165) (o := .cells #[.slice A0_0 l0_0.length c0_0, .slice A0_1 l0_1.length c0_1] 26 (0, 0)) (by (with_reducible repeat (first | refine blk_drewN ?_ _ | refine blk_drew ?_ | refine blk_alloc ?_ _)); exact BK165.out) hb); have n1_ := Aside0.mk (below_step (by repeat (first | (with_reducible first | exact HB.out | apply below_alloc | apply pw_below_drewN | apply below_drew1 | refine below_set ?_ GE165.out) | exact HB.out)) hb); have n2_ := Aside0.mk (hbox); have n3_ := Aside0.mk ((by rw [hg]; exact (below_size (by repeat (first | (with_reducible first | exact HB.out | apply below_alloc | apply pw_below_drewN | apply below_drew1 | refine below_set ?_ GE165.out) | exact HB.out))) : w.heap.size ≤ gb166)); have n4_ := Aside0.mk ((by rw [hg]; exact (below_size (by repeat (first | (with_reducible first | exact HB.out | apply below_alloc | apply pw_below_drewN | apply below_drew1 | refine below_set ?_ GE165.out) | exact HB.out))) : w.heap.size ≤ gb166)); have n5_ := Aside0.mk ((by rw [hg]; exact Nat.ne_of_lt (blk_lt (g := gb165) (o := .cells #[.slice A0_0 l0_0.length c0_0, .slice A0_1 l0_1.length c0_1] 26 (0, 0)) (by (with_reducible repeat (first | refine blk_drewN ?_ _ | refine blk_drew ?_ | refine blk_alloc ?_ _)); exact BK165.out)) : gb165 ≠ gb166)); have n6_ := Aside0.mk ((by rw [hg]; exact Nat.ne_of_gt (blk_lt (g := gb165) (o := .cells #[.slice A0_0 l0_0.length c0_0, .slice A0_1 l0_1.length c0_1] 26 (0, 0)) (by (with_reducible repeat (first | refine blk_drewN ?_ _ | refine blk_drew ?_ | refine blk_alloc ?_ _)); exact BK165.out)) : gb166 ≠ gb165)); clear BK165; clear HB; have BK165 := n0_; have HB := n1_; have BK166 := n2_; have GW166 := n3_; have GE166 := n4_; have NB165_166 := n5_; have NB166_165 := n6_; clear n0_ n1_ n2_ n3_ n4_ n5_ n6_; clear hb hbox hg; have hnb25 := NB165_166.out; have hnc25 := NB166_165.out; have hcz26_0 : w24.cell? ⟨gb165, 0, none⟩ = some (.slice A0_0 l0_0.length c0_0) := (blk_cell BK165.out 0).trans rfl; have hcz26_1 : w24.cell? ⟨gb165, 1, none⟩ = some (.slice A0_1 l0_1.length c0_1) := (blk_cell BK165.out 1).trans rfl; have hfz26_0 := blk_frozen BK165.out 0; have hfz26_1 := blk_frozen BK165.out 1; have hcz27_0 : w24.cell? ⟨gb166, 0, none⟩ = some (.slice A1_0 l1_0.length c1_0) := (blk_cell BK166.out 0).trans rfl; have hcz27_1 : w24.cell? ⟨gb166, 1, none⟩ = some (.slice A1_1 l1_1.length c1_1) := (blk_cell BK166.out 1).trans rfl; have hfz27_0 := blk_frozen BK166.out 0; have hfz27_1 := blk_frozen BK166.out 1)))
  go_ret
  exact ⟨by first | rfl | (simp [errW_none, errW_some] <;> rfl) | (simp [*, errW_none, errW_some] <;> rfl), by repeat (first | (with_reducible first | exact HB.out | apply below_alloc | apply pw_below_drewN | apply below_drew1 | refine below_set ?_ GE165.out | refine below_set ?_ GE166.out) | exact HB.out)⟩
end Go.Proofs.Ytneagipmllgejaa.PL
end
