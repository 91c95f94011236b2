/- A part of the proof: lemmas that the row uses, laid together by a program of this session's (pack.py) out of its texts and of what the kit's printer wrote for this seat. -/
import Derived.Lib.Strings
import Derived.Deep.RegionWith
import Derived.Test.YtneagipmllgejaaKT0
import Derived.Test.YtneagipmllgejaaKT1
import Derived.Test.YtneagipmllgejaaKT2
import Derived.Test.YtneagipmllgejaaKT3
import Derived.Test.YtneagipmllgejaaKT4
import Derived.Test.YtneagipmllgejaaKT5
import Derived.Test.YtneagipmllgejaaKT6
section
set_option linter.unusedVariables false
set_option linter.unusedSimpArgs false
namespace Go.Proofs.Ytneagipmllgejaa.PL
open Go.RowKit Go.Proofs.YtneagipmllgejaaW.PrintWords Go.Proofs.YtneagipmllgejaaW.PrintLast
theorem text_eq {a b : ByteArray} (h : a.toList = b.toList) : a = b := by
  rw [Go.Lib.toList_data, Go.Lib.toList_data] at h
  cases a; cases b
  simp only [ByteArray.mk.injEq]
  exact Array.toList_inj.1 h
/-- How many of a list aren't above a text. -/
def cntLe (s : ByteArray) (l : List ByteArray) : Nat := l.countP (fun y => !lessB s y)
theorem cntLe_rise (s : ByteArray) : ∀ {l : List ByteArray}, riseB l = true → cntLe s l = atS s l
  | [], _ => rfl
  | y :: l, h => by
    have ih := cntLe_rise s (riseB_tail h)
    have hp := List.pairwise_cons.1 (riseB_pairwise.1 h)
    unfold cntLe at ih ⊢
    rw [List.countP_cons]
    by_cases h1 : lessB y s = true
    · have h2 := less_asymm h1
      rw [h2, ih]
      simp only [Bool.not_false, if_true]
      have e1 : loS s (y :: l) = loS s l + 1 := by simp [loS, h1]
      have e2 : fndS s (y :: l) = fndS s l := by unfold fndS; rw [e1]; rfl
      unfold atS
      rw [e1, e2]
      split <;> rfl
    · have h1' : lessB y s = false := by simpa using h1
      have e1 : loS s (y :: l) = 0 := by simp [loS, h1']
      by_cases h2 : lessB s y = true
      · have h3 : l.countP (fun y => !lessB s y) = 0 := by
          rw [List.countP_eq_zero]
          intro z hz
          have := less_trans h2 (hp.1 z hz)
          simp [this]
        rw [h3, h2]
        have e2 : fndS s (y :: l) = false := by
          unfold fndS
          rw [e1]
          show decide (y.toList = s.toList) = false
          apply decide_eq_false
          intro e
          have : lessB s y = false := by unfold lessB; rw [e]; exact bl_irrefl _
          rw [h2] at this; cases this
        unfold atS
        rw [e2, e1]
        rfl
      · have h2' : lessB s y = false := by simpa using h2
        have e : y.toList = s.toList := bl_tri h1' h2'
        have h3 : l.countP (fun y => !lessB s y) = 0 := by
          rw [List.countP_eq_zero]
          intro z hz
          have := hp.1 z hz
          have h4 : lessB s z = true := by unfold lessB at this ⊢; rw [← e]; exact this
          simp [h4]
        rw [h3, h2']
        have e2 : fndS s (y :: l) = true := by
          unfold fndS
          rw [e1]
          show decide (y.toList = s.toList) = true
          exact decide_eq_true e
        unfold atS
        rw [e2, e1]
        rfl
end Go.Proofs.Ytneagipmllgejaa.PL
end
section
namespace Go.Proofs.Ytneagipmllgejaa.PL
open Go.Shelf Go.RowKit Go.Proofs.YtneagipmllgejaaW.PrintWords Go.Proofs.YtneagipmllgejaaW.PrintLast Go.Proofs.YtneagipmllgejaaW.PrintMore Go.Proofs.YtneagipmllgejaaH
set_option linter.unusedVariables false
set_option linter.unusedSimpArgs false
theorem cell26a {W : World} {g : Nat} {u v : Value} (h : W.heap[g]? = some (.cells #[u, v] 26 (0, 0))) : W.cell? ⟨g, 0, none⟩ = some u := (blk_cell h 0).trans rfl
theorem cell26b {W : World} {g : Nat} {u v : Value} (h : W.heap[g]? = some (.cells #[u, v] 26 (0, 0))) : W.cell? ⟨g, 1, none⟩ = some v := (blk_cell h 1).trans rfl
theorem cell3 {W : World} {g : Nat} {u : Value} {t : TypeId} (h : W.heap[g]? = some (.cells #[u] t (0, 0))) : W.cell? ⟨g, 0, none⟩ = some u := (blk_cell h 0).trans rfl
theorem cell28 {W : World} {g : Nat} {u v x : Value} (h : W.heap[g]? = some (.cells #[u, v, x] 28 (0, 0))) : W.cell? ⟨g, 0, none⟩ = some u ∧ W.cell? ⟨g, 1, none⟩ = some v ∧ W.cell? ⟨g, 2, none⟩ = some x := ⟨(blk_cell h 0).trans rfl, (blk_cell h 1).trans rfl, (blk_cell h 2).trans rfl⟩
/-- The place of the first that meets p; -1: none does. -/
def idxFrom {α : Type} (p : α → Bool) (i : Int) : List α → Int
  | [] => -1
  | x :: r => if p x then i else idxFrom p (i + 1) r
theorem idxFrom_nonneg {α : Type} (p : α → Bool) : ∀ (l : List α) (i : Int), 0 ≤ i → decide (0 ≤ idxFrom p i l) = l.any p
  | [], i, h => by simp [idxFrom]
  | x :: r, i, h => by
    unfold idxFrom
    split
    · rename_i hp; simp [hp, h]
    · rename_i hp
      rw [idxFrom_nonneg p r (i + 1) (by omega)]
      simp [hp]
/-- What is asked of a predicate on texts. -/
def PredS (g : Nat) (lb : Array Value) (p : ByteArray → Bool) (w : World) : Prop :=
  ∀ (W : World) (x : ByteArray), Below w.heap.size w W → Calls Try.prog g (#[.string x] ++ lb) W fun e w' => e = .returned (.bool (p x)) ∧ Below W.heap.size W w'
set_option maxHeartbeats 1000000 in
set_option maxRecDepth 100000 in
theorem indexS (p : ByteArray → Bool) (g : Nat) (lb : Array Value) (eg : ∀ args w, (callFunc g args).run Try.prog w = .ok (.enter g args) w) (A0 : Option Addr) (c0 : Nat) (l0 : List ByteArray) (w : World) (hr0 : Kd.C Kd.string w A0 l0.length l0) (hp : PredS g lb p w) :
    Calls Try.prog 72 #[.slice A0 l0.length c0, .func (.func g) #[] lb] w fun e w' => e = .returned (.int .i64 (idxFrom p 0 l0)) ∧ Below w.heap.size w w' := by
  have HR0 := Aside0.mk hr0
  have hm := hr0.2.1
  have HP := Lib.hid hp
  clear hr0 hp
  obtain ⟨r, hr⟩ : ∃ r, r = idxFrom p 0 l0 := ⟨_, rfl⟩
  rw [← hr]
  have H0 := Aside0.mk hr
  clear hr
  go_enter Try.func72, Try.ntmps72
  go_wp2
  go_loopg [8] l0.length (fun d v8 w' => ∃ (i : Nat), v8 = .int .i64 i ∧ i ≤ l0.length ∧ Aside0 (d = l0.length - i) ∧ Aside0 (r = idxFrom p i (l0.drop i)) ∧ Aside0 (Below w.heap.size w w'))
  case atStart => exact ⟨0, rfl, Nat.zero_le _, ⟨rfl⟩, H0, ⟨Below.refl _ _⟩⟩
  case round =>
    obtain ⟨i, rfl, hi, HD, HA, HB⟩ := hrel
    by_cases hlt : i < l0.length
    · have hcons := Aside0.mk (drop_rs hlt)
      obtain ⟨ad, e1, hx0⟩ := Kd.at_string HR0.out (i : Int) (by omega) (by omega)
      subst e1
      replace hx0 := (HB.out.cell (World.block_lt_of_cell? w _ hx0)).trans hx0
      simp only [Int.toNat_natCast] at hx0
      generalize rdOf ByteArray.empty l0 (i : Int) = c at *
      have hcall := HP.out wr c HB.out
      have HC := Lib.hid hcall
      clear hcall
      cases hq : p c with
      | true =>
        have hri : r = i := by rw [HA.out, hcons.out]; simp [idxFrom, hq]
        have HQ := Lib.hid hq
        have HRI := Lib.hid hri
        clear hq hri
        go_wp2_with (go_at_fn g; refine HC.out.mono ?_; rintro e w' ⟨rfl, hb'⟩; rw [HQ.out])
        go_ret
        exact ⟨by rw [HRI.out]; rfl, below_then HB.out HB.out.size ‹_›⟩
      | false =>
        have HQ := Lib.hid hq
        have HRI := Aside0.mk (show r = idxFrom p (i + 1 : Nat) (l0.drop (i + 1)) by rw [HA.out, hcons.out]; simp [idxFrom, hq])
        clear hq
        go_wp2_with (go_at_fn g; refine HC.out.mono ?_; rintro e w' ⟨rfl, hb'⟩; rw [HQ.out]; have HB' := Aside0.mk (below_then HB.out HB.out.size hb'); clear hb')
        go_roundg (l0.length - (i + 1))
        case measure => have := HD.out; omega
        case rel => exact ⟨i + 1, by go_num, by omega, ⟨rfl⟩, HRI, HB'⟩
    · have hri : r = -1 := by rw [HA.out, List.drop_eq_nil_of_le (by omega)]; rfl
      have HRI := Lib.hid hri
      clear hri
      go_wp2
      go_ret
      exact ⟨by rw [HRI.out]; rfl, HB.out⟩
set_option maxHeartbeats 1000000 in
theorem containsS (p : ByteArray → Bool) (g : Nat) (lb : Array Value) (eg : ∀ args w, (callFunc g args).run Try.prog w = .ok (.enter g args) w) (A0 : Option Addr) (c0 : Nat) (l0 : List ByteArray) (w : World) (hr0 : Kd.C Kd.string w A0 l0.length l0) (hp : PredS g lb p w) :
    Calls Try.prog 55 #[.slice A0 l0.length c0, .func (.func g) #[] lb] w fun e w' => e = .returned (.bool (l0.any p)) ∧ Below w.heap.size w w' := by
  rw [← idxFrom_nonneg p l0 0 (by omega)]
  generalize hr : idxFrom p 0 l0 = r
  have HC := Lib.hid (indexS p g lb eg A0 c0 l0 w hr0 hp)
  rw [hr] at HC
  clear hr hr0 hp
  go_enter Try.func55, Try.ntmps55
  go_wp2_with (go_at_call 72; refine HC.out.mono ?_; rintro e w' ⟨rfl, hb'⟩)
  go_ret
  exact ⟨rfl, ‹_›⟩
set_option maxHeartbeats 1000000 in
set_option maxRecDepth 100000 in
theorem right1 (a : List ByteArray) (b : List Int) (A0 : Option Addr) (c0 : Nat) (A1 : Option Addr) (c1 : Nat) (i : Int) (g2 g5 : Nat) (x : ByteArray) (W : World) (ha : riseB a = true) (hl : a.length ≤ 100000)
    (hx2 : W.heap[g2]? = some (.cells #[.slice A0 a.length c0, .slice A1 b.length c1] 26 (0, 0))) (hx5 : W.heap[g5]? = some (.cells #[.int .i64 i] 3 (0, 0))) (h0 : Kd.C Kd.string W A0 a.length a) (hc0 : a.length ≤ c0) (h1 : Kd.C (Kd.int .i64) W A1 b.length b) (hc1 : b.length ≤ c1) :
    Calls Try.prog 53 #[.string x, .pointer (some ⟨g2, 0, none⟩), .pointer (some ⟨g5, 0, none⟩)] W fun e w' => e = .returned (.bool ((atS x a : Int) != i)) ∧ Below W.heap.size W w' := by
  have hu26 := Try.underlying26
  have HX2 := Lib.hid hx2
  have HX5 := Lib.hid hx5
  have H0 := Lib.hid h0
  have HC0 := Lib.hid hc0
  have H1 := Lib.hid h1
  have HC1 := Lib.hid hc1
  have HAT := Lib.hid (show leaf_at.f (a.length + 1) a b x = some (atS x a : Int) from at_spec a b x ha (by omega) (by omega))
  clear hx2 hx5 h0 hc0 h1 hc1 ha
  go_enter Try.func53, Try.ntmps53
  go_wp2
  have HBD := Lib.hid (below_drew1 (Below.refl W.heap.size W))
  have HZ2 := Lib.hid (show W.drew.heap[g2]? = some (.cells #[.slice A0 a.length c0, .slice A1 b.length c1] 26 (0, 0)) from HX2.out)
  have HZ5 := Lib.hid (show W.drew.heap[g5]? = some (.cells #[.int .i64 i] 3 (0, 0)) from HX5.out)
  go_region_held3 (fun w' => w'.cell? ⟨g2, 0, none⟩ = some (.slice A0 a.length c0) ∧ w'.cell? ⟨g2, 1, none⟩ = some (.slice A1 b.length c1) ∧ w'.cell? ⟨g5, 0, none⟩ = some (.int .i64 i)) (first | (with_reducible exact ⟨cell26a HZ2.out, cell26b HZ2.out, cell3 HZ5.out⟩) | (with_reducible exact ⟨cell26a HY2.out, cell26b HY2.out, cell3 HY5.out⟩)) (first | (go_at_call 38; refine (leaf_at.calls (a.length + 1) A0 c0 a A1 c1 b x (atS x a : Int) _ (Kd.C_below H0.out HBD.out) HC0.out (Kd.C_below H1.out HBD.out) HC1.out HAT.out).mono ?_; rintro e w1 ⟨rfl, hb⟩; have HB1 := Lib.hid (below_then HBD.out HBD.out.size hb); have HY2 := Lib.hid (blk_below HX2.out HB1.out); have HY5 := Lib.hid (blk_below HX5.out HB1.out); clear hb))
  all_goals (go_wp2; go_ret; exact ⟨rfl, HB1.out⟩)
/-- Leaf by leaf: is it one, with its number and its entries? -/
def goR (a : List ByteArray) (b : List Int) : Nat → List S28 → Bool
  | _, [] => true
  | i, x :: r => if leafB x.f1 x.f2 = true then (if x.f0 = rd b (i : Int) then (if (x.f1.any fun y => (atS y a : Int) != (i : Int)) = true then false else goR a b (i + 1) r) else false) else false
def rightB (a : List ByteArray) (b : List Int) (ls : List S28) : Bool := if rootB a b = true then (if ls.length = b.length then goR a b 0 ls else false) else false
def leaf_Right.f (a : List ByteArray) (b : List Int) (ls : List S28) : Option Bool :=
  if a.length ≤ 100000 ∧ b.length ≤ 100000 ∧ (∀ x ∈ ls, x.f1.length ≤ 100000) then some (rightB a b ls) else none
theorem drop_28 {l : List S28} {i : Nat} (h : i < l.length) : l.drop i = rd_T28 l (i : Int) :: l.drop (i + 1) := by
  rw [List.drop_eq_getElem_cons h]
  congr 1
  simp [rd_T28, List.getD_eq_getElem?_getD, List.getElem?_eq_getElem h]
theorem mem_28 {l : List S28} {i : Nat} (h : i < l.length) : rd_T28 l (i : Int) ∈ l := by simp [rd_T28, List.getD_eq_getElem?_getD, List.getElem?_eq_getElem h]
def rightT : Bool × List (List Nat × List Nat) := (true,
  [([], []), ([0], [0]), ([1], [1]), ([2, 1], [2]), ([3], [3]), ([4, 3], [3, 4]), ([3], [3]), ([6, 3], [3, 6]),
    ([3], [3]), ([7, 8, 3], [3, 7, 8]), ([9, 3], [3, 9]), ([5, 10, 3], [3, 5, 10]), ([3, 11], [3, 11]), ([12, 3], [12]),
    ([13], [13]), ([14, 13], [13, 14]), ([13], [13]), ([15, 16, 13, 13], [13, 15, 16]), ([13, 17], [13, 17])])
def rightBits : List Nat := [0, 1, 3, 7, 15, 31, 15, 79, 15, 463, 975, 2047, 4095, 8191, 16383, 32767, 16383, 131071, 262143]
theorem rightTab : rtab .any (opsOf Try.f24 7) = rightT := by kernel_rfl
theorem rightWaits : waitsOk rightT.2 rightBits = true := by kernel_rfl
set_option maxHeartbeats 4000000 in
set_option maxRecDepth 100000 in
theorem right_calls (A0 : Option Addr) (c0 : Nat) (a : List ByteArray) (A1 : Option Addr) (c1 : Nat) (b : List Int) (A2 : Option Addr) (c2 : Nat) (ls : List S28) (r : Bool) (w : World) (hr0 : Kd.C Kd.string w A0 a.length a) (hc0 : a.length ≤ c0) (hr1 : Kd.C (Kd.int .i64) w A1 b.length b) (hc1 : b.length ≤ c1) (hr2 : Kd.C k28 w A2 ls.length ls) (hc2 : ls.length ≤ c2) (hla : a.length ≤ 100000) (hlb : b.length ≤ 100000) (hll : ∀ x ∈ ls, x.f1.length ≤ 100000) (h : rightB a b ls = r) :
    Calls Try.prog 24 #[.agg #[.slice A0 a.length c0, .slice A1 b.length c1], .slice A2 ls.length c2] w fun e w' => e = .returned (.bool r) ∧ Below w.heap.size w w' := by
  have hu26 := Try.underlying26
  have hu28 := Try.underlying28
  have HR0 := Lib.hid hr0
  have HC0 := Lib.hid hc0
  have HR1 := Lib.hid hr1
  have HC1 := Lib.hid hc1
  have HR2 := Lib.hid hr2
  have HLL := Lib.hid hll
  have hm2 := hr2.2.1
  clear hr0 hc0 hr1 hc1 hr2 hc2 hll
  have ROOT : ∀ q, rootB a b = q → leaf_root.f a b = some q := fun q hq => by rw [root_spec a b (by omega) (by omega), hq]
  have eg53 := enters_of Try.func53 (by kernel_rfl) rfl
  cases hq : rootB a b with
  | false =>
    have HRO := Lib.hid (ROOT _ hq)
    have hr : r = false := by rw [← h]; unfold rightB; rw [hq]; rfl
    subst hr
    clear ROOT hq h
    go_enter Try.func24, Try.ntmps24
    go_wp2_with (go_at_call 41; refine (leaf_root.calls A0 c0 a A1 c1 b false _ (Kd.C_below HR0.out (below_alloc (Below.refl _ _) _)) HC0.out (Kd.C_below HR1.out (below_alloc (Below.refl _ _) _)) HC1.out HRO.out).mono ?_; rintro e w1 ⟨rfl, hb⟩; have HB1 := Lib.hid (below_then (below_alloc (Below.refl w.heap.size w) _) (by simp) hb); clear hb)
    go_ret
    exact ⟨rfl, HB1.out⟩
  | true =>
    have HRO := Lib.hid (ROOT _ hq)
    have HRT := Lib.hid (rootB_iff.1 hq)
    by_cases hlen : ls.length = b.length
    case neg =>
      have hr : r = false := by rw [← h]; unfold rightB; rw [hq, if_pos rfl, if_neg hlen]
      subst hr
      have hn1 : ((ls.length : Int) != (b.length : Int)) = true := bne_iff_ne.mpr (by omega)
      have hn2 : (ls.length != b.length) = true := bne_iff_ne.mpr hlen
      have hn3 : (ls.length == b.length) = false := beq_eq_false_iff_ne.mpr hlen
      clear ROOT hq h hlen
      go_enter Try.func24, Try.ntmps24
      go_wp2_with (go_at_call 41; refine (leaf_root.calls A0 c0 a A1 c1 b true _ (Kd.C_below HR0.out (below_alloc (Below.refl _ _) _)) HC0.out (Kd.C_below HR1.out (below_alloc (Below.refl _ _) _)) HC1.out HRO.out).mono ?_; rintro e w1 ⟨rfl, hb⟩; have HB1 := Lib.hid (below_then (below_alloc (Below.refl w.heap.size w) _) (by simp) hb); have HX2 := Lib.hid (blk_below (heap_alloc_new w (.cells #[.slice A0 a.length c0, .slice A1 b.length c1] 26)) hb); have q1 := cell26b HX2.out; clear hb)
      go_ret
      exact ⟨rfl, HB1.out⟩
    have hn1 : ((ls.length : Int) != (b.length : Int)) = false := bne_eq_false_iff_eq.mpr (by omega)
    have hn2 : (ls.length != b.length) = false := bne_eq_false_iff_eq.mpr hlen
    have hn3 : (ls.length == b.length) = true := beq_iff_eq.mpr hlen
    have hle1 : ls.length ≤ b.length := by omega
    have hle2 : b.length ≤ ls.length := by omega
    have H0 := Aside0.mk (show goR a b 0 ls = r by rw [← h]; unfold rightB; rw [hq, if_pos rfl, if_pos hlen])
    clear ROOT hq h hlen
    go_enter Try.func24, Try.ntmps24
    go_wp2_with (go_at_call 41; refine (leaf_root.calls A0 c0 a A1 c1 b true _ (Kd.C_below HR0.out (below_alloc (Below.refl _ _) _)) HC0.out (Kd.C_below HR1.out (below_alloc (Below.refl _ _) _)) HC1.out HRO.out).mono ?_; rintro e w1 ⟨rfl, hb⟩; have HB1 := Lib.hid (below_then (below_alloc (Below.refl w.heap.size w) _) (by simp) hb); have HX2 := Lib.hid (blk_below (heap_alloc_new w (.cells #[.slice A0 a.length c0, .slice A1 b.length c1] 26)) hb); have q1 := cell26b HX2.out; clear hb)
    clear hn1 hn2 hn3 q1
    go_loopg [21] ls.length (fun d v21 w' => ∃ (i : Nat), v21 = .int .i64 i ∧ i ≤ ls.length ∧ Aside0 (d = ls.length - i) ∧ Aside0 (goR a b i (ls.drop i) = r) ∧ Aside0 (w'.heap[w.heap.size]? = some (.cells #[.slice A0 a.length c0, .slice A1 b.length c1] 26 (0, 0))) ∧ Aside0 (Below w.heap.size w w'))
    case atStart => exact ⟨0, rfl, Nat.zero_le _, ⟨rfl⟩, H0, ⟨HX2.out⟩, ⟨HB1.out⟩⟩
    case round =>
      clear HX2 HB1
      obtain ⟨i, rfl, hi, HD, HA, HX2, HBW⟩ := hrel
      by_cases hlt : i < ls.length
      · have hib : i < b.length := by omega
        obtain ⟨ad, A3, c3, e1, hx0, hx1, hx2, hl3, hi3⟩ := at_T28 HR2.out (i : Int) (by omega) (by omega)
        subst e1
        obtain ⟨ad1, e1, hx4⟩ := Kd.at_int HR1.out (i : Int) (by omega) (by omega)
        subst e1
        have hmem := mem_28 hlt
        have hxl := HLL.out _ hmem
        have HA2 := HA.out
        rw [drop_28 hlt] at HA2
        simp only [Int.toNat_natCast] at hx0 hx1 hx2 hx4
        clear hmem HA
        generalize rd_T28 ls (i : Int) = x at *
        replace hx0 := (HBW.out.cell (World.block_lt_of_cell? w _ hx0)).trans hx0
        replace hx1 := (HBW.out.cell (World.block_lt_of_cell? w _ hx1)).trans hx1
        replace hx2 := (HBW.out.cell (World.block_lt_of_cell? w _ hx2)).trans hx2
        have HXL := Lib.hid hx4
        have HL3 := Lib.hid hl3
        have HI3 := Lib.hid hi3
        have HA := Lib.hid HA2
        clear hx4 hl3 hi3 HA2
        go_wp2_with (first | ((with_reducible refine gate_dst (N := 5) rfl ?_); refine alloc_event ?hg (N := 5) ?hd (fun g => .pointer (some ⟨g, 0, none⟩)) (.cells #[.int .i64 0] 3 (0, 0)) ?hr ?_; (case hd => rfl); (case hg => rfl); (case hr => first | (go_simp; done) | (go_simp; rfl)); intro g5 hg w1 hbox hb; have HG5 := Lib.hid (show w.heap.size < g5 by rw [hg]; exact blk_lt HX2.out); have HX5_1 := Lib.hid hbox; have HX2_1 := Lib.hid (blk_below HX2.out hb); have HB1 := Lib.hid (below_then HBW.out HBW.out.size hb); clear hg hbox hb hx0 hx1 hx2) | ((with_reducible refine gate_dst (N := 6) rfl ?_); refine alloc_event ?hg (N := 6) ?hd (fun g => .pointer (some ⟨g, 0, none⟩)) (.cells #[.int .i64 0, .slice none 0 0, .bool false] 28 (0, 0)) ?hr ?_; (case hd => rfl); (case hg => rfl); (case hr => first | (go_simp; done) | (go_simp; rfl)); intro g6 hg w2 hbox hb; have HN := Lib.hid (show g5 ≠ g6 by have := blk_lt HX5_1.out; omega); have HG6 := Lib.hid (show w.heap.size < g6 by have := blk_lt HX2_1.out; omega); have HX6_2 := Lib.hid hbox; have HX2_2 := Lib.hid (blk_below HX2_1.out hb); have HX5_2 := Lib.hid (blk_below HX5_1.out hb); have HB2 := Lib.hid (below_then HB1.out HB1.out.size hb); clear hg hbox hb) | ((with_reducible refine gate_store (t := 3) (p := 5) rfl ?_); refine store_cell rfl rfl rfl g5 0 _ 3 rfl (.int .i64 i) ?haA ?hbA HX5_2.out (by simp) (by kernel_rfl) rfl ?_; (case haA => rfl); (case hbA => first | rfl | simp [Value.cells]); intro w3 hbox hg hz; have HX5_3 := Lib.hid (show w3.heap[g5]? = some (.cells #[.int .i64 i] 3 (0, 0)) from hbox); have HX6_3 := Lib.hid (blk_grown HX6_2.out hg (fun e_ => HN.out (by injection e_ with e_; exact e_.symm))); have HX2_3 := Lib.hid (blk_grown HX2_2.out hg (fun e_ => by injection e_ with e_; have := HG5.out; omega)); have HB3 := Lib.hid (below_own HB2.out hg (Nat.le_of_lt HG5.out) HB2.out.size); clear hbox hg hz) | ((with_reducible refine gate_store (t := 28) (p := 6) rfl ?_); refine store_row rfl rfl rfl g6 _ 28 [.int .i64 x.f0, .slice A3 x.f1.length c3, .bool x.f2] rfl (.agg #[.int .i64 x.f0, .slice A3 x.f1.length c3, .bool x.f2]) ?haB ?hbB HX6_3.out rfl (by kernel_rfl) (one28 (.slice A3 x.f1.length c3) rfl x.f0 x.f2) ?_; (case haB => rfl); (case hbB => first | rfl | simp [Value.cells]); intro w4 hbox hg hz; have HX6_4 := Lib.hid (show w4.heap[g6]? = some (.cells #[.int .i64 x.f0, .slice A3 x.f1.length c3, .bool x.f2] 28 (0, 0)) from hbox); have HX5_4 := Lib.hid (blk_grown HX5_3.out hg (fun e_ => HN.out (by injection e_))); have HX2_4 := Lib.hid (blk_grown HX2_3.out hg (fun e_ => by injection e_ with e_; have := HG6.out; omega)); have HB4 := Lib.hid (below_own HB3.out hg (Nat.le_of_lt HG6.out) HB3.out.size); clear hbox hg hz; refine Hold.go ?_))
        clear HX5_1 HX2_1 HB1 HX6_2 HX2_2 HX5_2 HB2 HX5_3 HX6_3 HX2_3 HB3 HX2 HBW
        have HBQ := Lib.hid (below_drew1 HB4.out)
        have HZ2 := Lib.hid (show w4.drew.heap[w.heap.size]? = some (.cells #[.slice A0 a.length c0, .slice (some ad1) b.length c1] 26 (0, 0)) from HX2_4.out)
        have HZ5 := Lib.hid (show w4.drew.heap[g5]? = some (.cells #[.int .i64 i] 3 (0, 0)) from HX5_4.out)
        have HZ6 := Lib.hid (show w4.drew.heap[g6]? = some (.cells #[.int .i64 x.f0, .slice A3 x.f1.length c3, .bool x.f2] 28 (0, 0)) from HX6_4.out)
        have HZL := Lib.hid (show w4.drew.cell? (ad1.add i) = some (.int .i64 (rd b i)) from (HB4.out.cell (World.block_lt_of_cell? w _ HXL.out)).trans HXL.out)
        clear HX2_4 HX5_4 HX6_4 HB4 HXL
        have HAX := Lib.hid HA.out
        clear HA
        have hb1 : (0 : Int) ≤ (i : Int) := by omega
        have hb2 : (i : Int) < (b.length : Int) := by omega
        refine Hold.of ?_
        cases hlf : leafB x.f1 x.f2 with
        | false =>
          have hr : r = false := by have := HAX.out; simp only [goR] at this; rw [if_neg (by rw [hlf]; decide)] at this; exact this.symm
          subst hr
          have HLF := Lib.hid hlf
          clear hlf HAX
          go_wp2
          refine start_ (n := 19) (S := fun w' => w'.cell? ⟨w.heap.size, 0, none⟩ = some (.slice A0 a.length c0) ∧ w'.cell? ⟨w.heap.size, 1, none⟩ = some (.slice (some ad1) b.length c1) ∧ w'.cell? ⟨g5, 0, none⟩ = some (.int .i64 i) ∧ (w'.cell? ⟨g6, 0, none⟩ = some (.int .i64 x.f0) ∧ w'.cell? ⟨g6, 1, none⟩ = some (.slice A3 x.f1.length c3) ∧ w'.cell? ⟨g6, 2, none⟩ = some (.bool x.f2)) ∧ w'.cell? (ad1.add i) = some (.int .i64 (rd b i))) (ds := []) #[false, false, false, false, false, false, false, false, false, false, false, false, false, false, false, false, false, false, false] (by kernel_rfl) rfl rfl ⟨cell26a HZ2.out, cell26b HZ2.out, cell3 HZ5.out, cell28 HZ6.out, HZL.out⟩ (fun hHeld => ?_); refine with_tabW rightTab rightWaits (fun HT_ HW_ => ?_)
          generalize w4.drew = w5 at HBQ HZ2 HZ5 HZ6 HZL hHeld ⊢
          refine take_ (i := 0) (N := some 27) (v := ?_) (a' := ?_) #[true, false, false, false, false, false, false, false, false, false, false, false, false, false, false, false, false, false, false] rfl rfl (take_ofW HT_.out HW_.out (by kernel_rfl)) (fun _ _ _ h => h) (Or.inl ⟨by rfl, ?_⟩) hHeld ?_ ?_
          rotate_left
          · rintro w' ⟨s0, s1, s2, ⟨s3, s4, s5⟩, s6⟩
            go_simp
            with_reducible rfl
          rotate_left
          · simp only [Act.put, List.setIfInBounds_toArray, List.set_cons_zero, List.set_cons_succ, i64_w, i32_w]
            rfl
          refine one_ (i := 1) (N := some 28) #[true, true, false, false, false, false, false, false, false, false, false, false, false, false, false, false, false, false, false] rfl rfl (one_of HT_.out (by kernel_rfl)) (by decide) (fun K hK => ?_)
          refine goes_ Try.func54 (by kernel_rfl) rfl #[.agg #[.int .i64 x.f0, .slice A3 x.f1.length c3, .bool x.f2]] (by rfl) rfl rfl (by (try simp only [List.map_toArray, List.map_cons, List.map_nil]); first | done | rfl | (simp only [List.length_drop, List.length_take]; rfl)) ?_
          with_reducible refine (leaf_leaf.calls (x.f1.length + 2) x.f0 A3 c3 x.f1 x.f2 false _ (Kd.C_below HI3.out HBQ.out) HL3.out (by rw [leaf_spec _ _ _ (by omega) (by omega), HLF.out])).mono ?_
          rintro e w6 ⟨rfl, hb⟩
          refine ⟨_, rfl, ?_⟩
          have HB4 := Lib.hid (below_then HBQ.out HBQ.out.size hb)
          have HY2 := Lib.hid (blk_below HZ2.out hb)
          have HY5 := Lib.hid (blk_below HZ5.out hb)
          have HY6 := Lib.hid (blk_below HZ6.out hb)
          have HYL := Lib.hid ((hb.cell (World.block_lt_of_cell? _ _ HZL.out)).trans HZL.out)
          clear hb HZ2 HZ5 HZ6 HZL HBQ
          refine hK.out _ _ ⟨cell26a HY2.out, cell26b HY2.out, cell3 HY5.out, cell28 HY6.out, HYL.out⟩ (fun hHeld => ?_)
          clear hK K
          refine norm_ (a' := ?_) ?_ ?_
          rotate_left
          · show Act.put _ (some 28) _ = _
            simp only [Act.put, List.setIfInBounds_toArray, List.set_cons_zero, List.set_cons_succ, i64_w, i32_w]
            rfl
          refine pure_ (i := 2) (N := some 29) (v := ?_) (a' := ?_) #[true, true, true, false, false, false, false, false, false, false, false, false, false, false, false, false, false, false, false] rfl rfl (any_of HT_.out (by kernel_rfl)) (fun _ _ _ h => h) (Or.inl ⟨by rfl, ?_⟩) ?_ ?_
          rotate_left
          · intro w'
            go_simp
            with_reducible rfl
          rotate_left
          · simp only [Act.put, List.setIfInBounds_toArray, List.set_cons_zero, List.set_cons_succ, i64_w, i32_w]
            rfl
          refine pure_ (i := 3) (N := some 30) (v := ?_) (a' := ?_) #[true, true, true, true, false, false, false, false, false, false, false, false, false, false, false, false, false, false, false] rfl rfl (any_of HT_.out (by kernel_rfl)) (fun _ _ _ h => h) (Or.inl ⟨by rfl, ?_⟩) ?_ ?_
          rotate_left
          · intro w'
            go_simp
            with_reducible rfl
          rotate_left
          · simp only [Act.put, List.setIfInBounds_toArray, List.set_cons_zero, List.set_cons_succ, i64_w, i32_w]
            rfl
          refine pure_ (i := 4) (N := some 31) (v := undef) (a' := ?_) #[true, true, true, true, true, false, false, false, false, false, false, false, false, false, false, false, false, false, false] rfl rfl (any_of HT_.out (by kernel_rfl)) (fun _ _ _ h => h) (Or.inr ⟨by rfl, rfl⟩) ?_ ?_
          rotate_left
          · simp only [Act.put, List.setIfInBounds_toArray, List.set_cons_zero, List.set_cons_succ, i64_w, i32_w]
            rfl
          refine pure_ (i := 5) (N := some 32) (v := undef) (a' := ?_) #[true, true, true, true, true, true, false, false, false, false, false, false, false, false, false, false, false, false, false] rfl rfl (any_of HT_.out (by kernel_rfl)) (fun _ _ _ h => h) (Or.inr ⟨by rfl, rfl⟩) ?_ ?_
          rotate_left
          · simp only [Act.put, List.setIfInBounds_toArray, List.set_cons_zero, List.set_cons_succ, i64_w, i32_w]
            rfl
          refine pure_ (i := 6) (N := some 33) (v := undef) (a' := ?_) #[true, true, true, true, true, true, true, false, false, false, false, false, false, false, false, false, false, false, false] rfl rfl (any_of HT_.out (by kernel_rfl)) (fun _ _ _ h => h) (Or.inr ⟨by rfl, rfl⟩) ?_ ?_
          rotate_left
          · simp only [Act.put, List.setIfInBounds_toArray, List.set_cons_zero, List.set_cons_succ, i64_w, i32_w]
            rfl
          refine pure_ (i := 7) (N := some 34) (v := undef) (a' := ?_) #[true, true, true, true, true, true, true, true, false, false, false, false, false, false, false, false, false, false, false] rfl rfl (any_of HT_.out (by kernel_rfl)) (fun _ _ _ h => h) (Or.inr ⟨by rfl, rfl⟩) ?_ ?_
          rotate_left
          · simp only [Act.put, List.setIfInBounds_toArray, List.set_cons_zero, List.set_cons_succ, i64_w, i32_w]
            rfl
          refine pure_ (i := 8) (N := some 35) (v := undef) (a' := ?_) #[true, true, true, true, true, true, true, true, true, false, false, false, false, false, false, false, false, false, false] rfl rfl (any_of HT_.out (by kernel_rfl)) (fun _ _ _ h => h) (Or.inr ⟨by rfl, rfl⟩) ?_ ?_
          rotate_left
          · simp only [Act.put, List.setIfInBounds_toArray, List.set_cons_zero, List.set_cons_succ, i64_w, i32_w]
            rfl
          refine pure_ (i := 9) (N := some 36) (v := undef) (a' := ?_) #[true, true, true, true, true, true, true, true, true, true, false, false, false, false, false, false, false, false, false] rfl rfl (any_of HT_.out (by kernel_rfl)) (fun _ _ _ h => h) (Or.inr ⟨by rfl, rfl⟩) ?_ ?_
          rotate_left
          · simp only [Act.put, List.setIfInBounds_toArray, List.set_cons_zero, List.set_cons_succ, i64_w, i32_w]
            rfl
          refine pure_ (i := 10) (N := some 37) (v := undef) (a' := ?_) #[true, true, true, true, true, true, true, true, true, true, true, false, false, false, false, false, false, false, false] rfl rfl (any_of HT_.out (by kernel_rfl)) (fun _ _ _ h => h) (Or.inr ⟨by rfl, rfl⟩) ?_ ?_
          rotate_left
          · simp only [Act.put, List.setIfInBounds_toArray, List.set_cons_zero, List.set_cons_succ, i64_w, i32_w]
            rfl
          refine pure_ (i := 11) (N := some 38) (v := undef) (a' := ?_) #[true, true, true, true, true, true, true, true, true, true, true, true, false, false, false, false, false, false, false] rfl rfl (any_of HT_.out (by kernel_rfl)) (fun _ _ _ h => h) (Or.inr ⟨by rfl, rfl⟩) ?_ ?_
          rotate_left
          · simp only [Act.put, List.setIfInBounds_toArray, List.set_cons_zero, List.set_cons_succ, i64_w, i32_w]
            rfl
          refine pure_ (i := 12) (N := some 39) (v := ?_) (a' := ?_) #[true, true, true, true, true, true, true, true, true, true, true, true, true, false, false, false, false, false, false] rfl rfl (any_of HT_.out (by kernel_rfl)) (fun _ _ _ h => h) (Or.inl ⟨by rfl, ?_⟩) ?_ ?_
          rotate_left
          · intro w'
            go_simp
            with_reducible rfl
          rotate_left
          · simp only [Act.put, List.setIfInBounds_toArray, List.set_cons_zero, List.set_cons_succ, i64_w, i32_w]
            rfl
          refine pure_ (i := 13) (N := some 40) (v := ?_) (a' := ?_) #[true, true, true, true, true, true, true, true, true, true, true, true, true, true, false, false, false, false, false] rfl rfl (any_of HT_.out (by kernel_rfl)) (fun _ _ _ h => h) (Or.inl ⟨by rfl, ?_⟩) ?_ ?_
          rotate_left
          · intro w'
            go_simp
            with_reducible rfl
          rotate_left
          · simp only [Act.put, List.setIfInBounds_toArray, List.set_cons_zero, List.set_cons_succ, i64_w, i32_w]
            rfl
          refine pure_ (i := 14) (N := some 41) (v := undef) (a' := ?_) #[true, true, true, true, true, true, true, true, true, true, true, true, true, true, true, false, false, false, false] rfl rfl (any_of HT_.out (by kernel_rfl)) (fun _ _ _ h => h) (Or.inr ⟨by rfl, rfl⟩) ?_ ?_
          rotate_left
          · simp only [Act.put, List.setIfInBounds_toArray, List.set_cons_zero, List.set_cons_succ, i64_w, i32_w]
            rfl
          refine pure_ (i := 15) (N := some 42) (v := undef) (a' := ?_) #[true, true, true, true, true, true, true, true, true, true, true, true, true, true, true, true, false, false, false] rfl rfl (any_of HT_.out (by kernel_rfl)) (fun _ _ _ h => h) (Or.inr ⟨by rfl, rfl⟩) ?_ ?_
          rotate_left
          · simp only [Act.put, List.setIfInBounds_toArray, List.set_cons_zero, List.set_cons_succ, i64_w, i32_w]
            rfl
          refine pure_ (i := 16) (N := some 43) (v := undef) (a' := ?_) #[true, true, true, true, true, true, true, true, true, true, true, true, true, true, true, true, true, false, false] rfl rfl (any_of HT_.out (by kernel_rfl)) (fun _ _ _ h => h) (Or.inr ⟨by rfl, rfl⟩) ?_ ?_
          rotate_left
          · simp only [Act.put, List.setIfInBounds_toArray, List.set_cons_zero, List.set_cons_succ, i64_w, i32_w]
            rfl
          refine pure_ (i := 17) (N := some 44) (v := undef) (a' := ?_) #[true, true, true, true, true, true, true, true, true, true, true, true, true, true, true, true, true, true, false] rfl rfl (any_of HT_.out (by kernel_rfl)) (fun _ _ _ h => h) (Or.inr ⟨by rfl, rfl⟩) ?_ ?_
          rotate_left
          · simp only [Act.put, List.setIfInBounds_toArray, List.set_cons_zero, List.set_cons_succ, i64_w, i32_w]
            rfl
          refine pure_ (i := 18) (N := some 45) (v := ?_) (a' := ?_) #[true, true, true, true, true, true, true, true, true, true, true, true, true, true, true, true, true, true, true] rfl rfl (any_of HT_.out (by kernel_rfl)) (fun _ _ _ h => h) (Or.inl ⟨by rfl, ?_⟩) ?_ ?_
          rotate_left
          · intro w'
            go_simp
            with_reducible rfl
          rotate_left
          · simp only [Act.put, List.setIfInBounds_toArray, List.set_cons_zero, List.set_cons_succ, i64_w, i32_w]
            rfl
          refine done_ (done_of HT_.out (by kernel_rfl)) ?_
          go_wp2
          go_ret
          exact ⟨rfl, HB4.out⟩
        | true =>
          have HLF := Lib.hid hlf
          by_cases hno : x.f0 = rd b (i : Int)
          case neg =>
            have hr : r = false := by have := HAX.out; simp only [goR] at this; rw [if_pos hlf, if_neg hno] at this; exact this.symm
            subst hr
            have hno1 : (x.f0 != rd b (i : Int)) = true := bne_iff_ne.mpr hno
            have hno2 : (x.f0 == rd b (i : Int)) = false := beq_eq_false_iff_ne.mpr hno
            clear hlf HAX hno
            go_wp2
            refine start_ (n := 19) (S := fun w' => w'.cell? ⟨w.heap.size, 0, none⟩ = some (.slice A0 a.length c0) ∧ w'.cell? ⟨w.heap.size, 1, none⟩ = some (.slice (some ad1) b.length c1) ∧ w'.cell? ⟨g5, 0, none⟩ = some (.int .i64 i) ∧ (w'.cell? ⟨g6, 0, none⟩ = some (.int .i64 x.f0) ∧ w'.cell? ⟨g6, 1, none⟩ = some (.slice A3 x.f1.length c3) ∧ w'.cell? ⟨g6, 2, none⟩ = some (.bool x.f2)) ∧ w'.cell? (ad1.add i) = some (.int .i64 (rd b i))) (ds := []) #[false, false, false, false, false, false, false, false, false, false, false, false, false, false, false, false, false, false, false] (by kernel_rfl) rfl rfl ⟨cell26a HZ2.out, cell26b HZ2.out, cell3 HZ5.out, cell28 HZ6.out, HZL.out⟩ (fun hHeld => ?_); refine with_tabW rightTab rightWaits (fun HT_ HW_ => ?_)
            generalize w4.drew = w5 at HBQ HZ2 HZ5 HZ6 HZL hHeld ⊢
            refine take_ (i := 0) (N := some 27) (v := ?_) (a' := ?_) #[true, false, false, false, false, false, false, false, false, false, false, false, false, false, false, false, false, false, false] rfl rfl (take_ofW HT_.out HW_.out (by kernel_rfl)) (fun _ _ _ h => h) (Or.inl ⟨by rfl, ?_⟩) hHeld ?_ ?_
            rotate_left
            · rintro w' ⟨s0, s1, s2, ⟨s3, s4, s5⟩, s6⟩
              go_simp
              with_reducible rfl
            rotate_left
            · simp only [Act.put, List.setIfInBounds_toArray, List.set_cons_zero, List.set_cons_succ, i64_w, i32_w]
              rfl
            refine one_ (i := 1) (N := some 28) #[true, true, false, false, false, false, false, false, false, false, false, false, false, false, false, false, false, false, false] rfl rfl (one_of HT_.out (by kernel_rfl)) (by decide) (fun K hK => ?_)
            refine goes_ Try.func54 (by kernel_rfl) rfl #[.agg #[.int .i64 x.f0, .slice A3 x.f1.length c3, .bool x.f2]] (by rfl) rfl rfl (by (try simp only [List.map_toArray, List.map_cons, List.map_nil]); first | done | rfl | (simp only [List.length_drop, List.length_take]; rfl)) ?_
            with_reducible refine (leaf_leaf.calls (x.f1.length + 2) x.f0 A3 c3 x.f1 x.f2 true _ (Kd.C_below HI3.out HBQ.out) HL3.out (by rw [leaf_spec _ _ _ (by omega) (by omega), HLF.out])).mono ?_
            rintro e w6 ⟨rfl, hb⟩
            refine ⟨_, rfl, ?_⟩
            have HB4 := Lib.hid (below_then HBQ.out HBQ.out.size hb)
            have HY2 := Lib.hid (blk_below HZ2.out hb)
            have HY5 := Lib.hid (blk_below HZ5.out hb)
            have HY6 := Lib.hid (blk_below HZ6.out hb)
            have HYL := Lib.hid ((hb.cell (World.block_lt_of_cell? _ _ HZL.out)).trans HZL.out)
            clear hb HZ2 HZ5 HZ6 HZL HBQ
            refine hK.out _ _ ⟨cell26a HY2.out, cell26b HY2.out, cell3 HY5.out, cell28 HY6.out, HYL.out⟩ (fun hHeld => ?_)
            clear hK K
            refine norm_ (a' := ?_) ?_ ?_
            rotate_left
            · show Act.put _ (some 28) _ = _
              simp only [Act.put, List.setIfInBounds_toArray, List.set_cons_zero, List.set_cons_succ, i64_w, i32_w]
              rfl
            refine pure_ (i := 2) (N := some 29) (v := ?_) (a' := ?_) #[true, true, true, false, false, false, false, false, false, false, false, false, false, false, false, false, false, false, false] rfl rfl (any_of HT_.out (by kernel_rfl)) (fun _ _ _ h => h) (Or.inl ⟨by rfl, ?_⟩) ?_ ?_
            rotate_left
            · intro w'
              go_simp
              with_reducible rfl
            rotate_left
            · simp only [Act.put, List.setIfInBounds_toArray, List.set_cons_zero, List.set_cons_succ, i64_w, i32_w]
              rfl
            refine pure_ (i := 3) (N := some 30) (v := ?_) (a' := ?_) #[true, true, true, true, false, false, false, false, false, false, false, false, false, false, false, false, false, false, false] rfl rfl (any_of HT_.out (by kernel_rfl)) (fun _ _ _ h => h) (Or.inl ⟨by rfl, ?_⟩) ?_ ?_
            rotate_left
            · intro w'
              go_simp
              with_reducible rfl
            rotate_left
            · simp only [Act.put, List.setIfInBounds_toArray, List.set_cons_zero, List.set_cons_succ, i64_w, i32_w]
              rfl
            refine pure_ (i := 4) (N := some 31) (v := ?_) (a' := ?_) #[true, true, true, true, true, false, false, false, false, false, false, false, false, false, false, false, false, false, false] rfl rfl (any_of HT_.out (by kernel_rfl)) (fun _ _ _ h => h) (Or.inl ⟨by rfl, ?_⟩) ?_ ?_
            rotate_left
            · intro w'
              go_simp
              with_reducible rfl
            rotate_left
            · simp only [Act.put, List.setIfInBounds_toArray, List.set_cons_zero, List.set_cons_succ, i64_w, i32_w]
              rfl
            refine pure_ (i := 6) (N := some 33) (v := ?_) (a' := ?_) #[true, true, true, true, true, false, true, false, false, false, false, false, false, false, false, false, false, false, false] rfl rfl (any_of HT_.out (by kernel_rfl)) (fun _ _ _ h => h) (Or.inl ⟨by rfl, ?_⟩) ?_ ?_
            rotate_left
            · intro w'
              go_simp
              with_reducible rfl
            rotate_left
            · simp only [Act.put, List.setIfInBounds_toArray, List.set_cons_zero, List.set_cons_succ, i64_w, i32_w]
              rfl
            refine take_ (i := 5) (N := some 32) (v := ?_) (a' := ?_) #[true, true, true, true, true, true, true, false, false, false, false, false, false, false, false, false, false, false, false] rfl rfl (take_ofW HT_.out HW_.out (by kernel_rfl)) (fun _ _ _ h => h) (Or.inl ⟨by rfl, ?_⟩) hHeld ?_ ?_
            rotate_left
            · rintro w' ⟨s0, s1, s2, ⟨s3, s4, s5⟩, s6⟩
              go_simp
              with_reducible rfl
            rotate_left
            · simp only [Act.put, List.setIfInBounds_toArray, List.set_cons_zero, List.set_cons_succ, i64_w, i32_w]
              rfl
            refine take_ (i := 7) (N := some 34) (v := ?_) (a' := ?_) #[true, true, true, true, true, true, true, true, false, false, false, false, false, false, false, false, false, false, false] rfl rfl (take_ofW HT_.out HW_.out (by kernel_rfl)) (fun _ _ _ h => h) (Or.inl ⟨by rfl, ?_⟩) hHeld ?_ ?_
            rotate_left
            · rintro w' ⟨s0, s1, s2, ⟨s3, s4, s5⟩, s6⟩
              go_simp
              with_reducible rfl
            rotate_left
            · simp only [Act.put, List.setIfInBounds_toArray, List.set_cons_zero, List.set_cons_succ, i64_w, i32_w]
              rfl
            refine take_ (i := 8) (N := some 35) (v := ?_) (a' := ?_) #[true, true, true, true, true, true, true, true, true, false, false, false, false, false, false, false, false, false, false] rfl rfl (take_ofW HT_.out HW_.out (by kernel_rfl)) (fun _ _ _ h => h) (Or.inl ⟨by rfl, ?_⟩) hHeld ?_ ?_
            rotate_left
            · rintro w' ⟨s0, s1, s2, ⟨s3, s4, s5⟩, s6⟩
              go_simp
              with_reducible rfl
            rotate_left
            · simp only [Act.put, List.setIfInBounds_toArray, List.set_cons_zero, List.set_cons_succ, i64_w, i32_w]
              rfl
            refine pure_ (i := 9) (N := some 36) (v := ?_) (a' := ?_) #[true, true, true, true, true, true, true, true, true, true, false, false, false, false, false, false, false, false, false] rfl rfl (any_of HT_.out (by kernel_rfl)) (fun _ _ _ h => h) (Or.inl ⟨by rfl, ?_⟩) ?_ ?_
            rotate_left
            · intro w'
              go_simp
              with_reducible rfl
            rotate_left
            · simp only [Act.put, List.setIfInBounds_toArray, List.set_cons_zero, List.set_cons_succ, i64_w, i32_w]
              rfl
            refine take_ (i := 10) (N := some 37) (v := ?_) (a' := ?_) #[true, true, true, true, true, true, true, true, true, true, true, false, false, false, false, false, false, false, false] rfl rfl (take_ofW HT_.out HW_.out (by kernel_rfl)) (fun _ _ _ h => h) (Or.inl ⟨by rfl, ?_⟩) hHeld ?_ ?_
            rotate_left
            · rintro w' ⟨s0, s1, s2, ⟨s3, s4, s5⟩, s6⟩
              go_simp
              with_reducible rfl
            rotate_left
            · simp only [Act.put, List.setIfInBounds_toArray, List.set_cons_zero, List.set_cons_succ, i64_w, i32_w]
              rfl
            refine pure_ (i := 11) (N := some 38) (v := ?_) (a' := ?_) #[true, true, true, true, true, true, true, true, true, true, true, true, false, false, false, false, false, false, false] rfl rfl (any_of HT_.out (by kernel_rfl)) (fun _ _ _ h => h) (Or.inl ⟨by rfl, ?_⟩) ?_ ?_
            rotate_left
            · intro w'
              go_simp
              with_reducible rfl
            rotate_left
            · simp only [Act.put, List.setIfInBounds_toArray, List.set_cons_zero, List.set_cons_succ, i64_w, i32_w]
              rfl
            refine pure_ (i := 12) (N := some 39) (v := ?_) (a' := ?_) #[true, true, true, true, true, true, true, true, true, true, true, true, true, false, false, false, false, false, false] rfl rfl (any_of HT_.out (by kernel_rfl)) (fun _ _ _ h => h) (Or.inl ⟨by rfl, ?_⟩) ?_ ?_
            rotate_left
            · intro w'
              go_simp
              with_reducible rfl
            rotate_left
            · simp only [Act.put, List.setIfInBounds_toArray, List.set_cons_zero, List.set_cons_succ, i64_w, i32_w]
              rfl
            refine pure_ (i := 13) (N := some 40) (v := ?_) (a' := ?_) #[true, true, true, true, true, true, true, true, true, true, true, true, true, true, false, false, false, false, false] rfl rfl (any_of HT_.out (by kernel_rfl)) (fun _ _ _ h => h) (Or.inl ⟨by rfl, ?_⟩) ?_ ?_
            rotate_left
            · intro w'
              go_simp
              with_reducible rfl
            rotate_left
            · simp only [Act.put, List.setIfInBounds_toArray, List.set_cons_zero, List.set_cons_succ, i64_w, i32_w]
              rfl
            refine pure_ (i := 14) (N := some 41) (v := undef) (a' := ?_) #[true, true, true, true, true, true, true, true, true, true, true, true, true, true, true, false, false, false, false] rfl rfl (any_of HT_.out (by kernel_rfl)) (fun _ _ _ h => h) (Or.inr ⟨by rfl, rfl⟩) ?_ ?_
            rotate_left
            · simp only [Act.put, List.setIfInBounds_toArray, List.set_cons_zero, List.set_cons_succ, i64_w, i32_w]
              rfl
            refine pure_ (i := 15) (N := some 42) (v := undef) (a' := ?_) #[true, true, true, true, true, true, true, true, true, true, true, true, true, true, true, true, false, false, false] rfl rfl (any_of HT_.out (by kernel_rfl)) (fun _ _ _ h => h) (Or.inr ⟨by rfl, rfl⟩) ?_ ?_
            rotate_left
            · simp only [Act.put, List.setIfInBounds_toArray, List.set_cons_zero, List.set_cons_succ, i64_w, i32_w]
              rfl
            refine pure_ (i := 16) (N := some 43) (v := undef) (a' := ?_) #[true, true, true, true, true, true, true, true, true, true, true, true, true, true, true, true, true, false, false] rfl rfl (any_of HT_.out (by kernel_rfl)) (fun _ _ _ h => h) (Or.inr ⟨by rfl, rfl⟩) ?_ ?_
            rotate_left
            · simp only [Act.put, List.setIfInBounds_toArray, List.set_cons_zero, List.set_cons_succ, i64_w, i32_w]
              rfl
            refine pure_ (i := 17) (N := some 44) (v := undef) (a' := ?_) #[true, true, true, true, true, true, true, true, true, true, true, true, true, true, true, true, true, true, false] rfl rfl (any_of HT_.out (by kernel_rfl)) (fun _ _ _ h => h) (Or.inr ⟨by rfl, rfl⟩) ?_ ?_
            rotate_left
            · simp only [Act.put, List.setIfInBounds_toArray, List.set_cons_zero, List.set_cons_succ, i64_w, i32_w]
              rfl
            refine pure_ (i := 18) (N := some 45) (v := ?_) (a' := ?_) #[true, true, true, true, true, true, true, true, true, true, true, true, true, true, true, true, true, true, true] rfl rfl (any_of HT_.out (by kernel_rfl)) (fun _ _ _ h => h) (Or.inl ⟨by rfl, ?_⟩) ?_ ?_
            rotate_left
            · intro w'
              go_simp
              with_reducible rfl
            rotate_left
            · simp only [Act.put, List.setIfInBounds_toArray, List.set_cons_zero, List.set_cons_succ, i64_w, i32_w]
              rfl
            refine done_ (done_of HT_.out (by kernel_rfl)) ?_
            go_wp2
            go_ret
            exact ⟨rfl, HB4.out⟩
          case pos =>
            have hno1 : (x.f0 != rd b (i : Int)) = false := bne_eq_false_iff_eq.mpr hno
            have hno2 : (x.f0 == rd b (i : Int)) = true := beq_iff_eq.mpr hno
            cases hk : x.f1.any fun y => (atS y a : Int) != (i : Int) with
            | true =>
              have hr : r = false := by have := HAX.out; simp only [goR] at this; rw [if_pos hlf, if_pos hno, if_pos hk] at this; exact this.symm
              subst hr
              have HK := Lib.hid hk
              clear hlf HAX hno hk
              go_wp2
              refine start_ (n := 19) (S := fun w' => w'.cell? ⟨w.heap.size, 0, none⟩ = some (.slice A0 a.length c0) ∧ w'.cell? ⟨w.heap.size, 1, none⟩ = some (.slice (some ad1) b.length c1) ∧ w'.cell? ⟨g5, 0, none⟩ = some (.int .i64 i) ∧ (w'.cell? ⟨g6, 0, none⟩ = some (.int .i64 x.f0) ∧ w'.cell? ⟨g6, 1, none⟩ = some (.slice A3 x.f1.length c3) ∧ w'.cell? ⟨g6, 2, none⟩ = some (.bool x.f2)) ∧ w'.cell? (ad1.add i) = some (.int .i64 (rd b i))) (ds := []) #[false, false, false, false, false, false, false, false, false, false, false, false, false, false, false, false, false, false, false] (by kernel_rfl) rfl rfl ⟨cell26a HZ2.out, cell26b HZ2.out, cell3 HZ5.out, cell28 HZ6.out, HZL.out⟩ (fun hHeld => ?_); refine with_tabW rightTab rightWaits (fun HT_ HW_ => ?_)
              generalize w4.drew = w5 at HBQ HZ2 HZ5 HZ6 HZL hHeld ⊢
              refine take_ (i := 0) (N := some 27) (v := ?_) (a' := ?_) #[true, false, false, false, false, false, false, false, false, false, false, false, false, false, false, false, false, false, false] rfl rfl (take_ofW HT_.out HW_.out (by kernel_rfl)) (fun _ _ _ h => h) (Or.inl ⟨by rfl, ?_⟩) hHeld ?_ ?_
              rotate_left
              · rintro w' ⟨s0, s1, s2, ⟨s3, s4, s5⟩, s6⟩
                go_simp
                with_reducible rfl
              rotate_left
              · simp only [Act.put, List.setIfInBounds_toArray, List.set_cons_zero, List.set_cons_succ, i64_w, i32_w]
                rfl
              refine one_ (i := 1) (N := some 28) #[true, true, false, false, false, false, false, false, false, false, false, false, false, false, false, false, false, false, false] rfl rfl (one_of HT_.out (by kernel_rfl)) (by decide) (fun K hK => ?_)
              refine goes_ Try.func54 (by kernel_rfl) rfl #[.agg #[.int .i64 x.f0, .slice A3 x.f1.length c3, .bool x.f2]] (by rfl) rfl rfl (by (try simp only [List.map_toArray, List.map_cons, List.map_nil]); first | done | rfl | (simp only [List.length_drop, List.length_take]; rfl)) ?_
              with_reducible refine (leaf_leaf.calls (x.f1.length + 2) x.f0 A3 c3 x.f1 x.f2 true _ (Kd.C_below HI3.out HBQ.out) HL3.out (by rw [leaf_spec _ _ _ (by omega) (by omega), HLF.out])).mono ?_
              rintro e w6 ⟨rfl, hb⟩
              refine ⟨_, rfl, ?_⟩
              have HB4 := Lib.hid (below_then HBQ.out HBQ.out.size hb)
              have HY2 := Lib.hid (blk_below HZ2.out hb)
              have HY5 := Lib.hid (blk_below HZ5.out hb)
              have HY6 := Lib.hid (blk_below HZ6.out hb)
              have HYL := Lib.hid ((hb.cell (World.block_lt_of_cell? _ _ HZL.out)).trans HZL.out)
              clear hb HZ2 HZ5 HZ6 HZL HBQ
              refine hK.out _ _ ⟨cell26a HY2.out, cell26b HY2.out, cell3 HY5.out, cell28 HY6.out, HYL.out⟩ (fun hHeld => ?_)
              clear hK K
              refine norm_ (a' := ?_) ?_ ?_
              rotate_left
              · show Act.put _ (some 28) _ = _
                simp only [Act.put, List.setIfInBounds_toArray, List.set_cons_zero, List.set_cons_succ, i64_w, i32_w]
                rfl
              refine pure_ (i := 2) (N := some 29) (v := ?_) (a' := ?_) #[true, true, true, false, false, false, false, false, false, false, false, false, false, false, false, false, false, false, false] rfl rfl (any_of HT_.out (by kernel_rfl)) (fun _ _ _ h => h) (Or.inl ⟨by rfl, ?_⟩) ?_ ?_
              rotate_left
              · intro w'
                go_simp
                with_reducible rfl
              rotate_left
              · simp only [Act.put, List.setIfInBounds_toArray, List.set_cons_zero, List.set_cons_succ, i64_w, i32_w]
                rfl
              refine pure_ (i := 3) (N := some 30) (v := ?_) (a' := ?_) #[true, true, true, true, false, false, false, false, false, false, false, false, false, false, false, false, false, false, false] rfl rfl (any_of HT_.out (by kernel_rfl)) (fun _ _ _ h => h) (Or.inl ⟨by rfl, ?_⟩) ?_ ?_
              rotate_left
              · intro w'
                go_simp
                with_reducible rfl
              rotate_left
              · simp only [Act.put, List.setIfInBounds_toArray, List.set_cons_zero, List.set_cons_succ, i64_w, i32_w]
                rfl
              refine pure_ (i := 4) (N := some 31) (v := ?_) (a' := ?_) #[true, true, true, true, true, false, false, false, false, false, false, false, false, false, false, false, false, false, false] rfl rfl (any_of HT_.out (by kernel_rfl)) (fun _ _ _ h => h) (Or.inl ⟨by rfl, ?_⟩) ?_ ?_
              rotate_left
              · intro w'
                go_simp
                with_reducible rfl
              rotate_left
              · simp only [Act.put, List.setIfInBounds_toArray, List.set_cons_zero, List.set_cons_succ, i64_w, i32_w]
                rfl
              refine pure_ (i := 6) (N := some 33) (v := ?_) (a' := ?_) #[true, true, true, true, true, false, true, false, false, false, false, false, false, false, false, false, false, false, false] rfl rfl (any_of HT_.out (by kernel_rfl)) (fun _ _ _ h => h) (Or.inl ⟨by rfl, ?_⟩) ?_ ?_
              rotate_left
              · intro w'
                go_simp
                with_reducible rfl
              rotate_left
              · simp only [Act.put, List.setIfInBounds_toArray, List.set_cons_zero, List.set_cons_succ, i64_w, i32_w]
                rfl
              refine take_ (i := 5) (N := some 32) (v := ?_) (a' := ?_) #[true, true, true, true, true, true, true, false, false, false, false, false, false, false, false, false, false, false, false] rfl rfl (take_ofW HT_.out HW_.out (by kernel_rfl)) (fun _ _ _ h => h) (Or.inl ⟨by rfl, ?_⟩) hHeld ?_ ?_
              rotate_left
              · rintro w' ⟨s0, s1, s2, ⟨s3, s4, s5⟩, s6⟩
                go_simp
                with_reducible rfl
              rotate_left
              · simp only [Act.put, List.setIfInBounds_toArray, List.set_cons_zero, List.set_cons_succ, i64_w, i32_w]
                rfl
              refine take_ (i := 7) (N := some 34) (v := ?_) (a' := ?_) #[true, true, true, true, true, true, true, true, false, false, false, false, false, false, false, false, false, false, false] rfl rfl (take_ofW HT_.out HW_.out (by kernel_rfl)) (fun _ _ _ h => h) (Or.inl ⟨by rfl, ?_⟩) hHeld ?_ ?_
              rotate_left
              · rintro w' ⟨s0, s1, s2, ⟨s3, s4, s5⟩, s6⟩
                go_simp
                with_reducible rfl
              rotate_left
              · simp only [Act.put, List.setIfInBounds_toArray, List.set_cons_zero, List.set_cons_succ, i64_w, i32_w]
                rfl
              refine take_ (i := 8) (N := some 35) (v := ?_) (a' := ?_) #[true, true, true, true, true, true, true, true, true, false, false, false, false, false, false, false, false, false, false] rfl rfl (take_ofW HT_.out HW_.out (by kernel_rfl)) (fun _ _ _ h => h) (Or.inl ⟨by rfl, ?_⟩) hHeld ?_ ?_
              rotate_left
              · rintro w' ⟨s0, s1, s2, ⟨s3, s4, s5⟩, s6⟩
                go_simp
                with_reducible rfl
              rotate_left
              · simp only [Act.put, List.setIfInBounds_toArray, List.set_cons_zero, List.set_cons_succ, i64_w, i32_w]
                rfl
              refine pure_ (i := 9) (N := some 36) (v := ?_) (a' := ?_) #[true, true, true, true, true, true, true, true, true, true, false, false, false, false, false, false, false, false, false] rfl rfl (any_of HT_.out (by kernel_rfl)) (fun _ _ _ h => h) (Or.inl ⟨by rfl, ?_⟩) ?_ ?_
              rotate_left
              · intro w'
                go_simp
                with_reducible rfl
              rotate_left
              · simp only [Act.put, List.setIfInBounds_toArray, List.set_cons_zero, List.set_cons_succ, i64_w, i32_w]
                rfl
              refine take_ (i := 10) (N := some 37) (v := ?_) (a' := ?_) #[true, true, true, true, true, true, true, true, true, true, true, false, false, false, false, false, false, false, false] rfl rfl (take_ofW HT_.out HW_.out (by kernel_rfl)) (fun _ _ _ h => h) (Or.inl ⟨by rfl, ?_⟩) hHeld ?_ ?_
              rotate_left
              · rintro w' ⟨s0, s1, s2, ⟨s3, s4, s5⟩, s6⟩
                go_simp
                with_reducible rfl
              rotate_left
              · simp only [Act.put, List.setIfInBounds_toArray, List.set_cons_zero, List.set_cons_succ, i64_w, i32_w]
                rfl
              refine pure_ (i := 11) (N := some 38) (v := ?_) (a' := ?_) #[true, true, true, true, true, true, true, true, true, true, true, true, false, false, false, false, false, false, false] rfl rfl (any_of HT_.out (by kernel_rfl)) (fun _ _ _ h => h) (Or.inl ⟨by rfl, ?_⟩) ?_ ?_
              rotate_left
              · intro w'
                go_simp
                with_reducible rfl
              rotate_left
              · simp only [Act.put, List.setIfInBounds_toArray, List.set_cons_zero, List.set_cons_succ, i64_w, i32_w]
                rfl
              refine pure_ (i := 12) (N := some 39) (v := ?_) (a' := ?_) #[true, true, true, true, true, true, true, true, true, true, true, true, true, false, false, false, false, false, false] rfl rfl (any_of HT_.out (by kernel_rfl)) (fun _ _ _ h => h) (Or.inl ⟨by rfl, ?_⟩) ?_ ?_
              rotate_left
              · intro w'
                go_simp
                with_reducible rfl
              rotate_left
              · simp only [Act.put, List.setIfInBounds_toArray, List.set_cons_zero, List.set_cons_succ, i64_w, i32_w]
                rfl
              refine pure_ (i := 13) (N := some 40) (v := ?_) (a' := ?_) #[true, true, true, true, true, true, true, true, true, true, true, true, true, true, false, false, false, false, false] rfl rfl (any_of HT_.out (by kernel_rfl)) (fun _ _ _ h => h) (Or.inl ⟨by rfl, ?_⟩) ?_ ?_
              rotate_left
              · intro w'
                go_simp
                with_reducible rfl
              rotate_left
              · simp only [Act.put, List.setIfInBounds_toArray, List.set_cons_zero, List.set_cons_succ, i64_w, i32_w]
                rfl
              refine pure_ (i := 14) (N := some 41) (v := ?_) (a' := ?_) #[true, true, true, true, true, true, true, true, true, true, true, true, true, true, true, false, false, false, false] rfl rfl (any_of HT_.out (by kernel_rfl)) (fun _ _ _ h => h) (Or.inl ⟨by rfl, ?_⟩) ?_ ?_
              rotate_left
              · intro w'
                go_simp
                with_reducible rfl
              rotate_left
              · simp only [Act.put, List.setIfInBounds_toArray, List.set_cons_zero, List.set_cons_succ, i64_w, i32_w]
                rfl
              refine pure_ (i := 16) (N := some 43) (v := ?_) (a' := ?_) #[true, true, true, true, true, true, true, true, true, true, true, true, true, true, true, false, true, false, false] rfl rfl (any_of HT_.out (by kernel_rfl)) (fun _ _ _ h => h) (Or.inl ⟨by rfl, ?_⟩) ?_ ?_
              rotate_left
              · intro w'
                go_simp
                with_reducible rfl
              rotate_left
              · simp only [Act.put, List.setIfInBounds_toArray, List.set_cons_zero, List.set_cons_succ, i64_w, i32_w]
                rfl
              refine take_ (i := 15) (N := some 42) (v := ?_) (a' := ?_) #[true, true, true, true, true, true, true, true, true, true, true, true, true, true, true, true, true, false, false] rfl rfl (take_ofW HT_.out HW_.out (by kernel_rfl)) (fun _ _ _ h => h) (Or.inl ⟨by rfl, ?_⟩) hHeld ?_ ?_
              rotate_left
              · rintro w' ⟨s0, s1, s2, ⟨s3, s4, s5⟩, s6⟩
                go_simp
                with_reducible rfl
              rotate_left
              · simp only [Act.put, List.setIfInBounds_toArray, List.set_cons_zero, List.set_cons_succ, i64_w, i32_w]
                rfl
              have HCC := containsS (fun y => (atS y a : Int) != (i : Int)) 53 #[.pointer (some ⟨w.heap.size, 0, none⟩), .pointer (some ⟨g5, 0, none⟩)] eg53 A3 c3 x.f1 w6 (Kd.C_below HI3.out HB4.out) (fun W y hb => right1 a b A0 c0 (some ad1) c1 i w.heap.size g5 y W HRT.out.2.2 hla (blk_below HY2.out hb) (blk_below HY5.out hb) (Kd.C_below HR0.out (below_then HB4.out HB4.out.size hb)) HC0.out (Kd.C_below HR1.out (below_then HB4.out HB4.out.size hb)) HC1.out)
              rw [HK.out] at HCC
              have HCD := Lib.hid HCC
              clear HCC
              refine one_ (i := 17) (N := some 44) #[true, true, true, true, true, true, true, true, true, true, true, true, true, true, true, true, true, true, false] rfl rfl (one_of HT_.out (by kernel_rfl)) (by decide) (fun K hK => ?_)
              refine goes_ Try.func55 (by kernel_rfl) rfl #[.slice A3 x.f1.length c3, .func (.func 53) #[] #[.pointer (some ⟨w.heap.size, 0, none⟩), .pointer (some ⟨g5, 0, none⟩)]] (by rfl) rfl rfl (by (try simp only [List.map_toArray, List.map_cons, List.map_nil]); first | done | rfl | (simp only [List.length_drop, List.length_take]; rfl)) ?_
              with_reducible refine (HCD.out).mono ?_
              rintro e w7 ⟨rfl, hb⟩
              refine ⟨_, rfl, ?_⟩
              have HB5 := Lib.hid (below_then HB4.out HB4.out.size hb)
              have HQ2 := Lib.hid (blk_below HY2.out hb)
              have HQ5 := Lib.hid (blk_below HY5.out hb)
              have HQ6 := Lib.hid (blk_below HY6.out hb)
              have HQL := Lib.hid ((hb.cell (World.block_lt_of_cell? _ _ HYL.out)).trans HYL.out)
              clear hb HCD
              refine hK.out _ _ ⟨cell26a HQ2.out, cell26b HQ2.out, cell3 HQ5.out, cell28 HQ6.out, HQL.out⟩ (fun hHeld => ?_)
              clear hK K
              refine norm_ (a' := ?_) ?_ ?_
              rotate_left
              · show Act.put _ (some 44) _ = _
                simp only [Act.put, List.setIfInBounds_toArray, List.set_cons_zero, List.set_cons_succ, i64_w, i32_w]
                rfl
              refine pure_ (i := 18) (N := some 45) (v := ?_) (a' := ?_) #[true, true, true, true, true, true, true, true, true, true, true, true, true, true, true, true, true, true, true] rfl rfl (any_of HT_.out (by kernel_rfl)) (fun _ _ _ h => h) (Or.inl ⟨by rfl, ?_⟩) ?_ ?_
              rotate_left
              · intro w'
                go_simp
                with_reducible rfl
              rotate_left
              · simp only [Act.put, List.setIfInBounds_toArray, List.set_cons_zero, List.set_cons_succ, i64_w, i32_w]
                rfl
              refine done_ (done_of HT_.out (by kernel_rfl)) ?_
              go_wp2
              go_ret
              exact ⟨rfl, HB5.out⟩
            | false =>
              have HA2 := HAX.out
              simp only [goR] at HA2
              rw [if_pos hlf, if_pos hno, if_neg (by rw [hk]; decide)] at HA2
              have HA3 := Aside0.mk HA2
              have HK := Lib.hid hk
              clear hlf HAX hno hk HA2
              go_wp2
              refine start_ (n := 19) (S := fun w' => w'.cell? ⟨w.heap.size, 0, none⟩ = some (.slice A0 a.length c0) ∧ w'.cell? ⟨w.heap.size, 1, none⟩ = some (.slice (some ad1) b.length c1) ∧ w'.cell? ⟨g5, 0, none⟩ = some (.int .i64 i) ∧ (w'.cell? ⟨g6, 0, none⟩ = some (.int .i64 x.f0) ∧ w'.cell? ⟨g6, 1, none⟩ = some (.slice A3 x.f1.length c3) ∧ w'.cell? ⟨g6, 2, none⟩ = some (.bool x.f2)) ∧ w'.cell? (ad1.add i) = some (.int .i64 (rd b i))) (ds := []) #[false, false, false, false, false, false, false, false, false, false, false, false, false, false, false, false, false, false, false] (by kernel_rfl) rfl rfl ⟨cell26a HZ2.out, cell26b HZ2.out, cell3 HZ5.out, cell28 HZ6.out, HZL.out⟩ (fun hHeld => ?_); refine with_tabW rightTab rightWaits (fun HT_ HW_ => ?_)
              generalize w4.drew = w5 at HBQ HZ2 HZ5 HZ6 HZL hHeld ⊢
              refine take_ (i := 0) (N := some 27) (v := ?_) (a' := ?_) #[true, false, false, false, false, false, false, false, false, false, false, false, false, false, false, false, false, false, false] rfl rfl (take_ofW HT_.out HW_.out (by kernel_rfl)) (fun _ _ _ h => h) (Or.inl ⟨by rfl, ?_⟩) hHeld ?_ ?_
              rotate_left
              · rintro w' ⟨s0, s1, s2, ⟨s3, s4, s5⟩, s6⟩
                go_simp
                with_reducible rfl
              rotate_left
              · simp only [Act.put, List.setIfInBounds_toArray, List.set_cons_zero, List.set_cons_succ, i64_w, i32_w]
                rfl
              refine one_ (i := 1) (N := some 28) #[true, true, false, false, false, false, false, false, false, false, false, false, false, false, false, false, false, false, false] rfl rfl (one_of HT_.out (by kernel_rfl)) (by decide) (fun K hK => ?_)
              refine goes_ Try.func54 (by kernel_rfl) rfl #[.agg #[.int .i64 x.f0, .slice A3 x.f1.length c3, .bool x.f2]] (by rfl) rfl rfl (by (try simp only [List.map_toArray, List.map_cons, List.map_nil]); first | done | rfl | (simp only [List.length_drop, List.length_take]; rfl)) ?_
              with_reducible refine (leaf_leaf.calls (x.f1.length + 2) x.f0 A3 c3 x.f1 x.f2 true _ (Kd.C_below HI3.out HBQ.out) HL3.out (by rw [leaf_spec _ _ _ (by omega) (by omega), HLF.out])).mono ?_
              rintro e w6 ⟨rfl, hb⟩
              refine ⟨_, rfl, ?_⟩
              have HB4 := Lib.hid (below_then HBQ.out HBQ.out.size hb)
              have HY2 := Lib.hid (blk_below HZ2.out hb)
              have HY5 := Lib.hid (blk_below HZ5.out hb)
              have HY6 := Lib.hid (blk_below HZ6.out hb)
              have HYL := Lib.hid ((hb.cell (World.block_lt_of_cell? _ _ HZL.out)).trans HZL.out)
              clear hb HZ2 HZ5 HZ6 HZL HBQ
              refine hK.out _ _ ⟨cell26a HY2.out, cell26b HY2.out, cell3 HY5.out, cell28 HY6.out, HYL.out⟩ (fun hHeld => ?_)
              clear hK K
              refine norm_ (a' := ?_) ?_ ?_
              rotate_left
              · show Act.put _ (some 28) _ = _
                simp only [Act.put, List.setIfInBounds_toArray, List.set_cons_zero, List.set_cons_succ, i64_w, i32_w]
                rfl
              refine pure_ (i := 2) (N := some 29) (v := ?_) (a' := ?_) #[true, true, true, false, false, false, false, false, false, false, false, false, false, false, false, false, false, false, false] rfl rfl (any_of HT_.out (by kernel_rfl)) (fun _ _ _ h => h) (Or.inl ⟨by rfl, ?_⟩) ?_ ?_
              rotate_left
              · intro w'
                go_simp
                with_reducible rfl
              rotate_left
              · simp only [Act.put, List.setIfInBounds_toArray, List.set_cons_zero, List.set_cons_succ, i64_w, i32_w]
                rfl
              refine pure_ (i := 3) (N := some 30) (v := ?_) (a' := ?_) #[true, true, true, true, false, false, false, false, false, false, false, false, false, false, false, false, false, false, false] rfl rfl (any_of HT_.out (by kernel_rfl)) (fun _ _ _ h => h) (Or.inl ⟨by rfl, ?_⟩) ?_ ?_
              rotate_left
              · intro w'
                go_simp
                with_reducible rfl
              rotate_left
              · simp only [Act.put, List.setIfInBounds_toArray, List.set_cons_zero, List.set_cons_succ, i64_w, i32_w]
                rfl
              refine pure_ (i := 4) (N := some 31) (v := ?_) (a' := ?_) #[true, true, true, true, true, false, false, false, false, false, false, false, false, false, false, false, false, false, false] rfl rfl (any_of HT_.out (by kernel_rfl)) (fun _ _ _ h => h) (Or.inl ⟨by rfl, ?_⟩) ?_ ?_
              rotate_left
              · intro w'
                go_simp
                with_reducible rfl
              rotate_left
              · simp only [Act.put, List.setIfInBounds_toArray, List.set_cons_zero, List.set_cons_succ, i64_w, i32_w]
                rfl
              refine pure_ (i := 6) (N := some 33) (v := ?_) (a' := ?_) #[true, true, true, true, true, false, true, false, false, false, false, false, false, false, false, false, false, false, false] rfl rfl (any_of HT_.out (by kernel_rfl)) (fun _ _ _ h => h) (Or.inl ⟨by rfl, ?_⟩) ?_ ?_
              rotate_left
              · intro w'
                go_simp
                with_reducible rfl
              rotate_left
              · simp only [Act.put, List.setIfInBounds_toArray, List.set_cons_zero, List.set_cons_succ, i64_w, i32_w]
                rfl
              refine take_ (i := 5) (N := some 32) (v := ?_) (a' := ?_) #[true, true, true, true, true, true, true, false, false, false, false, false, false, false, false, false, false, false, false] rfl rfl (take_ofW HT_.out HW_.out (by kernel_rfl)) (fun _ _ _ h => h) (Or.inl ⟨by rfl, ?_⟩) hHeld ?_ ?_
              rotate_left
              · rintro w' ⟨s0, s1, s2, ⟨s3, s4, s5⟩, s6⟩
                go_simp
                with_reducible rfl
              rotate_left
              · simp only [Act.put, List.setIfInBounds_toArray, List.set_cons_zero, List.set_cons_succ, i64_w, i32_w]
                rfl
              refine take_ (i := 7) (N := some 34) (v := ?_) (a' := ?_) #[true, true, true, true, true, true, true, true, false, false, false, false, false, false, false, false, false, false, false] rfl rfl (take_ofW HT_.out HW_.out (by kernel_rfl)) (fun _ _ _ h => h) (Or.inl ⟨by rfl, ?_⟩) hHeld ?_ ?_
              rotate_left
              · rintro w' ⟨s0, s1, s2, ⟨s3, s4, s5⟩, s6⟩
                go_simp
                with_reducible rfl
              rotate_left
              · simp only [Act.put, List.setIfInBounds_toArray, List.set_cons_zero, List.set_cons_succ, i64_w, i32_w]
                rfl
              refine take_ (i := 8) (N := some 35) (v := ?_) (a' := ?_) #[true, true, true, true, true, true, true, true, true, false, false, false, false, false, false, false, false, false, false] rfl rfl (take_ofW HT_.out HW_.out (by kernel_rfl)) (fun _ _ _ h => h) (Or.inl ⟨by rfl, ?_⟩) hHeld ?_ ?_
              rotate_left
              · rintro w' ⟨s0, s1, s2, ⟨s3, s4, s5⟩, s6⟩
                go_simp
                with_reducible rfl
              rotate_left
              · simp only [Act.put, List.setIfInBounds_toArray, List.set_cons_zero, List.set_cons_succ, i64_w, i32_w]
                rfl
              refine pure_ (i := 9) (N := some 36) (v := ?_) (a' := ?_) #[true, true, true, true, true, true, true, true, true, true, false, false, false, false, false, false, false, false, false] rfl rfl (any_of HT_.out (by kernel_rfl)) (fun _ _ _ h => h) (Or.inl ⟨by rfl, ?_⟩) ?_ ?_
              rotate_left
              · intro w'
                go_simp
                with_reducible rfl
              rotate_left
              · simp only [Act.put, List.setIfInBounds_toArray, List.set_cons_zero, List.set_cons_succ, i64_w, i32_w]
                rfl
              refine take_ (i := 10) (N := some 37) (v := ?_) (a' := ?_) #[true, true, true, true, true, true, true, true, true, true, true, false, false, false, false, false, false, false, false] rfl rfl (take_ofW HT_.out HW_.out (by kernel_rfl)) (fun _ _ _ h => h) (Or.inl ⟨by rfl, ?_⟩) hHeld ?_ ?_
              rotate_left
              · rintro w' ⟨s0, s1, s2, ⟨s3, s4, s5⟩, s6⟩
                go_simp
                with_reducible rfl
              rotate_left
              · simp only [Act.put, List.setIfInBounds_toArray, List.set_cons_zero, List.set_cons_succ, i64_w, i32_w]
                rfl
              refine pure_ (i := 11) (N := some 38) (v := ?_) (a' := ?_) #[true, true, true, true, true, true, true, true, true, true, true, true, false, false, false, false, false, false, false] rfl rfl (any_of HT_.out (by kernel_rfl)) (fun _ _ _ h => h) (Or.inl ⟨by rfl, ?_⟩) ?_ ?_
              rotate_left
              · intro w'
                go_simp
                with_reducible rfl
              rotate_left
              · simp only [Act.put, List.setIfInBounds_toArray, List.set_cons_zero, List.set_cons_succ, i64_w, i32_w]
                rfl
              refine pure_ (i := 12) (N := some 39) (v := ?_) (a' := ?_) #[true, true, true, true, true, true, true, true, true, true, true, true, true, false, false, false, false, false, false] rfl rfl (any_of HT_.out (by kernel_rfl)) (fun _ _ _ h => h) (Or.inl ⟨by rfl, ?_⟩) ?_ ?_
              rotate_left
              · intro w'
                go_simp
                with_reducible rfl
              rotate_left
              · simp only [Act.put, List.setIfInBounds_toArray, List.set_cons_zero, List.set_cons_succ, i64_w, i32_w]
                rfl
              refine pure_ (i := 13) (N := some 40) (v := ?_) (a' := ?_) #[true, true, true, true, true, true, true, true, true, true, true, true, true, true, false, false, false, false, false] rfl rfl (any_of HT_.out (by kernel_rfl)) (fun _ _ _ h => h) (Or.inl ⟨by rfl, ?_⟩) ?_ ?_
              rotate_left
              · intro w'
                go_simp
                with_reducible rfl
              rotate_left
              · simp only [Act.put, List.setIfInBounds_toArray, List.set_cons_zero, List.set_cons_succ, i64_w, i32_w]
                rfl
              refine pure_ (i := 14) (N := some 41) (v := ?_) (a' := ?_) #[true, true, true, true, true, true, true, true, true, true, true, true, true, true, true, false, false, false, false] rfl rfl (any_of HT_.out (by kernel_rfl)) (fun _ _ _ h => h) (Or.inl ⟨by rfl, ?_⟩) ?_ ?_
              rotate_left
              · intro w'
                go_simp
                with_reducible rfl
              rotate_left
              · simp only [Act.put, List.setIfInBounds_toArray, List.set_cons_zero, List.set_cons_succ, i64_w, i32_w]
                rfl
              refine pure_ (i := 16) (N := some 43) (v := ?_) (a' := ?_) #[true, true, true, true, true, true, true, true, true, true, true, true, true, true, true, false, true, false, false] rfl rfl (any_of HT_.out (by kernel_rfl)) (fun _ _ _ h => h) (Or.inl ⟨by rfl, ?_⟩) ?_ ?_
              rotate_left
              · intro w'
                go_simp
                with_reducible rfl
              rotate_left
              · simp only [Act.put, List.setIfInBounds_toArray, List.set_cons_zero, List.set_cons_succ, i64_w, i32_w]
                rfl
              refine take_ (i := 15) (N := some 42) (v := ?_) (a' := ?_) #[true, true, true, true, true, true, true, true, true, true, true, true, true, true, true, true, true, false, false] rfl rfl (take_ofW HT_.out HW_.out (by kernel_rfl)) (fun _ _ _ h => h) (Or.inl ⟨by rfl, ?_⟩) hHeld ?_ ?_
              rotate_left
              · rintro w' ⟨s0, s1, s2, ⟨s3, s4, s5⟩, s6⟩
                go_simp
                with_reducible rfl
              rotate_left
              · simp only [Act.put, List.setIfInBounds_toArray, List.set_cons_zero, List.set_cons_succ, i64_w, i32_w]
                rfl
              have HCC := containsS (fun y => (atS y a : Int) != (i : Int)) 53 #[.pointer (some ⟨w.heap.size, 0, none⟩), .pointer (some ⟨g5, 0, none⟩)] eg53 A3 c3 x.f1 w6 (Kd.C_below HI3.out HB4.out) (fun W y hb => right1 a b A0 c0 (some ad1) c1 i w.heap.size g5 y W HRT.out.2.2 hla (blk_below HY2.out hb) (blk_below HY5.out hb) (Kd.C_below HR0.out (below_then HB4.out HB4.out.size hb)) HC0.out (Kd.C_below HR1.out (below_then HB4.out HB4.out.size hb)) HC1.out)
              rw [HK.out] at HCC
              have HCD := Lib.hid HCC
              clear HCC
              refine one_ (i := 17) (N := some 44) #[true, true, true, true, true, true, true, true, true, true, true, true, true, true, true, true, true, true, false] rfl rfl (one_of HT_.out (by kernel_rfl)) (by decide) (fun K hK => ?_)
              refine goes_ Try.func55 (by kernel_rfl) rfl #[.slice A3 x.f1.length c3, .func (.func 53) #[] #[.pointer (some ⟨w.heap.size, 0, none⟩), .pointer (some ⟨g5, 0, none⟩)]] (by rfl) rfl rfl (by (try simp only [List.map_toArray, List.map_cons, List.map_nil]); first | done | rfl | (simp only [List.length_drop, List.length_take]; rfl)) ?_
              with_reducible refine (HCD.out).mono ?_
              rintro e w7 ⟨rfl, hb⟩
              refine ⟨_, rfl, ?_⟩
              have HB5 := Lib.hid (below_then HB4.out HB4.out.size hb)
              have HQ2 := Lib.hid (blk_below HY2.out hb)
              have HQ5 := Lib.hid (blk_below HY5.out hb)
              have HQ6 := Lib.hid (blk_below HY6.out hb)
              have HQL := Lib.hid ((hb.cell (World.block_lt_of_cell? _ _ HYL.out)).trans HYL.out)
              clear hb HCD
              refine hK.out _ _ ⟨cell26a HQ2.out, cell26b HQ2.out, cell3 HQ5.out, cell28 HQ6.out, HQL.out⟩ (fun hHeld => ?_)
              clear hK K
              refine norm_ (a' := ?_) ?_ ?_
              rotate_left
              · show Act.put _ (some 44) _ = _
                simp only [Act.put, List.setIfInBounds_toArray, List.set_cons_zero, List.set_cons_succ, i64_w, i32_w]
                rfl
              refine pure_ (i := 18) (N := some 45) (v := ?_) (a' := ?_) #[true, true, true, true, true, true, true, true, true, true, true, true, true, true, true, true, true, true, true] rfl rfl (any_of HT_.out (by kernel_rfl)) (fun _ _ _ h => h) (Or.inl ⟨by rfl, ?_⟩) ?_ ?_
              rotate_left
              · intro w'
                go_simp
                with_reducible rfl
              rotate_left
              · simp only [Act.put, List.setIfInBounds_toArray, List.set_cons_zero, List.set_cons_succ, i64_w, i32_w]
                rfl
              refine done_ (done_of HT_.out (by kernel_rfl)) ?_
              go_wp2
              go_roundg (ls.length - (i + 1))
              case measure => have := HD.out; omega
              case rel => exact ⟨i + 1, by go_num, by omega, ⟨rfl⟩, HA3, ⟨HQ2.out⟩, ⟨HB5.out⟩⟩
      · have hie : i = ls.length := by omega
        subst hie
        have hr : r = true := by have h1 := HA.out; rw [List.drop_length] at h1; exact h1.symm
        subst hr
        go_wp2
        go_ret
        exact ⟨rfl, HBW.out⟩
theorem leaf_Right.calls (A0_0 : Option Addr) (c0_0 : Nat) (l0_0 : List ByteArray) (A0_1 : Option Addr) (c0_1 : Nat) (l0_1 : List Int) (A1 : Option Addr) (c1 : Nat) (l1 : List S28) (r : Bool) (w : World) (hr0_0 : Kd.C Kd.string w A0_0 l0_0.length l0_0) (hc0_0 : l0_0.length ≤ c0_0) (hr0_1 : Kd.C (Kd.int .i64) w A0_1 l0_1.length l0_1) (hc0_1 : l0_1.length ≤ c0_1) (hr1 : Kd.C k28 w A1 l1.length l1) (hc1 : l1.length ≤ c1) (h : leaf_Right.f l0_0 l0_1 l1 = some r) :
    Calls Try.prog 24 #[.agg #[.slice A0_0 l0_0.length c0_0, .slice A0_1 l0_1.length c0_1], .slice A1 l1.length c1] w fun e w' => e = .returned (.bool r) ∧ Below w.heap.size w w' := by
  unfold leaf_Right.f at h
  split at h
  · rename_i hlim
    exact right_calls A0_0 c0_0 l0_0 A0_1 c0_1 l0_1 A1 c1 l1 r w hr0_0 hc0_0 hr0_1 hc0_1 hr1 hc1 hlim.1 hlim.2.1 hlim.2.2 (Option.some.inj h)
  · cases h
end Go.Proofs.Ytneagipmllgejaa.PL
end
section
namespace Go.Proofs.Ytneagipmllgejaa.PL
open Go.RowKit Go.Proofs.YtneagipmllgejaaW.PrintWords Go.Proofs.YtneagipmllgejaaW.PrintLast Go.Proofs.YtneagipmllgejaaW.PrintMore
attribute [local go_sem] max2_int min2_int max_two min_two max_three min_three max_four min_four   -- for this text's walks alone
set_option linter.unusedVariables false
set_option linter.unusedSimpArgs false
mutual
def cobwebref11_Right.j0 : Nat → List (S28) → Bool → List ByteArray → List Int → Option (Bool)
  | 0, _, _, _, _ => none
  | k + 1, x1, x17, x461000, x461001 => if x17 = true then (some false) else (cobwebref11_Right.l0 k x1 0 x461000 x461001)
def cobwebref11_Right.l0 : Nat → List (S28) → Int → List ByteArray → List Int → Option (Bool)
  | 0, _, _, _, _ => none
  | k + 1, x1, x5, x461000, x461001 => if x5 < (x1.length : Int) then (if 0 ≤ x5 then ((cobwebref11_Leaf.f k ((rd_T28 x1 x5).f0) ((rd_T28 x1 x5).f1) ((rd_T28 x1 x5).f2)).bind fun t463 => (if t463 = true then (if x5 < (x461001.length : Int) then (cobwebref11_Right.j2 k x1 x5 (((rd_T28 x1 x5).f0) != (rd x461001 x5)) x461000 x461001) else (none)) else (cobwebref11_Right.j2 k x1 x5 true x461000 x461001))) else (none)) else (some true)
def cobwebref11_Right.j2 : Nat → List (S28) → Int → Bool → List ByteArray → List Int → Option (Bool)
  | 0, _, _, _, _, _ => none
  | k + 1, x1, x5, x42, x461000, x461001 => if x42 = true then (some false) else (cobwebref11_Right.l1 k x1 x5 0 x461000 x461001)
def cobwebref11_Right.l1 : Nat → List (S28) → Int → Int → List ByteArray → List Int → Option (Bool)
  | 0, _, _, _, _, _ => none
  | k + 1, x1, x5, x6, x461000, x461001 => if 0 ≤ x5 then (if x5 < (x1.length : Int) then (if x6 < (((rd_T28 x1 x5).f1).length : Int) then (if 0 ≤ x6 then ((cobwebref11_At.f k x461000 x461001 (rdOf ByteArray.empty ((rd_T28 x1 x5).f1) x6)).bind fun t469 => (if t469 = x5 then (cobwebref11_Right.l1 k x1 x5 (wrap64 (x6 + 1)) x461000 x461001) else (some false))) else (none)) else (cobwebref11_Right.l0 k x1 (wrap64 (x5 + 1)) x461000 x461001)) else (none)) else (none)
end
def cobwebref11_Right.f (k : Nat) (l0_0 : List ByteArray) (l0_1 : List Int) (l1 : List (S28)) : Option (Bool) := (cobwebref11_Root.f k l0_0 l0_1).bind fun t461 => (if t461 = true then (cobwebref11_Right.j0 k l1 ((l1.length : Int) != (l0_1.length : Int)) l0_0 l0_1) else (cobwebref11_Right.j0 k l1 true l0_0 l0_1))
theorem cobwebref11_Right.mono_l : ∀ k, (∀ y0 y1 y2 y3, LeO (cobwebref11_Right.j0 k y0 y1 y2 y3) (cobwebref11_Right.j0 (k + 1) y0 y1 y2 y3)) ∧ (∀ y0 y1 y2 y3, LeO (cobwebref11_Right.l0 k y0 y1 y2 y3) (cobwebref11_Right.l0 (k + 1) y0 y1 y2 y3)) ∧ (∀ y0 y1 y2 y3 y4, LeO (cobwebref11_Right.j2 k y0 y1 y2 y3 y4) (cobwebref11_Right.j2 (k + 1) y0 y1 y2 y3 y4)) ∧ (∀ y0 y1 y2 y3 y4, LeO (cobwebref11_Right.l1 k y0 y1 y2 y3 y4) (cobwebref11_Right.l1 (k + 1) y0 y1 y2 y3 y4))
  | 0 => ⟨fun _ _ _ _ r h => by simp [cobwebref11_Right.j0] at h, fun _ _ _ _ r h => by simp [cobwebref11_Right.l0] at h, fun _ _ _ _ _ r h => by simp [cobwebref11_Right.j2] at h, fun _ _ _ _ _ r h => by simp [cobwebref11_Right.l1] at h⟩
  | k + 1 => by
    obtain ⟨ih0, ih1, ih2, ih3⟩ := cobwebref11_Right.mono_l k
    refine ⟨?_, ?_, ?_, ?_⟩
    · intro y0 y1 y2 y3
      unfold cobwebref11_Right.j0
      repeat' first
      | (with_reducible exact ih0 _ _ _ _)
      | (with_reducible exact ih1 _ _ _ _)
      | (with_reducible exact ih2 _ _ _ _ _)
      | (with_reducible exact ih3 _ _ _ _ _)
      | (with_reducible exact cobwebref11_At.mono _ _ _ _)
      | (with_reducible exact cobwebref11_Leaf.mono _ _ _ _)
      | (with_reducible exact cobwebref11_Root.mono _ _ _)
      | (with_reducible exact LeO.refl _)
      | (with_reducible exact LeO.none _)
      | (with_reducible refine LeO.ite ?_ ?_)
      | (with_reducible refine LeO.bind ?_ (fun _ => ?_))
      | exact ih0 _ _ _ _
      | exact ih1 _ _ _ _
      | exact ih2 _ _ _ _ _
      | exact ih3 _ _ _ _ _
      | exact cobwebref11_At.mono _ _ _ _
      | exact cobwebref11_Leaf.mono _ _ _ _
      | exact cobwebref11_Root.mono _ _ _
      | exact LeO.none _
      | refine LeO.ite ?_ ?_
      | refine LeO.bind ?_ (fun _ => ?_)
    · intro y0 y1 y2 y3
      unfold cobwebref11_Right.l0
      repeat' first
      | (with_reducible exact ih0 _ _ _ _)
      | (with_reducible exact ih1 _ _ _ _)
      | (with_reducible exact ih2 _ _ _ _ _)
      | (with_reducible exact ih3 _ _ _ _ _)
      | (with_reducible exact cobwebref11_At.mono _ _ _ _)
      | (with_reducible exact cobwebref11_Leaf.mono _ _ _ _)
      | (with_reducible exact cobwebref11_Root.mono _ _ _)
      | (with_reducible exact LeO.refl _)
      | (with_reducible exact LeO.none _)
      | (with_reducible refine LeO.ite ?_ ?_)
      | (with_reducible refine LeO.bind ?_ (fun _ => ?_))
      | exact ih0 _ _ _ _
      | exact ih1 _ _ _ _
      | exact ih2 _ _ _ _ _
      | exact ih3 _ _ _ _ _
      | exact cobwebref11_At.mono _ _ _ _
      | exact cobwebref11_Leaf.mono _ _ _ _
      | exact cobwebref11_Root.mono _ _ _
      | exact LeO.none _
      | refine LeO.ite ?_ ?_
      | refine LeO.bind ?_ (fun _ => ?_)
    · intro y0 y1 y2 y3 y4
      unfold cobwebref11_Right.j2
      repeat' first
      | (with_reducible exact ih0 _ _ _ _)
      | (with_reducible exact ih1 _ _ _ _)
      | (with_reducible exact ih2 _ _ _ _ _)
      | (with_reducible exact ih3 _ _ _ _ _)
      | (with_reducible exact cobwebref11_At.mono _ _ _ _)
      | (with_reducible exact cobwebref11_Leaf.mono _ _ _ _)
      | (with_reducible exact cobwebref11_Root.mono _ _ _)
      | (with_reducible exact LeO.refl _)
      | (with_reducible exact LeO.none _)
      | (with_reducible refine LeO.ite ?_ ?_)
      | (with_reducible refine LeO.bind ?_ (fun _ => ?_))
      | exact ih0 _ _ _ _
      | exact ih1 _ _ _ _
      | exact ih2 _ _ _ _ _
      | exact ih3 _ _ _ _ _
      | exact cobwebref11_At.mono _ _ _ _
      | exact cobwebref11_Leaf.mono _ _ _ _
      | exact cobwebref11_Root.mono _ _ _
      | exact LeO.none _
      | refine LeO.ite ?_ ?_
      | refine LeO.bind ?_ (fun _ => ?_)
    · intro y0 y1 y2 y3 y4
      unfold cobwebref11_Right.l1
      repeat' first
      | (with_reducible exact ih0 _ _ _ _)
      | (with_reducible exact ih1 _ _ _ _)
      | (with_reducible exact ih2 _ _ _ _ _)
      | (with_reducible exact ih3 _ _ _ _ _)
      | (with_reducible exact cobwebref11_At.mono _ _ _ _)
      | (with_reducible exact cobwebref11_Leaf.mono _ _ _ _)
      | (with_reducible exact cobwebref11_Root.mono _ _ _)
      | (with_reducible exact LeO.refl _)
      | (with_reducible exact LeO.none _)
      | (with_reducible refine LeO.ite ?_ ?_)
      | (with_reducible refine LeO.bind ?_ (fun _ => ?_))
      | exact ih0 _ _ _ _
      | exact ih1 _ _ _ _
      | exact ih2 _ _ _ _ _
      | exact ih3 _ _ _ _ _
      | exact cobwebref11_At.mono _ _ _ _
      | exact cobwebref11_Leaf.mono _ _ _ _
      | exact cobwebref11_Root.mono _ _ _
      | exact LeO.none _
      | refine LeO.ite ?_ ?_
      | refine LeO.bind ?_ (fun _ => ?_)
theorem cobwebref11_Right.mono : ∀ a0 a1 a2 k, LeO (cobwebref11_Right.f k a0 a1 a2) (cobwebref11_Right.f (k + 1) a0 a1 a2) := by
  intro a0 a1 a2 k
  obtain ⟨ih0, ih1, ih2, ih3⟩ := cobwebref11_Right.mono_l k
  unfold cobwebref11_Right.f
  repeat' first
      | (with_reducible exact ih0 _ _ _ _)
      | (with_reducible exact ih1 _ _ _ _)
      | (with_reducible exact ih2 _ _ _ _ _)
      | (with_reducible exact ih3 _ _ _ _ _)
      | (with_reducible exact cobwebref11_At.mono _ _ _ _)
      | (with_reducible exact cobwebref11_Leaf.mono _ _ _ _)
      | (with_reducible exact cobwebref11_Root.mono _ _ _)
      | (with_reducible exact LeO.refl _)
      | (with_reducible exact LeO.none _)
      | (with_reducible refine LeO.ite ?_ ?_)
      | (with_reducible refine LeO.bind ?_ (fun _ => ?_))
      | exact ih0 _ _ _ _
      | exact ih1 _ _ _ _
      | exact ih2 _ _ _ _ _
      | exact ih3 _ _ _ _ _
      | exact cobwebref11_At.mono _ _ _ _
      | exact cobwebref11_Leaf.mono _ _ _ _
      | exact cobwebref11_Root.mono _ _ _
      | exact LeO.none _
      | refine LeO.ite ?_ ?_
      | refine LeO.bind ?_ (fun _ => ?_)
def cobwebref11_Right.T6 : Bool × List (List Nat × List Nat) := (true, [([], []), ([], []), ([0, 1], [0, 1]), ([2], [2]), ([3], [3]), ([4], [4]), ([5, 4], [5]), ([6], [6]), ([6], [6]), ([7, 8, 6], [6, 7, 8]), ([9, 6], [6, 9]), ([10, 6], [6, 10]), ([6], [6]), ([12, 6], [6, 12]), ([6], [6]), ([13, 14, 6], [6, 13, 14]), ([15, 6], [6, 15]), ([11, 16, 6], [6, 11, 16]), ([6, 17], [6, 17])])
def cobwebref11_Right.B6 : List Nat := [0, 0, 3, 7, 15, 31, 63, 127, 127, 511, 1023, 2047, 127, 4223, 127, 28799, 61567, 131071, 262143]
theorem cobwebref11_Right.tab6 : rtab .any (opsOf Try.f25 6) = cobwebref11_Right.T6 := by kernel_rfl
theorem cobwebref11_Right.bits6 : waitsOk cobwebref11_Right.T6.2 cobwebref11_Right.B6 = true := by kernel_rfl
def cobwebref11_Right.T11 : Bool × List (List Nat × List Nat) := (true, [([], []), ([], []), ([], []), ([1, 2], [1, 2]), ([3], [3]), ([4], [4]), ([], []), ([5, 6], [5, 6]), ([7], [7]), ([0, 8], [0, 8]), ([], []), ([9, 10], [9, 10])])
def cobwebref11_Right.B11 : List Nat := [0, 0, 0, 6, 14, 30, 0, 126, 254, 511, 0, 2047]
theorem cobwebref11_Right.tab11 : rtab .any (opsOf Try.f25 11) = cobwebref11_Right.T11 := by kernel_rfl
theorem cobwebref11_Right.bits11 : waitsOk cobwebref11_Right.T11.2 cobwebref11_Right.B11 = true := by kernel_rfl
set_option maxHeartbeats 8000000 in
set_option maxRecDepth 100000 in
theorem cobwebref11_Right.calls (k : Nat) (A0_0 : Option Addr) (c0_0 : Nat) (l0_0 : List ByteArray) (A0_1 : Option Addr) (c0_1 : Nat) (l0_1 : List Int) (A1 : Option Addr) (c1 : Nat) (l1 : List (S28)) (r : Bool) (w : World) (hr0_0 : Kd.C Kd.string w A0_0 l0_0.length l0_0) (hc0_0 : l0_0.length ≤ c0_0) (hr0_1 : Kd.C (Kd.int .i64) w A0_1 l0_1.length l0_1) (hc0_1 : l0_1.length ≤ c0_1) (hr1 : Kd.C k28 w A1 l1.length l1) (hc1 : l1.length ≤ c1) (h : cobwebref11_Right.f k l0_0 l0_1 l1 = some r) :
    Calls Try.prog 25 #[.agg #[.slice A0_0 l0_0.length c0_0, .slice A0_1 l0_1.length c0_1], .slice A1 l1.length c1] w fun e w' => e = .returned (.bool r) ∧ Below w.heap.size w w' := by
  have hu26 := Try.underlying26
  have hu28 := Try.underlying28
  have HR0_0 := Aside0.mk hr0_0
  have HC0_0 := Aside0.mk hc0_0
  clear hr0_0 hc0_0
  have HR0_1 := Aside0.mk hr0_1
  have HC0_1 := Aside0.mk hc0_1
  clear hr0_1 hc0_1
  have HR1 := Aside0.mk hr1
  have HC1 := Aside0.mk hc1
  clear hr1 hc1
  have HB := Aside0.mk (Below.refl w.heap.size w)
  have H : ((cobwebref11_Root.f k l0_0 l0_1).bind fun t461 => (if t461 = true then (cobwebref11_Right.j0 k l1 ((l1.length : Int) != (l0_1.length : Int)) l0_0 l0_1) else (cobwebref11_Right.j0 k l1 true l0_0 l0_1))) = some r := h
  clear h
  have HC3 := Aside0.mk H
  clear H
  go_enter Try.func25, Try.ntmps25
  go_upto_region 1 with (first | ((with_reducible refine gate_dst (N := 2) rfl ?_); (try (refine gate_guard (by rfl) ?_; dsimp only)); refine box_event ?hg (N := 2) ?hd (cs := #[.slice A0_0 l0_0.length c0_0, .slice A0_1 l0_1.length c0_1]) (t := 26) ?hr ?_; (case hd => rfl); (case hg => rfl); (case hr => first | (go_simp; done) | (go_simp; rfl)); intro gb460 hg w4 hbox hb; have n0_ := Aside0.mk (below_step (by repeat (first | (with_reducible first | exact HB.out | apply below_alloc | apply pw_below_drewN | apply below_drew1) | exact HB.out)) hb); have n1_ := Aside0.mk (hbox); have n2_ := Aside0.mk ((by rw [hg]; exact (below_size (by repeat (first | (with_reducible first | exact HB.out | apply below_alloc | apply pw_below_drewN | apply below_drew1) | exact HB.out))) : w.heap.size ≤ gb460)); have n3_ := Aside0.mk ((by rw [hg]; exact (below_size (by repeat (first | (with_reducible first | exact HB.out | apply below_alloc | apply pw_below_drewN | apply below_drew1) | exact HB.out))) : w.heap.size ≤ gb460)); clear HB; have HB := n0_; have BK460 := n1_; have GW460 := n2_; have GE460 := n3_; clear n0_ n1_ n2_ n3_; clear hb hbox hg))
  (try simp only [Act.put, List.setIfInBounds_toArray, List.set_cons_zero, List.set_cons_succ])
  go_cut [17] (fun v17 wc => ∃ (kq : Nat) (x17_2 : Bool), v17 = .bool x17_2 ∧ Aside0 (cobwebref11_Right.j0 kq l1 x17_2 l0_0 l0_1 = some r) ∧ Aside0 (kq ≤ k) ∧ Aside0 (wc.heap[gb460]? = some (.cells #[(.slice A0_0 l0_0.length c0_0), (.slice A0_1 l0_1.length c0_1)] 26 (0, 0))) ∧ Aside0 (Below w.heap.size w wc))
  case first =>
    have H := HC3.out
    clear HC3
    replace H := Option.bind_eq_some_iff.mp H
    obtain ⟨t461, A50, H⟩ := H
    replace H : (if t461 = true then (cobwebref11_Right.j0 k l1 ((l1.length : Int) != (l0_1.length : Int)) l0_0 l0_1) else (cobwebref11_Right.j0 k l1 true l0_0 l0_1)) = some r := H
    have A5 := Aside0.mk A50
    clear A50
    by_cases c6 : t461 = true
    · subst c6
      have H1 : (cobwebref11_Right.j0 k l1 ((l1.length : Int) != (l0_1.length : Int)) l0_0 l0_1) = some r := by rw [if_pos rfl] at H; exact H
      clear H
      have H := H1
      clear H1
      have H' := Aside0.mk H
      clear H
      have hcz7_0 : w4.cell? ⟨gb460, 0, none⟩ = some (.slice A0_0 l0_0.length c0_0) := (blk_cell BK460.out 0).trans rfl
      have hcz7_1 : w4.cell? ⟨gb460, 1, none⟩ = some (.slice A0_1 l0_1.length c0_1) := (blk_cell BK460.out 1).trans rfl
      have hfz7_0 := blk_frozen BK460.out 0
      have hfz7_1 := blk_frozen BK460.out 1
      go_wp2_with (first | ((with_reducible refine gate_callee (f := 47) rfl ?_); refine goesL_ (some 8) rfl rfl Try.func47 (by kernel_rfl) rfl #[.agg #[.slice A0_0 l0_0.length c0_0, .slice A0_1 l0_1.length c0_1]] rfl (by (try simp only [List.map_toArray, List.map_cons, List.map_nil]); first | done | rfl | (simp only [List.length_drop, List.length_take]; rfl)) ?_; (with_reducible refine (cobwebref11_Root.calls k _ _ l0_0 _ _ l0_1 true _ ?side1 ?side2 ?side3 ?side4 A5.out).mono ?_); (case side1 => repeat (first | exact (Kd.C_below HR0_0.out HB.out) | (with_reducible refine Kd.C_alloc ?_ _) | (with_reducible refine Kd.C_drewN ?_ _) | (with_reducible refine Kd.C_drew ?_))); (case side2 => exact HC0_0.out); (case side3 => repeat (first | exact (Kd.C_below HR0_1.out HB.out) | (with_reducible refine Kd.C_alloc ?_ _) | (with_reducible refine Kd.C_drewN ?_ _) | (with_reducible refine Kd.C_drew ?_))); (case side4 => exact HC0_1.out); rintro e w8 ⟨rfl, hb⟩; refine ⟨_, rfl, ?_⟩; have n0_ := Aside0.mk (blk_below (g := gb460) (o := .cells #[.slice A0_0 l0_0.length c0_0, .slice A0_1 l0_1.length c0_1] 26 (0, 0)) (by (with_reducible repeat (first | refine blk_drewN ?_ _ | refine blk_drew ?_ | refine blk_alloc ?_ _)); exact BK460.out) hb); have n1_ := Aside0.mk (below_step (by repeat (first | (with_reducible first | exact HB.out | apply below_alloc | apply pw_below_drewN | apply below_drew1 | refine below_set ?_ GE460.out) | exact HB.out)) hb); clear BK460; clear HB; have BK460 := n0_; have HB := n1_; clear n0_ n1_; (try clear hb); (try clear hb2); (try clear hk); (try clear hi); have hcz9_0 : w8.cell? ⟨gb460, 0, none⟩ = some (.slice A0_0 l0_0.length c0_0) := (blk_cell BK460.out 0).trans rfl; have hcz9_1 : w8.cell? ⟨gb460, 1, none⟩ = some (.slice A0_1 l0_1.length c0_1) := (blk_cell BK460.out 1).trans rfl; have hfz9_0 := blk_frozen BK460.out 0; have hfz9_1 := blk_frozen BK460.out 1))
      go_meet
      case rel => exact ⟨_, (((l1.length : Int) != (l0_1.length : Int))), (by first | rfl | (simp; done) | (simp [*]; done)), H', ⟨by first | omega | exact Nat.le_refl _⟩, ⟨by (with_reducible repeat (first | refine blk_drewN ?_ _ | refine blk_drew ?_ | refine blk_alloc ?_ _)); exact BK460.out⟩, ⟨by repeat (first | (with_reducible first | exact HB.out | apply below_alloc | apply pw_below_drewN | apply below_drew1 | refine below_set ?_ GE460.out) | exact HB.out)⟩⟩
    · replace c6 := Bool.eq_false_iff.mpr c6
      subst c6
      have H1 : (cobwebref11_Right.j0 k l1 true l0_0 l0_1) = some r := by rw [if_neg (show ¬ (false = true) by decide)] at H; exact H
      clear H
      have H := H1
      clear H1
      have H' := Aside0.mk H
      clear H
      have hcz10_0 : w4.cell? ⟨gb460, 0, none⟩ = some (.slice A0_0 l0_0.length c0_0) := (blk_cell BK460.out 0).trans rfl
      have hcz10_1 : w4.cell? ⟨gb460, 1, none⟩ = some (.slice A0_1 l0_1.length c0_1) := (blk_cell BK460.out 1).trans rfl
      have hfz10_0 := blk_frozen BK460.out 0
      have hfz10_1 := blk_frozen BK460.out 1
      go_wp2_with (first | ((with_reducible refine gate_callee (f := 47) rfl ?_); refine goesL_ (some 8) rfl rfl Try.func47 (by kernel_rfl) rfl #[.agg #[.slice A0_0 l0_0.length c0_0, .slice A0_1 l0_1.length c0_1]] rfl (by (try simp only [List.map_toArray, List.map_cons, List.map_nil]); first | done | rfl | (simp only [List.length_drop, List.length_take]; rfl)) ?_; (with_reducible refine (cobwebref11_Root.calls k _ _ l0_0 _ _ l0_1 false _ ?side1 ?side2 ?side3 ?side4 A5.out).mono ?_); (case side1 => repeat (first | exact (Kd.C_below HR0_0.out HB.out) | (with_reducible refine Kd.C_alloc ?_ _) | (with_reducible refine Kd.C_drewN ?_ _) | (with_reducible refine Kd.C_drew ?_))); (case side2 => exact HC0_0.out); (case side3 => repeat (first | exact (Kd.C_below HR0_1.out HB.out) | (with_reducible refine Kd.C_alloc ?_ _) | (with_reducible refine Kd.C_drewN ?_ _) | (with_reducible refine Kd.C_drew ?_))); (case side4 => exact HC0_1.out); rintro e w11 ⟨rfl, hb⟩; refine ⟨_, rfl, ?_⟩; have n0_ := Aside0.mk (blk_below (g := gb460) (o := .cells #[.slice A0_0 l0_0.length c0_0, .slice A0_1 l0_1.length c0_1] 26 (0, 0)) (by (with_reducible repeat (first | refine blk_drewN ?_ _ | refine blk_drew ?_ | refine blk_alloc ?_ _)); exact BK460.out) hb); have n1_ := Aside0.mk (below_step (by repeat (first | (with_reducible first | exact HB.out | apply below_alloc | apply pw_below_drewN | apply below_drew1 | refine below_set ?_ GE460.out) | exact HB.out)) hb); clear BK460; clear HB; have BK460 := n0_; have HB := n1_; clear n0_ n1_; (try clear hb); (try clear hb2); (try clear hk); (try clear hi)))
      go_meet
      case rel => exact ⟨_, (true), (by first | rfl | (simp; done) | (simp [*]; done)), H', ⟨by first | omega | exact Nat.le_refl _⟩, ⟨by (with_reducible repeat (first | refine blk_drewN ?_ _ | refine blk_drew ?_ | refine blk_alloc ?_ _)); exact BK460.out⟩, ⟨by repeat (first | (with_reducible first | exact HB.out | apply below_alloc | apply pw_below_drewN | apply below_drew1 | refine below_set ?_ GE460.out) | exact HB.out)⟩⟩
  case rest =>
    clear HC3
    try clear c1
    try clear c2
    try clear p2
    try clear c4
    try clear c6
    try clear hcz10_0
    try clear hcz10_1
    try clear hcz7_0
    try clear hcz7_1
    try clear hcz9_0
    try clear hcz9_1
    try clear hfz10_0
    try clear hfz10_1
    try clear hfz7_0
    try clear hfz7_1
    try clear hfz9_0
    try clear hfz9_1
    obtain ⟨kq, x17_2, rfl, HA, HJ2, BK460, HB⟩ := hcut
    cases kq with
    | zero => exact absurd HA.out (by simp [cobwebref11_Right.j0])
    | succ kj2 =>
      have H := HA.out
      clear HA
      simp only [cobwebref11_Right.j0] at H
      by_cases c12 : x17_2 = true
      · subst c12
        have H1 : (some false) = some r := by rw [if_pos rfl] at H; exact H
        clear H
        have H := H1
        clear H1
        obtain rfl := Option.some.inj H
        go_wp2
        go_ret
        exact ⟨by first | rfl | (simp [errW_none, errW_some] <;> rfl) | (simp [*, errW_none, errW_some] <;> rfl), by repeat (first | (with_reducible first | exact HB.out | apply below_alloc | apply pw_below_drewN | apply below_drew1 | refine below_set ?_ GE460.out) | exact HB.out)⟩
      · replace c12 := Bool.eq_false_iff.mpr c12
        subst c12
        have H1 : (cobwebref11_Right.l0 kj2 l1 0 l0_0 l0_1) = some r := by rw [if_neg (show ¬ (false = true) by decide)] at H; exact H
        clear H
        have H := H1
        clear H1
        have H' := Aside0.mk H
        clear H
        go_wp2
        go_loopg [5] kj2 (fun kq v5 w' => ∃ (x5_2 : Int), v5 = .int .i64 x5_2 ∧ Aside0 (cobwebref11_Right.l0 kq l1 x5_2 l0_0 l0_1 = some r) ∧ Aside0 (kq ≤ kj2) ∧ Aside0 (w'.heap[gb460]? = some (.cells #[(.slice A0_0 l0_0.length c0_0), (.slice A0_1 l0_1.length c0_1)] 26 (0, 0))) ∧ Aside0 (Below w.heap.size w w'))
        case atStart => exact ⟨(0), (by first | rfl | (simp; done) | (simp [*]; done)), H', ⟨Nat.le_refl _⟩, ⟨by (with_reducible repeat (first | refine blk_drewN ?_ _ | refine blk_drew ?_ | refine blk_alloc ?_ _)); exact BK460.out⟩, ⟨by repeat (first | (with_reducible first | exact HB.out | apply below_alloc | apply pw_below_drewN | apply below_drew1 | refine below_set ?_ GE460.out) | exact HB.out)⟩⟩
        case round =>
          clear H'
          try clear c1
          try clear c2
          try clear p2
          try clear c4
          try clear c6
          try clear c12
          try clear hcz10_0
          try clear hcz10_1
          try clear hcz7_0
          try clear hcz7_1
          try clear hcz9_0
          try clear hcz9_1
          try clear hfz10_0
          try clear hfz10_1
          try clear hfz7_0
          try clear hfz7_1
          try clear hfz9_0
          try clear hfz9_1
          try clear p2
          obtain ⟨x5_2, rfl, HA, HK2, BK460, HB⟩ := hrel
          cases gk with
          | zero => exact absurd HA.out (by simp [cobwebref11_Right.l0])
          | succ k2 =>
            have H := HA.out
            clear HA
            simp only [cobwebref11_Right.l0] at H
            by_cases c13 : x5_2 < (l1.length : Int)
            · rw [if_pos c13] at H
              have c13b0 : decide (x5_2 < (l1.length : Int)) = true := decide_eq_true c13
              clear c13
              have HC14 := Aside0.mk H
              clear H
              go_upto_region 6 with (fail)
              go_cut [42] (fun v42 wc => ∃ (kq : Nat) (x42_13 : Bool), v42 = .bool x42_13 ∧ Aside0 (cobwebref11_Right.j2 kq l1 x5_2 x42_13 l0_0 l0_1 = some r) ∧ Aside0 (kq ≤ k2) ∧ Aside0 (wc.heap[gb460]? = some (.cells #[(.slice A0_0 l0_0.length c0_0), (.slice A0_1 l0_1.length c0_1)] 26 (0, 0))) ∧ Aside0 (Below w.heap.size w wc))
              case first =>
                have H := HC14.out
                clear HC14
                by_cases c15 : 0 ≤ x5_2
                · rw [if_pos c15] at H
                  have c15b0 : decide (0 ≤ x5_2) = true := decide_eq_true c15
                  clear c15
                  (first | rw [c15b0] | (simp only [i64_w, i32_w]; rw [c15b0]) | skip)
                  replace H := Option.bind_eq_some_iff.mp H
                  obtain ⟨t463, A160, H⟩ := H
                  replace H : (if t463 = true then (if x5_2 < (l0_1.length : Int) then (cobwebref11_Right.j2 k2 l1 x5_2 (((rd_T28 l1 x5_2).f0) != (rd l0_1 x5_2)) l0_0 l0_1) else (none)) else (cobwebref11_Right.j2 k2 l1 x5_2 true l0_0 l0_1)) = some r := H
                  have A16 := Aside0.mk A160
                  clear A160
                  by_cases c17 : t463 = true
                  · subst c17
                    have H1 : (if x5_2 < (l0_1.length : Int) then (cobwebref11_Right.j2 k2 l1 x5_2 (((rd_T28 l1 x5_2).f0) != (rd l0_1 x5_2)) l0_0 l0_1) else (none)) = some r := by rw [if_pos rfl] at H; exact H
                    clear H
                    have H := H1
                    clear H1
                    by_cases c18 : x5_2 < (l0_1.length : Int)
                    · rw [if_pos c18] at H
                      have c18b0 : decide (x5_2 < (l0_1.length : Int)) = true := decide_eq_true c18
                      clear c18
                      have H' := Aside0.mk H
                      clear H
                      try go_wp2
                      have n0_ := Aside0.mk (blk_drew BK460.out)
                      have n1_ := Aside0.mk (below_drew1 HB.out)
                      clear BK460
                      clear HB
                      have BK460 := n0_
                      have HB := n1_
                      clear n0_ n1_
                      have p462 : 0 ≤ (x5_2 : Int) := of_decide_eq_true (by first | (with_reducible assumption) | assumption)
                      have q462 : x5_2 < (l1.length : Int) := of_decide_eq_true (by first | (with_reducible assumption) | assumption)
                      obtain ⟨ad462, A462_1, c462_1, e462, hx462_0, hx462_1, hx462_2, hl462_1, hi462_1⟩ := at_T28 HR1.out x5_2 p462 q462
                      have hw462_2 := hx462_2
                      have hw462_1 := hx462_1
                      have hw462_0 := hx462_0
                      cases e462
                      replace hx462_0 := (HB.out.cell (World.block_lt_of_cell? w _ hx462_0)).trans hx462_0
                      replace hx462_1 := (HB.out.cell (World.block_lt_of_cell? w _ hx462_1)).trans hx462_1
                      replace hx462_2 := (HB.out.cell (World.block_lt_of_cell? w _ hx462_2)).trans hx462_2
                      have HR462_1 := Aside0.mk hi462_1
                      have HC462_1 := Aside0.mk hl462_1
                      clear hi462_1 hl462_1
                      replace p462 := eq_true p462
                      replace q462 := eq_true q462
                      have p464 : 0 ≤ (x5_2 : Int) := of_decide_eq_true (by first | (with_reducible assumption) | assumption)
                      have q464 : x5_2 < (l1.length : Int) := of_decide_eq_true (by first | (with_reducible assumption) | assumption)
                      obtain ⟨ad464, A464_1, c464_1, e464, hx464_0, hx464_1, hx464_2, hl464_1, hi464_1⟩ := at_T28 HR1.out x5_2 p464 q464
                      have hw464_2 := hx464_2
                      have hw464_1 := hx464_1
                      have hw464_0 := hx464_0
                      obtain rfl : ad462 = ad464 := (by injection e464)
                      replace hx464_0 := (HB.out.cell (World.block_lt_of_cell? w _ hx464_0)).trans hx464_0
                      replace hx464_1 := (HB.out.cell (World.block_lt_of_cell? w _ hx464_1)).trans hx464_1
                      replace hx464_2 := (HB.out.cell (World.block_lt_of_cell? w _ hx464_2)).trans hx464_2
                      have HR464_1 := Aside0.mk hi464_1
                      have HC464_1 := Aside0.mk hl464_1
                      clear hi464_1 hl464_1
                      replace p464 := eq_true p464
                      replace q464 := eq_true q464
                      have p465 : 0 ≤ (x5_2 : Int) := of_decide_eq_true (by first | (with_reducible assumption) | assumption)
                      have q465 : x5_2 < (l0_1.length : Int) := of_decide_eq_true (by first | (with_reducible assumption) | assumption)
                      obtain ⟨ad465, e465, hx465_0⟩ := Kd.at_int HR0_1.out x5_2 p465 q465
                      have hw465_0 := hx465_0
                      cases e465
                      replace hx465_0 := (HB.out.cell (World.block_lt_of_cell? w _ hx465_0)).trans hx465_0
                      replace p465 := eq_true p465
                      replace q465 := eq_true q465
                      refine start_ (n := 19) (S := fun w' => w'.cell? ⟨gb460, 0, none⟩ = some (.slice A0_0 l0_0.length c0_0) ∧ w'.cell? ⟨gb460, 1, none⟩ = some (.slice (some ad465) l0_1.length c0_1) ∧ w'.cell? (ad462.add ((x5_2).toNat * 3)) = some (.int .i64 ((rd_T28 l1 x5_2).f0)) ∧ w'.cell? ⟨(ad462.add ((x5_2).toNat * 3)).block, (ad462.add ((x5_2).toNat * 3)).off + 1, none⟩ = some (.slice A462_1 ((rd_T28 l1 x5_2).f1).length c462_1) ∧ w'.cell? ⟨(ad462.add ((x5_2).toNat * 3)).block, (ad462.add ((x5_2).toNat * 3)).off + 2, none⟩ = some (.bool ((rd_T28 l1 x5_2).f2)) ∧ w'.cell? (ad462.add ((x5_2).toNat * 3)) = some (.int .i64 ((rd_T28 l1 x5_2).f0)) ∧ w'.cell? ⟨(ad462.add ((x5_2).toNat * 3)).block, (ad462.add ((x5_2).toNat * 3)).off + 1, none⟩ = some (.slice A464_1 ((rd_T28 l1 x5_2).f1).length c464_1) ∧ w'.cell? ⟨(ad462.add ((x5_2).toNat * 3)).block, (ad462.add ((x5_2).toNat * 3)).off + 2, none⟩ = some (.bool ((rd_T28 l1 x5_2).f2)) ∧ w'.cell? (ad465.add (x5_2).toNat) = some (.int .i64 (rd l0_1 x5_2))) (ds := []) #[false, false, false, false, false, false, false, false, false, false, false, false, false, false, false, false, false, false, false] (by kernel_rfl) rfl rfl ⟨(blk_cell BK460.out 0).trans rfl, (blk_cell BK460.out 1).trans rfl, ((HB.out.cell (World.block_lt_of_cell? w _ hw462_0)).trans hw462_0), ((HB.out.cell (World.block_lt_of_cell? w _ hw462_1)).trans hw462_1), ((HB.out.cell (World.block_lt_of_cell? w _ hw462_2)).trans hw462_2), ((HB.out.cell (World.block_lt_of_cell? w _ hw464_0)).trans hw464_0), ((HB.out.cell (World.block_lt_of_cell? w _ hw464_1)).trans hw464_1), ((HB.out.cell (World.block_lt_of_cell? w _ hw464_2)).trans hw464_2), ((HB.out.cell (World.block_lt_of_cell? w _ hw465_0)).trans hw465_0)⟩ (fun hHeld => ?_); refine with_tabW cobwebref11_Right.tab6 cobwebref11_Right.bits6 (fun HT_ HW_ => ?_)
                      generalize wr.drew = w19 at BK460 HB HR462_1 HR464_1 hx462_0 hx462_1 hx462_2 hx464_0 hx464_1 hx464_2 hx465_0 hHeld ⊢
                      refine pure_ (i := 0) (N := some 24) (v := ?_) (a' := ?_) #[true, false, false, false, false, false, false, false, false, false, false, false, false, false, false, false, false, false, false] rfl rfl (any_of HT_.out (by kernel_rfl)) (fun _ _ _ h => h) (Or.inl ⟨by rfl, ?_⟩) ?_ ?_
                      rotate_left
                      · intro w'
                        go_simp
                        with_reducible rfl
                      rotate_left
                      · simp only [Act.put, List.setIfInBounds_toArray, List.set_cons_zero, List.set_cons_succ, i64_w, i32_w]
                        rfl
                      refine pure_ (i := 1) (N := some 25) (v := ?_) (a' := ?_) #[true, true, false, false, false, false, false, false, false, false, false, false, false, false, false, false, false, false, false] rfl rfl (any_of HT_.out (by kernel_rfl)) (fun _ _ _ h => h) (Or.inl ⟨by rfl, ?_⟩) ?_ ?_
                      rotate_left
                      · intro w'
                        go_simp
                        with_reducible rfl
                      rotate_left
                      · simp only [Act.put, List.setIfInBounds_toArray, List.set_cons_zero, List.set_cons_succ, i64_w, i32_w]
                        rfl
                      refine pure_ (i := 2) (N := some 26) (v := ?_) (a' := ?_) #[true, true, true, false, false, false, false, false, false, false, false, false, false, false, false, false, false, false, false] rfl rfl (any_of HT_.out (by kernel_rfl)) (fun _ _ _ h => h) (Or.inl ⟨by rfl, ?_⟩) ?_ ?_
                      rotate_left
                      · intro w'
                        go_simp
                        with_reducible rfl
                      rotate_left
                      · simp only [Act.put, List.setIfInBounds_toArray, List.set_cons_zero, List.set_cons_succ, i64_w, i32_w]
                        rfl
                      refine take_ (i := 3) (N := some 27) (v := ?_) (a' := ?_) #[true, true, true, true, false, false, false, false, false, false, false, false, false, false, false, false, false, false, false] rfl rfl (take_ofW HT_.out HW_.out (by kernel_rfl)) (fun _ _ _ h => h) (Or.inl ⟨by rfl, ?_⟩) hHeld ?_ ?_
                      rotate_left
                      · rintro w' ⟨s0, s1, s2, s3, s4, s5, s6, s7, s8⟩
                        go_simp
                        with_reducible rfl
                      rotate_left
                      · simp only [Act.put, List.setIfInBounds_toArray, List.set_cons_zero, List.set_cons_succ, i64_w, i32_w]
                        rfl
                      refine one_ (i := 4) (N := some 28) #[true, true, true, true, true, false, false, false, false, false, false, false, false, false, false, false, false, false, false] rfl rfl (one_of HT_.out (by kernel_rfl)) (by decide) (fun K hK => ?_)
                      refine goes_ Try.func48 (by kernel_rfl) rfl #[.agg #[.int .i64 ((rd_T28 l1 x5_2).f0), .slice A462_1 ((rd_T28 l1 x5_2).f1).length c462_1, .bool ((rd_T28 l1 x5_2).f2)]] (by rfl) rfl rfl (by (try simp only [List.map_toArray, List.map_cons, List.map_nil]); first | done | rfl | (simp only [List.length_drop, List.length_take]; rfl)) ?_
                      with_reducible refine (cobwebref11_Leaf.calls k2 ((rd_T28 l1 x5_2).f0) _ _ ((rd_T28 l1 x5_2).f1) ((rd_T28 l1 x5_2).f2) true _ ?side1 ?side2 A16.out).mono ?_
                      (case side1 => repeat (first | exact (Kd.C_below HR462_1.out HB.out) | (with_reducible refine Kd.C_alloc ?_ _) | (with_reducible refine Kd.C_drewN ?_ _) | (with_reducible refine Kd.C_drew ?_)))
                      (case side2 => exact HC462_1.out)
                      rintro e w20 ⟨rfl, hb⟩
                      refine ⟨_, rfl, ?_⟩
                      have n0_ := Aside0.mk (blk_below (g := gb460) (o := .cells #[.slice A0_0 l0_0.length c0_0, .slice (some ad465) l0_1.length c0_1] 26 (0, 0)) (by (with_reducible repeat (first | refine blk_drewN ?_ _ | refine blk_drew ?_ | refine blk_alloc ?_ _)); exact BK460.out) hb)
                      have n1_ := Aside0.mk (below_step (by repeat (first | (with_reducible first | exact HB.out | apply below_alloc | apply pw_below_drewN | apply below_drew1 | refine below_set ?_ GE460.out) | exact HB.out)) hb)
                      clear BK460
                      clear HB
                      have BK460 := n0_
                      have HB := n1_
                      clear n0_ n1_
                      (try clear hb)
                      (try clear hb2)
                      (try clear hk)
                      (try clear hi)
                      refine hK.out _ _ ⟨(blk_cell BK460.out 0).trans rfl, (blk_cell BK460.out 1).trans rfl, ((HB.out.cell (World.block_lt_of_cell? w _ hw462_0)).trans hw462_0), ((HB.out.cell (World.block_lt_of_cell? w _ hw462_1)).trans hw462_1), ((HB.out.cell (World.block_lt_of_cell? w _ hw462_2)).trans hw462_2), ((HB.out.cell (World.block_lt_of_cell? w _ hw464_0)).trans hw464_0), ((HB.out.cell (World.block_lt_of_cell? w _ hw464_1)).trans hw464_1), ((HB.out.cell (World.block_lt_of_cell? w _ hw464_2)).trans hw464_2), ((HB.out.cell (World.block_lt_of_cell? w _ hw465_0)).trans hw465_0)⟩ (fun hHeld => ?_)
                      clear hK K
                      refine norm_ (a' := ?_) ?_ ?_
                      rotate_left
                      · show Act.put _ (some 28) _ = _
                        simp only [Act.put, List.setIfInBounds_toArray, List.set_cons_zero, List.set_cons_succ, i64_w, i32_w]
                        rfl
                      refine pure_ (i := 5) (N := some 29) (v := ?_) (a' := ?_) #[true, true, true, true, true, true, false, false, false, false, false, false, false, false, false, false, false, false, false] rfl rfl (any_of HT_.out (by kernel_rfl)) (fun _ _ _ h => h) (Or.inl ⟨by rfl, ?_⟩) ?_ ?_
                      rotate_left
                      · intro w'
                        go_simp
                        with_reducible rfl
                      rotate_left
                      · simp only [Act.put, List.setIfInBounds_toArray, List.set_cons_zero, List.set_cons_succ, i64_w, i32_w]
                        rfl
                      refine pure_ (i := 6) (N := some 30) (v := ?_) (a' := ?_) #[true, true, true, true, true, true, true, false, false, false, false, false, false, false, false, false, false, false, false] rfl rfl (any_of HT_.out (by kernel_rfl)) (fun _ _ _ h => h) (Or.inl ⟨by rfl, ?_⟩) ?_ ?_
                      rotate_left
                      · intro w'
                        go_simp
                        with_reducible rfl
                      rotate_left
                      · simp only [Act.put, List.setIfInBounds_toArray, List.set_cons_zero, List.set_cons_succ, i64_w, i32_w]
                        rfl
                      refine pure_ (i := 7) (N := some 31) (v := ?_) (a' := ?_) #[true, true, true, true, true, true, true, true, false, false, false, false, false, false, false, false, false, false, false] rfl rfl (any_of HT_.out (by kernel_rfl)) (fun _ _ _ h => h) (Or.inl ⟨by rfl, ?_⟩) ?_ ?_
                      rotate_left
                      · intro w'
                        go_simp
                        with_reducible rfl
                      rotate_left
                      · simp only [Act.put, List.setIfInBounds_toArray, List.set_cons_zero, List.set_cons_succ, i64_w, i32_w]
                        rfl
                      refine pure_ (i := 8) (N := some 32) (v := ?_) (a' := ?_) #[true, true, true, true, true, true, true, true, true, false, false, false, false, false, false, false, false, false, false] rfl rfl (any_of HT_.out (by kernel_rfl)) (fun _ _ _ h => h) (Or.inl ⟨by rfl, ?_⟩) ?_ ?_
                      rotate_left
                      · intro w'
                        go_simp
                        with_reducible rfl
                      rotate_left
                      · simp only [Act.put, List.setIfInBounds_toArray, List.set_cons_zero, List.set_cons_succ, i64_w, i32_w]
                        rfl
                      refine pure_ (i := 9) (N := some 33) (v := ?_) (a' := ?_) #[true, true, true, true, true, true, true, true, true, true, false, false, false, false, false, false, false, false, false] rfl rfl (any_of HT_.out (by kernel_rfl)) (fun _ _ _ h => h) (Or.inl ⟨by rfl, ?_⟩) ?_ ?_
                      rotate_left
                      · intro w'
                        go_simp
                        with_reducible rfl
                      rotate_left
                      · simp only [Act.put, List.setIfInBounds_toArray, List.set_cons_zero, List.set_cons_succ, i64_w, i32_w]
                        rfl
                      refine pure_ (i := 10) (N := some 34) (v := ?_) (a' := ?_) #[true, true, true, true, true, true, true, true, true, true, true, false, false, false, false, false, false, false, false] rfl rfl (any_of HT_.out (by kernel_rfl)) (fun _ _ _ h => h) (Or.inl ⟨by rfl, ?_⟩) ?_ ?_
                      rotate_left
                      · intro w'
                        go_simp
                        with_reducible rfl
                      rotate_left
                      · simp only [Act.put, List.setIfInBounds_toArray, List.set_cons_zero, List.set_cons_succ, i64_w, i32_w]
                        rfl
                      refine pure_ (i := 12) (N := some 36) (v := ?_) (a' := ?_) #[true, true, true, true, true, true, true, true, true, true, true, false, true, false, false, false, false, false, false] rfl rfl (any_of HT_.out (by kernel_rfl)) (fun _ _ _ h => h) (Or.inl ⟨by rfl, ?_⟩) ?_ ?_
                      rotate_left
                      · intro w'
                        go_simp
                        with_reducible rfl
                      rotate_left
                      · simp only [Act.put, List.setIfInBounds_toArray, List.set_cons_zero, List.set_cons_succ, i64_w, i32_w]
                        rfl
                      refine pure_ (i := 14) (N := some 38) (v := ?_) (a' := ?_) #[true, true, true, true, true, true, true, true, true, true, true, false, true, false, true, false, false, false, false] rfl rfl (any_of HT_.out (by kernel_rfl)) (fun _ _ _ h => h) (Or.inl ⟨by rfl, ?_⟩) ?_ ?_
                      rotate_left
                      · intro w'
                        go_simp
                        with_reducible rfl
                      rotate_left
                      · simp only [Act.put, List.setIfInBounds_toArray, List.set_cons_zero, List.set_cons_succ, i64_w, i32_w]
                        rfl
                      refine take_ (i := 11) (N := some 35) (v := ?_) (a' := ?_) #[true, true, true, true, true, true, true, true, true, true, true, true, true, false, true, false, false, false, false] rfl rfl (take_ofW HT_.out HW_.out (by kernel_rfl)) (fun _ _ _ h => h) (Or.inl ⟨by rfl, ?_⟩) hHeld ?_ ?_
                      rotate_left
                      · rintro w' ⟨s0, s1, s2, s3, s4, s5, s6, s7, s8⟩
                        go_simp
                        with_reducible rfl
                      rotate_left
                      · simp only [Act.put, List.setIfInBounds_toArray, List.set_cons_zero, List.set_cons_succ, i64_w, i32_w]
                        rfl
                      refine take_ (i := 13) (N := some 37) (v := ?_) (a' := ?_) #[true, true, true, true, true, true, true, true, true, true, true, true, true, true, true, false, false, false, false] rfl rfl (take_ofW HT_.out HW_.out (by kernel_rfl)) (fun _ _ _ h => h) (Or.inl ⟨by rfl, ?_⟩) hHeld ?_ ?_
                      rotate_left
                      · rintro w' ⟨s0, s1, s2, s3, s4, s5, s6, s7, s8⟩
                        go_simp
                        with_reducible rfl
                      rotate_left
                      · simp only [Act.put, List.setIfInBounds_toArray, List.set_cons_zero, List.set_cons_succ, i64_w, i32_w]
                        rfl
                      refine pure_ (i := 15) (N := some 39) (v := ?_) (a' := ?_) #[true, true, true, true, true, true, true, true, true, true, true, true, true, true, true, true, false, false, false] rfl rfl (any_of HT_.out (by kernel_rfl)) (fun _ _ _ h => h) (Or.inl ⟨by rfl, ?_⟩) ?_ ?_
                      rotate_left
                      · intro w'
                        go_simp
                        with_reducible rfl
                      rotate_left
                      · simp only [Act.put, List.setIfInBounds_toArray, List.set_cons_zero, List.set_cons_succ, i64_w, i32_w]
                        rfl
                      refine take_ (i := 16) (N := some 40) (v := ?_) (a' := ?_) #[true, true, true, true, true, true, true, true, true, true, true, true, true, true, true, true, true, false, false] rfl rfl (take_ofW HT_.out HW_.out (by kernel_rfl)) (fun _ _ _ h => h) (Or.inl ⟨by rfl, ?_⟩) hHeld ?_ ?_
                      rotate_left
                      · rintro w' ⟨s0, s1, s2, s3, s4, s5, s6, s7, s8⟩
                        go_simp
                        with_reducible rfl
                      rotate_left
                      · simp only [Act.put, List.setIfInBounds_toArray, List.set_cons_zero, List.set_cons_succ, i64_w, i32_w]
                        rfl
                      refine pure_ (i := 17) (N := some 41) (v := ?_) (a' := ?_) #[true, true, true, true, true, true, true, true, true, true, true, true, true, true, true, true, true, true, false] rfl rfl (any_of HT_.out (by kernel_rfl)) (fun _ _ _ h => h) (Or.inl ⟨by rfl, ?_⟩) ?_ ?_
                      rotate_left
                      · intro w'
                        go_simp
                        with_reducible rfl
                      rotate_left
                      · simp only [Act.put, List.setIfInBounds_toArray, List.set_cons_zero, List.set_cons_succ, i64_w, i32_w]
                        rfl
                      refine pure_ (i := 18) (N := some 42) (v := ?_) (a' := ?_) #[true, true, true, true, true, true, true, true, true, true, true, true, true, true, true, true, true, true, true] rfl rfl (any_of HT_.out (by kernel_rfl)) (fun _ _ _ h => h) (Or.inl ⟨by rfl, ?_⟩) ?_ ?_
                      rotate_left
                      · intro w'
                        go_simp
                        with_reducible rfl
                      rotate_left
                      · simp only [Act.put, List.setIfInBounds_toArray, List.set_cons_zero, List.set_cons_succ, i64_w, i32_w]
                        rfl
                      refine done_ (done_of HT_.out (by kernel_rfl)) ?_
                      try go_wp2
                      go_meet
                      case rel => exact ⟨_, ((((rd_T28 l1 x5_2).f0) != (rd l0_1 x5_2))), (by first | rfl | (simp; done) | (simp [*]; done)), H', ⟨by have := HJ2.out; have := HK2.out; first | omega | exact Nat.le_refl _⟩, ⟨by (with_reducible repeat (first | refine blk_drewN ?_ _ | refine blk_drew ?_ | refine blk_alloc ?_ _)); exact BK460.out⟩, ⟨by repeat (first | (with_reducible first | exact HB.out | apply below_alloc | apply pw_below_drewN | apply below_drew1 | refine below_set ?_ GE460.out) | exact HB.out)⟩⟩
                    · rw [if_neg c18] at H
                      exact absurd H (by simp)
                  · replace c17 := Bool.eq_false_iff.mpr c17
                    subst c17
                    have H1 : (cobwebref11_Right.j2 k2 l1 x5_2 true l0_0 l0_1) = some r := by rw [if_neg (show ¬ (false = true) by decide)] at H; exact H
                    clear H
                    have H := H1
                    clear H1
                    have H' := Aside0.mk H
                    clear H
                    try go_wp2
                    have n0_ := Aside0.mk (blk_drew BK460.out)
                    have n1_ := Aside0.mk (below_drew1 HB.out)
                    clear BK460
                    clear HB
                    have BK460 := n0_
                    have HB := n1_
                    clear n0_ n1_
                    have p462 : 0 ≤ (x5_2 : Int) := of_decide_eq_true (by first | (with_reducible assumption) | assumption)
                    have q462 : x5_2 < (l1.length : Int) := of_decide_eq_true (by first | (with_reducible assumption) | assumption)
                    obtain ⟨ad462, A462_1, c462_1, e462, hx462_0, hx462_1, hx462_2, hl462_1, hi462_1⟩ := at_T28 HR1.out x5_2 p462 q462
                    have hw462_2 := hx462_2
                    have hw462_1 := hx462_1
                    have hw462_0 := hx462_0
                    cases e462
                    replace hx462_0 := (HB.out.cell (World.block_lt_of_cell? w _ hx462_0)).trans hx462_0
                    replace hx462_1 := (HB.out.cell (World.block_lt_of_cell? w _ hx462_1)).trans hx462_1
                    replace hx462_2 := (HB.out.cell (World.block_lt_of_cell? w _ hx462_2)).trans hx462_2
                    have HR462_1 := Aside0.mk hi462_1
                    have HC462_1 := Aside0.mk hl462_1
                    clear hi462_1 hl462_1
                    replace p462 := eq_true p462
                    replace q462 := eq_true q462
                    refine start_ (n := 19) (S := fun w' => w'.cell? (ad462.add ((x5_2).toNat * 3)) = some (.int .i64 ((rd_T28 l1 x5_2).f0)) ∧ w'.cell? ⟨(ad462.add ((x5_2).toNat * 3)).block, (ad462.add ((x5_2).toNat * 3)).off + 1, none⟩ = some (.slice A462_1 ((rd_T28 l1 x5_2).f1).length c462_1) ∧ w'.cell? ⟨(ad462.add ((x5_2).toNat * 3)).block, (ad462.add ((x5_2).toNat * 3)).off + 2, none⟩ = some (.bool ((rd_T28 l1 x5_2).f2))) (ds := []) #[false, false, false, false, false, false, false, false, false, false, false, false, false, false, false, false, false, false, false] (by kernel_rfl) rfl rfl ⟨((HB.out.cell (World.block_lt_of_cell? w _ hw462_0)).trans hw462_0), ((HB.out.cell (World.block_lt_of_cell? w _ hw462_1)).trans hw462_1), ((HB.out.cell (World.block_lt_of_cell? w _ hw462_2)).trans hw462_2)⟩ (fun hHeld => ?_); refine with_tabW cobwebref11_Right.tab6 cobwebref11_Right.bits6 (fun HT_ HW_ => ?_)
                    generalize wr.drew = w21 at BK460 HB HR462_1 hx462_0 hx462_1 hx462_2 hHeld ⊢
                    refine pure_ (i := 0) (N := some 24) (v := ?_) (a' := ?_) #[true, false, false, false, false, false, false, false, false, false, false, false, false, false, false, false, false, false, false] rfl rfl (any_of HT_.out (by kernel_rfl)) (fun _ _ _ h => h) (Or.inl ⟨by rfl, ?_⟩) ?_ ?_
                    rotate_left
                    · intro w'
                      go_simp
                      with_reducible rfl
                    rotate_left
                    · simp only [Act.put, List.setIfInBounds_toArray, List.set_cons_zero, List.set_cons_succ, i64_w, i32_w]
                      rfl
                    refine pure_ (i := 1) (N := some 25) (v := ?_) (a' := ?_) #[true, true, false, false, false, false, false, false, false, false, false, false, false, false, false, false, false, false, false] rfl rfl (any_of HT_.out (by kernel_rfl)) (fun _ _ _ h => h) (Or.inl ⟨by rfl, ?_⟩) ?_ ?_
                    rotate_left
                    · intro w'
                      go_simp
                      with_reducible rfl
                    rotate_left
                    · simp only [Act.put, List.setIfInBounds_toArray, List.set_cons_zero, List.set_cons_succ, i64_w, i32_w]
                      rfl
                    refine pure_ (i := 2) (N := some 26) (v := ?_) (a' := ?_) #[true, true, true, false, false, false, false, false, false, false, false, false, false, false, false, false, false, false, false] rfl rfl (any_of HT_.out (by kernel_rfl)) (fun _ _ _ h => h) (Or.inl ⟨by rfl, ?_⟩) ?_ ?_
                    rotate_left
                    · intro w'
                      go_simp
                      with_reducible rfl
                    rotate_left
                    · simp only [Act.put, List.setIfInBounds_toArray, List.set_cons_zero, List.set_cons_succ, i64_w, i32_w]
                      rfl
                    refine take_ (i := 3) (N := some 27) (v := ?_) (a' := ?_) #[true, true, true, true, false, false, false, false, false, false, false, false, false, false, false, false, false, false, false] rfl rfl (take_ofW HT_.out HW_.out (by kernel_rfl)) (fun _ _ _ h => h) (Or.inl ⟨by rfl, ?_⟩) hHeld ?_ ?_
                    rotate_left
                    · rintro w' ⟨s0, s1, s2⟩
                      go_simp
                      with_reducible rfl
                    rotate_left
                    · simp only [Act.put, List.setIfInBounds_toArray, List.set_cons_zero, List.set_cons_succ, i64_w, i32_w]
                      rfl
                    refine one_ (i := 4) (N := some 28) #[true, true, true, true, true, false, false, false, false, false, false, false, false, false, false, false, false, false, false] rfl rfl (one_of HT_.out (by kernel_rfl)) (by decide) (fun K hK => ?_)
                    refine goes_ Try.func48 (by kernel_rfl) rfl #[.agg #[.int .i64 ((rd_T28 l1 x5_2).f0), .slice A462_1 ((rd_T28 l1 x5_2).f1).length c462_1, .bool ((rd_T28 l1 x5_2).f2)]] (by rfl) rfl rfl (by (try simp only [List.map_toArray, List.map_cons, List.map_nil]); first | done | rfl | (simp only [List.length_drop, List.length_take]; rfl)) ?_
                    with_reducible refine (cobwebref11_Leaf.calls k2 ((rd_T28 l1 x5_2).f0) _ _ ((rd_T28 l1 x5_2).f1) ((rd_T28 l1 x5_2).f2) false _ ?side1 ?side2 A16.out).mono ?_
                    (case side1 => repeat (first | exact (Kd.C_below HR462_1.out HB.out) | (with_reducible refine Kd.C_alloc ?_ _) | (with_reducible refine Kd.C_drewN ?_ _) | (with_reducible refine Kd.C_drew ?_)))
                    (case side2 => exact HC462_1.out)
                    rintro e w22 ⟨rfl, hb⟩
                    refine ⟨_, rfl, ?_⟩
                    have n0_ := Aside0.mk (blk_below (g := gb460) (o := .cells #[.slice A0_0 l0_0.length c0_0, .slice A0_1 l0_1.length c0_1] 26 (0, 0)) (by (with_reducible repeat (first | refine blk_drewN ?_ _ | refine blk_drew ?_ | refine blk_alloc ?_ _)); exact BK460.out) hb)
                    have n1_ := Aside0.mk (below_step (by repeat (first | (with_reducible first | exact HB.out | apply below_alloc | apply pw_below_drewN | apply below_drew1 | refine below_set ?_ GE460.out) | exact HB.out)) hb)
                    clear BK460
                    clear HB
                    have BK460 := n0_
                    have HB := n1_
                    clear n0_ n1_
                    (try clear hb)
                    (try clear hb2)
                    (try clear hk)
                    (try clear hi)
                    refine hK.out _ _ ⟨((HB.out.cell (World.block_lt_of_cell? w _ hw462_0)).trans hw462_0), ((HB.out.cell (World.block_lt_of_cell? w _ hw462_1)).trans hw462_1), ((HB.out.cell (World.block_lt_of_cell? w _ hw462_2)).trans hw462_2)⟩ (fun hHeld => ?_)
                    clear hK K
                    refine norm_ (a' := ?_) ?_ ?_
                    rotate_left
                    · show Act.put _ (some 28) _ = _
                      simp only [Act.put, List.setIfInBounds_toArray, List.set_cons_zero, List.set_cons_succ, i64_w, i32_w]
                      rfl
                    refine pure_ (i := 5) (N := some 29) (v := ?_) (a' := ?_) #[true, true, true, true, true, true, false, false, false, false, false, false, false, false, false, false, false, false, false] rfl rfl (any_of HT_.out (by kernel_rfl)) (fun _ _ _ h => h) (Or.inl ⟨by rfl, ?_⟩) ?_ ?_
                    rotate_left
                    · intro w'
                      go_simp
                      with_reducible rfl
                    rotate_left
                    · simp only [Act.put, List.setIfInBounds_toArray, List.set_cons_zero, List.set_cons_succ, i64_w, i32_w]
                      rfl
                    refine pure_ (i := 6) (N := some 30) (v := ?_) (a' := ?_) #[true, true, true, true, true, true, true, false, false, false, false, false, false, false, false, false, false, false, false] rfl rfl (any_of HT_.out (by kernel_rfl)) (fun _ _ _ h => h) (Or.inl ⟨by rfl, ?_⟩) ?_ ?_
                    rotate_left
                    · intro w'
                      go_simp
                      with_reducible rfl
                    rotate_left
                    · simp only [Act.put, List.setIfInBounds_toArray, List.set_cons_zero, List.set_cons_succ, i64_w, i32_w]
                      rfl
                    refine pure_ (i := 7) (N := some 31) (v := undef) (a' := ?_) #[true, true, true, true, true, true, true, true, false, false, false, false, false, false, false, false, false, false, false] rfl rfl (any_of HT_.out (by kernel_rfl)) (fun _ _ _ h => h) (Or.inr ⟨by rfl, rfl⟩) ?_ ?_
                    rotate_left
                    · simp only [Act.put, List.setIfInBounds_toArray, List.set_cons_zero, List.set_cons_succ, i64_w, i32_w]
                      rfl
                    refine pure_ (i := 8) (N := some 32) (v := undef) (a' := ?_) #[true, true, true, true, true, true, true, true, true, false, false, false, false, false, false, false, false, false, false] rfl rfl (any_of HT_.out (by kernel_rfl)) (fun _ _ _ h => h) (Or.inr ⟨by rfl, rfl⟩) ?_ ?_
                    rotate_left
                    · simp only [Act.put, List.setIfInBounds_toArray, List.set_cons_zero, List.set_cons_succ, i64_w, i32_w]
                      rfl
                    refine pure_ (i := 9) (N := some 33) (v := undef) (a' := ?_) #[true, true, true, true, true, true, true, true, true, true, false, false, false, false, false, false, false, false, false] rfl rfl (any_of HT_.out (by kernel_rfl)) (fun _ _ _ h => h) (Or.inr ⟨by rfl, rfl⟩) ?_ ?_
                    rotate_left
                    · simp only [Act.put, List.setIfInBounds_toArray, List.set_cons_zero, List.set_cons_succ, i64_w, i32_w]
                      rfl
                    refine pure_ (i := 10) (N := some 34) (v := undef) (a' := ?_) #[true, true, true, true, true, true, true, true, true, true, true, false, false, false, false, false, false, false, false] rfl rfl (any_of HT_.out (by kernel_rfl)) (fun _ _ _ h => h) (Or.inr ⟨by rfl, rfl⟩) ?_ ?_
                    rotate_left
                    · simp only [Act.put, List.setIfInBounds_toArray, List.set_cons_zero, List.set_cons_succ, i64_w, i32_w]
                      rfl
                    refine pure_ (i := 11) (N := some 35) (v := undef) (a' := ?_) #[true, true, true, true, true, true, true, true, true, true, true, true, false, false, false, false, false, false, false] rfl rfl (any_of HT_.out (by kernel_rfl)) (fun _ _ _ h => h) (Or.inr ⟨by rfl, rfl⟩) ?_ ?_
                    rotate_left
                    · simp only [Act.put, List.setIfInBounds_toArray, List.set_cons_zero, List.set_cons_succ, i64_w, i32_w]
                      rfl
                    refine pure_ (i := 12) (N := some 36) (v := undef) (a' := ?_) #[true, true, true, true, true, true, true, true, true, true, true, true, true, false, false, false, false, false, false] rfl rfl (any_of HT_.out (by kernel_rfl)) (fun _ _ _ h => h) (Or.inr ⟨by rfl, rfl⟩) ?_ ?_
                    rotate_left
                    · simp only [Act.put, List.setIfInBounds_toArray, List.set_cons_zero, List.set_cons_succ, i64_w, i32_w]
                      rfl
                    refine pure_ (i := 13) (N := some 37) (v := undef) (a' := ?_) #[true, true, true, true, true, true, true, true, true, true, true, true, true, true, false, false, false, false, false] rfl rfl (any_of HT_.out (by kernel_rfl)) (fun _ _ _ h => h) (Or.inr ⟨by rfl, rfl⟩) ?_ ?_
                    rotate_left
                    · simp only [Act.put, List.setIfInBounds_toArray, List.set_cons_zero, List.set_cons_succ, i64_w, i32_w]
                      rfl
                    refine pure_ (i := 14) (N := some 38) (v := undef) (a' := ?_) #[true, true, true, true, true, true, true, true, true, true, true, true, true, true, true, false, false, false, false] rfl rfl (any_of HT_.out (by kernel_rfl)) (fun _ _ _ h => h) (Or.inr ⟨by rfl, rfl⟩) ?_ ?_
                    rotate_left
                    · simp only [Act.put, List.setIfInBounds_toArray, List.set_cons_zero, List.set_cons_succ, i64_w, i32_w]
                      rfl
                    refine pure_ (i := 15) (N := some 39) (v := undef) (a' := ?_) #[true, true, true, true, true, true, true, true, true, true, true, true, true, true, true, true, false, false, false] rfl rfl (any_of HT_.out (by kernel_rfl)) (fun _ _ _ h => h) (Or.inr ⟨by rfl, rfl⟩) ?_ ?_
                    rotate_left
                    · simp only [Act.put, List.setIfInBounds_toArray, List.set_cons_zero, List.set_cons_succ, i64_w, i32_w]
                      rfl
                    refine pure_ (i := 16) (N := some 40) (v := undef) (a' := ?_) #[true, true, true, true, true, true, true, true, true, true, true, true, true, true, true, true, true, false, false] rfl rfl (any_of HT_.out (by kernel_rfl)) (fun _ _ _ h => h) (Or.inr ⟨by rfl, rfl⟩) ?_ ?_
                    rotate_left
                    · simp only [Act.put, List.setIfInBounds_toArray, List.set_cons_zero, List.set_cons_succ, i64_w, i32_w]
                      rfl
                    refine pure_ (i := 17) (N := some 41) (v := undef) (a' := ?_) #[true, true, true, true, true, true, true, true, true, true, true, true, true, true, true, true, true, true, false] rfl rfl (any_of HT_.out (by kernel_rfl)) (fun _ _ _ h => h) (Or.inr ⟨by rfl, rfl⟩) ?_ ?_
                    rotate_left
                    · simp only [Act.put, List.setIfInBounds_toArray, List.set_cons_zero, List.set_cons_succ, i64_w, i32_w]
                      rfl
                    refine pure_ (i := 18) (N := some 42) (v := ?_) (a' := ?_) #[true, true, true, true, true, true, true, true, true, true, true, true, true, true, true, true, true, true, true] rfl rfl (any_of HT_.out (by kernel_rfl)) (fun _ _ _ h => h) (Or.inl ⟨by rfl, ?_⟩) ?_ ?_
                    rotate_left
                    · intro w'
                      go_simp
                      with_reducible rfl
                    rotate_left
                    · simp only [Act.put, List.setIfInBounds_toArray, List.set_cons_zero, List.set_cons_succ, i64_w, i32_w]
                      rfl
                    refine done_ (done_of HT_.out (by kernel_rfl)) ?_
                    try go_wp2
                    go_meet
                    case rel => exact ⟨_, (true), (by first | rfl | (simp; done) | (simp [*]; done)), H', ⟨by have := HJ2.out; have := HK2.out; first | omega | exact Nat.le_refl _⟩, ⟨by (with_reducible repeat (first | refine blk_drewN ?_ _ | refine blk_drew ?_ | refine blk_alloc ?_ _)); exact BK460.out⟩, ⟨by repeat (first | (with_reducible first | exact HB.out | apply below_alloc | apply pw_below_drewN | apply below_drew1 | refine below_set ?_ GE460.out) | exact HB.out)⟩⟩
                · rw [if_neg c15] at H
                  exact absurd H (by simp)
              case rest =>
                clear HC14
                try clear c1
                try clear c2
                try clear p2
                try clear c4
                try clear p4
                try clear q4
                try clear hx4
                try clear c6
                try clear c12
                try clear c13
                try clear c13b0
                try clear c15
                try clear c15b0
                try clear c17
                try clear c18
                try clear c18b0
                try clear hcz10_0
                try clear hcz10_1
                try clear hcz7_0
                try clear hcz7_1
                try clear hcz9_0
                try clear hcz9_1
                try clear hfz10_0
                try clear hfz10_1
                try clear hfz7_0
                try clear hfz7_1
                try clear hfz9_0
                try clear hfz9_1
                try clear hx462_0
                try clear hx462_1
                try clear hx462_2
                try clear hx464_0
                try clear hx464_1
                try clear hx464_2
                try clear hx465_0
                try clear p2
                try clear p462
                try clear p464
                try clear p465
                try clear q462
                try clear q464
                try clear q465
                obtain ⟨kq, x42_13, rfl, HA, HJ13, BK460, HB⟩ := hcut
                cases kq with
                | zero => exact absurd HA.out (by simp [cobwebref11_Right.j2])
                | succ kj13 =>
                  have H := HA.out
                  clear HA
                  simp only [cobwebref11_Right.j2] at H
                  by_cases c23 : x42_13 = true
                  · subst c23
                    have H1 : (some false) = some r := by rw [if_pos rfl] at H; exact H
                    clear H
                    have H := H1
                    clear H1
                    obtain rfl := Option.some.inj H
                    go_wp2
                    go_ret
                    exact ⟨by first | rfl | (simp [errW_none, errW_some] <;> rfl) | (simp [*, errW_none, errW_some] <;> rfl), by repeat (first | (with_reducible first | exact HB.out | apply below_alloc | apply pw_below_drewN | apply below_drew1 | refine below_set ?_ GE460.out) | exact HB.out)⟩
                  · replace c23 := Bool.eq_false_iff.mpr c23
                    subst c23
                    have H1 : (cobwebref11_Right.l1 kj13 l1 x5_2 0 l0_0 l0_1) = some r := by rw [if_neg (show ¬ (false = true) by decide)] at H; exact H
                    clear H
                    have H := H1
                    clear H1
                    have H' := Aside0.mk H
                    clear H
                    go_wp2
                    go_loopg [6] kj13 (fun kq v6 w' => ∃ (x6_4 : Int), v6 = .int .i64 x6_4 ∧ Aside0 (cobwebref11_Right.l1 kq l1 x5_2 x6_4 l0_0 l0_1 = some r) ∧ Aside0 (kq ≤ kj13) ∧ Aside0 (w'.heap[gb460]? = some (.cells #[(.slice A0_0 l0_0.length c0_0), (.slice A0_1 l0_1.length c0_1)] 26 (0, 0))) ∧ Aside0 (Below w.heap.size w w'))
                    case atStart => exact ⟨(0), (by first | rfl | (simp; done) | (simp [*]; done)), H', ⟨Nat.le_refl _⟩, ⟨by (with_reducible repeat (first | refine blk_drewN ?_ _ | refine blk_drew ?_ | refine blk_alloc ?_ _)); exact BK460.out⟩, ⟨by repeat (first | (with_reducible first | exact HB.out | apply below_alloc | apply pw_below_drewN | apply below_drew1 | refine below_set ?_ GE460.out) | exact HB.out)⟩⟩
                    case round =>
                      clear H'
                      try clear c1
                      try clear c2
                      try clear p2
                      try clear c4
                      try clear p4
                      try clear q4
                      try clear hx4
                      try clear c6
                      try clear c12
                      try clear c13
                      try clear c13b0
                      try clear c15
                      try clear c15b0
                      try clear c17
                      try clear c18
                      try clear c18b0
                      try clear c23
                      try clear hcz10_0
                      try clear hcz10_1
                      try clear hcz7_0
                      try clear hcz7_1
                      try clear hcz9_0
                      try clear hcz9_1
                      try clear hfz10_0
                      try clear hfz10_1
                      try clear hfz7_0
                      try clear hfz7_1
                      try clear hfz9_0
                      try clear hfz9_1
                      try clear hx462_0
                      try clear hx462_1
                      try clear hx462_2
                      try clear hx464_0
                      try clear hx464_1
                      try clear hx464_2
                      try clear hx465_0
                      try clear p2
                      try clear p4
                      try clear p462
                      try clear p464
                      try clear p465
                      try clear q4
                      try clear q462
                      try clear q464
                      try clear q465
                      obtain ⟨x6_4, rfl, HA, HK4, BK460, HB⟩ := hrel
                      cases gk with
                      | zero => exact absurd HA.out (by simp [cobwebref11_Right.l1])
                      | succ k4 =>
                        have H := HA.out
                        clear HA
                        simp only [cobwebref11_Right.l1] at H
                        by_cases c24 : 0 ≤ x5_2
                        · rw [if_pos c24] at H
                          have c24b0 : decide (0 ≤ x5_2) = true := decide_eq_true c24
                          clear c24
                          by_cases c25 : x5_2 < (l1.length : Int)
                          · rw [if_pos c25] at H
                            have c25b0 : decide (x5_2 < (l1.length : Int)) = true := decide_eq_true c25
                            clear c25
                            by_cases c26 : x6_4 < (((rd_T28 l1 x5_2).f1).length : Int)
                            · rw [if_pos c26] at H
                              have c26b0 : decide (x6_4 < (((rd_T28 l1 x5_2).f1).length : Int)) = true := decide_eq_true c26
                              clear c26
                              by_cases c27 : 0 ≤ x6_4
                              · rw [if_pos c27] at H
                                have c27b0 : decide (0 ≤ x6_4) = true := decide_eq_true c27
                                clear c27
                                replace H := Option.bind_eq_some_iff.mp H
                                obtain ⟨t469, A280, H⟩ := H
                                replace H : (if t469 = x5_2 then (cobwebref11_Right.l1 k4 l1 x5_2 (wrap64 (x6_4 + 1)) l0_0 l0_1) else (some false)) = some r := H
                                have A28 := Aside0.mk A280
                                clear A280
                                by_cases c29 : t469 = x5_2
                                · rw [if_pos c29] at H
                                  have c29b0 : (t469 == x5_2) = true := beq_iff_eq.mpr c29
                                  have c29b1 : (t469 != x5_2) = false := bne_eq_false_iff_eq.mpr c29
                                  clear c29
                                  have H' := Aside0.mk H
                                  clear H
                                  have p466 : 0 ≤ (x5_2 : Int) := of_decide_eq_true (by first | (with_reducible assumption) | assumption)
                                  have q466 : x5_2 < (l1.length : Int) := of_decide_eq_true (by first | (with_reducible assumption) | assumption)
                                  obtain ⟨ad466, A466_1, c466_1, e466, hx466_0, hx466_1, hx466_2, hl466_1, hi466_1⟩ := at_T28 HR1.out x5_2 p466 q466
                                  cases e466
                                  replace hx466_0 := (HB.out.cell (World.block_lt_of_cell? w _ hx466_0)).trans hx466_0
                                  replace hx466_1 := (HB.out.cell (World.block_lt_of_cell? w _ hx466_1)).trans hx466_1
                                  replace hx466_2 := (HB.out.cell (World.block_lt_of_cell? w _ hx466_2)).trans hx466_2
                                  have HR466_1 := Aside0.mk hi466_1
                                  have HC466_1 := Aside0.mk hl466_1
                                  clear hi466_1 hl466_1
                                  replace p466 := eq_true p466
                                  replace q466 := eq_true q466
                                  try go_wp2
                                  have n0_ := Aside0.mk (blk_drew BK460.out)
                                  have n1_ := Aside0.mk (below_drew1 HB.out)
                                  clear BK460
                                  clear HB
                                  have BK460 := n0_
                                  have HB := n1_
                                  clear n0_ n1_
                                  have p467 : 0 ≤ (x5_2 : Int) := of_decide_eq_true (by first | (with_reducible assumption) | assumption)
                                  have q467 : x5_2 < (l1.length : Int) := of_decide_eq_true (by first | (with_reducible assumption) | assumption)
                                  obtain ⟨ad467, A467_1, c467_1, e467, hx467_0, hx467_1, hx467_2, hl467_1, hi467_1⟩ := at_T28 HR1.out x5_2 p467 q467
                                  have hw467_2 := hx467_2
                                  have hw467_1 := hx467_1
                                  have hw467_0 := hx467_0
                                  obtain rfl : ad466 = ad467 := (by injection e467)
                                  replace hx467_0 := (HB.out.cell (World.block_lt_of_cell? w _ hx467_0)).trans hx467_0
                                  replace hx467_1 := (HB.out.cell (World.block_lt_of_cell? w _ hx467_1)).trans hx467_1
                                  replace hx467_2 := (HB.out.cell (World.block_lt_of_cell? w _ hx467_2)).trans hx467_2
                                  have HR467_1 := Aside0.mk hi467_1
                                  have HC467_1 := Aside0.mk hl467_1
                                  clear hi467_1 hl467_1
                                  replace p467 := eq_true p467
                                  replace q467 := eq_true q467
                                  have p468 : 0 ≤ (x6_4 : Int) := of_decide_eq_true (by first | (with_reducible assumption) | assumption)
                                  have q468 : x6_4 < (((rd_T28 l1 x5_2).f1).length : Int) := of_decide_eq_true (by first | (with_reducible assumption) | assumption)
                                  obtain ⟨ad468, e468, hx468_0⟩ := Kd.at_string HR467_1.out x6_4 p468 q468
                                  have hw468_0 := hx468_0
                                  cases e468
                                  replace hx468_0 := (HB.out.cell (World.block_lt_of_cell? w _ hx468_0)).trans hx468_0
                                  replace p468 := eq_true p468
                                  replace q468 := eq_true q468
                                  refine start_ (n := 12) (S := fun w' => w'.cell? ⟨gb460, 0, none⟩ = some (.slice A0_0 l0_0.length c0_0) ∧ w'.cell? ⟨gb460, 1, none⟩ = some (.slice A0_1 l0_1.length c0_1) ∧ w'.cell? (ad466.add ((x5_2).toNat * 3)) = some (.int .i64 ((rd_T28 l1 x5_2).f0)) ∧ w'.cell? ⟨(ad466.add ((x5_2).toNat * 3)).block, (ad466.add ((x5_2).toNat * 3)).off + 1, none⟩ = some (.slice (some ad468) ((rd_T28 l1 x5_2).f1).length c467_1) ∧ w'.cell? ⟨(ad466.add ((x5_2).toNat * 3)).block, (ad466.add ((x5_2).toNat * 3)).off + 2, none⟩ = some (.bool ((rd_T28 l1 x5_2).f2)) ∧ w'.cell? (ad468.add (x6_4).toNat) = some (.string (rdOf ByteArray.empty ((rd_T28 l1 x5_2).f1) x6_4))) (ds := []) #[false, false, false, false, false, false, false, false, false, false, false, false] (by kernel_rfl) rfl rfl ⟨(blk_cell BK460.out 0).trans rfl, (blk_cell BK460.out 1).trans rfl, ((HB.out.cell (World.block_lt_of_cell? w _ hw467_0)).trans hw467_0), ((HB.out.cell (World.block_lt_of_cell? w _ hw467_1)).trans hw467_1), ((HB.out.cell (World.block_lt_of_cell? w _ hw467_2)).trans hw467_2), ((HB.out.cell (World.block_lt_of_cell? w _ hw468_0)).trans hw468_0)⟩ (fun hHeld => ?_); refine with_tabW cobwebref11_Right.tab11 cobwebref11_Right.bits11 (fun HT_ HW_ => ?_)
                                  generalize wr.drew = w30 at BK460 HB HR467_1 hx467_0 hx467_1 hx467_2 hx468_0 hHeld ⊢
                                  refine pure_ (i := 1) (N := some 54) (v := ?_) (a' := ?_) #[false, true, false, false, false, false, false, false, false, false, false, false] rfl rfl (any_of HT_.out (by kernel_rfl)) (fun _ _ _ h => h) (Or.inl ⟨by rfl, ?_⟩) ?_ ?_
                                  rotate_left
                                  · intro w'
                                    go_simp
                                    with_reducible rfl
                                  rotate_left
                                  · simp only [Act.put, List.setIfInBounds_toArray, List.set_cons_zero, List.set_cons_succ, i64_w, i32_w]
                                    rfl
                                  refine pure_ (i := 2) (N := some 55) (v := ?_) (a' := ?_) #[false, true, true, false, false, false, false, false, false, false, false, false] rfl rfl (any_of HT_.out (by kernel_rfl)) (fun _ _ _ h => h) (Or.inl ⟨by rfl, ?_⟩) ?_ ?_
                                  rotate_left
                                  · intro w'
                                    go_simp
                                    with_reducible rfl
                                  rotate_left
                                  · simp only [Act.put, List.setIfInBounds_toArray, List.set_cons_zero, List.set_cons_succ, i64_w, i32_w]
                                    rfl
                                  refine pure_ (i := 3) (N := some 56) (v := ?_) (a' := ?_) #[false, true, true, true, false, false, false, false, false, false, false, false] rfl rfl (any_of HT_.out (by kernel_rfl)) (fun _ _ _ h => h) (Or.inl ⟨by rfl, ?_⟩) ?_ ?_
                                  rotate_left
                                  · intro w'
                                    go_simp
                                    with_reducible rfl
                                  rotate_left
                                  · simp only [Act.put, List.setIfInBounds_toArray, List.set_cons_zero, List.set_cons_succ, i64_w, i32_w]
                                    rfl
                                  refine pure_ (i := 4) (N := some 57) (v := ?_) (a' := ?_) #[false, true, true, true, true, false, false, false, false, false, false, false] rfl rfl (any_of HT_.out (by kernel_rfl)) (fun _ _ _ h => h) (Or.inl ⟨by rfl, ?_⟩) ?_ ?_
                                  rotate_left
                                  · intro w'
                                    go_simp
                                    with_reducible rfl
                                  rotate_left
                                  · simp only [Act.put, List.setIfInBounds_toArray, List.set_cons_zero, List.set_cons_succ, i64_w, i32_w]
                                    rfl
                                  refine pure_ (i := 6) (N := some 59) (v := ?_) (a' := ?_) #[false, true, true, true, true, false, true, false, false, false, false, false] rfl rfl (any_of HT_.out (by kernel_rfl)) (fun _ _ _ h => h) (Or.inl ⟨by rfl, ?_⟩) ?_ ?_
                                  rotate_left
                                  · intro w'
                                    go_simp
                                    with_reducible rfl
                                  rotate_left
                                  · simp only [Act.put, List.setIfInBounds_toArray, List.set_cons_zero, List.set_cons_succ, i64_w, i32_w]
                                    rfl
                                  refine pure_ (i := 10) (N := some 63) (v := ?_) (a' := ?_) #[false, true, true, true, true, false, true, false, false, false, true, false] rfl rfl (any_of HT_.out (by kernel_rfl)) (fun _ _ _ h => h) (Or.inl ⟨by rfl, ?_⟩) ?_ ?_
                                  rotate_left
                                  · intro w'
                                    go_simp
                                    with_reducible rfl
                                  rotate_left
                                  · simp only [Act.put, List.setIfInBounds_toArray, List.set_cons_zero, List.set_cons_succ, i64_w, i32_w]
                                    rfl
                                  refine take_ (i := 0) (N := some 53) (v := ?_) (a' := ?_) #[true, true, true, true, true, false, true, false, false, false, true, false] rfl rfl (take_ofW HT_.out HW_.out (by kernel_rfl)) (fun _ _ _ h => h) (Or.inl ⟨by rfl, ?_⟩) hHeld ?_ ?_
                                  rotate_left
                                  · rintro w' ⟨s0, s1, s2, s3, s4, s5⟩
                                    go_simp
                                    with_reducible rfl
                                  rotate_left
                                  · simp only [Act.put, List.setIfInBounds_toArray, List.set_cons_zero, List.set_cons_succ, i64_w, i32_w]
                                    rfl
                                  refine take_ (i := 5) (N := some 58) (v := ?_) (a' := ?_) #[true, true, true, true, true, true, true, false, false, false, true, false] rfl rfl (take_ofW HT_.out HW_.out (by kernel_rfl)) (fun _ _ _ h => h) (Or.inl ⟨by rfl, ?_⟩) hHeld ?_ ?_
                                  rotate_left
                                  · rintro w' ⟨s0, s1, s2, s3, s4, s5⟩
                                    go_simp
                                    with_reducible rfl
                                  rotate_left
                                  · simp only [Act.put, List.setIfInBounds_toArray, List.set_cons_zero, List.set_cons_succ, i64_w, i32_w]
                                    rfl
                                  refine pure_ (i := 7) (N := some 60) (v := ?_) (a' := ?_) #[true, true, true, true, true, true, true, true, false, false, true, false] rfl rfl (any_of HT_.out (by kernel_rfl)) (fun _ _ _ h => h) (Or.inl ⟨by rfl, ?_⟩) ?_ ?_
                                  rotate_left
                                  · intro w'
                                    go_simp
                                    with_reducible rfl
                                  rotate_left
                                  · simp only [Act.put, List.setIfInBounds_toArray, List.set_cons_zero, List.set_cons_succ, i64_w, i32_w]
                                    rfl
                                  refine take_ (i := 8) (N := some 61) (v := ?_) (a' := ?_) #[true, true, true, true, true, true, true, true, true, false, true, false] rfl rfl (take_ofW HT_.out HW_.out (by kernel_rfl)) (fun _ _ _ h => h) (Or.inl ⟨by rfl, ?_⟩) hHeld ?_ ?_
                                  rotate_left
                                  · rintro w' ⟨s0, s1, s2, s3, s4, s5⟩
                                    go_simp
                                    with_reducible rfl
                                  rotate_left
                                  · simp only [Act.put, List.setIfInBounds_toArray, List.set_cons_zero, List.set_cons_succ, i64_w, i32_w]
                                    rfl
                                  refine one_ (i := 9) (N := some 62) #[true, true, true, true, true, true, true, true, true, true, true, false] rfl rfl (one_of HT_.out (by kernel_rfl)) (by decide) (fun K hK => ?_)
                                  refine goes_ Try.func51 (by kernel_rfl) rfl #[.agg #[.slice A0_0 l0_0.length c0_0, .slice A0_1 l0_1.length c0_1], .string (rdOf ByteArray.empty ((rd_T28 l1 x5_2).f1) x6_4)] (by rfl) rfl rfl (by (try simp only [List.map_toArray, List.map_cons, List.map_nil]); first | done | rfl | (simp only [List.length_drop, List.length_take]; rfl)) ?_
                                  with_reducible refine (cobwebref11_At.calls k4 _ _ l0_0 _ _ l0_1 (rdOf ByteArray.empty ((rd_T28 l1 x5_2).f1) x6_4) t469 _ ?side1 ?side2 ?side3 ?side4 A28.out).mono ?_
                                  (case side1 => repeat (first | exact (Kd.C_below HR0_0.out HB.out) | (with_reducible refine Kd.C_alloc ?_ _) | (with_reducible refine Kd.C_drewN ?_ _) | (with_reducible refine Kd.C_drew ?_)))
                                  (case side2 => exact HC0_0.out)
                                  (case side3 => repeat (first | exact (Kd.C_below HR0_1.out HB.out) | (with_reducible refine Kd.C_alloc ?_ _) | (with_reducible refine Kd.C_drewN ?_ _) | (with_reducible refine Kd.C_drew ?_)))
                                  (case side4 => exact HC0_1.out)
                                  rintro e w31 ⟨rfl, hb⟩
                                  refine ⟨_, rfl, ?_⟩
                                  have n0_ := Aside0.mk (blk_below (g := gb460) (o := .cells #[.slice A0_0 l0_0.length c0_0, .slice A0_1 l0_1.length c0_1] 26 (0, 0)) (by (with_reducible repeat (first | refine blk_drewN ?_ _ | refine blk_drew ?_ | refine blk_alloc ?_ _)); exact BK460.out) hb)
                                  have n1_ := Aside0.mk (below_step (by repeat (first | (with_reducible first | exact HB.out | apply below_alloc | apply pw_below_drewN | apply below_drew1 | refine below_set ?_ GE460.out) | exact HB.out)) hb)
                                  clear BK460
                                  clear HB
                                  have BK460 := n0_
                                  have HB := n1_
                                  clear n0_ n1_
                                  (try clear hb)
                                  (try clear hb2)
                                  (try clear hk)
                                  (try clear hi)
                                  refine hK.out _ _ ⟨(blk_cell BK460.out 0).trans rfl, (blk_cell BK460.out 1).trans rfl, ((HB.out.cell (World.block_lt_of_cell? w _ hw467_0)).trans hw467_0), ((HB.out.cell (World.block_lt_of_cell? w _ hw467_1)).trans hw467_1), ((HB.out.cell (World.block_lt_of_cell? w _ hw467_2)).trans hw467_2), ((HB.out.cell (World.block_lt_of_cell? w _ hw468_0)).trans hw468_0)⟩ (fun hHeld => ?_)
                                  clear hK K
                                  refine norm_ (a' := ?_) ?_ ?_
                                  rotate_left
                                  · show Act.put _ (some 62) _ = _
                                    simp only [Act.put, List.setIfInBounds_toArray, List.set_cons_zero, List.set_cons_succ, i64_w, i32_w]
                                    rfl
                                  refine pure_ (i := 11) (N := some 64) (v := ?_) (a' := ?_) #[true, true, true, true, true, true, true, true, true, true, true, true] rfl rfl (any_of HT_.out (by kernel_rfl)) (fun _ _ _ h => h) (Or.inl ⟨by rfl, ?_⟩) ?_ ?_
                                  rotate_left
                                  · intro w'
                                    go_simp
                                    with_reducible rfl
                                  rotate_left
                                  · simp only [Act.put, List.setIfInBounds_toArray, List.set_cons_zero, List.set_cons_succ, i64_w, i32_w]
                                    rfl
                                  refine done_ (done_of HT_.out (by kernel_rfl)) ?_
                                  try go_wp2
                                  go_roundg k4
                                  case measure => have := HJ2.out; have := HK2.out; have := HJ13.out; have := HK4.out; omega
                                  case rel => exact ⟨(wrap64 (x6_4 + 1)), (by first | rfl | (simp; done) | (simp [*]; done)), H', ⟨by have := HJ2.out; have := HK2.out; have := HJ13.out; have := HK4.out; omega⟩, ⟨by (with_reducible repeat (first | refine blk_drewN ?_ _ | refine blk_drew ?_ | refine blk_alloc ?_ _)); exact BK460.out⟩, ⟨by repeat (first | (with_reducible first | exact HB.out | apply below_alloc | apply pw_below_drewN | apply below_drew1 | refine below_set ?_ GE460.out) | exact HB.out)⟩⟩
                                · rw [if_neg c29] at H
                                  have c29b0 : (t469 == x5_2) = false := beq_eq_false_iff_ne.mpr c29
                                  have c29b1 : (t469 != x5_2) = true := bne_iff_ne.mpr c29
                                  obtain rfl := Option.some.inj H
                                  have p466 : 0 ≤ (x5_2 : Int) := of_decide_eq_true (by first | (with_reducible assumption) | assumption)
                                  have q466 : x5_2 < (l1.length : Int) := of_decide_eq_true (by first | (with_reducible assumption) | assumption)
                                  obtain ⟨ad466, A466_1, c466_1, e466, hx466_0, hx466_1, hx466_2, hl466_1, hi466_1⟩ := at_T28 HR1.out x5_2 p466 q466
                                  cases e466
                                  replace hx466_0 := (HB.out.cell (World.block_lt_of_cell? w _ hx466_0)).trans hx466_0
                                  replace hx466_1 := (HB.out.cell (World.block_lt_of_cell? w _ hx466_1)).trans hx466_1
                                  replace hx466_2 := (HB.out.cell (World.block_lt_of_cell? w _ hx466_2)).trans hx466_2
                                  have HR466_1 := Aside0.mk hi466_1
                                  have HC466_1 := Aside0.mk hl466_1
                                  clear hi466_1 hl466_1
                                  replace p466 := eq_true p466
                                  replace q466 := eq_true q466
                                  try go_wp2
                                  have n0_ := Aside0.mk (blk_drew BK460.out)
                                  have n1_ := Aside0.mk (below_drew1 HB.out)
                                  clear BK460
                                  clear HB
                                  have BK460 := n0_
                                  have HB := n1_
                                  clear n0_ n1_
                                  have p467 : 0 ≤ (x5_2 : Int) := of_decide_eq_true (by first | (with_reducible assumption) | assumption)
                                  have q467 : x5_2 < (l1.length : Int) := of_decide_eq_true (by first | (with_reducible assumption) | assumption)
                                  obtain ⟨ad467, A467_1, c467_1, e467, hx467_0, hx467_1, hx467_2, hl467_1, hi467_1⟩ := at_T28 HR1.out x5_2 p467 q467
                                  have hw467_2 := hx467_2
                                  have hw467_1 := hx467_1
                                  have hw467_0 := hx467_0
                                  obtain rfl : ad466 = ad467 := (by injection e467)
                                  replace hx467_0 := (HB.out.cell (World.block_lt_of_cell? w _ hx467_0)).trans hx467_0
                                  replace hx467_1 := (HB.out.cell (World.block_lt_of_cell? w _ hx467_1)).trans hx467_1
                                  replace hx467_2 := (HB.out.cell (World.block_lt_of_cell? w _ hx467_2)).trans hx467_2
                                  have HR467_1 := Aside0.mk hi467_1
                                  have HC467_1 := Aside0.mk hl467_1
                                  clear hi467_1 hl467_1
                                  replace p467 := eq_true p467
                                  replace q467 := eq_true q467
                                  have p468 : 0 ≤ (x6_4 : Int) := of_decide_eq_true (by first | (with_reducible assumption) | assumption)
                                  have q468 : x6_4 < (((rd_T28 l1 x5_2).f1).length : Int) := of_decide_eq_true (by first | (with_reducible assumption) | assumption)
                                  obtain ⟨ad468, e468, hx468_0⟩ := Kd.at_string HR467_1.out x6_4 p468 q468
                                  have hw468_0 := hx468_0
                                  cases e468
                                  replace hx468_0 := (HB.out.cell (World.block_lt_of_cell? w _ hx468_0)).trans hx468_0
                                  replace p468 := eq_true p468
                                  replace q468 := eq_true q468
                                  refine start_ (n := 12) (S := fun w' => w'.cell? ⟨gb460, 0, none⟩ = some (.slice A0_0 l0_0.length c0_0) ∧ w'.cell? ⟨gb460, 1, none⟩ = some (.slice A0_1 l0_1.length c0_1) ∧ w'.cell? (ad466.add ((x5_2).toNat * 3)) = some (.int .i64 ((rd_T28 l1 x5_2).f0)) ∧ w'.cell? ⟨(ad466.add ((x5_2).toNat * 3)).block, (ad466.add ((x5_2).toNat * 3)).off + 1, none⟩ = some (.slice (some ad468) ((rd_T28 l1 x5_2).f1).length c467_1) ∧ w'.cell? ⟨(ad466.add ((x5_2).toNat * 3)).block, (ad466.add ((x5_2).toNat * 3)).off + 2, none⟩ = some (.bool ((rd_T28 l1 x5_2).f2)) ∧ w'.cell? (ad468.add (x6_4).toNat) = some (.string (rdOf ByteArray.empty ((rd_T28 l1 x5_2).f1) x6_4))) (ds := []) #[false, false, false, false, false, false, false, false, false, false, false, false] (by kernel_rfl) rfl rfl ⟨(blk_cell BK460.out 0).trans rfl, (blk_cell BK460.out 1).trans rfl, ((HB.out.cell (World.block_lt_of_cell? w _ hw467_0)).trans hw467_0), ((HB.out.cell (World.block_lt_of_cell? w _ hw467_1)).trans hw467_1), ((HB.out.cell (World.block_lt_of_cell? w _ hw467_2)).trans hw467_2), ((HB.out.cell (World.block_lt_of_cell? w _ hw468_0)).trans hw468_0)⟩ (fun hHeld => ?_); refine with_tabW cobwebref11_Right.tab11 cobwebref11_Right.bits11 (fun HT_ HW_ => ?_)
                                  generalize wr.drew = w32 at BK460 HB HR467_1 hx467_0 hx467_1 hx467_2 hx468_0 hHeld ⊢
                                  refine pure_ (i := 1) (N := some 54) (v := ?_) (a' := ?_) #[false, true, false, false, false, false, false, false, false, false, false, false] rfl rfl (any_of HT_.out (by kernel_rfl)) (fun _ _ _ h => h) (Or.inl ⟨by rfl, ?_⟩) ?_ ?_
                                  rotate_left
                                  · intro w'
                                    go_simp
                                    with_reducible rfl
                                  rotate_left
                                  · simp only [Act.put, List.setIfInBounds_toArray, List.set_cons_zero, List.set_cons_succ, i64_w, i32_w]
                                    rfl
                                  refine pure_ (i := 2) (N := some 55) (v := ?_) (a' := ?_) #[false, true, true, false, false, false, false, false, false, false, false, false] rfl rfl (any_of HT_.out (by kernel_rfl)) (fun _ _ _ h => h) (Or.inl ⟨by rfl, ?_⟩) ?_ ?_
                                  rotate_left
                                  · intro w'
                                    go_simp
                                    with_reducible rfl
                                  rotate_left
                                  · simp only [Act.put, List.setIfInBounds_toArray, List.set_cons_zero, List.set_cons_succ, i64_w, i32_w]
                                    rfl
                                  refine pure_ (i := 3) (N := some 56) (v := ?_) (a' := ?_) #[false, true, true, true, false, false, false, false, false, false, false, false] rfl rfl (any_of HT_.out (by kernel_rfl)) (fun _ _ _ h => h) (Or.inl ⟨by rfl, ?_⟩) ?_ ?_
                                  rotate_left
                                  · intro w'
                                    go_simp
                                    with_reducible rfl
                                  rotate_left
                                  · simp only [Act.put, List.setIfInBounds_toArray, List.set_cons_zero, List.set_cons_succ, i64_w, i32_w]
                                    rfl
                                  refine pure_ (i := 4) (N := some 57) (v := ?_) (a' := ?_) #[false, true, true, true, true, false, false, false, false, false, false, false] rfl rfl (any_of HT_.out (by kernel_rfl)) (fun _ _ _ h => h) (Or.inl ⟨by rfl, ?_⟩) ?_ ?_
                                  rotate_left
                                  · intro w'
                                    go_simp
                                    with_reducible rfl
                                  rotate_left
                                  · simp only [Act.put, List.setIfInBounds_toArray, List.set_cons_zero, List.set_cons_succ, i64_w, i32_w]
                                    rfl
                                  refine pure_ (i := 6) (N := some 59) (v := ?_) (a' := ?_) #[false, true, true, true, true, false, true, false, false, false, false, false] rfl rfl (any_of HT_.out (by kernel_rfl)) (fun _ _ _ h => h) (Or.inl ⟨by rfl, ?_⟩) ?_ ?_
                                  rotate_left
                                  · intro w'
                                    go_simp
                                    with_reducible rfl
                                  rotate_left
                                  · simp only [Act.put, List.setIfInBounds_toArray, List.set_cons_zero, List.set_cons_succ, i64_w, i32_w]
                                    rfl
                                  refine pure_ (i := 10) (N := some 63) (v := ?_) (a' := ?_) #[false, true, true, true, true, false, true, false, false, false, true, false] rfl rfl (any_of HT_.out (by kernel_rfl)) (fun _ _ _ h => h) (Or.inl ⟨by rfl, ?_⟩) ?_ ?_
                                  rotate_left
                                  · intro w'
                                    go_simp
                                    with_reducible rfl
                                  rotate_left
                                  · simp only [Act.put, List.setIfInBounds_toArray, List.set_cons_zero, List.set_cons_succ, i64_w, i32_w]
                                    rfl
                                  refine take_ (i := 0) (N := some 53) (v := ?_) (a' := ?_) #[true, true, true, true, true, false, true, false, false, false, true, false] rfl rfl (take_ofW HT_.out HW_.out (by kernel_rfl)) (fun _ _ _ h => h) (Or.inl ⟨by rfl, ?_⟩) hHeld ?_ ?_
                                  rotate_left
                                  · rintro w' ⟨s0, s1, s2, s3, s4, s5⟩
                                    go_simp
                                    with_reducible rfl
                                  rotate_left
                                  · simp only [Act.put, List.setIfInBounds_toArray, List.set_cons_zero, List.set_cons_succ, i64_w, i32_w]
                                    rfl
                                  refine take_ (i := 5) (N := some 58) (v := ?_) (a' := ?_) #[true, true, true, true, true, true, true, false, false, false, true, false] rfl rfl (take_ofW HT_.out HW_.out (by kernel_rfl)) (fun _ _ _ h => h) (Or.inl ⟨by rfl, ?_⟩) hHeld ?_ ?_
                                  rotate_left
                                  · rintro w' ⟨s0, s1, s2, s3, s4, s5⟩
                                    go_simp
                                    with_reducible rfl
                                  rotate_left
                                  · simp only [Act.put, List.setIfInBounds_toArray, List.set_cons_zero, List.set_cons_succ, i64_w, i32_w]
                                    rfl
                                  refine pure_ (i := 7) (N := some 60) (v := ?_) (a' := ?_) #[true, true, true, true, true, true, true, true, false, false, true, false] rfl rfl (any_of HT_.out (by kernel_rfl)) (fun _ _ _ h => h) (Or.inl ⟨by rfl, ?_⟩) ?_ ?_
                                  rotate_left
                                  · intro w'
                                    go_simp
                                    with_reducible rfl
                                  rotate_left
                                  · simp only [Act.put, List.setIfInBounds_toArray, List.set_cons_zero, List.set_cons_succ, i64_w, i32_w]
                                    rfl
                                  refine take_ (i := 8) (N := some 61) (v := ?_) (a' := ?_) #[true, true, true, true, true, true, true, true, true, false, true, false] rfl rfl (take_ofW HT_.out HW_.out (by kernel_rfl)) (fun _ _ _ h => h) (Or.inl ⟨by rfl, ?_⟩) hHeld ?_ ?_
                                  rotate_left
                                  · rintro w' ⟨s0, s1, s2, s3, s4, s5⟩
                                    go_simp
                                    with_reducible rfl
                                  rotate_left
                                  · simp only [Act.put, List.setIfInBounds_toArray, List.set_cons_zero, List.set_cons_succ, i64_w, i32_w]
                                    rfl
                                  refine one_ (i := 9) (N := some 62) #[true, true, true, true, true, true, true, true, true, true, true, false] rfl rfl (one_of HT_.out (by kernel_rfl)) (by decide) (fun K hK => ?_)
                                  refine goes_ Try.func51 (by kernel_rfl) rfl #[.agg #[.slice A0_0 l0_0.length c0_0, .slice A0_1 l0_1.length c0_1], .string (rdOf ByteArray.empty ((rd_T28 l1 x5_2).f1) x6_4)] (by rfl) rfl rfl (by (try simp only [List.map_toArray, List.map_cons, List.map_nil]); first | done | rfl | (simp only [List.length_drop, List.length_take]; rfl)) ?_
                                  with_reducible refine (cobwebref11_At.calls k4 _ _ l0_0 _ _ l0_1 (rdOf ByteArray.empty ((rd_T28 l1 x5_2).f1) x6_4) t469 _ ?side1 ?side2 ?side3 ?side4 A28.out).mono ?_
                                  (case side1 => repeat (first | exact (Kd.C_below HR0_0.out HB.out) | (with_reducible refine Kd.C_alloc ?_ _) | (with_reducible refine Kd.C_drewN ?_ _) | (with_reducible refine Kd.C_drew ?_)))
                                  (case side2 => exact HC0_0.out)
                                  (case side3 => repeat (first | exact (Kd.C_below HR0_1.out HB.out) | (with_reducible refine Kd.C_alloc ?_ _) | (with_reducible refine Kd.C_drewN ?_ _) | (with_reducible refine Kd.C_drew ?_)))
                                  (case side4 => exact HC0_1.out)
                                  rintro e w33 ⟨rfl, hb⟩
                                  refine ⟨_, rfl, ?_⟩
                                  have n0_ := Aside0.mk (blk_below (g := gb460) (o := .cells #[.slice A0_0 l0_0.length c0_0, .slice A0_1 l0_1.length c0_1] 26 (0, 0)) (by (with_reducible repeat (first | refine blk_drewN ?_ _ | refine blk_drew ?_ | refine blk_alloc ?_ _)); exact BK460.out) hb)
                                  have n1_ := Aside0.mk (below_step (by repeat (first | (with_reducible first | exact HB.out | apply below_alloc | apply pw_below_drewN | apply below_drew1 | refine below_set ?_ GE460.out) | exact HB.out)) hb)
                                  clear BK460
                                  clear HB
                                  have BK460 := n0_
                                  have HB := n1_
                                  clear n0_ n1_
                                  (try clear hb)
                                  (try clear hb2)
                                  (try clear hk)
                                  (try clear hi)
                                  refine hK.out _ _ ⟨(blk_cell BK460.out 0).trans rfl, (blk_cell BK460.out 1).trans rfl, ((HB.out.cell (World.block_lt_of_cell? w _ hw467_0)).trans hw467_0), ((HB.out.cell (World.block_lt_of_cell? w _ hw467_1)).trans hw467_1), ((HB.out.cell (World.block_lt_of_cell? w _ hw467_2)).trans hw467_2), ((HB.out.cell (World.block_lt_of_cell? w _ hw468_0)).trans hw468_0)⟩ (fun hHeld => ?_)
                                  clear hK K
                                  refine norm_ (a' := ?_) ?_ ?_
                                  rotate_left
                                  · show Act.put _ (some 62) _ = _
                                    simp only [Act.put, List.setIfInBounds_toArray, List.set_cons_zero, List.set_cons_succ, i64_w, i32_w]
                                    rfl
                                  refine pure_ (i := 11) (N := some 64) (v := ?_) (a' := ?_) #[true, true, true, true, true, true, true, true, true, true, true, true] rfl rfl (any_of HT_.out (by kernel_rfl)) (fun _ _ _ h => h) (Or.inl ⟨by rfl, ?_⟩) ?_ ?_
                                  rotate_left
                                  · intro w'
                                    go_simp
                                    with_reducible rfl
                                  rotate_left
                                  · simp only [Act.put, List.setIfInBounds_toArray, List.set_cons_zero, List.set_cons_succ, i64_w, i32_w]
                                    rfl
                                  refine done_ (done_of HT_.out (by kernel_rfl)) ?_
                                  try go_wp2
                                  go_ret
                                  exact ⟨by first | rfl | (simp [errW_none, errW_some] <;> rfl) | (simp [*, errW_none, errW_some] <;> rfl), by repeat (first | (with_reducible first | exact HB.out | apply below_alloc | apply pw_below_drewN | apply below_drew1 | refine below_set ?_ GE460.out) | exact HB.out)⟩
                              · rw [if_neg c27] at H
                                exact absurd H (by simp)
                            · rw [if_neg c26] at H
                              have c26b0 : decide (x6_4 < (((rd_T28 l1 x5_2).f1).length : Int)) = false := decide_eq_false c26
                              clear c26
                              have H' := Aside0.mk H
                              clear H
                              have p466 : 0 ≤ (x5_2 : Int) := of_decide_eq_true (by first | (with_reducible assumption) | assumption)
                              have q466 : x5_2 < (l1.length : Int) := of_decide_eq_true (by first | (with_reducible assumption) | assumption)
                              obtain ⟨ad466, A466_1, c466_1, e466, hx466_0, hx466_1, hx466_2, hl466_1, hi466_1⟩ := at_T28 HR1.out x5_2 p466 q466
                              cases e466
                              replace hx466_0 := (HB.out.cell (World.block_lt_of_cell? w _ hx466_0)).trans hx466_0
                              replace hx466_1 := (HB.out.cell (World.block_lt_of_cell? w _ hx466_1)).trans hx466_1
                              replace hx466_2 := (HB.out.cell (World.block_lt_of_cell? w _ hx466_2)).trans hx466_2
                              have HR466_1 := Aside0.mk hi466_1
                              have HC466_1 := Aside0.mk hl466_1
                              clear hi466_1 hl466_1
                              replace p466 := eq_true p466
                              replace q466 := eq_true q466
                              go_wp2
                              go_roundg k4
                              case measure => have := HJ2.out; have := HK2.out; have := HJ13.out; have := HK4.out; omega
                              case rel => exact ⟨(wrap64 (x5_2 + 1)), (by first | rfl | (simp; done) | (simp [*]; done)), H', ⟨by have := HJ2.out; have := HK2.out; have := HJ13.out; have := HK4.out; omega⟩, ⟨by (with_reducible repeat (first | refine blk_drewN ?_ _ | refine blk_drew ?_ | refine blk_alloc ?_ _)); exact BK460.out⟩, ⟨by repeat (first | (with_reducible first | exact HB.out | apply below_alloc | apply pw_below_drewN | apply below_drew1 | refine below_set ?_ GE460.out) | exact HB.out)⟩⟩
                          · rw [if_neg c25] at H
                            exact absurd H (by simp)
                        · rw [if_neg c24] at H
                          exact absurd H (by simp)
            · rw [if_neg c13] at H
              have c13b0 : decide (x5_2 < (l1.length : Int)) = false := decide_eq_false c13
              clear c13
              obtain rfl := Option.some.inj H
              go_wp2
              go_ret
              exact ⟨by first | rfl | (simp [errW_none, errW_some] <;> rfl) | (simp [*, errW_none, errW_some] <;> rfl), by repeat (first | (with_reducible first | exact HB.out | apply below_alloc | apply pw_below_drewN | apply below_drew1 | refine below_set ?_ GE460.out) | exact HB.out)⟩
end Go.Proofs.Ytneagipmllgejaa.PL
end
section
namespace Go.Proofs.Ytneagipmllgejaa.PL
open Go.RowKit Go.Proofs.YtneagipmllgejaaW.PrintWords Go.Proofs.YtneagipmllgejaaW.PrintLast Go.Proofs.YtneagipmllgejaaW.PrintMore
attribute [local go_sem] max2_int min2_int max_two min_two max_three min_three max_four min_four   -- for this text's walks alone
set_option linter.unusedVariables false
set_option linter.unusedSimpArgs false
mutual
def leaf_Range.j0 : Nat → ByteArray → ByteArray → Bool → List ByteArray → List Int → Option (List Int)
  | 0, _, _, _, _, _ => none
  | k + 1, x1, x2, x15, x217000, x217001 => if x15 = true then (some ([] : List Int)) else ((leaf_at.f k x217000 x217001 x2).bind fun t218 => (if t218 > 0 then (if 0 ≤ (wrap64 (t218 - 1)) then (if (wrap64 (t218 - 1)) < (x217000.length : Int) then (leaf_Range.j1 k x1 t218 ((rdOf ByteArray.empty x217000 (wrap64 (t218 - 1))).toList == x2.toList) x217000 x217001) else (none)) else (none)) else (leaf_Range.j1 k x1 t218 false x217000 x217001)))
def leaf_Range.j1 : Nat → ByteArray → Int → Bool → List ByteArray → List Int → Option (List Int)
  | 0, _, _, _, _, _ => none
  | k + 1, x1, x7, x30, x217000, x217001 => if x30 = true then ((leaf_at.f k x217000 x217001 x1).bind fun t220 => (if 0 ≤ t220 then (if t220 ≤ (wrap64 ((wrap64 (x7 - 1)) + 1)) then (if (wrap64 ((wrap64 (x7 - 1)) + 1)) ≤ (x217001.length : Int) then ((slices_Clone_int_int.f ((x217001.take ((wrap64 ((wrap64 (x7 - 1)) + 1)) : Int).toNat).drop (t220 : Int).toNat)).bind fun t222 => (some t222)) else (none)) else (none)) else (none))) else ((leaf_at.f k x217000 x217001 x1).bind fun t225 => (if 0 ≤ t225 then (if t225 ≤ (wrap64 (x7 + 1)) then (if (wrap64 (x7 + 1)) ≤ (x217001.length : Int) then ((slices_Clone_int_int.f ((x217001.take ((wrap64 (x7 + 1)) : Int).toNat).drop (t225 : Int).toNat)).bind fun t227 => (some t227)) else (none)) else (none)) else (none)))
end
def leaf_Range.f (k : Nat) (l0_0 : List ByteArray) (l0_1 : List Int) (a1 : ByteArray) (a2 : ByteArray) : Option (List Int) := (leaf_root.f l0_0 l0_1).bind fun t217 => (if t217 = true then (leaf_Range.j0 k a1 a2 (!(Op.bytesLess a1.toList a2.toList)) l0_0 l0_1) else (leaf_Range.j0 k a1 a2 true l0_0 l0_1))
theorem leaf_Range.mono_l : ∀ k, (∀ y0 y1 y2 y3 y4, LeO (leaf_Range.j0 k y0 y1 y2 y3 y4) (leaf_Range.j0 (k + 1) y0 y1 y2 y3 y4)) ∧ (∀ y0 y1 y2 y3 y4, LeO (leaf_Range.j1 k y0 y1 y2 y3 y4) (leaf_Range.j1 (k + 1) y0 y1 y2 y3 y4))
  | 0 => ⟨fun _ _ _ _ _ r h => by simp [leaf_Range.j0] at h, fun _ _ _ _ _ r h => by simp [leaf_Range.j1] at h⟩
  | k + 1 => by
    obtain ⟨ih0, ih1⟩ := leaf_Range.mono_l k
    refine ⟨?_, ?_⟩
    · intro y0 y1 y2 y3 y4
      unfold leaf_Range.j0
      repeat' first
      | (with_reducible exact ih0 _ _ _ _ _)
      | (with_reducible exact ih1 _ _ _ _ _)
      | (with_reducible exact leaf_at.mono _ _ _ _)
      | (with_reducible exact LeO.refl _)
      | (with_reducible exact LeO.none _)
      | (with_reducible refine LeO.ite ?_ ?_)
      | (with_reducible refine LeO.bind ?_ (fun _ => ?_))
      | exact ih0 _ _ _ _ _
      | exact ih1 _ _ _ _ _
      | exact leaf_at.mono _ _ _ _
      | exact LeO.none _
      | refine LeO.ite ?_ ?_
      | refine LeO.bind ?_ (fun _ => ?_)
    · intro y0 y1 y2 y3 y4
      unfold leaf_Range.j1
      repeat' first
      | (with_reducible exact ih0 _ _ _ _ _)
      | (with_reducible exact ih1 _ _ _ _ _)
      | (with_reducible exact leaf_at.mono _ _ _ _)
      | (with_reducible exact LeO.refl _)
      | (with_reducible exact LeO.none _)
      | (with_reducible refine LeO.ite ?_ ?_)
      | (with_reducible refine LeO.bind ?_ (fun _ => ?_))
      | exact ih0 _ _ _ _ _
      | exact ih1 _ _ _ _ _
      | exact leaf_at.mono _ _ _ _
      | exact LeO.none _
      | refine LeO.ite ?_ ?_
      | refine LeO.bind ?_ (fun _ => ?_)
theorem leaf_Range.mono : ∀ a0 a1 a2 a3 k, LeO (leaf_Range.f k a0 a1 a2 a3) (leaf_Range.f (k + 1) a0 a1 a2 a3) := by
  intro a0 a1 a2 a3 k
  obtain ⟨ih0, ih1⟩ := leaf_Range.mono_l k
  unfold leaf_Range.f
  repeat' first
      | (with_reducible exact ih0 _ _ _ _ _)
      | (with_reducible exact ih1 _ _ _ _ _)
      | (with_reducible exact leaf_at.mono _ _ _ _)
      | (with_reducible exact LeO.refl _)
      | (with_reducible exact LeO.none _)
      | (with_reducible refine LeO.ite ?_ ?_)
      | (with_reducible refine LeO.bind ?_ (fun _ => ?_))
      | exact ih0 _ _ _ _ _
      | exact ih1 _ _ _ _ _
      | exact leaf_at.mono _ _ _ _
      | exact LeO.none _
      | refine LeO.ite ?_ ?_
      | refine LeO.bind ?_ (fun _ => ?_)
def leaf_Range.T6 : Bool × List (List Nat × List Nat) := (true, [([], []), ([0], [0]), ([], []), ([], []), ([2, 3], [2, 3]), ([], []), ([5], [5]), ([1, 4, 6], [1, 4, 6]), ([7, 4], [7]), ([8, 8, 0, 1, 2, 3, 4, 5, 6, 7, 8], [8])])
def leaf_Range.B6 : List Nat := [0, 1, 0, 0, 12, 0, 32, 127, 255, 511]
theorem leaf_Range.tab6 : rtab .any (opsOf Try.f13 6) = leaf_Range.T6 := by kernel_rfl
theorem leaf_Range.bits6 : waitsOk leaf_Range.T6.2 leaf_Range.B6 = true := by kernel_rfl
set_option maxHeartbeats 8000000 in
set_option maxRecDepth 100000 in
theorem leaf_Range.calls (k : Nat) (A0_0 : Option Addr) (c0_0 : Nat) (l0_0 : List ByteArray) (A0_1 : Option Addr) (c0_1 : Nat) (l0_1 : List Int) (a1 : ByteArray) (a2 : ByteArray) (r : List Int) (w : World) (hr0_0 : Kd.C Kd.string w A0_0 l0_0.length l0_0) (hc0_0 : l0_0.length ≤ c0_0) (hr0_1 : Kd.C (Kd.int .i64) w A0_1 l0_1.length l0_1) (hc0_1 : l0_1.length ≤ c0_1) (h : leaf_Range.f k l0_0 l0_1 a1 a2 = some r) :
    Calls Try.prog 13 #[.agg #[.slice A0_0 l0_0.length c0_0, .slice A0_1 l0_1.length c0_1], .string a1, .string a2] w fun e w' => ∃ v0_ : Value, e = .returned (v0_) ∧ Kd.R (Kd.int .i64) 3 w' w.heap.size (fun _ => True) v0_ r ∧ Below w.heap.size w w' := by
  have hu26 := Try.underlying26
  have HR0_0 := Aside0.mk hr0_0
  have HC0_0 := Aside0.mk hc0_0
  clear hr0_0 hc0_0
  have HR0_1 := Aside0.mk hr0_1
  have HC0_1 := Aside0.mk hc0_1
  clear hr0_1 hc0_1
  have HB := Aside0.mk (Below.refl w.heap.size w)
  have H : ((leaf_root.f l0_0 l0_1).bind fun t217 => (if t217 = true then (leaf_Range.j0 k a1 a2 (!(Op.bytesLess a1.toList a2.toList)) l0_0 l0_1) else (leaf_Range.j0 k a1 a2 true l0_0 l0_1))) = some r := h
  clear h
  have HC4 := Aside0.mk H
  clear H
  go_enter Try.func13, Try.ntmps13
  go_upto_region 1 with (first | ((with_reducible refine gate_dst (N := 3) rfl ?_); refine box_event ?hg (N := 3) ?hd (cs := #[.slice A0_0 l0_0.length c0_0, .slice A0_1 l0_1.length c0_1]) (t := 26) ?hr ?_; (case hd => rfl); (case hg => rfl); (case hr => first | (go_simp; done) | (go_simp; rfl)); intro gb216 hg w5 hbox hb; have n0_ := Aside0.mk (below_step (by repeat (first | (with_reducible first | exact HB.out | apply below_alloc | apply pw_below_drewN | apply below_drew1) | exact HB.out)) hb); have n1_ := Aside0.mk (hbox); have n2_ := Aside0.mk ((by rw [hg]; exact (below_size (by repeat (first | (with_reducible first | exact HB.out | apply below_alloc | apply pw_below_drewN | apply below_drew1) | exact HB.out))) : w.heap.size ≤ gb216)); have n3_ := Aside0.mk ((by rw [hg]; exact (below_size (by repeat (first | (with_reducible first | exact HB.out | apply below_alloc | apply pw_below_drewN | apply below_drew1) | exact HB.out))) : w.heap.size ≤ gb216)); clear HB; have HB := n0_; have BK216 := n1_; have GW216 := n2_; have GE216 := n3_; clear n0_ n1_ n2_ n3_; clear hb hbox hg))
  (try simp only [Act.put, List.setIfInBounds_toArray, List.set_cons_zero, List.set_cons_succ])
  go_cut [15] (fun v15 wc => ∃ (kq : Nat) (x15_3 : Bool), v15 = .bool x15_3 ∧ Aside0 (leaf_Range.j0 kq a1 a2 x15_3 l0_0 l0_1 = some r) ∧ Aside0 (kq ≤ k) ∧ Aside0 (wc.heap[gb216]? = some (.cells #[(.slice A0_0 l0_0.length c0_0), (.slice A0_1 l0_1.length c0_1)] 26 (0, 0))) ∧ Aside0 (Below w.heap.size w wc))
  case first =>
    have H := HC4.out
    clear HC4
    replace H := Option.bind_eq_some_iff.mp H
    obtain ⟨t217, A60, H⟩ := H
    replace H : (if t217 = true then (leaf_Range.j0 k a1 a2 (!(Op.bytesLess a1.toList a2.toList)) l0_0 l0_1) else (leaf_Range.j0 k a1 a2 true l0_0 l0_1)) = some r := H
    have A6 := Aside0.mk A60
    clear A60
    by_cases c7 : t217 = true
    · subst c7
      have H1 : (leaf_Range.j0 k a1 a2 (!(Op.bytesLess a1.toList a2.toList)) l0_0 l0_1) = some r := by rw [if_pos rfl] at H; exact H
      clear H
      have H := H1
      clear H1
      have H' := Aside0.mk H
      clear H
      have hcz8_0 : w5.cell? ⟨gb216, 0, none⟩ = some (.slice A0_0 l0_0.length c0_0) := (blk_cell BK216.out 0).trans rfl
      have hcz8_1 : w5.cell? ⟨gb216, 1, none⟩ = some (.slice A0_1 l0_1.length c0_1) := (blk_cell BK216.out 1).trans rfl
      have hfz8_0 := blk_frozen BK216.out 0
      have hfz8_1 := blk_frozen BK216.out 1
      go_wp2_with (first | ((with_reducible refine gate_callee (f := 41) rfl ?_); refine goesL_ (some 9) rfl rfl Try.func41 (by kernel_rfl) rfl #[.agg #[.slice A0_0 l0_0.length c0_0, .slice A0_1 l0_1.length c0_1]] rfl (by (try simp only [List.map_toArray, List.map_cons, List.map_nil]); first | done | rfl | (simp only [List.length_drop, List.length_take]; rfl)) ?_; (with_reducible refine (leaf_root.calls _ _ l0_0 _ _ l0_1 true _ ?side1 ?side2 ?side3 ?side4 A6.out).mono ?_); (case side1 => repeat (first | exact (Kd.C_below HR0_0.out HB.out) | (with_reducible refine Kd.C_alloc ?_ _) | (with_reducible refine Kd.C_drewN ?_ _) | (with_reducible refine Kd.C_drew ?_))); (case side2 => exact HC0_0.out); (case side3 => repeat (first | exact (Kd.C_below HR0_1.out HB.out) | (with_reducible refine Kd.C_alloc ?_ _) | (with_reducible refine Kd.C_drewN ?_ _) | (with_reducible refine Kd.C_drew ?_))); (case side4 => exact HC0_1.out); rintro e w9 ⟨rfl, hb⟩; refine ⟨_, rfl, ?_⟩; have n0_ := Aside0.mk (blk_below (g := gb216) (o := .cells #[.slice A0_0 l0_0.length c0_0, .slice A0_1 l0_1.length c0_1] 26 (0, 0)) (by (with_reducible repeat (first | refine blk_drewN ?_ _ | refine blk_drew ?_ | refine blk_alloc ?_ _)); exact BK216.out) hb); have n1_ := Aside0.mk (below_step (by repeat (first | (with_reducible first | exact HB.out | apply below_alloc | apply pw_below_drewN | apply below_drew1 | refine below_set ?_ GE216.out) | exact HB.out)) hb); clear BK216; clear HB; have BK216 := n0_; have HB := n1_; clear n0_ n1_; (try clear hb); (try clear hb2); (try clear hk); (try clear hi)))
      go_meet
      case rel => exact ⟨_, (!(Op.bytesLess a1.toList a2.toList)), (by first | rfl | (simp; done) | (simp [*]; done) | exact congrArg Value.bool (leq_text _ _) | (simp; exact leq_text _ _)), H', ⟨by first | omega | exact Nat.le_refl _⟩, ⟨by (with_reducible repeat (first | refine blk_drewN ?_ _ | refine blk_drew ?_ | refine blk_alloc ?_ _)); exact BK216.out⟩, ⟨by repeat (first | (with_reducible first | exact HB.out | apply below_alloc | apply pw_below_drewN | apply below_drew1 | refine below_set ?_ GE216.out) | exact HB.out)⟩⟩
    · replace c7 := Bool.eq_false_iff.mpr c7
      subst c7
      have H1 : (leaf_Range.j0 k a1 a2 true l0_0 l0_1) = some r := by rw [if_neg (show ¬ (false = true) by decide)] at H; exact H
      clear H
      have H := H1
      clear H1
      have H' := Aside0.mk H
      clear H
      have hcz10_0 : w5.cell? ⟨gb216, 0, none⟩ = some (.slice A0_0 l0_0.length c0_0) := (blk_cell BK216.out 0).trans rfl
      have hcz10_1 : w5.cell? ⟨gb216, 1, none⟩ = some (.slice A0_1 l0_1.length c0_1) := (blk_cell BK216.out 1).trans rfl
      have hfz10_0 := blk_frozen BK216.out 0
      have hfz10_1 := blk_frozen BK216.out 1
      go_wp2_with (first | ((with_reducible refine gate_callee (f := 41) rfl ?_); refine goesL_ (some 9) rfl rfl Try.func41 (by kernel_rfl) rfl #[.agg #[.slice A0_0 l0_0.length c0_0, .slice A0_1 l0_1.length c0_1]] rfl (by (try simp only [List.map_toArray, List.map_cons, List.map_nil]); first | done | rfl | (simp only [List.length_drop, List.length_take]; rfl)) ?_; (with_reducible refine (leaf_root.calls _ _ l0_0 _ _ l0_1 false _ ?side1 ?side2 ?side3 ?side4 A6.out).mono ?_); (case side1 => repeat (first | exact (Kd.C_below HR0_0.out HB.out) | (with_reducible refine Kd.C_alloc ?_ _) | (with_reducible refine Kd.C_drewN ?_ _) | (with_reducible refine Kd.C_drew ?_))); (case side2 => exact HC0_0.out); (case side3 => repeat (first | exact (Kd.C_below HR0_1.out HB.out) | (with_reducible refine Kd.C_alloc ?_ _) | (with_reducible refine Kd.C_drewN ?_ _) | (with_reducible refine Kd.C_drew ?_))); (case side4 => exact HC0_1.out); rintro e w11 ⟨rfl, hb⟩; refine ⟨_, rfl, ?_⟩; have n0_ := Aside0.mk (blk_below (g := gb216) (o := .cells #[.slice A0_0 l0_0.length c0_0, .slice A0_1 l0_1.length c0_1] 26 (0, 0)) (by (with_reducible repeat (first | refine blk_drewN ?_ _ | refine blk_drew ?_ | refine blk_alloc ?_ _)); exact BK216.out) hb); have n1_ := Aside0.mk (below_step (by repeat (first | (with_reducible first | exact HB.out | apply below_alloc | apply pw_below_drewN | apply below_drew1 | refine below_set ?_ GE216.out) | exact HB.out)) hb); clear BK216; clear HB; have BK216 := n0_; have HB := n1_; clear n0_ n1_; (try clear hb); (try clear hb2); (try clear hk); (try clear hi)))
      go_meet
      case rel => exact ⟨_, (true), (by first | rfl | (simp; done) | (simp [*]; done) | exact congrArg Value.bool (leq_text _ _) | (simp; exact leq_text _ _)), H', ⟨by first | omega | exact Nat.le_refl _⟩, ⟨by (with_reducible repeat (first | refine blk_drewN ?_ _ | refine blk_drew ?_ | refine blk_alloc ?_ _)); exact BK216.out⟩, ⟨by repeat (first | (with_reducible first | exact HB.out | apply below_alloc | apply pw_below_drewN | apply below_drew1 | refine below_set ?_ GE216.out) | exact HB.out)⟩⟩
  case rest =>
    clear HC4
    try clear c1
    try clear p2
    try clear c4
    try clear c7
    try clear hcz10_0
    try clear hcz10_1
    try clear hcz8_0
    try clear hcz8_1
    try clear hfz10_0
    try clear hfz10_1
    try clear hfz8_0
    try clear hfz8_1
    obtain ⟨kq, x15_3, rfl, HA, HJ3, BK216, HB⟩ := hcut
    cases kq with
    | zero => exact absurd HA.out (by simp [leaf_Range.j0])
    | succ kj3 =>
      have H := HA.out
      clear HA
      simp only [leaf_Range.j0] at H
      by_cases c12 : x15_3 = true
      · subst c12
        have H1 : (some ([] : List Int)) = some r := by rw [if_pos rfl] at H; exact H
        clear H
        have H := H1
        clear H1
        obtain rfl := Option.some.inj H
        go_wp2
        go_ret
        exact ⟨_, by first | rfl | (simp [errW_none, errW_some] <;> rfl) | (simp [*, errW_none, errW_some] <;> rfl), by first | exact Kd.R_nil _ _ _ _ _ | exact Kd.N_nil _ _ _ _ _ | exact Kd.V_nil _ _ _ _ _ | exact Kd.Q_nil _ _ _ _ _ | exact Kd.S_nil _ _ _ _ _, by repeat (first | (with_reducible first | exact HB.out | apply below_alloc | apply pw_below_drewN | apply below_drew1 | refine below_set ?_ GE216.out) | exact HB.out)⟩
      · replace c12 := Bool.eq_false_iff.mpr c12
        subst c12
        have H1 : ((leaf_at.f kj3 l0_0 l0_1 a2).bind fun t218 => (if t218 > 0 then (if 0 ≤ (wrap64 (t218 - 1)) then (if (wrap64 (t218 - 1)) < (l0_0.length : Int) then (leaf_Range.j1 kj3 a1 t218 ((rdOf ByteArray.empty l0_0 (wrap64 (t218 - 1))).toList == a2.toList) l0_0 l0_1) else (none)) else (none)) else (leaf_Range.j1 kj3 a1 t218 false l0_0 l0_1))) = some r := by rw [if_neg (show ¬ (false = true) by decide)] at H; exact H
        clear H
        have H := H1
        clear H1
        replace H := Option.bind_eq_some_iff.mp H
        obtain ⟨t218, A130, H⟩ := H
        replace H : (if t218 > 0 then (if 0 ≤ (wrap64 (t218 - 1)) then (if (wrap64 (t218 - 1)) < (l0_0.length : Int) then (leaf_Range.j1 kj3 a1 t218 ((rdOf ByteArray.empty l0_0 (wrap64 (t218 - 1))).toList == a2.toList) l0_0 l0_1) else (none)) else (none)) else (leaf_Range.j1 kj3 a1 t218 false l0_0 l0_1)) = some r := H
        have A13 := Aside0.mk A130
        clear A130
        have HC14 := Aside0.mk H
        clear H
        have hcz15_0 : wc.cell? ⟨gb216, 0, none⟩ = some (.slice A0_0 l0_0.length c0_0) := (blk_cell BK216.out 0).trans rfl
        have hcz15_1 : wc.cell? ⟨gb216, 1, none⟩ = some (.slice A0_1 l0_1.length c0_1) := (blk_cell BK216.out 1).trans rfl
        have hfz15_0 := blk_frozen BK216.out 0
        have hfz15_1 := blk_frozen BK216.out 1
        go_upto_region 4 with (first | ((with_reducible refine gate_callee (f := 38) rfl ?_); refine goesL_ (some 18) rfl rfl Try.func38 (by kernel_rfl) rfl #[.agg #[.slice A0_0 l0_0.length c0_0, .slice A0_1 l0_1.length c0_1], .string a2] rfl (by (try simp only [List.map_toArray, List.map_cons, List.map_nil]); first | done | rfl | (simp only [List.length_drop, List.length_take]; rfl)) ?_; (with_reducible refine (leaf_at.calls kj3 _ _ l0_0 _ _ l0_1 a2 t218 _ ?side1 ?side2 ?side3 ?side4 A13.out).mono ?_); (case side1 => repeat (first | exact (Kd.C_below HR0_0.out HB.out) | (with_reducible refine Kd.C_alloc ?_ _) | (with_reducible refine Kd.C_drewN ?_ _) | (with_reducible refine Kd.C_drew ?_))); (case side2 => exact HC0_0.out); (case side3 => repeat (first | exact (Kd.C_below HR0_1.out HB.out) | (with_reducible refine Kd.C_alloc ?_ _) | (with_reducible refine Kd.C_drewN ?_ _) | (with_reducible refine Kd.C_drew ?_))); (case side4 => exact HC0_1.out); rintro e w16 ⟨rfl, hb⟩; refine ⟨_, rfl, ?_⟩; have n0_ := Aside0.mk (blk_below (g := gb216) (o := .cells #[.slice A0_0 l0_0.length c0_0, .slice A0_1 l0_1.length c0_1] 26 (0, 0)) (by (with_reducible repeat (first | refine blk_drewN ?_ _ | refine blk_drew ?_ | refine blk_alloc ?_ _)); exact BK216.out) hb); have n1_ := Aside0.mk (below_step (by repeat (first | (with_reducible first | exact HB.out | apply below_alloc | apply pw_below_drewN | apply below_drew1 | refine below_set ?_ GE216.out) | exact HB.out)) hb); clear BK216; clear HB; have BK216 := n0_; have HB := n1_; clear n0_ n1_; (try clear hb); (try clear hb2); (try clear hk); (try clear hi)))
        (try simp only [Act.put, List.setIfInBounds_toArray, List.set_cons_zero, List.set_cons_succ])
        go_cut [30] (fun v30 wc => ∃ (kq : Nat) (x30_13 : Bool), v30 = .bool x30_13 ∧ Aside0 (leaf_Range.j1 kq a1 t218 x30_13 l0_0 l0_1 = some r) ∧ Aside0 (kq ≤ kj3) ∧ Aside0 (wc.heap[gb216]? = some (.cells #[(.slice A0_0 l0_0.length c0_0), (.slice A0_1 l0_1.length c0_1)] 26 (0, 0))) ∧ Aside0 (Below w.heap.size w wc))
        case first =>
          have H := HC14.out
          clear HC14
          by_cases c17 : t218 > 0
          · rw [if_pos c17] at H
            have c17b0 : decide (0 < t218) = true := decide_eq_true c17
            clear c17
            (first | rw [c17b0] | (simp only [i64_w, i32_w]; rw [c17b0]) | skip)
            obtain ⟨ji18, hji18⟩ : ∃ j_ : Int, (wrap64 (t218 - 1)) = j_ := ⟨_, rfl⟩
            replace H : (if 0 ≤ (ji18) then (if (ji18) < (l0_0.length : Int) then (leaf_Range.j1 kj3 a1 t218 ((rdOf ByteArray.empty l0_0 (ji18)).toList == a2.toList) l0_0 l0_1) else (none)) else (none)) = some r := by first | (rw [hji18] at H; exact H) | (simp only [hji18] at H ⊢; exact H)
            have hji18w : (IntKind.i64.wrap (t218 - 1)) = ji18 := (i64_w _).trans hji18
            by_cases c19 : 0 ≤ (ji18)
            · rw [if_pos c19] at H
              have c19b0 : decide (0 ≤ (ji18)) = true := decide_eq_true c19
              clear c19
              by_cases c20 : (ji18) < (l0_0.length : Int)
              · rw [if_pos c20] at H
                have c20b0 : decide ((ji18) < (l0_0.length : Int)) = true := decide_eq_true c20
                clear c20
                have H' := Aside0.mk H
                clear H
                have hcz21_0 : w16.cell? ⟨gb216, 0, none⟩ = some (.slice A0_0 l0_0.length c0_0) := (blk_cell BK216.out 0).trans rfl
                have hcz21_1 : w16.cell? ⟨gb216, 1, none⟩ = some (.slice A0_1 l0_1.length c0_1) := (blk_cell BK216.out 1).trans rfl
                have hfz21_0 := blk_frozen BK216.out 0
                have hfz21_1 := blk_frozen BK216.out 1
                have p219 : 0 ≤ ((ji18) : Int) := of_decide_eq_true (by first | (with_reducible assumption) | assumption)
                have q219 : (ji18) < (l0_0.length : Int) := of_decide_eq_true (by first | (with_reducible assumption) | assumption)
                obtain ⟨ad219, e219, hx219_0⟩ := Kd.at_string HR0_0.out (ji18) p219 q219
                cases e219
                replace hx219_0 := (HB.out.cell (World.block_lt_of_cell? w _ hx219_0)).trans hx219_0
                replace p219 := eq_true p219
                replace q219 := eq_true q219
                go_wp2
                go_meet
                case rel => exact ⟨_, (((rdOf ByteArray.empty l0_0 (ji18)).toList == a2.toList)), (by first | rfl | (simp; done) | (simp only [← hji18] <;> (first | rfl | simp)) | (simp [*]; done) | exact congrArg Value.bool (leq_text _ _) | (simp; exact leq_text _ _)), H', ⟨by have := HJ3.out; first | omega | exact Nat.le_refl _⟩, ⟨by (with_reducible repeat (first | refine blk_drewN ?_ _ | refine blk_drew ?_ | refine blk_alloc ?_ _)); exact BK216.out⟩, ⟨by repeat (first | (with_reducible first | exact HB.out | apply below_alloc | apply pw_below_drewN | apply below_drew1 | refine below_set ?_ GE216.out) | exact HB.out)⟩⟩
              · rw [if_neg c20] at H
                exact absurd H (by simp)
            · rw [if_neg c19] at H
              exact absurd H (by simp)
          · rw [if_neg c17] at H
            have c17b0 : decide (0 < t218) = false := decide_eq_false c17
            clear c17
            (first | rw [c17b0] | (simp only [i64_w, i32_w]; rw [c17b0]) | skip)
            have H' := Aside0.mk H
            clear H
            go_wp2
            go_meet
            case rel => exact ⟨_, (false), (by first | rfl | (simp; done) | (simp [*]; done) | exact congrArg Value.bool (leq_text _ _) | (simp; exact leq_text _ _)), H', ⟨by have := HJ3.out; first | omega | exact Nat.le_refl _⟩, ⟨by (with_reducible repeat (first | refine blk_drewN ?_ _ | refine blk_drew ?_ | refine blk_alloc ?_ _)); exact BK216.out⟩, ⟨by repeat (first | (with_reducible first | exact HB.out | apply below_alloc | apply pw_below_drewN | apply below_drew1 | refine below_set ?_ GE216.out) | exact HB.out)⟩⟩
        case rest =>
          clear HC14
          try clear c1
          try clear c2
          try clear p2
          try clear q2
          try clear hx2
          try clear c3
          try clear c4
          try clear p6
          try clear c7
          try clear c12
          try clear c13
          try clear c17
          try clear c17b0
          try clear c19
          try clear c19b0
          try clear c20
          try clear c20b0
          try clear p21
          try clear q21
          try clear hx21
          try clear hcz10_0
          try clear hcz10_1
          try clear hcz15_0
          try clear hcz15_1
          try clear hcz21_0
          try clear hcz21_1
          try clear hcz8_0
          try clear hcz8_1
          try clear hfz10_0
          try clear hfz10_1
          try clear hfz15_0
          try clear hfz15_1
          try clear hfz21_0
          try clear hfz21_1
          try clear hfz8_0
          try clear hfz8_1
          try clear hx219_0
          try clear p2
          try clear p219
          try clear q219
          obtain ⟨kq, x30_13, rfl, HA, HJ13, BK216, HB⟩ := hcut
          cases kq with
          | zero => exact absurd HA.out (by simp [leaf_Range.j1])
          | succ kj13 =>
            have H := HA.out
            clear HA
            simp only [leaf_Range.j1] at H
            by_cases c22 : x30_13 = true
            · subst c22
              have H1 : ((leaf_at.f kj13 l0_0 l0_1 a1).bind fun t220 => (if 0 ≤ t220 then (if t220 ≤ (wrap64 ((wrap64 (t218 - 1)) + 1)) then (if (wrap64 ((wrap64 (t218 - 1)) + 1)) ≤ (l0_1.length : Int) then ((slices_Clone_int_int.f ((l0_1.take ((wrap64 ((wrap64 (t218 - 1)) + 1)) : Int).toNat).drop (t220 : Int).toNat)).bind fun t222 => (some t222)) else (none)) else (none)) else (none))) = some r := by rw [if_pos rfl] at H; exact H
              clear H
              have H := H1
              clear H1
              replace H := Option.bind_eq_some_iff.mp H
              obtain ⟨t220, A230, H⟩ := H
              replace H : (if 0 ≤ t220 then (if t220 ≤ (wrap64 ((wrap64 (t218 - 1)) + 1)) then (if (wrap64 ((wrap64 (t218 - 1)) + 1)) ≤ (l0_1.length : Int) then ((slices_Clone_int_int.f ((l0_1.take ((wrap64 ((wrap64 (t218 - 1)) + 1)) : Int).toNat).drop (t220 : Int).toNat)).bind fun t222 => (some t222)) else (none)) else (none)) else (none)) = some r := H
              have A23 := Aside0.mk A230
              clear A230
              by_cases c24 : 0 ≤ t220
              · rw [if_pos c24] at H
                have c24b0 := eq_true c24
                have c24b1 : decide (0 ≤ t220) = true := decide_eq_true c24
                clear c24
                by_cases c25 : t220 ≤ (wrap64 ((wrap64 (t218 - 1)) + 1))
                · rw [if_pos c25] at H
                  have c25b0 := eq_true c25
                  have c25b1 : decide (t220 ≤ (wrap64 ((wrap64 (t218 - 1)) + 1))) = true := decide_eq_true c25
                  by_cases c26 : (wrap64 ((wrap64 (t218 - 1)) + 1)) ≤ (l0_1.length : Int)
                  · rw [if_pos c26] at H
                    have c26b0 := eq_true c26
                    have c26b1 : decide ((wrap64 ((wrap64 (t218 - 1)) + 1)) ≤ (l0_1.length : Int)) = true := decide_eq_true c26
                    replace H := Option.bind_eq_some_iff.mp H
                    obtain ⟨t222, A270, H⟩ := H
                    replace H : (some t222) = some r := H
                    have A27 := Aside0.mk A270
                    clear A270
                    obtain rfl := Option.some.inj H
                    try go_wp2
                    have n0_ := Aside0.mk (blk_drew BK216.out)
                    have n1_ := Aside0.mk (below_drew1 HB.out)
                    clear BK216
                    clear HB
                    have BK216 := n0_
                    have HB := n1_
                    clear n0_ n1_
                    refine start_ (n := 10) (S := fun w' => w'.cell? ⟨gb216, 0, none⟩ = some (.slice A0_0 l0_0.length c0_0) ∧ w'.cell? ⟨gb216, 1, none⟩ = some (.slice A0_1 l0_1.length c0_1)) (ds := []) #[false, false, false, false, false, false, false, false, false, false] (by kernel_rfl) rfl rfl ⟨(blk_cell BK216.out 0).trans rfl, (blk_cell BK216.out 1).trans rfl⟩ (fun hHeld => ?_); refine with_tabW leaf_Range.tab6 leaf_Range.bits6 (fun HT_ HW_ => ?_)
                    generalize wc.drew = w28 at BK216 HB hHeld ⊢
                    refine pure_ (i := 0) (N := some 33) (v := ?_) (a' := ?_) #[true, false, false, false, false, false, false, false, false, false] rfl rfl (any_of HT_.out (by kernel_rfl)) (fun _ _ _ h => h) (Or.inl ⟨by rfl, ?_⟩) ?_ ?_
                    rotate_left
                    · intro w'
                      go_simp
                      with_reducible rfl
                    rotate_left
                    · simp only [Act.put, List.setIfInBounds_toArray, List.set_cons_zero, List.set_cons_succ, i64_w, i32_w]
                      rfl
                    refine pure_ (i := 3) (N := some 36) (v := ?_) (a' := ?_) #[true, false, false, true, false, false, false, false, false, false] rfl rfl (any_of HT_.out (by kernel_rfl)) (fun _ _ _ h => h) (Or.inl ⟨by rfl, ?_⟩) ?_ ?_
                    rotate_left
                    · intro w'
                      go_simp
                      with_reducible rfl
                    rotate_left
                    · simp only [Act.put, List.setIfInBounds_toArray, List.set_cons_zero, List.set_cons_succ, i64_w, i32_w]
                      rfl
                    refine pure_ (i := 5) (N := some 38) (v := ?_) (a' := ?_) #[true, false, false, true, false, true, false, false, false, false] rfl rfl (any_of HT_.out (by kernel_rfl)) (fun _ _ _ h => h) (Or.inl ⟨by rfl, ?_⟩) ?_ ?_
                    rotate_left
                    · intro w'
                      go_simp
                      with_reducible rfl
                    rotate_left
                    · simp only [Act.put, List.setIfInBounds_toArray, List.set_cons_zero, List.set_cons_succ, i64_w, i32_w]
                      rfl
                    refine pure_ (i := 6) (N := some 39) (v := ?_) (a' := ?_) #[true, false, false, true, false, true, true, false, false, false] rfl rfl (any_of HT_.out (by kernel_rfl)) (fun _ _ _ h => h) (Or.inl ⟨by rfl, ?_⟩) ?_ ?_
                    rotate_left
                    · intro w'
                      go_simp
                      with_reducible rfl
                    rotate_left
                    · simp only [Act.put, List.setIfInBounds_toArray, List.set_cons_zero, List.set_cons_succ, i64_w, i32_w]
                      rfl
                    refine take_ (i := 1) (N := some 34) (v := ?_) (a' := ?_) #[true, true, false, true, false, true, true, false, false, false] rfl rfl (take_ofW HT_.out HW_.out (by kernel_rfl)) (fun _ _ _ h => h) (Or.inl ⟨by rfl, ?_⟩) hHeld ?_ ?_
                    rotate_left
                    · rintro w' ⟨s0, s1⟩
                      go_simp
                      with_reducible rfl
                    rotate_left
                    · simp only [Act.put, List.setIfInBounds_toArray, List.set_cons_zero, List.set_cons_succ, i64_w, i32_w]
                      rfl
                    refine take_ (i := 2) (N := some 35) (v := ?_) (a' := ?_) #[true, true, true, true, false, true, true, false, false, false] rfl rfl (take_ofW HT_.out HW_.out (by kernel_rfl)) (fun _ _ _ h => h) (Or.inl ⟨by rfl, ?_⟩) hHeld ?_ ?_
                    rotate_left
                    · rintro w' ⟨s0, s1⟩
                      go_simp
                      with_reducible rfl
                    rotate_left
                    · simp only [Act.put, List.setIfInBounds_toArray, List.set_cons_zero, List.set_cons_succ, i64_w, i32_w]
                      rfl
                    refine one_ (i := 4) (N := some 37) #[true, true, true, true, true, true, true, false, false, false] rfl rfl (one_of HT_.out (by kernel_rfl)) (by decide) (fun K hK => ?_)
                    refine goes_ Try.func38 (by kernel_rfl) rfl #[.agg #[.slice A0_0 l0_0.length c0_0, .slice A0_1 l0_1.length c0_1], .string a1] (by rfl) rfl rfl (by (try simp only [List.map_toArray, List.map_cons, List.map_nil]); first | done | rfl | (simp only [List.length_drop, List.length_take]; rfl)) ?_
                    with_reducible refine (leaf_at.calls kj13 _ _ l0_0 _ _ l0_1 a1 t220 _ ?side1 ?side2 ?side3 ?side4 A23.out).mono ?_
                    (case side1 => repeat (first | exact (Kd.C_below HR0_0.out HB.out) | (with_reducible refine Kd.C_alloc ?_ _) | (with_reducible refine Kd.C_drewN ?_ _) | (with_reducible refine Kd.C_drew ?_)))
                    (case side2 => exact HC0_0.out)
                    (case side3 => repeat (first | exact (Kd.C_below HR0_1.out HB.out) | (with_reducible refine Kd.C_alloc ?_ _) | (with_reducible refine Kd.C_drewN ?_ _) | (with_reducible refine Kd.C_drew ?_)))
                    (case side4 => exact HC0_1.out)
                    rintro e w29 ⟨rfl, hb⟩
                    refine ⟨_, rfl, ?_⟩
                    have n0_ := Aside0.mk (blk_below (g := gb216) (o := .cells #[.slice A0_0 l0_0.length c0_0, .slice A0_1 l0_1.length c0_1] 26 (0, 0)) (by (with_reducible repeat (first | refine blk_drewN ?_ _ | refine blk_drew ?_ | refine blk_alloc ?_ _)); exact BK216.out) hb)
                    have n1_ := Aside0.mk (below_step (by repeat (first | (with_reducible first | exact HB.out | apply below_alloc | apply pw_below_drewN | apply below_drew1 | refine below_set ?_ GE216.out) | exact HB.out)) hb)
                    clear BK216
                    clear HB
                    have BK216 := n0_
                    have HB := n1_
                    clear n0_ n1_
                    (try clear hb)
                    (try clear hb2)
                    (try clear hk)
                    (try clear hi)
                    obtain ⟨i030, hi030, _, hsz30, _⟩ := info_parts info3
                    obtain ⟨A30, hcut30, hA30, hC30⟩ := print_mid_of (P := Try.prog) (Value.int .i64) 0 24 3 .i64 .i64 Try.underlying24 hi030 hsz30 A0_1 c0_1 l0_1 t220 (wrap64 ((wrap64 (t218 - 1)) + 1)) (of_decide_eq_true (by first | (with_reducible assumption) | assumption)) (by first | omega | exact of_decide_eq_true (by first | (with_reducible assumption) | assumption)) (of_decide_eq_true (by first | (with_reducible assumption) | assumption)) HC0_1.out
                    have HR221 := Aside0.mk (Kd.C_of_reads (h1 := fun _ => rfl) (hA30 _ (Kd.reads_of_C HR0_1.out)))
                    have HC221 := Aside0.mk hC30
                    clear hA30 hC30 hi030 hsz30
                    refine hK.out _ _ ⟨(blk_cell BK216.out 0).trans rfl, (blk_cell BK216.out 1).trans rfl⟩ (fun hHeld => ?_)
                    clear hK K
                    refine norm_ (a' := ?_) ?_ ?_
                    rotate_left
                    · show Act.put _ (some 37) _ = _
                      simp only [Act.put, List.setIfInBounds_toArray, List.set_cons_zero, List.set_cons_succ, i64_w, i32_w]
                      rfl
                    refine pure_ (i := 7) (N := some 40) (v := ?_) (a' := ?_) #[true, true, true, true, true, true, true, true, false, false] rfl rfl (any_of HT_.out (by kernel_rfl)) (fun _ _ _ h => h) (Or.inl ⟨by rfl, ?_⟩) ?_ ?_
                    rotate_left
                    · intro w'
                      go_simp
                      with_reducible rfl
                    rotate_left
                    · simp only [Act.put, List.setIfInBounds_toArray, List.set_cons_zero, List.set_cons_succ, i64_w, i32_w]
                      rfl
                    refine one_ (i := 8) (N := some 41) #[true, true, true, true, true, true, true, true, true, false] rfl rfl (one_of HT_.out (by kernel_rfl)) (by decide) (fun K hK => ?_)
                    refine goes_ Try.func42 (by kernel_rfl) rfl #[.slice A30 ((l0_1.take ((wrap64 ((wrap64 (t218 - 1)) + 1)) : Int).toNat).drop (t220 : Int).toNat).length (c0_1 - t220.toNat)] (by rfl) rfl rfl (by (try simp only [List.map_toArray, List.map_cons, List.map_nil]); first | done | (rw [show ((l0_1.take ((wrap64 ((wrap64 (t218 - 1)) + 1)) : Int).toNat).drop (t220 : Int).toNat).length = ((wrap64 ((wrap64 (t218 - 1)) + 1)).toNat - t220.toNat) from (by rw [List.length_drop, List.length_take]; have h_ : ((wrap64 ((wrap64 (t218 - 1)) + 1)) : Int) ≤ (l0_1.length : Int) := of_decide_eq_true (by first | (with_reducible assumption) | assumption); omega)] <;> rfl) | rfl | (simp only [List.length_drop, List.length_take]; rfl)) ?_
                    with_reducible refine (slices_Clone_int_int.calls _ _ ((l0_1.take ((wrap64 ((wrap64 (t218 - 1)) + 1)) : Int).toNat).drop (t220 : Int).toNat) t222 _ ?side1 ?side2 A27.out).mono ?_
                    (case side1 => repeat (first | exact (Kd.C_below HR221.out HB.out) | (with_reducible refine Kd.C_alloc ?_ _) | (with_reducible refine Kd.C_drewN ?_ _) | (with_reducible refine Kd.C_drew ?_)))
                    (case side2 => exact HC221.out)
                    rintro e w31 ⟨v223, rfl, ho0, hb⟩
                    refine ⟨_, rfl, ?_⟩
                    have n0_ := Aside0.mk (Kd.R_lower ho0 (below_size (by repeat (first | (with_reducible first | exact HB.out | apply below_alloc | apply pw_below_drewN | apply below_drew1 | refine below_set ?_ GE216.out) | exact HB.out))))
                    have n1_ := Aside0.mk (blk_below (g := gb216) (o := .cells #[.slice A0_0 l0_0.length c0_0, .slice A0_1 l0_1.length c0_1] 26 (0, 0)) (by (with_reducible repeat (first | refine blk_drewN ?_ _ | refine blk_drew ?_ | refine blk_alloc ?_ _)); exact BK216.out) hb)
                    have n2_ := Aside0.mk (below_step (by repeat (first | (with_reducible first | exact HB.out | apply below_alloc | apply pw_below_drewN | apply below_drew1 | refine below_set ?_ GE216.out) | exact HB.out)) hb)
                    clear BK216
                    clear HB
                    have HO224 := n0_
                    have BK216 := n1_
                    have HB := n2_
                    clear n0_ n1_ n2_
                    (try clear hb)
                    (try clear hb2)
                    (try clear hk)
                    (try clear hi)
                    (try clear ho0)
                    refine hK.out _ _ ⟨(blk_cell BK216.out 0).trans rfl, (blk_cell BK216.out 1).trans rfl⟩ (fun hHeld => ?_)
                    clear hK K
                    refine norm_ (a' := ?_) ?_ ?_
                    rotate_left
                    · show Act.put _ (some 41) _ = _
                      simp only [Act.put, List.setIfInBounds_toArray, List.set_cons_zero, List.set_cons_succ, i64_w, i32_w]
                      rfl
                    refine pure_ (i := 9) (N := some 6) (v := ?_) (a' := ?_) #[true, true, true, true, true, true, true, true, true, true] rfl rfl (any_of HT_.out (by kernel_rfl)) (fun _ _ _ h => h) (Or.inl ⟨by rfl, ?_⟩) ?_ ?_
                    rotate_left
                    · intro w'
                      go_simp
                      with_reducible rfl
                    rotate_left
                    · simp only [Act.put, List.setIfInBounds_toArray, List.set_cons_zero, List.set_cons_succ, i64_w, i32_w]
                      rfl
                    refine done_ (done_of HT_.out (by kernel_rfl)) ?_
                    try go_wp2
                    go_ret
                    exact ⟨_, by first | rfl | (simp [errW_none, errW_some] <;> rfl) | (simp [*, errW_none, errW_some] <;> rfl), by (with_reducible repeat (first | apply Kd.R_alloc | apply Kd.R_drewN | apply Kd.R_drew)); exact HO224.out, by repeat (first | (with_reducible first | exact HB.out | apply below_alloc | apply pw_below_drewN | apply below_drew1 | refine below_set ?_ GE216.out) | exact HB.out)⟩
                  · rw [if_neg c26] at H
                    exact absurd H (by simp)
                · rw [if_neg c25] at H
                  exact absurd H (by simp)
              · rw [if_neg c24] at H
                exact absurd H (by simp)
            · replace c22 := Bool.eq_false_iff.mpr c22
              subst c22
              have H1 : ((leaf_at.f kj13 l0_0 l0_1 a1).bind fun t225 => (if 0 ≤ t225 then (if t225 ≤ (wrap64 (t218 + 1)) then (if (wrap64 (t218 + 1)) ≤ (l0_1.length : Int) then ((slices_Clone_int_int.f ((l0_1.take ((wrap64 (t218 + 1)) : Int).toNat).drop (t225 : Int).toNat)).bind fun t227 => (some t227)) else (none)) else (none)) else (none))) = some r := by rw [if_neg (show ¬ (false = true) by decide)] at H; exact H
              clear H
              have H := H1
              clear H1
              replace H := Option.bind_eq_some_iff.mp H
              obtain ⟨t225, A320, H⟩ := H
              replace H : (if 0 ≤ t225 then (if t225 ≤ (wrap64 (t218 + 1)) then (if (wrap64 (t218 + 1)) ≤ (l0_1.length : Int) then ((slices_Clone_int_int.f ((l0_1.take ((wrap64 (t218 + 1)) : Int).toNat).drop (t225 : Int).toNat)).bind fun t227 => (some t227)) else (none)) else (none)) else (none)) = some r := H
              have A32 := Aside0.mk A320
              clear A320
              by_cases c33 : 0 ≤ t225
              · rw [if_pos c33] at H
                have c33b0 := eq_true c33
                have c33b1 : decide (0 ≤ t225) = true := decide_eq_true c33
                clear c33
                by_cases c34 : t225 ≤ (wrap64 (t218 + 1))
                · rw [if_pos c34] at H
                  have c34b0 := eq_true c34
                  have c34b1 : decide (t225 ≤ (wrap64 (t218 + 1))) = true := decide_eq_true c34
                  by_cases c35 : (wrap64 (t218 + 1)) ≤ (l0_1.length : Int)
                  · rw [if_pos c35] at H
                    have c35b0 := eq_true c35
                    have c35b1 : decide ((wrap64 (t218 + 1)) ≤ (l0_1.length : Int)) = true := decide_eq_true c35
                    replace H := Option.bind_eq_some_iff.mp H
                    obtain ⟨t227, A360, H⟩ := H
                    replace H : (some t227) = some r := H
                    have A36 := Aside0.mk A360
                    clear A360
                    obtain rfl := Option.some.inj H
                    try go_wp2
                    have n0_ := Aside0.mk (blk_drew BK216.out)
                    have n1_ := Aside0.mk (below_drew1 HB.out)
                    clear BK216
                    clear HB
                    have BK216 := n0_
                    have HB := n1_
                    clear n0_ n1_
                    refine start_ (n := 10) (S := fun w' => w'.cell? ⟨gb216, 0, none⟩ = some (.slice A0_0 l0_0.length c0_0) ∧ w'.cell? ⟨gb216, 1, none⟩ = some (.slice A0_1 l0_1.length c0_1)) (ds := []) #[false, false, false, false, false, false, false, false, false, false] (by kernel_rfl) rfl rfl ⟨(blk_cell BK216.out 0).trans rfl, (blk_cell BK216.out 1).trans rfl⟩ (fun hHeld => ?_); refine with_tabW leaf_Range.tab6 leaf_Range.bits6 (fun HT_ HW_ => ?_)
                    generalize wc.drew = w37 at BK216 HB hHeld ⊢
                    refine pure_ (i := 0) (N := some 33) (v := ?_) (a' := ?_) #[true, false, false, false, false, false, false, false, false, false] rfl rfl (any_of HT_.out (by kernel_rfl)) (fun _ _ _ h => h) (Or.inl ⟨by rfl, ?_⟩) ?_ ?_
                    rotate_left
                    · intro w'
                      go_simp
                      with_reducible rfl
                    rotate_left
                    · simp only [Act.put, List.setIfInBounds_toArray, List.set_cons_zero, List.set_cons_succ, i64_w, i32_w]
                      rfl
                    refine pure_ (i := 3) (N := some 36) (v := ?_) (a' := ?_) #[true, false, false, true, false, false, false, false, false, false] rfl rfl (any_of HT_.out (by kernel_rfl)) (fun _ _ _ h => h) (Or.inl ⟨by rfl, ?_⟩) ?_ ?_
                    rotate_left
                    · intro w'
                      go_simp
                      with_reducible rfl
                    rotate_left
                    · simp only [Act.put, List.setIfInBounds_toArray, List.set_cons_zero, List.set_cons_succ, i64_w, i32_w]
                      rfl
                    refine pure_ (i := 5) (N := some 38) (v := ?_) (a' := ?_) #[true, false, false, true, false, true, false, false, false, false] rfl rfl (any_of HT_.out (by kernel_rfl)) (fun _ _ _ h => h) (Or.inl ⟨by rfl, ?_⟩) ?_ ?_
                    rotate_left
                    · intro w'
                      go_simp
                      with_reducible rfl
                    rotate_left
                    · simp only [Act.put, List.setIfInBounds_toArray, List.set_cons_zero, List.set_cons_succ, i64_w, i32_w]
                      rfl
                    refine pure_ (i := 6) (N := some 39) (v := ?_) (a' := ?_) #[true, false, false, true, false, true, true, false, false, false] rfl rfl (any_of HT_.out (by kernel_rfl)) (fun _ _ _ h => h) (Or.inl ⟨by rfl, ?_⟩) ?_ ?_
                    rotate_left
                    · intro w'
                      go_simp
                      with_reducible rfl
                    rotate_left
                    · simp only [Act.put, List.setIfInBounds_toArray, List.set_cons_zero, List.set_cons_succ, i64_w, i32_w]
                      rfl
                    refine take_ (i := 1) (N := some 34) (v := ?_) (a' := ?_) #[true, true, false, true, false, true, true, false, false, false] rfl rfl (take_ofW HT_.out HW_.out (by kernel_rfl)) (fun _ _ _ h => h) (Or.inl ⟨by rfl, ?_⟩) hHeld ?_ ?_
                    rotate_left
                    · rintro w' ⟨s0, s1⟩
                      go_simp
                      with_reducible rfl
                    rotate_left
                    · simp only [Act.put, List.setIfInBounds_toArray, List.set_cons_zero, List.set_cons_succ, i64_w, i32_w]
                      rfl
                    refine take_ (i := 2) (N := some 35) (v := ?_) (a' := ?_) #[true, true, true, true, false, true, true, false, false, false] rfl rfl (take_ofW HT_.out HW_.out (by kernel_rfl)) (fun _ _ _ h => h) (Or.inl ⟨by rfl, ?_⟩) hHeld ?_ ?_
                    rotate_left
                    · rintro w' ⟨s0, s1⟩
                      go_simp
                      with_reducible rfl
                    rotate_left
                    · simp only [Act.put, List.setIfInBounds_toArray, List.set_cons_zero, List.set_cons_succ, i64_w, i32_w]
                      rfl
                    refine one_ (i := 4) (N := some 37) #[true, true, true, true, true, true, true, false, false, false] rfl rfl (one_of HT_.out (by kernel_rfl)) (by decide) (fun K hK => ?_)
                    refine goes_ Try.func38 (by kernel_rfl) rfl #[.agg #[.slice A0_0 l0_0.length c0_0, .slice A0_1 l0_1.length c0_1], .string a1] (by rfl) rfl rfl (by (try simp only [List.map_toArray, List.map_cons, List.map_nil]); first | done | rfl | (simp only [List.length_drop, List.length_take]; rfl)) ?_
                    with_reducible refine (leaf_at.calls kj13 _ _ l0_0 _ _ l0_1 a1 t225 _ ?side1 ?side2 ?side3 ?side4 A32.out).mono ?_
                    (case side1 => repeat (first | exact (Kd.C_below HR0_0.out HB.out) | (with_reducible refine Kd.C_alloc ?_ _) | (with_reducible refine Kd.C_drewN ?_ _) | (with_reducible refine Kd.C_drew ?_)))
                    (case side2 => exact HC0_0.out)
                    (case side3 => repeat (first | exact (Kd.C_below HR0_1.out HB.out) | (with_reducible refine Kd.C_alloc ?_ _) | (with_reducible refine Kd.C_drewN ?_ _) | (with_reducible refine Kd.C_drew ?_)))
                    (case side4 => exact HC0_1.out)
                    rintro e w38 ⟨rfl, hb⟩
                    refine ⟨_, rfl, ?_⟩
                    have n0_ := Aside0.mk (blk_below (g := gb216) (o := .cells #[.slice A0_0 l0_0.length c0_0, .slice A0_1 l0_1.length c0_1] 26 (0, 0)) (by (with_reducible repeat (first | refine blk_drewN ?_ _ | refine blk_drew ?_ | refine blk_alloc ?_ _)); exact BK216.out) hb)
                    have n1_ := Aside0.mk (below_step (by repeat (first | (with_reducible first | exact HB.out | apply below_alloc | apply pw_below_drewN | apply below_drew1 | refine below_set ?_ GE216.out) | exact HB.out)) hb)
                    clear BK216
                    clear HB
                    have BK216 := n0_
                    have HB := n1_
                    clear n0_ n1_
                    (try clear hb)
                    (try clear hb2)
                    (try clear hk)
                    (try clear hi)
                    obtain ⟨i039, hi039, _, hsz39, _⟩ := info_parts info3
                    obtain ⟨A39, hcut39, hA39, hC39⟩ := print_mid_of (P := Try.prog) (Value.int .i64) 0 24 3 .i64 .i64 Try.underlying24 hi039 hsz39 A0_1 c0_1 l0_1 t225 (wrap64 (t218 + 1)) (of_decide_eq_true (by first | (with_reducible assumption) | assumption)) (by first | omega | exact of_decide_eq_true (by first | (with_reducible assumption) | assumption)) (of_decide_eq_true (by first | (with_reducible assumption) | assumption)) HC0_1.out
                    have HR226 := Aside0.mk (Kd.C_of_reads (h1 := fun _ => rfl) (hA39 _ (Kd.reads_of_C HR0_1.out)))
                    have HC226 := Aside0.mk hC39
                    clear hA39 hC39 hi039 hsz39
                    refine hK.out _ _ ⟨(blk_cell BK216.out 0).trans rfl, (blk_cell BK216.out 1).trans rfl⟩ (fun hHeld => ?_)
                    clear hK K
                    refine norm_ (a' := ?_) ?_ ?_
                    rotate_left
                    · show Act.put _ (some 37) _ = _
                      simp only [Act.put, List.setIfInBounds_toArray, List.set_cons_zero, List.set_cons_succ, i64_w, i32_w]
                      rfl
                    refine pure_ (i := 7) (N := some 40) (v := ?_) (a' := ?_) #[true, true, true, true, true, true, true, true, false, false] rfl rfl (any_of HT_.out (by kernel_rfl)) (fun _ _ _ h => h) (Or.inl ⟨by rfl, ?_⟩) ?_ ?_
                    rotate_left
                    · intro w'
                      go_simp
                      with_reducible rfl
                    rotate_left
                    · simp only [Act.put, List.setIfInBounds_toArray, List.set_cons_zero, List.set_cons_succ, i64_w, i32_w]
                      rfl
                    refine one_ (i := 8) (N := some 41) #[true, true, true, true, true, true, true, true, true, false] rfl rfl (one_of HT_.out (by kernel_rfl)) (by decide) (fun K hK => ?_)
                    refine goes_ Try.func42 (by kernel_rfl) rfl #[.slice A39 ((l0_1.take ((wrap64 (t218 + 1)) : Int).toNat).drop (t225 : Int).toNat).length (c0_1 - t225.toNat)] (by rfl) rfl rfl (by (try simp only [List.map_toArray, List.map_cons, List.map_nil]); first | done | (rw [show ((l0_1.take ((wrap64 (t218 + 1)) : Int).toNat).drop (t225 : Int).toNat).length = ((wrap64 (t218 + 1)).toNat - t225.toNat) from (by rw [List.length_drop, List.length_take]; have h_ : ((wrap64 (t218 + 1)) : Int) ≤ (l0_1.length : Int) := of_decide_eq_true (by first | (with_reducible assumption) | assumption); omega)] <;> rfl) | rfl | (simp only [List.length_drop, List.length_take]; rfl)) ?_
                    with_reducible refine (slices_Clone_int_int.calls _ _ ((l0_1.take ((wrap64 (t218 + 1)) : Int).toNat).drop (t225 : Int).toNat) t227 _ ?side1 ?side2 A36.out).mono ?_
                    (case side1 => repeat (first | exact (Kd.C_below HR226.out HB.out) | (with_reducible refine Kd.C_alloc ?_ _) | (with_reducible refine Kd.C_drewN ?_ _) | (with_reducible refine Kd.C_drew ?_)))
                    (case side2 => exact HC226.out)
                    rintro e w40 ⟨v228, rfl, ho0, hb⟩
                    refine ⟨_, rfl, ?_⟩
                    have n0_ := Aside0.mk (Kd.R_lower ho0 (below_size (by repeat (first | (with_reducible first | exact HB.out | apply below_alloc | apply pw_below_drewN | apply below_drew1 | refine below_set ?_ GE216.out) | exact HB.out))))
                    have n1_ := Aside0.mk (blk_below (g := gb216) (o := .cells #[.slice A0_0 l0_0.length c0_0, .slice A0_1 l0_1.length c0_1] 26 (0, 0)) (by (with_reducible repeat (first | refine blk_drewN ?_ _ | refine blk_drew ?_ | refine blk_alloc ?_ _)); exact BK216.out) hb)
                    have n2_ := Aside0.mk (below_step (by repeat (first | (with_reducible first | exact HB.out | apply below_alloc | apply pw_below_drewN | apply below_drew1 | refine below_set ?_ GE216.out) | exact HB.out)) hb)
                    clear BK216
                    clear HB
                    have HO229 := n0_
                    have BK216 := n1_
                    have HB := n2_
                    clear n0_ n1_ n2_
                    (try clear hb)
                    (try clear hb2)
                    (try clear hk)
                    (try clear hi)
                    (try clear ho0)
                    refine hK.out _ _ ⟨(blk_cell BK216.out 0).trans rfl, (blk_cell BK216.out 1).trans rfl⟩ (fun hHeld => ?_)
                    clear hK K
                    refine norm_ (a' := ?_) ?_ ?_
                    rotate_left
                    · show Act.put _ (some 41) _ = _
                      simp only [Act.put, List.setIfInBounds_toArray, List.set_cons_zero, List.set_cons_succ, i64_w, i32_w]
                      rfl
                    refine pure_ (i := 9) (N := some 6) (v := ?_) (a' := ?_) #[true, true, true, true, true, true, true, true, true, true] rfl rfl (any_of HT_.out (by kernel_rfl)) (fun _ _ _ h => h) (Or.inl ⟨by rfl, ?_⟩) ?_ ?_
                    rotate_left
                    · intro w'
                      go_simp
                      with_reducible rfl
                    rotate_left
                    · simp only [Act.put, List.setIfInBounds_toArray, List.set_cons_zero, List.set_cons_succ, i64_w, i32_w]
                      rfl
                    refine done_ (done_of HT_.out (by kernel_rfl)) ?_
                    try go_wp2
                    go_ret
                    exact ⟨_, by first | rfl | (simp [errW_none, errW_some] <;> rfl) | (simp [*, errW_none, errW_some] <;> rfl), by (with_reducible repeat (first | apply Kd.R_alloc | apply Kd.R_drewN | apply Kd.R_drew)); exact HO229.out, by repeat (first | (with_reducible first | exact HB.out | apply below_alloc | apply pw_below_drewN | apply below_drew1 | refine below_set ?_ GE216.out) | exact HB.out)⟩
                  · rw [if_neg c35] at H
                    exact absurd H (by simp)
                · rw [if_neg c34] at H
                  exact absurd H (by simp)
              · rw [if_neg c33] at H
                exact absurd H (by simp)
end Go.Proofs.Ytneagipmllgejaa.PL
end
