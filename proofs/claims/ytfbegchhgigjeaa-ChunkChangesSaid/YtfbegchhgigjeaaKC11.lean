/- A part of the proof: lemmas that the row uses, laid together by a program of this session's (pack.py) out of its texts and of what the kit's printer wrote for this seat. -/
import Derived.OpenShut
import Derived.ChangeSlices
import Derived.Lib.SmallJoins
import Derived.Test.YtfbegchhgigjeaaKC0
import Derived.Test.YtfbegchhgigjeaaKC1
import Derived.Test.YtfbegchhgigjeaaKC2
import Derived.Test.YtfbegchhgigjeaaKC3
import Derived.Test.YtfbegchhgigjeaaKC4
import Derived.Test.YtfbegchhgigjeaaKC5
import Derived.Test.YtfbegchhgigjeaaKC6
import Derived.Test.YtfbegchhgigjeaaKC7
import Derived.Test.YtfbegchhgigjeaaKC8
import Derived.Test.YtfbegchhgigjeaaKC9
import Derived.Test.YtfbegchhgigjeaaKC10
section
set_option linter.unusedVariables false
set_option linter.unusedSimpArgs false
namespace Go.Proofs.Ytfbegchhgigjeaa.PC
open Go.ChangeShapes Go.WideShapes Go.ChangeAt Go.RowKit Go.Proofs.YtfbegchhgigjeaaW.PrintWords Go.Proofs.YtfbegchhgigjeaaW.PrintLast
theorem choose_list {α : Type} {n : Nat} {P : Nat → α → Prop} (h : ∀ i, i < n → ∃ c, P i c) : ∃ l : List α, l.length = n ∧ ∀ i c, l[i]? = some c → P i c := by
  induction n with
  | zero => exact ⟨[], rfl, fun i c hi => by simp at hi⟩
  | succ n ih =>
    obtain ⟨l, hl, hp⟩ := ih (fun i hi => h i (by omega))
    obtain ⟨c, hc⟩ := h n (by omega)
    refine ⟨l ++ [c], by simp [hl], fun i d hd => ?_⟩
    rcases Nat.lt_or_ge i n with hi | hi
    · rw [List.getElem?_append_left (by omega)] at hd
      exact hp i d hd
    · rw [List.getElem?_append_right (by omega)] at hd
      have : i - l.length = 0 := by
        have := (List.getElem?_eq_some_iff.1 hd).1
        simp at this
        omega
      rw [this] at hd
      simp at hd
      obtain rfl : i = n := by omega
      exact hd ▸ hc
section
variable {H : Type} {enc : TypeId × Value → H} {w : World} {base : Nat} {spare : Nat → Bool} {held : Bool}
/-- One chunk's cells. -/
theorem open_cells {fuel : Nat} {cs : List Value} {x : DataW H × List MemPlace} (h : DataW.trod enc Try.prog w base spare held fuel 39 cs = some x) :
    ∃ (c : S39) (A : Option Addr) (d : Nat), cs = [.int .i64 c.f0, .slice A c.f1.length d, .int .i64 c.f2, .bool c.f3] ∧ c.f1.length ≤ d ∧ d ≤ maxLen ∧ Kd.C (Kd.int .i64) w A c.f1.length c.f1 := by
  obtain ⟨y0, y1, y2, y3, n, _, hl, h0, h1, h2, h3⟩ := Go.Joins.trod_struct4 Try.underlying39 h
  have e0 : Try.prog.cellsOf 3 = 1 := by kernel_rfl
  have e1 : Try.prog.cellsOf 22 = 1 := by kernel_rfl
  have e2 : Try.prog.cellsOf 4 = 1 := by kernel_rfl
  have e4 : Try.prog.cellsOf 39 = 4 := by kernel_rfl
  rw [e4] at hl
  match cs, hl with
  | [a, b, c, d], _ =>
    simp only [e0, e1, e2, List.drop_zero, List.drop_succ_cons, List.take_succ_cons, List.take_zero] at h0 h1 h2 h3
    obtain ⟨m0, q0, _, _⟩ := DataW.trod_int Try.underlying3 h0
    obtain ⟨m2, q2, _, _⟩ := DataW.trod_int Try.underlying3 h2
    obtain ⟨m3, q3, _⟩ := DataW.trod_bool Try.underlying4 h3
    injection q0 with q0 _
    injection q2 with q2 _
    injection q3 with q3 _
    subst q0 q2 q3
    rcases open_ints Try.underlying22 Try.underlying3 e0 h1 with ⟨q1, _⟩ | ⟨ad, len, cap, zs, q1, _, hlc, hcm, hzl, _, hcell, _⟩
    · injection q1 with q1 _
      subst q1
      exact ⟨⟨m0, [], m2, m3⟩, none, 0, rfl, Nat.le_refl _, by unfold maxLen; omega, Kd.C_nil _ _⟩
    · injection q1 with q1 _
      subst q1
      have hle : len ≤ zs.length := by split at hzl <;> omega
      have hlt : (zs.take len).length = len := by simp; omega
      refine ⟨⟨m0, zs.take len, m2, m3⟩, some ad, cap, by simp [hle], by simp; omega, hcm, ⟨rfl, by rw [hlt]; unfold maxLen at hcm; omega, fun hp => ⟨ad, rfl, fun j p hj => ?_⟩⟩⟩
      change (zs.take len)[j]? = some p at hj
      have hjl := (List.getElem?_eq_some_iff.1 hj).1
      have hj2 : j < len := by rw [← hlt]; exact hjl
      refine ⟨[.int .i64 p], rfl, rfl, fun i u hu => ?_⟩
      cases i with
      | zero =>
        simp at hu
        subst hu
        have hc := hcell j (by omega)
        rw [List.getElem?_take, if_pos hj2] at hj
        rw [List.getD_eq_getElem?_getD, hj] at hc
        show w.cell? (ad.add (j * 1 + 0)) = _
        rw [Nat.mul_one, Nat.add_zero]
        exact hc
      | succ i => simp at hu
/-- The row. -/
theorem open_chunks {fuel : Nat} {cs : List Value} {x : DataW H × List MemPlace} (h : DataW.trod enc Try.prog w base spare held fuel 24 cs = some x) :
    ∃ (A : Option Addr) (cap : Nat) (l0 : List S39), cs = [.slice A l0.length cap] ∧ l0.length ≤ cap ∧ cap ≤ maxLen ∧ Kd.C k39 w A l0.length l0 := by
  have e4 : Try.prog.cellsOf 39 = 4 := by kernel_rfl
  rcases DataW.trod_slice Try.underlying24 h with ⟨rfl, _⟩ | ⟨ad, len, cap, elems, rest, n, _, rfl, _, _, hlc, hcm, hlen, hel, _, _⟩
  · exact ⟨none, 0, [], rfl, Nat.le_refl _, by unfold maxLen; omega, Kd.C_nil _ _⟩
  · have hch : ∀ i, i < len → ∃ c : S39, ∃ cells : List Value, cells.length = 4 ∧ k39.K w c cells ∧ ∀ j u, cells[j]? = some u → w.cell? (ad.add (i * 4 + j)) = some u := by
      intro i hi
      have h1 := hel i hi
      rw [List.getElem?_eq_getElem (by omega), Option.bind_eq_some_iff, e4] at h1
      obtain ⟨cells, hcs, ht⟩ := h1
      obtain ⟨_, hcl, hcc⟩ := World.cells?_some hcs
      obtain ⟨c, A, d, rfl, hd1, hd2, hC⟩ := open_cells ht
      refine ⟨c, _, rfl, k39_mk w c hd1 hC, fun j u hu => ?_⟩
      have hj : j < 4 := (List.getElem?_eq_some_iff.1 hu).1
      have := hcc j hj
      rw [hu] at this
      rw [← this]
      show w.cell? (ad.add (i * 4 + j)) = w.cell? ((ad.add (i * 4)).add j)
      by_cases q1 : i * 4 = 0 <;> by_cases q2 : j = 0 <;> simp [Addr.add, q1, q2, Nat.add_assoc]
    obtain ⟨l, hl, hp⟩ := choose_list hch
    subst hl
    refine ⟨some ad, cap, l, rfl, hlc, hcm, ⟨rfl, by unfold maxLen at hcm; omega, fun _ => ⟨ad, rfl, fun j p hj => ?_⟩⟩⟩
    obtain ⟨cells, h1, h2, h3⟩ := hp j p hj
    exact ⟨cells, h1, h2, h3⟩
end
end Go.Proofs.Ytfbegchhgigjeaa.PC
end
