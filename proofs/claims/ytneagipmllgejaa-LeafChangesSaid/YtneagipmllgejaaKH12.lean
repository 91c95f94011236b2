/- A part of the proof: lemmas that the row uses, laid together by a program of this session's (pack.py) out of its texts and of what the kit's printer wrote for this seat. -/
import Derived.OpenShut
import Derived.ChangeSlices
import Derived.SliceStrings
import Derived.Deep.Strs
import Derived.ChangeSame
import Derived.Test.YtneagipmllgejaaKH0
import Derived.Test.YtneagipmllgejaaKH1
import Derived.Test.YtneagipmllgejaaKH2
import Derived.Test.YtneagipmllgejaaKH3
import Derived.Test.YtneagipmllgejaaKH4
import Derived.Test.YtneagipmllgejaaKH5
import Derived.Test.YtneagipmllgejaaKH6
import Derived.Test.YtneagipmllgejaaKH7
import Derived.Test.YtneagipmllgejaaKH8
import Derived.Test.YtneagipmllgejaaKH9
import Derived.Test.YtneagipmllgejaaKH10
import Derived.Test.YtneagipmllgejaaKH11
section
set_option linter.unusedVariables false
set_option linter.unusedSimpArgs false
namespace Go.Proofs.Ytneagipmllgejaa.PL
open Go.ChangeShapes Go.WideShapes Go.RowKit Go.Proofs.YtneagipmllgejaaW.PrintWords Go.Proofs.YtneagipmllgejaaW.PrintLast
section
variable {H : Type} {enc : TypeId × Value → H} {w : World} {base : Nat} {spare : Nat → Bool} {held : Bool}
/-- A slice of one-cell elements, read. -/
theorem read_cells {α : Type} {en : α → Value} {h1 : ∀ x, (en x).oneCell' = true} {z : α} {ad : Addr} {len : Nat} {zs : List α} (hl : len ≤ zs.length) (hm : len ≤ maxLen) (hc : ∀ i, i < zs.length → w.cell? (ad.add i) = some (en (zs.getD i z))) : (Kd.scalar en h1).C w (some ad) (zs.take len).length (zs.take len) := by
  have hlt : (zs.take len).length = len := by simp; omega
  refine ⟨rfl, by rw [hlt]; unfold maxLen at hm; omega, fun hp => ⟨ad, rfl, fun j p hj => ?_⟩⟩
  change (zs.take len)[j]? = some p at hj
  have hjl := (List.getElem?_eq_some_iff.1 hj).1
  have hj2 : j < len := by rw [← hlt]; exact hjl
  refine ⟨[en p], rfl, rfl, fun i u hu => ?_⟩
  cases i with
  | zero =>
    simp at hu
    subst hu
    have hcc := hc j (by omega)
    rw [List.getElem?_take, if_pos hj2] at hj
    rw [List.getD_eq_getElem?_getD, hj] at hcc
    show w.cell? (ad.add (j * 1 + 0)) = _
    rw [Nat.mul_one, Nat.add_zero]
    exact hcc
  | succ i => simp at hu
theorem open_strs {fuel : Nat} {cs : List Value} {x : DataW H × List MemPlace} (h : DataW.trod enc Try.prog w base spare held fuel 22 cs = some x) :
    ∃ (A : Option Addr) (cap : Nat) (l : List ByteArray), cs = [.slice A l.length cap] ∧ l.length ≤ cap ∧ cap ≤ maxLen ∧ Kd.C Kd.string w A l.length l := by
  rcases open_strings Try.underlying22 Try.underlying9 (by kernel_rfl) h with ⟨rfl, _⟩ | ⟨ad, len, cap, zs, rfl, _, hlc, hcm, hzl, _, hcell, _⟩
  · exact ⟨none, 0, [], rfl, Nat.le_refl _, by unfold maxLen; omega, Kd.C_nil _ _⟩
  · have hle : len ≤ zs.length := by split at hzl <;> omega
    exact ⟨some ad, cap, zs.take len, by simp [hle], by simp; omega, hcm, read_cells (z := ByteArray.empty) hle (by omega) hcell⟩
theorem open_nums {fuel : Nat} {cs : List Value} {x : DataW H × List MemPlace} (h : DataW.trod enc Try.prog w base spare held fuel 24 cs = some x) :
    ∃ (A : Option Addr) (cap : Nat) (l : List Int), cs = [.slice A l.length cap] ∧ l.length ≤ cap ∧ cap ≤ maxLen ∧ Kd.C (Kd.int .i64) w A l.length l := by
  rcases open_ints Try.underlying24 Try.underlying3 (by kernel_rfl) h with ⟨rfl, _⟩ | ⟨ad, len, cap, zs, rfl, _, hlc, hcm, hzl, _, hcell, _⟩
  · exact ⟨none, 0, [], rfl, Nat.le_refl _, by unfold maxLen; omega, Kd.C_nil _ _⟩
  · have hle : len ≤ zs.length := by split at hzl <;> omega
    exact ⟨some ad, cap, zs.take len, by simp [hle], by simp; omega, hcm, read_cells (z := 0) hle (by omega) hcell⟩
set_option maxRecDepth 100000 in
/-- One leaf's cells. -/
theorem open_leaf {fuel : Nat} {cs : List Value} {x : DataW H × List MemPlace} (h : DataW.trod enc Try.prog w base spare held fuel 28 cs = some x) :
    ∃ (c : S28) (A : Option Addr) (d : Nat), cs = [.int .i64 c.f0, .slice A c.f1.length d, .bool c.f2] ∧ c.f1.length ≤ d ∧ d ≤ maxLen ∧ Kd.C Kd.string w A c.f1.length c.f1 := by
  obtain ⟨y0, y1, y2, n, _, hl, h0, h1, h2⟩ := Go.Deep.trod_struct3 Try.underlying28 h
  have e0 : Try.prog.cellsOf 3 = 1 := by kernel_rfl
  have e1 : Try.prog.cellsOf 22 = 1 := by kernel_rfl
  have e2 : Try.prog.cellsOf 4 = 1 := by kernel_rfl
  have e4 : Try.prog.cellsOf 28 = 3 := by kernel_rfl
  rw [e4] at hl
  match cs, hl with
  | [a, b, c], _ =>
    simp only [e0, e1, e2, List.drop_zero, List.drop_succ_cons, List.take_succ_cons, List.take_zero] at h0 h1 h2
    obtain ⟨m0, q0, _, _⟩ := DataW.trod_int Try.underlying3 h0
    obtain ⟨m2, q2, _⟩ := DataW.trod_bool Try.underlying4 h2
    obtain ⟨A, cap, l, q1, hl1, hl2, hC⟩ := open_strs h1
    injection q0 with q0 _
    injection q1 with q1 _
    injection q2 with q2 _
    subst q0 q1 q2
    exact ⟨⟨m0, l, m2⟩, A, cap, rfl, hl1, hl2, hC⟩
set_option maxRecDepth 100000 in
/-- A root's cells. -/
theorem open_root {fuel : Nat} {cs : List Value} {x : DataW H × List MemPlace} (h : DataW.trod enc Try.prog w base spare held fuel 26 cs = some x) :
    ∃ (A : Option Addr) (c : Nat) (a : List ByteArray) (B : Option Addr) (d : Nat) (b : List Int), cs = [.slice A a.length c, .slice B b.length d] ∧ a.length ≤ c ∧ Kd.C Kd.string w A a.length a ∧ b.length ≤ d ∧ Kd.C (Kd.int .i64) w B b.length b := by
  obtain ⟨y0, y1, n, _, hl, h0, h1⟩ := trod_struct2 Try.underlying26 h
  have e0 : Try.prog.cellsOf 24 = 1 := by kernel_rfl
  have e1 : Try.prog.cellsOf 22 = 1 := by kernel_rfl
  have e4 : Try.prog.cellsOf 26 = 2 := by kernel_rfl
  rw [e4] at hl
  match cs, hl with
  | [u, v], _ =>
    simp only [e0, e1, List.drop_zero, List.drop_succ_cons, List.take_succ_cons, List.take_zero] at h0 h1
    obtain ⟨A, c, a, q0, g1, _, g2⟩ := open_strs h0
    obtain ⟨B, d, b, q1, g3, _, g4⟩ := open_nums h1
    injection q0 with q0 _
    injection q1 with q1 _
    subst q0 q1
    exact ⟨A, c, a, B, d, b, rfl, g1, g2, g3, g4⟩
end
end Go.Proofs.Ytneagipmllgejaa.PL
end
