/- A part of the proof: lemmas that the row uses, laid together by a program of this session's (pack.py) out of its texts and of what the kit's printer wrote for this seat. -/
import Derived.OpenShut
import Derived.ChangeSlices
import Derived.SliceStrings
import Derived.Deep.Strs
import Derived.ChangeSame
import Derived.Test.YtneagipmllgejaaKA0
import Derived.Test.YtneagipmllgejaaKA1
import Derived.Test.YtneagipmllgejaaKA2
import Derived.Test.YtneagipmllgejaaKA3
import Derived.Test.YtneagipmllgejaaKA4
import Derived.Test.YtneagipmllgejaaKA5
import Derived.Test.YtneagipmllgejaaKA6
import Derived.Test.YtneagipmllgejaaKA7
import Derived.Test.YtneagipmllgejaaKA8
import Derived.Test.YtneagipmllgejaaKA9
import Derived.Test.YtneagipmllgejaaKA10
section
set_option linter.unusedVariables false
set_option linter.unusedSimpArgs false
namespace Go.Proofs.Ytneagipmllgejaa.PL
open Go.ChangeShapes Go.WideShapes Go.RowKit Go.Proofs.YtneagipmllgejaaW.PrintWords Go.Proofs.YtneagipmllgejaaW.PrintLast
section
variable {H : Type} {enc : TypeId × Value → H} {w : World} {base : Nat} {spare : Nat → Bool} {held : Bool}
/-- A slice of one-cell elements, read. -/
theorem read_cells {α : Type} {en : α → Value} {h1 : ∀ x, (en x).oneCell' = true} {z : α} {ad : Addr} {len : Nat} {zs : List α} (hl : len ≤ zs.length) (hm : len ≤ maxLen) (hc : ∀ i, i < zs.length → w.cell? (ad.add i) = some (en (zs.getD i z))) : (Kd.scalar en h1).C w (some ad) (zs.take len).length (zs.take len) := by
  have hlt : (zs.take len).length = len := by simp; omega
  refine ⟨rfl, by rw [hlt]; unfold maxLen at hm; omega, fun hp => ⟨ad, rfl, fun j p hj => ?_⟩⟩
  change (zs.take len)[j]? = some p at hj
  have hjl := (List.getElem?_eq_some_iff.1 hj).1
  have hj2 : j < len := by rw [← hlt]; exact hjl
  refine ⟨[en p], rfl, rfl, fun i u hu => ?_⟩
  cases i with
  | zero =>
    simp at hu
    subst hu
    have hcc := hc j (by omega)
    rw [List.getElem?_take, if_pos hj2] at hj
    rw [List.getD_eq_getElem?_getD, hj] at hcc
    show w.cell? (ad.add (j * 1 + 0)) = _
    rw [Nat.mul_one, Nat.add_zero]
    exact hcc
  | succ i => simp at hu
theorem open_strs {fuel : Nat} {cs : List Value} {x : DataW H × List MemPlace} (h : DataW.trod enc Try.prog w base spare held fuel 22 cs = some x) :
    ∃ (A : Option Addr) (cap : Nat) (l : List ByteArray), cs = [.slice A l.length cap] ∧ l.length ≤ cap ∧ cap ≤ maxLen ∧ Kd.C Kd.string w A l.length l := by
  rcases open_strings Try.underlying22 Try.underlying9 (by kernel_rfl) h with ⟨rfl, _⟩ | ⟨ad, len, cap, zs, rfl, _, hlc, hcm, hzl, _, hcell, _⟩
  · exact ⟨none, 0, [], rfl, Nat.le_refl _, by unfold maxLen; omega, Kd.C_nil _ _⟩
  · have hle : len ≤ zs.length := by split at hzl <;> omega
    exact ⟨some ad, cap, zs.take len, by simp [hle], by simp; omega, hcm, read_cells (z := ByteArray.empty) hle (by omega) hcell⟩
end
end Go.Proofs.Ytneagipmllgejaa.PL
end
