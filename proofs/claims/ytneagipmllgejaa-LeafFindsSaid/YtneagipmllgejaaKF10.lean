/- A part of the proof: lemmas that the row uses, laid together by a program of this session's (pack.py) out of its texts and of what the kit's printer wrote for this seat. -/
import Derived.WalkKit
import Derived.ProofKit
import Derived.OpenShut
import Derived.ShutString
import Derived.ChangeOld
import Derived.Below
import Derived.SizedLaws
import Derived.Test.YtneagipmllgejaaRows
import Derived.Test.YtneagipmllgejaaKF0
import Derived.Test.YtneagipmllgejaaKF1
import Derived.Test.YtneagipmllgejaaKF2
import Derived.Test.YtneagipmllgejaaKF3
import Derived.Test.YtneagipmllgejaaKF4
import Derived.Test.YtneagipmllgejaaKF5
import Derived.Test.YtneagipmllgejaaKF6
import Derived.Test.YtneagipmllgejaaKF7
import Derived.Test.YtneagipmllgejaaKF8
import Derived.Test.YtneagipmllgejaaKF9
section
namespace Go.Proofs.Ytneagipmllgejaa.leafFinds
open Go.ChangeShapes Go.WideShapes Go.ChangeAt Go.RowKit
open Go.ChangeMaps (open_string shut_string)
set_option linter.unusedVariables false
def Plain : Prop := ∀ (a : List ByteArray) (b : List Int) (ls : List PL.S28) (from_ to_ : ByteArray), ∃ k, PL.cobweblaw11_LeafFinds.f k a b ls from_ to_ = some true
theorem own : ownKnob Try.prog.godebug = none := by kernel_rfl
theorem laidOut : laidOutB Try.prog = true := by kernel_rfl
set_option maxRecDepth 100000 in
theorem lifted (HP : Plain) (os : Os) (started : os.Started) (H : Type) (enc : TypeId × Value → H) :
    ReturnsInHanded {} Try.checked os 6 .any (Rows.leafFindsSpec.pre6 enc Try.prog Try.f6 Rows.leafFindsRow.domain false) (Rows.leafFindsSpec.post enc Try.prog Try.f6 false true false false) := by
  refine returnsInHanded_of_change_sized (C := Try.checked) own started (by kernel_rfl) Try.func6
    (ChangeSpec.witness6 (enc := enc) (C := Try.checked) false ⟨#[], #[.agg #[.slice none 0 0, .slice none 0 0, .slice none 0 0], .string ⟨#[]⟩, .string ⟨#[]⟩], []⟩ 8 (by kernel_rfl) (by kernel_rfl) (by kernel_rfl) (by kernel_rfl)) ?_
  intro W base args ds gs before hval0 hW hcnd hsz0 _
  have hval : ∀ (j : Nat) t v, Try.f6.params[j]? = some t → args[j]? = some v → Value.okWide Try.prog W .any base t v := hval0
  have hW' := hW
  obtain ⟨p, q, hA0, hV, rfl, hfz, hnd⟩ := hW
  have hA : DataW.TrodAll enc Try.prog W 0 (fun _ => true) true Try.f6.params.toList args.toList ds p := hA0
  rw [Try.params6] at hA hval
  obtain ⟨v0, vs0, d0, ds0, p0, q0, hargs, rfl, rfl, h0, r0⟩ := trodAll_cons hA
  obtain ⟨v1, vs1, d1, ds1, p1, q1, rfl, rfl, rfl, h1, r1⟩ := trodAll_cons r0
  obtain ⟨v2, vs2, d2, ds2, p2, q2, rfl, rfl, rfl, h2, r2⟩ := trodAll_cons r1
  obtain ⟨rfl, rfl, rfl⟩ := trodAll_nil r2
  obtain rfl : args = #[v0, v1, v2] := by cases args; simp_all
  obtain ⟨rfl, rfl⟩ := trodVars_none hV
  have k0 := h0
  have lt0 : ∀ x ∈ p0, x.block < W.heap.size := by obtain ⟨m, hm⟩ := k0; exact DataW.trod_lt m _ _ _ hm
  obtain ⟨cs0, rfl, hcs0⟩ := okWide_struct Try.underlying50 (hval 0 50 v0 rfl rfl)
  obtain ⟨A, c, a, B, d, b, C, e, ls, rfl, ha, gA, hb, gB, hl, gC⟩ : ∃ (A : Option Addr) (c : Nat) (a : List ByteArray) (B : Option Addr) (d : Nat) (b : List Int) (C : Option Addr) (e : Nat) (ls : List PL.S28), cs0 = #[.slice A a.length c, .slice B b.length d, .slice C ls.length e] ∧ a.length ≤ c ∧ YtneagipmllgejaaW.PrintWords.Kd.C YtneagipmllgejaaW.PrintWords.Kd.string W A a.length a ∧ b.length ≤ d ∧ YtneagipmllgejaaW.PrintWords.Kd.C (YtneagipmllgejaaW.PrintWords.Kd.int .i64) W B b.length b ∧ ls.length ≤ e ∧ YtneagipmllgejaaW.PrintWords.Kd.C PL.k28 W C ls.length ls := by
    obtain ⟨fuel, hf⟩ := h0
    obtain ⟨A, c, a, B, d, b, C, e, ls, hcs, g⟩ := PL.open_index hf
    refine ⟨A, c, a, B, d, b, C, e, ls, ?_, g⟩
    have : cs0.toList = [.slice A a.length c, .slice B b.length d, .slice C ls.length e] := by simpa [Value.cells] using hcs
    exact Array.toList_inj.1 this
  obtain ⟨a1, rfl, rfl, rfl, w1⟩ := open_string Try.underlying9 (hval 1 9 v1 rfl rfl) h1
  obtain ⟨a2, rfl, rfl, rfl, w2⟩ := open_string Try.underlying9 (hval 2 9 v2 rfl rfl) h2
  clear hA0 hval0 hsz0
  obtain ⟨k, hk⟩ := HP a b ls a1 a2
  refine (PL.cobweblaw11_LeafFinds.calls k A c a B d b C e ls a1 a2 true W gA ha gB hb gC hl hk).mono fun e W' ⟨he, bel⟩ => ?_
  subst he
  exact ⟨_, rfl, _, _, _, [], _, [], hW', trodAll_mk1 (shut_bool Try.underlying4 _), (trodAll_cons_mk (Below.trod laidOut (by kernel_rfl) (of_decide_eq_true (by kernel_rfl)) k0 bel lt0) (trodAll_cons_mk (shut_string Try.underlying9 w1) (trodAll_cons_mk (shut_string Try.underlying9 w2) trodAll_mk0))), rfl, bel.frame _, fun h => by cases h⟩
theorem over (HP : Plain) : Rows.leafFindsRow.holds Try.pinned (OpenSpec.ofChange Rows.leafFindsSpec) :=
  OpenClaim.holds_of_wide 6 Try.f6 rfl rfl rfl rfl rfl rfl rfl ⟨rfl, rfl, rfl, rfl, rfl⟩ rfl rfl rfl rfl rfl (by kernel_rfl) Try.func6 (by kernel_rfl)
    (of_decide_eq_true (by kernel_rfl)) (by unfold Func.isWrapper; first | (rw [if_pos (by decide +kernel)]; kernel_rfl) | (rw [if_neg (by decide +kernel)]; exact ⟨rfl, rfl⟩))
    (fun os started H enc _ => lifted HP os started H enc)
end Go.Proofs.Ytneagipmllgejaa.leafFinds
end
