/- Proved: for every root, every leaf and every text, cobweblaw11.LeafChanges answers true and leaves its arguments as they were; no condition beside the given statement's own. -/
import Derived.WalkKit
import Derived.ProofKit
import Derived.OpenShut
import Derived.ShutString
import Derived.ChangeOld
import Derived.Below
import Derived.SizedLaws
import Derived.Test.YtneagipmllgejaaRows
import Derived.Test.YtneagipmllgejaaKH0
import Derived.Test.YtneagipmllgejaaKH1
import Derived.Test.YtneagipmllgejaaKH2
import Derived.Test.YtneagipmllgejaaKH3
import Derived.Test.YtneagipmllgejaaKH4
import Derived.Test.YtneagipmllgejaaKH5
import Derived.Test.YtneagipmllgejaaKH6
import Derived.Test.YtneagipmllgejaaKH7
import Derived.Test.YtneagipmllgejaaKH8
import Derived.Test.YtneagipmllgejaaKH9
import Derived.Test.YtneagipmllgejaaKH10
import Derived.Test.YtneagipmllgejaaKH11
import Derived.Test.YtneagipmllgejaaKH12
section
namespace Go.Proofs.Ytneagipmllgejaa.leafChanges
open Go.ChangeShapes Go.WideShapes Go.ChangeAt Go.RowKit
open Go.ChangeMaps (open_string shut_string)
set_option linter.unusedVariables false
theorem own : ownKnob Try.prog.godebug = none := by kernel_rfl
theorem laidOut : laidOutB Try.prog = true := by kernel_rfl
set_option maxRecDepth 100000 in
theorem lifted (os : Os) (started : os.Started) (H : Type) (enc : TypeId × Value → H) :
    ReturnsInHanded {} Try.checked os 4 .any (Rows.leafChangesSpec.pre6 enc Try.prog Try.f4 Rows.leafChangesRow.domain false) (Rows.leafChangesSpec.post enc Try.prog Try.f4 false true false false) := by
  refine returnsInHanded_of_change_sized (C := Try.checked) own started (by kernel_rfl) Try.func4
    (ChangeSpec.witness6 (enc := enc) (C := Try.checked) false ⟨#[], #[.agg #[.slice none 0 0, .slice none 0 0], .agg #[.int .i64 0, .slice none 0 0, .bool false], .string ⟨#[]⟩], []⟩ 8 (by kernel_rfl) (by kernel_rfl) (by kernel_rfl) (by kernel_rfl)) ?_
  intro W base args ds gs before hval0 hW hcnd hsz0 _
  have hval : ∀ (j : Nat) t v, Try.f4.params[j]? = some t → args[j]? = some v → Value.okWide Try.prog W .any base t v := hval0
  have hW' := hW
  obtain ⟨p, q, hA0, hV, rfl, hfz, hnd⟩ := hW
  have hA : DataW.TrodAll enc Try.prog W 0 (fun _ => true) true Try.f4.params.toList args.toList ds p := hA0
  rw [Try.params4] at hA hval
  obtain ⟨v0, vs0, d0, ds0, p0, q0, hargs, rfl, rfl, h0, r0⟩ := trodAll_cons hA
  obtain ⟨v1, vs1, d1, ds1, p1, q1, rfl, rfl, rfl, h1, r1⟩ := trodAll_cons r0
  obtain ⟨v2, vs2, d2, ds2, p2, q2, rfl, rfl, rfl, h2, r2⟩ := trodAll_cons r1
  obtain ⟨rfl, rfl, rfl⟩ := trodAll_nil r2
  obtain rfl : args = #[v0, v1, v2] := by cases args; simp_all
  obtain ⟨rfl, rfl⟩ := trodVars_none hV
  have k0 := h0
  have lt0 : ∀ x ∈ p0, x.block < W.heap.size := by obtain ⟨m, hm⟩ := k0; exact DataW.trod_lt m _ _ _ hm
  have k1 := h1
  have lt1 : ∀ x ∈ p1, x.block < W.heap.size := by obtain ⟨m, hm⟩ := k1; exact DataW.trod_lt m _ _ _ hm
  obtain ⟨cs0, rfl, hcs0⟩ := okWide_struct Try.underlying26 (hval 0 26 v0 rfl rfl)
  obtain ⟨A, c, a, B, d, b, rfl, ha, gA, hb, gB⟩ : ∃ (A : Option Addr) (c : Nat) (a : List ByteArray) (B : Option Addr) (d : Nat) (b : List Int), cs0 = #[.slice A a.length c, .slice B b.length d] ∧ a.length ≤ c ∧ YtneagipmllgejaaW.PrintWords.Kd.C YtneagipmllgejaaW.PrintWords.Kd.string W A a.length a ∧ b.length ≤ d ∧ YtneagipmllgejaaW.PrintWords.Kd.C (YtneagipmllgejaaW.PrintWords.Kd.int .i64) W B b.length b := by
    obtain ⟨fuel, hf⟩ := h0
    obtain ⟨A, c, a, B, d, b, hcs, g⟩ := PL.open_root hf
    refine ⟨A, c, a, B, d, b, ?_, g⟩
    have : cs0.toList = [.slice A a.length c, .slice B b.length d] := by simpa [Value.cells] using hcs
    exact Array.toList_inj.1 this
  obtain ⟨cs1, rfl, hcs1⟩ := okWide_struct Try.underlying28 (hval 1 28 v1 rfl rfl)
  obtain ⟨no, C, e, es, gone, rfl, hl, gC⟩ : ∃ (no : Int) (C : Option Addr) (e : Nat) (es : List ByteArray) (gone : Bool), cs1 = #[.int .i64 no, .slice C es.length e, .bool gone] ∧ es.length ≤ e ∧ YtneagipmllgejaaW.PrintWords.Kd.C YtneagipmllgejaaW.PrintWords.Kd.string W C es.length es := by
    obtain ⟨fuel, hf⟩ := h1
    obtain ⟨l, C, e, hcs, g1, _, g2⟩ := PL.open_leaf hf
    refine ⟨l.f0, C, e, l.f1, l.f2, ?_, g1, g2⟩
    have : cs1.toList = [.int .i64 l.f0, .slice C l.f1.length e, .bool l.f2] := by simpa [Value.cells] using hcs
    exact Array.toList_inj.1 this
  obtain ⟨a2, rfl, rfl, rfl, w2⟩ := open_string Try.underlying9 (hval 2 9 v2 rfl rfl) h2
  clear hA0 hval0 hsz0
  refine (PL.changes_main A c a B d b no C e es gone a2 W gA ha gB hb gC hl).mono fun e W' ⟨he, bel⟩ => ?_
  subst he
  exact ⟨_, rfl, _, _, _, [], _, [], hW', trodAll_mk1 (shut_bool Try.underlying4 _), (trodAll_cons_mk (Below.trod laidOut (by kernel_rfl) (of_decide_eq_true (by kernel_rfl)) k0 bel lt0) (trodAll_cons_mk (Below.trod laidOut (by kernel_rfl) (of_decide_eq_true (by kernel_rfl)) k1 bel lt1) (trodAll_cons_mk (shut_string Try.underlying9 w2) trodAll_mk0))), rfl, bel.frame _, fun h => by cases h⟩
theorem over : Rows.leafChangesRow.holds Try.pinned (OpenSpec.ofChange Rows.leafChangesSpec) :=
  OpenClaim.holds_of_wide 4 Try.f4 rfl rfl rfl rfl rfl rfl rfl ⟨rfl, rfl, rfl, rfl, rfl⟩ rfl rfl rfl rfl rfl (by kernel_rfl) Try.func4 (by kernel_rfl)
    (of_decide_eq_true (by kernel_rfl)) (by unfold Func.isWrapper; first | (rw [if_pos (by decide +kernel)]; kernel_rfl) | (rw [if_neg (by decide +kernel)]; exact ⟨rfl, rfl⟩))
    (fun os started H enc _ => lifted os started H enc)
end Go.Proofs.Ytneagipmllgejaa.leafChanges
end
section
namespace Go.Proofs.Ytneagipmllgejaa
theorem leafChanges_holds : Rows.LeafChangesSaid := leafChanges.over
end Go.Proofs.Ytneagipmllgejaa
end
#print axioms Go.Proofs.Ytneagipmllgejaa.leafChanges_holds
