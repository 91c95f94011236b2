/- Proved: for every list of texts, cobweblaw11.LeafActs answers true and leaves its argument as it was; no condition beside the given statement's own. -/
import Derived.WalkKit
import Derived.ProofKit
import Derived.OpenShut
import Derived.ShutString
import Derived.ChangeShapes
import Derived.ChangeOld
import Derived.Below
import Derived.SizedLaws
import Derived.Test.YtneagipmllgejaaRows
import Derived.Test.YtneagipmllgejaaKA0
import Derived.Test.YtneagipmllgejaaKA1
import Derived.Test.YtneagipmllgejaaKA2
import Derived.Test.YtneagipmllgejaaKA3
import Derived.Test.YtneagipmllgejaaKA4
import Derived.Test.YtneagipmllgejaaKA5
import Derived.Test.YtneagipmllgejaaKA6
import Derived.Test.YtneagipmllgejaaKA7
import Derived.Test.YtneagipmllgejaaKA8
import Derived.Test.YtneagipmllgejaaKA9
import Derived.Test.YtneagipmllgejaaKA10
import Derived.Test.YtneagipmllgejaaKA11
section
set_option linter.unusedVariables false
namespace Go.Proofs.Ytneagipmllgejaa.PL
open Go.RowKit Go.Proofs.YtneagipmllgejaaW.PrintWords Go.Proofs.YtneagipmllgejaaW.PrintLast Go.Proofs.YtneagipmllgejaaW.PrintMore Go.Proofs.YtneagipmllgejaaH
set_option maxHeartbeats 2000000 in
set_option maxRecDepth 100000 in
theorem acts_big (A : Option Addr) (c : Nat) (es : List ByteArray) (w : World) (h : ¬ es.length ≤ 150) :
    Calls Try.prog 7 #[.slice A es.length c] w fun e w' => e = .returned (.bool true) ∧ Below w.heap.size w w' := by
  have HB := Lib.hid (Below.refl w.heap.size w)
  have hl1 : decide ((150 : Int) < (es.length : Int)) = true := decide_eq_true (by omega)
  have hl2 : decide (150 < es.length) = true := decide_eq_true (by omega)
  clear h
  go_enter Try.func7, Try.ntmps7
  go_wp2_with (go_at_call 9; refine (cobweblaw11_awake.calls 50 true _ (awake_true 50 (Nat.le_refl _))).mono ?_; rintro e w1 ⟨rfl, hb⟩; have n_ := Lib.hid (below_then HB.out HB.out.size hb); clear HB; have HB := n_; clear n_ hb)
  go_ret
  exact ⟨rfl, HB.out⟩
end Go.Proofs.Ytneagipmllgejaa.PL
namespace Go.Proofs.Ytneagipmllgejaa.leafActs
open Go.ChangeShapes Go.WideShapes Go.ChangeAt Go.RowKit
open Go.ChangeMaps (open_string shut_string)
theorem own : ownKnob Try.prog.godebug = none := by kernel_rfl
theorem laidOut : laidOutB Try.prog = true := by kernel_rfl
set_option maxRecDepth 100000 in
theorem lifted (os : Os) (started : os.Started) (H : Type) (enc : TypeId × Value → H) :
    ReturnsInHanded {} Try.checked os 7 .any (Rows.leafActsSpec.pre6 enc Try.prog Try.f7 Rows.leafActsRow.domain false) (Rows.leafActsSpec.post enc Try.prog Try.f7 false true false false) := by
  refine returnsInHanded_of_change_sized (C := Try.checked) own started (by kernel_rfl) Try.func7
    (ChangeSpec.witness6 (enc := enc) (C := Try.checked) false ⟨#[], #[.slice none 0 0], []⟩ 8 (by kernel_rfl) (by kernel_rfl) (by kernel_rfl) (by kernel_rfl)) ?_
  intro W base args ds gs before hval0 hW hcnd hsz0 _
  have hval : ∀ (j : Nat) t v, Try.f7.params[j]? = some t → args[j]? = some v → Value.okWide Try.prog W .any base t v := hval0
  have hW' := hW
  obtain ⟨p, q, hA0, hV, rfl, hfz, hnd⟩ := hW
  have hA : DataW.TrodAll enc Try.prog W 0 (fun _ => true) true Try.f7.params.toList args.toList ds p := hA0
  rw [Try.params7] at hA hval
  obtain ⟨v0, vs0, d0, ds0, p0, q0, hargs, rfl, rfl, h0, r0⟩ := trodAll_cons hA
  obtain ⟨rfl, rfl, rfl⟩ := trodAll_nil r0
  obtain rfl : args = #[v0] := by cases args; simp_all
  obtain ⟨rfl, rfl⟩ := trodVars_none hV
  have k0 := h0
  have lt0 : ∀ x ∈ p0, x.block < W.heap.size := by obtain ⟨m, hm⟩ := k0; exact DataW.trod_lt m _ _ _ hm
  obtain ⟨x0, len0, cap0, rfl⟩ := okWide_slice Try.underlying22 (hval 0 22 v0 rfl rfl)
  obtain ⟨A, c, es, hv0, hc, gA⟩ : ∃ (A : Option Addr) (c : Nat) (es : List ByteArray), Value.slice x0 len0 cap0 = .slice A es.length c ∧ es.length ≤ c ∧ YtneagipmllgejaaW.PrintWords.Kd.C YtneagipmllgejaaW.PrintWords.Kd.string W A es.length es := by
    obtain ⟨fuel, hf⟩ := h0
    obtain ⟨A, c, es, hcs, g1, _, g2⟩ := PL.open_strs hf
    simp only [Value.cells] at hcs
    exact ⟨A, c, es, by simpa using hcs, g1, g2⟩
  rw [hv0] at k0 hval hW' ⊢
  clear hv0
  clear hA0 hval0 hsz0
  have hcall : Calls Try.prog 7 #[.slice A es.length c] W fun e w' => e = .returned (.bool true) ∧ Below W.heap.size W w' := by
    by_cases hb : es.length ≤ 150
    · exact PL.acts_main A c es W gA hc hb
    · exact PL.acts_big A c es W hb
  refine hcall.mono fun e W' ⟨he, bel⟩ => ?_
  subst he
  exact ⟨_, rfl, _, _, _, [], _, [], hW', trodAll_mk1 (shut_bool Try.underlying4 _), (trodAll_cons_mk (Below.trod laidOut (by kernel_rfl) (of_decide_eq_true (by kernel_rfl)) k0 bel lt0) trodAll_mk0), rfl, bel.frame _, fun h => by cases h⟩
theorem over : Rows.leafActsRow.holds Try.pinned (OpenSpec.ofChange Rows.leafActsSpec) :=
  OpenClaim.holds_of_wide 7 Try.f7 rfl rfl rfl rfl rfl rfl rfl ⟨rfl, rfl, rfl, rfl, rfl⟩ rfl rfl rfl rfl rfl (by kernel_rfl) Try.func7 (by kernel_rfl)
    (of_decide_eq_true (by kernel_rfl)) (by unfold Func.isWrapper; first | (rw [if_pos (by decide +kernel)]; kernel_rfl) | (rw [if_neg (by decide +kernel)]; exact ⟨rfl, rfl⟩))
    (fun os started H enc _ => lifted os started H enc)
end Go.Proofs.Ytneagipmllgejaa.leafActs
end
section
namespace Go.Proofs.Ytneagipmllgejaa
theorem leafActs_holds : Rows.LeafActsSaid := leafActs.over
end Go.Proofs.Ytneagipmllgejaa
end
#print axioms Go.Proofs.Ytneagipmllgejaa.leafActs_holds
