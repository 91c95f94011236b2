/- Proved: for every list of texts and every number, cobweblaw11.LeafTurns answers true and leaves its arguments as they were; no condition beside the given statement's own. -/
import Derived.WalkKit
import Derived.ProofKit
import Derived.OpenShut
import Derived.ShutString
import Derived.ChangeShapes
import Derived.ChangeOld
import Derived.Below
import Derived.SizedLaws
import Derived.Test.YtneagipmllgejaaRows
import Derived.Test.YtneagipmllgejaaKT0
import Derived.Test.YtneagipmllgejaaKT1
import Derived.Test.YtneagipmllgejaaKT2
import Derived.Test.YtneagipmllgejaaKT3
import Derived.Test.YtneagipmllgejaaKT4
import Derived.Test.YtneagipmllgejaaKT5
import Derived.Test.YtneagipmllgejaaKT6
import Derived.Test.YtneagipmllgejaaKT7
import Derived.Test.YtneagipmllgejaaKT8
import Derived.Test.YtneagipmllgejaaKT9
import Derived.Test.YtneagipmllgejaaKT10
import Derived.Test.YtneagipmllgejaaKT11
import Derived.Test.YtneagipmllgejaaKT12
section
set_option linter.unusedVariables false
namespace Go.Proofs.Ytneagipmllgejaa.PL
open Go.RowKit Go.Proofs.YtneagipmllgejaaW.PrintWords Go.Proofs.YtneagipmllgejaaW.PrintLast Go.Proofs.YtneagipmllgejaaW.PrintMore Go.Proofs.YtneagipmllgejaaH
set_option maxHeartbeats 2000000 in
set_option maxRecDepth 100000 in
theorem turns_big (A : Option Addr) (c : Nat) (es : List ByteArray) (tu : Int) (w : World) (h : ¬ (es.length ≤ 40 ∧ 0 < es.length)) :
    Calls Try.prog 5 #[.slice A es.length c, .int .i64 tu] w fun e w' => e = .returned (.bool true) ∧ Below w.heap.size w w' := by
  have hu26 := Try.underlying26
  have hu28 := Try.underlying28
  have HB := Lib.hid (Below.refl w.heap.size w)
  by_cases h1 : es.length ≤ 40
  · have hl1 : decide ((40 : Int) < (es.length : Int)) = false := decide_eq_false (by omega)
    have hl2 : decide (40 < es.length) = false := decide_eq_false (by omega)
    have hz1 : ((es.length : Int) == 0) = true := beq_iff_eq.mpr (by omega)
    have hz2 : (es.length == 0) = true := beq_iff_eq.mpr (by omega)
    clear h h1
    go_enter Try.func5, Try.ntmps5
    go_wp2_with (go_at_call 9; refine (cobweblaw11_awake.calls 50 true _ (awake_true 50 (Nat.le_refl _))).mono ?_; rintro e w1 ⟨rfl, hb⟩; have n_ := Lib.hid (below_then HB.out HB.out.size hb); clear HB; have HB := n_; clear n_ hb)
    go_ret
    exact ⟨rfl, HB.out⟩
  · have hl1 : decide ((40 : Int) < (es.length : Int)) = true := decide_eq_true (by omega)
    have hl2 : decide (40 < es.length) = true := decide_eq_true (by omega)
    clear h h1
    go_enter Try.func5, Try.ntmps5
    go_wp2_with (go_at_call 9; refine (cobweblaw11_awake.calls 50 true _ (awake_true 50 (Nat.le_refl _))).mono ?_; rintro e w1 ⟨rfl, hb⟩; have n_ := Lib.hid (below_then HB.out HB.out.size hb); clear HB; have HB := n_; clear n_ hb)
    go_ret
    exact ⟨rfl, HB.out⟩
end Go.Proofs.Ytneagipmllgejaa.PL
namespace Go.Proofs.Ytneagipmllgejaa.leafTurns
open Go.ChangeShapes Go.WideShapes Go.ChangeAt Go.RowKit
open Go.ChangeMaps (open_string shut_string)
theorem own : ownKnob Try.prog.godebug = none := by kernel_rfl
theorem laidOut : laidOutB Try.prog = true := by kernel_rfl
set_option maxRecDepth 100000 in
theorem lifted (os : Os) (started : os.Started) (H : Type) (enc : TypeId × Value → H) :
    ReturnsInHanded {} Try.checked os 5 .any (Rows.leafTurnsSpec.pre6 enc Try.prog Try.f5 Rows.leafTurnsRow.domain false) (Rows.leafTurnsSpec.post enc Try.prog Try.f5 false true false false) := by
  refine returnsInHanded_of_change_sized (C := Try.checked) own started (by kernel_rfl) Try.func5
    (ChangeSpec.witness6 (enc := enc) (C := Try.checked) false ⟨#[], #[.slice none 0 0, .int .i64 0], []⟩ 8 (by kernel_rfl) (by kernel_rfl) (by kernel_rfl) (by kernel_rfl)) ?_
  intro W base args ds gs before hval0 hW hcnd hsz0 _
  have hval : ∀ (j : Nat) t v, Try.f5.params[j]? = some t → args[j]? = some v → Value.okWide Try.prog W .any base t v := hval0
  have hW' := hW
  obtain ⟨p, q, hA0, hV, rfl, hfz, hnd⟩ := hW
  have hA : DataW.TrodAll enc Try.prog W 0 (fun _ => true) true Try.f5.params.toList args.toList ds p := hA0
  rw [Try.params5] at hA hval
  obtain ⟨v0, vs0, d0, ds0, p0, q0, hargs, rfl, rfl, h0, r0⟩ := trodAll_cons hA
  obtain ⟨v1, vs1, d1, ds1, p1, q1, rfl, rfl, rfl, h1, r1⟩ := trodAll_cons r0
  obtain ⟨rfl, rfl, rfl⟩ := trodAll_nil r1
  obtain rfl : args = #[v0, v1] := by cases args; simp_all
  obtain ⟨rfl, rfl⟩ := trodVars_none hV
  have k0 := h0
  have lt0 : ∀ x ∈ p0, x.block < W.heap.size := by obtain ⟨m, hm⟩ := k0; exact DataW.trod_lt m _ _ _ hm
  obtain ⟨x0, len0, cap0, rfl⟩ := okWide_slice Try.underlying22 (hval 0 22 v0 rfl rfl)
  obtain ⟨A, c, es, hv0, hc, gA⟩ : ∃ (A : Option Addr) (c : Nat) (es : List ByteArray), Value.slice x0 len0 cap0 = .slice A es.length c ∧ es.length ≤ c ∧ YtneagipmllgejaaW.PrintWords.Kd.C YtneagipmllgejaaW.PrintWords.Kd.string W A es.length es := by
    obtain ⟨fuel, hf⟩ := h0
    obtain ⟨A, c, es, hcs, g1, _, g2⟩ := PL.open_strs hf
    simp only [Value.cells] at hcs
    exact ⟨A, c, es, by simpa using hcs, g1, g2⟩
  rw [hv0] at k0 hval hW' ⊢
  clear hv0
  obtain ⟨a1, rfl, rfl, rfl, w1⟩ := open_int Try.underlying3 (hval 1 3 v1 rfl rfl) h1
  clear hA0 hval0 hsz0
  have hcall : Calls Try.prog 5 #[.slice A es.length c, .int .i64 a1] W fun e w' => e = .returned (.bool true) ∧ Below W.heap.size W w' := by
    by_cases hb : es.length ≤ 40 ∧ 0 < es.length
    · exact PL.turns_main A c es a1 W gA hc hb.1 hb.2 _ _ (PL.turns_plain es)
    · exact PL.turns_big A c es a1 W hb
  refine hcall.mono fun e W' ⟨he, bel⟩ => ?_
  subst he
  exact ⟨_, rfl, _, _, _, [], _, [], hW', trodAll_mk1 (shut_bool Try.underlying4 _), (trodAll_cons_mk (Below.trod laidOut (by kernel_rfl) (of_decide_eq_true (by kernel_rfl)) k0 bel lt0) (trodAll_cons_mk (shut_int Try.underlying3 w1) trodAll_mk0)), rfl, bel.frame _, fun h => by cases h⟩
theorem over : Rows.leafTurnsRow.holds Try.pinned (OpenSpec.ofChange Rows.leafTurnsSpec) :=
  OpenClaim.holds_of_wide 5 Try.f5 rfl rfl rfl rfl rfl rfl rfl ⟨rfl, rfl, rfl, rfl, rfl⟩ rfl rfl rfl rfl rfl (by kernel_rfl) Try.func5 (by kernel_rfl)
    (of_decide_eq_true (by kernel_rfl)) (by unfold Func.isWrapper; first | (rw [if_pos (by decide +kernel)]; kernel_rfl) | (rw [if_neg (by decide +kernel)]; exact ⟨rfl, rfl⟩))
    (fun os started H enc _ => lifted os started H enc)
end Go.Proofs.Ytneagipmllgejaa.leafTurns
end
section
namespace Go.Proofs.Ytneagipmllgejaa
theorem leafTurns_holds : Rows.LeafTurnsSaid := leafTurns.over
end Go.Proofs.Ytneagipmllgejaa
end
#print axioms Go.Proofs.Ytneagipmllgejaa.leafTurns_holds
