/- A part of the proof: lemmas that the row uses, laid together by a program of this session's (pack.py) out of its texts and of what the kit's printer wrote for this seat. -/
import Derived.Test.YtfbegchhgigjeaaKC0
import Derived.Test.YtfbegchhgigjeaaKC1
import Derived.Test.YtfbegchhgigjeaaKC2
import Derived.Test.YtfbegchhgigjeaaKC3
import Derived.Test.YtfbegchhgigjeaaKC4
import Derived.Test.YtfbegchhgigjeaaKC5
import Derived.Test.YtfbegchhgigjeaaKC6
import Derived.Test.YtfbegchhgigjeaaKC7
import Derived.Test.YtfbegchhgigjeaaKC8
section
namespace Go.Proofs.Ytfbegchhgigjeaa.PC
open Go.RowKit Go.Proofs.YtfbegchhgigjeaaW.PrintWords Go.Proofs.YtfbegchhgigjeaaW.PrintLast Go.Proofs.YtfbegchhgigjeaaW.PrintMore
attribute [local go_sem] max2_int min2_int max_two min_two max_three min_three max_four min_four   -- for this text's walks alone
set_option linter.unusedVariables false
set_option linter.unusedSimpArgs false
def cobwebref10_without.l0 : Nat → List Int → Int → List Int → Int → Option (List Int)
 | 0, _, _, _, _ => none
 | k + 1, x0, x1, x5, x6 => if x6 < (x0.length : Int) then (if 0 ≤ x6 then (if (rd x0 x6) = x1 then (cobwebref10_without.l0 k x0 x1 x5 (wrap64 (x6 + 1))) else (if x5.length < 17592186044416 then (cobwebref10_without.l0 k x0 x1 (x5 ++ [rd x0 x6]) (wrap64 (x6 + 1))) else (none))) else (none)) else (some x5)
def cobwebref10_without.f (k : Nat) (l0 : List Int) (a1 : Int) : Option (List Int) := cobwebref10_without.l0 k l0 a1 ([] : List Int) 0
theorem cobwebref10_without.mono_l : ∀ k, (∀ y0 y1 y2 y3, LeO (cobwebref10_without.l0 k y0 y1 y2 y3) (cobwebref10_without.l0 (k + 1) y0 y1 y2 y3))
 | 0 => fun _ _ _ _ r h => by simp [cobwebref10_without.l0] at h
 | k + 1 => by
  have ih0 := cobwebref10_without.mono_l k
  ·intro y0 y1 y2 y3
   unfold cobwebref10_without.l0
   repeat' first
   | (with_reducible exact ih0 _ _ _ _)
   | (with_reducible exact LeO.refl _)
   | (with_reducible exact LeO.none _)
   | (with_reducible refine LeO.ite ?_ ?_)
   | (with_reducible refine LeO.bind ?_ (fun _ => ?_))
   | exact ih0 _ _ _ _
   | exact LeO.none _
   | refine LeO.ite ?_ ?_
   | refine LeO.bind ?_ (fun _ => ?_)
theorem cobwebref10_without.mono : ∀ a0 a1 k, LeO (cobwebref10_without.f k a0 a1) (cobwebref10_without.f (k + 1) a0 a1) := by
 intro a0 a1 k
 have ih0 := cobwebref10_without.mono_l k
 unfold cobwebref10_without.f
 repeat' first
   | (with_reducible exact ih0 _ _ _ _)
   | (with_reducible exact LeO.refl _)
   | (with_reducible exact LeO.none _)
   | (with_reducible refine LeO.ite ?_ ?_)
   | (with_reducible refine LeO.bind ?_ (fun _ => ?_))
   | exact ih0 _ _ _ _
   | exact LeO.none _
   | refine LeO.ite ?_ ?_
   | refine LeO.bind ?_ (fun _ => ?_)
set_option maxHeartbeats 8000000 in
set_option maxRecDepth 100000 in
theorem cobwebref10_without.calls (k : Nat) (A0 : Option Addr) (c0 : Nat) (l0 : List Int) (a1 : Int) (r : List Int) (w : World) (hr0 : Kd.C (Kd.int .i64) w A0 l0.length l0) (hc0 : l0.length ≤ c0) (h : cobwebref10_without.f k l0 a1 = some r) :
  Calls Try.prog 39 #[.slice A0 l0.length c0, .int .i64 a1] w fun e w' => ∃ v0_ : Value, e = .returned (v0_) ∧ Kd.R (Kd.int .i64) 3 w' w.heap.size (fun _ => True) v0_ r ∧ Below w.heap.size w w' := by
 have HR0 := Aside0.mk hr0
 have HC0 := Aside0.mk hc0
 clear hr0 hc0
 have HB := Aside0.mk (Below.refl w.heap.size w)
 have H : (cobwebref10_without.l0 k l0 a1 ([] : List Int) 0) = some r := h
 clear h
 have H' := Aside0.mk H
 clear H
 go_enter Try.func39, Try.ntmps39
 go_wp2
 go_loopg [5, 6] k (fun kq v5 v6 w' => ∃ (x5_1 : List Int) (x6_1 : Int), v6 = .int .i64 x6_1 ∧ Aside0 (cobwebref10_without.l0 kq l0 a1 x5_1 x6_1 = some r) ∧ Aside0 (kq ≤ k) ∧ Aside0 (Kd.R (Kd.int .i64) 3 w' w.heap.size (fun _ => True) v5 x5_1) ∧ Aside0 (Below w.heap.size w w'))
 case atStart => exact ⟨(([] : List Int)), (0), (by first | rfl | (simp; done) | (simp [*]; done)), H', ⟨Nat.le_refl _⟩, ⟨by first | exact Kd.R_nil _ _ _ _ _ | exact Kd.N_nil _ _ _ _ _ | exact Kd.V_nil _ _ _ _ _ | exact Kd.Q_nil _ _ _ _ _ | exact Kd.S_nil _ _ _ _ _⟩, ⟨by repeat (first | (with_reducible first | exact HB.out | apply below_alloc | apply pw_below_drewN | apply below_drew1) | exact HB.out)⟩⟩
 case round =>
  clear H'
  try clear p2
  obtain ⟨x5_1, x6_1, rfl, HA, HK1, HO_5, HB⟩ := hrel
  cases gk with
  | zero => exact absurd HA.out (by simp [cobwebref10_without.l0])
  | succ k1 =>
   have H := HA.out
   clear HA
   simp only [cobwebref10_without.l0] at H
   by_cases c3 : x6_1 < (l0.length : Int)
   ·rw [if_pos c3] at H
    have c3b0 : decide (x6_1 < (l0.length : Int)) = true := decide_eq_true c3
    clear c3
    by_cases c4 : 0 ≤ x6_1
    ·rw [if_pos c4] at H
     have c4b0 : decide (0 ≤ x6_1) = true := decide_eq_true c4
     clear c4
     by_cases c5 : (rd l0 x6_1) = a1
     ·rw [if_pos c5] at H
      have c5b0 : ((rd l0 x6_1) == a1) = true := beq_iff_eq.mpr c5
      have c5b1 : ((rd l0 x6_1) != a1) = false := bne_eq_false_iff_eq.mpr c5
      clear c5
      have H' := Aside0.mk H
      clear H
      have p288 : 0 ≤ (x6_1 : Int) := of_decide_eq_true (by first | (with_reducible assumption) | assumption)
      have q288 : x6_1 < (l0.length : Int) := of_decide_eq_true (by first | (with_reducible assumption) | assumption)
      obtain ⟨ad288, e288, hx288_0⟩ := Kd.at_int HR0.out x6_1 p288 q288
      cases e288
      replace hx288_0 := (HB.out.cell (World.block_lt_of_cell? w _ hx288_0)).trans hx288_0
      replace p288 := eq_true p288
      replace q288 := eq_true q288
      go_wp2
      go_roundg k1
      case measure => have := HK1.out; omega
      case rel => exact ⟨(x5_1), (wrap64 (x6_1 + 1)), (by first | rfl | (simp; done) | (simp [*]; done)), H', ⟨by have := HK1.out; omega⟩, ⟨by (with_reducible repeat (first | apply Kd.R_alloc | apply Kd.R_drewN | apply Kd.R_drew)); exact HO_5.out⟩, ⟨by repeat (first | (with_reducible first | exact HB.out | apply below_alloc | apply pw_below_drewN | apply below_drew1) | exact HB.out)⟩⟩
     ·rw [if_neg c5] at H
      have c5b0 : ((rd l0 x6_1) == a1) = false := beq_eq_false_iff_ne.mpr c5
      have c5b1 : ((rd l0 x6_1) != a1) = true := bne_iff_ne.mpr c5
      by_cases c6 : x5_1.length < 17592186044416
      ·rw [if_pos c6] at H
       have LMc6 := Aside0.mk c6
       clear c6
       obtain ⟨y290, hy290⟩ : ∃ y_ : List Int, y_ = (x5_1 ++ [rd l0 x6_1]) := ⟨_, rfl⟩
       replace H : (cobwebref10_without.l0 k1 l0 a1 y290 (wrap64 (x6_1 + 1))) = some r := by first | (rw [hy290]; with_reducible exact H) | (have H2_ := (Option.bind_some _ _).symm.trans H; rw [hy290]; with_reducible exact H2_) | (have H2_ := (Option.bind_some _ _).symm.trans H; with_reducible exact H2_) | with_reducible exact H | (rw [hy290]; exact H) | exact H
       have Ny290 := Aside0.mk hy290
       clear hy290
       have H' := Aside0.mk H
       clear H
       have p288 : 0 ≤ (x6_1 : Int) := of_decide_eq_true (by first | (with_reducible assumption) | assumption)
       have q288 : x6_1 < (l0.length : Int) := of_decide_eq_true (by first | (with_reducible assumption) | assumption)
       obtain ⟨ad288, e288, hx288_0⟩ := Kd.at_int HR0.out x6_1 p288 q288
       cases e288
       replace hx288_0 := (HB.out.cell (World.block_lt_of_cell? w _ hx288_0)).trans hx288_0
       replace p288 := eq_true p288
       replace q288 := eq_true q288
       have p289 : 0 ≤ (x6_1 : Int) := of_decide_eq_true (by first | (with_reducible assumption) | assumption)
       have q289 : x6_1 < (l0.length : Int) := of_decide_eq_true (by first | (with_reducible assumption) | assumption)
       obtain ⟨ad289, e289, hx289_0⟩ := Kd.at_int HR0.out x6_1 p289 q289
       obtain rfl : ad288 = ad289 := (by injection e289)
       replace hx289_0 := (HB.out.cell (World.block_lt_of_cell? w _ hx289_0)).trans hx289_0
       replace p289 := eq_true p289
       replace q289 := eq_true q289
       go_wp2_with (first | ((with_reducible refine gate_builtin (b := .append) (xs := #[.tmp 19, .tmp 24]) rfl ?_); at_builtin; refine Kd.R_append (Kd.int .i64) (w0 := w) w.heap.size rfl (.tmp 19) (.tmp 24) 22 3 (.int .i64 0) 8 rfl Try.underlying22 info3 rfl (by decide) (by omega) u5 x5_1 (rd l0 x6_1) [.int .i64 (rd l0 x6_1)] (fun _ => True) (fun _ => False) rfl rfl ?aP (fun _ hk => hk.elim) ?aF ?aO ?aB ?aS ?aL ?_; (case aP => exact rfl); (case aB => exact (by repeat (first | (with_reducible first | exact HB.out | apply below_alloc | apply pw_below_drewN | apply below_drew1) | exact HB.out))); (case aF => exact (fun _ _ => trivial)); (case aO => exact (by (with_reducible repeat (first | apply Kd.R_alloc | apply Kd.R_drewN | apply Kd.R_drew)); exact HO_5.out)); (case aS => exact (below_size (by repeat (first | (with_reducible first | exact HB.out | apply below_alloc | apply pw_below_drewN | apply below_drew1) | exact HB.out)))); (case aL => have := LMc6.out; omega); intro v291 w7 ho hb hg hat; rw [← Ny290.out] at ho; have n0_ := Aside0.mk (hb); have n1_ := Aside0.mk (ho); clear HB; clear HO_5; have HB := n0_; have HO292 := n1_; clear n0_ n1_; clear ho hb hg hat))
       go_roundg k1
       case measure => have := HK1.out; omega
       case rel => exact ⟨(y290), (wrap64 (x6_1 + 1)), (by first | rfl | (simp; done) | (simp [*]; done)), H', ⟨by have := HK1.out; omega⟩, ⟨by (with_reducible repeat (first | apply Kd.R_alloc | apply Kd.R_drewN | apply Kd.R_drew)); exact HO292.out⟩, ⟨by repeat (first | (with_reducible first | exact HB.out | apply below_alloc | apply pw_below_drewN | apply below_drew1) | exact HB.out)⟩⟩
      ·rw [if_neg c6] at H
       exact absurd H (by simp)
    ·rw [if_neg c4] at H
     exact absurd H (by simp)
   ·rw [if_neg c3] at H
    have c3b0 : decide (x6_1 < (l0.length : Int)) = false := decide_eq_false c3
    clear c3
    obtain rfl := Option.some.inj H
    go_wp2
    go_ret
    exact ⟨_, by first | rfl | (simp [errW_none, errW_some] <;> rfl) | (simp [*, errW_none, errW_some] <;> rfl), by (with_reducible repeat (first | apply Kd.R_alloc | apply Kd.R_drewN | apply Kd.R_drew)); exact HO_5.out, by repeat (first | (with_reducible first | exact HB.out | apply below_alloc | apply pw_below_drewN | apply below_drew1) | exact HB.out)⟩
end Go.Proofs.Ytfbegchhgigjeaa.PC
end
section
namespace Go.Proofs.Ytfbegchhgigjeaa.PC
open Go.RowKit Go.Proofs.YtfbegchhgigjeaaW.PrintWords Go.Proofs.YtfbegchhgigjeaaW.PrintLast Go.Proofs.YtfbegchhgigjeaaW.PrintMore
attribute [local go_sem] max2_int min2_int max_two min_two max_three min_three max_four min_four   -- for this text's walks alone
set_option linter.unusedVariables false
set_option linter.unusedSimpArgs false
def cobwebref10_Remove.l0 : Nat → List (S39) → Int → Int → Option ((List (S39)) × Int)
 | 0, _, _, _ => none
 | k + 1, x0, x1, x6 => if x6 < (x0.length : Int) then (if 0 ≤ x6 then ((cobwebref10_Has.f k ((rd_T39 x0 x6).f1) x1).bind fun t296 => (if t296 = true then ((cobwebref10_without.f k ((rd_T39 x0 x6).f1) x1).bind fun t297 => (if (t297.length : Int) > 0 then (some ((([(⟨(rd_T39 x0 x6).f0, t297, (rd_T39 x0 x6).f2, false⟩ : S39)] : List (S39))), 0)) else (if x6 = 0 then (some ((([(⟨(rd_T39 x0 x6).f0, t297, (rd_T39 x0 x6).f2, false⟩ : S39)] : List (S39))), 0)) else (if 0 ≤ (wrap64 (x6 - 1)) then (if (wrap64 (x6 - 1)) < (x0.length : Int) then (some ((([(⟨(rd_T39 x0 (wrap64 (x6 - 1))).f0, (rd_T39 x0 (wrap64 (x6 - 1))).f1, (rd_T39 x0 x6).f2, false⟩ : S39), (⟨(rd_T39 x0 x6).f0, ([] : List Int), 0, true⟩ : S39)] : List (S39))), 0)) else (none)) else (none))))) else (cobwebref10_Remove.l0 k x0 x1 (wrap64 (x6 + 1))))) else (none)) else (some (([] : List (S39)), 101))
def cobwebref10_Remove.f (k : Nat) (l0 : List (S39)) (a1 : Int) : Option ((List (S39)) × Int) := (cobwebref10_Right.f k l0).bind fun t293 => (if t293 = true then (cobwebref10_Remove.l0 k l0 a1 0) else (some (([] : List (S39)), 100)))
theorem cobwebref10_Remove.mono_l : ∀ k, (∀ y0 y1 y2, LeO (cobwebref10_Remove.l0 k y0 y1 y2) (cobwebref10_Remove.l0 (k + 1) y0 y1 y2))
 | 0 => fun _ _ _ r h => by simp [cobwebref10_Remove.l0] at h
 | k + 1 => by
  have ih0 := cobwebref10_Remove.mono_l k
  ·intro y0 y1 y2
   unfold cobwebref10_Remove.l0
   repeat' first
   | (with_reducible exact ih0 _ _ _)
   | (with_reducible exact cobwebref10_Has.mono _ _ _)
   | (with_reducible exact cobwebref10_Right.mono _ _)
   | (with_reducible exact cobwebref10_without.mono _ _ _)
   | (with_reducible exact LeO.refl _)
   | (with_reducible exact LeO.none _)
   | (with_reducible refine LeO.ite ?_ ?_)
   | (with_reducible refine LeO.bind ?_ (fun _ => ?_))
   | exact ih0 _ _ _
   | exact cobwebref10_Has.mono _ _ _
   | exact cobwebref10_Right.mono _ _
   | exact cobwebref10_without.mono _ _ _
   | exact LeO.none _
   | refine LeO.ite ?_ ?_
   | refine LeO.bind ?_ (fun _ => ?_)
theorem cobwebref10_Remove.mono : ∀ a0 a1 k, LeO (cobwebref10_Remove.f k a0 a1) (cobwebref10_Remove.f (k + 1) a0 a1) := by
 intro a0 a1 k
 have ih0 := cobwebref10_Remove.mono_l k
 unfold cobwebref10_Remove.f
 repeat' first
   | (with_reducible exact ih0 _ _ _)
   | (with_reducible exact cobwebref10_Has.mono _ _ _)
   | (with_reducible exact cobwebref10_Right.mono _ _)
   | (with_reducible exact cobwebref10_without.mono _ _ _)
   | (with_reducible exact LeO.refl _)
   | (with_reducible exact LeO.none _)
   | (with_reducible refine LeO.ite ?_ ?_)
   | (with_reducible refine LeO.bind ?_ (fun _ => ?_))
   | exact ih0 _ _ _
   | exact cobwebref10_Has.mono _ _ _
   | exact cobwebref10_Right.mono _ _
   | exact cobwebref10_without.mono _ _ _
   | exact LeO.none _
   | refine LeO.ite ?_ ?_
   | refine LeO.bind ?_ (fun _ => ?_)
def cobwebref10_Remove.T11 : Bool × List (List Nat × List Nat) := (true, [([], []), ([], []), ([1], [1]), ([0, 2], [0, 2]), ([3], [3]), ([4], [4]), ([], []), ([], []), ([7], [7]), ([6, 8], [6, 8]), ([9], [9]), ([10], [10]), ([], []), ([12], [12]), ([5, 11, 13], [5, 11, 13]), ([], []), ([15], [15]), ([16], [16]), ([14, 17], [14, 17]), ([18, 0, 1, 2, 3, 4, 5, 6, 7, 8, 9, 10, 11, 12, 13, 14, 15, 16, 17, 18], [18]), ([19, 0, 1, 2, 3, 4, 5, 6, 7, 8, 9, 10, 11, 12, 13, 14, 15, 16, 17, 18, 19], [])])
def cobwebref10_Remove.B11 : List Nat := [0, 0, 2, 7, 15, 31, 0, 0, 128, 448, 960, 1984, 0, 4096, 16383, 0, 32768, 98304, 262143, 524287, 1048575]
theorem cobwebref10_Remove.tab11 : rtab .any (opsOf Try.f18 11) = cobwebref10_Remove.T11 := by kernel_rfl
theorem cobwebref10_Remove.bits11 : waitsOk cobwebref10_Remove.T11.2 cobwebref10_Remove.B11 = true := by kernel_rfl
set_option maxHeartbeats 8000000 in
set_option maxRecDepth 100000 in
theorem cobwebref10_Remove.calls (k : Nat) (P0_ : Nat → Prop) (A0 : Option Addr) (c0 : Nat) (l0 : List (S39)) (a1 : Int) (r1 : List (S39)) (r2 : Int) (w : World) (hs0 : Kd.V k39 39 w w.heap.size (fun k_ => P0_ k_) (.slice A0 l0.length c0) l0) (h : cobwebref10_Remove.f k l0 a1 = some (r1, r2)) :
  Calls Try.prog 18 #[.slice A0 l0.length c0, .int .i64 a1] w fun e w' => ∃ v0_ : Value, e = .returned (.tuple #[v0_, .int .i64 r2]) ∧ Kd.N k39 39 w' w.heap.size (fun k_ => (P0_ k_ ∨ w.heap.size ≤ k_)) v0_ r1 ∧ Below w.heap.size w w' := by
 have hu39 := Try.underlying39
 have HO0 := Aside0.mk (show Kd.V k39 39 w w.heap.size (fun k_ => (P0_ k_ ∨ w.heap.size ≤ k_)) (.slice A0 l0.length c0) l0 from Kd.V_mono hs0 (fun k_ hk => .inl hk))
 have HB := Aside0.mk (Below.refl w.heap.size w)
 have H : ((cobwebref10_Right.f k l0).bind fun t293 => (if t293 = true then (cobwebref10_Remove.l0 k l0 a1 0) else (some (([] : List (S39)), 100)))) = some (r1, r2) := h
 clear h
 replace H := Option.bind_eq_some_iff.mp H
 obtain ⟨t293, A30, H⟩ := H
 replace H : (if t293 = true then (cobwebref10_Remove.l0 k l0 a1 0) else (some (([] : List (S39)), 100))) = some (r1, r2) := H
 have A3 := Aside0.mk A30
 clear A30
 by_cases c4 : t293 = true
 ·subst c4
  have H1 : (cobwebref10_Remove.l0 k l0 a1 0) = some (r1, r2) := by rw [if_pos rfl] at H; exact H
  clear H
  have H := H1
  clear H1
  have H' := Aside0.mk H
  clear H
  go_enter Try.func18, Try.ntmps18
  go_wp2_with (first | ((with_reducible refine gate_callee (f := 20) rfl ?_); refine goesL_ (some 10) rfl rfl Try.func20 (by kernel_rfl) rfl #[.slice A0 l0.length c0] rfl (by (try simp only [List.map_toArray, List.map_cons, List.map_nil]); first | done | rfl | (simp only [List.length_drop, List.length_take]; rfl)) ?_; (with_reducible refine (cobwebref10_Right.calls k _ _ l0 true _ ?side1 ?side2 A3.out).mono ?_); (case side1 => repeat (first | exact (Kd.V_reads' HO0.out).2.2 | (with_reducible refine Kd.C_alloc ?_ _) | (with_reducible refine Kd.C_drewN ?_ _) | (with_reducible refine Kd.C_drew ?_))); (case side2 => exact (Kd.V_reads' HO0.out).2.1); rintro e w5 ⟨rfl, hb⟩; refine ⟨_, rfl, ?_⟩; have n0_ := Aside0.mk (Kd.V_below (by (with_reducible repeat (first | apply Kd.V_alloc | apply Kd.V_drewN | apply Kd.V_drew)); exact HO0.out) hb); have n1_ := Aside0.mk (below_step (by repeat (first | (with_reducible first | exact HB.out | apply below_alloc | apply pw_below_drewN | apply below_drew1) | exact HB.out)) hb); clear HO0; clear HB; have HO0 := n0_; have HB := n1_; clear n0_ n1_; (try clear hb); (try clear hb2); (try clear hk); (try clear hi)))
  go_loopg [6] k (fun kq v6 w' => ∃ (x6_1 : Int), v6 = .int .i64 x6_1 ∧ Aside0 (cobwebref10_Remove.l0 kq l0 a1 x6_1 = some (r1, r2)) ∧ Aside0 (kq ≤ k) ∧ Aside0 (Kd.V k39 39 w' w.heap.size (fun k_ => (P0_ k_ ∨ w.heap.size ≤ k_)) (.slice A0 l0.length c0) l0) ∧ Aside0 (Below w.heap.size w w'))
  case atStart => exact ⟨(0), (by first | rfl | (simp; done) | (simp [*]; done)), H', ⟨Nat.le_refl _⟩, ⟨by (with_reducible repeat (first | apply Kd.V_alloc | apply Kd.V_drewN | apply Kd.V_drew)); exact HO0.out⟩, ⟨by repeat (first | (with_reducible first | exact HB.out | apply below_alloc | apply pw_below_drewN | apply below_drew1) | exact HB.out)⟩⟩
  case round =>
   clear H'
   try clear c1
   try clear c2
   try clear p2
   try clear c4
   obtain ⟨x6_1, rfl, HA, HK1, HO_0, HB⟩ := hrel
   cases gk with
   | zero => exact absurd HA.out (by simp [cobwebref10_Remove.l0])
   | succ k1 =>
    have H := HA.out
    clear HA
    simp only [cobwebref10_Remove.l0] at H
    by_cases c6 : x6_1 < (l0.length : Int)
    ·rw [if_pos c6] at H
     have c6b0 : decide (x6_1 < (l0.length : Int)) = true := decide_eq_true c6
     clear c6
     by_cases c7 : 0 ≤ x6_1
     ·rw [if_pos c7] at H
      have c7b0 : decide (0 ≤ x6_1) = true := decide_eq_true c7
      clear c7
      replace H := Option.bind_eq_some_iff.mp H
      obtain ⟨t296, A80, H⟩ := H
      replace H : (if t296 = true then ((cobwebref10_without.f k1 ((rd_T39 l0 x6_1).f1) a1).bind fun t297 => (if (t297.length : Int) > 0 then (some ((([(⟨(rd_T39 l0 x6_1).f0, t297, (rd_T39 l0 x6_1).f2, false⟩ : S39)] : List (S39))), 0)) else (if x6_1 = 0 then (some ((([(⟨(rd_T39 l0 x6_1).f0, t297, (rd_T39 l0 x6_1).f2, false⟩ : S39)] : List (S39))), 0)) else (if 0 ≤ (wrap64 (x6_1 - 1)) then (if (wrap64 (x6_1 - 1)) < (l0.length : Int) then (some ((([(⟨(rd_T39 l0 (wrap64 (x6_1 - 1))).f0, (rd_T39 l0 (wrap64 (x6_1 - 1))).f1, (rd_T39 l0 x6_1).f2, false⟩ : S39), (⟨(rd_T39 l0 x6_1).f0, ([] : List Int), 0, true⟩ : S39)] : List (S39))), 0)) else (none)) else (none))))) else (cobwebref10_Remove.l0 k1 l0 a1 (wrap64 (x6_1 + 1)))) = some (r1, r2) := H
      have A8 := Aside0.mk A80
      clear A80
      by_cases c9 : t296 = true
      ·subst c9
       have H1 : ((cobwebref10_without.f k1 ((rd_T39 l0 x6_1).f1) a1).bind fun t297 => (if (t297.length : Int) > 0 then (some ((([(⟨(rd_T39 l0 x6_1).f0, t297, (rd_T39 l0 x6_1).f2, false⟩ : S39)] : List (S39))), 0)) else (if x6_1 = 0 then (some ((([(⟨(rd_T39 l0 x6_1).f0, t297, (rd_T39 l0 x6_1).f2, false⟩ : S39)] : List (S39))), 0)) else (if 0 ≤ (wrap64 (x6_1 - 1)) then (if (wrap64 (x6_1 - 1)) < (l0.length : Int) then (some ((([(⟨(rd_T39 l0 (wrap64 (x6_1 - 1))).f0, (rd_T39 l0 (wrap64 (x6_1 - 1))).f1, (rd_T39 l0 x6_1).f2, false⟩ : S39), (⟨(rd_T39 l0 x6_1).f0, ([] : List Int), 0, true⟩ : S39)] : List (S39))), 0)) else (none)) else (none))))) = some (r1, r2) := by rw [if_pos rfl] at H; exact H
       clear H
       have H := H1
       clear H1
       replace H := Option.bind_eq_some_iff.mp H
       obtain ⟨t297, A100, H⟩ := H
       replace H : (if (t297.length : Int) > 0 then (some ((([(⟨(rd_T39 l0 x6_1).f0, t297, (rd_T39 l0 x6_1).f2, false⟩ : S39)] : List (S39))), 0)) else (if x6_1 = 0 then (some ((([(⟨(rd_T39 l0 x6_1).f0, t297, (rd_T39 l0 x6_1).f2, false⟩ : S39)] : List (S39))), 0)) else (if 0 ≤ (wrap64 (x6_1 - 1)) then (if (wrap64 (x6_1 - 1)) < (l0.length : Int) then (some ((([(⟨(rd_T39 l0 (wrap64 (x6_1 - 1))).f0, (rd_T39 l0 (wrap64 (x6_1 - 1))).f1, (rd_T39 l0 x6_1).f2, false⟩ : S39), (⟨(rd_T39 l0 x6_1).f0, ([] : List Int), 0, true⟩ : S39)] : List (S39))), 0)) else (none)) else (none)))) = some (r1, r2) := H
       have A10 := Aside0.mk A100
       clear A100
       by_cases c11 : (t297.length : Int) > 0
       ·rw [if_pos c11] at H
        have c11b0 : decide (0 < (t297.length : Int)) = true := decide_eq_true c11
        have c11b1 : decide (0 < t297.length) = true := decide_eq_true (by omega)
        clear c11
        obtain ⟨y300, hy300⟩ : ∃ y_ : List (S39), y_ = (([(⟨(rd_T39 l0 x6_1).f0, t297, (rd_T39 l0 x6_1).f2, false⟩ : S39)] : List (S39))) := ⟨_, rfl⟩
        replace H : (some (y300, 0)) = some (r1, r2) := by first | (rw [hy300]; with_reducible exact H) | (have H2_ := (Option.bind_some _ _).symm.trans H; rw [hy300]; with_reducible exact H2_) | (have H2_ := (Option.bind_some _ _).symm.trans H; with_reducible exact H2_) | with_reducible exact H | (rw [hy300]; exact H) | exact H
        have Ny300 := Aside0.mk hy300
        clear hy300
        simp only [Option.some.injEq, Prod.mk.injEq] at H
        obtain ⟨rfl, rfl⟩ := H
        have p294 : 0 ≤ (x6_1 : Int) := of_decide_eq_true (by first | (with_reducible assumption) | assumption)
        have q294 : x6_1 < (l0.length : Int) := of_decide_eq_true (by first | (with_reducible assumption) | assumption)
        obtain ⟨ad294, A294_1, c294_1, e294, hx294_0, hx294_1, hx294_2, hx294_3, hl294_1, hi294_1⟩ := at_T39 (Kd.V_reads' HO_0.out).2.2 x6_1 p294 q294
        cases e294
        obtain ⟨ce294, hce294, hMe294, hcc294⟩ := Kd.V_get HO_0.out z39 x6_1 p294 (by first | exact q294 | exact of_decide_eq_true (by first | (with_reducible assumption) | assumption) | (have e_ := (Kd.V_reads' HO_0.out).1; omega))
        obtain ⟨ua294_1, uc294_1, rfl, ul294_1, ge294_1⟩ := k39_openF hMe294
        have hv294_1 := hcc294 1 _ rfl
        rw [add_field _ _ 1 (by omega)] at hv294_1
        replace hv294_1 := Option.some.inj (hv294_1.symm.trans hx294_1)
        injection hv294_1 with hva_ hvn_ hvc_
        rw [hva_] at ge294_1
        rw [hvc_] at ul294_1
        have HL294_1 := Aside0.mk (show Kd.V (Kd.int .i64) 3 _ w.heap.size _ _ ((rd_T39 l0 x6_1).f1) from Kd.V_mk ul294_1 ge294_1)
        clear hva_ hvn_ hvc_ ge294_1 ul294_1
        clear hcc294 hce294
        have HR294_1 := Aside0.mk hi294_1
        have HC294_1 := Aside0.mk hl294_1
        clear hi294_1 hl294_1
        replace p294 := eq_true p294
        replace q294 := eq_true q294
        go_wp2_with (first | ((with_reducible refine gate_dst (N := 7) rfl ?_); refine box_event ?hg (N := 7) ?hd (cs := #[.int .i64 0, .slice none 0 0, .int .i64 0, .bool false]) (t := 39) ?hr ?_; (case hd => rfl); (case hg => rfl); (case hr => first | (go_simp; done) | (go_simp; rfl)); intro gb295 hg w12 hbox hb; have n0_ := Aside0.mk (Kd.V_below (Kd.V_elderB (by (with_reducible repeat (first | apply Kd.V_alloc | apply Kd.V_drewN | apply Kd.V_drew)); exact HO_0.out) gb295 (Nat.le_of_eq hg.symm)) hb); have n1_ := Aside0.mk (Kd.V_below (Kd.V_elderB (by (with_reducible repeat (first | apply Kd.V_alloc | apply Kd.V_drewN | apply Kd.V_drew)); exact HL294_1.out) gb295 (Nat.le_of_eq hg.symm)) hb); have n2_ := Aside0.mk (Kd.C_below (by repeat (first | (with_reducible exact HR294_1.out) | (with_reducible refine Kd.C_alloc ?_ _) | (with_reducible refine Kd.C_drewN ?_ _) | (with_reducible refine Kd.C_drew ?_) | exact HR294_1.out)) hb); have n3_ := Aside0.mk (below_step (by repeat (first | (with_reducible first | exact HB.out | apply below_alloc | apply pw_below_drewN | apply below_drew1) | exact HB.out)) hb); have n4_ := Aside0.mk (hbox); have n5_ := Aside0.mk ((by rw [hg]; exact (below_size (by repeat (first | (with_reducible first | exact HB.out | apply below_alloc | apply pw_below_drewN | apply below_drew1) | exact HB.out))) : w.heap.size ≤ gb295)); have n6_ := Aside0.mk ((by rw [hg]; exact (below_size (by repeat (first | (with_reducible first | exact HB.out | apply below_alloc | apply pw_below_drewN | apply below_drew1) | exact HB.out))) : w.heap.size ≤ gb295)); clear HO_0; clear HL294_1; clear HR294_1; clear HB; have HO_0 := n0_; have HL294_1 := n1_; have HR294_1 := n2_; have HB := n3_; have BK295 := n4_; have GW295 := n5_; have GE295 := n6_; clear n0_ n1_ n2_ n3_ n4_ n5_ n6_; clear hb hbox hg; have hcz13_0 : w12.cell? ⟨gb295, 0, none⟩ = some (.int .i64 0) := (blk_cell BK295.out 0).trans rfl; have hcz13_1 : w12.cell? ⟨gb295, 1, none⟩ = some (.slice none 0 0) := (blk_cell BK295.out 1).trans rfl; have hcz13_2 : w12.cell? ⟨gb295, 2, none⟩ = some (.int .i64 0) := (blk_cell BK295.out 2).trans rfl; have hcz13_3 : w12.cell? ⟨gb295, 3, none⟩ = some (.bool false) := (blk_cell BK295.out 3).trans rfl; have hfz13_0 := blk_frozen BK295.out 0; have hfz13_1 := blk_frozen BK295.out 1; have hfz13_2 := blk_frozen BK295.out 2; have hfz13_3 := blk_frozen BK295.out 3) | ((with_reducible refine gate_callee (f := 26) rfl ?_); refine goesL_ (some 25) rfl rfl Try.func26 (by kernel_rfl) rfl #[.slice A294_1 ((rd_T39 l0 x6_1).f1).length c294_1, .int .i64 a1] rfl (by (try simp only [List.map_toArray, List.map_cons, List.map_nil]); first | done | rfl | (simp only [List.length_drop, List.length_take]; rfl)) ?_; (with_reducible refine (cobwebref10_Has.calls k1 _ _ ((rd_T39 l0 x6_1).f1) a1 true _ ?side1 ?side2 A8.out).mono ?_); (case side1 => repeat (first | exact ((Kd.V_reads' (by (with_reducible repeat (first | apply Kd.V_alloc | apply Kd.V_drewN | apply Kd.V_drew)); exact (Kd.V_mono (Kd.V_far (p := ⟨gb295, 3, none⟩) (Kd.V_far (p := ⟨gb295, 2, none⟩) (Kd.V_far (p := ⟨gb295, 1, none⟩) (Kd.V_far (p := ⟨gb295, 0, none⟩) (Kd.V_mono HL294_1.out (fun k_ hk => (⟨hk, hk.2⟩ : _ ∧ k_ ≠ gb295))) (fun _ hk => hk.2) (.int .i64 ((rd_T39 l0 x6_1).f0))) (fun _ hk => hk.2) (.slice A294_1 ((rd_T39 l0 x6_1).f1).length c294_1)) (fun _ hk => hk.2) (.int .i64 ((rd_T39 l0 x6_1).f2))) (fun _ hk => hk.2) (.bool ((rd_T39 l0 x6_1).f3))) (fun _ h_ => h_.1)))).2.2) | (with_reducible refine Kd.C_alloc ?_ _) | (with_reducible refine Kd.C_drewN ?_ _) | (with_reducible refine Kd.C_drew ?_))); (case side2 => exact HC294_1.out); rintro e w' ⟨rfl, ⟨nd, rfl⟩⟩; refine ⟨_, rfl, ?_⟩) | ((with_reducible refine gate_callee (f := 39) rfl ?_); refine goesL_ (some 30) rfl rfl Try.func39 (by kernel_rfl) rfl #[.slice A294_1 ((rd_T39 l0 x6_1).f1).length c294_1, .int .i64 a1] rfl (by (try simp only [List.map_toArray, List.map_cons, List.map_nil]); first | done | rfl | (simp only [List.length_drop, List.length_take]; rfl)) ?_; (with_reducible refine (cobwebref10_without.calls k1 _ _ ((rd_T39 l0 x6_1).f1) a1 t297 _ ?side1 ?side2 A10.out).mono ?_); (case side1 => repeat (first | exact ((Kd.V_reads' (by (with_reducible repeat (first | apply Kd.V_alloc | apply Kd.V_drewN | apply Kd.V_drew)); exact (Kd.V_mono (Kd.V_far (p := ⟨gb295, 3, none⟩) (Kd.V_far (p := ⟨gb295, 2, none⟩) (Kd.V_far (p := ⟨gb295, 1, none⟩) (Kd.V_far (p := ⟨gb295, 0, none⟩) (Kd.V_mono HL294_1.out (fun k_ hk => (⟨hk, hk.2⟩ : _ ∧ k_ ≠ gb295))) (fun _ hk => hk.2) (.int .i64 ((rd_T39 l0 x6_1).f0))) (fun _ hk => hk.2) (.slice A294_1 ((rd_T39 l0 x6_1).f1).length c294_1)) (fun _ hk => hk.2) (.int .i64 ((rd_T39 l0 x6_1).f2))) (fun _ hk => hk.2) (.bool ((rd_T39 l0 x6_1).f3))) (fun _ h_ => h_.1)))).2.2) | (with_reducible refine Kd.C_alloc ?_ _) | (with_reducible refine Kd.C_drewN ?_ _) | (with_reducible refine Kd.C_drew ?_))); (case side2 => exact HC294_1.out); rintro e w14 ⟨v298, rfl, ho0, hb⟩; refine ⟨_, rfl, ?_⟩; have n0_ := Aside0.mk (Kd.V_elder' (by (with_reducible repeat (first | apply Kd.V_alloc | apply Kd.V_drewN | apply Kd.V_drew)); exact (Kd.V_mono (Kd.V_far (p := ⟨gb295, 3, none⟩) (Kd.V_far (p := ⟨gb295, 2, none⟩) (Kd.V_far (p := ⟨gb295, 1, none⟩) (Kd.V_far (p := ⟨gb295, 0, none⟩) (Kd.V_mono HO_0.out (fun k_ hk => (⟨hk, hk.2⟩ : _ ∧ k_ ≠ gb295))) (fun _ hk => hk.2) (.int .i64 ((rd_T39 l0 x6_1).f0))) (fun _ hk => hk.2) (.slice A294_1 ((rd_T39 l0 x6_1).f1).length c294_1)) (fun _ hk => hk.2) (.int .i64 ((rd_T39 l0 x6_1).f2))) (fun _ hk => hk.2) (.bool ((rd_T39 l0 x6_1).f3))) (fun _ h_ => h_.1))) (Kd.R_base ho0) hb); have n1_ := Aside0.mk (Kd.V_elder' (by (with_reducible repeat (first | apply Kd.V_alloc | apply Kd.V_drewN | apply Kd.V_drew)); exact (Kd.V_mono (Kd.V_far (p := ⟨gb295, 3, none⟩) (Kd.V_far (p := ⟨gb295, 2, none⟩) (Kd.V_far (p := ⟨gb295, 1, none⟩) (Kd.V_far (p := ⟨gb295, 0, none⟩) (Kd.V_mono HL294_1.out (fun k_ hk => (⟨hk, hk.2⟩ : _ ∧ k_ ≠ gb295))) (fun _ hk => hk.2) (.int .i64 ((rd_T39 l0 x6_1).f0))) (fun _ hk => hk.2) (.slice A294_1 ((rd_T39 l0 x6_1).f1).length c294_1)) (fun _ hk => hk.2) (.int .i64 ((rd_T39 l0 x6_1).f2))) (fun _ hk => hk.2) (.bool ((rd_T39 l0 x6_1).f3))) (fun _ h_ => h_.1))) (Kd.R_base ho0) hb); have n2_ := Aside0.mk (Kd.R_lower (Kd.R_newM (M := fun k_ => (w.heap.size ≤ k_)) ho0 (below_size (by repeat (first | (with_reducible first | exact HB.out | apply below_alloc | apply pw_below_drewN | apply below_drew1 | refine below_set ?_ GE295.out) | exact HB.out))) (fun k_ h_ => h_)) (below_size (by repeat (first | (with_reducible first | exact HB.out | apply below_alloc | apply pw_below_drewN | apply below_drew1 | refine below_set ?_ GE295.out) | exact HB.out)))); have n3_ := Aside0.mk (Kd.C_below ((Kd.V_reads' (by (with_reducible repeat (first | apply Kd.V_alloc | apply Kd.V_drewN | apply Kd.V_drew)); exact (Kd.V_mono (Kd.V_far (p := ⟨gb295, 3, none⟩) (Kd.V_far (p := ⟨gb295, 2, none⟩) (Kd.V_far (p := ⟨gb295, 1, none⟩) (Kd.V_far (p := ⟨gb295, 0, none⟩) (Kd.V_mono HL294_1.out (fun k_ hk => (⟨hk, hk.2⟩ : _ ∧ k_ ≠ gb295))) (fun _ hk => hk.2) (.int .i64 ((rd_T39 l0 x6_1).f0))) (fun _ hk => hk.2) (.slice A294_1 ((rd_T39 l0 x6_1).f1).length c294_1)) (fun _ hk => hk.2) (.int .i64 ((rd_T39 l0 x6_1).f2))) (fun _ hk => hk.2) (.bool ((rd_T39 l0 x6_1).f3))) (fun _ h_ => h_.1)))).2.2) hb); have n4_ := Aside0.mk (blk_below (g := gb295) (o := .cells #[.int .i64 ((rd_T39 l0 x6_1).f0), .slice A294_1 ((rd_T39 l0 x6_1).f1).length c294_1, .int .i64 ((rd_T39 l0 x6_1).f2), .bool ((rd_T39 l0 x6_1).f3)] 39 (0, 0)) (by (with_reducible repeat (first | refine blk_drewN ?_ _ | refine blk_drew ?_ | refine blk_alloc ?_ _)); refine blk_put (cs := #[.int .i64 ((rd_T39 l0 x6_1).f0), .slice A294_1 ((rd_T39 l0 x6_1).f1).length c294_1, .int .i64 ((rd_T39 l0 x6_1).f2), .bool false]) ?_ 3 _ rfl; (with_reducible repeat (first | refine blk_drewN ?_ _ | refine blk_drew ?_ | refine blk_alloc ?_ _)); refine blk_put (cs := #[.int .i64 ((rd_T39 l0 x6_1).f0), .slice A294_1 ((rd_T39 l0 x6_1).f1).length c294_1, .int .i64 0, .bool false]) ?_ 2 _ rfl; (with_reducible repeat (first | refine blk_drewN ?_ _ | refine blk_drew ?_ | refine blk_alloc ?_ _)); refine blk_put (cs := #[.int .i64 ((rd_T39 l0 x6_1).f0), .slice none 0 0, .int .i64 0, .bool false]) ?_ 1 _ rfl; (with_reducible repeat (first | refine blk_drewN ?_ _ | refine blk_drew ?_ | refine blk_alloc ?_ _)); refine blk_put (cs := #[.int .i64 0, .slice none 0 0, .int .i64 0, .bool false]) ?_ 0 _ rfl; (with_reducible repeat (first | refine blk_drewN ?_ _ | refine blk_drew ?_ | refine blk_alloc ?_ _)); exact BK295.out) hb); have n5_ := Aside0.mk (below_step (by repeat (first | (with_reducible first | exact HB.out | apply below_alloc | apply pw_below_drewN | apply below_drew1 | refine below_set ?_ GE295.out) | exact HB.out)) hb); clear HO_0; clear HL294_1; clear HR294_1; clear BK295; clear HB; have HO_0 := n0_; have HL294_1 := n1_; have HO299 := n2_; have HR294_1 := n3_; have BK295 := n4_; have HB := n5_; clear n0_ n1_ n2_ n3_ n4_ n5_; (try clear hb); (try clear hb2); (try clear hk); (try clear hi); (try clear ho0); obtain ⟨Ao15, co15, eo15⟩ := Kd.R_slice HO299.out; subst eo15; have hcz16_0 : w14.cell? ⟨gb295, 0, none⟩ = some (.int .i64 ((rd_T39 l0 x6_1).f0)) := (blk_cell BK295.out 0).trans rfl; have hcz16_1 : w14.cell? ⟨gb295, 1, none⟩ = some (.slice A294_1 ((rd_T39 l0 x6_1).f1).length c294_1) := (blk_cell BK295.out 1).trans rfl; have hcz16_2 : w14.cell? ⟨gb295, 2, none⟩ = some (.int .i64 ((rd_T39 l0 x6_1).f2)) := (blk_cell BK295.out 2).trans rfl; have hcz16_3 : w14.cell? ⟨gb295, 3, none⟩ = some (.bool ((rd_T39 l0 x6_1).f3)) := (blk_cell BK295.out 3).trans rfl; have hfz16_0 := blk_frozen BK295.out 0; have hfz16_1 := blk_frozen BK295.out 1; have hfz16_2 := blk_frozen BK295.out 2; have hfz16_3 := blk_frozen BK295.out 3) | ((with_reducible refine gate_dst (N := 44) rfl ?_); refine Kd.N_lit k39 _ 39 ?hg (N' := 44) ?hd (xs := ([(⟨(rd_T39 l0 x6_1).f0, t297, (rd_T39 l0 x6_1).f2, false⟩ : S39)] : List (S39))) (inner := [.int .i64 ((rd_T39 l0 x6_1).f0), .slice Ao15 t297.length co15, .int .i64 ((rd_T39 l0 x6_1).f2), .bool false]) (ok := (fun k_ => (P0_ k_ ∨ w.heap.size ≤ k_) ∧ k_ ≠ gb295)) (okp := (fun k_ => (P0_ k_ ∨ w.heap.size ≤ k_) ∧ k_ ≠ gb295)) ?hr ?hp (fun _ hk => hk) ((show ∀ k_, w14.heap.size ≤ k_ → (fun k_ => (P0_ k_ ∨ w.heap.size ≤ k_) ∧ k_ ≠ gb295) k_ from fun k_ hk => ⟨(.inr (Nat.le_trans (below_size (by repeat (first | (with_reducible first | exact HB.out | apply below_alloc | apply pw_below_drewN | apply below_drew1 | refine below_set ?_ GE295.out) | exact HB.out))) hk)), Kd.freshB (g := gb295) (o := .cells #[.int .i64 ((rd_T39 l0 x6_1).f0), .slice A294_1 ((rd_T39 l0 x6_1).f1).length c294_1, .int .i64 ((rd_T39 l0 x6_1).f2), .bool ((rd_T39 l0 x6_1).f3)] 39 (0, 0)) (by (with_reducible repeat (first | refine blk_drewN ?_ _ | refine blk_drew ?_ | refine blk_alloc ?_ _)); exact BK295.out) k_ hk⟩) _ (Nat.le_refl _)) (Below.refl _ _) (Nat.le_refl _) (by simp) ?_; (case hd => rfl); (case hg => rfl); (case hr => first | (go_simp; done) | (go_simp; rfl)); (case hp => exact (Reps.c4 (show Kd.FK k39 _ _ (⟨(rd_T39 l0 x6_1).f0, t297, (rd_T39 l0 x6_1).f2, false⟩ : S39) [.int .i64 ((rd_T39 l0 x6_1).f0), .slice Ao15 t297.length co15, .int .i64 ((rd_T39 l0 x6_1).f2), .bool false] from (k39_mkF _ _ (⟨(rd_T39 l0 x6_1).f0, t297, (rd_T39 l0 x6_1).f2, false⟩ : S39) (Kd.R_reads' (Kd.R_mono (ok' := (fun k_ => (P0_ k_ ∨ w.heap.size ≤ k_) ∧ k_ ≠ gb295)) (Kd.R_types (HO299.out) BK295.out (by decide)) (fun k_ hk => ⟨(.inr (hk.1.1)), hk.2⟩))).2.1 (Kd.R_F (Kd.R_mono (ok' := (fun k_ => (P0_ k_ ∨ w.heap.size ≤ k_) ∧ k_ ≠ gb295)) (Kd.R_types (HO299.out) BK295.out (by decide)) (fun k_ hk => ⟨(.inr (hk.1.1)), hk.2⟩))))) (Reps.none _ _))); intro v301 w17 ho18 hb hg_ hnew_; clear hg_ hnew_; (first | rw [← Ny300.out] at ho18 | (simp only [Int.reduceToNat] at ho18; rw [← Ny300.out] at ho18)); have n0_ := Aside0.mk (Kd.V_elder' (by (with_reducible repeat (first | apply Kd.V_alloc | apply Kd.V_drewN | apply Kd.V_drew)); exact HO_0.out) (Kd.N_base ho18) hb); have n1_ := Aside0.mk (Kd.V_elder' (by (with_reducible repeat (first | apply Kd.V_alloc | apply Kd.V_drewN | apply Kd.V_drew)); exact HL294_1.out) (Kd.N_base ho18) hb); have n2_ := Aside0.mk (Kd.N_lower ho18 (below_size (by repeat (first | (with_reducible first | exact HB.out | apply below_alloc | apply pw_below_drewN | apply below_drew1 | refine below_set ?_ GE295.out) | exact HB.out)))); have n3_ := Aside0.mk (Kd.C_below (by repeat (first | (with_reducible exact HR294_1.out) | (with_reducible refine Kd.C_alloc ?_ _) | (with_reducible refine Kd.C_drewN ?_ _) | (with_reducible refine Kd.C_drew ?_) | exact HR294_1.out)) hb); have n4_ := Aside0.mk (blk_below (g := gb295) (o := .cells #[.int .i64 ((rd_T39 l0 x6_1).f0), .slice A294_1 ((rd_T39 l0 x6_1).f1).length c294_1, .int .i64 ((rd_T39 l0 x6_1).f2), .bool ((rd_T39 l0 x6_1).f3)] 39 (0, 0)) (by (with_reducible repeat (first | refine blk_drewN ?_ _ | refine blk_drew ?_ | refine blk_alloc ?_ _)); exact BK295.out) hb); have n5_ := Aside0.mk (below_step (by repeat (first | (with_reducible first | exact HB.out | apply below_alloc | apply pw_below_drewN | apply below_drew1 | refine below_set ?_ GE295.out) | exact HB.out)) hb); clear HO_0; clear HL294_1; clear HR294_1; clear BK295; clear HB; clear HO299; have HO_0 := n0_; have HL294_1 := n1_; have HO302 := n2_; have HR294_1 := n3_; have BK295 := n4_; have HB := n5_; clear n0_ n1_ n2_ n3_ n4_ n5_; clear hb ho18))
        go_ret2
        exact ⟨_, by first | rfl | (simp [errW_none, errW_some] <;> rfl) | (simp [*, errW_none, errW_some] <;> rfl), by (with_reducible repeat (first | apply Kd.N_alloc | apply Kd.N_drewN | apply Kd.N_drew)); exact Kd.N_mono HO302.out (fun _ hk => hk.1), by repeat (first | (with_reducible first | exact HB.out | apply below_alloc | apply pw_below_drewN | apply below_drew1 | refine below_set ?_ GE295.out) | exact HB.out)⟩
       ·rw [if_neg c11] at H
        have c11b0 : decide (0 < (t297.length : Int)) = false := decide_eq_false c11
        have c11b1 : decide (0 < t297.length) = false := decide_eq_false (by omega)
        clear c11
        by_cases c19 : x6_1 = 0
        ·rw [if_pos c19] at H
         have c19b0 : (x6_1 == 0) = true := beq_iff_eq.mpr c19
         have c19b1 : (x6_1 != 0) = false := bne_eq_false_iff_eq.mpr c19
         clear c19
         obtain ⟨y303, hy303⟩ : ∃ y_ : List (S39), y_ = (([(⟨(rd_T39 l0 x6_1).f0, t297, (rd_T39 l0 x6_1).f2, false⟩ : S39)] : List (S39))) := ⟨_, rfl⟩
         replace H : (some (y303, 0)) = some (r1, r2) := by first | (rw [hy303]; with_reducible exact H) | (have H2_ := (Option.bind_some _ _).symm.trans H; rw [hy303]; with_reducible exact H2_) | (have H2_ := (Option.bind_some _ _).symm.trans H; with_reducible exact H2_) | with_reducible exact H | (rw [hy303]; exact H) | exact H
         have Ny303 := Aside0.mk hy303
         clear hy303
         simp only [Option.some.injEq, Prod.mk.injEq] at H
         obtain ⟨rfl, rfl⟩ := H
         have p294 : 0 ≤ (x6_1 : Int) := of_decide_eq_true (by first | (with_reducible assumption) | assumption)
         have q294 : x6_1 < (l0.length : Int) := of_decide_eq_true (by first | (with_reducible assumption) | assumption)
         obtain ⟨ad294, A294_1, c294_1, e294, hx294_0, hx294_1, hx294_2, hx294_3, hl294_1, hi294_1⟩ := at_T39 (Kd.V_reads' HO_0.out).2.2 x6_1 p294 q294
         cases e294
         obtain ⟨ce294, hce294, hMe294, hcc294⟩ := Kd.V_get HO_0.out z39 x6_1 p294 (by first | exact q294 | exact of_decide_eq_true (by first | (with_reducible assumption) | assumption) | (have e_ := (Kd.V_reads' HO_0.out).1; omega))
         obtain ⟨ua294_1, uc294_1, rfl, ul294_1, ge294_1⟩ := k39_openF hMe294
         have hv294_1 := hcc294 1 _ rfl
         rw [add_field _ _ 1 (by omega)] at hv294_1
         replace hv294_1 := Option.some.inj (hv294_1.symm.trans hx294_1)
         injection hv294_1 with hva_ hvn_ hvc_
         rw [hva_] at ge294_1
         rw [hvc_] at ul294_1
         have HL294_1 := Aside0.mk (show Kd.V (Kd.int .i64) 3 _ w.heap.size _ _ ((rd_T39 l0 x6_1).f1) from Kd.V_mk ul294_1 ge294_1)
         clear hva_ hvn_ hvc_ ge294_1 ul294_1
         clear hcc294 hce294
         have HR294_1 := Aside0.mk hi294_1
         have HC294_1 := Aside0.mk hl294_1
         clear hi294_1 hl294_1
         replace p294 := eq_true p294
         replace q294 := eq_true q294
         go_wp2_with (first | ((with_reducible refine gate_dst (N := 7) rfl ?_); refine box_event ?hg (N := 7) ?hd (cs := #[.int .i64 0, .slice none 0 0, .int .i64 0, .bool false]) (t := 39) ?hr ?_; (case hd => rfl); (case hg => rfl); (case hr => first | (go_simp; done) | (go_simp; rfl)); intro gb295 hg w20 hbox hb; have n0_ := Aside0.mk (Kd.V_below (Kd.V_elderB (by (with_reducible repeat (first | apply Kd.V_alloc | apply Kd.V_drewN | apply Kd.V_drew)); exact HO_0.out) gb295 (Nat.le_of_eq hg.symm)) hb); have n1_ := Aside0.mk (Kd.V_below (Kd.V_elderB (by (with_reducible repeat (first | apply Kd.V_alloc | apply Kd.V_drewN | apply Kd.V_drew)); exact HL294_1.out) gb295 (Nat.le_of_eq hg.symm)) hb); have n2_ := Aside0.mk (Kd.C_below (by repeat (first | (with_reducible exact HR294_1.out) | (with_reducible refine Kd.C_alloc ?_ _) | (with_reducible refine Kd.C_drewN ?_ _) | (with_reducible refine Kd.C_drew ?_) | exact HR294_1.out)) hb); have n3_ := Aside0.mk (below_step (by repeat (first | (with_reducible first | exact HB.out | apply below_alloc | apply pw_below_drewN | apply below_drew1) | exact HB.out)) hb); have n4_ := Aside0.mk (hbox); have n5_ := Aside0.mk ((by rw [hg]; exact (below_size (by repeat (first | (with_reducible first | exact HB.out | apply below_alloc | apply pw_below_drewN | apply below_drew1) | exact HB.out))) : w.heap.size ≤ gb295)); have n6_ := Aside0.mk ((by rw [hg]; exact (below_size (by repeat (first | (with_reducible first | exact HB.out | apply below_alloc | apply pw_below_drewN | apply below_drew1) | exact HB.out))) : w.heap.size ≤ gb295)); clear HO_0; clear HL294_1; clear HR294_1; clear HB; have HO_0 := n0_; have HL294_1 := n1_; have HR294_1 := n2_; have HB := n3_; have BK295 := n4_; have GW295 := n5_; have GE295 := n6_; clear n0_ n1_ n2_ n3_ n4_ n5_ n6_; clear hb hbox hg; have hcz21_0 : w20.cell? ⟨gb295, 0, none⟩ = some (.int .i64 0) := (blk_cell BK295.out 0).trans rfl; have hcz21_1 : w20.cell? ⟨gb295, 1, none⟩ = some (.slice none 0 0) := (blk_cell BK295.out 1).trans rfl; have hcz21_2 : w20.cell? ⟨gb295, 2, none⟩ = some (.int .i64 0) := (blk_cell BK295.out 2).trans rfl; have hcz21_3 : w20.cell? ⟨gb295, 3, none⟩ = some (.bool false) := (blk_cell BK295.out 3).trans rfl; have hfz21_0 := blk_frozen BK295.out 0; have hfz21_1 := blk_frozen BK295.out 1; have hfz21_2 := blk_frozen BK295.out 2; have hfz21_3 := blk_frozen BK295.out 3) | ((with_reducible refine gate_callee (f := 26) rfl ?_); refine goesL_ (some 25) rfl rfl Try.func26 (by kernel_rfl) rfl #[.slice A294_1 ((rd_T39 l0 x6_1).f1).length c294_1, .int .i64 a1] rfl (by (try simp only [List.map_toArray, List.map_cons, List.map_nil]); first | done | rfl | (simp only [List.length_drop, List.length_take]; rfl)) ?_; (with_reducible refine (cobwebref10_Has.calls k1 _ _ ((rd_T39 l0 x6_1).f1) a1 true _ ?side1 ?side2 A8.out).mono ?_); (case side1 => repeat (first | exact ((Kd.V_reads' (by (with_reducible repeat (first | apply Kd.V_alloc | apply Kd.V_drewN | apply Kd.V_drew)); exact (Kd.V_mono (Kd.V_far (p := ⟨gb295, 3, none⟩) (Kd.V_far (p := ⟨gb295, 2, none⟩) (Kd.V_far (p := ⟨gb295, 1, none⟩) (Kd.V_far (p := ⟨gb295, 0, none⟩) (Kd.V_mono HL294_1.out (fun k_ hk => (⟨hk, hk.2⟩ : _ ∧ k_ ≠ gb295))) (fun _ hk => hk.2) (.int .i64 ((rd_T39 l0 x6_1).f0))) (fun _ hk => hk.2) (.slice A294_1 ((rd_T39 l0 x6_1).f1).length c294_1)) (fun _ hk => hk.2) (.int .i64 ((rd_T39 l0 x6_1).f2))) (fun _ hk => hk.2) (.bool ((rd_T39 l0 x6_1).f3))) (fun _ h_ => h_.1)))).2.2) | (with_reducible refine Kd.C_alloc ?_ _) | (with_reducible refine Kd.C_drewN ?_ _) | (with_reducible refine Kd.C_drew ?_))); (case side2 => exact HC294_1.out); rintro e w' ⟨rfl, ⟨nd, rfl⟩⟩; refine ⟨_, rfl, ?_⟩) | ((with_reducible refine gate_callee (f := 39) rfl ?_); refine goesL_ (some 30) rfl rfl Try.func39 (by kernel_rfl) rfl #[.slice A294_1 ((rd_T39 l0 x6_1).f1).length c294_1, .int .i64 a1] rfl (by (try simp only [List.map_toArray, List.map_cons, List.map_nil]); first | done | rfl | (simp only [List.length_drop, List.length_take]; rfl)) ?_; (with_reducible refine (cobwebref10_without.calls k1 _ _ ((rd_T39 l0 x6_1).f1) a1 t297 _ ?side1 ?side2 A10.out).mono ?_); (case side1 => repeat (first | exact ((Kd.V_reads' (by (with_reducible repeat (first | apply Kd.V_alloc | apply Kd.V_drewN | apply Kd.V_drew)); exact (Kd.V_mono (Kd.V_far (p := ⟨gb295, 3, none⟩) (Kd.V_far (p := ⟨gb295, 2, none⟩) (Kd.V_far (p := ⟨gb295, 1, none⟩) (Kd.V_far (p := ⟨gb295, 0, none⟩) (Kd.V_mono HL294_1.out (fun k_ hk => (⟨hk, hk.2⟩ : _ ∧ k_ ≠ gb295))) (fun _ hk => hk.2) (.int .i64 ((rd_T39 l0 x6_1).f0))) (fun _ hk => hk.2) (.slice A294_1 ((rd_T39 l0 x6_1).f1).length c294_1)) (fun _ hk => hk.2) (.int .i64 ((rd_T39 l0 x6_1).f2))) (fun _ hk => hk.2) (.bool ((rd_T39 l0 x6_1).f3))) (fun _ h_ => h_.1)))).2.2) | (with_reducible refine Kd.C_alloc ?_ _) | (with_reducible refine Kd.C_drewN ?_ _) | (with_reducible refine Kd.C_drew ?_))); (case side2 => exact HC294_1.out); rintro e w22 ⟨v298, rfl, ho0, hb⟩; refine ⟨_, rfl, ?_⟩; have n0_ := Aside0.mk (Kd.V_elder' (by (with_reducible repeat (first | apply Kd.V_alloc | apply Kd.V_drewN | apply Kd.V_drew)); exact (Kd.V_mono (Kd.V_far (p := ⟨gb295, 3, none⟩) (Kd.V_far (p := ⟨gb295, 2, none⟩) (Kd.V_far (p := ⟨gb295, 1, none⟩) (Kd.V_far (p := ⟨gb295, 0, none⟩) (Kd.V_mono HO_0.out (fun k_ hk => (⟨hk, hk.2⟩ : _ ∧ k_ ≠ gb295))) (fun _ hk => hk.2) (.int .i64 ((rd_T39 l0 x6_1).f0))) (fun _ hk => hk.2) (.slice A294_1 ((rd_T39 l0 x6_1).f1).length c294_1)) (fun _ hk => hk.2) (.int .i64 ((rd_T39 l0 x6_1).f2))) (fun _ hk => hk.2) (.bool ((rd_T39 l0 x6_1).f3))) (fun _ h_ => h_.1))) (Kd.R_base ho0) hb); have n1_ := Aside0.mk (Kd.V_elder' (by (with_reducible repeat (first | apply Kd.V_alloc | apply Kd.V_drewN | apply Kd.V_drew)); exact (Kd.V_mono (Kd.V_far (p := ⟨gb295, 3, none⟩) (Kd.V_far (p := ⟨gb295, 2, none⟩) (Kd.V_far (p := ⟨gb295, 1, none⟩) (Kd.V_far (p := ⟨gb295, 0, none⟩) (Kd.V_mono HL294_1.out (fun k_ hk => (⟨hk, hk.2⟩ : _ ∧ k_ ≠ gb295))) (fun _ hk => hk.2) (.int .i64 ((rd_T39 l0 x6_1).f0))) (fun _ hk => hk.2) (.slice A294_1 ((rd_T39 l0 x6_1).f1).length c294_1)) (fun _ hk => hk.2) (.int .i64 ((rd_T39 l0 x6_1).f2))) (fun _ hk => hk.2) (.bool ((rd_T39 l0 x6_1).f3))) (fun _ h_ => h_.1))) (Kd.R_base ho0) hb); have n2_ := Aside0.mk (Kd.R_lower (Kd.R_newM (M := fun k_ => (w.heap.size ≤ k_)) ho0 (below_size (by repeat (first | (with_reducible first | exact HB.out | apply below_alloc | apply pw_below_drewN | apply below_drew1 | refine below_set ?_ GE295.out) | exact HB.out))) (fun k_ h_ => h_)) (below_size (by repeat (first | (with_reducible first | exact HB.out | apply below_alloc | apply pw_below_drewN | apply below_drew1 | refine below_set ?_ GE295.out) | exact HB.out)))); have n3_ := Aside0.mk (Kd.C_below ((Kd.V_reads' (by (with_reducible repeat (first | apply Kd.V_alloc | apply Kd.V_drewN | apply Kd.V_drew)); exact (Kd.V_mono (Kd.V_far (p := ⟨gb295, 3, none⟩) (Kd.V_far (p := ⟨gb295, 2, none⟩) (Kd.V_far (p := ⟨gb295, 1, none⟩) (Kd.V_far (p := ⟨gb295, 0, none⟩) (Kd.V_mono HL294_1.out (fun k_ hk => (⟨hk, hk.2⟩ : _ ∧ k_ ≠ gb295))) (fun _ hk => hk.2) (.int .i64 ((rd_T39 l0 x6_1).f0))) (fun _ hk => hk.2) (.slice A294_1 ((rd_T39 l0 x6_1).f1).length c294_1)) (fun _ hk => hk.2) (.int .i64 ((rd_T39 l0 x6_1).f2))) (fun _ hk => hk.2) (.bool ((rd_T39 l0 x6_1).f3))) (fun _ h_ => h_.1)))).2.2) hb); have n4_ := Aside0.mk (blk_below (g := gb295) (o := .cells #[.int .i64 ((rd_T39 l0 x6_1).f0), .slice A294_1 ((rd_T39 l0 x6_1).f1).length c294_1, .int .i64 ((rd_T39 l0 x6_1).f2), .bool ((rd_T39 l0 x6_1).f3)] 39 (0, 0)) (by (with_reducible repeat (first | refine blk_drewN ?_ _ | refine blk_drew ?_ | refine blk_alloc ?_ _)); refine blk_put (cs := #[.int .i64 ((rd_T39 l0 x6_1).f0), .slice A294_1 ((rd_T39 l0 x6_1).f1).length c294_1, .int .i64 ((rd_T39 l0 x6_1).f2), .bool false]) ?_ 3 _ rfl; (with_reducible repeat (first | refine blk_drewN ?_ _ | refine blk_drew ?_ | refine blk_alloc ?_ _)); refine blk_put (cs := #[.int .i64 ((rd_T39 l0 x6_1).f0), .slice A294_1 ((rd_T39 l0 x6_1).f1).length c294_1, .int .i64 0, .bool false]) ?_ 2 _ rfl; (with_reducible repeat (first | refine blk_drewN ?_ _ | refine blk_drew ?_ | refine blk_alloc ?_ _)); refine blk_put (cs := #[.int .i64 ((rd_T39 l0 x6_1).f0), .slice none 0 0, .int .i64 0, .bool false]) ?_ 1 _ rfl; (with_reducible repeat (first | refine blk_drewN ?_ _ | refine blk_drew ?_ | refine blk_alloc ?_ _)); refine blk_put (cs := #[.int .i64 0, .slice none 0 0, .int .i64 0, .bool false]) ?_ 0 _ rfl; (with_reducible repeat (first | refine blk_drewN ?_ _ | refine blk_drew ?_ | refine blk_alloc ?_ _)); exact BK295.out) hb); have n5_ := Aside0.mk (below_step (by repeat (first | (with_reducible first | exact HB.out | apply below_alloc | apply pw_below_drewN | apply below_drew1 | refine below_set ?_ GE295.out) | exact HB.out)) hb); clear HO_0; clear HL294_1; clear HR294_1; clear BK295; clear HB; have HO_0 := n0_; have HL294_1 := n1_; have HO299 := n2_; have HR294_1 := n3_; have BK295 := n4_; have HB := n5_; clear n0_ n1_ n2_ n3_ n4_ n5_; (try clear hb); (try clear hb2); (try clear hk); (try clear hi); (try clear ho0); obtain ⟨Ao23, co23, eo23⟩ := Kd.R_slice HO299.out; subst eo23; have hcz24_0 : w22.cell? ⟨gb295, 0, none⟩ = some (.int .i64 ((rd_T39 l0 x6_1).f0)) := (blk_cell BK295.out 0).trans rfl; have hcz24_1 : w22.cell? ⟨gb295, 1, none⟩ = some (.slice A294_1 ((rd_T39 l0 x6_1).f1).length c294_1) := (blk_cell BK295.out 1).trans rfl; have hcz24_2 : w22.cell? ⟨gb295, 2, none⟩ = some (.int .i64 ((rd_T39 l0 x6_1).f2)) := (blk_cell BK295.out 2).trans rfl; have hcz24_3 : w22.cell? ⟨gb295, 3, none⟩ = some (.bool ((rd_T39 l0 x6_1).f3)) := (blk_cell BK295.out 3).trans rfl; have hfz24_0 := blk_frozen BK295.out 0; have hfz24_1 := blk_frozen BK295.out 1; have hfz24_2 := blk_frozen BK295.out 2; have hfz24_3 := blk_frozen BK295.out 3) | ((with_reducible refine gate_dst (N := 44) rfl ?_); refine Kd.N_lit k39 _ 39 ?hg (N' := 44) ?hd (xs := ([(⟨(rd_T39 l0 x6_1).f0, t297, (rd_T39 l0 x6_1).f2, false⟩ : S39)] : List (S39))) (inner := [.int .i64 ((rd_T39 l0 x6_1).f0), .slice Ao23 t297.length co23, .int .i64 ((rd_T39 l0 x6_1).f2), .bool false]) (ok := (fun k_ => (P0_ k_ ∨ w.heap.size ≤ k_) ∧ k_ ≠ gb295)) (okp := (fun k_ => (P0_ k_ ∨ w.heap.size ≤ k_) ∧ k_ ≠ gb295)) ?hr ?hp (fun _ hk => hk) ((show ∀ k_, w22.heap.size ≤ k_ → (fun k_ => (P0_ k_ ∨ w.heap.size ≤ k_) ∧ k_ ≠ gb295) k_ from fun k_ hk => ⟨(.inr (Nat.le_trans (below_size (by repeat (first | (with_reducible first | exact HB.out | apply below_alloc | apply pw_below_drewN | apply below_drew1 | refine below_set ?_ GE295.out) | exact HB.out))) hk)), Kd.freshB (g := gb295) (o := .cells #[.int .i64 ((rd_T39 l0 x6_1).f0), .slice A294_1 ((rd_T39 l0 x6_1).f1).length c294_1, .int .i64 ((rd_T39 l0 x6_1).f2), .bool ((rd_T39 l0 x6_1).f3)] 39 (0, 0)) (by (with_reducible repeat (first | refine blk_drewN ?_ _ | refine blk_drew ?_ | refine blk_alloc ?_ _)); exact BK295.out) k_ hk⟩) _ (Nat.le_refl _)) (Below.refl _ _) (Nat.le_refl _) (by simp) ?_; (case hd => rfl); (case hg => rfl); (case hr => first | (go_simp; done) | (go_simp; rfl)); (case hp => exact (Reps.c4 (show Kd.FK k39 _ _ (⟨(rd_T39 l0 x6_1).f0, t297, (rd_T39 l0 x6_1).f2, false⟩ : S39) [.int .i64 ((rd_T39 l0 x6_1).f0), .slice Ao23 t297.length co23, .int .i64 ((rd_T39 l0 x6_1).f2), .bool false] from (k39_mkF _ _ (⟨(rd_T39 l0 x6_1).f0, t297, (rd_T39 l0 x6_1).f2, false⟩ : S39) (Kd.R_reads' (Kd.R_mono (ok' := (fun k_ => (P0_ k_ ∨ w.heap.size ≤ k_) ∧ k_ ≠ gb295)) (Kd.R_types (HO299.out) BK295.out (by decide)) (fun k_ hk => ⟨(.inr (hk.1.1)), hk.2⟩))).2.1 (Kd.R_F (Kd.R_mono (ok' := (fun k_ => (P0_ k_ ∨ w.heap.size ≤ k_) ∧ k_ ≠ gb295)) (Kd.R_types (HO299.out) BK295.out (by decide)) (fun k_ hk => ⟨(.inr (hk.1.1)), hk.2⟩))))) (Reps.none _ _))); intro v304 w25 ho26 hb hg_ hnew_; clear hg_ hnew_; (first | rw [← Ny303.out] at ho26 | (simp only [Int.reduceToNat] at ho26; rw [← Ny303.out] at ho26)); have n0_ := Aside0.mk (Kd.V_elder' (by (with_reducible repeat (first | apply Kd.V_alloc | apply Kd.V_drewN | apply Kd.V_drew)); exact HO_0.out) (Kd.N_base ho26) hb); have n1_ := Aside0.mk (Kd.V_elder' (by (with_reducible repeat (first | apply Kd.V_alloc | apply Kd.V_drewN | apply Kd.V_drew)); exact HL294_1.out) (Kd.N_base ho26) hb); have n2_ := Aside0.mk (Kd.N_lower ho26 (below_size (by repeat (first | (with_reducible first | exact HB.out | apply below_alloc | apply pw_below_drewN | apply below_drew1 | refine below_set ?_ GE295.out) | exact HB.out)))); have n3_ := Aside0.mk (Kd.C_below (by repeat (first | (with_reducible exact HR294_1.out) | (with_reducible refine Kd.C_alloc ?_ _) | (with_reducible refine Kd.C_drewN ?_ _) | (with_reducible refine Kd.C_drew ?_) | exact HR294_1.out)) hb); have n4_ := Aside0.mk (blk_below (g := gb295) (o := .cells #[.int .i64 ((rd_T39 l0 x6_1).f0), .slice A294_1 ((rd_T39 l0 x6_1).f1).length c294_1, .int .i64 ((rd_T39 l0 x6_1).f2), .bool ((rd_T39 l0 x6_1).f3)] 39 (0, 0)) (by (with_reducible repeat (first | refine blk_drewN ?_ _ | refine blk_drew ?_ | refine blk_alloc ?_ _)); exact BK295.out) hb); have n5_ := Aside0.mk (below_step (by repeat (first | (with_reducible first | exact HB.out | apply below_alloc | apply pw_below_drewN | apply below_drew1 | refine below_set ?_ GE295.out) | exact HB.out)) hb); clear HO_0; clear HL294_1; clear HR294_1; clear BK295; clear HB; clear HO299; have HO_0 := n0_; have HL294_1 := n1_; have HO305 := n2_; have HR294_1 := n3_; have BK295 := n4_; have HB := n5_; clear n0_ n1_ n2_ n3_ n4_ n5_; clear hb ho26))
         go_ret2
         exact ⟨_, by first | rfl | (simp [errW_none, errW_some] <;> rfl) | (simp [*, errW_none, errW_some] <;> rfl), by (with_reducible repeat (first | apply Kd.N_alloc | apply Kd.N_drewN | apply Kd.N_drew)); exact Kd.N_mono HO305.out (fun _ hk => hk.1), by repeat (first | (with_reducible first | exact HB.out | apply below_alloc | apply pw_below_drewN | apply below_drew1 | refine below_set ?_ GE295.out) | exact HB.out)⟩
        ·rw [if_neg c19] at H
         have c19b0 : (x6_1 == 0) = false := beq_eq_false_iff_ne.mpr c19
         have c19b1 : (x6_1 != 0) = true := bne_iff_ne.mpr c19
         obtain ⟨ji27, hji27⟩ : ∃ j_ : Int, (wrap64 (x6_1 - 1)) = j_ := ⟨_, rfl⟩
         replace H : (if 0 ≤ (ji27) then (if (ji27) < (l0.length : Int) then (some ((([(⟨(rd_T39 l0 (ji27)).f0, (rd_T39 l0 (ji27)).f1, (rd_T39 l0 x6_1).f2, false⟩ : S39), (⟨(rd_T39 l0 x6_1).f0, ([] : List Int), 0, true⟩ : S39)] : List (S39))), 0)) else (none)) else (none)) = some (r1, r2) := by first | (rw [hji27] at H; exact H) | (simp only [hji27] at H ⊢; exact H)
         (try rw [hji27] at A8)
         (try rw [hji27] at A10)
         have hji27w : (IntKind.i64.wrap (x6_1 - 1)) = ji27 := (i64_w _).trans hji27
         by_cases c28 : 0 ≤ (ji27)
         ·rw [if_pos c28] at H
          have c28b0 : decide (0 ≤ (ji27)) = true := decide_eq_true c28
          clear c28
          by_cases c29 : (ji27) < (l0.length : Int)
          ·rw [if_pos c29] at H
           have c29b0 : decide ((ji27) < (l0.length : Int)) = true := decide_eq_true c29
           clear c29
           obtain ⟨y308, hy308⟩ : ∃ y_ : List (S39), y_ = (([(⟨(rd_T39 l0 (ji27)).f0, (rd_T39 l0 (ji27)).f1, (rd_T39 l0 x6_1).f2, false⟩ : S39), (⟨(rd_T39 l0 x6_1).f0, ([] : List Int), 0, true⟩ : S39)] : List (S39))) := ⟨_, rfl⟩
           replace H : (some (y308, 0)) = some (r1, r2) := by first | (rw [hy308]; with_reducible exact H) | (have H2_ := (Option.bind_some _ _).symm.trans H; rw [hy308]; with_reducible exact H2_) | (have H2_ := (Option.bind_some _ _).symm.trans H; with_reducible exact H2_) | with_reducible exact H | (rw [hy308]; exact H) | exact H
           have Ny308 := Aside0.mk hy308
           clear hy308
           simp only [Option.some.injEq, Prod.mk.injEq] at H
           obtain ⟨rfl, rfl⟩ := H
           have p294 : 0 ≤ (x6_1 : Int) := of_decide_eq_true (by first | (with_reducible assumption) | assumption)
           have q294 : x6_1 < (l0.length : Int) := of_decide_eq_true (by first | (with_reducible assumption) | assumption)
           obtain ⟨ad294, A294_1, c294_1, e294, hx294_0, hx294_1, hx294_2, hx294_3, hl294_1, hi294_1⟩ := at_T39 (Kd.V_reads' HO_0.out).2.2 x6_1 p294 q294
           cases e294
           obtain ⟨ce294, hce294, hMe294, hcc294⟩ := Kd.V_get HO_0.out z39 x6_1 p294 (by first | exact q294 | exact of_decide_eq_true (by first | (with_reducible assumption) | assumption) | (have e_ := (Kd.V_reads' HO_0.out).1; omega))
           obtain ⟨ua294_1, uc294_1, rfl, ul294_1, ge294_1⟩ := k39_openF hMe294
           have hv294_1 := hcc294 1 _ rfl
           rw [add_field _ _ 1 (by omega)] at hv294_1
           replace hv294_1 := Option.some.inj (hv294_1.symm.trans hx294_1)
           injection hv294_1 with hva_ hvn_ hvc_
           rw [hva_] at ge294_1
           rw [hvc_] at ul294_1
           have HL294_1 := Aside0.mk (show Kd.V (Kd.int .i64) 3 _ w.heap.size _ _ ((rd_T39 l0 x6_1).f1) from Kd.V_mk ul294_1 ge294_1)
           clear hva_ hvn_ hvc_ ge294_1 ul294_1
           clear hcc294 hce294
           have HR294_1 := Aside0.mk hi294_1
           have HC294_1 := Aside0.mk hl294_1
           clear hi294_1 hl294_1
           replace p294 := eq_true p294
           replace q294 := eq_true q294
           try go_wp2_with (first | ((with_reducible refine gate_dst (N := 7) rfl ?_); refine box_event ?hg (N := 7) ?hd (cs := #[.int .i64 0, .slice none 0 0, .int .i64 0, .bool false]) (t := 39) ?hr ?_; (case hd => rfl); (case hg => rfl); (case hr => first | (go_simp; done) | (go_simp; rfl)); intro gb295 hg w30 hbox hb; have n0_ := Aside0.mk (Kd.V_below (Kd.V_elderB (by (with_reducible repeat (first | apply Kd.V_alloc | apply Kd.V_drewN | apply Kd.V_drew)); exact HO_0.out) gb295 (Nat.le_of_eq hg.symm)) hb); have n1_ := Aside0.mk (Kd.V_below (Kd.V_elderB (by (with_reducible repeat (first | apply Kd.V_alloc | apply Kd.V_drewN | apply Kd.V_drew)); exact HL294_1.out) gb295 (Nat.le_of_eq hg.symm)) hb); have n2_ := Aside0.mk (Kd.C_below (by repeat (first | (with_reducible exact HR294_1.out) | (with_reducible refine Kd.C_alloc ?_ _) | (with_reducible refine Kd.C_drewN ?_ _) | (with_reducible refine Kd.C_drew ?_) | exact HR294_1.out)) hb); have n3_ := Aside0.mk (below_step (by repeat (first | (with_reducible first | exact HB.out | apply below_alloc | apply pw_below_drewN | apply below_drew1) | exact HB.out)) hb); have n4_ := Aside0.mk (hbox); have n5_ := Aside0.mk ((by rw [hg]; exact (below_size (by repeat (first | (with_reducible first | exact HB.out | apply below_alloc | apply pw_below_drewN | apply below_drew1) | exact HB.out))) : w.heap.size ≤ gb295)); have n6_ := Aside0.mk ((by rw [hg]; exact (below_size (by repeat (first | (with_reducible first | exact HB.out | apply below_alloc | apply pw_below_drewN | apply below_drew1) | exact HB.out))) : w.heap.size ≤ gb295)); clear HO_0; clear HL294_1; clear HR294_1; clear HB; have HO_0 := n0_; have HL294_1 := n1_; have HR294_1 := n2_; have HB := n3_; have BK295 := n4_; have GW295 := n5_; have GE295 := n6_; clear n0_ n1_ n2_ n3_ n4_ n5_ n6_; clear hb hbox hg; have hcz31_0 : w30.cell? ⟨gb295, 0, none⟩ = some (.int .i64 0) := (blk_cell BK295.out 0).trans rfl; have hcz31_1 : w30.cell? ⟨gb295, 1, none⟩ = some (.slice none 0 0) := (blk_cell BK295.out 1).trans rfl; have hcz31_2 : w30.cell? ⟨gb295, 2, none⟩ = some (.int .i64 0) := (blk_cell BK295.out 2).trans rfl; have hcz31_3 : w30.cell? ⟨gb295, 3, none⟩ = some (.bool false) := (blk_cell BK295.out 3).trans rfl; have hfz31_0 := blk_frozen BK295.out 0; have hfz31_1 := blk_frozen BK295.out 1; have hfz31_2 := blk_frozen BK295.out 2; have hfz31_3 := blk_frozen BK295.out 3) | ((with_reducible refine gate_callee (f := 26) rfl ?_); refine goesL_ (some 25) rfl rfl Try.func26 (by kernel_rfl) rfl #[.slice A294_1 ((rd_T39 l0 x6_1).f1).length c294_1, .int .i64 a1] rfl (by (try simp only [List.map_toArray, List.map_cons, List.map_nil]); first | done | rfl | (simp only [List.length_drop, List.length_take]; rfl)) ?_; (with_reducible refine (cobwebref10_Has.calls k1 _ _ ((rd_T39 l0 x6_1).f1) a1 true _ ?side1 ?side2 A8.out).mono ?_); (case side1 => repeat (first | exact ((Kd.V_reads' (by (with_reducible repeat (first | apply Kd.V_alloc | apply Kd.V_drewN | apply Kd.V_drew)); exact (Kd.V_mono (Kd.V_far (p := ⟨gb295, 3, none⟩) (Kd.V_far (p := ⟨gb295, 2, none⟩) (Kd.V_far (p := ⟨gb295, 1, none⟩) (Kd.V_far (p := ⟨gb295, 0, none⟩) (Kd.V_mono HL294_1.out (fun k_ hk => (⟨hk, hk.2⟩ : _ ∧ k_ ≠ gb295))) (fun _ hk => hk.2) (.int .i64 ((rd_T39 l0 x6_1).f0))) (fun _ hk => hk.2) (.slice A294_1 ((rd_T39 l0 x6_1).f1).length c294_1)) (fun _ hk => hk.2) (.int .i64 ((rd_T39 l0 x6_1).f2))) (fun _ hk => hk.2) (.bool ((rd_T39 l0 x6_1).f3))) (fun _ h_ => h_.1)))).2.2) | (with_reducible refine Kd.C_alloc ?_ _) | (with_reducible refine Kd.C_drewN ?_ _) | (with_reducible refine Kd.C_drew ?_))); (case side2 => exact HC294_1.out); rintro e w' ⟨rfl, ⟨nd, rfl⟩⟩; refine ⟨_, rfl, ?_⟩) | ((with_reducible refine gate_callee (f := 39) rfl ?_); refine goesL_ (some 30) rfl rfl Try.func39 (by kernel_rfl) rfl #[.slice A294_1 ((rd_T39 l0 x6_1).f1).length c294_1, .int .i64 a1] rfl (by (try simp only [List.map_toArray, List.map_cons, List.map_nil]); first | done | rfl | (simp only [List.length_drop, List.length_take]; rfl)) ?_; (with_reducible refine (cobwebref10_without.calls k1 _ _ ((rd_T39 l0 x6_1).f1) a1 t297 _ ?side1 ?side2 A10.out).mono ?_); (case side1 => repeat (first | exact ((Kd.V_reads' (by (with_reducible repeat (first | apply Kd.V_alloc | apply Kd.V_drewN | apply Kd.V_drew)); exact (Kd.V_mono (Kd.V_far (p := ⟨gb295, 3, none⟩) (Kd.V_far (p := ⟨gb295, 2, none⟩) (Kd.V_far (p := ⟨gb295, 1, none⟩) (Kd.V_far (p := ⟨gb295, 0, none⟩) (Kd.V_mono HL294_1.out (fun k_ hk => (⟨hk, hk.2⟩ : _ ∧ k_ ≠ gb295))) (fun _ hk => hk.2) (.int .i64 ((rd_T39 l0 x6_1).f0))) (fun _ hk => hk.2) (.slice A294_1 ((rd_T39 l0 x6_1).f1).length c294_1)) (fun _ hk => hk.2) (.int .i64 ((rd_T39 l0 x6_1).f2))) (fun _ hk => hk.2) (.bool ((rd_T39 l0 x6_1).f3))) (fun _ h_ => h_.1)))).2.2) | (with_reducible refine Kd.C_alloc ?_ _) | (with_reducible refine Kd.C_drewN ?_ _) | (with_reducible refine Kd.C_drew ?_))); (case side2 => exact HC294_1.out); rintro e w32 ⟨v298, rfl, ho0, hb⟩; refine ⟨_, rfl, ?_⟩; have n0_ := Aside0.mk (Kd.V_elder' (by (with_reducible repeat (first | apply Kd.V_alloc | apply Kd.V_drewN | apply Kd.V_drew)); exact (Kd.V_mono (Kd.V_far (p := ⟨gb295, 3, none⟩) (Kd.V_far (p := ⟨gb295, 2, none⟩) (Kd.V_far (p := ⟨gb295, 1, none⟩) (Kd.V_far (p := ⟨gb295, 0, none⟩) (Kd.V_mono HO_0.out (fun k_ hk => (⟨hk, hk.2⟩ : _ ∧ k_ ≠ gb295))) (fun _ hk => hk.2) (.int .i64 ((rd_T39 l0 x6_1).f0))) (fun _ hk => hk.2) (.slice A294_1 ((rd_T39 l0 x6_1).f1).length c294_1)) (fun _ hk => hk.2) (.int .i64 ((rd_T39 l0 x6_1).f2))) (fun _ hk => hk.2) (.bool ((rd_T39 l0 x6_1).f3))) (fun _ h_ => h_.1))) (Kd.R_base ho0) hb); have n1_ := Aside0.mk (Kd.V_elder' (by (with_reducible repeat (first | apply Kd.V_alloc | apply Kd.V_drewN | apply Kd.V_drew)); exact (Kd.V_mono (Kd.V_far (p := ⟨gb295, 3, none⟩) (Kd.V_far (p := ⟨gb295, 2, none⟩) (Kd.V_far (p := ⟨gb295, 1, none⟩) (Kd.V_far (p := ⟨gb295, 0, none⟩) (Kd.V_mono HL294_1.out (fun k_ hk => (⟨hk, hk.2⟩ : _ ∧ k_ ≠ gb295))) (fun _ hk => hk.2) (.int .i64 ((rd_T39 l0 x6_1).f0))) (fun _ hk => hk.2) (.slice A294_1 ((rd_T39 l0 x6_1).f1).length c294_1)) (fun _ hk => hk.2) (.int .i64 ((rd_T39 l0 x6_1).f2))) (fun _ hk => hk.2) (.bool ((rd_T39 l0 x6_1).f3))) (fun _ h_ => h_.1))) (Kd.R_base ho0) hb); have n2_ := Aside0.mk (Kd.R_lower (Kd.R_newM (M := fun k_ => (w.heap.size ≤ k_)) ho0 (below_size (by repeat (first | (with_reducible first | exact HB.out | apply below_alloc | apply pw_below_drewN | apply below_drew1 | refine below_set ?_ GE295.out) | exact HB.out))) (fun k_ h_ => h_)) (below_size (by repeat (first | (with_reducible first | exact HB.out | apply below_alloc | apply pw_below_drewN | apply below_drew1 | refine below_set ?_ GE295.out) | exact HB.out)))); have n3_ := Aside0.mk (Kd.C_below ((Kd.V_reads' (by (with_reducible repeat (first | apply Kd.V_alloc | apply Kd.V_drewN | apply Kd.V_drew)); exact (Kd.V_mono (Kd.V_far (p := ⟨gb295, 3, none⟩) (Kd.V_far (p := ⟨gb295, 2, none⟩) (Kd.V_far (p := ⟨gb295, 1, none⟩) (Kd.V_far (p := ⟨gb295, 0, none⟩) (Kd.V_mono HL294_1.out (fun k_ hk => (⟨hk, hk.2⟩ : _ ∧ k_ ≠ gb295))) (fun _ hk => hk.2) (.int .i64 ((rd_T39 l0 x6_1).f0))) (fun _ hk => hk.2) (.slice A294_1 ((rd_T39 l0 x6_1).f1).length c294_1)) (fun _ hk => hk.2) (.int .i64 ((rd_T39 l0 x6_1).f2))) (fun _ hk => hk.2) (.bool ((rd_T39 l0 x6_1).f3))) (fun _ h_ => h_.1)))).2.2) hb); have n4_ := Aside0.mk (blk_below (g := gb295) (o := .cells #[.int .i64 ((rd_T39 l0 x6_1).f0), .slice A294_1 ((rd_T39 l0 x6_1).f1).length c294_1, .int .i64 ((rd_T39 l0 x6_1).f2), .bool ((rd_T39 l0 x6_1).f3)] 39 (0, 0)) (by (with_reducible repeat (first | refine blk_drewN ?_ _ | refine blk_drew ?_ | refine blk_alloc ?_ _)); refine blk_put (cs := #[.int .i64 ((rd_T39 l0 x6_1).f0), .slice A294_1 ((rd_T39 l0 x6_1).f1).length c294_1, .int .i64 ((rd_T39 l0 x6_1).f2), .bool false]) ?_ 3 _ rfl; (with_reducible repeat (first | refine blk_drewN ?_ _ | refine blk_drew ?_ | refine blk_alloc ?_ _)); refine blk_put (cs := #[.int .i64 ((rd_T39 l0 x6_1).f0), .slice A294_1 ((rd_T39 l0 x6_1).f1).length c294_1, .int .i64 0, .bool false]) ?_ 2 _ rfl; (with_reducible repeat (first | refine blk_drewN ?_ _ | refine blk_drew ?_ | refine blk_alloc ?_ _)); refine blk_put (cs := #[.int .i64 ((rd_T39 l0 x6_1).f0), .slice none 0 0, .int .i64 0, .bool false]) ?_ 1 _ rfl; (with_reducible repeat (first | refine blk_drewN ?_ _ | refine blk_drew ?_ | refine blk_alloc ?_ _)); refine blk_put (cs := #[.int .i64 0, .slice none 0 0, .int .i64 0, .bool false]) ?_ 0 _ rfl; (with_reducible repeat (first | refine blk_drewN ?_ _ | refine blk_drew ?_ | refine blk_alloc ?_ _)); exact BK295.out) hb); have n5_ := Aside0.mk (below_step (by repeat (first | (with_reducible first | exact HB.out | apply below_alloc | apply pw_below_drewN | apply below_drew1 | refine below_set ?_ GE295.out) | exact HB.out)) hb); clear HO_0; clear HL294_1; clear HR294_1; clear BK295; clear HB; have HO_0 := n0_; have HL294_1 := n1_; have HO299 := n2_; have HR294_1 := n3_; have BK295 := n4_; have HB := n5_; clear n0_ n1_ n2_ n3_ n4_ n5_; (try clear hb); (try clear hb2); (try clear hk); (try clear hi); (try clear ho0); obtain ⟨Ao33, co33, eo33⟩ := Kd.R_slice HO299.out; subst eo33))
           have n0_ := Aside0.mk (Kd.V_drew HO_0.out)
           have n1_ := Aside0.mk (Kd.V_drew HL294_1.out)
           have n2_ := Aside0.mk (Kd.R_drew HO299.out)
           have n3_ := Aside0.mk (blk_drew BK295.out)
           have n4_ := Aside0.mk (Kd.C_drew HR294_1.out)
           have n5_ := Aside0.mk (below_drew1 HB.out)
           clear HO_0
           clear HL294_1
           clear HO299
           clear BK295
           clear HR294_1
           clear HB
           have HO_0 := n0_
           have HL294_1 := n1_
           have HO299 := n2_
           have BK295 := n3_
           have HR294_1 := n4_
           have HB := n5_
           clear n0_ n1_ n2_ n3_ n4_ n5_
           have p306 : 0 ≤ ((ji27) : Int) := of_decide_eq_true (by first | (with_reducible assumption) | assumption)
           have q306 : (ji27) < (l0.length : Int) := of_decide_eq_true (by first | (with_reducible assumption) | assumption)
           obtain ⟨ad306, A306_1, c306_1, e306, hx306_0, hx306_1, hx306_2, hx306_3, hl306_1, hi306_1⟩ := at_T39 (Kd.V_reads' HO_0.out).2.2 (ji27) p306 q306
           obtain rfl : ad294 = ad306 := (by injection e306)
           obtain ⟨ce306, hce306, hMe306, hcc306⟩ := Kd.V_get HO_0.out z39 (ji27) p306 (by first | exact q306 | exact of_decide_eq_true (by first | (with_reducible assumption) | assumption) | (have e_ := (Kd.V_reads' HO_0.out).1; omega))
           obtain ⟨ua306_1, uc306_1, rfl, ul306_1, ge306_1⟩ := k39_openF hMe306
           have hv306_1 := hcc306 1 _ rfl
           rw [add_field _ _ 1 (by omega)] at hv306_1
           replace hv306_1 := Option.some.inj (hv306_1.symm.trans hx306_1)
           injection hv306_1 with hva_ hvn_ hvc_
           rw [hva_] at ge306_1
           rw [hvc_] at ul306_1
           have HL306_1 := Aside0.mk (show Kd.V (Kd.int .i64) 3 _ w.heap.size _ _ ((rd_T39 l0 (ji27)).f1) from Kd.V_mk ul306_1 ge306_1)
           clear hva_ hvn_ hvc_ ge306_1 ul306_1
           clear hcc306 hce306
           have HR306_1 := Aside0.mk hi306_1
           have HC306_1 := Aside0.mk hl306_1
           clear hi306_1 hl306_1
           replace p306 := eq_true p306
           replace q306 := eq_true q306
           have p307 : 0 ≤ ((ji27) : Int) := of_decide_eq_true (by first | (with_reducible assumption) | assumption)
           have q307 : (ji27) < (l0.length : Int) := of_decide_eq_true (by first | (with_reducible assumption) | assumption)
           obtain ⟨ad307, A307_1, c307_1, e307, hx307_0, hx307_1, hx307_2, hx307_3, hl307_1, hi307_1⟩ := at_T39 (Kd.V_reads' HO_0.out).2.2 (ji27) p307 q307
           obtain rfl : ad294 = ad307 := (by injection e307)
           obtain ⟨ce307, hce307, hMe307, hcc307⟩ := Kd.V_get HO_0.out z39 (ji27) p307 (by first | exact q307 | exact of_decide_eq_true (by first | (with_reducible assumption) | assumption) | (have e_ := (Kd.V_reads' HO_0.out).1; omega))
           obtain ⟨ua307_1, uc307_1, rfl, ul307_1, ge307_1⟩ := k39_openF hMe307
           have hv307_1 := hcc307 1 _ rfl
           rw [add_field _ _ 1 (by omega)] at hv307_1
           replace hv307_1 := Option.some.inj (hv307_1.symm.trans hx307_1)
           injection hv307_1 with hva_ hvn_ hvc_
           rw [hva_] at ge307_1
           rw [hvc_] at ul307_1
           have HL307_1 := Aside0.mk (show Kd.V (Kd.int .i64) 3 _ w.heap.size _ _ ((rd_T39 l0 (ji27)).f1) from Kd.V_mk ul307_1 ge307_1)
           clear hva_ hvn_ hvc_ ge307_1 ul307_1
           clear hcc307 hce307
           have HR307_1 := Aside0.mk hi307_1
           have HC307_1 := Aside0.mk hl307_1
           clear hi307_1 hl307_1
           replace p307 := eq_true p307
           replace q307 := eq_true q307
           have ea_ := Option.some.inj (hx306_1.symm.trans hx307_1)
           injection ea_ with ea_ en_ ec_
           subst ea_
           subst ec_
           clear en_
           refine start_ (n := 21) (S := fun w' => w'.cell? ⟨gb295, 0, none⟩ = some (.int .i64 ((rd_T39 l0 x6_1).f0)) ∧ w'.cell? ⟨gb295, 1, none⟩ = some (.slice A294_1 ((rd_T39 l0 x6_1).f1).length c294_1) ∧ w'.cell? ⟨gb295, 2, none⟩ = some (.int .i64 ((rd_T39 l0 x6_1).f2)) ∧ w'.cell? ⟨gb295, 3, none⟩ = some (.bool ((rd_T39 l0 x6_1).f3)) ∧ w'.cell? (ad294.add (((ji27)).toNat * 4)) = some (.int .i64 ((rd_T39 l0 (ji27)).f0)) ∧ w'.cell? ⟨(ad294.add (((ji27)).toNat * 4)).block, (ad294.add (((ji27)).toNat * 4)).off + 1, none⟩ = some (.slice A306_1 ((rd_T39 l0 (ji27)).f1).length c306_1) ∧ w'.cell? ⟨(ad294.add (((ji27)).toNat * 4)).block, (ad294.add (((ji27)).toNat * 4)).off + 2, none⟩ = some (.int .i64 ((rd_T39 l0 (ji27)).f2)) ∧ w'.cell? ⟨(ad294.add (((ji27)).toNat * 4)).block, (ad294.add (((ji27)).toNat * 4)).off + 3, none⟩ = some (.bool ((rd_T39 l0 (ji27)).f3)) ∧ w'.cell? (ad294.add (((ji27)).toNat * 4)) = some (.int .i64 ((rd_T39 l0 (ji27)).f0)) ∧ w'.cell? ⟨(ad294.add (((ji27)).toNat * 4)).block, (ad294.add (((ji27)).toNat * 4)).off + 1, none⟩ = some (.slice A306_1 ((rd_T39 l0 (ji27)).f1).length c306_1) ∧ w'.cell? ⟨(ad294.add (((ji27)).toNat * 4)).block, (ad294.add (((ji27)).toNat * 4)).off + 2, none⟩ = some (.int .i64 ((rd_T39 l0 (ji27)).f2)) ∧ w'.cell? ⟨(ad294.add (((ji27)).toNat * 4)).block, (ad294.add (((ji27)).toNat * 4)).off + 3, none⟩ = some (.bool ((rd_T39 l0 (ji27)).f3))) (ds := []) #[false, false, false, false, false, false, false, false, false, false, false, false, false, false, false, false, false, false, false, false, false] (by kernel_rfl) rfl rfl ⟨(blk_cell BK295.out 0).trans rfl, (blk_cell BK295.out 1).trans rfl, (blk_cell BK295.out 2).trans rfl, (blk_cell BK295.out 3).trans rfl, hx306_0, hx306_1, hx306_2, hx306_3, hx307_0, hx307_1, hx307_2, hx307_3⟩ (fun hHeld => ?_); refine with_tabW cobwebref10_Remove.tab11 cobwebref10_Remove.bits11 (fun HT_ HW_ => ?_)
           generalize w32.drew = w34 at HO_0 HL294_1 HO299 BK295 HR294_1 HB HL306_1 HL307_1 HR306_1 HR307_1 hx306_0 hx306_1 hx306_2 hx306_3 hx307_0 hx307_1 hx307_2 hx307_3 hHeld ⊢
           refine pure_ (i := 0) (N := some 45) (v := ?_) (a' := ?_) #[true, false, false, false, false, false, false, false, false, false, false, false, false, false, false, false, false, false, false, false, false] rfl rfl (any_of HT_.out (by kernel_rfl)) (fun _ _ _ h => h) (Or.inl ⟨by rfl, ?_⟩) ?_ ?_
           rotate_left
           ·intro w'
            go_simp
            with_reducible rfl
           rotate_left
           ·simp only [Act.put, List.setIfInBounds_toArray, List.set_cons_zero, List.set_cons_succ, i64_w, i32_w]
            rfl
           refine pure_ (i := 1) (N := some 46) (v := ?_) (a' := ?_) #[true, true, false, false, false, false, false, false, false, false, false, false, false, false, false, false, false, false, false, false, false] rfl rfl (any_of HT_.out (by kernel_rfl)) (fun _ _ _ h => h) (Or.inl ⟨by rfl, ?_⟩) ?_ ?_
           rotate_left
           ·intro w'
            go_simp
            with_reducible rfl
           rotate_left
           ·simp only [Act.put, List.setIfInBounds_toArray, List.set_cons_zero, List.set_cons_succ, i64_w, i32_w]
            rfl
           refine pure_ (i := 2) (N := some 47) (v := ?_) (a' := ?_) #[true, true, true, false, false, false, false, false, false, false, false, false, false, false, false, false, false, false, false, false, false] rfl rfl (any_of HT_.out (by kernel_rfl)) (fun _ _ _ h => h) (Or.inl ⟨by rfl, ?_⟩) ?_ ?_
           rotate_left
           ·intro w'
            go_simp
            with_reducible rfl
           rotate_left
           ·simp only [Act.put, List.setIfInBounds_toArray, List.set_cons_zero, List.set_cons_succ, i64_w, i32_w]
            rfl
           refine pure_ (i := 3) (N := some 48) (v := ?_) (a' := ?_) #[true, true, true, true, false, false, false, false, false, false, false, false, false, false, false, false, false, false, false, false, false] rfl rfl (any_of HT_.out (by kernel_rfl)) (fun _ _ _ h => h) (Or.inl ⟨by rfl, ?_⟩) ?_ ?_
           rotate_left
           ·intro w'
            go_simp
            with_reducible rfl
           rotate_left
           ·simp only [Act.put, List.setIfInBounds_toArray, List.set_cons_zero, List.set_cons_succ, i64_w, i32_w]
            rfl
           refine pure_ (i := 4) (N := some 49) (v := ?_) (a' := ?_) #[true, true, true, true, true, false, false, false, false, false, false, false, false, false, false, false, false, false, false, false, false] rfl rfl (any_of HT_.out (by kernel_rfl)) (fun _ _ _ h => h) (Or.inl ⟨by rfl, ?_⟩) ?_ ?_
           rotate_left
           ·intro w'
            go_simp
            with_reducible rfl
           rotate_left
           ·simp only [Act.put, List.setIfInBounds_toArray, List.set_cons_zero, List.set_cons_succ, i64_w, i32_w]
            rfl
           refine pure_ (i := 6) (N := some 51) (v := ?_) (a' := ?_) #[true, true, true, true, true, false, true, false, false, false, false, false, false, false, false, false, false, false, false, false, false] rfl rfl (any_of HT_.out (by kernel_rfl)) (fun _ _ _ h => h) (Or.inl ⟨by rfl, ?_⟩) ?_ ?_
           rotate_left
           ·intro w'
            go_simp
            with_reducible rfl
           rotate_left
           ·simp only [Act.put, List.setIfInBounds_toArray, List.set_cons_zero, List.set_cons_succ, i64_w, i32_w]
            rfl
           refine pure_ (i := 7) (N := some 52) (v := ?_) (a' := ?_) #[true, true, true, true, true, false, true, true, false, false, false, false, false, false, false, false, false, false, false, false, false] rfl rfl (any_of HT_.out (by kernel_rfl)) (fun _ _ _ h => h) (Or.inl ⟨by rfl, ?_⟩) ?_ ?_
           rotate_left
           ·intro w'
            go_simp
            with_reducible rfl
           rotate_left
           ·simp only [Act.put, List.setIfInBounds_toArray, List.set_cons_zero, List.set_cons_succ, i64_w, i32_w]
            rfl
           refine pure_ (i := 8) (N := some 53) (v := ?_) (a' := ?_) #[true, true, true, true, true, false, true, true, true, false, false, false, false, false, false, false, false, false, false, false, false] rfl rfl (any_of HT_.out (by kernel_rfl)) (fun _ _ _ h => h) (Or.inl ⟨by rfl, ?_⟩) ?_ ?_
           rotate_left
           ·intro w'
            go_simp
            with_reducible rfl
           rotate_left
           ·simp only [Act.put, List.setIfInBounds_toArray, List.set_cons_zero, List.set_cons_succ, i64_w, i32_w]
            rfl
           refine pure_ (i := 9) (N := some 54) (v := ?_) (a' := ?_) #[true, true, true, true, true, false, true, true, true, true, false, false, false, false, false, false, false, false, false, false, false] rfl rfl (any_of HT_.out (by kernel_rfl)) (fun _ _ _ h => h) (Or.inl ⟨by rfl, ?_⟩) ?_ ?_
           rotate_left
           ·intro w'
            go_simp
            with_reducible rfl
           rotate_left
           ·simp only [Act.put, List.setIfInBounds_toArray, List.set_cons_zero, List.set_cons_succ, i64_w, i32_w]
            rfl
           refine pure_ (i := 10) (N := some 55) (v := ?_) (a' := ?_) #[true, true, true, true, true, false, true, true, true, true, true, false, false, false, false, false, false, false, false, false, false] rfl rfl (any_of HT_.out (by kernel_rfl)) (fun _ _ _ h => h) (Or.inl ⟨by rfl, ?_⟩) ?_ ?_
           rotate_left
           ·intro w'
            go_simp
            with_reducible rfl
           rotate_left
           ·simp only [Act.put, List.setIfInBounds_toArray, List.set_cons_zero, List.set_cons_succ, i64_w, i32_w]
            rfl
           refine pure_ (i := 12) (N := some 57) (v := ?_) (a' := ?_) #[true, true, true, true, true, false, true, true, true, true, true, false, true, false, false, false, false, false, false, false, false] rfl rfl (any_of HT_.out (by kernel_rfl)) (fun _ _ _ h => h) (Or.inl ⟨by rfl, ?_⟩) ?_ ?_
           rotate_left
           ·intro w'
            go_simp
            with_reducible rfl
           rotate_left
           ·simp only [Act.put, List.setIfInBounds_toArray, List.set_cons_zero, List.set_cons_succ, i64_w, i32_w]
            rfl
           refine pure_ (i := 15) (N := some 60) (v := ?_) (a' := ?_) #[true, true, true, true, true, false, true, true, true, true, true, false, true, false, false, true, false, false, false, false, false] rfl rfl (any_of HT_.out (by kernel_rfl)) (fun _ _ _ h => h) (Or.inl ⟨by rfl, ?_⟩) ?_ ?_
           rotate_left
           ·intro w'
            go_simp
            with_reducible rfl
           rotate_left
           ·simp only [Act.put, List.setIfInBounds_toArray, List.set_cons_zero, List.set_cons_succ, i64_w, i32_w]
            rfl
           refine take_ (i := 5) (N := some 50) (v := ?_) (a' := ?_) #[true, true, true, true, true, true, true, true, true, true, true, false, true, false, false, true, false, false, false, false, false] rfl rfl (take_ofW HT_.out HW_.out (by kernel_rfl)) (fun _ _ _ h => h) (Or.inl ⟨by rfl, ?_⟩) hHeld ?_ ?_
           rotate_left
           ·rintro w' ⟨s0, s1, s2, s3, s4, s5, s6, s7, s8, s9, s10, s11⟩
            go_simp
            with_reducible rfl
           rotate_left
           ·simp only [Act.put, List.setIfInBounds_toArray, List.set_cons_zero, List.set_cons_succ, i64_w, i32_w]
            rfl
           refine take_ (i := 11) (N := some 56) (v := ?_) (a' := ?_) #[true, true, true, true, true, true, true, true, true, true, true, true, true, false, false, true, false, false, false, false, false] rfl rfl (take_ofW HT_.out HW_.out (by kernel_rfl)) (fun _ _ _ h => h) (Or.inl ⟨by rfl, ?_⟩) hHeld ?_ ?_
           rotate_left
           ·rintro w' ⟨s0, s1, s2, s3, s4, s5, s6, s7, s8, s9, s10, s11⟩
            go_simp
            with_reducible rfl
           rotate_left
           ·simp only [Act.put, List.setIfInBounds_toArray, List.set_cons_zero, List.set_cons_succ, i64_w, i32_w]
            rfl
           refine take_ (i := 13) (N := some 58) (v := ?_) (a' := ?_) #[true, true, true, true, true, true, true, true, true, true, true, true, true, true, false, true, false, false, false, false, false] rfl rfl (take_ofW HT_.out HW_.out (by kernel_rfl)) (fun _ _ _ h => h) (Or.inl ⟨by rfl, ?_⟩) hHeld ?_ ?_
           rotate_left
           ·rintro w' ⟨s0, s1, s2, s3, s4, s5, s6, s7, s8, s9, s10, s11⟩
            go_simp
            with_reducible rfl
           rotate_left
           ·simp only [Act.put, List.setIfInBounds_toArray, List.set_cons_zero, List.set_cons_succ, i64_w, i32_w]
            rfl
           refine pure_ (i := 14) (N := some 59) (v := ?_) (a' := ?_) #[true, true, true, true, true, true, true, true, true, true, true, true, true, true, true, true, false, false, false, false, false] rfl rfl (any_of HT_.out (by kernel_rfl)) (fun _ _ _ h => h) (Or.inl ⟨by rfl, ?_⟩) ?_ ?_
           rotate_left
           ·intro w'
            go_simp
            with_reducible rfl
           rotate_left
           ·simp only [Act.put, List.setIfInBounds_toArray, List.set_cons_zero, List.set_cons_succ, i64_w, i32_w]
            rfl
           refine take_ (i := 16) (N := some 61) (v := ?_) (a' := ?_) #[true, true, true, true, true, true, true, true, true, true, true, true, true, true, true, true, true, false, false, false, false] rfl rfl (take_ofW HT_.out HW_.out (by kernel_rfl)) (fun _ _ _ h => h) (Or.inl ⟨by rfl, ?_⟩) hHeld ?_ ?_
           rotate_left
           ·rintro w' ⟨s0, s1, s2, s3, s4, s5, s6, s7, s8, s9, s10, s11⟩
            go_simp
            with_reducible rfl
           rotate_left
           ·simp only [Act.put, List.setIfInBounds_toArray, List.set_cons_zero, List.set_cons_succ, i64_w, i32_w]
            rfl
           refine pure_ (i := 17) (N := some 62) (v := ?_) (a' := ?_) #[true, true, true, true, true, true, true, true, true, true, true, true, true, true, true, true, true, true, false, false, false] rfl rfl (any_of HT_.out (by kernel_rfl)) (fun _ _ _ h => h) (Or.inl ⟨by rfl, ?_⟩) ?_ ?_
           rotate_left
           ·intro w'
            go_simp
            with_reducible rfl
           rotate_left
           ·simp only [Act.put, List.setIfInBounds_toArray, List.set_cons_zero, List.set_cons_succ, i64_w, i32_w]
            rfl
           refine one_ (i := 18) (N := some 63) #[true, true, true, true, true, true, true, true, true, true, true, true, true, true, true, true, true, true, true, false, false] rfl rfl (one_of HT_.out (by kernel_rfl)) (by decide) (fun K hK => ?_)
           refine Kd.N_lit_step k39 _ 39 ?hg (N' := 63) ?hd (xs := ([(⟨(rd_T39 l0 (ji27)).f0, (rd_T39 l0 (ji27)).f1, (rd_T39 l0 x6_1).f2, false⟩ : S39), (⟨(rd_T39 l0 x6_1).f0, ([] : List Int), 0, true⟩ : S39)] : List (S39))) (inner := [.int .i64 ((rd_T39 l0 (ji27)).f0), .slice A306_1 ((rd_T39 l0 (ji27)).f1).length c306_1, .int .i64 ((rd_T39 l0 x6_1).f2), .bool false, .int .i64 ((rd_T39 l0 x6_1).f0), .slice none 0 0, .int .i64 0, .bool true]) (ok := (fun k_ => (P0_ k_ ∨ w.heap.size ≤ k_) ∧ some k_ ≠ (.slice Ao33 t297.length co33 : Value).ownBlock ∧ k_ ≠ gb295)) (okp := (fun k_ => (P0_ k_ ∨ w.heap.size ≤ k_) ∧ some k_ ≠ (.slice Ao33 t297.length co33 : Value).ownBlock ∧ k_ ≠ gb295)) ?hr ?hp (fun _ hk => hk) ((show ∀ k_, w34.heap.size ≤ k_ → (fun k_ => (P0_ k_ ∨ w.heap.size ≤ k_) ∧ some k_ ≠ (.slice Ao33 t297.length co33 : Value).ownBlock ∧ k_ ≠ gb295) k_ from fun k_ hk => ⟨(.inr (Nat.le_trans (below_size (by repeat (first | (with_reducible first | exact HB.out | apply below_alloc | apply pw_below_drewN | apply below_drew1 | refine below_set ?_ GE295.out) | exact HB.out))) hk)), Kd.fresh' (Kd.R_lt (by (with_reducible repeat (first | apply Kd.R_alloc | apply Kd.R_drewN | apply Kd.R_drew)); exact HO299.out)) k_ hk, Kd.freshB (g := gb295) (o := .cells #[.int .i64 ((rd_T39 l0 x6_1).f0), .slice A294_1 ((rd_T39 l0 x6_1).f1).length c294_1, .int .i64 ((rd_T39 l0 x6_1).f2), .bool ((rd_T39 l0 x6_1).f3)] 39 (0, 0)) (by (with_reducible repeat (first | refine blk_drewN ?_ _ | refine blk_drew ?_ | refine blk_alloc ?_ _)); exact BK295.out) k_ hk⟩) _ (Nat.le_refl _)) (Below.refl _ _) (Nat.le_refl _) (by simp) ?_; (case hd => rfl); (case hg => rfl); (case hr => first | (go_simp; done) | (go_simp; rfl)); (case hp => exact (Reps.c4 (show Kd.FK k39 _ _ (⟨(rd_T39 l0 (ji27)).f0, (rd_T39 l0 (ji27)).f1, (rd_T39 l0 x6_1).f2, false⟩ : S39) [.int .i64 ((rd_T39 l0 (ji27)).f0), .slice A306_1 ((rd_T39 l0 (ji27)).f1).length c306_1, .int .i64 ((rd_T39 l0 x6_1).f2), .bool false] from (k39_mkF _ _ (⟨(rd_T39 l0 (ji27)).f0, (rd_T39 l0 (ji27)).f1, (rd_T39 l0 x6_1).f2, false⟩ : S39) (Kd.V_reads' (Kd.V_mono (ok' := (fun k_ => (P0_ k_ ∨ w.heap.size ≤ k_) ∧ some k_ ≠ (.slice Ao33 t297.length co33 : Value).ownBlock ∧ k_ ≠ gb295)) (HL307_1.out) (fun k_ hk => ⟨hk.1.1, ⟨hk.2, hk.1.2⟩⟩))).2.1 (Kd.V_F (Kd.V_mono (ok' := (fun k_ => (P0_ k_ ∨ w.heap.size ≤ k_) ∧ some k_ ≠ (.slice Ao33 t297.length co33 : Value).ownBlock ∧ k_ ≠ gb295)) (HL307_1.out) (fun k_ hk => ⟨hk.1.1, ⟨hk.2, hk.1.2⟩⟩))))) (Reps.c4 (show Kd.FK k39 _ _ (⟨(rd_T39 l0 x6_1).f0, ([] : List Int), 0, true⟩ : S39) [.int .i64 ((rd_T39 l0 x6_1).f0), .slice none 0 0, .int .i64 0, .bool true] from (k39_mkF _ _ (⟨(rd_T39 l0 x6_1).f0, ([] : List Int), 0, true⟩ : S39) (Nat.le_refl _) (Kd.F_nil _ _ _))) (Reps.none _ _))))
           intro v309 w35 ho36 hb hg_ hnew_
           have HS4_ := (hb.cell (World.block_lt_of_cell? _ _ (hHeld.2.2.2.2.1))).trans (hHeld.2.2.2.2.1)
           have HS5_ := (hb.cell (World.block_lt_of_cell? _ _ (hHeld.2.2.2.2.2.1))).trans (hHeld.2.2.2.2.2.1)
           have HS6_ := (hb.cell (World.block_lt_of_cell? _ _ (hHeld.2.2.2.2.2.2.1))).trans (hHeld.2.2.2.2.2.2.1)
           have HS7_ := (hb.cell (World.block_lt_of_cell? _ _ (hHeld.2.2.2.2.2.2.2.1))).trans (hHeld.2.2.2.2.2.2.2.1)
           have HS8_ := (hb.cell (World.block_lt_of_cell? _ _ (hHeld.2.2.2.2.2.2.2.2.1))).trans (hHeld.2.2.2.2.2.2.2.2.1)
           have HS9_ := (hb.cell (World.block_lt_of_cell? _ _ (hHeld.2.2.2.2.2.2.2.2.2.1))).trans (hHeld.2.2.2.2.2.2.2.2.2.1)
           have HS10_ := (hb.cell (World.block_lt_of_cell? _ _ (hHeld.2.2.2.2.2.2.2.2.2.2.1))).trans (hHeld.2.2.2.2.2.2.2.2.2.2.1)
           have HS11_ := (hb.cell (World.block_lt_of_cell? _ _ (hHeld.2.2.2.2.2.2.2.2.2.2.2))).trans (hHeld.2.2.2.2.2.2.2.2.2.2.2)
           clear hg_ hnew_
           (first | rw [← Ny308.out] at ho36 | (simp only [Int.reduceToNat] at ho36; rw [← Ny308.out] at ho36))
           have n0_ := Aside0.mk (Kd.V_elder' (by (with_reducible repeat (first | apply Kd.V_alloc | apply Kd.V_drewN | apply Kd.V_drew)); exact HO_0.out) (Kd.N_base ho36) hb)
           have n1_ := Aside0.mk (Kd.V_elder' (by (with_reducible repeat (first | apply Kd.V_alloc | apply Kd.V_drewN | apply Kd.V_drew)); exact HL294_1.out) (Kd.N_base ho36) hb)
           have n2_ := Aside0.mk (Kd.R_below (by (with_reducible repeat (first | apply Kd.R_alloc | apply Kd.R_drewN | apply Kd.R_drew)); exact HO299.out) hb)
           have n3_ := Aside0.mk (Kd.V_elder' (by (with_reducible repeat (first | apply Kd.V_alloc | apply Kd.V_drewN | apply Kd.V_drew)); exact HL306_1.out) (Kd.N_base ho36) hb)
           have n4_ := Aside0.mk (Kd.V_elder' (by (with_reducible repeat (first | apply Kd.V_alloc | apply Kd.V_drewN | apply Kd.V_drew)); exact HL307_1.out) (Kd.N_base ho36) hb)
           have n5_ := Aside0.mk (Kd.N_lower ho36 (below_size (by repeat (first | (with_reducible first | exact HB.out | apply below_alloc | apply pw_below_drewN | apply below_drew1 | refine below_set ?_ GE295.out) | exact HB.out))))
           have n6_ := Aside0.mk (Kd.C_below (by repeat (first | (with_reducible exact HR294_1.out) | (with_reducible refine Kd.C_alloc ?_ _) | (with_reducible refine Kd.C_drewN ?_ _) | (with_reducible refine Kd.C_drew ?_) | exact HR294_1.out)) hb)
           have n7_ := Aside0.mk (blk_below (g := gb295) (o := .cells #[.int .i64 ((rd_T39 l0 x6_1).f0), .slice A294_1 ((rd_T39 l0 x6_1).f1).length c294_1, .int .i64 ((rd_T39 l0 x6_1).f2), .bool ((rd_T39 l0 x6_1).f3)] 39 (0, 0)) (by (with_reducible repeat (first | refine blk_drewN ?_ _ | refine blk_drew ?_ | refine blk_alloc ?_ _)); exact BK295.out) hb)
           have n8_ := Aside0.mk (Kd.C_below (by repeat (first | (with_reducible exact HR306_1.out) | (with_reducible refine Kd.C_alloc ?_ _) | (with_reducible refine Kd.C_drewN ?_ _) | (with_reducible refine Kd.C_drew ?_) | exact HR306_1.out)) hb)
           have n9_ := Aside0.mk (Kd.C_below (by repeat (first | (with_reducible exact HR307_1.out) | (with_reducible refine Kd.C_alloc ?_ _) | (with_reducible refine Kd.C_drewN ?_ _) | (with_reducible refine Kd.C_drew ?_) | exact HR307_1.out)) hb)
           have n10_ := Aside0.mk (below_step (by repeat (first | (with_reducible first | exact HB.out | apply below_alloc | apply pw_below_drewN | apply below_drew1 | refine below_set ?_ GE295.out) | exact HB.out)) hb)
           clear HO_0
           clear HL294_1
           clear HO299
           clear HL306_1
           clear HL307_1
           clear HR294_1
           clear BK295
           clear HR306_1
           clear HR307_1
           clear HB
           have HO_0 := n0_
           have HL294_1 := n1_
           have HO299 := n2_
           have HL306_1 := n3_
           have HL307_1 := n4_
           have HO310 := n5_
           have HR294_1 := n6_
           have BK295 := n7_
           have HR306_1 := n8_
           have HR307_1 := n9_
           have HB := n10_
           clear n0_ n1_ n2_ n3_ n4_ n5_ n6_ n7_ n8_ n9_ n10_
           clear hb ho36
           refine hK.out _ _ ⟨(blk_cell BK295.out 0).trans rfl, (blk_cell BK295.out 1).trans rfl, (blk_cell BK295.out 2).trans rfl, (blk_cell BK295.out 3).trans rfl, HS4_, HS5_, HS6_, HS7_, HS8_, HS9_, HS10_, HS11_⟩ (fun hHeld => ?_)
           clear hK K
           refine norm_ (a' := ?_) ?_ ?_
           rotate_left
           ·show Act.put _ (some 63) _ = _
            simp only [Act.put, List.setIfInBounds_toArray, List.set_cons_zero, List.set_cons_succ, i64_w, i32_w]
            rfl
           refine pure_ (i := 19) (N := some 4) (v := ?_) (a' := ?_) #[true, true, true, true, true, true, true, true, true, true, true, true, true, true, true, true, true, true, true, true, false] rfl rfl (any_of HT_.out (by kernel_rfl)) (fun _ _ _ h => h) (Or.inl ⟨by rfl, ?_⟩) ?_ ?_
           rotate_left
           ·intro w'
            go_simp
            with_reducible rfl
           rotate_left
           ·simp only [Act.put, List.setIfInBounds_toArray, List.set_cons_zero, List.set_cons_succ, i64_w, i32_w]
            rfl
           refine pure_ (i := 20) (N := some 5) (v := ?_) (a' := ?_) #[true, true, true, true, true, true, true, true, true, true, true, true, true, true, true, true, true, true, true, true, true] rfl rfl (any_of HT_.out (by kernel_rfl)) (fun _ _ _ h => h) (Or.inl ⟨by rfl, ?_⟩) ?_ ?_
           rotate_left
           ·intro w'
            go_simp
            with_reducible rfl
           rotate_left
           ·simp only [Act.put, List.setIfInBounds_toArray, List.set_cons_zero, List.set_cons_succ, i64_w, i32_w]
            rfl
           refine done_ (done_of HT_.out (by kernel_rfl)) ?_
           try go_wp2
           go_ret2
           exact ⟨_, by first | rfl | (simp [errW_none, errW_some] <;> rfl) | (simp only [← hji27]; first | rfl | (simp [errW_none, errW_some] <;> rfl)) | (simp [*, errW_none, errW_some] <;> rfl), by (with_reducible repeat (first | apply Kd.N_alloc | apply Kd.N_drewN | apply Kd.N_drew)); exact Kd.N_mono HO310.out (fun _ hk => hk.1), by repeat (first | (with_reducible first | exact HB.out | apply below_alloc | apply pw_below_drewN | apply below_drew1 | refine below_set ?_ GE295.out) | exact HB.out)⟩
          ·rw [if_neg c29] at H
           exact absurd H (by simp)
         ·rw [if_neg c28] at H
          exact absurd H (by simp)
      ·replace c9 := Bool.eq_false_iff.mpr c9
       subst c9
       have H1 : (cobwebref10_Remove.l0 k1 l0 a1 (wrap64 (x6_1 + 1))) = some (r1, r2) := by rw [if_neg (show ¬ (false = true) by decide)] at H; exact H
       clear H
       have H := H1
       clear H1
       have H' := Aside0.mk H
       clear H
       have p294 : 0 ≤ (x6_1 : Int) := of_decide_eq_true (by first | (with_reducible assumption) | assumption)
       have q294 : x6_1 < (l0.length : Int) := of_decide_eq_true (by first | (with_reducible assumption) | assumption)
       obtain ⟨ad294, A294_1, c294_1, e294, hx294_0, hx294_1, hx294_2, hx294_3, hl294_1, hi294_1⟩ := at_T39 (Kd.V_reads' HO_0.out).2.2 x6_1 p294 q294
       cases e294
       obtain ⟨ce294, hce294, hMe294, hcc294⟩ := Kd.V_get HO_0.out z39 x6_1 p294 (by first | exact q294 | exact of_decide_eq_true (by first | (with_reducible assumption) | assumption) | (have e_ := (Kd.V_reads' HO_0.out).1; omega))
       obtain ⟨ua294_1, uc294_1, rfl, ul294_1, ge294_1⟩ := k39_openF hMe294
       have hv294_1 := hcc294 1 _ rfl
       rw [add_field _ _ 1 (by omega)] at hv294_1
       replace hv294_1 := Option.some.inj (hv294_1.symm.trans hx294_1)
       injection hv294_1 with hva_ hvn_ hvc_
       rw [hva_] at ge294_1
       rw [hvc_] at ul294_1
       have HL294_1 := Aside0.mk (show Kd.V (Kd.int .i64) 3 _ w.heap.size _ _ ((rd_T39 l0 x6_1).f1) from Kd.V_mk ul294_1 ge294_1)
       clear hva_ hvn_ hvc_ ge294_1 ul294_1
       clear hcc294 hce294
       have HR294_1 := Aside0.mk hi294_1
       have HC294_1 := Aside0.mk hl294_1
       clear hi294_1 hl294_1
       replace p294 := eq_true p294
       replace q294 := eq_true q294
       go_wp2_with (first | ((with_reducible refine gate_dst (N := 7) rfl ?_); refine box_event ?hg (N := 7) ?hd (cs := #[.int .i64 0, .slice none 0 0, .int .i64 0, .bool false]) (t := 39) ?hr ?_; (case hd => rfl); (case hg => rfl); (case hr => first | (go_simp; done) | (go_simp; rfl)); intro gb295 hg w37 hbox hb; have n0_ := Aside0.mk (Kd.V_below (Kd.V_elderB (by (with_reducible repeat (first | apply Kd.V_alloc | apply Kd.V_drewN | apply Kd.V_drew)); exact HO_0.out) gb295 (Nat.le_of_eq hg.symm)) hb); have n1_ := Aside0.mk (Kd.V_below (Kd.V_elderB (by (with_reducible repeat (first | apply Kd.V_alloc | apply Kd.V_drewN | apply Kd.V_drew)); exact HL294_1.out) gb295 (Nat.le_of_eq hg.symm)) hb); have n2_ := Aside0.mk (Kd.C_below (by repeat (first | (with_reducible exact HR294_1.out) | (with_reducible refine Kd.C_alloc ?_ _) | (with_reducible refine Kd.C_drewN ?_ _) | (with_reducible refine Kd.C_drew ?_) | exact HR294_1.out)) hb); have n3_ := Aside0.mk (below_step (by repeat (first | (with_reducible first | exact HB.out | apply below_alloc | apply pw_below_drewN | apply below_drew1) | exact HB.out)) hb); have n4_ := Aside0.mk (hbox); have n5_ := Aside0.mk ((by rw [hg]; exact (below_size (by repeat (first | (with_reducible first | exact HB.out | apply below_alloc | apply pw_below_drewN | apply below_drew1) | exact HB.out))) : w.heap.size ≤ gb295)); have n6_ := Aside0.mk ((by rw [hg]; exact (below_size (by repeat (first | (with_reducible first | exact HB.out | apply below_alloc | apply pw_below_drewN | apply below_drew1) | exact HB.out))) : w.heap.size ≤ gb295)); clear HO_0; clear HL294_1; clear HR294_1; clear HB; have HO_0 := n0_; have HL294_1 := n1_; have HR294_1 := n2_; have HB := n3_; have BK295 := n4_; have GW295 := n5_; have GE295 := n6_; clear n0_ n1_ n2_ n3_ n4_ n5_ n6_; clear hb hbox hg; have hcz38_0 : w37.cell? ⟨gb295, 0, none⟩ = some (.int .i64 0) := (blk_cell BK295.out 0).trans rfl; have hcz38_1 : w37.cell? ⟨gb295, 1, none⟩ = some (.slice none 0 0) := (blk_cell BK295.out 1).trans rfl; have hcz38_2 : w37.cell? ⟨gb295, 2, none⟩ = some (.int .i64 0) := (blk_cell BK295.out 2).trans rfl; have hcz38_3 : w37.cell? ⟨gb295, 3, none⟩ = some (.bool false) := (blk_cell BK295.out 3).trans rfl; have hfz38_0 := blk_frozen BK295.out 0; have hfz38_1 := blk_frozen BK295.out 1; have hfz38_2 := blk_frozen BK295.out 2; have hfz38_3 := blk_frozen BK295.out 3) | ((with_reducible refine gate_callee (f := 26) rfl ?_); refine goesL_ (some 25) rfl rfl Try.func26 (by kernel_rfl) rfl #[.slice A294_1 ((rd_T39 l0 x6_1).f1).length c294_1, .int .i64 a1] rfl (by (try simp only [List.map_toArray, List.map_cons, List.map_nil]); first | done | rfl | (simp only [List.length_drop, List.length_take]; rfl)) ?_; (with_reducible refine (cobwebref10_Has.calls k1 _ _ ((rd_T39 l0 x6_1).f1) a1 false _ ?side1 ?side2 A8.out).mono ?_); (case side1 => repeat (first | exact ((Kd.V_reads' (by (with_reducible repeat (first | apply Kd.V_alloc | apply Kd.V_drewN | apply Kd.V_drew)); exact (Kd.V_mono (Kd.V_far (p := ⟨gb295, 3, none⟩) (Kd.V_far (p := ⟨gb295, 2, none⟩) (Kd.V_far (p := ⟨gb295, 1, none⟩) (Kd.V_far (p := ⟨gb295, 0, none⟩) (Kd.V_mono HL294_1.out (fun k_ hk => (⟨hk, hk.2⟩ : _ ∧ k_ ≠ gb295))) (fun _ hk => hk.2) (.int .i64 ((rd_T39 l0 x6_1).f0))) (fun _ hk => hk.2) (.slice A294_1 ((rd_T39 l0 x6_1).f1).length c294_1)) (fun _ hk => hk.2) (.int .i64 ((rd_T39 l0 x6_1).f2))) (fun _ hk => hk.2) (.bool ((rd_T39 l0 x6_1).f3))) (fun _ h_ => h_.1)))).2.2) | (with_reducible refine Kd.C_alloc ?_ _) | (with_reducible refine Kd.C_drewN ?_ _) | (with_reducible refine Kd.C_drew ?_))); (case side2 => exact HC294_1.out); rintro e w' ⟨rfl, ⟨nd, rfl⟩⟩; refine ⟨_, rfl, ?_⟩))
       go_roundg k1
       case measure => have := HK1.out; omega
       case rel => exact ⟨(wrap64 (x6_1 + 1)), (by first | rfl | (simp; done) | (simp [*]; done)), H', ⟨by have := HK1.out; omega⟩, ⟨by (with_reducible repeat (first | apply Kd.V_alloc | apply Kd.V_drewN | apply Kd.V_drew)); exact Kd.V_mono (Kd.V_far (p := ⟨gb295, 3, none⟩) (Kd.V_far (p := ⟨gb295, 2, none⟩) (Kd.V_far (p := ⟨gb295, 1, none⟩) (Kd.V_far (p := ⟨gb295, 0, none⟩) (Kd.V_mono HO_0.out (fun k_ hk => (⟨hk, hk.2⟩ : _ ∧ k_ ≠ gb295))) (fun _ hk => hk.2) (.int .i64 ((rd_T39 l0 x6_1).f0))) (fun _ hk => hk.2) (.slice A294_1 ((rd_T39 l0 x6_1).f1).length c294_1)) (fun _ hk => hk.2) (.int .i64 ((rd_T39 l0 x6_1).f2))) (fun _ hk => hk.2) (.bool ((rd_T39 l0 x6_1).f3))) (fun _ hk => hk.1.1)⟩, ⟨by repeat (first | (with_reducible first | exact HB.out | apply below_alloc | apply pw_below_drewN | apply below_drew1 | refine below_set ?_ GE295.out) | exact HB.out)⟩⟩
     ·rw [if_neg c7] at H
      exact absurd H (by simp)
    ·rw [if_neg c6] at H
     have c6b0 : decide (x6_1 < (l0.length : Int)) = false := decide_eq_false c6
     clear c6
     simp only [Option.some.injEq, Prod.mk.injEq] at H
     obtain ⟨rfl, rfl⟩ := H
     go_wp2
     go_ret2
     exact ⟨_, by first | rfl | (simp [errW_none, errW_some] <;> rfl) | (simp [*, errW_none, errW_some] <;> rfl), by first | exact Kd.S_nil _ _ _ _ _ | exact Kd.N_nil _ _ _ _ _ | exact Kd.V_nil _ _ _ _ _ | exact Kd.Q_nil _ _ _ _ _ | exact Kd.R_nil _ _ _ _ _, by repeat (first | (with_reducible first | exact HB.out | apply below_alloc | apply pw_below_drewN | apply below_drew1) | exact HB.out)⟩
 ·replace c4 := Bool.eq_false_iff.mpr c4
  subst c4
  have H1 : (some (([] : List (S39)), 100)) = some (r1, r2) := by rw [if_neg (show ¬ (false = true) by decide)] at H; exact H
  clear H
  have H := H1
  clear H1
  simp only [Option.some.injEq, Prod.mk.injEq] at H
  obtain ⟨rfl, rfl⟩ := H
  go_enter Try.func18, Try.ntmps18
  go_wp2_with (first | ((with_reducible refine gate_callee (f := 20) rfl ?_); refine goesL_ (some 10) rfl rfl Try.func20 (by kernel_rfl) rfl #[.slice A0 l0.length c0] rfl (by (try simp only [List.map_toArray, List.map_cons, List.map_nil]); first | done | rfl | (simp only [List.length_drop, List.length_take]; rfl)) ?_; (with_reducible refine (cobwebref10_Right.calls k _ _ l0 false _ ?side1 ?side2 A3.out).mono ?_); (case side1 => repeat (first | exact (Kd.V_reads' HO0.out).2.2 | (with_reducible refine Kd.C_alloc ?_ _) | (with_reducible refine Kd.C_drewN ?_ _) | (with_reducible refine Kd.C_drew ?_))); (case side2 => exact (Kd.V_reads' HO0.out).2.1); rintro e w39 ⟨rfl, hb⟩; refine ⟨_, rfl, ?_⟩; have n0_ := Aside0.mk (Kd.V_below (by (with_reducible repeat (first | apply Kd.V_alloc | apply Kd.V_drewN | apply Kd.V_drew)); exact HO0.out) hb); have n1_ := Aside0.mk (below_step (by repeat (first | (with_reducible first | exact HB.out | apply below_alloc | apply pw_below_drewN | apply below_drew1) | exact HB.out)) hb); clear HO0; clear HB; have HO0 := n0_; have HB := n1_; clear n0_ n1_; (try clear hb); (try clear hb2); (try clear hk); (try clear hi)))
  go_ret2
  exact ⟨_, by first | rfl | (simp [errW_none, errW_some] <;> rfl) | (simp [*, errW_none, errW_some] <;> rfl), by first | exact Kd.S_nil _ _ _ _ _ | exact Kd.N_nil _ _ _ _ _ | exact Kd.V_nil _ _ _ _ _ | exact Kd.Q_nil _ _ _ _ _ | exact Kd.R_nil _ _ _ _ _, by repeat (first | (with_reducible first | exact HB.out | apply below_alloc | apply pw_below_drewN | apply below_drew1) | exact HB.out)⟩
end Go.Proofs.Ytfbegchhgigjeaa.PC
end
