/- A part of the proof: lemmas that the row uses, laid together by a program of this session's (pack.py) out of its texts and of what the kit's printer wrote for this seat. -/
import Derived.Test.YtneagipmllgejaaKF0
import Derived.Test.YtneagipmllgejaaKF1
import Derived.Test.YtneagipmllgejaaKF2
import Derived.Test.YtneagipmllgejaaKF3
import Derived.Test.YtneagipmllgejaaKF4
import Derived.Test.YtneagipmllgejaaKF5
import Derived.Test.YtneagipmllgejaaKF6
section
namespace Go.Proofs.Ytneagipmllgejaa.PL
open Go.RowKit Go.Proofs.YtneagipmllgejaaW.PrintWords Go.Proofs.YtneagipmllgejaaW.PrintLast Go.Proofs.YtneagipmllgejaaW.PrintMore
attribute [local go_sem] max2_int min2_int max_two min_two max_three min_three max_four min_four   -- for this text's walks alone
set_option linter.unusedVariables false
set_option linter.unusedSimpArgs false
mutual
def cobwebref11_Root.j0 : Nat → Bool → List ByteArray → List Int → Option (Bool)
 | 0, _, _, _ => none
 | k + 1, x18, x273000, x273001 => if x18 = true then (some false) else (cobwebref11_Root.l0 k 0 x273000 x273001)
def cobwebref11_Root.l0 : Nat → Int → List ByteArray → List Int → Option (Bool)
 | 0, _, _, _ => none
 | k + 1, x3, x273000, x273001 => if x3 < (x273001.length : Int) then (if 0 ≤ x3 then (if (rd x273001 x3) < 1 then (some false) else (cobwebref11_Root.l1 k x3 0 x273000 x273001)) else (none)) else (some true)
def cobwebref11_Root.l1 : Nat → Int → Int → List ByteArray → List Int → Option (Bool)
 | 0, _, _, _, _ => none
 | k + 1, x3, x4, x273000, x273001 => if x4 < x3 then (if 0 ≤ x4 then (if x4 < (x273001.length : Int) then (if 0 ≤ x3 then (if x3 < (x273001.length : Int) then (if (rd x273001 x4) = (rd x273001 x3) then (some false) else (cobwebref11_Root.l1 k x3 (wrap64 (x4 + 1)) x273000 x273001)) else (none)) else (none)) else (none)) else (none)) else (cobwebref11_Root.l0 k (wrap64 (x3 + 1)) x273000 x273001)
end
def cobwebref11_Root.f (k : Nat) (l0_0 : List ByteArray) (l0_1 : List Int) : Option (Bool) := if (l0_1.length : Int) = (wrap64 ((l0_0.length : Int) + 1)) then ((cobwebref11_Rise.f k l0_0).bind fun t273 => (cobwebref11_Root.j0 k (!t273) l0_0 l0_1)) else (cobwebref11_Root.j0 k true l0_0 l0_1)
theorem cobwebref11_Root.mono_l : ∀ k, (∀ y0 y1 y2, LeO (cobwebref11_Root.j0 k y0 y1 y2) (cobwebref11_Root.j0 (k + 1) y0 y1 y2)) ∧ (∀ y0 y1 y2, LeO (cobwebref11_Root.l0 k y0 y1 y2) (cobwebref11_Root.l0 (k + 1) y0 y1 y2)) ∧ (∀ y0 y1 y2 y3, LeO (cobwebref11_Root.l1 k y0 y1 y2 y3) (cobwebref11_Root.l1 (k + 1) y0 y1 y2 y3))
 | 0 => ⟨fun _ _ _ r h => by simp [cobwebref11_Root.j0] at h, fun _ _ _ r h => by simp [cobwebref11_Root.l0] at h, fun _ _ _ _ r h => by simp [cobwebref11_Root.l1] at h⟩
 | k + 1 => by
  obtain ⟨ih0, ih1, ih2⟩ := cobwebref11_Root.mono_l k
  refine ⟨?_, ?_, ?_⟩
  ·intro y0 y1 y2
   unfold cobwebref11_Root.j0
   repeat' first
   | (with_reducible exact ih0 _ _ _)
   | (with_reducible exact ih1 _ _ _)
   | (with_reducible exact ih2 _ _ _ _)
   | (with_reducible exact cobwebref11_Rise.mono _ _)
   | (with_reducible exact LeO.refl _)
   | (with_reducible exact LeO.none _)
   | (with_reducible refine LeO.ite ?_ ?_)
   | (with_reducible refine LeO.bind ?_ (fun _ => ?_))
   | exact ih0 _ _ _
   | exact ih1 _ _ _
   | exact ih2 _ _ _ _
   | exact cobwebref11_Rise.mono _ _
   | exact LeO.none _
   | refine LeO.ite ?_ ?_
   | refine LeO.bind ?_ (fun _ => ?_)
  ·intro y0 y1 y2
   unfold cobwebref11_Root.l0
   repeat' first
   | (with_reducible exact ih0 _ _ _)
   | (with_reducible exact ih1 _ _ _)
   | (with_reducible exact ih2 _ _ _ _)
   | (with_reducible exact cobwebref11_Rise.mono _ _)
   | (with_reducible exact LeO.refl _)
   | (with_reducible exact LeO.none _)
   | (with_reducible refine LeO.ite ?_ ?_)
   | (with_reducible refine LeO.bind ?_ (fun _ => ?_))
   | exact ih0 _ _ _
   | exact ih1 _ _ _
   | exact ih2 _ _ _ _
   | exact cobwebref11_Rise.mono _ _
   | exact LeO.none _
   | refine LeO.ite ?_ ?_
   | refine LeO.bind ?_ (fun _ => ?_)
  ·intro y0 y1 y2 y3
   unfold cobwebref11_Root.l1
   repeat' first
   | (with_reducible exact ih0 _ _ _)
   | (with_reducible exact ih1 _ _ _)
   | (with_reducible exact ih2 _ _ _ _)
   | (with_reducible exact cobwebref11_Rise.mono _ _)
   | (with_reducible exact LeO.refl _)
   | (with_reducible exact LeO.none _)
   | (with_reducible refine LeO.ite ?_ ?_)
   | (with_reducible refine LeO.bind ?_ (fun _ => ?_))
   | exact ih0 _ _ _
   | exact ih1 _ _ _
   | exact ih2 _ _ _ _
   | exact cobwebref11_Rise.mono _ _
   | exact LeO.none _
   | refine LeO.ite ?_ ?_
   | refine LeO.bind ?_ (fun _ => ?_)
theorem cobwebref11_Root.mono : ∀ a0 a1 k, LeO (cobwebref11_Root.f k a0 a1) (cobwebref11_Root.f (k + 1) a0 a1) := by
 intro a0 a1 k
 obtain ⟨ih0, ih1, ih2⟩ := cobwebref11_Root.mono_l k
 unfold cobwebref11_Root.f
 repeat' first
   | (with_reducible exact ih0 _ _ _)
   | (with_reducible exact ih1 _ _ _)
   | (with_reducible exact ih2 _ _ _ _)
   | (with_reducible exact cobwebref11_Rise.mono _ _)
   | (with_reducible exact LeO.refl _)
   | (with_reducible exact LeO.none _)
   | (with_reducible refine LeO.ite ?_ ?_)
   | (with_reducible refine LeO.bind ?_ (fun _ => ?_))
   | exact ih0 _ _ _
   | exact ih1 _ _ _
   | exact ih2 _ _ _ _
   | exact cobwebref11_Rise.mono _ _
   | exact LeO.none _
   | refine LeO.ite ?_ ?_
   | refine LeO.bind ?_ (fun _ => ?_)
set_option maxHeartbeats 8000000 in
set_option maxRecDepth 100000 in
theorem cobwebref11_Root.calls (k : Nat) (A0_0 : Option Addr) (c0_0 : Nat) (l0_0 : List ByteArray) (A0_1 : Option Addr) (c0_1 : Nat) (l0_1 : List Int) (r : Bool) (w : World) (hr0_0 : Kd.C Kd.string w A0_0 l0_0.length l0_0) (hc0_0 : l0_0.length ≤ c0_0) (hr0_1 : Kd.C (Kd.int .i64) w A0_1 l0_1.length l0_1) (hc0_1 : l0_1.length ≤ c0_1) (h : cobwebref11_Root.f k l0_0 l0_1 = some r) :
  Calls Try.prog 47 #[.agg #[.slice A0_0 l0_0.length c0_0, .slice A0_1 l0_1.length c0_1]] w fun e w' => e = .returned (.bool r) ∧ Below w.heap.size w w' := by
 have hu26 := Try.underlying26
 have HR0_0 := Aside0.mk hr0_0
 have HC0_0 := Aside0.mk hc0_0
 clear hr0_0 hc0_0
 have HR0_1 := Aside0.mk hr0_1
 have HC0_1 := Aside0.mk hc0_1
 clear hr0_1 hc0_1
 have HB := Aside0.mk (Below.refl w.heap.size w)
 have H : (if (l0_1.length : Int) = (wrap64 ((l0_0.length : Int) + 1)) then ((cobwebref11_Rise.f k l0_0).bind fun t273 => (cobwebref11_Root.j0 k (!t273) l0_0 l0_1)) else (cobwebref11_Root.j0 k true l0_0 l0_1)) = some r := h
 clear h
 have HC2 := Aside0.mk H
 clear H
 go_enter Try.func47, Try.ntmps47
 go_upto_region 1 with (first | ((with_reducible refine gate_dst (N := 1) rfl ?_); refine box_event ?hg (N := 1) ?hd (cs := #[.slice A0_0 l0_0.length c0_0, .slice A0_1 l0_1.length c0_1]) (t := 26) ?hr ?_; (case hd => rfl); (case hg => rfl); (case hr => first | (go_simp; done) | (go_simp; rfl)); intro gb272 hg w3 hbox hb; have n0_ := Aside0.mk (below_step (by repeat (first | (with_reducible first | exact HB.out | apply below_alloc | apply pw_below_drewN | apply below_drew1) | exact HB.out)) hb); have n1_ := Aside0.mk (hbox); have n2_ := Aside0.mk ((by rw [hg]; exact (below_size (by repeat (first | (with_reducible first | exact HB.out | apply below_alloc | apply pw_below_drewN | apply below_drew1) | exact HB.out))) : w.heap.size ≤ gb272)); have n3_ := Aside0.mk ((by rw [hg]; exact (below_size (by repeat (first | (with_reducible first | exact HB.out | apply below_alloc | apply pw_below_drewN | apply below_drew1) | exact HB.out))) : w.heap.size ≤ gb272)); clear HB; have HB := n0_; have BK272 := n1_; have GW272 := n2_; have GE272 := n3_; clear n0_ n1_ n2_ n3_; clear hb hbox hg))
 repeat (go_quiet (first | ((with_reducible refine gate_dst (N := 1) rfl ?_); refine box_event ?hg (N := 1) ?hd (cs := #[.slice A0_0 l0_0.length c0_0, .slice A0_1 l0_1.length c0_1]) (t := 26) ?hr ?_; (case hd => rfl); (case hg => rfl); (case hr => first | (go_simp; done) | (go_simp; rfl)); intro gb272 hg w3 hbox hb; have n0_ := Aside0.mk (below_step (by repeat (first | (with_reducible first | exact HB.out | apply below_alloc | apply pw_below_drewN | apply below_drew1) | exact HB.out)) hb); have n1_ := Aside0.mk (hbox); have n2_ := Aside0.mk ((by rw [hg]; exact (below_size (by repeat (first | (with_reducible first | exact HB.out | apply below_alloc | apply pw_below_drewN | apply below_drew1) | exact HB.out))) : w.heap.size ≤ gb272)); have n3_ := Aside0.mk ((by rw [hg]; exact (below_size (by repeat (first | (with_reducible first | exact HB.out | apply below_alloc | apply pw_below_drewN | apply below_drew1) | exact HB.out))) : w.heap.size ≤ gb272)); clear HB; have HB := n0_; have BK272 := n1_; have GW272 := n2_; have GE272 := n3_; clear n0_ n1_ n2_ n3_; clear hb hbox hg)); go_upto_region 1 with (first | ((with_reducible refine gate_dst (N := 1) rfl ?_); refine box_event ?hg (N := 1) ?hd (cs := #[.slice A0_0 l0_0.length c0_0, .slice A0_1 l0_1.length c0_1]) (t := 26) ?hr ?_; (case hd => rfl); (case hg => rfl); (case hr => first | (go_simp; done) | (go_simp; rfl)); intro gb272 hg w3 hbox hb; have n0_ := Aside0.mk (below_step (by repeat (first | (with_reducible first | exact HB.out | apply below_alloc | apply pw_below_drewN | apply below_drew1) | exact HB.out)) hb); have n1_ := Aside0.mk (hbox); have n2_ := Aside0.mk ((by rw [hg]; exact (below_size (by repeat (first | (with_reducible first | exact HB.out | apply below_alloc | apply pw_below_drewN | apply below_drew1) | exact HB.out))) : w.heap.size ≤ gb272)); have n3_ := Aside0.mk ((by rw [hg]; exact (below_size (by repeat (first | (with_reducible first | exact HB.out | apply below_alloc | apply pw_below_drewN | apply below_drew1) | exact HB.out))) : w.heap.size ≤ gb272)); clear HB; have HB := n0_; have BK272 := n1_; have GW272 := n2_; have GE272 := n3_; clear n0_ n1_ n2_ n3_; clear hb hbox hg)))
 (try simp only [Act.put, List.setIfInBounds_toArray, List.set_cons_zero, List.set_cons_succ])
 go_cut [18] (fun v18 wc => ∃ (kq : Nat) (x18_1 : Bool), v18 = .bool x18_1 ∧ Aside0 (cobwebref11_Root.j0 kq x18_1 l0_0 l0_1 = some r) ∧ Aside0 (kq ≤ k) ∧ Aside0 (wc.heap[gb272]? = some (.cells #[(.slice A0_0 l0_0.length c0_0), (.slice A0_1 l0_1.length c0_1)] 26 (0, 0))) ∧ Aside0 (Below w.heap.size w wc))
 case first =>
  have H := HC2.out
  clear HC2
  by_cases c4 : (l0_1.length : Int) = (wrap64 ((l0_0.length : Int) + 1))
  ·rw [if_pos c4] at H
   have c4b0 : ((l0_1.length : Int) == (wrap64 ((l0_0.length : Int) + 1))) = true := beq_iff_eq.mpr c4
   have c4b1 : ((l0_1.length : Int) != (wrap64 ((l0_0.length : Int) + 1))) = false := bne_eq_false_iff_eq.mpr c4
   clear c4
   (first | rw [c4b0] | (simp only [i64_w, i32_w]; rw [c4b0]) | skip)
   replace H := Option.bind_eq_some_iff.mp H
   obtain ⟨t273, A50, H⟩ := H
   replace H : (cobwebref11_Root.j0 k (!t273) l0_0 l0_1) = some r := H
   have A5 := Aside0.mk A50
   clear A50
   have H' := Aside0.mk H
   clear H
   have hcz6_0 : w3.cell? ⟨gb272, 0, none⟩ = some (.slice A0_0 l0_0.length c0_0) := (blk_cell BK272.out 0).trans rfl
   have hcz6_1 : w3.cell? ⟨gb272, 1, none⟩ = some (.slice A0_1 l0_1.length c0_1) := (blk_cell BK272.out 1).trans rfl
   have hfz6_0 := blk_frozen BK272.out 0
   have hfz6_1 := blk_frozen BK272.out 1
   go_wp2_with (first | (go_at_call 16; (with_reducible refine (cobwebref11_Rise.calls k _ _ l0_0 t273 _ ?side1 ?side2 A5.out).mono ?_); (case side1 => repeat (first | exact (Kd.C_below HR0_0.out HB.out) | (with_reducible refine Kd.C_alloc ?_ _) | (with_reducible refine Kd.C_drewN ?_ _) | (with_reducible refine Kd.C_drew ?_))); (case side2 => exact HC0_0.out); rintro e w' ⟨rfl, ⟨nd, rfl⟩⟩; (try first | exact ⟨rfl, _, World.drewN_drewN _ _ _⟩ | exact ⟨rfl, _, Eq.trans (World.drewN_drewN _ _ _) (congrArg (World.drewN _) (Nat.add_assoc _ _ _))⟩)))
   repeat (go_quiet (first | (go_at_call 16; (with_reducible refine (cobwebref11_Rise.calls k _ _ l0_0 t273 _ ?side1 ?side2 A5.out).mono ?_); (case side1 => repeat (first | exact (Kd.C_below HR0_0.out HB.out) | (with_reducible refine Kd.C_alloc ?_ _) | (with_reducible refine Kd.C_drewN ?_ _) | (with_reducible refine Kd.C_drew ?_))); (case side2 => exact HC0_0.out); rintro e w' ⟨rfl, ⟨nd, rfl⟩⟩; (try first | exact ⟨rfl, _, World.drewN_drewN _ _ _⟩ | exact ⟨rfl, _, Eq.trans (World.drewN_drewN _ _ _) (congrArg (World.drewN _) (Nat.add_assoc _ _ _))⟩))); try go_wp2_with (first | (go_at_call 16; (with_reducible refine (cobwebref11_Rise.calls k _ _ l0_0 t273 _ ?side1 ?side2 A5.out).mono ?_); (case side1 => repeat (first | exact (Kd.C_below HR0_0.out HB.out) | (with_reducible refine Kd.C_alloc ?_ _) | (with_reducible refine Kd.C_drewN ?_ _) | (with_reducible refine Kd.C_drew ?_))); (case side2 => exact HC0_0.out); rintro e w' ⟨rfl, ⟨nd, rfl⟩⟩; (try first | exact ⟨rfl, _, World.drewN_drewN _ _ _⟩ | exact ⟨rfl, _, Eq.trans (World.drewN_drewN _ _ _) (congrArg (World.drewN _) (Nat.add_assoc _ _ _))⟩))))
   go_meet
   case rel => exact ⟨_, (!t273), (by first | rfl | (simp; done) | (simp [*]; done)), H', ⟨by first | omega | exact Nat.le_refl _⟩, ⟨by (with_reducible repeat (first | refine blk_drewN ?_ _ | refine blk_drew ?_ | refine blk_alloc ?_ _)); exact BK272.out⟩, ⟨by repeat (first | (with_reducible first | exact HB.out | apply below_alloc | apply pw_below_drewN | apply below_drew1 | refine below_set ?_ GE272.out) | exact HB.out)⟩⟩
  ·rw [if_neg c4] at H
   have c4b0 : ((l0_1.length : Int) == (wrap64 ((l0_0.length : Int) + 1))) = false := beq_eq_false_iff_ne.mpr c4
   have c4b1 : ((l0_1.length : Int) != (wrap64 ((l0_0.length : Int) + 1))) = true := bne_iff_ne.mpr c4
   (first | rw [c4b0] | (simp only [i64_w, i32_w]; rw [c4b0]) | skip)
   have H' := Aside0.mk H
   clear H
   have hcz7_0 : w3.cell? ⟨gb272, 0, none⟩ = some (.slice A0_0 l0_0.length c0_0) := (blk_cell BK272.out 0).trans rfl
   have hcz7_1 : w3.cell? ⟨gb272, 1, none⟩ = some (.slice A0_1 l0_1.length c0_1) := (blk_cell BK272.out 1).trans rfl
   have hfz7_0 := blk_frozen BK272.out 0
   have hfz7_1 := blk_frozen BK272.out 1
   go_wp2
   repeat (go_quiet (fail); try go_wp2)
   go_meet
   case rel => exact ⟨_, (true), (by first | rfl | (simp; done) | (simp [*]; done)), H', ⟨by first | omega | exact Nat.le_refl _⟩, ⟨by (with_reducible repeat (first | refine blk_drewN ?_ _ | refine blk_drew ?_ | refine blk_alloc ?_ _)); exact BK272.out⟩, ⟨by repeat (first | (with_reducible first | exact HB.out | apply below_alloc | apply pw_below_drewN | apply below_drew1 | refine below_set ?_ GE272.out) | exact HB.out)⟩⟩
 case rest =>
  clear HC2
  try clear p2
  try clear c4
  try clear c4b0
  try clear c4b1
  try clear p6
  try clear hcz6_0
  try clear hcz6_1
  try clear hcz7_0
  try clear hcz7_1
  try clear hfz6_0
  try clear hfz6_1
  try clear hfz7_0
  try clear hfz7_1
  obtain ⟨kq, x18_1, rfl, HA, HJ1, BK272, HB⟩ := hcut
  cases kq with
  | zero => exact absurd HA.out (by simp [cobwebref11_Root.j0])
  | succ kj1 =>
   have H := HA.out
   clear HA
   simp only [cobwebref11_Root.j0] at H
   by_cases c8 : x18_1 = true
   ·subst c8
    have H1 : (some false) = some r := by rw [if_pos rfl] at H; exact H
    clear H
    have H := H1
    clear H1
    obtain rfl := Option.some.inj H
    go_wp2
    repeat (go_quiet (fail); try go_wp2)
    go_ret
    exact ⟨by first | rfl | (simp [errW_none, errW_some] <;> rfl) | (simp [*, errW_none, errW_some] <;> rfl), by repeat (first | (with_reducible first | exact HB.out | apply below_alloc | apply pw_below_drewN | apply below_drew1 | refine below_set ?_ GE272.out) | exact HB.out)⟩
   ·replace c8 := Bool.eq_false_iff.mpr c8
    subst c8
    have H1 : (cobwebref11_Root.l0 kj1 0 l0_0 l0_1) = some r := by rw [if_neg (show ¬ (false = true) by decide)] at H; exact H
    clear H
    have H := H1
    clear H1
    have H' := Aside0.mk H
    clear H
    go_wp2
    repeat (go_quiet (fail); try go_wp2)
    go_loopg [3] kj1 (fun kq v3 w' => ∃ (x3_2 : Int), v3 = .int .i64 x3_2 ∧ Aside0 (cobwebref11_Root.l0 kq x3_2 l0_0 l0_1 = some r) ∧ Aside0 (kq ≤ kj1) ∧ Aside0 (w'.heap[gb272]? = some (.cells #[(.slice A0_0 l0_0.length c0_0), (.slice A0_1 l0_1.length c0_1)] 26 (0, 0))) ∧ Aside0 (Below w.heap.size w w'))
    case atStart => exact ⟨(0), (by first | rfl | (simp; done) | (simp [*]; done)), H', ⟨Nat.le_refl _⟩, ⟨by (with_reducible repeat (first | refine blk_drewN ?_ _ | refine blk_drew ?_ | refine blk_alloc ?_ _)); exact BK272.out⟩, ⟨by repeat (first | (with_reducible first | exact HB.out | apply below_alloc | apply pw_below_drewN | apply below_drew1 | refine below_set ?_ GE272.out) | exact HB.out)⟩⟩
    case round =>
     clear H'
     try clear p2
     try clear c4
     try clear c4b0
     try clear c4b1
     try clear p6
     try clear c8
     try clear hcz6_0
     try clear hcz6_1
     try clear hcz7_0
     try clear hcz7_1
     try clear hfz6_0
     try clear hfz6_1
     try clear hfz7_0
     try clear hfz7_1
     try clear p2
     try clear p6
     obtain ⟨x3_2, rfl, HA, HK2, BK272, HB⟩ := hrel
     cases gk with
     | zero => exact absurd HA.out (by simp [cobwebref11_Root.l0])
     | succ k2 =>
      have H := HA.out
      clear HA
      simp only [cobwebref11_Root.l0] at H
      by_cases c9 : x3_2 < (l0_1.length : Int)
      ·rw [if_pos c9] at H
       have c9b0 : decide (x3_2 < (l0_1.length : Int)) = true := decide_eq_true c9
       clear c9
       by_cases c10 : 0 ≤ x3_2
       ·rw [if_pos c10] at H
        have c10b0 : decide (0 ≤ x3_2) = true := decide_eq_true c10
        clear c10
        by_cases c11 : (rd l0_1 x3_2) < 1
        ·rw [if_pos c11] at H
         have c11b0 : decide ((rd l0_1 x3_2) < 1) = true := decide_eq_true c11
         clear c11
         obtain rfl := Option.some.inj H
         have hcz12_0 : wr.cell? ⟨gb272, 0, none⟩ = some (.slice A0_0 l0_0.length c0_0) := (blk_cell BK272.out 0).trans rfl
         have hcz12_1 : wr.cell? ⟨gb272, 1, none⟩ = some (.slice A0_1 l0_1.length c0_1) := (blk_cell BK272.out 1).trans rfl
         have hfz12_0 := blk_frozen BK272.out 0
         have hfz12_1 := blk_frozen BK272.out 1
         have p274 : 0 ≤ (x3_2 : Int) := of_decide_eq_true (by first | (with_reducible assumption) | assumption)
         have q274 : x3_2 < (l0_1.length : Int) := of_decide_eq_true (by first | (with_reducible assumption) | assumption)
         obtain ⟨ad274, e274, hx274_0⟩ := Kd.at_int HR0_1.out x3_2 p274 q274
         cases e274
         replace hx274_0 := (HB.out.cell (World.block_lt_of_cell? w _ hx274_0)).trans hx274_0
         replace p274 := eq_true p274
         replace q274 := eq_true q274
         go_wp2
         repeat (go_quiet (fail); try go_wp2)
         go_ret
         exact ⟨by first | rfl | (simp [errW_none, errW_some] <;> rfl) | (simp [*, errW_none, errW_some] <;> rfl), by repeat (first | (with_reducible first | exact HB.out | apply below_alloc | apply pw_below_drewN | apply below_drew1 | refine below_set ?_ GE272.out) | exact HB.out)⟩
        ·rw [if_neg c11] at H
         have c11b0 : decide ((rd l0_1 x3_2) < 1) = false := decide_eq_false c11
         clear c11
         have H' := Aside0.mk H
         clear H
         have hcz13_0 : wr.cell? ⟨gb272, 0, none⟩ = some (.slice A0_0 l0_0.length c0_0) := (blk_cell BK272.out 0).trans rfl
         have hcz13_1 : wr.cell? ⟨gb272, 1, none⟩ = some (.slice A0_1 l0_1.length c0_1) := (blk_cell BK272.out 1).trans rfl
         have hfz13_0 := blk_frozen BK272.out 0
         have hfz13_1 := blk_frozen BK272.out 1
         have p274 : 0 ≤ (x3_2 : Int) := of_decide_eq_true (by first | (with_reducible assumption) | assumption)
         have q274 : x3_2 < (l0_1.length : Int) := of_decide_eq_true (by first | (with_reducible assumption) | assumption)
         obtain ⟨ad274, e274, hx274_0⟩ := Kd.at_int HR0_1.out x3_2 p274 q274
         cases e274
         replace hx274_0 := (HB.out.cell (World.block_lt_of_cell? w _ hx274_0)).trans hx274_0
         replace p274 := eq_true p274
         replace q274 := eq_true q274
         go_wp2
         repeat (go_quiet (fail); try go_wp2)
         go_loopg [4] k2 (fun kq v4 w' => ∃ (x4_3 : Int), v4 = .int .i64 x4_3 ∧ Aside0 (cobwebref11_Root.l1 kq x3_2 x4_3 l0_0 l0_1 = some r) ∧ Aside0 (kq ≤ k2) ∧ Aside0 (w'.heap[gb272]? = some (.cells #[(.slice A0_0 l0_0.length c0_0), (.slice (some ad274) l0_1.length c0_1)] 26 (0, 0))) ∧ Aside0 (Below w.heap.size w w'))
         case atStart => exact ⟨(0), (by first | rfl | (simp; done) | (simp [*]; done)), H', ⟨Nat.le_refl _⟩, ⟨by (with_reducible repeat (first | refine blk_drewN ?_ _ | refine blk_drew ?_ | refine blk_alloc ?_ _)); exact BK272.out⟩, ⟨by repeat (first | (with_reducible first | exact HB.out | apply below_alloc | apply pw_below_drewN | apply below_drew1 | refine below_set ?_ GE272.out) | exact HB.out)⟩⟩
         case round =>
          clear H'
          try clear c1
          try clear p2
          try clear q2
          try clear hx2
          try clear c4
          try clear c4b0
          try clear c4b1
          try clear p6
          try clear c8
          try clear c9
          try clear c9b0
          try clear c10
          try clear c10b0
          try clear c11
          try clear c11b0
          try clear hcz12_0
          try clear hcz12_1
          try clear hcz13_0
          try clear hcz13_1
          try clear hcz6_0
          try clear hcz6_1
          try clear hcz7_0
          try clear hcz7_1
          try clear hfz12_0
          try clear hfz12_1
          try clear hfz13_0
          try clear hfz13_1
          try clear hfz6_0
          try clear hfz6_1
          try clear hfz7_0
          try clear hfz7_1
          try clear hx274_0
          try clear p2
          try clear p274
          try clear p6
          try clear q274
          obtain ⟨x4_3, rfl, HA, HK3, BK272, HB⟩ := hrel
          cases gk with
          | zero => exact absurd HA.out (by simp [cobwebref11_Root.l1])
          | succ k3 =>
           have H := HA.out
           clear HA
           simp only [cobwebref11_Root.l1] at H
           by_cases c14 : x4_3 < x3_2
           ·rw [if_pos c14] at H
            have c14b0 : decide (x4_3 < x3_2) = true := decide_eq_true c14
            clear c14
            by_cases c15 : 0 ≤ x4_3
            ·rw [if_pos c15] at H
             have c15b0 : decide (0 ≤ x4_3) = true := decide_eq_true c15
             clear c15
             by_cases c16 : x4_3 < (l0_1.length : Int)
             ·rw [if_pos c16] at H
              have c16b0 : decide (x4_3 < (l0_1.length : Int)) = true := decide_eq_true c16
              clear c16
              by_cases c17 : 0 ≤ x3_2
              ·rw [if_pos c17] at H
               have c17b0 : decide (0 ≤ x3_2) = true := decide_eq_true c17
               clear c17
               by_cases c18 : x3_2 < (l0_1.length : Int)
               ·rw [if_pos c18] at H
                have c18b0 : decide (x3_2 < (l0_1.length : Int)) = true := decide_eq_true c18
                clear c18
                by_cases c19 : (rd l0_1 x4_3) = (rd l0_1 x3_2)
                ·rw [if_pos c19] at H
                 have c19b0 : ((rd l0_1 x4_3) == (rd l0_1 x3_2)) = true := beq_iff_eq.mpr c19
                 have c19b1 : ((rd l0_1 x4_3) != (rd l0_1 x3_2)) = false := bne_eq_false_iff_eq.mpr c19
                 clear c19
                 obtain rfl := Option.some.inj H
                 have hcz20_0 : wr.cell? ⟨gb272, 0, none⟩ = some (.slice A0_0 l0_0.length c0_0) := (blk_cell BK272.out 0).trans rfl
                 have hcz20_1 : wr.cell? ⟨gb272, 1, none⟩ = some (.slice (some ad274) l0_1.length c0_1) := (blk_cell BK272.out 1).trans rfl
                 have hfz20_0 := blk_frozen BK272.out 0
                 have hfz20_1 := blk_frozen BK272.out 1
                 have p275 : 0 ≤ (x4_3 : Int) := of_decide_eq_true (by first | (with_reducible assumption) | assumption)
                 have q275 : x4_3 < (l0_1.length : Int) := of_decide_eq_true (by first | (with_reducible assumption) | assumption)
                 obtain ⟨ad275, e275, hx275_0⟩ := Kd.at_int HR0_1.out x4_3 p275 q275
                 obtain rfl : ad274 = ad275 := (by injection e275)
                 replace hx275_0 := (HB.out.cell (World.block_lt_of_cell? w _ hx275_0)).trans hx275_0
                 replace p275 := eq_true p275
                 replace q275 := eq_true q275
                 have p276 : 0 ≤ (x3_2 : Int) := of_decide_eq_true (by first | (with_reducible assumption) | assumption)
                 have q276 : x3_2 < (l0_1.length : Int) := of_decide_eq_true (by first | (with_reducible assumption) | assumption)
                 obtain ⟨ad276, e276, hx276_0⟩ := Kd.at_int HR0_1.out x3_2 p276 q276
                 obtain rfl : ad274 = ad276 := (by injection e276)
                 replace hx276_0 := (HB.out.cell (World.block_lt_of_cell? w _ hx276_0)).trans hx276_0
                 replace p276 := eq_true p276
                 replace q276 := eq_true q276
                 go_wp2
                 repeat (go_quiet (fail); try go_wp2)
                 go_ret
                 exact ⟨by first | rfl | (simp [errW_none, errW_some] <;> rfl) | (simp [*, errW_none, errW_some] <;> rfl), by repeat (first | (with_reducible first | exact HB.out | apply below_alloc | apply pw_below_drewN | apply below_drew1 | refine below_set ?_ GE272.out) | exact HB.out)⟩
                ·rw [if_neg c19] at H
                 have c19b0 : ((rd l0_1 x4_3) == (rd l0_1 x3_2)) = false := beq_eq_false_iff_ne.mpr c19
                 have c19b1 : ((rd l0_1 x4_3) != (rd l0_1 x3_2)) = true := bne_iff_ne.mpr c19
                 have H' := Aside0.mk H
                 clear H
                 have hcz21_0 : wr.cell? ⟨gb272, 0, none⟩ = some (.slice A0_0 l0_0.length c0_0) := (blk_cell BK272.out 0).trans rfl
                 have hcz21_1 : wr.cell? ⟨gb272, 1, none⟩ = some (.slice (some ad274) l0_1.length c0_1) := (blk_cell BK272.out 1).trans rfl
                 have hfz21_0 := blk_frozen BK272.out 0
                 have hfz21_1 := blk_frozen BK272.out 1
                 have p275 : 0 ≤ (x4_3 : Int) := of_decide_eq_true (by first | (with_reducible assumption) | assumption)
                 have q275 : x4_3 < (l0_1.length : Int) := of_decide_eq_true (by first | (with_reducible assumption) | assumption)
                 obtain ⟨ad275, e275, hx275_0⟩ := Kd.at_int HR0_1.out x4_3 p275 q275
                 obtain rfl : ad274 = ad275 := (by injection e275)
                 replace hx275_0 := (HB.out.cell (World.block_lt_of_cell? w _ hx275_0)).trans hx275_0
                 replace p275 := eq_true p275
                 replace q275 := eq_true q275
                 have p276 : 0 ≤ (x3_2 : Int) := of_decide_eq_true (by first | (with_reducible assumption) | assumption)
                 have q276 : x3_2 < (l0_1.length : Int) := of_decide_eq_true (by first | (with_reducible assumption) | assumption)
                 obtain ⟨ad276, e276, hx276_0⟩ := Kd.at_int HR0_1.out x3_2 p276 q276
                 obtain rfl : ad274 = ad276 := (by injection e276)
                 replace hx276_0 := (HB.out.cell (World.block_lt_of_cell? w _ hx276_0)).trans hx276_0
                 replace p276 := eq_true p276
                 replace q276 := eq_true q276
                 go_wp2
                 repeat (go_quiet (fail); try go_wp2)
                 go_roundg k3
                 case measure => have := HJ1.out; have := HK2.out; have := HK3.out; omega
                 case rel => exact ⟨(wrap64 (x4_3 + 1)), (by first | rfl | (simp; done) | (simp [*]; done)), H', ⟨by have := HJ1.out; have := HK2.out; have := HK3.out; omega⟩, ⟨by (with_reducible repeat (first | refine blk_drewN ?_ _ | refine blk_drew ?_ | refine blk_alloc ?_ _)); exact BK272.out⟩, ⟨by repeat (first | (with_reducible first | exact HB.out | apply below_alloc | apply pw_below_drewN | apply below_drew1 | refine below_set ?_ GE272.out) | exact HB.out)⟩⟩
               ·rw [if_neg c18] at H
                exact absurd H (by simp)
              ·rw [if_neg c17] at H
               exact absurd H (by simp)
             ·rw [if_neg c16] at H
              exact absurd H (by simp)
            ·rw [if_neg c15] at H
             exact absurd H (by simp)
           ·rw [if_neg c14] at H
            have c14b0 : decide (x4_3 < x3_2) = false := decide_eq_false c14
            clear c14
            have H' := Aside0.mk H
            clear H
            go_wp2
            repeat (go_quiet (fail); try go_wp2)
            go_roundg k3
            case measure => have := HJ1.out; have := HK2.out; have := HK3.out; omega
            case rel => exact ⟨(wrap64 (x3_2 + 1)), (by first | rfl | (simp; done) | (simp [*]; done)), H', ⟨by have := HJ1.out; have := HK2.out; have := HK3.out; omega⟩, ⟨by (with_reducible repeat (first | refine blk_drewN ?_ _ | refine blk_drew ?_ | refine blk_alloc ?_ _)); exact BK272.out⟩, ⟨by repeat (first | (with_reducible first | exact HB.out | apply below_alloc | apply pw_below_drewN | apply below_drew1 | refine below_set ?_ GE272.out) | exact HB.out)⟩⟩
       ·rw [if_neg c10] at H
        exact absurd H (by simp)
      ·rw [if_neg c9] at H
       have c9b0 : decide (x3_2 < (l0_1.length : Int)) = false := decide_eq_false c9
       clear c9
       obtain rfl := Option.some.inj H
       have hcz22_0 : wr.cell? ⟨gb272, 0, none⟩ = some (.slice A0_0 l0_0.length c0_0) := (blk_cell BK272.out 0).trans rfl
       have hcz22_1 : wr.cell? ⟨gb272, 1, none⟩ = some (.slice A0_1 l0_1.length c0_1) := (blk_cell BK272.out 1).trans rfl
       have hfz22_0 := blk_frozen BK272.out 0
       have hfz22_1 := blk_frozen BK272.out 1
       go_wp2
       repeat (go_quiet (fail); try go_wp2)
       go_ret
       exact ⟨by first | rfl | (simp [errW_none, errW_some] <;> rfl) | (simp [*, errW_none, errW_some] <;> rfl), by repeat (first | (with_reducible first | exact HB.out | apply below_alloc | apply pw_below_drewN | apply below_drew1 | refine below_set ?_ GE272.out) | exact HB.out)⟩
end Go.Proofs.Ytneagipmllgejaa.PL
end
section
namespace Go.Proofs.Ytneagipmllgejaa.PL
open Go.RowKit Go.Proofs.YtneagipmllgejaaW.PrintWords Go.Proofs.YtneagipmllgejaaW.PrintLast Go.Proofs.YtneagipmllgejaaW.PrintMore
attribute [local go_sem] max2_int min2_int max_two min_two max_three min_three max_four min_four   -- for this text's walks alone
set_option linter.unusedVariables false
set_option linter.unusedSimpArgs false
mutual
def cobwebref11_Range.j0 : Nat → ByteArray → ByteArray → List Int → Bool → List ByteArray → List Int → Option (List Int)
 | 0, _, _, _, _, _, _ => none
 | k + 1, x1, x2, x7, x19, x418000, x418001 => if x19 = true then (some ([] : List Int)) else (cobwebref11_Range.l0 k x1 x2 x7 0 x418000 x418001)
def cobwebref11_Range.l0 : Nat → ByteArray → ByteArray → List Int → Int → List ByteArray → List Int → Option (List Int)
 | 0, _, _, _, _, _, _ => none
 | k + 1, x1, x2, x7, x8, x418000, x418001 => if x8 < (x418001.length : Int) then (if x8 = 0 then (if x8 = (wrap64 ((x418001.length : Int) - 1)) then (if 0 ≤ x8 then (if x7.length < 17592186044416 then (cobwebref11_Range.l0 k x1 x2 (x7 ++ [rd x418001 x8]) (wrap64 (x8 + 1)) x418000 x418001) else (none)) else (none)) else (if 0 ≤ x8 then (if x8 < (x418000.length : Int) then ((cobwebref02_Order.f k x1 (rdOf ByteArray.empty x418000 x8)).bind fun t425 => (if t425 < 0 then (if x7.length < 17592186044416 then (cobwebref11_Range.l0 k x1 x2 (x7 ++ [rd x418001 x8]) (wrap64 (x8 + 1)) x418000 x418001) else (none)) else (cobwebref11_Range.l0 k x1 x2 x7 (wrap64 (x8 + 1)) x418000 x418001))) else (none)) else (none))) else (if 0 ≤ (wrap64 (x8 - 1)) then (if (wrap64 (x8 - 1)) < (x418000.length : Int) then ((cobwebref02_Order.f k (rdOf ByteArray.empty x418000 (wrap64 (x8 - 1))) x2).bind fun t431 => (if x8 = (wrap64 ((x418001.length : Int) - 1)) then (if t431 < 0 then (if 0 ≤ x8 then (if x7.length < 17592186044416 then (cobwebref11_Range.l0 k x1 x2 (x7 ++ [rd x418001 x8]) (wrap64 (x8 + 1)) x418000 x418001) else (none)) else (none)) else (cobwebref11_Range.l0 k x1 x2 x7 (wrap64 (x8 + 1)) x418000 x418001)) else (if 0 ≤ x8 then (if x8 < (x418000.length : Int) then ((cobwebref02_Order.f k x1 (rdOf ByteArray.empty x418000 x8)).bind fun t437 => (if t431 < 0 then (if t437 < 0 then (if x7.length < 17592186044416 then (cobwebref11_Range.l0 k x1 x2 (x7 ++ [rd x418001 x8]) (wrap64 (x8 + 1)) x418000 x418001) else (none)) else (cobwebref11_Range.l0 k x1 x2 x7 (wrap64 (x8 + 1)) x418000 x418001)) else (cobwebref11_Range.l0 k x1 x2 x7 (wrap64 (x8 + 1)) x418000 x418001))) else (none)) else (none)))) else (none)) else (none))) else (some x7)
end
def cobwebref11_Range.f (k : Nat) (l0_0 : List ByteArray) (l0_1 : List Int) (a1 : ByteArray) (a2 : ByteArray) : Option (List Int) := (cobwebref11_Root.f k l0_0 l0_1).bind fun t418 => (if t418 = true then ((cobwebref02_Order.f k a1 a2).bind fun t419 => (cobwebref11_Range.j0 k a1 a2 ([] : List Int) (decide (t419 ≥ 0)) l0_0 l0_1)) else (cobwebref11_Range.j0 k a1 a2 ([] : List Int) true l0_0 l0_1))
theorem cobwebref11_Range.mono_l : ∀ k, (∀ y0 y1 y2 y3 y4 y5, LeO (cobwebref11_Range.j0 k y0 y1 y2 y3 y4 y5) (cobwebref11_Range.j0 (k + 1) y0 y1 y2 y3 y4 y5)) ∧ (∀ y0 y1 y2 y3 y4 y5, LeO (cobwebref11_Range.l0 k y0 y1 y2 y3 y4 y5) (cobwebref11_Range.l0 (k + 1) y0 y1 y2 y3 y4 y5))
 | 0 => ⟨fun _ _ _ _ _ _ r h => by simp [cobwebref11_Range.j0] at h, fun _ _ _ _ _ _ r h => by simp [cobwebref11_Range.l0] at h⟩
 | k + 1 => by
  obtain ⟨ih0, ih1⟩ := cobwebref11_Range.mono_l k
  refine ⟨?_, ?_⟩
  ·intro y0 y1 y2 y3 y4 y5
   unfold cobwebref11_Range.j0
   repeat' first
   | (with_reducible exact ih0 _ _ _ _ _ _)
   | (with_reducible exact ih1 _ _ _ _ _ _)
   | (with_reducible exact cobwebref02_Order.mono _ _ _)
   | (with_reducible exact cobwebref11_Root.mono _ _ _)
   | (with_reducible exact LeO.refl _)
   | (with_reducible exact LeO.none _)
   | (with_reducible refine LeO.ite ?_ ?_)
   | (with_reducible refine LeO.bind ?_ (fun _ => ?_))
   | exact ih0 _ _ _ _ _ _
   | exact ih1 _ _ _ _ _ _
   | exact cobwebref02_Order.mono _ _ _
   | exact cobwebref11_Root.mono _ _ _
   | exact LeO.none _
   | refine LeO.ite ?_ ?_
   | refine LeO.bind ?_ (fun _ => ?_)
  ·intro y0 y1 y2 y3 y4 y5
   unfold cobwebref11_Range.l0
   repeat' first
   | (with_reducible exact ih0 _ _ _ _ _ _)
   | (with_reducible exact ih1 _ _ _ _ _ _)
   | (with_reducible exact cobwebref02_Order.mono _ _ _)
   | (with_reducible exact cobwebref11_Root.mono _ _ _)
   | (with_reducible exact LeO.refl _)
   | (with_reducible exact LeO.none _)
   | (with_reducible refine LeO.ite ?_ ?_)
   | (with_reducible refine LeO.bind ?_ (fun _ => ?_))
   | exact ih0 _ _ _ _ _ _
   | exact ih1 _ _ _ _ _ _
   | exact cobwebref02_Order.mono _ _ _
   | exact cobwebref11_Root.mono _ _ _
   | exact LeO.none _
   | refine LeO.ite ?_ ?_
   | refine LeO.bind ?_ (fun _ => ?_)
theorem cobwebref11_Range.mono : ∀ a0 a1 a2 a3 k, LeO (cobwebref11_Range.f k a0 a1 a2 a3) (cobwebref11_Range.f (k + 1) a0 a1 a2 a3) := by
 intro a0 a1 a2 a3 k
 obtain ⟨ih0, ih1⟩ := cobwebref11_Range.mono_l k
 unfold cobwebref11_Range.f
 repeat' first
   | (with_reducible exact ih0 _ _ _ _ _ _)
   | (with_reducible exact ih1 _ _ _ _ _ _)
   | (with_reducible exact cobwebref02_Order.mono _ _ _)
   | (with_reducible exact cobwebref11_Root.mono _ _ _)
   | (with_reducible exact LeO.refl _)
   | (with_reducible exact LeO.none _)
   | (with_reducible refine LeO.ite ?_ ?_)
   | (with_reducible refine LeO.bind ?_ (fun _ => ?_))
   | exact ih0 _ _ _ _ _ _
   | exact ih1 _ _ _ _ _ _
   | exact cobwebref02_Order.mono _ _ _
   | exact cobwebref11_Root.mono _ _ _
   | exact LeO.none _
   | refine LeO.ite ?_ ?_
   | refine LeO.bind ?_ (fun _ => ?_)
set_option maxHeartbeats 8000000 in
set_option maxRecDepth 100000 in
theorem cobwebref11_Range.calls (k : Nat) (A0_0 : Option Addr) (c0_0 : Nat) (l0_0 : List ByteArray) (A0_1 : Option Addr) (c0_1 : Nat) (l0_1 : List Int) (a1 : ByteArray) (a2 : ByteArray) (r : List Int) (w : World) (hr0_0 : Kd.C Kd.string w A0_0 l0_0.length l0_0) (hc0_0 : l0_0.length ≤ c0_0) (hr0_1 : Kd.C (Kd.int .i64) w A0_1 l0_1.length l0_1) (hc0_1 : l0_1.length ≤ c0_1) (h : cobwebref11_Range.f k l0_0 l0_1 a1 a2 = some r) :
  Calls Try.prog 23 #[.agg #[.slice A0_0 l0_0.length c0_0, .slice A0_1 l0_1.length c0_1], .string a1, .string a2] w fun e w' => ∃ v0_ : Value, e = .returned (v0_) ∧ Kd.R (Kd.int .i64) 3 w' w.heap.size (fun _ => True) v0_ r ∧ Below w.heap.size w w' := by
 have hu26 := Try.underlying26
 have HR0_0 := Aside0.mk hr0_0
 have HC0_0 := Aside0.mk hc0_0
 clear hr0_0 hc0_0
 have HR0_1 := Aside0.mk hr0_1
 have HC0_1 := Aside0.mk hc0_1
 clear hr0_1 hc0_1
 have HB := Aside0.mk (Below.refl w.heap.size w)
 have H : ((cobwebref11_Root.f k l0_0 l0_1).bind fun t418 => (if t418 = true then ((cobwebref02_Order.f k a1 a2).bind fun t419 => (cobwebref11_Range.j0 k a1 a2 ([] : List Int) (decide (t419 ≥ 0)) l0_0 l0_1)) else (cobwebref11_Range.j0 k a1 a2 ([] : List Int) true l0_0 l0_1))) = some r := h
 clear h
 have HC4 := Aside0.mk H
 clear H
 go_enter Try.func23, Try.ntmps23
 go_upto_region 2 with (first | ((with_reducible refine gate_dst (N := 3) rfl ?_); refine box_event ?hg (N := 3) ?hd (cs := #[.slice A0_0 l0_0.length c0_0, .slice A0_1 l0_1.length c0_1]) (t := 26) ?hr ?_; (case hd => rfl); (case hg => rfl); (case hr => first | (go_simp; done) | (go_simp; rfl)); intro gb417 hg w5 hbox hb; have n0_ := Aside0.mk (below_step (by repeat (first | (with_reducible first | exact HB.out | apply below_alloc | apply pw_below_drewN | apply below_drew1) | exact HB.out)) hb); have n1_ := Aside0.mk (hbox); have n2_ := Aside0.mk ((by rw [hg]; exact (below_size (by repeat (first | (with_reducible first | exact HB.out | apply below_alloc | apply pw_below_drewN | apply below_drew1) | exact HB.out))) : w.heap.size ≤ gb417)); have n3_ := Aside0.mk ((by rw [hg]; exact (below_size (by repeat (first | (with_reducible first | exact HB.out | apply below_alloc | apply pw_below_drewN | apply below_drew1) | exact HB.out))) : w.heap.size ≤ gb417)); clear HB; have HB := n0_; have BK417 := n1_; have GW417 := n2_; have GE417 := n3_; clear n0_ n1_ n2_ n3_; clear hb hbox hg))
 (try simp only [Act.put, List.setIfInBounds_toArray, List.set_cons_zero, List.set_cons_succ])
 go_cut [19] (fun v19 wc => ∃ (kq : Nat) (x19_3 : Bool), v19 = .bool x19_3 ∧ Aside0 (cobwebref11_Range.j0 kq a1 a2 ([] : List Int) x19_3 l0_0 l0_1 = some r) ∧ Aside0 (kq ≤ k) ∧ Aside0 (Kd.R (Kd.int .i64) 3 wc w.heap.size (fun _ => True) (.slice none 0 0) ([] : List Int)) ∧ Aside0 (wc.heap[gb417]? = some (.cells #[(.slice A0_0 l0_0.length c0_0), (.slice A0_1 l0_1.length c0_1)] 26 (0, 0))) ∧ Aside0 (Below w.heap.size w wc))
 case first =>
  have H := HC4.out
  clear HC4
  replace H := Option.bind_eq_some_iff.mp H
  obtain ⟨t418, A60, H⟩ := H
  replace H : (if t418 = true then ((cobwebref02_Order.f k a1 a2).bind fun t419 => (cobwebref11_Range.j0 k a1 a2 ([] : List Int) (decide (t419 ≥ 0)) l0_0 l0_1)) else (cobwebref11_Range.j0 k a1 a2 ([] : List Int) true l0_0 l0_1)) = some r := H
  have A6 := Aside0.mk A60
  clear A60
  by_cases c7 : t418 = true
  ·subst c7
   have H1 : ((cobwebref02_Order.f k a1 a2).bind fun t419 => (cobwebref11_Range.j0 k a1 a2 ([] : List Int) (decide (t419 ≥ 0)) l0_0 l0_1)) = some r := by rw [if_pos rfl] at H; exact H
   clear H
   have H := H1
   clear H1
   replace H := Option.bind_eq_some_iff.mp H
   obtain ⟨t419, A80, H⟩ := H
   replace H : (cobwebref11_Range.j0 k a1 a2 ([] : List Int) (decide (t419 ≥ 0)) l0_0 l0_1) = some r := H
   have A8 := Aside0.mk A80
   clear A80
   have H' := Aside0.mk H
   clear H
   have hcz9_0 : w5.cell? ⟨gb417, 0, none⟩ = some (.slice A0_0 l0_0.length c0_0) := (blk_cell BK417.out 0).trans rfl
   have hcz9_1 : w5.cell? ⟨gb417, 1, none⟩ = some (.slice A0_1 l0_1.length c0_1) := (blk_cell BK417.out 1).trans rfl
   have hfz9_0 := blk_frozen BK417.out 0
   have hfz9_1 := blk_frozen BK417.out 1
   go_wp2_with (first | ((with_reducible refine gate_callee (f := 47) rfl ?_); refine goesL_ (some 12) rfl rfl Try.func47 (by kernel_rfl) rfl #[.agg #[.slice A0_0 l0_0.length c0_0, .slice A0_1 l0_1.length c0_1]] rfl (by (try simp only [List.map_toArray, List.map_cons, List.map_nil]); first | done | rfl | (simp only [List.length_drop, List.length_take]; rfl)) ?_; (with_reducible refine (cobwebref11_Root.calls k _ _ l0_0 _ _ l0_1 true _ ?side1 ?side2 ?side3 ?side4 A6.out).mono ?_); (case side1 => repeat (first | exact (Kd.C_below HR0_0.out HB.out) | (with_reducible refine Kd.C_alloc ?_ _) | (with_reducible refine Kd.C_drewN ?_ _) | (with_reducible refine Kd.C_drew ?_))); (case side2 => exact HC0_0.out); (case side3 => repeat (first | exact (Kd.C_below HR0_1.out HB.out) | (with_reducible refine Kd.C_alloc ?_ _) | (with_reducible refine Kd.C_drewN ?_ _) | (with_reducible refine Kd.C_drew ?_))); (case side4 => exact HC0_1.out); rintro e w10 ⟨rfl, hb⟩; refine ⟨_, rfl, ?_⟩; have n0_ := Aside0.mk (blk_below (g := gb417) (o := .cells #[.slice A0_0 l0_0.length c0_0, .slice A0_1 l0_1.length c0_1] 26 (0, 0)) (by (with_reducible repeat (first | refine blk_drewN ?_ _ | refine blk_drew ?_ | refine blk_alloc ?_ _)); exact BK417.out) hb); have n1_ := Aside0.mk (below_step (by repeat (first | (with_reducible first | exact HB.out | apply below_alloc | apply pw_below_drewN | apply below_drew1 | refine below_set ?_ GE417.out) | exact HB.out)) hb); clear BK417; clear HB; have BK417 := n0_; have HB := n1_; clear n0_ n1_; (try clear hb); (try clear hb2); (try clear hk); (try clear hi)) | (go_at_call 14; (with_reducible refine (cobwebref02_Order.calls k a1 a2 t419 _ A8.out).mono ?_); rintro e w' ⟨rfl, ⟨nd, rfl⟩⟩))
   go_meet
   case rel => exact ⟨_, (decide (t419 ≥ 0)), (by first | rfl | (simp; done) | (simp [*]; done)), H', ⟨by first | omega | exact Nat.le_refl _⟩, ⟨by first | exact Kd.R_nil _ _ _ _ _ | exact Kd.N_nil _ _ _ _ _ | exact Kd.V_nil _ _ _ _ _ | exact Kd.Q_nil _ _ _ _ _ | exact Kd.S_nil _ _ _ _ _⟩, ⟨by (with_reducible repeat (first | refine blk_drewN ?_ _ | refine blk_drew ?_ | refine blk_alloc ?_ _)); exact BK417.out⟩, ⟨by repeat (first | (with_reducible first | exact HB.out | apply below_alloc | apply pw_below_drewN | apply below_drew1 | refine below_set ?_ GE417.out) | exact HB.out)⟩⟩
  ·replace c7 := Bool.eq_false_iff.mpr c7
   subst c7
   have H1 : (cobwebref11_Range.j0 k a1 a2 ([] : List Int) true l0_0 l0_1) = some r := by rw [if_neg (show ¬ (false = true) by decide)] at H; exact H
   clear H
   have H := H1
   clear H1
   have H' := Aside0.mk H
   clear H
   have hcz11_0 : w5.cell? ⟨gb417, 0, none⟩ = some (.slice A0_0 l0_0.length c0_0) := (blk_cell BK417.out 0).trans rfl
   have hcz11_1 : w5.cell? ⟨gb417, 1, none⟩ = some (.slice A0_1 l0_1.length c0_1) := (blk_cell BK417.out 1).trans rfl
   have hfz11_0 := blk_frozen BK417.out 0
   have hfz11_1 := blk_frozen BK417.out 1
   go_wp2_with (first | ((with_reducible refine gate_callee (f := 47) rfl ?_); refine goesL_ (some 12) rfl rfl Try.func47 (by kernel_rfl) rfl #[.agg #[.slice A0_0 l0_0.length c0_0, .slice A0_1 l0_1.length c0_1]] rfl (by (try simp only [List.map_toArray, List.map_cons, List.map_nil]); first | done | rfl | (simp only [List.length_drop, List.length_take]; rfl)) ?_; (with_reducible refine (cobwebref11_Root.calls k _ _ l0_0 _ _ l0_1 false _ ?side1 ?side2 ?side3 ?side4 A6.out).mono ?_); (case side1 => repeat (first | exact (Kd.C_below HR0_0.out HB.out) | (with_reducible refine Kd.C_alloc ?_ _) | (with_reducible refine Kd.C_drewN ?_ _) | (with_reducible refine Kd.C_drew ?_))); (case side2 => exact HC0_0.out); (case side3 => repeat (first | exact (Kd.C_below HR0_1.out HB.out) | (with_reducible refine Kd.C_alloc ?_ _) | (with_reducible refine Kd.C_drewN ?_ _) | (with_reducible refine Kd.C_drew ?_))); (case side4 => exact HC0_1.out); rintro e w12 ⟨rfl, hb⟩; refine ⟨_, rfl, ?_⟩; have n0_ := Aside0.mk (blk_below (g := gb417) (o := .cells #[.slice A0_0 l0_0.length c0_0, .slice A0_1 l0_1.length c0_1] 26 (0, 0)) (by (with_reducible repeat (first | refine blk_drewN ?_ _ | refine blk_drew ?_ | refine blk_alloc ?_ _)); exact BK417.out) hb); have n1_ := Aside0.mk (below_step (by repeat (first | (with_reducible first | exact HB.out | apply below_alloc | apply pw_below_drewN | apply below_drew1 | refine below_set ?_ GE417.out) | exact HB.out)) hb); clear BK417; clear HB; have BK417 := n0_; have HB := n1_; clear n0_ n1_; (try clear hb); (try clear hb2); (try clear hk); (try clear hi)))
   go_meet
   case rel => exact ⟨_, (true), (by first | rfl | (simp; done) | (simp [*]; done)), H', ⟨by first | omega | exact Nat.le_refl _⟩, ⟨by first | exact Kd.R_nil _ _ _ _ _ | exact Kd.N_nil _ _ _ _ _ | exact Kd.V_nil _ _ _ _ _ | exact Kd.Q_nil _ _ _ _ _ | exact Kd.S_nil _ _ _ _ _⟩, ⟨by (with_reducible repeat (first | refine blk_drewN ?_ _ | refine blk_drew ?_ | refine blk_alloc ?_ _)); exact BK417.out⟩, ⟨by repeat (first | (with_reducible first | exact HB.out | apply below_alloc | apply pw_below_drewN | apply below_drew1 | refine below_set ?_ GE417.out) | exact HB.out)⟩⟩
 case rest =>
  clear HC4
  try clear c2
  try clear p2
  try clear c4
  try clear c7
  try clear hcz11_0
  try clear hcz11_1
  try clear hcz9_0
  try clear hcz9_1
  try clear hfz11_0
  try clear hfz11_1
  try clear hfz9_0
  try clear hfz9_1
  obtain ⟨kq, x19_3, rfl, HA, HJ3, HO_7, BK417, HB⟩ := hcut
  cases kq with
  | zero => exact absurd HA.out (by simp [cobwebref11_Range.j0])
  | succ kj3 =>
   have H := HA.out
   clear HA
   simp only [cobwebref11_Range.j0] at H
   by_cases c13 : x19_3 = true
   ·subst c13
    have H1 : (some ([] : List Int)) = some r := by rw [if_pos rfl] at H; exact H
    clear H
    have H := H1
    clear H1
    obtain rfl := Option.some.inj H
    go_wp2
    go_ret
    exact ⟨_, by first | rfl | (simp [errW_none, errW_some] <;> rfl) | (simp [*, errW_none, errW_some] <;> rfl), by first | exact Kd.R_nil _ _ _ _ _ | exact Kd.N_nil _ _ _ _ _ | exact Kd.V_nil _ _ _ _ _ | exact Kd.Q_nil _ _ _ _ _ | exact Kd.S_nil _ _ _ _ _, by repeat (first | (with_reducible first | exact HB.out | apply below_alloc | apply pw_below_drewN | apply below_drew1 | refine below_set ?_ GE417.out) | exact HB.out)⟩
   ·replace c13 := Bool.eq_false_iff.mpr c13
    subst c13
    have H1 : (cobwebref11_Range.l0 kj3 a1 a2 ([] : List Int) 0 l0_0 l0_1) = some r := by rw [if_neg (show ¬ (false = true) by decide)] at H; exact H
    clear H
    have H := H1
    clear H1
    have H' := Aside0.mk H
    clear H
    go_wp2
    go_loopg [7, 8] kj3 (fun kq v7 v8 w' => ∃ (x7_2 : List Int) (x8_2 : Int), v8 = .int .i64 x8_2 ∧ Aside0 (cobwebref11_Range.l0 kq a1 a2 x7_2 x8_2 l0_0 l0_1 = some r) ∧ Aside0 (kq ≤ kj3) ∧ Aside0 (Kd.R (Kd.int .i64) 3 w' w.heap.size (fun _ => True) v7 x7_2) ∧ Aside0 (w'.heap[gb417]? = some (.cells #[(.slice A0_0 l0_0.length c0_0), (.slice A0_1 l0_1.length c0_1)] 26 (0, 0))) ∧ Aside0 (Below w.heap.size w w'))
    case atStart => exact ⟨(([] : List Int)), (0), (by first | rfl | (simp; done) | (simp [*]; done)), H', ⟨Nat.le_refl _⟩, ⟨by (with_reducible repeat (first | apply Kd.R_alloc | apply Kd.R_drewN | apply Kd.R_drew)); exact HO_7.out⟩, ⟨by (with_reducible repeat (first | refine blk_drewN ?_ _ | refine blk_drew ?_ | refine blk_alloc ?_ _)); exact BK417.out⟩, ⟨by repeat (first | (with_reducible first | exact HB.out | apply below_alloc | apply pw_below_drewN | apply below_drew1 | refine below_set ?_ GE417.out) | exact HB.out)⟩⟩
    case round =>
     clear H'
     try clear c1
     try clear c2
     try clear p2
     try clear c4
     try clear c7
     try clear c13
     try clear hcz11_0
     try clear hcz11_1
     try clear hcz9_0
     try clear hcz9_1
     try clear hfz11_0
     try clear hfz11_1
     try clear hfz9_0
     try clear hfz9_1
     try clear p2
     obtain ⟨x7_2, x8_2, rfl, HA, HK2, HO_7, BK417, HB⟩ := hrel
     cases gk with
     | zero => exact absurd HA.out (by simp [cobwebref11_Range.l0])
     | succ k2 =>
      have H := HA.out
      clear HA
      simp only [cobwebref11_Range.l0] at H
      by_cases c14 : x8_2 < (l0_1.length : Int)
      ·rw [if_pos c14] at H
       have c14b0 : decide (x8_2 < (l0_1.length : Int)) = true := decide_eq_true c14
       clear c14
       by_cases c15 : x8_2 = 0
       ·rw [if_pos c15] at H
        have c15b0 : (x8_2 == 0) = true := beq_iff_eq.mpr c15
        have c15b1 : (x8_2 != 0) = false := bne_eq_false_iff_eq.mpr c15
        clear c15
        by_cases c16 : x8_2 = (wrap64 ((l0_1.length : Int) - 1))
        ·rw [if_pos c16] at H
         have c16b0 : (x8_2 == (wrap64 ((l0_1.length : Int) - 1))) = true := beq_iff_eq.mpr c16
         have c16b1 : (x8_2 != (wrap64 ((l0_1.length : Int) - 1))) = false := bne_eq_false_iff_eq.mpr c16
         clear c16
         by_cases c17 : 0 ≤ x8_2
         ·rw [if_pos c17] at H
          have c17b0 : decide (0 ≤ x8_2) = true := decide_eq_true c17
          clear c17
          by_cases c18 : x7_2.length < 17592186044416
          ·rw [if_pos c18] at H
           have LMc18 := Aside0.mk c18
           clear c18
           obtain ⟨y421, hy421⟩ : ∃ y_ : List Int, y_ = (x7_2 ++ [rd l0_1 x8_2]) := ⟨_, rfl⟩
           replace H : (cobwebref11_Range.l0 k2 a1 a2 y421 (wrap64 (x8_2 + 1)) l0_0 l0_1) = some r := by first | (rw [hy421]; with_reducible exact H) | (have H2_ := (Option.bind_some _ _).symm.trans H; rw [hy421]; with_reducible exact H2_) | (have H2_ := (Option.bind_some _ _).symm.trans H; with_reducible exact H2_) | with_reducible exact H | (rw [hy421]; exact H) | exact H
           have Ny421 := Aside0.mk hy421
           clear hy421
           have H' := Aside0.mk H
           clear H
           have hcz19_0 : wr.cell? ⟨gb417, 0, none⟩ = some (.slice A0_0 l0_0.length c0_0) := (blk_cell BK417.out 0).trans rfl
           have hcz19_1 : wr.cell? ⟨gb417, 1, none⟩ = some (.slice A0_1 l0_1.length c0_1) := (blk_cell BK417.out 1).trans rfl
           have hfz19_0 := blk_frozen BK417.out 0
           have hfz19_1 := blk_frozen BK417.out 1
           have p420 : 0 ≤ (x8_2 : Int) := of_decide_eq_true (by first | (with_reducible assumption) | assumption)
           have q420 : x8_2 < (l0_1.length : Int) := of_decide_eq_true (by first | (with_reducible assumption) | assumption)
           obtain ⟨ad420, e420, hx420_0⟩ := Kd.at_int HR0_1.out x8_2 p420 q420
           cases e420
           replace hx420_0 := (HB.out.cell (World.block_lt_of_cell? w _ hx420_0)).trans hx420_0
           replace p420 := eq_true p420
           replace q420 := eq_true q420
           go_wp2_with (first | ((with_reducible refine gate_builtin (b := .append) (xs := #[.tmp 60, .tmp 66]) rfl ?_); at_builtin; refine Kd.R_append (Kd.int .i64) (w0 := w) w.heap.size rfl (.tmp 60) (.tmp 66) 24 3 (.int .i64 0) 8 rfl Try.underlying24 info3 rfl (by decide) (by omega) u7 x7_2 (rd l0_1 x8_2) [.int .i64 (rd l0_1 x8_2)] (fun _ => True) (fun _ => False) rfl rfl ?aP (fun _ hk => hk.elim) ?aF ?aO ?aB ?aS ?aL ?_; (case aP => exact rfl); (case aB => exact (by repeat (first | (with_reducible first | exact HB.out | apply below_alloc | apply pw_below_drewN | apply below_drew1 | refine below_set ?_ GE417.out) | exact HB.out))); (case aF => exact (fun _ _ => trivial)); (case aO => exact (by (with_reducible repeat (first | apply Kd.R_alloc | apply Kd.R_drewN | apply Kd.R_drew)); exact HO_7.out)); (case aS => exact (below_size (by repeat (first | (with_reducible first | exact HB.out | apply below_alloc | apply pw_below_drewN | apply below_drew1 | refine below_set ?_ GE417.out) | exact HB.out)))); (case aL => have := LMc18.out; omega); intro v422 w20 ho hb hg hat; rw [← Ny421.out] at ho; have n0_ := Aside0.mk (blk_grown (g := gb417) (o := .cells #[.slice A0_0 l0_0.length c0_0, .slice (some ad420) l0_1.length c0_1] 26 (0, 0)) (by (with_reducible repeat (first | refine blk_drewN ?_ _ | refine blk_drew ?_ | refine blk_alloc ?_ _)); exact BK417.out) hg (Kd.R_ne HO_7.out BK417.out (by decide))); have n1_ := Aside0.mk (hb); have n2_ := Aside0.mk (ho); clear BK417; clear HB; clear HO_7; have BK417 := n0_; have HB := n1_; have HO423 := n2_; clear n0_ n1_ n2_; clear ho hb hg hat))
           go_roundg k2
           case measure => have := HJ3.out; have := HK2.out; omega
           case rel => exact ⟨(y421), (wrap64 (x8_2 + 1)), (by first | rfl | (simp; done) | (simp [*]; done)), H', ⟨by have := HJ3.out; have := HK2.out; omega⟩, ⟨by (with_reducible repeat (first | apply Kd.R_alloc | apply Kd.R_drewN | apply Kd.R_drew)); exact HO423.out⟩, ⟨by (with_reducible repeat (first | refine blk_drewN ?_ _ | refine blk_drew ?_ | refine blk_alloc ?_ _)); exact BK417.out⟩, ⟨by repeat (first | (with_reducible first | exact HB.out | apply below_alloc | apply pw_below_drewN | apply below_drew1 | refine below_set ?_ GE417.out) | exact HB.out)⟩⟩
          ·rw [if_neg c18] at H
           exact absurd H (by simp)
         ·rw [if_neg c17] at H
          exact absurd H (by simp)
        ·rw [if_neg c16] at H
         have c16b0 : (x8_2 == (wrap64 ((l0_1.length : Int) - 1))) = false := beq_eq_false_iff_ne.mpr c16
         have c16b1 : (x8_2 != (wrap64 ((l0_1.length : Int) - 1))) = true := bne_iff_ne.mpr c16
         by_cases c21 : 0 ≤ x8_2
         ·rw [if_pos c21] at H
          have c21b0 : decide (0 ≤ x8_2) = true := decide_eq_true c21
          clear c21
          by_cases c22 : x8_2 < (l0_0.length : Int)
          ·rw [if_pos c22] at H
           have c22b0 : decide (x8_2 < (l0_0.length : Int)) = true := decide_eq_true c22
           clear c22
           replace H := Option.bind_eq_some_iff.mp H
           obtain ⟨t425, A230, H⟩ := H
           replace H : (if t425 < 0 then (if x7_2.length < 17592186044416 then (cobwebref11_Range.l0 k2 a1 a2 (x7_2 ++ [rd l0_1 x8_2]) (wrap64 (x8_2 + 1)) l0_0 l0_1) else (none)) else (cobwebref11_Range.l0 k2 a1 a2 x7_2 (wrap64 (x8_2 + 1)) l0_0 l0_1)) = some r := H
           have A23 := Aside0.mk A230
           clear A230
           by_cases c24 : t425 < 0
           ·rw [if_pos c24] at H
            have c24b0 : decide (t425 < 0) = true := decide_eq_true c24
            clear c24
            by_cases c25 : x7_2.length < 17592186044416
            ·rw [if_pos c25] at H
             have LMc25 := Aside0.mk c25
             clear c25
             obtain ⟨y427, hy427⟩ : ∃ y_ : List Int, y_ = (x7_2 ++ [rd l0_1 x8_2]) := ⟨_, rfl⟩
             replace H : (cobwebref11_Range.l0 k2 a1 a2 y427 (wrap64 (x8_2 + 1)) l0_0 l0_1) = some r := by first | (rw [hy427]; with_reducible exact H) | (have H2_ := (Option.bind_some _ _).symm.trans H; rw [hy427]; with_reducible exact H2_) | (have H2_ := (Option.bind_some _ _).symm.trans H; with_reducible exact H2_) | with_reducible exact H | (rw [hy427]; exact H) | exact H
             have Ny427 := Aside0.mk hy427
             clear hy427
             have H' := Aside0.mk H
             clear H
             have hcz26_0 : wr.cell? ⟨gb417, 0, none⟩ = some (.slice A0_0 l0_0.length c0_0) := (blk_cell BK417.out 0).trans rfl
             have hcz26_1 : wr.cell? ⟨gb417, 1, none⟩ = some (.slice A0_1 l0_1.length c0_1) := (blk_cell BK417.out 1).trans rfl
             have hfz26_0 := blk_frozen BK417.out 0
             have hfz26_1 := blk_frozen BK417.out 1
             have p424 : 0 ≤ (x8_2 : Int) := of_decide_eq_true (by first | (with_reducible assumption) | assumption)
             have q424 : x8_2 < (l0_0.length : Int) := of_decide_eq_true (by first | (with_reducible assumption) | assumption)
             obtain ⟨ad424, e424, hx424_0⟩ := Kd.at_string HR0_0.out x8_2 p424 q424
             cases e424
             replace hx424_0 := (HB.out.cell (World.block_lt_of_cell? w _ hx424_0)).trans hx424_0
             replace p424 := eq_true p424
             replace q424 := eq_true q424
             go_wp2_with (first | (go_at_call 14; (with_reducible refine (cobwebref02_Order.calls k2 a1 (rdOf ByteArray.empty l0_0 x8_2) t425 _ A23.out).mono ?_); rintro e w' ⟨rfl, ⟨nd, rfl⟩⟩; have p426 : 0 ≤ (x8_2 : Int) := of_decide_eq_true (by first | (with_reducible assumption) | assumption); have q426 : x8_2 < (l0_1.length : Int) := of_decide_eq_true (by first | (with_reducible assumption) | assumption); obtain ⟨ad426, e426, hx426_0⟩ := Kd.at_int HR0_1.out x8_2 p426 q426; cases e426; replace hx426_0 := (HB.out.cell (World.block_lt_of_cell? w _ hx426_0)).trans hx426_0; replace p426 := eq_true p426; replace q426 := eq_true q426) | ((with_reducible refine gate_builtin (b := .append) (xs := #[.tmp 60, .tmp 66]) rfl ?_); at_builtin; refine Kd.R_append (Kd.int .i64) (w0 := w) w.heap.size rfl (.tmp 60) (.tmp 66) 24 3 (.int .i64 0) 8 rfl Try.underlying24 info3 rfl (by decide) (by omega) u7 x7_2 (rd l0_1 x8_2) [.int .i64 (rd l0_1 x8_2)] (fun _ => True) (fun _ => False) rfl rfl ?aP (fun _ hk => hk.elim) ?aF ?aO ?aB ?aS ?aL ?_; (case aP => exact rfl); (case aB => exact (by repeat (first | (with_reducible first | exact HB.out | apply below_alloc | apply pw_below_drewN | apply below_drew1 | refine below_set ?_ GE417.out) | exact HB.out))); (case aF => exact (fun _ _ => trivial)); (case aO => exact (by (with_reducible repeat (first | apply Kd.R_alloc | apply Kd.R_drewN | apply Kd.R_drew)); exact HO_7.out)); (case aS => exact (below_size (by repeat (first | (with_reducible first | exact HB.out | apply below_alloc | apply pw_below_drewN | apply below_drew1 | refine below_set ?_ GE417.out) | exact HB.out)))); (case aL => have := LMc25.out; omega); intro v428 w27 ho hb hg hat; rw [← Ny427.out] at ho; have n0_ := Aside0.mk (blk_grown (g := gb417) (o := .cells #[.slice (some ad424) l0_0.length c0_0, .slice (some ad426) l0_1.length c0_1] 26 (0, 0)) (by (with_reducible repeat (first | refine blk_drewN ?_ _ | refine blk_drew ?_ | refine blk_alloc ?_ _)); exact BK417.out) hg (Kd.R_ne HO_7.out BK417.out (by decide))); have n1_ := Aside0.mk (hb); have n2_ := Aside0.mk (ho); clear BK417; clear HB; clear HO_7; have BK417 := n0_; have HB := n1_; have HO429 := n2_; clear n0_ n1_ n2_; clear ho hb hg hat))
             go_roundg k2
             case measure => have := HJ3.out; have := HK2.out; omega
             case rel => exact ⟨(y427), (wrap64 (x8_2 + 1)), (by first | rfl | (simp; done) | (simp [*]; done)), H', ⟨by have := HJ3.out; have := HK2.out; omega⟩, ⟨by (with_reducible repeat (first | apply Kd.R_alloc | apply Kd.R_drewN | apply Kd.R_drew)); exact HO429.out⟩, ⟨by (with_reducible repeat (first | refine blk_drewN ?_ _ | refine blk_drew ?_ | refine blk_alloc ?_ _)); exact BK417.out⟩, ⟨by repeat (first | (with_reducible first | exact HB.out | apply below_alloc | apply pw_below_drewN | apply below_drew1 | refine below_set ?_ GE417.out) | exact HB.out)⟩⟩
            ·rw [if_neg c25] at H
             exact absurd H (by simp)
           ·rw [if_neg c24] at H
            have c24b0 : decide (t425 < 0) = false := decide_eq_false c24
            clear c24
            have H' := Aside0.mk H
            clear H
            have hcz28_0 : wr.cell? ⟨gb417, 0, none⟩ = some (.slice A0_0 l0_0.length c0_0) := (blk_cell BK417.out 0).trans rfl
            have hcz28_1 : wr.cell? ⟨gb417, 1, none⟩ = some (.slice A0_1 l0_1.length c0_1) := (blk_cell BK417.out 1).trans rfl
            have hfz28_0 := blk_frozen BK417.out 0
            have hfz28_1 := blk_frozen BK417.out 1
            have p424 : 0 ≤ (x8_2 : Int) := of_decide_eq_true (by first | (with_reducible assumption) | assumption)
            have q424 : x8_2 < (l0_0.length : Int) := of_decide_eq_true (by first | (with_reducible assumption) | assumption)
            obtain ⟨ad424, e424, hx424_0⟩ := Kd.at_string HR0_0.out x8_2 p424 q424
            cases e424
            replace hx424_0 := (HB.out.cell (World.block_lt_of_cell? w _ hx424_0)).trans hx424_0
            replace p424 := eq_true p424
            replace q424 := eq_true q424
            go_wp2_with (first | (go_at_call 14; (with_reducible refine (cobwebref02_Order.calls k2 a1 (rdOf ByteArray.empty l0_0 x8_2) t425 _ A23.out).mono ?_); rintro e w' ⟨rfl, ⟨nd, rfl⟩⟩))
            go_roundg k2
            case measure => have := HJ3.out; have := HK2.out; omega
            case rel => exact ⟨(x7_2), (wrap64 (x8_2 + 1)), (by first | rfl | (simp; done) | (simp [*]; done)), H', ⟨by have := HJ3.out; have := HK2.out; omega⟩, ⟨by (with_reducible repeat (first | apply Kd.R_alloc | apply Kd.R_drewN | apply Kd.R_drew)); exact HO_7.out⟩, ⟨by (with_reducible repeat (first | refine blk_drewN ?_ _ | refine blk_drew ?_ | refine blk_alloc ?_ _)); exact BK417.out⟩, ⟨by repeat (first | (with_reducible first | exact HB.out | apply below_alloc | apply pw_below_drewN | apply below_drew1 | refine below_set ?_ GE417.out) | exact HB.out)⟩⟩
          ·rw [if_neg c22] at H
           exact absurd H (by simp)
         ·rw [if_neg c21] at H
          exact absurd H (by simp)
       ·rw [if_neg c15] at H
        have c15b0 : (x8_2 == 0) = false := beq_eq_false_iff_ne.mpr c15
        have c15b1 : (x8_2 != 0) = true := bne_iff_ne.mpr c15
        obtain ⟨ji29, hji29⟩ : ∃ j_ : Int, (wrap64 (x8_2 - 1)) = j_ := ⟨_, rfl⟩
        replace H : (if 0 ≤ (ji29) then (if (ji29) < (l0_0.length : Int) then ((cobwebref02_Order.f k2 (rdOf ByteArray.empty l0_0 (ji29)) a2).bind fun t431 => (if x8_2 = (wrap64 ((l0_1.length : Int) - 1)) then (if t431 < 0 then (if 0 ≤ x8_2 then (if x7_2.length < 17592186044416 then (cobwebref11_Range.l0 k2 a1 a2 (x7_2 ++ [rd l0_1 x8_2]) (wrap64 (x8_2 + 1)) l0_0 l0_1) else (none)) else (none)) else (cobwebref11_Range.l0 k2 a1 a2 x7_2 (wrap64 (x8_2 + 1)) l0_0 l0_1)) else (if 0 ≤ x8_2 then (if x8_2 < (l0_0.length : Int) then ((cobwebref02_Order.f k2 a1 (rdOf ByteArray.empty l0_0 x8_2)).bind fun t437 => (if t431 < 0 then (if t437 < 0 then (if x7_2.length < 17592186044416 then (cobwebref11_Range.l0 k2 a1 a2 (x7_2 ++ [rd l0_1 x8_2]) (wrap64 (x8_2 + 1)) l0_0 l0_1) else (none)) else (cobwebref11_Range.l0 k2 a1 a2 x7_2 (wrap64 (x8_2 + 1)) l0_0 l0_1)) else (cobwebref11_Range.l0 k2 a1 a2 x7_2 (wrap64 (x8_2 + 1)) l0_0 l0_1))) else (none)) else (none)))) else (none)) else (none)) = some r := by first | (rw [hji29] at H; exact H) | (simp only [hji29] at H ⊢; exact H)
        have hji29w : (IntKind.i64.wrap (x8_2 - 1)) = ji29 := (i64_w _).trans hji29
        by_cases c30 : 0 ≤ (ji29)
        ·rw [if_pos c30] at H
         have c30b0 : decide (0 ≤ (ji29)) = true := decide_eq_true c30
         clear c30
         by_cases c31 : (ji29) < (l0_0.length : Int)
         ·rw [if_pos c31] at H
          have c31b0 : decide ((ji29) < (l0_0.length : Int)) = true := decide_eq_true c31
          clear c31
          replace H := Option.bind_eq_some_iff.mp H
          obtain ⟨t431, A320, H⟩ := H
          replace H : (if x8_2 = (wrap64 ((l0_1.length : Int) - 1)) then (if t431 < 0 then (if 0 ≤ x8_2 then (if x7_2.length < 17592186044416 then (cobwebref11_Range.l0 k2 a1 a2 (x7_2 ++ [rd l0_1 x8_2]) (wrap64 (x8_2 + 1)) l0_0 l0_1) else (none)) else (none)) else (cobwebref11_Range.l0 k2 a1 a2 x7_2 (wrap64 (x8_2 + 1)) l0_0 l0_1)) else (if 0 ≤ x8_2 then (if x8_2 < (l0_0.length : Int) then ((cobwebref02_Order.f k2 a1 (rdOf ByteArray.empty l0_0 x8_2)).bind fun t437 => (if t431 < 0 then (if t437 < 0 then (if x7_2.length < 17592186044416 then (cobwebref11_Range.l0 k2 a1 a2 (x7_2 ++ [rd l0_1 x8_2]) (wrap64 (x8_2 + 1)) l0_0 l0_1) else (none)) else (cobwebref11_Range.l0 k2 a1 a2 x7_2 (wrap64 (x8_2 + 1)) l0_0 l0_1)) else (cobwebref11_Range.l0 k2 a1 a2 x7_2 (wrap64 (x8_2 + 1)) l0_0 l0_1))) else (none)) else (none))) = some r := H
          have A32 := Aside0.mk A320
          clear A320
          by_cases c33 : x8_2 = (wrap64 ((l0_1.length : Int) - 1))
          ·rw [if_pos c33] at H
           have c33b0 : (x8_2 == (wrap64 ((l0_1.length : Int) - 1))) = true := beq_iff_eq.mpr c33
           have c33b1 : (x8_2 != (wrap64 ((l0_1.length : Int) - 1))) = false := bne_eq_false_iff_eq.mpr c33
           clear c33
           by_cases c34 : t431 < 0
           ·rw [if_pos c34] at H
            have c34b0 : decide (t431 < 0) = true := decide_eq_true c34
            clear c34
            by_cases c35 : 0 ≤ x8_2
            ·rw [if_pos c35] at H
             have c35b0 : decide (0 ≤ x8_2) = true := decide_eq_true c35
             clear c35
             by_cases c36 : x7_2.length < 17592186044416
             ·rw [if_pos c36] at H
              have LMc36 := Aside0.mk c36
              clear c36
              obtain ⟨y433, hy433⟩ : ∃ y_ : List Int, y_ = (x7_2 ++ [rd l0_1 x8_2]) := ⟨_, rfl⟩
              replace H : (cobwebref11_Range.l0 k2 a1 a2 y433 (wrap64 (x8_2 + 1)) l0_0 l0_1) = some r := by first | (rw [hy433]; with_reducible exact H) | (have H2_ := (Option.bind_some _ _).symm.trans H; rw [hy433]; with_reducible exact H2_) | (have H2_ := (Option.bind_some _ _).symm.trans H; with_reducible exact H2_) | with_reducible exact H | (rw [hy433]; exact H) | exact H
              have Ny433 := Aside0.mk hy433
              clear hy433
              have H' := Aside0.mk H
              clear H
              have hcz37_0 : wr.cell? ⟨gb417, 0, none⟩ = some (.slice A0_0 l0_0.length c0_0) := (blk_cell BK417.out 0).trans rfl
              have hcz37_1 : wr.cell? ⟨gb417, 1, none⟩ = some (.slice A0_1 l0_1.length c0_1) := (blk_cell BK417.out 1).trans rfl
              have hfz37_0 := blk_frozen BK417.out 0
              have hfz37_1 := blk_frozen BK417.out 1
              have p430 : 0 ≤ ((ji29) : Int) := of_decide_eq_true (by first | (with_reducible assumption) | assumption)
              have q430 : (ji29) < (l0_0.length : Int) := of_decide_eq_true (by first | (with_reducible assumption) | assumption)
              obtain ⟨ad430, e430, hx430_0⟩ := Kd.at_string HR0_0.out (ji29) p430 q430
              cases e430
              replace hx430_0 := (HB.out.cell (World.block_lt_of_cell? w _ hx430_0)).trans hx430_0
              replace p430 := eq_true p430
              replace q430 := eq_true q430
              go_wp2_with (first | (go_at_call 14; (with_reducible refine (cobwebref02_Order.calls k2 (rdOf ByteArray.empty l0_0 (ji29)) a2 t431 _ A32.out).mono ?_); rintro e w' ⟨rfl, ⟨nd, rfl⟩⟩; have p432 : 0 ≤ (x8_2 : Int) := of_decide_eq_true (by first | (with_reducible assumption) | assumption); have q432 : x8_2 < (l0_1.length : Int) := of_decide_eq_true (by first | (with_reducible assumption) | assumption); obtain ⟨ad432, e432, hx432_0⟩ := Kd.at_int HR0_1.out x8_2 p432 q432; cases e432; replace hx432_0 := (HB.out.cell (World.block_lt_of_cell? w _ hx432_0)).trans hx432_0; replace p432 := eq_true p432; replace q432 := eq_true q432) | ((with_reducible refine gate_builtin (b := .append) (xs := #[.tmp 60, .tmp 66]) rfl ?_); at_builtin; refine Kd.R_append (Kd.int .i64) (w0 := w) w.heap.size rfl (.tmp 60) (.tmp 66) 24 3 (.int .i64 0) 8 rfl Try.underlying24 info3 rfl (by decide) (by omega) u7 x7_2 (rd l0_1 x8_2) [.int .i64 (rd l0_1 x8_2)] (fun _ => True) (fun _ => False) rfl rfl ?aP (fun _ hk => hk.elim) ?aF ?aO ?aB ?aS ?aL ?_; (case aP => exact rfl); (case aB => exact (by repeat (first | (with_reducible first | exact HB.out | apply below_alloc | apply pw_below_drewN | apply below_drew1 | refine below_set ?_ GE417.out) | exact HB.out))); (case aF => exact (fun _ _ => trivial)); (case aO => exact (by (with_reducible repeat (first | apply Kd.R_alloc | apply Kd.R_drewN | apply Kd.R_drew)); exact HO_7.out)); (case aS => exact (below_size (by repeat (first | (with_reducible first | exact HB.out | apply below_alloc | apply pw_below_drewN | apply below_drew1 | refine below_set ?_ GE417.out) | exact HB.out)))); (case aL => have := LMc36.out; omega); intro v434 w38 ho hb hg hat; rw [← Ny433.out] at ho; have n0_ := Aside0.mk (blk_grown (g := gb417) (o := .cells #[.slice (some ad430) l0_0.length c0_0, .slice (some ad432) l0_1.length c0_1] 26 (0, 0)) (by (with_reducible repeat (first | refine blk_drewN ?_ _ | refine blk_drew ?_ | refine blk_alloc ?_ _)); exact BK417.out) hg (Kd.R_ne HO_7.out BK417.out (by decide))); have n1_ := Aside0.mk (hb); have n2_ := Aside0.mk (ho); clear BK417; clear HB; clear HO_7; have BK417 := n0_; have HB := n1_; have HO435 := n2_; clear n0_ n1_ n2_; clear ho hb hg hat))
              go_roundg k2
              case measure => have := HJ3.out; have := HK2.out; omega
              case rel => exact ⟨(y433), (wrap64 (x8_2 + 1)), (by first | rfl | (simp; done) | (simp [*]; done)), H', ⟨by have := HJ3.out; have := HK2.out; omega⟩, ⟨by (with_reducible repeat (first | apply Kd.R_alloc | apply Kd.R_drewN | apply Kd.R_drew)); exact HO435.out⟩, ⟨by (with_reducible repeat (first | refine blk_drewN ?_ _ | refine blk_drew ?_ | refine blk_alloc ?_ _)); exact BK417.out⟩, ⟨by repeat (first | (with_reducible first | exact HB.out | apply below_alloc | apply pw_below_drewN | apply below_drew1 | refine below_set ?_ GE417.out) | exact HB.out)⟩⟩
             ·rw [if_neg c36] at H
              exact absurd H (by simp)
            ·rw [if_neg c35] at H
             exact absurd H (by simp)
           ·rw [if_neg c34] at H
            have c34b0 : decide (t431 < 0) = false := decide_eq_false c34
            clear c34
            have H' := Aside0.mk H
            clear H
            have hcz39_0 : wr.cell? ⟨gb417, 0, none⟩ = some (.slice A0_0 l0_0.length c0_0) := (blk_cell BK417.out 0).trans rfl
            have hcz39_1 : wr.cell? ⟨gb417, 1, none⟩ = some (.slice A0_1 l0_1.length c0_1) := (blk_cell BK417.out 1).trans rfl
            have hfz39_0 := blk_frozen BK417.out 0
            have hfz39_1 := blk_frozen BK417.out 1
            have p430 : 0 ≤ ((ji29) : Int) := of_decide_eq_true (by first | (with_reducible assumption) | assumption)
            have q430 : (ji29) < (l0_0.length : Int) := of_decide_eq_true (by first | (with_reducible assumption) | assumption)
            obtain ⟨ad430, e430, hx430_0⟩ := Kd.at_string HR0_0.out (ji29) p430 q430
            cases e430
            replace hx430_0 := (HB.out.cell (World.block_lt_of_cell? w _ hx430_0)).trans hx430_0
            replace p430 := eq_true p430
            replace q430 := eq_true q430
            go_wp2_with (first | (go_at_call 14; (with_reducible refine (cobwebref02_Order.calls k2 (rdOf ByteArray.empty l0_0 (ji29)) a2 t431 _ A32.out).mono ?_); rintro e w' ⟨rfl, ⟨nd, rfl⟩⟩))
            go_roundg k2
            case measure => have := HJ3.out; have := HK2.out; omega
            case rel => exact ⟨(x7_2), (wrap64 (x8_2 + 1)), (by first | rfl | (simp; done) | (simp [*]; done)), H', ⟨by have := HJ3.out; have := HK2.out; omega⟩, ⟨by (with_reducible repeat (first | apply Kd.R_alloc | apply Kd.R_drewN | apply Kd.R_drew)); exact HO_7.out⟩, ⟨by (with_reducible repeat (first | refine blk_drewN ?_ _ | refine blk_drew ?_ | refine blk_alloc ?_ _)); exact BK417.out⟩, ⟨by repeat (first | (with_reducible first | exact HB.out | apply below_alloc | apply pw_below_drewN | apply below_drew1 | refine below_set ?_ GE417.out) | exact HB.out)⟩⟩
          ·rw [if_neg c33] at H
           have c33b0 : (x8_2 == (wrap64 ((l0_1.length : Int) - 1))) = false := beq_eq_false_iff_ne.mpr c33
           have c33b1 : (x8_2 != (wrap64 ((l0_1.length : Int) - 1))) = true := bne_iff_ne.mpr c33
           by_cases c40 : 0 ≤ x8_2
           ·rw [if_pos c40] at H
            have c40b0 : decide (0 ≤ x8_2) = true := decide_eq_true c40
            clear c40
            by_cases c41 : x8_2 < (l0_0.length : Int)
            ·rw [if_pos c41] at H
             have c41b0 : decide (x8_2 < (l0_0.length : Int)) = true := decide_eq_true c41
             clear c41
             replace H := Option.bind_eq_some_iff.mp H
             obtain ⟨t437, A420, H⟩ := H
             replace H : (if t431 < 0 then (if t437 < 0 then (if x7_2.length < 17592186044416 then (cobwebref11_Range.l0 k2 a1 a2 (x7_2 ++ [rd l0_1 x8_2]) (wrap64 (x8_2 + 1)) l0_0 l0_1) else (none)) else (cobwebref11_Range.l0 k2 a1 a2 x7_2 (wrap64 (x8_2 + 1)) l0_0 l0_1)) else (cobwebref11_Range.l0 k2 a1 a2 x7_2 (wrap64 (x8_2 + 1)) l0_0 l0_1)) = some r := H
             have A42 := Aside0.mk A420
             clear A420
             by_cases c43 : t431 < 0
             ·rw [if_pos c43] at H
              have c43b0 : decide (t431 < 0) = true := decide_eq_true c43
              clear c43
              by_cases c44 : t437 < 0
              ·rw [if_pos c44] at H
               have c44b0 : decide (t437 < 0) = true := decide_eq_true c44
               clear c44
               by_cases c45 : x7_2.length < 17592186044416
               ·rw [if_pos c45] at H
                have LMc45 := Aside0.mk c45
                clear c45
                obtain ⟨y439, hy439⟩ : ∃ y_ : List Int, y_ = (x7_2 ++ [rd l0_1 x8_2]) := ⟨_, rfl⟩
                replace H : (cobwebref11_Range.l0 k2 a1 a2 y439 (wrap64 (x8_2 + 1)) l0_0 l0_1) = some r := by first | (rw [hy439]; with_reducible exact H) | (have H2_ := (Option.bind_some _ _).symm.trans H; rw [hy439]; with_reducible exact H2_) | (have H2_ := (Option.bind_some _ _).symm.trans H; with_reducible exact H2_) | with_reducible exact H | (rw [hy439]; exact H) | exact H
                have Ny439 := Aside0.mk hy439
                clear hy439
                have H' := Aside0.mk H
                clear H
                have hcz46_0 : wr.cell? ⟨gb417, 0, none⟩ = some (.slice A0_0 l0_0.length c0_0) := (blk_cell BK417.out 0).trans rfl
                have hcz46_1 : wr.cell? ⟨gb417, 1, none⟩ = some (.slice A0_1 l0_1.length c0_1) := (blk_cell BK417.out 1).trans rfl
                have hfz46_0 := blk_frozen BK417.out 0
                have hfz46_1 := blk_frozen BK417.out 1
                have p430 : 0 ≤ ((ji29) : Int) := of_decide_eq_true (by first | (with_reducible assumption) | assumption)
                have q430 : (ji29) < (l0_0.length : Int) := of_decide_eq_true (by first | (with_reducible assumption) | assumption)
                obtain ⟨ad430, e430, hx430_0⟩ := Kd.at_string HR0_0.out (ji29) p430 q430
                cases e430
                replace hx430_0 := (HB.out.cell (World.block_lt_of_cell? w _ hx430_0)).trans hx430_0
                replace p430 := eq_true p430
                replace q430 := eq_true q430
                go_wp2_with (first | (go_at_call 14; (with_reducible refine (cobwebref02_Order.calls k2 (rdOf ByteArray.empty l0_0 (ji29)) a2 t431 _ A32.out).mono ?_); rintro e w' ⟨rfl, ⟨nd, rfl⟩⟩; have p436 : 0 ≤ (x8_2 : Int) := of_decide_eq_true (by first | (with_reducible assumption) | assumption); have q436 : x8_2 < (l0_0.length : Int) := of_decide_eq_true (by first | (with_reducible assumption) | assumption); obtain ⟨ad436, e436, hx436_0⟩ := Kd.at_string HR0_0.out x8_2 p436 q436; obtain rfl : ad430 = ad436 := (by injection e436); replace hx436_0 := (HB.out.cell (World.block_lt_of_cell? w _ hx436_0)).trans hx436_0; replace p436 := eq_true p436; replace q436 := eq_true q436) | (go_at_call 14; (with_reducible refine (cobwebref02_Order.calls k2 a1 (rdOf ByteArray.empty l0_0 x8_2) t437 _ A42.out).mono ?_); rintro e w' ⟨rfl, ⟨nd, rfl⟩⟩; have p438 : 0 ≤ (x8_2 : Int) := of_decide_eq_true (by first | (with_reducible assumption) | assumption); have q438 : x8_2 < (l0_1.length : Int) := of_decide_eq_true (by first | (with_reducible assumption) | assumption); obtain ⟨ad438, e438, hx438_0⟩ := Kd.at_int HR0_1.out x8_2 p438 q438; cases e438; replace hx438_0 := (HB.out.cell (World.block_lt_of_cell? w _ hx438_0)).trans hx438_0; replace p438 := eq_true p438; replace q438 := eq_true q438) | ((with_reducible refine gate_builtin (b := .append) (xs := #[.tmp 60, .tmp 66]) rfl ?_); at_builtin; refine Kd.R_append (Kd.int .i64) (w0 := w) w.heap.size rfl (.tmp 60) (.tmp 66) 24 3 (.int .i64 0) 8 rfl Try.underlying24 info3 rfl (by decide) (by omega) u7 x7_2 (rd l0_1 x8_2) [.int .i64 (rd l0_1 x8_2)] (fun _ => True) (fun _ => False) rfl rfl ?aP (fun _ hk => hk.elim) ?aF ?aO ?aB ?aS ?aL ?_; (case aP => exact rfl); (case aB => exact (by repeat (first | (with_reducible first | exact HB.out | apply below_alloc | apply pw_below_drewN | apply below_drew1 | refine below_set ?_ GE417.out) | exact HB.out))); (case aF => exact (fun _ _ => trivial)); (case aO => exact (by (with_reducible repeat (first | apply Kd.R_alloc | apply Kd.R_drewN | apply Kd.R_drew)); exact HO_7.out)); (case aS => exact (below_size (by repeat (first | (with_reducible first | exact HB.out | apply below_alloc | apply pw_below_drewN | apply below_drew1 | refine below_set ?_ GE417.out) | exact HB.out)))); (case aL => have := LMc45.out; omega); intro v440 w47 ho hb hg hat; rw [← Ny439.out] at ho; have n0_ := Aside0.mk (blk_grown (g := gb417) (o := .cells #[.slice (some ad430) l0_0.length c0_0, .slice (some ad438) l0_1.length c0_1] 26 (0, 0)) (by (with_reducible repeat (first | refine blk_drewN ?_ _ | refine blk_drew ?_ | refine blk_alloc ?_ _)); exact BK417.out) hg (Kd.R_ne HO_7.out BK417.out (by decide))); have n1_ := Aside0.mk (hb); have n2_ := Aside0.mk (ho); clear BK417; clear HB; clear HO_7; have BK417 := n0_; have HB := n1_; have HO441 := n2_; clear n0_ n1_ n2_; clear ho hb hg hat))
                go_roundg k2
                case measure => have := HJ3.out; have := HK2.out; omega
                case rel => exact ⟨(y439), (wrap64 (x8_2 + 1)), (by first | rfl | (simp; done) | (simp [*]; done)), H', ⟨by have := HJ3.out; have := HK2.out; omega⟩, ⟨by (with_reducible repeat (first | apply Kd.R_alloc | apply Kd.R_drewN | apply Kd.R_drew)); exact HO441.out⟩, ⟨by (with_reducible repeat (first | refine blk_drewN ?_ _ | refine blk_drew ?_ | refine blk_alloc ?_ _)); exact BK417.out⟩, ⟨by repeat (first | (with_reducible first | exact HB.out | apply below_alloc | apply pw_below_drewN | apply below_drew1 | refine below_set ?_ GE417.out) | exact HB.out)⟩⟩
               ·rw [if_neg c45] at H
                exact absurd H (by simp)
              ·rw [if_neg c44] at H
               have c44b0 : decide (t437 < 0) = false := decide_eq_false c44
               clear c44
               have H' := Aside0.mk H
               clear H
               have hcz48_0 : wr.cell? ⟨gb417, 0, none⟩ = some (.slice A0_0 l0_0.length c0_0) := (blk_cell BK417.out 0).trans rfl
               have hcz48_1 : wr.cell? ⟨gb417, 1, none⟩ = some (.slice A0_1 l0_1.length c0_1) := (blk_cell BK417.out 1).trans rfl
               have hfz48_0 := blk_frozen BK417.out 0
               have hfz48_1 := blk_frozen BK417.out 1
               have p430 : 0 ≤ ((ji29) : Int) := of_decide_eq_true (by first | (with_reducible assumption) | assumption)
               have q430 : (ji29) < (l0_0.length : Int) := of_decide_eq_true (by first | (with_reducible assumption) | assumption)
               obtain ⟨ad430, e430, hx430_0⟩ := Kd.at_string HR0_0.out (ji29) p430 q430
               cases e430
               replace hx430_0 := (HB.out.cell (World.block_lt_of_cell? w _ hx430_0)).trans hx430_0
               replace p430 := eq_true p430
               replace q430 := eq_true q430
               go_wp2_with (first | (go_at_call 14; (with_reducible refine (cobwebref02_Order.calls k2 (rdOf ByteArray.empty l0_0 (ji29)) a2 t431 _ A32.out).mono ?_); rintro e w' ⟨rfl, ⟨nd, rfl⟩⟩; have p436 : 0 ≤ (x8_2 : Int) := of_decide_eq_true (by first | (with_reducible assumption) | assumption); have q436 : x8_2 < (l0_0.length : Int) := of_decide_eq_true (by first | (with_reducible assumption) | assumption); obtain ⟨ad436, e436, hx436_0⟩ := Kd.at_string HR0_0.out x8_2 p436 q436; obtain rfl : ad430 = ad436 := (by injection e436); replace hx436_0 := (HB.out.cell (World.block_lt_of_cell? w _ hx436_0)).trans hx436_0; replace p436 := eq_true p436; replace q436 := eq_true q436) | (go_at_call 14; (with_reducible refine (cobwebref02_Order.calls k2 a1 (rdOf ByteArray.empty l0_0 x8_2) t437 _ A42.out).mono ?_); rintro e w' ⟨rfl, ⟨nd, rfl⟩⟩))
               go_roundg k2
               case measure => have := HJ3.out; have := HK2.out; omega
               case rel => exact ⟨(x7_2), (wrap64 (x8_2 + 1)), (by first | rfl | (simp; done) | (simp [*]; done)), H', ⟨by have := HJ3.out; have := HK2.out; omega⟩, ⟨by (with_reducible repeat (first | apply Kd.R_alloc | apply Kd.R_drewN | apply Kd.R_drew)); exact HO_7.out⟩, ⟨by (with_reducible repeat (first | refine blk_drewN ?_ _ | refine blk_drew ?_ | refine blk_alloc ?_ _)); exact BK417.out⟩, ⟨by repeat (first | (with_reducible first | exact HB.out | apply below_alloc | apply pw_below_drewN | apply below_drew1 | refine below_set ?_ GE417.out) | exact HB.out)⟩⟩
             ·rw [if_neg c43] at H
              have c43b0 : decide (t431 < 0) = false := decide_eq_false c43
              clear c43
              have H' := Aside0.mk H
              clear H
              have hcz49_0 : wr.cell? ⟨gb417, 0, none⟩ = some (.slice A0_0 l0_0.length c0_0) := (blk_cell BK417.out 0).trans rfl
              have hcz49_1 : wr.cell? ⟨gb417, 1, none⟩ = some (.slice A0_1 l0_1.length c0_1) := (blk_cell BK417.out 1).trans rfl
              have hfz49_0 := blk_frozen BK417.out 0
              have hfz49_1 := blk_frozen BK417.out 1
              have p430 : 0 ≤ ((ji29) : Int) := of_decide_eq_true (by first | (with_reducible assumption) | assumption)
              have q430 : (ji29) < (l0_0.length : Int) := of_decide_eq_true (by first | (with_reducible assumption) | assumption)
              obtain ⟨ad430, e430, hx430_0⟩ := Kd.at_string HR0_0.out (ji29) p430 q430
              cases e430
              replace hx430_0 := (HB.out.cell (World.block_lt_of_cell? w _ hx430_0)).trans hx430_0
              replace p430 := eq_true p430
              replace q430 := eq_true q430
              go_wp2_with (first | (go_at_call 14; (with_reducible refine (cobwebref02_Order.calls k2 (rdOf ByteArray.empty l0_0 (ji29)) a2 t431 _ A32.out).mono ?_); rintro e w' ⟨rfl, ⟨nd, rfl⟩⟩; have p436 : 0 ≤ (x8_2 : Int) := of_decide_eq_true (by first | (with_reducible assumption) | assumption); have q436 : x8_2 < (l0_0.length : Int) := of_decide_eq_true (by first | (with_reducible assumption) | assumption); obtain ⟨ad436, e436, hx436_0⟩ := Kd.at_string HR0_0.out x8_2 p436 q436; obtain rfl : ad430 = ad436 := (by injection e436); replace hx436_0 := (HB.out.cell (World.block_lt_of_cell? w _ hx436_0)).trans hx436_0; replace p436 := eq_true p436; replace q436 := eq_true q436) | (go_at_call 14; (with_reducible refine (cobwebref02_Order.calls k2 a1 (rdOf ByteArray.empty l0_0 x8_2) t437 _ A42.out).mono ?_); rintro e w' ⟨rfl, ⟨nd, rfl⟩⟩))
              go_roundg k2
              case measure => have := HJ3.out; have := HK2.out; omega
              case rel => exact ⟨(x7_2), (wrap64 (x8_2 + 1)), (by first | rfl | (simp; done) | (simp [*]; done)), H', ⟨by have := HJ3.out; have := HK2.out; omega⟩, ⟨by (with_reducible repeat (first | apply Kd.R_alloc | apply Kd.R_drewN | apply Kd.R_drew)); exact HO_7.out⟩, ⟨by (with_reducible repeat (first | refine blk_drewN ?_ _ | refine blk_drew ?_ | refine blk_alloc ?_ _)); exact BK417.out⟩, ⟨by repeat (first | (with_reducible first | exact HB.out | apply below_alloc | apply pw_below_drewN | apply below_drew1 | refine below_set ?_ GE417.out) | exact HB.out)⟩⟩
            ·rw [if_neg c41] at H
             exact absurd H (by simp)
           ·rw [if_neg c40] at H
            exact absurd H (by simp)
         ·rw [if_neg c31] at H
          exact absurd H (by simp)
        ·rw [if_neg c30] at H
         exact absurd H (by simp)
      ·rw [if_neg c14] at H
       have c14b0 : decide (x8_2 < (l0_1.length : Int)) = false := decide_eq_false c14
       clear c14
       obtain rfl := Option.some.inj H
       have hcz50_0 : wr.cell? ⟨gb417, 0, none⟩ = some (.slice A0_0 l0_0.length c0_0) := (blk_cell BK417.out 0).trans rfl
       have hcz50_1 : wr.cell? ⟨gb417, 1, none⟩ = some (.slice A0_1 l0_1.length c0_1) := (blk_cell BK417.out 1).trans rfl
       have hfz50_0 := blk_frozen BK417.out 0
       have hfz50_1 := blk_frozen BK417.out 1
       go_wp2
       go_ret
       exact ⟨_, by first | rfl | (simp [errW_none, errW_some] <;> rfl) | (simp [*, errW_none, errW_some] <;> rfl), by (with_reducible repeat (first | apply Kd.R_alloc | apply Kd.R_drewN | apply Kd.R_drew)); exact HO_7.out, by repeat (first | (with_reducible first | exact HB.out | apply below_alloc | apply pw_below_drewN | apply below_drew1 | refine below_set ?_ GE417.out) | exact HB.out)⟩
end Go.Proofs.Ytneagipmllgejaa.PL
end
section
namespace Go.Proofs.Ytneagipmllgejaa.PL
open Go.RowKit Go.Proofs.YtneagipmllgejaaW.PrintWords Go.Proofs.YtneagipmllgejaaW.PrintLast Go.Proofs.YtneagipmllgejaaW.PrintMore
attribute [local go_sem] max2_int min2_int max_two min_two max_three min_three max_four min_four   -- for this text's walks alone
set_option linter.unusedVariables false
set_option linter.unusedSimpArgs false
def cobwebref11_At.l0 : Nat → ByteArray → Int → Int → List ByteArray → List Int → Option (Int)
 | 0, _, _, _, _, _ => none
 | k + 1, x1, x5, x6, x278000, x278001 => if x6 < (x278000.length : Int) then (if 0 ≤ x6 then ((cobwebref02_Order.f k (rdOf ByteArray.empty x278000 x6) x1).bind fun t279 => (if t279 ≤ 0 then (cobwebref11_At.l0 k x1 (wrap64 (x5 + 1)) (wrap64 (x6 + 1)) x278000 x278001) else (cobwebref11_At.l0 k x1 x5 (wrap64 (x6 + 1)) x278000 x278001))) else (none)) else (some x5)
def cobwebref11_At.f (k : Nat) (l0_0 : List ByteArray) (l0_1 : List Int) (a1 : ByteArray) : Option (Int) := cobwebref11_At.l0 k a1 0 0 l0_0 l0_1
theorem cobwebref11_At.mono_l : ∀ k, (∀ y0 y1 y2 y3 y4, LeO (cobwebref11_At.l0 k y0 y1 y2 y3 y4) (cobwebref11_At.l0 (k + 1) y0 y1 y2 y3 y4))
 | 0 => fun _ _ _ _ _ r h => by simp [cobwebref11_At.l0] at h
 | k + 1 => by
  have ih0 := cobwebref11_At.mono_l k
  ·intro y0 y1 y2 y3 y4
   unfold cobwebref11_At.l0
   repeat' first
   | (with_reducible exact ih0 _ _ _ _ _)
   | (with_reducible exact cobwebref02_Order.mono _ _ _)
   | (with_reducible exact LeO.refl _)
   | (with_reducible exact LeO.none _)
   | (with_reducible refine LeO.ite ?_ ?_)
   | (with_reducible refine LeO.bind ?_ (fun _ => ?_))
   | exact ih0 _ _ _ _ _
   | exact cobwebref02_Order.mono _ _ _
   | exact LeO.none _
   | refine LeO.ite ?_ ?_
   | refine LeO.bind ?_ (fun _ => ?_)
theorem cobwebref11_At.mono : ∀ a0 a1 a2 k, LeO (cobwebref11_At.f k a0 a1 a2) (cobwebref11_At.f (k + 1) a0 a1 a2) := by
 intro a0 a1 a2 k
 have ih0 := cobwebref11_At.mono_l k
 unfold cobwebref11_At.f
 repeat' first
   | (with_reducible exact ih0 _ _ _ _ _)
   | (with_reducible exact cobwebref02_Order.mono _ _ _)
   | (with_reducible exact LeO.refl _)
   | (with_reducible exact LeO.none _)
   | (with_reducible refine LeO.ite ?_ ?_)
   | (with_reducible refine LeO.bind ?_ (fun _ => ?_))
   | exact ih0 _ _ _ _ _
   | exact cobwebref02_Order.mono _ _ _
   | exact LeO.none _
   | refine LeO.ite ?_ ?_
   | refine LeO.bind ?_ (fun _ => ?_)
set_option maxHeartbeats 8000000 in
set_option maxRecDepth 100000 in
theorem cobwebref11_At.calls (k : Nat) (A0_0 : Option Addr) (c0_0 : Nat) (l0_0 : List ByteArray) (A0_1 : Option Addr) (c0_1 : Nat) (l0_1 : List Int) (a1 : ByteArray) (r : Int) (w : World) (hr0_0 : Kd.C Kd.string w A0_0 l0_0.length l0_0) (hc0_0 : l0_0.length ≤ c0_0) (hr0_1 : Kd.C (Kd.int .i64) w A0_1 l0_1.length l0_1) (hc0_1 : l0_1.length ≤ c0_1) (h : cobwebref11_At.f k l0_0 l0_1 a1 = some r) :
  Calls Try.prog 51 #[.agg #[.slice A0_0 l0_0.length c0_0, .slice A0_1 l0_1.length c0_1], .string a1] w fun e w' => e = .returned (.int .i64 r) ∧ Below w.heap.size w w' := by
 have hu26 := Try.underlying26
 have HR0_0 := Aside0.mk hr0_0
 have HC0_0 := Aside0.mk hc0_0
 clear hr0_0 hc0_0
 have HR0_1 := Aside0.mk hr0_1
 have HC0_1 := Aside0.mk hc0_1
 clear hr0_1 hc0_1
 have HB := Aside0.mk (Below.refl w.heap.size w)
 have H : (cobwebref11_At.l0 k a1 0 0 l0_0 l0_1) = some r := h
 clear h
 have H' := Aside0.mk H
 clear H
 go_enter Try.func51, Try.ntmps51
 go_wp2_with (first | ((with_reducible refine gate_dst (N := 2) rfl ?_); refine box_event ?hg (N := 2) ?hd (cs := #[.slice A0_0 l0_0.length c0_0, .slice A0_1 l0_1.length c0_1]) (t := 26) ?hr ?_; (case hd => rfl); (case hg => rfl); (case hr => first | (go_simp; done) | (go_simp; rfl)); intro gb277 hg w3 hbox hb; have n0_ := Aside0.mk (below_step (by repeat (first | (with_reducible first | exact HB.out | apply below_alloc | apply pw_below_drewN | apply below_drew1) | exact HB.out)) hb); have n1_ := Aside0.mk (hbox); have n2_ := Aside0.mk ((by rw [hg]; exact (below_size (by repeat (first | (with_reducible first | exact HB.out | apply below_alloc | apply pw_below_drewN | apply below_drew1) | exact HB.out))) : w.heap.size ≤ gb277)); have n3_ := Aside0.mk ((by rw [hg]; exact (below_size (by repeat (first | (with_reducible first | exact HB.out | apply below_alloc | apply pw_below_drewN | apply below_drew1) | exact HB.out))) : w.heap.size ≤ gb277)); clear HB; have HB := n0_; have BK277 := n1_; have GW277 := n2_; have GE277 := n3_; clear n0_ n1_ n2_ n3_; clear hb hbox hg))
 go_loopg [5, 6] k (fun kq v5 v6 w' => ∃ (x5_1 : Int) (x6_1 : Int), v5 = .int .i64 x5_1 ∧ v6 = .int .i64 x6_1 ∧ Aside0 (cobwebref11_At.l0 kq a1 x5_1 x6_1 l0_0 l0_1 = some r) ∧ Aside0 (kq ≤ k) ∧ Aside0 (w'.heap[gb277]? = some (.cells #[(.slice A0_0 l0_0.length c0_0), (.slice A0_1 l0_1.length c0_1)] 26 (0, 0))) ∧ Aside0 (Below w.heap.size w w'))
 case atStart => exact ⟨(0), (0), (by first | rfl | (simp; done) | (simp [*]; done)), (by first | rfl | (simp; done) | (simp [*]; done)), H', ⟨Nat.le_refl _⟩, ⟨by (with_reducible repeat (first | refine blk_drewN ?_ _ | refine blk_drew ?_ | refine blk_alloc ?_ _)); exact BK277.out⟩, ⟨by repeat (first | (with_reducible first | exact HB.out | apply below_alloc | apply pw_below_drewN | apply below_drew1 | refine below_set ?_ GE277.out) | exact HB.out)⟩⟩
 case round =>
  clear H'
  try clear p2
  obtain ⟨x5_1, x6_1, rfl, rfl, HA, HK1, BK277, HB⟩ := hrel
  cases gk with
  | zero => exact absurd HA.out (by simp [cobwebref11_At.l0])
  | succ k1 =>
   have H := HA.out
   clear HA
   simp only [cobwebref11_At.l0] at H
   by_cases c4 : x6_1 < (l0_0.length : Int)
   ·rw [if_pos c4] at H
    have c4b0 : decide (x6_1 < (l0_0.length : Int)) = true := decide_eq_true c4
    clear c4
    by_cases c5 : 0 ≤ x6_1
    ·rw [if_pos c5] at H
     have c5b0 : decide (0 ≤ x6_1) = true := decide_eq_true c5
     clear c5
     replace H := Option.bind_eq_some_iff.mp H
     obtain ⟨t279, A60, H⟩ := H
     replace H : (if t279 ≤ 0 then (cobwebref11_At.l0 k1 a1 (wrap64 (x5_1 + 1)) (wrap64 (x6_1 + 1)) l0_0 l0_1) else (cobwebref11_At.l0 k1 a1 x5_1 (wrap64 (x6_1 + 1)) l0_0 l0_1)) = some r := H
     have A6 := Aside0.mk A60
     clear A60
     by_cases c7 : t279 ≤ 0
     ·rw [if_pos c7] at H
      have c7b0 : decide (t279 ≤ 0) = true := decide_eq_true c7
      clear c7
      have H' := Aside0.mk H
      clear H
      have hcz8_0 : wr.cell? ⟨gb277, 0, none⟩ = some (.slice A0_0 l0_0.length c0_0) := (blk_cell BK277.out 0).trans rfl
      have hcz8_1 : wr.cell? ⟨gb277, 1, none⟩ = some (.slice A0_1 l0_1.length c0_1) := (blk_cell BK277.out 1).trans rfl
      have hfz8_0 := blk_frozen BK277.out 0
      have hfz8_1 := blk_frozen BK277.out 1
      have p278 : 0 ≤ (x6_1 : Int) := of_decide_eq_true (by first | (with_reducible assumption) | assumption)
      have q278 : x6_1 < (l0_0.length : Int) := of_decide_eq_true (by first | (with_reducible assumption) | assumption)
      obtain ⟨ad278, e278, hx278_0⟩ := Kd.at_string HR0_0.out x6_1 p278 q278
      cases e278
      replace hx278_0 := (HB.out.cell (World.block_lt_of_cell? w _ hx278_0)).trans hx278_0
      replace p278 := eq_true p278
      replace q278 := eq_true q278
      go_wp2_with (first | ((with_reducible refine gate_callee (f := 14) rfl ?_); refine goesL_ (some 20) rfl rfl Try.func14 (by kernel_rfl) rfl #[.string (rdOf ByteArray.empty l0_0 x6_1), .string a1] rfl (by (try simp only [List.map_toArray, List.map_cons, List.map_nil]); first | done | rfl | (simp only [List.length_drop, List.length_take]; rfl)) ?_; (with_reducible refine (cobwebref02_Order.calls k1 (rdOf ByteArray.empty l0_0 x6_1) a1 t279 _ A6.out).mono ?_); rintro e w' ⟨rfl, ⟨nd, rfl⟩⟩; refine ⟨_, rfl, ?_⟩))
      go_roundg k1
      case measure => have := HK1.out; omega
      case rel => exact ⟨(wrap64 (x5_1 + 1)), (wrap64 (x6_1 + 1)), (by first | rfl | (simp; done) | (simp [*]; done)), (by first | rfl | (simp; done) | (simp [*]; done)), H', ⟨by have := HK1.out; omega⟩, ⟨by (with_reducible repeat (first | refine blk_drewN ?_ _ | refine blk_drew ?_ | refine blk_alloc ?_ _)); exact BK277.out⟩, ⟨by repeat (first | (with_reducible first | exact HB.out | apply below_alloc | apply pw_below_drewN | apply below_drew1 | refine below_set ?_ GE277.out) | exact HB.out)⟩⟩
     ·rw [if_neg c7] at H
      have c7b0 : decide (t279 ≤ 0) = false := decide_eq_false c7
      clear c7
      have H' := Aside0.mk H
      clear H
      have hcz9_0 : wr.cell? ⟨gb277, 0, none⟩ = some (.slice A0_0 l0_0.length c0_0) := (blk_cell BK277.out 0).trans rfl
      have hcz9_1 : wr.cell? ⟨gb277, 1, none⟩ = some (.slice A0_1 l0_1.length c0_1) := (blk_cell BK277.out 1).trans rfl
      have hfz9_0 := blk_frozen BK277.out 0
      have hfz9_1 := blk_frozen BK277.out 1
      have p278 : 0 ≤ (x6_1 : Int) := of_decide_eq_true (by first | (with_reducible assumption) | assumption)
      have q278 : x6_1 < (l0_0.length : Int) := of_decide_eq_true (by first | (with_reducible assumption) | assumption)
      obtain ⟨ad278, e278, hx278_0⟩ := Kd.at_string HR0_0.out x6_1 p278 q278
      cases e278
      replace hx278_0 := (HB.out.cell (World.block_lt_of_cell? w _ hx278_0)).trans hx278_0
      replace p278 := eq_true p278
      replace q278 := eq_true q278
      go_wp2_with (first | ((with_reducible refine gate_callee (f := 14) rfl ?_); refine goesL_ (some 20) rfl rfl Try.func14 (by kernel_rfl) rfl #[.string (rdOf ByteArray.empty l0_0 x6_1), .string a1] rfl (by (try simp only [List.map_toArray, List.map_cons, List.map_nil]); first | done | rfl | (simp only [List.length_drop, List.length_take]; rfl)) ?_; (with_reducible refine (cobwebref02_Order.calls k1 (rdOf ByteArray.empty l0_0 x6_1) a1 t279 _ A6.out).mono ?_); rintro e w' ⟨rfl, ⟨nd, rfl⟩⟩; refine ⟨_, rfl, ?_⟩))
      go_roundg k1
      case measure => have := HK1.out; omega
      case rel => exact ⟨(x5_1), (wrap64 (x6_1 + 1)), (by first | rfl | (simp; done) | (simp [*]; done)), (by first | rfl | (simp; done) | (simp [*]; done)), H', ⟨by have := HK1.out; omega⟩, ⟨by (with_reducible repeat (first | refine blk_drewN ?_ _ | refine blk_drew ?_ | refine blk_alloc ?_ _)); exact BK277.out⟩, ⟨by repeat (first | (with_reducible first | exact HB.out | apply below_alloc | apply pw_below_drewN | apply below_drew1 | refine below_set ?_ GE277.out) | exact HB.out)⟩⟩
    ·rw [if_neg c5] at H
     exact absurd H (by simp)
   ·rw [if_neg c4] at H
    have c4b0 : decide (x6_1 < (l0_0.length : Int)) = false := decide_eq_false c4
    clear c4
    obtain rfl := Option.some.inj H
    have hcz10_0 : wr.cell? ⟨gb277, 0, none⟩ = some (.slice A0_0 l0_0.length c0_0) := (blk_cell BK277.out 0).trans rfl
    have hcz10_1 : wr.cell? ⟨gb277, 1, none⟩ = some (.slice A0_1 l0_1.length c0_1) := (blk_cell BK277.out 1).trans rfl
    have hfz10_0 := blk_frozen BK277.out 0
    have hfz10_1 := blk_frozen BK277.out 1
    go_wp2
    go_ret
    exact ⟨by first | rfl | (simp [errW_none, errW_some] <;> rfl) | (simp [*, errW_none, errW_some] <;> rfl), by repeat (first | (with_reducible first | exact HB.out | apply below_alloc | apply pw_below_drewN | apply below_drew1 | refine below_set ?_ GE277.out) | exact HB.out)⟩
end Go.Proofs.Ytneagipmllgejaa.PL
end
section
namespace Go.Proofs.Ytneagipmllgejaa.PL
open Go.RowKit Go.Proofs.YtneagipmllgejaaW.PrintWords Go.Proofs.YtneagipmllgejaaW.PrintLast Go.Proofs.YtneagipmllgejaaW.PrintMore
attribute [local go_sem] max2_int min2_int max_two min_two max_three min_three max_four min_four   -- for this text's walks alone
set_option linter.unusedVariables false
set_option linter.unusedSimpArgs false
def cobwebref11_Find.f (k : Nat) (l0_0 : List ByteArray) (l0_1 : List Int) (a1 : ByteArray) : Option (Int) := (cobwebref11_Root.f k l0_0 l0_1).bind fun t295 => (if t295 = true then ((cobwebref11_At.f k l0_0 l0_1 a1).bind fun t296 => (if 0 ≤ t296 then (if t296 < (l0_1.length : Int) then (some (rd l0_1 t296)) else (none)) else (none))) else (some 0))
theorem cobwebref11_Find.mono : ∀ a0 a1 a2 k, LeO (cobwebref11_Find.f k a0 a1 a2) (cobwebref11_Find.f (k + 1) a0 a1 a2) := by
  intro a0 a1 a2 k
  unfold cobwebref11_Find.f
  repeat' first
      | (with_reducible exact cobwebref11_At.mono _ _ _ _)
      | (with_reducible exact cobwebref11_Root.mono _ _ _)
      | (with_reducible exact LeO.refl _)
      | (with_reducible exact LeO.none _)
      | (with_reducible refine LeO.ite ?_ ?_)
      | (with_reducible refine LeO.bind ?_ (fun _ => ?_))
      | exact cobwebref11_At.mono _ _ _ _
      | exact cobwebref11_Root.mono _ _ _
      | exact LeO.none _
      | refine LeO.ite ?_ ?_
      | refine LeO.bind ?_ (fun _ => ?_)
def cobwebref11_Find.T3 : Bool × List (List Nat × List Nat) := (true, [([], []), ([0], [0]), ([], []), ([], []), ([2, 3], [2, 3]), ([1, 4], [1, 4]), ([5], [5]), ([6, 4, 0, 1, 2, 3, 4, 5, 6], [6])])
def cobwebref11_Find.B3 : List Nat := [0, 1, 0, 0, 12, 31, 63, 127]
theorem cobwebref11_Find.tab3 : rtab .any (opsOf Try.f26 3) = cobwebref11_Find.T3 := by kernel_rfl
theorem cobwebref11_Find.bits3 : waitsOk cobwebref11_Find.T3.2 cobwebref11_Find.B3 = true := by kernel_rfl
set_option maxHeartbeats 8000000 in
set_option maxRecDepth 100000 in
theorem cobwebref11_Find.calls (k : Nat) (A0_0 : Option Addr) (c0_0 : Nat) (l0_0 : List ByteArray) (A0_1 : Option Addr) (c0_1 : Nat) (l0_1 : List Int) (a1 : ByteArray) (r : Int) (w : World) (hr0_0 : Kd.C Kd.string w A0_0 l0_0.length l0_0) (hc0_0 : l0_0.length ≤ c0_0) (hr0_1 : Kd.C (Kd.int .i64) w A0_1 l0_1.length l0_1) (hc0_1 : l0_1.length ≤ c0_1) (h : cobwebref11_Find.f k l0_0 l0_1 a1 = some r) :
    Calls Try.prog 26 #[.agg #[.slice A0_0 l0_0.length c0_0, .slice A0_1 l0_1.length c0_1], .string a1] w fun e w' => e = .returned (.int .i64 r) ∧ Below w.heap.size w w' := by
  have hu26 := Try.underlying26
  have HR0_0 := Aside0.mk hr0_0
  have HC0_0 := Aside0.mk hc0_0
  clear hr0_0 hc0_0
  have HR0_1 := Aside0.mk hr0_1
  have HC0_1 := Aside0.mk hc0_1
  clear hr0_1 hc0_1
  have HB := Aside0.mk (Below.refl w.heap.size w)
  have H : ((cobwebref11_Root.f k l0_0 l0_1).bind fun t295 => (if t295 = true then ((cobwebref11_At.f k l0_0 l0_1 a1).bind fun t296 => (if 0 ≤ t296 then (if t296 < (l0_1.length : Int) then (some (rd l0_1 t296)) else (none)) else (none))) else (some 0))) = some r := h
  clear h
  replace H := Option.bind_eq_some_iff.mp H
  obtain ⟨t295, A30, H⟩ := H
  replace H : (if t295 = true then ((cobwebref11_At.f k l0_0 l0_1 a1).bind fun t296 => (if 0 ≤ t296 then (if t296 < (l0_1.length : Int) then (some (rd l0_1 t296)) else (none)) else (none))) else (some 0)) = some r := H
  have A3 := Aside0.mk A30
  clear A30
  by_cases c4 : t295 = true
  · subst c4
    have H1 : ((cobwebref11_At.f k l0_0 l0_1 a1).bind fun t296 => (if 0 ≤ t296 then (if t296 < (l0_1.length : Int) then (some (rd l0_1 t296)) else (none)) else (none))) = some r := by rw [if_pos rfl] at H; exact H
    clear H
    have H := H1
    clear H1
    replace H := Option.bind_eq_some_iff.mp H
    obtain ⟨t296, A50, H⟩ := H
    replace H : (if 0 ≤ t296 then (if t296 < (l0_1.length : Int) then (some (rd l0_1 t296)) else (none)) else (none)) = some r := H
    have A5 := Aside0.mk A50
    clear A50
    by_cases c6 : 0 ≤ t296
    · rw [if_pos c6] at H
      have c6b0 : decide (0 ≤ t296) = true := decide_eq_true c6
      clear c6
      by_cases c7 : t296 < (l0_1.length : Int)
      · rw [if_pos c7] at H
        have c7b0 : decide (t296 < (l0_1.length : Int)) = true := decide_eq_true c7
        clear c7
        obtain rfl := Option.some.inj H
        go_enter Try.func26, Try.ntmps26
        try go_wp2_with (first | ((with_reducible refine gate_dst (N := 2) rfl ?_); refine box_event ?hg (N := 2) ?hd (cs := #[.slice A0_0 l0_0.length c0_0, .slice A0_1 l0_1.length c0_1]) (t := 26) ?hr ?_; (case hd => rfl); (case hg => rfl); (case hr => first | (go_simp; done) | (go_simp; rfl)); intro gb294 hg w8 hbox hb; have n0_ := Aside0.mk (below_step (by repeat (first | (with_reducible first | exact HB.out | apply below_alloc | apply pw_below_drewN | apply below_drew1) | exact HB.out)) hb); have n1_ := Aside0.mk (hbox); have n2_ := Aside0.mk ((by rw [hg]; exact (below_size (by repeat (first | (with_reducible first | exact HB.out | apply below_alloc | apply pw_below_drewN | apply below_drew1) | exact HB.out))) : w.heap.size ≤ gb294)); have n3_ := Aside0.mk ((by rw [hg]; exact (below_size (by repeat (first | (with_reducible first | exact HB.out | apply below_alloc | apply pw_below_drewN | apply below_drew1) | exact HB.out))) : w.heap.size ≤ gb294)); clear HB; have HB := n0_; have BK294 := n1_; have GW294 := n2_; have GE294 := n3_; clear n0_ n1_ n2_ n3_; clear hb hbox hg; have hcz9_0 : w8.cell? ⟨gb294, 0, none⟩ = some (.slice A0_0 l0_0.length c0_0) := (blk_cell BK294.out 0).trans rfl; have hcz9_1 : w8.cell? ⟨gb294, 1, none⟩ = some (.slice A0_1 l0_1.length c0_1) := (blk_cell BK294.out 1).trans rfl; have hfz9_0 := blk_frozen BK294.out 0; have hfz9_1 := blk_frozen BK294.out 1) | ((with_reducible refine gate_callee (f := 47) rfl ?_); refine goesL_ (some 6) rfl rfl Try.func47 (by kernel_rfl) rfl #[.agg #[.slice A0_0 l0_0.length c0_0, .slice A0_1 l0_1.length c0_1]] rfl (by (try simp only [List.map_toArray, List.map_cons, List.map_nil]); first | done | rfl | (simp only [List.length_drop, List.length_take]; rfl)) ?_; (with_reducible refine (cobwebref11_Root.calls k _ _ l0_0 _ _ l0_1 true _ ?side1 ?side2 ?side3 ?side4 A3.out).mono ?_); (case side1 => repeat (first | exact (Kd.C_below HR0_0.out HB.out) | (with_reducible refine Kd.C_alloc ?_ _) | (with_reducible refine Kd.C_drewN ?_ _) | (with_reducible refine Kd.C_drew ?_))); (case side2 => exact HC0_0.out); (case side3 => repeat (first | exact (Kd.C_below HR0_1.out HB.out) | (with_reducible refine Kd.C_alloc ?_ _) | (with_reducible refine Kd.C_drewN ?_ _) | (with_reducible refine Kd.C_drew ?_))); (case side4 => exact HC0_1.out); rintro e w10 ⟨rfl, hb⟩; refine ⟨_, rfl, ?_⟩; have n0_ := Aside0.mk (blk_below (g := gb294) (o := .cells #[.slice A0_0 l0_0.length c0_0, .slice A0_1 l0_1.length c0_1] 26 (0, 0)) (by (with_reducible repeat (first | refine blk_drewN ?_ _ | refine blk_drew ?_ | refine blk_alloc ?_ _)); exact BK294.out) hb); have n1_ := Aside0.mk (below_step (by repeat (first | (with_reducible first | exact HB.out | apply below_alloc | apply pw_below_drewN | apply below_drew1 | refine below_set ?_ GE294.out) | exact HB.out)) hb); clear BK294; clear HB; have BK294 := n0_; have HB := n1_; clear n0_ n1_; (try clear hb); (try clear hb2); (try clear hk); (try clear hi)))
        have n0_ := Aside0.mk (blk_drew BK294.out)
        have n1_ := Aside0.mk (below_drew1 HB.out)
        clear BK294
        clear HB
        have BK294 := n0_
        have HB := n1_
        clear n0_ n1_
        have p297 : 0 ≤ (t296 : Int) := of_decide_eq_true (by first | (with_reducible assumption) | assumption)
        have q297 : t296 < (l0_1.length : Int) := of_decide_eq_true (by first | (with_reducible assumption) | assumption)
        obtain ⟨ad297, e297, hx297_0⟩ := Kd.at_int HR0_1.out t296 p297 q297
        have hw297_0 := hx297_0
        cases e297
        replace hx297_0 := (HB.out.cell (World.block_lt_of_cell? w _ hx297_0)).trans hx297_0
        replace p297 := eq_true p297
        replace q297 := eq_true q297
        refine start_ (n := 8) (S := fun w' => w'.cell? ⟨gb294, 0, none⟩ = some (.slice A0_0 l0_0.length c0_0) ∧ w'.cell? ⟨gb294, 1, none⟩ = some (.slice (some ad297) l0_1.length c0_1) ∧ w'.cell? (ad297.add (t296).toNat) = some (.int .i64 (rd l0_1 t296))) (ds := []) #[false, false, false, false, false, false, false, false] (by kernel_rfl) rfl rfl ⟨(blk_cell BK294.out 0).trans rfl, (blk_cell BK294.out 1).trans rfl, ((HB.out.cell (World.block_lt_of_cell? w _ hw297_0)).trans hw297_0)⟩ (fun hHeld => ?_); refine with_tabW cobwebref11_Find.tab3 cobwebref11_Find.bits3 (fun HT_ HW_ => ?_)
        generalize w10.drew = w11 at BK294 HB hx297_0 hHeld ⊢
        refine pure_ (i := 0) (N := some 8) (v := ?_) (a' := ?_) #[true, false, false, false, false, false, false, false] rfl rfl (any_of HT_.out (by kernel_rfl)) (fun _ _ _ h => h) (Or.inl ⟨by rfl, ?_⟩) ?_ ?_
        rotate_left
        · intro w'
          go_simp
          with_reducible rfl
        rotate_left
        · simp only [Act.put, List.setIfInBounds_toArray, List.set_cons_zero, List.set_cons_succ, i64_w, i32_w]
          rfl
        refine pure_ (i := 3) (N := some 11) (v := ?_) (a' := ?_) #[true, false, false, true, false, false, false, false] rfl rfl (any_of HT_.out (by kernel_rfl)) (fun _ _ _ h => h) (Or.inl ⟨by rfl, ?_⟩) ?_ ?_
        rotate_left
        · intro w'
          go_simp
          with_reducible rfl
        rotate_left
        · simp only [Act.put, List.setIfInBounds_toArray, List.set_cons_zero, List.set_cons_succ, i64_w, i32_w]
          rfl
        refine take_ (i := 1) (N := some 9) (v := ?_) (a' := ?_) #[true, true, false, true, false, false, false, false] rfl rfl (take_ofW HT_.out HW_.out (by kernel_rfl)) (fun _ _ _ h => h) (Or.inl ⟨by rfl, ?_⟩) hHeld ?_ ?_
        rotate_left
        · rintro w' ⟨s0, s1, s2⟩
          go_simp
          with_reducible rfl
        rotate_left
        · simp only [Act.put, List.setIfInBounds_toArray, List.set_cons_zero, List.set_cons_succ, i64_w, i32_w]
          rfl
        refine take_ (i := 2) (N := some 10) (v := ?_) (a' := ?_) #[true, true, true, true, false, false, false, false] rfl rfl (take_ofW HT_.out HW_.out (by kernel_rfl)) (fun _ _ _ h => h) (Or.inl ⟨by rfl, ?_⟩) hHeld ?_ ?_
        rotate_left
        · rintro w' ⟨s0, s1, s2⟩
          go_simp
          with_reducible rfl
        rotate_left
        · simp only [Act.put, List.setIfInBounds_toArray, List.set_cons_zero, List.set_cons_succ, i64_w, i32_w]
          rfl
        refine one_ (i := 4) (N := some 12) #[true, true, true, true, true, false, false, false] rfl rfl (one_of HT_.out (by kernel_rfl)) (by decide) (fun K hK => ?_)
        refine goes_ Try.func51 (by kernel_rfl) rfl #[.agg #[.slice A0_0 l0_0.length c0_0, .slice (some ad297) l0_1.length c0_1], .string a1] (by rfl) rfl rfl (by (try simp only [List.map_toArray, List.map_cons, List.map_nil]); first | done | rfl | (simp only [List.length_drop, List.length_take]; rfl)) ?_
        with_reducible refine (cobwebref11_At.calls k _ _ l0_0 _ _ l0_1 a1 t296 _ ?side1 ?side2 ?side3 ?side4 A5.out).mono ?_
        (case side1 => repeat (first | exact (Kd.C_below HR0_0.out HB.out) | (with_reducible refine Kd.C_alloc ?_ _) | (with_reducible refine Kd.C_drewN ?_ _) | (with_reducible refine Kd.C_drew ?_)))
        (case side2 => exact HC0_0.out)
        (case side3 => repeat (first | exact (Kd.C_below HR0_1.out HB.out) | (with_reducible refine Kd.C_alloc ?_ _) | (with_reducible refine Kd.C_drewN ?_ _) | (with_reducible refine Kd.C_drew ?_)))
        (case side4 => exact HC0_1.out)
        rintro e w12 ⟨rfl, hb⟩
        refine ⟨_, rfl, ?_⟩
        have n0_ := Aside0.mk (blk_below (g := gb294) (o := .cells #[.slice A0_0 l0_0.length c0_0, .slice (some ad297) l0_1.length c0_1] 26 (0, 0)) (by (with_reducible repeat (first | refine blk_drewN ?_ _ | refine blk_drew ?_ | refine blk_alloc ?_ _)); exact BK294.out) hb)
        have n1_ := Aside0.mk (below_step (by repeat (first | (with_reducible first | exact HB.out | apply below_alloc | apply pw_below_drewN | apply below_drew1 | refine below_set ?_ GE294.out) | exact HB.out)) hb)
        clear BK294
        clear HB
        have BK294 := n0_
        have HB := n1_
        clear n0_ n1_
        (try clear hb)
        (try clear hb2)
        (try clear hk)
        (try clear hi)
        refine hK.out _ _ ⟨(blk_cell BK294.out 0).trans rfl, (blk_cell BK294.out 1).trans rfl, ((HB.out.cell (World.block_lt_of_cell? w _ hw297_0)).trans hw297_0)⟩ (fun hHeld => ?_)
        clear hK K
        refine norm_ (a' := ?_) ?_ ?_
        rotate_left
        · show Act.put _ (some 12) _ = _
          simp only [Act.put, List.setIfInBounds_toArray, List.set_cons_zero, List.set_cons_succ, i64_w, i32_w]
          rfl
        refine pure_ (i := 5) (N := some 13) (v := ?_) (a' := ?_) #[true, true, true, true, true, true, false, false] rfl rfl (any_of HT_.out (by kernel_rfl)) (fun _ _ _ h => h) (Or.inl ⟨by rfl, ?_⟩) ?_ ?_
        rotate_left
        · intro w'
          go_simp
          with_reducible rfl
        rotate_left
        · simp only [Act.put, List.setIfInBounds_toArray, List.set_cons_zero, List.set_cons_succ, i64_w, i32_w]
          rfl
        refine take_ (i := 6) (N := some 14) (v := ?_) (a' := ?_) #[true, true, true, true, true, true, true, false] rfl rfl (take_ofW HT_.out HW_.out (by kernel_rfl)) (fun _ _ _ h => h) (Or.inl ⟨by rfl, ?_⟩) hHeld ?_ ?_
        rotate_left
        · rintro w' ⟨s0, s1, s2⟩
          go_simp
          with_reducible rfl
        rotate_left
        · simp only [Act.put, List.setIfInBounds_toArray, List.set_cons_zero, List.set_cons_succ, i64_w, i32_w]
          rfl
        refine pure_ (i := 7) (N := some 4) (v := ?_) (a' := ?_) #[true, true, true, true, true, true, true, true] rfl rfl (any_of HT_.out (by kernel_rfl)) (fun _ _ _ h => h) (Or.inl ⟨by rfl, ?_⟩) ?_ ?_
        rotate_left
        · intro w'
          go_simp
          with_reducible rfl
        rotate_left
        · simp only [Act.put, List.setIfInBounds_toArray, List.set_cons_zero, List.set_cons_succ, i64_w, i32_w]
          rfl
        refine done_ (done_of HT_.out (by kernel_rfl)) ?_
        try go_wp2
        go_ret
        exact ⟨by first | rfl | (simp [errW_none, errW_some] <;> rfl) | (simp [*, errW_none, errW_some] <;> rfl), by repeat (first | (with_reducible first | exact HB.out | apply below_alloc | apply pw_below_drewN | apply below_drew1 | refine below_set ?_ GE294.out) | exact HB.out)⟩
      · rw [if_neg c7] at H
        exact absurd H (by simp)
    · rw [if_neg c6] at H
      exact absurd H (by simp)
  · replace c4 := Bool.eq_false_iff.mpr c4
    subst c4
    have H1 : (some 0) = some r := by rw [if_neg (show ¬ (false = true) by decide)] at H; exact H
    clear H
    have H := H1
    clear H1
    obtain rfl := Option.some.inj H
    go_enter Try.func26, Try.ntmps26
    go_wp2_with (first | ((with_reducible refine gate_dst (N := 2) rfl ?_); refine box_event ?hg (N := 2) ?hd (cs := #[.slice A0_0 l0_0.length c0_0, .slice A0_1 l0_1.length c0_1]) (t := 26) ?hr ?_; (case hd => rfl); (case hg => rfl); (case hr => first | (go_simp; done) | (go_simp; rfl)); intro gb294 hg w13 hbox hb; have n0_ := Aside0.mk (below_step (by repeat (first | (with_reducible first | exact HB.out | apply below_alloc | apply pw_below_drewN | apply below_drew1) | exact HB.out)) hb); have n1_ := Aside0.mk (hbox); have n2_ := Aside0.mk ((by rw [hg]; exact (below_size (by repeat (first | (with_reducible first | exact HB.out | apply below_alloc | apply pw_below_drewN | apply below_drew1) | exact HB.out))) : w.heap.size ≤ gb294)); have n3_ := Aside0.mk ((by rw [hg]; exact (below_size (by repeat (first | (with_reducible first | exact HB.out | apply below_alloc | apply pw_below_drewN | apply below_drew1) | exact HB.out))) : w.heap.size ≤ gb294)); clear HB; have HB := n0_; have BK294 := n1_; have GW294 := n2_; have GE294 := n3_; clear n0_ n1_ n2_ n3_; clear hb hbox hg; have hcz14_0 : w13.cell? ⟨gb294, 0, none⟩ = some (.slice A0_0 l0_0.length c0_0) := (blk_cell BK294.out 0).trans rfl; have hcz14_1 : w13.cell? ⟨gb294, 1, none⟩ = some (.slice A0_1 l0_1.length c0_1) := (blk_cell BK294.out 1).trans rfl; have hfz14_0 := blk_frozen BK294.out 0; have hfz14_1 := blk_frozen BK294.out 1) | ((with_reducible refine gate_callee (f := 47) rfl ?_); refine goesL_ (some 6) rfl rfl Try.func47 (by kernel_rfl) rfl #[.agg #[.slice A0_0 l0_0.length c0_0, .slice A0_1 l0_1.length c0_1]] rfl (by (try simp only [List.map_toArray, List.map_cons, List.map_nil]); first | done | rfl | (simp only [List.length_drop, List.length_take]; rfl)) ?_; (with_reducible refine (cobwebref11_Root.calls k _ _ l0_0 _ _ l0_1 false _ ?side1 ?side2 ?side3 ?side4 A3.out).mono ?_); (case side1 => repeat (first | exact (Kd.C_below HR0_0.out HB.out) | (with_reducible refine Kd.C_alloc ?_ _) | (with_reducible refine Kd.C_drewN ?_ _) | (with_reducible refine Kd.C_drew ?_))); (case side2 => exact HC0_0.out); (case side3 => repeat (first | exact (Kd.C_below HR0_1.out HB.out) | (with_reducible refine Kd.C_alloc ?_ _) | (with_reducible refine Kd.C_drewN ?_ _) | (with_reducible refine Kd.C_drew ?_))); (case side4 => exact HC0_1.out); rintro e w15 ⟨rfl, hb⟩; refine ⟨_, rfl, ?_⟩; have n0_ := Aside0.mk (blk_below (g := gb294) (o := .cells #[.slice A0_0 l0_0.length c0_0, .slice A0_1 l0_1.length c0_1] 26 (0, 0)) (by (with_reducible repeat (first | refine blk_drewN ?_ _ | refine blk_drew ?_ | refine blk_alloc ?_ _)); exact BK294.out) hb); have n1_ := Aside0.mk (below_step (by repeat (first | (with_reducible first | exact HB.out | apply below_alloc | apply pw_below_drewN | apply below_drew1 | refine below_set ?_ GE294.out) | exact HB.out)) hb); clear BK294; clear HB; have BK294 := n0_; have HB := n1_; clear n0_ n1_; (try clear hb); (try clear hb2); (try clear hk); (try clear hi)))
    go_ret
    exact ⟨by first | rfl | (simp [errW_none, errW_some] <;> rfl) | (simp [*, errW_none, errW_some] <;> rfl), by repeat (first | (with_reducible first | exact HB.out | apply below_alloc | apply pw_below_drewN | apply below_drew1 | refine below_set ?_ GE294.out) | exact HB.out)⟩
end Go.Proofs.Ytneagipmllgejaa.PL
end
section
namespace Go.Proofs.Ytneagipmllgejaa.PL
open Go.RowKit Go.Proofs.YtneagipmllgejaaW.PrintWords Go.Proofs.YtneagipmllgejaaW.PrintLast Go.Proofs.YtneagipmllgejaaW.PrintMore
attribute [local go_sem] max2_int min2_int max_two min_two max_three min_three max_four min_four   -- for this text's walks alone
set_option linter.unusedVariables false
set_option linter.unusedSimpArgs false
def cobwebref11_Leaf.f (k : Nat) (a0_0 : Int) (l0_1 : List ByteArray) (a0_2 : Bool) : Option (Bool) := if a0_2 = true then (some false) else (if (l0_1.length : Int) ≤ 4 then ((cobwebref11_Rise.f k l0_1).bind fun t281 => (some t281)) else (some false))
theorem cobwebref11_Leaf.mono : ∀ a0 a1 a2 k, LeO (cobwebref11_Leaf.f k a0 a1 a2) (cobwebref11_Leaf.f (k + 1) a0 a1 a2) := by
 intro a0 a1 a2 k
 unfold cobwebref11_Leaf.f
 repeat' first
   | (with_reducible exact cobwebref11_Rise.mono _ _)
   | (with_reducible exact LeO.refl _)
   | (with_reducible exact LeO.none _)
   | (with_reducible refine LeO.ite ?_ ?_)
   | (with_reducible refine LeO.bind ?_ (fun _ => ?_))
   | exact cobwebref11_Rise.mono _ _
   | exact LeO.none _
   | refine LeO.ite ?_ ?_
   | refine LeO.bind ?_ (fun _ => ?_)
set_option maxHeartbeats 8000000 in
set_option maxRecDepth 100000 in
theorem cobwebref11_Leaf.calls (k : Nat) (a0_0 : Int) (A0_1 : Option Addr) (c0_1 : Nat) (l0_1 : List ByteArray) (a0_2 : Bool) (r : Bool) (w : World) (hr0_1 : Kd.C Kd.string w A0_1 l0_1.length l0_1) (hc0_1 : l0_1.length ≤ c0_1) (h : cobwebref11_Leaf.f k a0_0 l0_1 a0_2 = some r) :
  Calls Try.prog 48 #[.agg #[.int .i64 a0_0, .slice A0_1 l0_1.length c0_1, .bool a0_2]] w fun e w' => e = .returned (.bool r) ∧ Below w.heap.size w w' := by
 have hu28 := Try.underlying28
 have HR0_1 := Aside0.mk hr0_1
 have HC0_1 := Aside0.mk hc0_1
 clear hr0_1 hc0_1
 have HB := Aside0.mk (Below.refl w.heap.size w)
 have H : (if a0_2 = true then (some false) else (if (l0_1.length : Int) ≤ 4 then ((cobwebref11_Rise.f k l0_1).bind fun t281 => (some t281)) else (some false))) = some r := h
 clear h
 by_cases c2 : a0_2 = true
 ·subst c2
  have H1 : (some false) = some r := by rw [if_pos rfl] at H; exact H
  clear H
  have H := H1
  clear H1
  obtain rfl := Option.some.inj H
  go_enter Try.func48, Try.ntmps48
  go_wp2_with (first | ((with_reducible refine gate_dst (N := 1) rfl ?_); (try (refine gate_guard (by rfl) ?_; dsimp only)); refine box_event ?hg (N := 1) ?hd (cs := #[.int .i64 a0_0, .slice A0_1 l0_1.length c0_1, .bool true]) (t := 28) ?hr ?_; (case hd => rfl); (case hg => rfl); (case hr => first | (go_simp; done) | (go_simp; rfl)); intro gb280 hg w3 hbox hb; have n0_ := Aside0.mk (below_step (by repeat (first | (with_reducible first | exact HB.out | apply below_alloc | apply pw_below_drewN | apply below_drew1) | exact HB.out)) hb); have n1_ := Aside0.mk (hbox); have n2_ := Aside0.mk ((by rw [hg]; exact (below_size (by repeat (first | (with_reducible first | exact HB.out | apply below_alloc | apply pw_below_drewN | apply below_drew1) | exact HB.out))) : w.heap.size ≤ gb280)); have n3_ := Aside0.mk ((by rw [hg]; exact (below_size (by repeat (first | (with_reducible first | exact HB.out | apply below_alloc | apply pw_below_drewN | apply below_drew1) | exact HB.out))) : w.heap.size ≤ gb280)); clear HB; have HB := n0_; have BK280 := n1_; have GW280 := n2_; have GE280 := n3_; clear n0_ n1_ n2_ n3_; clear hb hbox hg; have hcz4_0 : w3.cell? ⟨gb280, 0, none⟩ = some (.int .i64 a0_0) := (blk_cell BK280.out 0).trans rfl; have hcz4_1 : w3.cell? ⟨gb280, 1, none⟩ = some (.slice A0_1 l0_1.length c0_1) := (blk_cell BK280.out 1).trans rfl; have hcz4_2 : w3.cell? ⟨gb280, 2, none⟩ = some (.bool true) := (blk_cell BK280.out 2).trans rfl; have hfz4_0 := blk_frozen BK280.out 0; have hfz4_1 := blk_frozen BK280.out 1; have hfz4_2 := blk_frozen BK280.out 2))
  go_ret
  exact ⟨by first | rfl | (simp [errW_none, errW_some] <;> rfl) | (simp [*, errW_none, errW_some] <;> rfl), by repeat (first | (with_reducible first | exact HB.out | apply below_alloc | apply pw_below_drewN | apply below_drew1 | refine below_set ?_ GE280.out) | exact HB.out)⟩
 ·replace c2 := Bool.eq_false_iff.mpr c2
  subst c2
  have H1 : (if (l0_1.length : Int) ≤ 4 then ((cobwebref11_Rise.f k l0_1).bind fun t281 => (some t281)) else (some false)) = some r := by rw [if_neg (show ¬ (false = true) by decide)] at H; exact H
  clear H
  have H := H1
  clear H1
  by_cases c5 : (l0_1.length : Int) ≤ 4
  ·rw [if_pos c5] at H
   have c5b0 : decide ((l0_1.length : Int) ≤ 4) = true := decide_eq_true c5
   have c5b1 : decide (l0_1.length ≤ 4) = true := decide_eq_true (by omega)
   clear c5
   replace H := Option.bind_eq_some_iff.mp H
   obtain ⟨t281, A60, H⟩ := H
   replace H : (some t281) = some r := H
   have A6 := Aside0.mk A60
   clear A60
   obtain rfl := Option.some.inj H
   go_enter Try.func48, Try.ntmps48
   go_wp2_with (first | ((with_reducible refine gate_dst (N := 1) rfl ?_); (try (refine gate_guard (by rfl) ?_; dsimp only)); refine box_event ?hg (N := 1) ?hd (cs := #[.int .i64 a0_0, .slice A0_1 l0_1.length c0_1, .bool false]) (t := 28) ?hr ?_; (case hd => rfl); (case hg => rfl); (case hr => first | (go_simp; done) | (go_simp; rfl)); intro gb280 hg w7 hbox hb; have n0_ := Aside0.mk (below_step (by repeat (first | (with_reducible first | exact HB.out | apply below_alloc | apply pw_below_drewN | apply below_drew1) | exact HB.out)) hb); have n1_ := Aside0.mk (hbox); have n2_ := Aside0.mk ((by rw [hg]; exact (below_size (by repeat (first | (with_reducible first | exact HB.out | apply below_alloc | apply pw_below_drewN | apply below_drew1) | exact HB.out))) : w.heap.size ≤ gb280)); have n3_ := Aside0.mk ((by rw [hg]; exact (below_size (by repeat (first | (with_reducible first | exact HB.out | apply below_alloc | apply pw_below_drewN | apply below_drew1) | exact HB.out))) : w.heap.size ≤ gb280)); clear HB; have HB := n0_; have BK280 := n1_; have GW280 := n2_; have GE280 := n3_; clear n0_ n1_ n2_ n3_; clear hb hbox hg; have hcz8_0 : w7.cell? ⟨gb280, 0, none⟩ = some (.int .i64 a0_0) := (blk_cell BK280.out 0).trans rfl; have hcz8_1 : w7.cell? ⟨gb280, 1, none⟩ = some (.slice A0_1 l0_1.length c0_1) := (blk_cell BK280.out 1).trans rfl; have hcz8_2 : w7.cell? ⟨gb280, 2, none⟩ = some (.bool false) := (blk_cell BK280.out 2).trans rfl; have hfz8_0 := blk_frozen BK280.out 0; have hfz8_1 := blk_frozen BK280.out 1; have hfz8_2 := blk_frozen BK280.out 2) | (go_at_call 16; (with_reducible refine (cobwebref11_Rise.calls k _ _ l0_1 t281 _ ?side1 ?side2 A6.out).mono ?_); (case side1 => repeat (first | exact (Kd.C_below HR0_1.out HB.out) | (with_reducible refine Kd.C_alloc ?_ _) | (with_reducible refine Kd.C_drewN ?_ _) | (with_reducible refine Kd.C_drew ?_))); (case side2 => exact HC0_1.out); rintro e w' ⟨rfl, ⟨nd, rfl⟩⟩))
   go_ret
   exact ⟨by first | rfl | (simp [errW_none, errW_some] <;> rfl) | (simp [*, errW_none, errW_some] <;> rfl), by repeat (first | (with_reducible first | exact HB.out | apply below_alloc | apply pw_below_drewN | apply below_drew1 | refine below_set ?_ GE280.out) | exact HB.out)⟩
  ·rw [if_neg c5] at H
   have c5b0 : decide ((l0_1.length : Int) ≤ 4) = false := decide_eq_false c5
   have c5b1 : decide (l0_1.length ≤ 4) = false := decide_eq_false (by omega)
   clear c5
   obtain rfl := Option.some.inj H
   go_enter Try.func48, Try.ntmps48
   go_wp2_with (first | ((with_reducible refine gate_dst (N := 1) rfl ?_); (try (refine gate_guard (by rfl) ?_; dsimp only)); refine box_event ?hg (N := 1) ?hd (cs := #[.int .i64 a0_0, .slice A0_1 l0_1.length c0_1, .bool false]) (t := 28) ?hr ?_; (case hd => rfl); (case hg => rfl); (case hr => first | (go_simp; done) | (go_simp; rfl)); intro gb280 hg w9 hbox hb; have n0_ := Aside0.mk (below_step (by repeat (first | (with_reducible first | exact HB.out | apply below_alloc | apply pw_below_drewN | apply below_drew1) | exact HB.out)) hb); have n1_ := Aside0.mk (hbox); have n2_ := Aside0.mk ((by rw [hg]; exact (below_size (by repeat (first | (with_reducible first | exact HB.out | apply below_alloc | apply pw_below_drewN | apply below_drew1) | exact HB.out))) : w.heap.size ≤ gb280)); have n3_ := Aside0.mk ((by rw [hg]; exact (below_size (by repeat (first | (with_reducible first | exact HB.out | apply below_alloc | apply pw_below_drewN | apply below_drew1) | exact HB.out))) : w.heap.size ≤ gb280)); clear HB; have HB := n0_; have BK280 := n1_; have GW280 := n2_; have GE280 := n3_; clear n0_ n1_ n2_ n3_; clear hb hbox hg; have hcz10_0 : w9.cell? ⟨gb280, 0, none⟩ = some (.int .i64 a0_0) := (blk_cell BK280.out 0).trans rfl; have hcz10_1 : w9.cell? ⟨gb280, 1, none⟩ = some (.slice A0_1 l0_1.length c0_1) := (blk_cell BK280.out 1).trans rfl; have hcz10_2 : w9.cell? ⟨gb280, 2, none⟩ = some (.bool false) := (blk_cell BK280.out 2).trans rfl; have hfz10_0 := blk_frozen BK280.out 0; have hfz10_1 := blk_frozen BK280.out 1; have hfz10_2 := blk_frozen BK280.out 2))
   go_ret
   exact ⟨by first | rfl | (simp [errW_none, errW_some] <;> rfl) | (simp [*, errW_none, errW_some] <;> rfl), by repeat (first | (with_reducible first | exact HB.out | apply below_alloc | apply pw_below_drewN | apply below_drew1 | refine below_set ?_ GE280.out) | exact HB.out)⟩
end Go.Proofs.Ytneagipmllgejaa.PL
end
section
namespace Go.Proofs.Ytneagipmllgejaa.PL
open Go.RowKit Go.Proofs.YtneagipmllgejaaW.PrintWords Go.Proofs.YtneagipmllgejaaW.PrintLast Go.Proofs.YtneagipmllgejaaW.PrintMore
attribute [local go_sem] max2_int min2_int max_two min_two max_three min_three max_four min_four   -- for this text's walks alone
set_option linter.unusedVariables false
set_option linter.unusedSimpArgs false
mutual
def cobwebref11_Right.j0 : Nat → List (S28) → Bool → List ByteArray → List Int → Option (Bool)
  | 0, _, _, _, _ => none
  | k + 1, x1, x17, x461000, x461001 => if x17 = true then (some false) else (cobwebref11_Right.l0 k x1 0 x461000 x461001)
def cobwebref11_Right.l0 : Nat → List (S28) → Int → List ByteArray → List Int → Option (Bool)
  | 0, _, _, _, _ => none
  | k + 1, x1, x5, x461000, x461001 => if x5 < (x1.length : Int) then (if 0 ≤ x5 then ((cobwebref11_Leaf.f k ((rd_T28 x1 x5).f0) ((rd_T28 x1 x5).f1) ((rd_T28 x1 x5).f2)).bind fun t463 => (if t463 = true then (if x5 < (x461001.length : Int) then (cobwebref11_Right.j2 k x1 x5 (((rd_T28 x1 x5).f0) != (rd x461001 x5)) x461000 x461001) else (none)) else (cobwebref11_Right.j2 k x1 x5 true x461000 x461001))) else (none)) else (some true)
def cobwebref11_Right.j2 : Nat → List (S28) → Int → Bool → List ByteArray → List Int → Option (Bool)
  | 0, _, _, _, _, _ => none
  | k + 1, x1, x5, x42, x461000, x461001 => if x42 = true then (some false) else (cobwebref11_Right.l1 k x1 x5 0 x461000 x461001)
def cobwebref11_Right.l1 : Nat → List (S28) → Int → Int → List ByteArray → List Int → Option (Bool)
  | 0, _, _, _, _, _ => none
  | k + 1, x1, x5, x6, x461000, x461001 => if 0 ≤ x5 then (if x5 < (x1.length : Int) then (if x6 < (((rd_T28 x1 x5).f1).length : Int) then (if 0 ≤ x6 then ((cobwebref11_At.f k x461000 x461001 (rdOf ByteArray.empty ((rd_T28 x1 x5).f1) x6)).bind fun t469 => (if t469 = x5 then (cobwebref11_Right.l1 k x1 x5 (wrap64 (x6 + 1)) x461000 x461001) else (some false))) else (none)) else (cobwebref11_Right.l0 k x1 (wrap64 (x5 + 1)) x461000 x461001)) else (none)) else (none)
end
def cobwebref11_Right.f (k : Nat) (l0_0 : List ByteArray) (l0_1 : List Int) (l1 : List (S28)) : Option (Bool) := (cobwebref11_Root.f k l0_0 l0_1).bind fun t461 => (if t461 = true then (cobwebref11_Right.j0 k l1 ((l1.length : Int) != (l0_1.length : Int)) l0_0 l0_1) else (cobwebref11_Right.j0 k l1 true l0_0 l0_1))
theorem cobwebref11_Right.mono_l : ∀ k, (∀ y0 y1 y2 y3, LeO (cobwebref11_Right.j0 k y0 y1 y2 y3) (cobwebref11_Right.j0 (k + 1) y0 y1 y2 y3)) ∧ (∀ y0 y1 y2 y3, LeO (cobwebref11_Right.l0 k y0 y1 y2 y3) (cobwebref11_Right.l0 (k + 1) y0 y1 y2 y3)) ∧ (∀ y0 y1 y2 y3 y4, LeO (cobwebref11_Right.j2 k y0 y1 y2 y3 y4) (cobwebref11_Right.j2 (k + 1) y0 y1 y2 y3 y4)) ∧ (∀ y0 y1 y2 y3 y4, LeO (cobwebref11_Right.l1 k y0 y1 y2 y3 y4) (cobwebref11_Right.l1 (k + 1) y0 y1 y2 y3 y4))
  | 0 => ⟨fun _ _ _ _ r h => by simp [cobwebref11_Right.j0] at h, fun _ _ _ _ r h => by simp [cobwebref11_Right.l0] at h, fun _ _ _ _ _ r h => by simp [cobwebref11_Right.j2] at h, fun _ _ _ _ _ r h => by simp [cobwebref11_Right.l1] at h⟩
  | k + 1 => by
    obtain ⟨ih0, ih1, ih2, ih3⟩ := cobwebref11_Right.mono_l k
    refine ⟨?_, ?_, ?_, ?_⟩
    · intro y0 y1 y2 y3
      unfold cobwebref11_Right.j0
      repeat' first
      | (with_reducible exact ih0 _ _ _ _)
      | (with_reducible exact ih1 _ _ _ _)
      | (with_reducible exact ih2 _ _ _ _ _)
      | (with_reducible exact ih3 _ _ _ _ _)
      | (with_reducible exact cobwebref11_At.mono _ _ _ _)
      | (with_reducible exact cobwebref11_Leaf.mono _ _ _ _)
      | (with_reducible exact cobwebref11_Root.mono _ _ _)
      | (with_reducible exact LeO.refl _)
      | (with_reducible exact LeO.none _)
      | (with_reducible refine LeO.ite ?_ ?_)
      | (with_reducible refine LeO.bind ?_ (fun _ => ?_))
      | exact ih0 _ _ _ _
      | exact ih1 _ _ _ _
      | exact ih2 _ _ _ _ _
      | exact ih3 _ _ _ _ _
      | exact cobwebref11_At.mono _ _ _ _
      | exact cobwebref11_Leaf.mono _ _ _ _
      | exact cobwebref11_Root.mono _ _ _
      | exact LeO.none _
      | refine LeO.ite ?_ ?_
      | refine LeO.bind ?_ (fun _ => ?_)
    · intro y0 y1 y2 y3
      unfold cobwebref11_Right.l0
      repeat' first
      | (with_reducible exact ih0 _ _ _ _)
      | (with_reducible exact ih1 _ _ _ _)
      | (with_reducible exact ih2 _ _ _ _ _)
      | (with_reducible exact ih3 _ _ _ _ _)
      | (with_reducible exact cobwebref11_At.mono _ _ _ _)
      | (with_reducible exact cobwebref11_Leaf.mono _ _ _ _)
      | (with_reducible exact cobwebref11_Root.mono _ _ _)
      | (with_reducible exact LeO.refl _)
      | (with_reducible exact LeO.none _)
      | (with_reducible refine LeO.ite ?_ ?_)
      | (with_reducible refine LeO.bind ?_ (fun _ => ?_))
      | exact ih0 _ _ _ _
      | exact ih1 _ _ _ _
      | exact ih2 _ _ _ _ _
      | exact ih3 _ _ _ _ _
      | exact cobwebref11_At.mono _ _ _ _
      | exact cobwebref11_Leaf.mono _ _ _ _
      | exact cobwebref11_Root.mono _ _ _
      | exact LeO.none _
      | refine LeO.ite ?_ ?_
      | refine LeO.bind ?_ (fun _ => ?_)
    · intro y0 y1 y2 y3 y4
      unfold cobwebref11_Right.j2
      repeat' first
      | (with_reducible exact ih0 _ _ _ _)
      | (with_reducible exact ih1 _ _ _ _)
      | (with_reducible exact ih2 _ _ _ _ _)
      | (with_reducible exact ih3 _ _ _ _ _)
      | (with_reducible exact cobwebref11_At.mono _ _ _ _)
      | (with_reducible exact cobwebref11_Leaf.mono _ _ _ _)
      | (with_reducible exact cobwebref11_Root.mono _ _ _)
      | (with_reducible exact LeO.refl _)
      | (with_reducible exact LeO.none _)
      | (with_reducible refine LeO.ite ?_ ?_)
      | (with_reducible refine LeO.bind ?_ (fun _ => ?_))
      | exact ih0 _ _ _ _
      | exact ih1 _ _ _ _
      | exact ih2 _ _ _ _ _
      | exact ih3 _ _ _ _ _
      | exact cobwebref11_At.mono _ _ _ _
      | exact cobwebref11_Leaf.mono _ _ _ _
      | exact cobwebref11_Root.mono _ _ _
      | exact LeO.none _
      | refine LeO.ite ?_ ?_
      | refine LeO.bind ?_ (fun _ => ?_)
    · intro y0 y1 y2 y3 y4
      unfold cobwebref11_Right.l1
      repeat' first
      | (with_reducible exact ih0 _ _ _ _)
      | (with_reducible exact ih1 _ _ _ _)
      | (with_reducible exact ih2 _ _ _ _ _)
      | (with_reducible exact ih3 _ _ _ _ _)
      | (with_reducible exact cobwebref11_At.mono _ _ _ _)
      | (with_reducible exact cobwebref11_Leaf.mono _ _ _ _)
      | (with_reducible exact cobwebref11_Root.mono _ _ _)
      | (with_reducible exact LeO.refl _)
      | (with_reducible exact LeO.none _)
      | (with_reducible refine LeO.ite ?_ ?_)
      | (with_reducible refine LeO.bind ?_ (fun _ => ?_))
      | exact ih0 _ _ _ _
      | exact ih1 _ _ _ _
      | exact ih2 _ _ _ _ _
      | exact ih3 _ _ _ _ _
      | exact cobwebref11_At.mono _ _ _ _
      | exact cobwebref11_Leaf.mono _ _ _ _
      | exact cobwebref11_Root.mono _ _ _
      | exact LeO.none _
      | refine LeO.ite ?_ ?_
      | refine LeO.bind ?_ (fun _ => ?_)
theorem cobwebref11_Right.mono : ∀ a0 a1 a2 k, LeO (cobwebref11_Right.f k a0 a1 a2) (cobwebref11_Right.f (k + 1) a0 a1 a2) := by
  intro a0 a1 a2 k
  obtain ⟨ih0, ih1, ih2, ih3⟩ := cobwebref11_Right.mono_l k
  unfold cobwebref11_Right.f
  repeat' first
      | (with_reducible exact ih0 _ _ _ _)
      | (with_reducible exact ih1 _ _ _ _)
      | (with_reducible exact ih2 _ _ _ _ _)
      | (with_reducible exact ih3 _ _ _ _ _)
      | (with_reducible exact cobwebref11_At.mono _ _ _ _)
      | (with_reducible exact cobwebref11_Leaf.mono _ _ _ _)
      | (with_reducible exact cobwebref11_Root.mono _ _ _)
      | (with_reducible exact LeO.refl _)
      | (with_reducible exact LeO.none _)
      | (with_reducible refine LeO.ite ?_ ?_)
      | (with_reducible refine LeO.bind ?_ (fun _ => ?_))
      | exact ih0 _ _ _ _
      | exact ih1 _ _ _ _
      | exact ih2 _ _ _ _ _
      | exact ih3 _ _ _ _ _
      | exact cobwebref11_At.mono _ _ _ _
      | exact cobwebref11_Leaf.mono _ _ _ _
      | exact cobwebref11_Root.mono _ _ _
      | exact LeO.none _
      | refine LeO.ite ?_ ?_
      | refine LeO.bind ?_ (fun _ => ?_)
def cobwebref11_Right.T6 : Bool × List (List Nat × List Nat) := (true, [([], []), ([], []), ([0, 1], [0, 1]), ([2], [2]), ([3], [3]), ([4], [4]), ([5, 4], [5]), ([6], [6]), ([6], [6]), ([7, 8, 6], [6, 7, 8]), ([9, 6], [6, 9]), ([10, 6], [6, 10]), ([6], [6]), ([12, 6], [6, 12]), ([6], [6]), ([13, 14, 6], [6, 13, 14]), ([15, 6], [6, 15]), ([11, 16, 6], [6, 11, 16]), ([6, 17], [6, 17])])
def cobwebref11_Right.B6 : List Nat := [0, 0, 3, 7, 15, 31, 63, 127, 127, 511, 1023, 2047, 127, 4223, 127, 28799, 61567, 131071, 262143]
theorem cobwebref11_Right.tab6 : rtab .any (opsOf Try.f25 6) = cobwebref11_Right.T6 := by kernel_rfl
theorem cobwebref11_Right.bits6 : waitsOk cobwebref11_Right.T6.2 cobwebref11_Right.B6 = true := by kernel_rfl
def cobwebref11_Right.T11 : Bool × List (List Nat × List Nat) := (true, [([], []), ([], []), ([], []), ([1, 2], [1, 2]), ([3], [3]), ([4], [4]), ([], []), ([5, 6], [5, 6]), ([7], [7]), ([0, 8], [0, 8]), ([], []), ([9, 10], [9, 10])])
def cobwebref11_Right.B11 : List Nat := [0, 0, 0, 6, 14, 30, 0, 126, 254, 511, 0, 2047]
theorem cobwebref11_Right.tab11 : rtab .any (opsOf Try.f25 11) = cobwebref11_Right.T11 := by kernel_rfl
theorem cobwebref11_Right.bits11 : waitsOk cobwebref11_Right.T11.2 cobwebref11_Right.B11 = true := by kernel_rfl
set_option maxHeartbeats 8000000 in
set_option maxRecDepth 100000 in
theorem cobwebref11_Right.calls (k : Nat) (A0_0 : Option Addr) (c0_0 : Nat) (l0_0 : List ByteArray) (A0_1 : Option Addr) (c0_1 : Nat) (l0_1 : List Int) (A1 : Option Addr) (c1 : Nat) (l1 : List (S28)) (r : Bool) (w : World) (hr0_0 : Kd.C Kd.string w A0_0 l0_0.length l0_0) (hc0_0 : l0_0.length ≤ c0_0) (hr0_1 : Kd.C (Kd.int .i64) w A0_1 l0_1.length l0_1) (hc0_1 : l0_1.length ≤ c0_1) (hr1 : Kd.C k28 w A1 l1.length l1) (hc1 : l1.length ≤ c1) (h : cobwebref11_Right.f k l0_0 l0_1 l1 = some r) :
    Calls Try.prog 25 #[.agg #[.slice A0_0 l0_0.length c0_0, .slice A0_1 l0_1.length c0_1], .slice A1 l1.length c1] w fun e w' => e = .returned (.bool r) ∧ Below w.heap.size w w' := by
  have hu26 := Try.underlying26
  have hu28 := Try.underlying28
  have HR0_0 := Aside0.mk hr0_0
  have HC0_0 := Aside0.mk hc0_0
  clear hr0_0 hc0_0
  have HR0_1 := Aside0.mk hr0_1
  have HC0_1 := Aside0.mk hc0_1
  clear hr0_1 hc0_1
  have HR1 := Aside0.mk hr1
  have HC1 := Aside0.mk hc1
  clear hr1 hc1
  have HB := Aside0.mk (Below.refl w.heap.size w)
  have H : ((cobwebref11_Root.f k l0_0 l0_1).bind fun t461 => (if t461 = true then (cobwebref11_Right.j0 k l1 ((l1.length : Int) != (l0_1.length : Int)) l0_0 l0_1) else (cobwebref11_Right.j0 k l1 true l0_0 l0_1))) = some r := h
  clear h
  have HC3 := Aside0.mk H
  clear H
  go_enter Try.func25, Try.ntmps25
  go_upto_region 1 with (first | ((with_reducible refine gate_dst (N := 2) rfl ?_); (try (refine gate_guard (by rfl) ?_; dsimp only)); refine box_event ?hg (N := 2) ?hd (cs := #[.slice A0_0 l0_0.length c0_0, .slice A0_1 l0_1.length c0_1]) (t := 26) ?hr ?_; (case hd => rfl); (case hg => rfl); (case hr => first | (go_simp; done) | (go_simp; rfl)); intro gb460 hg w4 hbox hb; have n0_ := Aside0.mk (below_step (by repeat (first | (with_reducible first | exact HB.out | apply below_alloc | apply pw_below_drewN | apply below_drew1) | exact HB.out)) hb); have n1_ := Aside0.mk (hbox); have n2_ := Aside0.mk ((by rw [hg]; exact (below_size (by repeat (first | (with_reducible first | exact HB.out | apply below_alloc | apply pw_below_drewN | apply below_drew1) | exact HB.out))) : w.heap.size ≤ gb460)); have n3_ := Aside0.mk ((by rw [hg]; exact (below_size (by repeat (first | (with_reducible first | exact HB.out | apply below_alloc | apply pw_below_drewN | apply below_drew1) | exact HB.out))) : w.heap.size ≤ gb460)); clear HB; have HB := n0_; have BK460 := n1_; have GW460 := n2_; have GE460 := n3_; clear n0_ n1_ n2_ n3_; clear hb hbox hg))
  (try simp only [Act.put, List.setIfInBounds_toArray, List.set_cons_zero, List.set_cons_succ])
  go_cut [17] (fun v17 wc => ∃ (kq : Nat) (x17_2 : Bool), v17 = .bool x17_2 ∧ Aside0 (cobwebref11_Right.j0 kq l1 x17_2 l0_0 l0_1 = some r) ∧ Aside0 (kq ≤ k) ∧ Aside0 (wc.heap[gb460]? = some (.cells #[(.slice A0_0 l0_0.length c0_0), (.slice A0_1 l0_1.length c0_1)] 26 (0, 0))) ∧ Aside0 (Below w.heap.size w wc))
  case first =>
    have H := HC3.out
    clear HC3
    replace H := Option.bind_eq_some_iff.mp H
    obtain ⟨t461, A50, H⟩ := H
    replace H : (if t461 = true then (cobwebref11_Right.j0 k l1 ((l1.length : Int) != (l0_1.length : Int)) l0_0 l0_1) else (cobwebref11_Right.j0 k l1 true l0_0 l0_1)) = some r := H
    have A5 := Aside0.mk A50
    clear A50
    by_cases c6 : t461 = true
    · subst c6
      have H1 : (cobwebref11_Right.j0 k l1 ((l1.length : Int) != (l0_1.length : Int)) l0_0 l0_1) = some r := by rw [if_pos rfl] at H; exact H
      clear H
      have H := H1
      clear H1
      have H' := Aside0.mk H
      clear H
      have hcz7_0 : w4.cell? ⟨gb460, 0, none⟩ = some (.slice A0_0 l0_0.length c0_0) := (blk_cell BK460.out 0).trans rfl
      have hcz7_1 : w4.cell? ⟨gb460, 1, none⟩ = some (.slice A0_1 l0_1.length c0_1) := (blk_cell BK460.out 1).trans rfl
      have hfz7_0 := blk_frozen BK460.out 0
      have hfz7_1 := blk_frozen BK460.out 1
      go_wp2_with (first | ((with_reducible refine gate_callee (f := 47) rfl ?_); refine goesL_ (some 8) rfl rfl Try.func47 (by kernel_rfl) rfl #[.agg #[.slice A0_0 l0_0.length c0_0, .slice A0_1 l0_1.length c0_1]] rfl (by (try simp only [List.map_toArray, List.map_cons, List.map_nil]); first | done | rfl | (simp only [List.length_drop, List.length_take]; rfl)) ?_; (with_reducible refine (cobwebref11_Root.calls k _ _ l0_0 _ _ l0_1 true _ ?side1 ?side2 ?side3 ?side4 A5.out).mono ?_); (case side1 => repeat (first | exact (Kd.C_below HR0_0.out HB.out) | (with_reducible refine Kd.C_alloc ?_ _) | (with_reducible refine Kd.C_drewN ?_ _) | (with_reducible refine Kd.C_drew ?_))); (case side2 => exact HC0_0.out); (case side3 => repeat (first | exact (Kd.C_below HR0_1.out HB.out) | (with_reducible refine Kd.C_alloc ?_ _) | (with_reducible refine Kd.C_drewN ?_ _) | (with_reducible refine Kd.C_drew ?_))); (case side4 => exact HC0_1.out); rintro e w8 ⟨rfl, hb⟩; refine ⟨_, rfl, ?_⟩; have n0_ := Aside0.mk (blk_below (g := gb460) (o := .cells #[.slice A0_0 l0_0.length c0_0, .slice A0_1 l0_1.length c0_1] 26 (0, 0)) (by (with_reducible repeat (first | refine blk_drewN ?_ _ | refine blk_drew ?_ | refine blk_alloc ?_ _)); exact BK460.out) hb); have n1_ := Aside0.mk (below_step (by repeat (first | (with_reducible first | exact HB.out | apply below_alloc | apply pw_below_drewN | apply below_drew1 | refine below_set ?_ GE460.out) | exact HB.out)) hb); clear BK460; clear HB; have BK460 := n0_; have HB := n1_; clear n0_ n1_; (try clear hb); (try clear hb2); (try clear hk); (try clear hi); have hcz9_0 : w8.cell? ⟨gb460, 0, none⟩ = some (.slice A0_0 l0_0.length c0_0) := (blk_cell BK460.out 0).trans rfl; have hcz9_1 : w8.cell? ⟨gb460, 1, none⟩ = some (.slice A0_1 l0_1.length c0_1) := (blk_cell BK460.out 1).trans rfl; have hfz9_0 := blk_frozen BK460.out 0; have hfz9_1 := blk_frozen BK460.out 1))
      go_meet
      case rel => exact ⟨_, (((l1.length : Int) != (l0_1.length : Int))), (by first | rfl | (simp; done) | (simp [*]; done)), H', ⟨by first | omega | exact Nat.le_refl _⟩, ⟨by (with_reducible repeat (first | refine blk_drewN ?_ _ | refine blk_drew ?_ | refine blk_alloc ?_ _)); exact BK460.out⟩, ⟨by repeat (first | (with_reducible first | exact HB.out | apply below_alloc | apply pw_below_drewN | apply below_drew1 | refine below_set ?_ GE460.out) | exact HB.out)⟩⟩
    · replace c6 := Bool.eq_false_iff.mpr c6
      subst c6
      have H1 : (cobwebref11_Right.j0 k l1 true l0_0 l0_1) = some r := by rw [if_neg (show ¬ (false = true) by decide)] at H; exact H
      clear H
      have H := H1
      clear H1
      have H' := Aside0.mk H
      clear H
      have hcz10_0 : w4.cell? ⟨gb460, 0, none⟩ = some (.slice A0_0 l0_0.length c0_0) := (blk_cell BK460.out 0).trans rfl
      have hcz10_1 : w4.cell? ⟨gb460, 1, none⟩ = some (.slice A0_1 l0_1.length c0_1) := (blk_cell BK460.out 1).trans rfl
      have hfz10_0 := blk_frozen BK460.out 0
      have hfz10_1 := blk_frozen BK460.out 1
      go_wp2_with (first | ((with_reducible refine gate_callee (f := 47) rfl ?_); refine goesL_ (some 8) rfl rfl Try.func47 (by kernel_rfl) rfl #[.agg #[.slice A0_0 l0_0.length c0_0, .slice A0_1 l0_1.length c0_1]] rfl (by (try simp only [List.map_toArray, List.map_cons, List.map_nil]); first | done | rfl | (simp only [List.length_drop, List.length_take]; rfl)) ?_; (with_reducible refine (cobwebref11_Root.calls k _ _ l0_0 _ _ l0_1 false _ ?side1 ?side2 ?side3 ?side4 A5.out).mono ?_); (case side1 => repeat (first | exact (Kd.C_below HR0_0.out HB.out) | (with_reducible refine Kd.C_alloc ?_ _) | (with_reducible refine Kd.C_drewN ?_ _) | (with_reducible refine Kd.C_drew ?_))); (case side2 => exact HC0_0.out); (case side3 => repeat (first | exact (Kd.C_below HR0_1.out HB.out) | (with_reducible refine Kd.C_alloc ?_ _) | (with_reducible refine Kd.C_drewN ?_ _) | (with_reducible refine Kd.C_drew ?_))); (case side4 => exact HC0_1.out); rintro e w11 ⟨rfl, hb⟩; refine ⟨_, rfl, ?_⟩; have n0_ := Aside0.mk (blk_below (g := gb460) (o := .cells #[.slice A0_0 l0_0.length c0_0, .slice A0_1 l0_1.length c0_1] 26 (0, 0)) (by (with_reducible repeat (first | refine blk_drewN ?_ _ | refine blk_drew ?_ | refine blk_alloc ?_ _)); exact BK460.out) hb); have n1_ := Aside0.mk (below_step (by repeat (first | (with_reducible first | exact HB.out | apply below_alloc | apply pw_below_drewN | apply below_drew1 | refine below_set ?_ GE460.out) | exact HB.out)) hb); clear BK460; clear HB; have BK460 := n0_; have HB := n1_; clear n0_ n1_; (try clear hb); (try clear hb2); (try clear hk); (try clear hi)))
      go_meet
      case rel => exact ⟨_, (true), (by first | rfl | (simp; done) | (simp [*]; done)), H', ⟨by first | omega | exact Nat.le_refl _⟩, ⟨by (with_reducible repeat (first | refine blk_drewN ?_ _ | refine blk_drew ?_ | refine blk_alloc ?_ _)); exact BK460.out⟩, ⟨by repeat (first | (with_reducible first | exact HB.out | apply below_alloc | apply pw_below_drewN | apply below_drew1 | refine below_set ?_ GE460.out) | exact HB.out)⟩⟩
  case rest =>
    clear HC3
    try clear c1
    try clear c2
    try clear p2
    try clear c4
    try clear c6
    try clear hcz10_0
    try clear hcz10_1
    try clear hcz7_0
    try clear hcz7_1
    try clear hcz9_0
    try clear hcz9_1
    try clear hfz10_0
    try clear hfz10_1
    try clear hfz7_0
    try clear hfz7_1
    try clear hfz9_0
    try clear hfz9_1
    obtain ⟨kq, x17_2, rfl, HA, HJ2, BK460, HB⟩ := hcut
    cases kq with
    | zero => exact absurd HA.out (by simp [cobwebref11_Right.j0])
    | succ kj2 =>
      have H := HA.out
      clear HA
      simp only [cobwebref11_Right.j0] at H
      by_cases c12 : x17_2 = true
      · subst c12
        have H1 : (some false) = some r := by rw [if_pos rfl] at H; exact H
        clear H
        have H := H1
        clear H1
        obtain rfl := Option.some.inj H
        go_wp2
        go_ret
        exact ⟨by first | rfl | (simp [errW_none, errW_some] <;> rfl) | (simp [*, errW_none, errW_some] <;> rfl), by repeat (first | (with_reducible first | exact HB.out | apply below_alloc | apply pw_below_drewN | apply below_drew1 | refine below_set ?_ GE460.out) | exact HB.out)⟩
      · replace c12 := Bool.eq_false_iff.mpr c12
        subst c12
        have H1 : (cobwebref11_Right.l0 kj2 l1 0 l0_0 l0_1) = some r := by rw [if_neg (show ¬ (false = true) by decide)] at H; exact H
        clear H
        have H := H1
        clear H1
        have H' := Aside0.mk H
        clear H
        go_wp2
        go_loopg [5] kj2 (fun kq v5 w' => ∃ (x5_2 : Int), v5 = .int .i64 x5_2 ∧ Aside0 (cobwebref11_Right.l0 kq l1 x5_2 l0_0 l0_1 = some r) ∧ Aside0 (kq ≤ kj2) ∧ Aside0 (w'.heap[gb460]? = some (.cells #[(.slice A0_0 l0_0.length c0_0), (.slice A0_1 l0_1.length c0_1)] 26 (0, 0))) ∧ Aside0 (Below w.heap.size w w'))
        case atStart => exact ⟨(0), (by first | rfl | (simp; done) | (simp [*]; done)), H', ⟨Nat.le_refl _⟩, ⟨by (with_reducible repeat (first | refine blk_drewN ?_ _ | refine blk_drew ?_ | refine blk_alloc ?_ _)); exact BK460.out⟩, ⟨by repeat (first | (with_reducible first | exact HB.out | apply below_alloc | apply pw_below_drewN | apply below_drew1 | refine below_set ?_ GE460.out) | exact HB.out)⟩⟩
        case round =>
          clear H'
          try clear c1
          try clear c2
          try clear p2
          try clear c4
          try clear c6
          try clear c12
          try clear hcz10_0
          try clear hcz10_1
          try clear hcz7_0
          try clear hcz7_1
          try clear hcz9_0
          try clear hcz9_1
          try clear hfz10_0
          try clear hfz10_1
          try clear hfz7_0
          try clear hfz7_1
          try clear hfz9_0
          try clear hfz9_1
          try clear p2
          obtain ⟨x5_2, rfl, HA, HK2, BK460, HB⟩ := hrel
          cases gk with
          | zero => exact absurd HA.out (by simp [cobwebref11_Right.l0])
          | succ k2 =>
            have H := HA.out
            clear HA
            simp only [cobwebref11_Right.l0] at H
            by_cases c13 : x5_2 < (l1.length : Int)
            · rw [if_pos c13] at H
              have c13b0 : decide (x5_2 < (l1.length : Int)) = true := decide_eq_true c13
              clear c13
              have HC14 := Aside0.mk H
              clear H
              go_upto_region 6 with (fail)
              go_cut [42] (fun v42 wc => ∃ (kq : Nat) (x42_13 : Bool), v42 = .bool x42_13 ∧ Aside0 (cobwebref11_Right.j2 kq l1 x5_2 x42_13 l0_0 l0_1 = some r) ∧ Aside0 (kq ≤ k2) ∧ Aside0 (wc.heap[gb460]? = some (.cells #[(.slice A0_0 l0_0.length c0_0), (.slice A0_1 l0_1.length c0_1)] 26 (0, 0))) ∧ Aside0 (Below w.heap.size w wc))
              case first =>
                have H := HC14.out
                clear HC14
                by_cases c15 : 0 ≤ x5_2
                · rw [if_pos c15] at H
                  have c15b0 : decide (0 ≤ x5_2) = true := decide_eq_true c15
                  clear c15
                  (first | rw [c15b0] | (simp only [i64_w, i32_w]; rw [c15b0]) | skip)
                  replace H := Option.bind_eq_some_iff.mp H
                  obtain ⟨t463, A160, H⟩ := H
                  replace H : (if t463 = true then (if x5_2 < (l0_1.length : Int) then (cobwebref11_Right.j2 k2 l1 x5_2 (((rd_T28 l1 x5_2).f0) != (rd l0_1 x5_2)) l0_0 l0_1) else (none)) else (cobwebref11_Right.j2 k2 l1 x5_2 true l0_0 l0_1)) = some r := H
                  have A16 := Aside0.mk A160
                  clear A160
                  by_cases c17 : t463 = true
                  · subst c17
                    have H1 : (if x5_2 < (l0_1.length : Int) then (cobwebref11_Right.j2 k2 l1 x5_2 (((rd_T28 l1 x5_2).f0) != (rd l0_1 x5_2)) l0_0 l0_1) else (none)) = some r := by rw [if_pos rfl] at H; exact H
                    clear H
                    have H := H1
                    clear H1
                    by_cases c18 : x5_2 < (l0_1.length : Int)
                    · rw [if_pos c18] at H
                      have c18b0 : decide (x5_2 < (l0_1.length : Int)) = true := decide_eq_true c18
                      clear c18
                      have H' := Aside0.mk H
                      clear H
                      try go_wp2
                      have n0_ := Aside0.mk (blk_drew BK460.out)
                      have n1_ := Aside0.mk (below_drew1 HB.out)
                      clear BK460
                      clear HB
                      have BK460 := n0_
                      have HB := n1_
                      clear n0_ n1_
                      have p462 : 0 ≤ (x5_2 : Int) := of_decide_eq_true (by first | (with_reducible assumption) | assumption)
                      have q462 : x5_2 < (l1.length : Int) := of_decide_eq_true (by first | (with_reducible assumption) | assumption)
                      obtain ⟨ad462, A462_1, c462_1, e462, hx462_0, hx462_1, hx462_2, hl462_1, hi462_1⟩ := at_T28 HR1.out x5_2 p462 q462
                      have hw462_2 := hx462_2
                      have hw462_1 := hx462_1
                      have hw462_0 := hx462_0
                      cases e462
                      replace hx462_0 := (HB.out.cell (World.block_lt_of_cell? w _ hx462_0)).trans hx462_0
                      replace hx462_1 := (HB.out.cell (World.block_lt_of_cell? w _ hx462_1)).trans hx462_1
                      replace hx462_2 := (HB.out.cell (World.block_lt_of_cell? w _ hx462_2)).trans hx462_2
                      have HR462_1 := Aside0.mk hi462_1
                      have HC462_1 := Aside0.mk hl462_1
                      clear hi462_1 hl462_1
                      replace p462 := eq_true p462
                      replace q462 := eq_true q462
                      have p464 : 0 ≤ (x5_2 : Int) := of_decide_eq_true (by first | (with_reducible assumption) | assumption)
                      have q464 : x5_2 < (l1.length : Int) := of_decide_eq_true (by first | (with_reducible assumption) | assumption)
                      obtain ⟨ad464, A464_1, c464_1, e464, hx464_0, hx464_1, hx464_2, hl464_1, hi464_1⟩ := at_T28 HR1.out x5_2 p464 q464
                      have hw464_2 := hx464_2
                      have hw464_1 := hx464_1
                      have hw464_0 := hx464_0
                      obtain rfl : ad462 = ad464 := (by injection e464)
                      replace hx464_0 := (HB.out.cell (World.block_lt_of_cell? w _ hx464_0)).trans hx464_0
                      replace hx464_1 := (HB.out.cell (World.block_lt_of_cell? w _ hx464_1)).trans hx464_1
                      replace hx464_2 := (HB.out.cell (World.block_lt_of_cell? w _ hx464_2)).trans hx464_2
                      have HR464_1 := Aside0.mk hi464_1
                      have HC464_1 := Aside0.mk hl464_1
                      clear hi464_1 hl464_1
                      replace p464 := eq_true p464
                      replace q464 := eq_true q464
                      have p465 : 0 ≤ (x5_2 : Int) := of_decide_eq_true (by first | (with_reducible assumption) | assumption)
                      have q465 : x5_2 < (l0_1.length : Int) := of_decide_eq_true (by first | (with_reducible assumption) | assumption)
                      obtain ⟨ad465, e465, hx465_0⟩ := Kd.at_int HR0_1.out x5_2 p465 q465
                      have hw465_0 := hx465_0
                      cases e465
                      replace hx465_0 := (HB.out.cell (World.block_lt_of_cell? w _ hx465_0)).trans hx465_0
                      replace p465 := eq_true p465
                      replace q465 := eq_true q465
                      refine start_ (n := 19) (S := fun w' => w'.cell? ⟨gb460, 0, none⟩ = some (.slice A0_0 l0_0.length c0_0) ∧ w'.cell? ⟨gb460, 1, none⟩ = some (.slice (some ad465) l0_1.length c0_1) ∧ w'.cell? (ad462.add ((x5_2).toNat * 3)) = some (.int .i64 ((rd_T28 l1 x5_2).f0)) ∧ w'.cell? ⟨(ad462.add ((x5_2).toNat * 3)).block, (ad462.add ((x5_2).toNat * 3)).off + 1, none⟩ = some (.slice A462_1 ((rd_T28 l1 x5_2).f1).length c462_1) ∧ w'.cell? ⟨(ad462.add ((x5_2).toNat * 3)).block, (ad462.add ((x5_2).toNat * 3)).off + 2, none⟩ = some (.bool ((rd_T28 l1 x5_2).f2)) ∧ w'.cell? (ad462.add ((x5_2).toNat * 3)) = some (.int .i64 ((rd_T28 l1 x5_2).f0)) ∧ w'.cell? ⟨(ad462.add ((x5_2).toNat * 3)).block, (ad462.add ((x5_2).toNat * 3)).off + 1, none⟩ = some (.slice A464_1 ((rd_T28 l1 x5_2).f1).length c464_1) ∧ w'.cell? ⟨(ad462.add ((x5_2).toNat * 3)).block, (ad462.add ((x5_2).toNat * 3)).off + 2, none⟩ = some (.bool ((rd_T28 l1 x5_2).f2)) ∧ w'.cell? (ad465.add (x5_2).toNat) = some (.int .i64 (rd l0_1 x5_2))) (ds := []) #[false, false, false, false, false, false, false, false, false, false, false, false, false, false, false, false, false, false, false] (by kernel_rfl) rfl rfl ⟨(blk_cell BK460.out 0).trans rfl, (blk_cell BK460.out 1).trans rfl, ((HB.out.cell (World.block_lt_of_cell? w _ hw462_0)).trans hw462_0), ((HB.out.cell (World.block_lt_of_cell? w _ hw462_1)).trans hw462_1), ((HB.out.cell (World.block_lt_of_cell? w _ hw462_2)).trans hw462_2), ((HB.out.cell (World.block_lt_of_cell? w _ hw464_0)).trans hw464_0), ((HB.out.cell (World.block_lt_of_cell? w _ hw464_1)).trans hw464_1), ((HB.out.cell (World.block_lt_of_cell? w _ hw464_2)).trans hw464_2), ((HB.out.cell (World.block_lt_of_cell? w _ hw465_0)).trans hw465_0)⟩ (fun hHeld => ?_); refine with_tabW cobwebref11_Right.tab6 cobwebref11_Right.bits6 (fun HT_ HW_ => ?_)
                      generalize wr.drew = w19 at BK460 HB HR462_1 HR464_1 hx462_0 hx462_1 hx462_2 hx464_0 hx464_1 hx464_2 hx465_0 hHeld ⊢
                      refine pure_ (i := 0) (N := some 24) (v := ?_) (a' := ?_) #[true, false, false, false, false, false, false, false, false, false, false, false, false, false, false, false, false, false, false] rfl rfl (any_of HT_.out (by kernel_rfl)) (fun _ _ _ h => h) (Or.inl ⟨by rfl, ?_⟩) ?_ ?_
                      rotate_left
                      · intro w'
                        go_simp
                        with_reducible rfl
                      rotate_left
                      · simp only [Act.put, List.setIfInBounds_toArray, List.set_cons_zero, List.set_cons_succ, i64_w, i32_w]
                        rfl
                      refine pure_ (i := 1) (N := some 25) (v := ?_) (a' := ?_) #[true, true, false, false, false, false, false, false, false, false, false, false, false, false, false, false, false, false, false] rfl rfl (any_of HT_.out (by kernel_rfl)) (fun _ _ _ h => h) (Or.inl ⟨by rfl, ?_⟩) ?_ ?_
                      rotate_left
                      · intro w'
                        go_simp
                        with_reducible rfl
                      rotate_left
                      · simp only [Act.put, List.setIfInBounds_toArray, List.set_cons_zero, List.set_cons_succ, i64_w, i32_w]
                        rfl
                      refine pure_ (i := 2) (N := some 26) (v := ?_) (a' := ?_) #[true, true, true, false, false, false, false, false, false, false, false, false, false, false, false, false, false, false, false] rfl rfl (any_of HT_.out (by kernel_rfl)) (fun _ _ _ h => h) (Or.inl ⟨by rfl, ?_⟩) ?_ ?_
                      rotate_left
                      · intro w'
                        go_simp
                        with_reducible rfl
                      rotate_left
                      · simp only [Act.put, List.setIfInBounds_toArray, List.set_cons_zero, List.set_cons_succ, i64_w, i32_w]
                        rfl
                      refine take_ (i := 3) (N := some 27) (v := ?_) (a' := ?_) #[true, true, true, true, false, false, false, false, false, false, false, false, false, false, false, false, false, false, false] rfl rfl (take_ofW HT_.out HW_.out (by kernel_rfl)) (fun _ _ _ h => h) (Or.inl ⟨by rfl, ?_⟩) hHeld ?_ ?_
                      rotate_left
                      · rintro w' ⟨s0, s1, s2, s3, s4, s5, s6, s7, s8⟩
                        go_simp
                        with_reducible rfl
                      rotate_left
                      · simp only [Act.put, List.setIfInBounds_toArray, List.set_cons_zero, List.set_cons_succ, i64_w, i32_w]
                        rfl
                      refine one_ (i := 4) (N := some 28) #[true, true, true, true, true, false, false, false, false, false, false, false, false, false, false, false, false, false, false] rfl rfl (one_of HT_.out (by kernel_rfl)) (by decide) (fun K hK => ?_)
                      refine goes_ Try.func48 (by kernel_rfl) rfl #[.agg #[.int .i64 ((rd_T28 l1 x5_2).f0), .slice A462_1 ((rd_T28 l1 x5_2).f1).length c462_1, .bool ((rd_T28 l1 x5_2).f2)]] (by rfl) rfl rfl (by (try simp only [List.map_toArray, List.map_cons, List.map_nil]); first | done | rfl | (simp only [List.length_drop, List.length_take]; rfl)) ?_
                      with_reducible refine (cobwebref11_Leaf.calls k2 ((rd_T28 l1 x5_2).f0) _ _ ((rd_T28 l1 x5_2).f1) ((rd_T28 l1 x5_2).f2) true _ ?side1 ?side2 A16.out).mono ?_
                      (case side1 => repeat (first | exact (Kd.C_below HR462_1.out HB.out) | (with_reducible refine Kd.C_alloc ?_ _) | (with_reducible refine Kd.C_drewN ?_ _) | (with_reducible refine Kd.C_drew ?_)))
                      (case side2 => exact HC462_1.out)
                      rintro e w20 ⟨rfl, hb⟩
                      refine ⟨_, rfl, ?_⟩
                      have n0_ := Aside0.mk (blk_below (g := gb460) (o := .cells #[.slice A0_0 l0_0.length c0_0, .slice (some ad465) l0_1.length c0_1] 26 (0, 0)) (by (with_reducible repeat (first | refine blk_drewN ?_ _ | refine blk_drew ?_ | refine blk_alloc ?_ _)); exact BK460.out) hb)
                      have n1_ := Aside0.mk (below_step (by repeat (first | (with_reducible first | exact HB.out | apply below_alloc | apply pw_below_drewN | apply below_drew1 | refine below_set ?_ GE460.out) | exact HB.out)) hb)
                      clear BK460
                      clear HB
                      have BK460 := n0_
                      have HB := n1_
                      clear n0_ n1_
                      (try clear hb)
                      (try clear hb2)
                      (try clear hk)
                      (try clear hi)
                      refine hK.out _ _ ⟨(blk_cell BK460.out 0).trans rfl, (blk_cell BK460.out 1).trans rfl, ((HB.out.cell (World.block_lt_of_cell? w _ hw462_0)).trans hw462_0), ((HB.out.cell (World.block_lt_of_cell? w _ hw462_1)).trans hw462_1), ((HB.out.cell (World.block_lt_of_cell? w _ hw462_2)).trans hw462_2), ((HB.out.cell (World.block_lt_of_cell? w _ hw464_0)).trans hw464_0), ((HB.out.cell (World.block_lt_of_cell? w _ hw464_1)).trans hw464_1), ((HB.out.cell (World.block_lt_of_cell? w _ hw464_2)).trans hw464_2), ((HB.out.cell (World.block_lt_of_cell? w _ hw465_0)).trans hw465_0)⟩ (fun hHeld => ?_)
                      clear hK K
                      refine norm_ (a' := ?_) ?_ ?_
                      rotate_left
                      · show Act.put _ (some 28) _ = _
                        simp only [Act.put, List.setIfInBounds_toArray, List.set_cons_zero, List.set_cons_succ, i64_w, i32_w]
                        rfl
                      refine pure_ (i := 5) (N := some 29) (v := ?_) (a' := ?_) #[true, true, true, true, true, true, false, false, false, false, false, false, false, false, false, false, false, false, false] rfl rfl (any_of HT_.out (by kernel_rfl)) (fun _ _ _ h => h) (Or.inl ⟨by rfl, ?_⟩) ?_ ?_
                      rotate_left
                      · intro w'
                        go_simp
                        with_reducible rfl
                      rotate_left
                      · simp only [Act.put, List.setIfInBounds_toArray, List.set_cons_zero, List.set_cons_succ, i64_w, i32_w]
                        rfl
                      refine pure_ (i := 6) (N := some 30) (v := ?_) (a' := ?_) #[true, true, true, true, true, true, true, false, false, false, false, false, false, false, false, false, false, false, false] rfl rfl (any_of HT_.out (by kernel_rfl)) (fun _ _ _ h => h) (Or.inl ⟨by rfl, ?_⟩) ?_ ?_
                      rotate_left
                      · intro w'
                        go_simp
                        with_reducible rfl
                      rotate_left
                      · simp only [Act.put, List.setIfInBounds_toArray, List.set_cons_zero, List.set_cons_succ, i64_w, i32_w]
                        rfl
                      refine pure_ (i := 7) (N := some 31) (v := ?_) (a' := ?_) #[true, true, true, true, true, true, true, true, false, false, false, false, false, false, false, false, false, false, false] rfl rfl (any_of HT_.out (by kernel_rfl)) (fun _ _ _ h => h) (Or.inl ⟨by rfl, ?_⟩) ?_ ?_
                      rotate_left
                      · intro w'
                        go_simp
                        with_reducible rfl
                      rotate_left
                      · simp only [Act.put, List.setIfInBounds_toArray, List.set_cons_zero, List.set_cons_succ, i64_w, i32_w]
                        rfl
                      refine pure_ (i := 8) (N := some 32) (v := ?_) (a' := ?_) #[true, true, true, true, true, true, true, true, true, false, false, false, false, false, false, false, false, false, false] rfl rfl (any_of HT_.out (by kernel_rfl)) (fun _ _ _ h => h) (Or.inl ⟨by rfl, ?_⟩) ?_ ?_
                      rotate_left
                      · intro w'
                        go_simp
                        with_reducible rfl
                      rotate_left
                      · simp only [Act.put, List.setIfInBounds_toArray, List.set_cons_zero, List.set_cons_succ, i64_w, i32_w]
                        rfl
                      refine pure_ (i := 9) (N := some 33) (v := ?_) (a' := ?_) #[true, true, true, true, true, true, true, true, true, true, false, false, false, false, false, false, false, false, false] rfl rfl (any_of HT_.out (by kernel_rfl)) (fun _ _ _ h => h) (Or.inl ⟨by rfl, ?_⟩) ?_ ?_
                      rotate_left
                      · intro w'
                        go_simp
                        with_reducible rfl
                      rotate_left
                      · simp only [Act.put, List.setIfInBounds_toArray, List.set_cons_zero, List.set_cons_succ, i64_w, i32_w]
                        rfl
                      refine pure_ (i := 10) (N := some 34) (v := ?_) (a' := ?_) #[true, true, true, true, true, true, true, true, true, true, true, false, false, false, false, false, false, false, false] rfl rfl (any_of HT_.out (by kernel_rfl)) (fun _ _ _ h => h) (Or.inl ⟨by rfl, ?_⟩) ?_ ?_
                      rotate_left
                      · intro w'
                        go_simp
                        with_reducible rfl
                      rotate_left
                      · simp only [Act.put, List.setIfInBounds_toArray, List.set_cons_zero, List.set_cons_succ, i64_w, i32_w]
                        rfl
                      refine pure_ (i := 12) (N := some 36) (v := ?_) (a' := ?_) #[true, true, true, true, true, true, true, true, true, true, true, false, true, false, false, false, false, false, false] rfl rfl (any_of HT_.out (by kernel_rfl)) (fun _ _ _ h => h) (Or.inl ⟨by rfl, ?_⟩) ?_ ?_
                      rotate_left
                      · intro w'
                        go_simp
                        with_reducible rfl
                      rotate_left
                      · simp only [Act.put, List.setIfInBounds_toArray, List.set_cons_zero, List.set_cons_succ, i64_w, i32_w]
                        rfl
                      refine pure_ (i := 14) (N := some 38) (v := ?_) (a' := ?_) #[true, true, true, true, true, true, true, true, true, true, true, false, true, false, true, false, false, false, false] rfl rfl (any_of HT_.out (by kernel_rfl)) (fun _ _ _ h => h) (Or.inl ⟨by rfl, ?_⟩) ?_ ?_
                      rotate_left
                      · intro w'
                        go_simp
                        with_reducible rfl
                      rotate_left
                      · simp only [Act.put, List.setIfInBounds_toArray, List.set_cons_zero, List.set_cons_succ, i64_w, i32_w]
                        rfl
                      refine take_ (i := 11) (N := some 35) (v := ?_) (a' := ?_) #[true, true, true, true, true, true, true, true, true, true, true, true, true, false, true, false, false, false, false] rfl rfl (take_ofW HT_.out HW_.out (by kernel_rfl)) (fun _ _ _ h => h) (Or.inl ⟨by rfl, ?_⟩) hHeld ?_ ?_
                      rotate_left
                      · rintro w' ⟨s0, s1, s2, s3, s4, s5, s6, s7, s8⟩
                        go_simp
                        with_reducible rfl
                      rotate_left
                      · simp only [Act.put, List.setIfInBounds_toArray, List.set_cons_zero, List.set_cons_succ, i64_w, i32_w]
                        rfl
                      refine take_ (i := 13) (N := some 37) (v := ?_) (a' := ?_) #[true, true, true, true, true, true, true, true, true, true, true, true, true, true, true, false, false, false, false] rfl rfl (take_ofW HT_.out HW_.out (by kernel_rfl)) (fun _ _ _ h => h) (Or.inl ⟨by rfl, ?_⟩) hHeld ?_ ?_
                      rotate_left
                      · rintro w' ⟨s0, s1, s2, s3, s4, s5, s6, s7, s8⟩
                        go_simp
                        with_reducible rfl
                      rotate_left
                      · simp only [Act.put, List.setIfInBounds_toArray, List.set_cons_zero, List.set_cons_succ, i64_w, i32_w]
                        rfl
                      refine pure_ (i := 15) (N := some 39) (v := ?_) (a' := ?_) #[true, true, true, true, true, true, true, true, true, true, true, true, true, true, true, true, false, false, false] rfl rfl (any_of HT_.out (by kernel_rfl)) (fun _ _ _ h => h) (Or.inl ⟨by rfl, ?_⟩) ?_ ?_
                      rotate_left
                      · intro w'
                        go_simp
                        with_reducible rfl
                      rotate_left
                      · simp only [Act.put, List.setIfInBounds_toArray, List.set_cons_zero, List.set_cons_succ, i64_w, i32_w]
                        rfl
                      refine take_ (i := 16) (N := some 40) (v := ?_) (a' := ?_) #[true, true, true, true, true, true, true, true, true, true, true, true, true, true, true, true, true, false, false] rfl rfl (take_ofW HT_.out HW_.out (by kernel_rfl)) (fun _ _ _ h => h) (Or.inl ⟨by rfl, ?_⟩) hHeld ?_ ?_
                      rotate_left
                      · rintro w' ⟨s0, s1, s2, s3, s4, s5, s6, s7, s8⟩
                        go_simp
                        with_reducible rfl
                      rotate_left
                      · simp only [Act.put, List.setIfInBounds_toArray, List.set_cons_zero, List.set_cons_succ, i64_w, i32_w]
                        rfl
                      refine pure_ (i := 17) (N := some 41) (v := ?_) (a' := ?_) #[true, true, true, true, true, true, true, true, true, true, true, true, true, true, true, true, true, true, false] rfl rfl (any_of HT_.out (by kernel_rfl)) (fun _ _ _ h => h) (Or.inl ⟨by rfl, ?_⟩) ?_ ?_
                      rotate_left
                      · intro w'
                        go_simp
                        with_reducible rfl
                      rotate_left
                      · simp only [Act.put, List.setIfInBounds_toArray, List.set_cons_zero, List.set_cons_succ, i64_w, i32_w]
                        rfl
                      refine pure_ (i := 18) (N := some 42) (v := ?_) (a' := ?_) #[true, true, true, true, true, true, true, true, true, true, true, true, true, true, true, true, true, true, true] rfl rfl (any_of HT_.out (by kernel_rfl)) (fun _ _ _ h => h) (Or.inl ⟨by rfl, ?_⟩) ?_ ?_
                      rotate_left
                      · intro w'
                        go_simp
                        with_reducible rfl
                      rotate_left
                      · simp only [Act.put, List.setIfInBounds_toArray, List.set_cons_zero, List.set_cons_succ, i64_w, i32_w]
                        rfl
                      refine done_ (done_of HT_.out (by kernel_rfl)) ?_
                      try go_wp2
                      go_meet
                      case rel => exact ⟨_, ((((rd_T28 l1 x5_2).f0) != (rd l0_1 x5_2))), (by first | rfl | (simp; done) | (simp [*]; done)), H', ⟨by have := HJ2.out; have := HK2.out; first | omega | exact Nat.le_refl _⟩, ⟨by (with_reducible repeat (first | refine blk_drewN ?_ _ | refine blk_drew ?_ | refine blk_alloc ?_ _)); exact BK460.out⟩, ⟨by repeat (first | (with_reducible first | exact HB.out | apply below_alloc | apply pw_below_drewN | apply below_drew1 | refine below_set ?_ GE460.out) | exact HB.out)⟩⟩
                    · rw [if_neg c18] at H
                      exact absurd H (by simp)
                  · replace c17 := Bool.eq_false_iff.mpr c17
                    subst c17
                    have H1 : (cobwebref11_Right.j2 k2 l1 x5_2 true l0_0 l0_1) = some r := by rw [if_neg (show ¬ (false = true) by decide)] at H; exact H
                    clear H
                    have H := H1
                    clear H1
                    have H' := Aside0.mk H
                    clear H
                    try go_wp2
                    have n0_ := Aside0.mk (blk_drew BK460.out)
                    have n1_ := Aside0.mk (below_drew1 HB.out)
                    clear BK460
                    clear HB
                    have BK460 := n0_
                    have HB := n1_
                    clear n0_ n1_
                    have p462 : 0 ≤ (x5_2 : Int) := of_decide_eq_true (by first | (with_reducible assumption) | assumption)
                    have q462 : x5_2 < (l1.length : Int) := of_decide_eq_true (by first | (with_reducible assumption) | assumption)
                    obtain ⟨ad462, A462_1, c462_1, e462, hx462_0, hx462_1, hx462_2, hl462_1, hi462_1⟩ := at_T28 HR1.out x5_2 p462 q462
                    have hw462_2 := hx462_2
                    have hw462_1 := hx462_1
                    have hw462_0 := hx462_0
                    cases e462
                    replace hx462_0 := (HB.out.cell (World.block_lt_of_cell? w _ hx462_0)).trans hx462_0
                    replace hx462_1 := (HB.out.cell (World.block_lt_of_cell? w _ hx462_1)).trans hx462_1
                    replace hx462_2 := (HB.out.cell (World.block_lt_of_cell? w _ hx462_2)).trans hx462_2
                    have HR462_1 := Aside0.mk hi462_1
                    have HC462_1 := Aside0.mk hl462_1
                    clear hi462_1 hl462_1
                    replace p462 := eq_true p462
                    replace q462 := eq_true q462
                    refine start_ (n := 19) (S := fun w' => w'.cell? (ad462.add ((x5_2).toNat * 3)) = some (.int .i64 ((rd_T28 l1 x5_2).f0)) ∧ w'.cell? ⟨(ad462.add ((x5_2).toNat * 3)).block, (ad462.add ((x5_2).toNat * 3)).off + 1, none⟩ = some (.slice A462_1 ((rd_T28 l1 x5_2).f1).length c462_1) ∧ w'.cell? ⟨(ad462.add ((x5_2).toNat * 3)).block, (ad462.add ((x5_2).toNat * 3)).off + 2, none⟩ = some (.bool ((rd_T28 l1 x5_2).f2))) (ds := []) #[false, false, false, false, false, false, false, false, false, false, false, false, false, false, false, false, false, false, false] (by kernel_rfl) rfl rfl ⟨((HB.out.cell (World.block_lt_of_cell? w _ hw462_0)).trans hw462_0), ((HB.out.cell (World.block_lt_of_cell? w _ hw462_1)).trans hw462_1), ((HB.out.cell (World.block_lt_of_cell? w _ hw462_2)).trans hw462_2)⟩ (fun hHeld => ?_); refine with_tabW cobwebref11_Right.tab6 cobwebref11_Right.bits6 (fun HT_ HW_ => ?_)
                    generalize wr.drew = w21 at BK460 HB HR462_1 hx462_0 hx462_1 hx462_2 hHeld ⊢
                    refine pure_ (i := 0) (N := some 24) (v := ?_) (a' := ?_) #[true, false, false, false, false, false, false, false, false, false, false, false, false, false, false, false, false, false, false] rfl rfl (any_of HT_.out (by kernel_rfl)) (fun _ _ _ h => h) (Or.inl ⟨by rfl, ?_⟩) ?_ ?_
                    rotate_left
                    · intro w'
                      go_simp
                      with_reducible rfl
                    rotate_left
                    · simp only [Act.put, List.setIfInBounds_toArray, List.set_cons_zero, List.set_cons_succ, i64_w, i32_w]
                      rfl
                    refine pure_ (i := 1) (N := some 25) (v := ?_) (a' := ?_) #[true, true, false, false, false, false, false, false, false, false, false, false, false, false, false, false, false, false, false] rfl rfl (any_of HT_.out (by kernel_rfl)) (fun _ _ _ h => h) (Or.inl ⟨by rfl, ?_⟩) ?_ ?_
                    rotate_left
                    · intro w'
                      go_simp
                      with_reducible rfl
                    rotate_left
                    · simp only [Act.put, List.setIfInBounds_toArray, List.set_cons_zero, List.set_cons_succ, i64_w, i32_w]
                      rfl
                    refine pure_ (i := 2) (N := some 26) (v := ?_) (a' := ?_) #[true, true, true, false, false, false, false, false, false, false, false, false, false, false, false, false, false, false, false] rfl rfl (any_of HT_.out (by kernel_rfl)) (fun _ _ _ h => h) (Or.inl ⟨by rfl, ?_⟩) ?_ ?_
                    rotate_left
                    · intro w'
                      go_simp
                      with_reducible rfl
                    rotate_left
                    · simp only [Act.put, List.setIfInBounds_toArray, List.set_cons_zero, List.set_cons_succ, i64_w, i32_w]
                      rfl
                    refine take_ (i := 3) (N := some 27) (v := ?_) (a' := ?_) #[true, true, true, true, false, false, false, false, false, false, false, false, false, false, false, false, false, false, false] rfl rfl (take_ofW HT_.out HW_.out (by kernel_rfl)) (fun _ _ _ h => h) (Or.inl ⟨by rfl, ?_⟩) hHeld ?_ ?_
                    rotate_left
                    · rintro w' ⟨s0, s1, s2⟩
                      go_simp
                      with_reducible rfl
                    rotate_left
                    · simp only [Act.put, List.setIfInBounds_toArray, List.set_cons_zero, List.set_cons_succ, i64_w, i32_w]
                      rfl
                    refine one_ (i := 4) (N := some 28) #[true, true, true, true, true, false, false, false, false, false, false, false, false, false, false, false, false, false, false] rfl rfl (one_of HT_.out (by kernel_rfl)) (by decide) (fun K hK => ?_)
                    refine goes_ Try.func48 (by kernel_rfl) rfl #[.agg #[.int .i64 ((rd_T28 l1 x5_2).f0), .slice A462_1 ((rd_T28 l1 x5_2).f1).length c462_1, .bool ((rd_T28 l1 x5_2).f2)]] (by rfl) rfl rfl (by (try simp only [List.map_toArray, List.map_cons, List.map_nil]); first | done | rfl | (simp only [List.length_drop, List.length_take]; rfl)) ?_
                    with_reducible refine (cobwebref11_Leaf.calls k2 ((rd_T28 l1 x5_2).f0) _ _ ((rd_T28 l1 x5_2).f1) ((rd_T28 l1 x5_2).f2) false _ ?side1 ?side2 A16.out).mono ?_
                    (case side1 => repeat (first | exact (Kd.C_below HR462_1.out HB.out) | (with_reducible refine Kd.C_alloc ?_ _) | (with_reducible refine Kd.C_drewN ?_ _) | (with_reducible refine Kd.C_drew ?_)))
                    (case side2 => exact HC462_1.out)
                    rintro e w22 ⟨rfl, hb⟩
                    refine ⟨_, rfl, ?_⟩
                    have n0_ := Aside0.mk (blk_below (g := gb460) (o := .cells #[.slice A0_0 l0_0.length c0_0, .slice A0_1 l0_1.length c0_1] 26 (0, 0)) (by (with_reducible repeat (first | refine blk_drewN ?_ _ | refine blk_drew ?_ | refine blk_alloc ?_ _)); exact BK460.out) hb)
                    have n1_ := Aside0.mk (below_step (by repeat (first | (with_reducible first | exact HB.out | apply below_alloc | apply pw_below_drewN | apply below_drew1 | refine below_set ?_ GE460.out) | exact HB.out)) hb)
                    clear BK460
                    clear HB
                    have BK460 := n0_
                    have HB := n1_
                    clear n0_ n1_
                    (try clear hb)
                    (try clear hb2)
                    (try clear hk)
                    (try clear hi)
                    refine hK.out _ _ ⟨((HB.out.cell (World.block_lt_of_cell? w _ hw462_0)).trans hw462_0), ((HB.out.cell (World.block_lt_of_cell? w _ hw462_1)).trans hw462_1), ((HB.out.cell (World.block_lt_of_cell? w _ hw462_2)).trans hw462_2)⟩ (fun hHeld => ?_)
                    clear hK K
                    refine norm_ (a' := ?_) ?_ ?_
                    rotate_left
                    · show Act.put _ (some 28) _ = _
                      simp only [Act.put, List.setIfInBounds_toArray, List.set_cons_zero, List.set_cons_succ, i64_w, i32_w]
                      rfl
                    refine pure_ (i := 5) (N := some 29) (v := ?_) (a' := ?_) #[true, true, true, true, true, true, false, false, false, false, false, false, false, false, false, false, false, false, false] rfl rfl (any_of HT_.out (by kernel_rfl)) (fun _ _ _ h => h) (Or.inl ⟨by rfl, ?_⟩) ?_ ?_
                    rotate_left
                    · intro w'
                      go_simp
                      with_reducible rfl
                    rotate_left
                    · simp only [Act.put, List.setIfInBounds_toArray, List.set_cons_zero, List.set_cons_succ, i64_w, i32_w]
                      rfl
                    refine pure_ (i := 6) (N := some 30) (v := ?_) (a' := ?_) #[true, true, true, true, true, true, true, false, false, false, false, false, false, false, false, false, false, false, false] rfl rfl (any_of HT_.out (by kernel_rfl)) (fun _ _ _ h => h) (Or.inl ⟨by rfl, ?_⟩) ?_ ?_
                    rotate_left
                    · intro w'
                      go_simp
                      with_reducible rfl
                    rotate_left
                    · simp only [Act.put, List.setIfInBounds_toArray, List.set_cons_zero, List.set_cons_succ, i64_w, i32_w]
                      rfl
                    refine pure_ (i := 7) (N := some 31) (v := undef) (a' := ?_) #[true, true, true, true, true, true, true, true, false, false, false, false, false, false, false, false, false, false, false] rfl rfl (any_of HT_.out (by kernel_rfl)) (fun _ _ _ h => h) (Or.inr ⟨by rfl, rfl⟩) ?_ ?_
                    rotate_left
                    · simp only [Act.put, List.setIfInBounds_toArray, List.set_cons_zero, List.set_cons_succ, i64_w, i32_w]
                      rfl
                    refine pure_ (i := 8) (N := some 32) (v := undef) (a' := ?_) #[true, true, true, true, true, true, true, true, true, false, false, false, false, false, false, false, false, false, false] rfl rfl (any_of HT_.out (by kernel_rfl)) (fun _ _ _ h => h) (Or.inr ⟨by rfl, rfl⟩) ?_ ?_
                    rotate_left
                    · simp only [Act.put, List.setIfInBounds_toArray, List.set_cons_zero, List.set_cons_succ, i64_w, i32_w]
                      rfl
                    refine pure_ (i := 9) (N := some 33) (v := undef) (a' := ?_) #[true, true, true, true, true, true, true, true, true, true, false, false, false, false, false, false, false, false, false] rfl rfl (any_of HT_.out (by kernel_rfl)) (fun _ _ _ h => h) (Or.inr ⟨by rfl, rfl⟩) ?_ ?_
                    rotate_left
                    · simp only [Act.put, List.setIfInBounds_toArray, List.set_cons_zero, List.set_cons_succ, i64_w, i32_w]
                      rfl
                    refine pure_ (i := 10) (N := some 34) (v := undef) (a' := ?_) #[true, true, true, true, true, true, true, true, true, true, true, false, false, false, false, false, false, false, false] rfl rfl (any_of HT_.out (by kernel_rfl)) (fun _ _ _ h => h) (Or.inr ⟨by rfl, rfl⟩) ?_ ?_
                    rotate_left
                    · simp only [Act.put, List.setIfInBounds_toArray, List.set_cons_zero, List.set_cons_succ, i64_w, i32_w]
                      rfl
                    refine pure_ (i := 11) (N := some 35) (v := undef) (a' := ?_) #[true, true, true, true, true, true, true, true, true, true, true, true, false, false, false, false, false, false, false] rfl rfl (any_of HT_.out (by kernel_rfl)) (fun _ _ _ h => h) (Or.inr ⟨by rfl, rfl⟩) ?_ ?_
                    rotate_left
                    · simp only [Act.put, List.setIfInBounds_toArray, List.set_cons_zero, List.set_cons_succ, i64_w, i32_w]
                      rfl
                    refine pure_ (i := 12) (N := some 36) (v := undef) (a' := ?_) #[true, true, true, true, true, true, true, true, true, true, true, true, true, false, false, false, false, false, false] rfl rfl (any_of HT_.out (by kernel_rfl)) (fun _ _ _ h => h) (Or.inr ⟨by rfl, rfl⟩) ?_ ?_
                    rotate_left
                    · simp only [Act.put, List.setIfInBounds_toArray, List.set_cons_zero, List.set_cons_succ, i64_w, i32_w]
                      rfl
                    refine pure_ (i := 13) (N := some 37) (v := undef) (a' := ?_) #[true, true, true, true, true, true, true, true, true, true, true, true, true, true, false, false, false, false, false] rfl rfl (any_of HT_.out (by kernel_rfl)) (fun _ _ _ h => h) (Or.inr ⟨by rfl, rfl⟩) ?_ ?_
                    rotate_left
                    · simp only [Act.put, List.setIfInBounds_toArray, List.set_cons_zero, List.set_cons_succ, i64_w, i32_w]
                      rfl
                    refine pure_ (i := 14) (N := some 38) (v := undef) (a' := ?_) #[true, true, true, true, true, true, true, true, true, true, true, true, true, true, true, false, false, false, false] rfl rfl (any_of HT_.out (by kernel_rfl)) (fun _ _ _ h => h) (Or.inr ⟨by rfl, rfl⟩) ?_ ?_
                    rotate_left
                    · simp only [Act.put, List.setIfInBounds_toArray, List.set_cons_zero, List.set_cons_succ, i64_w, i32_w]
                      rfl
                    refine pure_ (i := 15) (N := some 39) (v := undef) (a' := ?_) #[true, true, true, true, true, true, true, true, true, true, true, true, true, true, true, true, false, false, false] rfl rfl (any_of HT_.out (by kernel_rfl)) (fun _ _ _ h => h) (Or.inr ⟨by rfl, rfl⟩) ?_ ?_
                    rotate_left
                    · simp only [Act.put, List.setIfInBounds_toArray, List.set_cons_zero, List.set_cons_succ, i64_w, i32_w]
                      rfl
                    refine pure_ (i := 16) (N := some 40) (v := undef) (a' := ?_) #[true, true, true, true, true, true, true, true, true, true, true, true, true, true, true, true, true, false, false] rfl rfl (any_of HT_.out (by kernel_rfl)) (fun _ _ _ h => h) (Or.inr ⟨by rfl, rfl⟩) ?_ ?_
                    rotate_left
                    · simp only [Act.put, List.setIfInBounds_toArray, List.set_cons_zero, List.set_cons_succ, i64_w, i32_w]
                      rfl
                    refine pure_ (i := 17) (N := some 41) (v := undef) (a' := ?_) #[true, true, true, true, true, true, true, true, true, true, true, true, true, true, true, true, true, true, false] rfl rfl (any_of HT_.out (by kernel_rfl)) (fun _ _ _ h => h) (Or.inr ⟨by rfl, rfl⟩) ?_ ?_
                    rotate_left
                    · simp only [Act.put, List.setIfInBounds_toArray, List.set_cons_zero, List.set_cons_succ, i64_w, i32_w]
                      rfl
                    refine pure_ (i := 18) (N := some 42) (v := ?_) (a' := ?_) #[true, true, true, true, true, true, true, true, true, true, true, true, true, true, true, true, true, true, true] rfl rfl (any_of HT_.out (by kernel_rfl)) (fun _ _ _ h => h) (Or.inl ⟨by rfl, ?_⟩) ?_ ?_
                    rotate_left
                    · intro w'
                      go_simp
                      with_reducible rfl
                    rotate_left
                    · simp only [Act.put, List.setIfInBounds_toArray, List.set_cons_zero, List.set_cons_succ, i64_w, i32_w]
                      rfl
                    refine done_ (done_of HT_.out (by kernel_rfl)) ?_
                    try go_wp2
                    go_meet
                    case rel => exact ⟨_, (true), (by first | rfl | (simp; done) | (simp [*]; done)), H', ⟨by have := HJ2.out; have := HK2.out; first | omega | exact Nat.le_refl _⟩, ⟨by (with_reducible repeat (first | refine blk_drewN ?_ _ | refine blk_drew ?_ | refine blk_alloc ?_ _)); exact BK460.out⟩, ⟨by repeat (first | (with_reducible first | exact HB.out | apply below_alloc | apply pw_below_drewN | apply below_drew1 | refine below_set ?_ GE460.out) | exact HB.out)⟩⟩
                · rw [if_neg c15] at H
                  exact absurd H (by simp)
              case rest =>
                clear HC14
                try clear c1
                try clear c2
                try clear p2
                try clear c4
                try clear p4
                try clear q4
                try clear hx4
                try clear c6
                try clear c12
                try clear c13
                try clear c13b0
                try clear c15
                try clear c15b0
                try clear c17
                try clear c18
                try clear c18b0
                try clear hcz10_0
                try clear hcz10_1
                try clear hcz7_0
                try clear hcz7_1
                try clear hcz9_0
                try clear hcz9_1
                try clear hfz10_0
                try clear hfz10_1
                try clear hfz7_0
                try clear hfz7_1
                try clear hfz9_0
                try clear hfz9_1
                try clear hx462_0
                try clear hx462_1
                try clear hx462_2
                try clear hx464_0
                try clear hx464_1
                try clear hx464_2
                try clear hx465_0
                try clear p2
                try clear p462
                try clear p464
                try clear p465
                try clear q462
                try clear q464
                try clear q465
                obtain ⟨kq, x42_13, rfl, HA, HJ13, BK460, HB⟩ := hcut
                cases kq with
                | zero => exact absurd HA.out (by simp [cobwebref11_Right.j2])
                | succ kj13 =>
                  have H := HA.out
                  clear HA
                  simp only [cobwebref11_Right.j2] at H
                  by_cases c23 : x42_13 = true
                  · subst c23
                    have H1 : (some false) = some r := by rw [if_pos rfl] at H; exact H
                    clear H
                    have H := H1
                    clear H1
                    obtain rfl := Option.some.inj H
                    go_wp2
                    go_ret
                    exact ⟨by first | rfl | (simp [errW_none, errW_some] <;> rfl) | (simp [*, errW_none, errW_some] <;> rfl), by repeat (first | (with_reducible first | exact HB.out | apply below_alloc | apply pw_below_drewN | apply below_drew1 | refine below_set ?_ GE460.out) | exact HB.out)⟩
                  · replace c23 := Bool.eq_false_iff.mpr c23
                    subst c23
                    have H1 : (cobwebref11_Right.l1 kj13 l1 x5_2 0 l0_0 l0_1) = some r := by rw [if_neg (show ¬ (false = true) by decide)] at H; exact H
                    clear H
                    have H := H1
                    clear H1
                    have H' := Aside0.mk H
                    clear H
                    go_wp2
                    go_loopg [6] kj13 (fun kq v6 w' => ∃ (x6_4 : Int), v6 = .int .i64 x6_4 ∧ Aside0 (cobwebref11_Right.l1 kq l1 x5_2 x6_4 l0_0 l0_1 = some r) ∧ Aside0 (kq ≤ kj13) ∧ Aside0 (w'.heap[gb460]? = some (.cells #[(.slice A0_0 l0_0.length c0_0), (.slice A0_1 l0_1.length c0_1)] 26 (0, 0))) ∧ Aside0 (Below w.heap.size w w'))
                    case atStart => exact ⟨(0), (by first | rfl | (simp; done) | (simp [*]; done)), H', ⟨Nat.le_refl _⟩, ⟨by (with_reducible repeat (first | refine blk_drewN ?_ _ | refine blk_drew ?_ | refine blk_alloc ?_ _)); exact BK460.out⟩, ⟨by repeat (first | (with_reducible first | exact HB.out | apply below_alloc | apply pw_below_drewN | apply below_drew1 | refine below_set ?_ GE460.out) | exact HB.out)⟩⟩
                    case round =>
                      clear H'
                      try clear c1
                      try clear c2
                      try clear p2
                      try clear c4
                      try clear p4
                      try clear q4
                      try clear hx4
                      try clear c6
                      try clear c12
                      try clear c13
                      try clear c13b0
                      try clear c15
                      try clear c15b0
                      try clear c17
                      try clear c18
                      try clear c18b0
                      try clear c23
                      try clear hcz10_0
                      try clear hcz10_1
                      try clear hcz7_0
                      try clear hcz7_1
                      try clear hcz9_0
                      try clear hcz9_1
                      try clear hfz10_0
                      try clear hfz10_1
                      try clear hfz7_0
                      try clear hfz7_1
                      try clear hfz9_0
                      try clear hfz9_1
                      try clear hx462_0
                      try clear hx462_1
                      try clear hx462_2
                      try clear hx464_0
                      try clear hx464_1
                      try clear hx464_2
                      try clear hx465_0
                      try clear p2
                      try clear p4
                      try clear p462
                      try clear p464
                      try clear p465
                      try clear q4
                      try clear q462
                      try clear q464
                      try clear q465
                      obtain ⟨x6_4, rfl, HA, HK4, BK460, HB⟩ := hrel
                      cases gk with
                      | zero => exact absurd HA.out (by simp [cobwebref11_Right.l1])
                      | succ k4 =>
                        have H := HA.out
                        clear HA
                        simp only [cobwebref11_Right.l1] at H
                        by_cases c24 : 0 ≤ x5_2
                        · rw [if_pos c24] at H
                          have c24b0 : decide (0 ≤ x5_2) = true := decide_eq_true c24
                          clear c24
                          by_cases c25 : x5_2 < (l1.length : Int)
                          · rw [if_pos c25] at H
                            have c25b0 : decide (x5_2 < (l1.length : Int)) = true := decide_eq_true c25
                            clear c25
                            by_cases c26 : x6_4 < (((rd_T28 l1 x5_2).f1).length : Int)
                            · rw [if_pos c26] at H
                              have c26b0 : decide (x6_4 < (((rd_T28 l1 x5_2).f1).length : Int)) = true := decide_eq_true c26
                              clear c26
                              by_cases c27 : 0 ≤ x6_4
                              · rw [if_pos c27] at H
                                have c27b0 : decide (0 ≤ x6_4) = true := decide_eq_true c27
                                clear c27
                                replace H := Option.bind_eq_some_iff.mp H
                                obtain ⟨t469, A280, H⟩ := H
                                replace H : (if t469 = x5_2 then (cobwebref11_Right.l1 k4 l1 x5_2 (wrap64 (x6_4 + 1)) l0_0 l0_1) else (some false)) = some r := H
                                have A28 := Aside0.mk A280
                                clear A280
                                by_cases c29 : t469 = x5_2
                                · rw [if_pos c29] at H
                                  have c29b0 : (t469 == x5_2) = true := beq_iff_eq.mpr c29
                                  have c29b1 : (t469 != x5_2) = false := bne_eq_false_iff_eq.mpr c29
                                  clear c29
                                  have H' := Aside0.mk H
                                  clear H
                                  have p466 : 0 ≤ (x5_2 : Int) := of_decide_eq_true (by first | (with_reducible assumption) | assumption)
                                  have q466 : x5_2 < (l1.length : Int) := of_decide_eq_true (by first | (with_reducible assumption) | assumption)
                                  obtain ⟨ad466, A466_1, c466_1, e466, hx466_0, hx466_1, hx466_2, hl466_1, hi466_1⟩ := at_T28 HR1.out x5_2 p466 q466
                                  cases e466
                                  replace hx466_0 := (HB.out.cell (World.block_lt_of_cell? w _ hx466_0)).trans hx466_0
                                  replace hx466_1 := (HB.out.cell (World.block_lt_of_cell? w _ hx466_1)).trans hx466_1
                                  replace hx466_2 := (HB.out.cell (World.block_lt_of_cell? w _ hx466_2)).trans hx466_2
                                  have HR466_1 := Aside0.mk hi466_1
                                  have HC466_1 := Aside0.mk hl466_1
                                  clear hi466_1 hl466_1
                                  replace p466 := eq_true p466
                                  replace q466 := eq_true q466
                                  try go_wp2
                                  have n0_ := Aside0.mk (blk_drew BK460.out)
                                  have n1_ := Aside0.mk (below_drew1 HB.out)
                                  clear BK460
                                  clear HB
                                  have BK460 := n0_
                                  have HB := n1_
                                  clear n0_ n1_
                                  have p467 : 0 ≤ (x5_2 : Int) := of_decide_eq_true (by first | (with_reducible assumption) | assumption)
                                  have q467 : x5_2 < (l1.length : Int) := of_decide_eq_true (by first | (with_reducible assumption) | assumption)
                                  obtain ⟨ad467, A467_1, c467_1, e467, hx467_0, hx467_1, hx467_2, hl467_1, hi467_1⟩ := at_T28 HR1.out x5_2 p467 q467
                                  have hw467_2 := hx467_2
                                  have hw467_1 := hx467_1
                                  have hw467_0 := hx467_0
                                  obtain rfl : ad466 = ad467 := (by injection e467)
                                  replace hx467_0 := (HB.out.cell (World.block_lt_of_cell? w _ hx467_0)).trans hx467_0
                                  replace hx467_1 := (HB.out.cell (World.block_lt_of_cell? w _ hx467_1)).trans hx467_1
                                  replace hx467_2 := (HB.out.cell (World.block_lt_of_cell? w _ hx467_2)).trans hx467_2
                                  have HR467_1 := Aside0.mk hi467_1
                                  have HC467_1 := Aside0.mk hl467_1
                                  clear hi467_1 hl467_1
                                  replace p467 := eq_true p467
                                  replace q467 := eq_true q467
                                  have p468 : 0 ≤ (x6_4 : Int) := of_decide_eq_true (by first | (with_reducible assumption) | assumption)
                                  have q468 : x6_4 < (((rd_T28 l1 x5_2).f1).length : Int) := of_decide_eq_true (by first | (with_reducible assumption) | assumption)
                                  obtain ⟨ad468, e468, hx468_0⟩ := Kd.at_string HR467_1.out x6_4 p468 q468
                                  have hw468_0 := hx468_0
                                  cases e468
                                  replace hx468_0 := (HB.out.cell (World.block_lt_of_cell? w _ hx468_0)).trans hx468_0
                                  replace p468 := eq_true p468
                                  replace q468 := eq_true q468
                                  refine start_ (n := 12) (S := fun w' => w'.cell? ⟨gb460, 0, none⟩ = some (.slice A0_0 l0_0.length c0_0) ∧ w'.cell? ⟨gb460, 1, none⟩ = some (.slice A0_1 l0_1.length c0_1) ∧ w'.cell? (ad466.add ((x5_2).toNat * 3)) = some (.int .i64 ((rd_T28 l1 x5_2).f0)) ∧ w'.cell? ⟨(ad466.add ((x5_2).toNat * 3)).block, (ad466.add ((x5_2).toNat * 3)).off + 1, none⟩ = some (.slice (some ad468) ((rd_T28 l1 x5_2).f1).length c467_1) ∧ w'.cell? ⟨(ad466.add ((x5_2).toNat * 3)).block, (ad466.add ((x5_2).toNat * 3)).off + 2, none⟩ = some (.bool ((rd_T28 l1 x5_2).f2)) ∧ w'.cell? (ad468.add (x6_4).toNat) = some (.string (rdOf ByteArray.empty ((rd_T28 l1 x5_2).f1) x6_4))) (ds := []) #[false, false, false, false, false, false, false, false, false, false, false, false] (by kernel_rfl) rfl rfl ⟨(blk_cell BK460.out 0).trans rfl, (blk_cell BK460.out 1).trans rfl, ((HB.out.cell (World.block_lt_of_cell? w _ hw467_0)).trans hw467_0), ((HB.out.cell (World.block_lt_of_cell? w _ hw467_1)).trans hw467_1), ((HB.out.cell (World.block_lt_of_cell? w _ hw467_2)).trans hw467_2), ((HB.out.cell (World.block_lt_of_cell? w _ hw468_0)).trans hw468_0)⟩ (fun hHeld => ?_); refine with_tabW cobwebref11_Right.tab11 cobwebref11_Right.bits11 (fun HT_ HW_ => ?_)
                                  generalize wr.drew = w30 at BK460 HB HR467_1 hx467_0 hx467_1 hx467_2 hx468_0 hHeld ⊢
                                  refine pure_ (i := 1) (N := some 54) (v := ?_) (a' := ?_) #[false, true, false, false, false, false, false, false, false, false, false, false] rfl rfl (any_of HT_.out (by kernel_rfl)) (fun _ _ _ h => h) (Or.inl ⟨by rfl, ?_⟩) ?_ ?_
                                  rotate_left
                                  · intro w'
                                    go_simp
                                    with_reducible rfl
                                  rotate_left
                                  · simp only [Act.put, List.setIfInBounds_toArray, List.set_cons_zero, List.set_cons_succ, i64_w, i32_w]
                                    rfl
                                  refine pure_ (i := 2) (N := some 55) (v := ?_) (a' := ?_) #[false, true, true, false, false, false, false, false, false, false, false, false] rfl rfl (any_of HT_.out (by kernel_rfl)) (fun _ _ _ h => h) (Or.inl ⟨by rfl, ?_⟩) ?_ ?_
                                  rotate_left
                                  · intro w'
                                    go_simp
                                    with_reducible rfl
                                  rotate_left
                                  · simp only [Act.put, List.setIfInBounds_toArray, List.set_cons_zero, List.set_cons_succ, i64_w, i32_w]
                                    rfl
                                  refine pure_ (i := 3) (N := some 56) (v := ?_) (a' := ?_) #[false, true, true, true, false, false, false, false, false, false, false, false] rfl rfl (any_of HT_.out (by kernel_rfl)) (fun _ _ _ h => h) (Or.inl ⟨by rfl, ?_⟩) ?_ ?_
                                  rotate_left
                                  · intro w'
                                    go_simp
                                    with_reducible rfl
                                  rotate_left
                                  · simp only [Act.put, List.setIfInBounds_toArray, List.set_cons_zero, List.set_cons_succ, i64_w, i32_w]
                                    rfl
                                  refine pure_ (i := 4) (N := some 57) (v := ?_) (a' := ?_) #[false, true, true, true, true, false, false, false, false, false, false, false] rfl rfl (any_of HT_.out (by kernel_rfl)) (fun _ _ _ h => h) (Or.inl ⟨by rfl, ?_⟩) ?_ ?_
                                  rotate_left
                                  · intro w'
                                    go_simp
                                    with_reducible rfl
                                  rotate_left
                                  · simp only [Act.put, List.setIfInBounds_toArray, List.set_cons_zero, List.set_cons_succ, i64_w, i32_w]
                                    rfl
                                  refine pure_ (i := 6) (N := some 59) (v := ?_) (a' := ?_) #[false, true, true, true, true, false, true, false, false, false, false, false] rfl rfl (any_of HT_.out (by kernel_rfl)) (fun _ _ _ h => h) (Or.inl ⟨by rfl, ?_⟩) ?_ ?_
                                  rotate_left
                                  · intro w'
                                    go_simp
                                    with_reducible rfl
                                  rotate_left
                                  · simp only [Act.put, List.setIfInBounds_toArray, List.set_cons_zero, List.set_cons_succ, i64_w, i32_w]
                                    rfl
                                  refine pure_ (i := 10) (N := some 63) (v := ?_) (a' := ?_) #[false, true, true, true, true, false, true, false, false, false, true, false] rfl rfl (any_of HT_.out (by kernel_rfl)) (fun _ _ _ h => h) (Or.inl ⟨by rfl, ?_⟩) ?_ ?_
                                  rotate_left
                                  · intro w'
                                    go_simp
                                    with_reducible rfl
                                  rotate_left
                                  · simp only [Act.put, List.setIfInBounds_toArray, List.set_cons_zero, List.set_cons_succ, i64_w, i32_w]
                                    rfl
                                  refine take_ (i := 0) (N := some 53) (v := ?_) (a' := ?_) #[true, true, true, true, true, false, true, false, false, false, true, false] rfl rfl (take_ofW HT_.out HW_.out (by kernel_rfl)) (fun _ _ _ h => h) (Or.inl ⟨by rfl, ?_⟩) hHeld ?_ ?_
                                  rotate_left
                                  · rintro w' ⟨s0, s1, s2, s3, s4, s5⟩
                                    go_simp
                                    with_reducible rfl
                                  rotate_left
                                  · simp only [Act.put, List.setIfInBounds_toArray, List.set_cons_zero, List.set_cons_succ, i64_w, i32_w]
                                    rfl
                                  refine take_ (i := 5) (N := some 58) (v := ?_) (a' := ?_) #[true, true, true, true, true, true, true, false, false, false, true, false] rfl rfl (take_ofW HT_.out HW_.out (by kernel_rfl)) (fun _ _ _ h => h) (Or.inl ⟨by rfl, ?_⟩) hHeld ?_ ?_
                                  rotate_left
                                  · rintro w' ⟨s0, s1, s2, s3, s4, s5⟩
                                    go_simp
                                    with_reducible rfl
                                  rotate_left
                                  · simp only [Act.put, List.setIfInBounds_toArray, List.set_cons_zero, List.set_cons_succ, i64_w, i32_w]
                                    rfl
                                  refine pure_ (i := 7) (N := some 60) (v := ?_) (a' := ?_) #[true, true, true, true, true, true, true, true, false, false, true, false] rfl rfl (any_of HT_.out (by kernel_rfl)) (fun _ _ _ h => h) (Or.inl ⟨by rfl, ?_⟩) ?_ ?_
                                  rotate_left
                                  · intro w'
                                    go_simp
                                    with_reducible rfl
                                  rotate_left
                                  · simp only [Act.put, List.setIfInBounds_toArray, List.set_cons_zero, List.set_cons_succ, i64_w, i32_w]
                                    rfl
                                  refine take_ (i := 8) (N := some 61) (v := ?_) (a' := ?_) #[true, true, true, true, true, true, true, true, true, false, true, false] rfl rfl (take_ofW HT_.out HW_.out (by kernel_rfl)) (fun _ _ _ h => h) (Or.inl ⟨by rfl, ?_⟩) hHeld ?_ ?_
                                  rotate_left
                                  · rintro w' ⟨s0, s1, s2, s3, s4, s5⟩
                                    go_simp
                                    with_reducible rfl
                                  rotate_left
                                  · simp only [Act.put, List.setIfInBounds_toArray, List.set_cons_zero, List.set_cons_succ, i64_w, i32_w]
                                    rfl
                                  refine one_ (i := 9) (N := some 62) #[true, true, true, true, true, true, true, true, true, true, true, false] rfl rfl (one_of HT_.out (by kernel_rfl)) (by decide) (fun K hK => ?_)
                                  refine goes_ Try.func51 (by kernel_rfl) rfl #[.agg #[.slice A0_0 l0_0.length c0_0, .slice A0_1 l0_1.length c0_1], .string (rdOf ByteArray.empty ((rd_T28 l1 x5_2).f1) x6_4)] (by rfl) rfl rfl (by (try simp only [List.map_toArray, List.map_cons, List.map_nil]); first | done | rfl | (simp only [List.length_drop, List.length_take]; rfl)) ?_
                                  with_reducible refine (cobwebref11_At.calls k4 _ _ l0_0 _ _ l0_1 (rdOf ByteArray.empty ((rd_T28 l1 x5_2).f1) x6_4) t469 _ ?side1 ?side2 ?side3 ?side4 A28.out).mono ?_
                                  (case side1 => repeat (first | exact (Kd.C_below HR0_0.out HB.out) | (with_reducible refine Kd.C_alloc ?_ _) | (with_reducible refine Kd.C_drewN ?_ _) | (with_reducible refine Kd.C_drew ?_)))
                                  (case side2 => exact HC0_0.out)
                                  (case side3 => repeat (first | exact (Kd.C_below HR0_1.out HB.out) | (with_reducible refine Kd.C_alloc ?_ _) | (with_reducible refine Kd.C_drewN ?_ _) | (with_reducible refine Kd.C_drew ?_)))
                                  (case side4 => exact HC0_1.out)
                                  rintro e w31 ⟨rfl, hb⟩
                                  refine ⟨_, rfl, ?_⟩
                                  have n0_ := Aside0.mk (blk_below (g := gb460) (o := .cells #[.slice A0_0 l0_0.length c0_0, .slice A0_1 l0_1.length c0_1] 26 (0, 0)) (by (with_reducible repeat (first | refine blk_drewN ?_ _ | refine blk_drew ?_ | refine blk_alloc ?_ _)); exact BK460.out) hb)
                                  have n1_ := Aside0.mk (below_step (by repeat (first | (with_reducible first | exact HB.out | apply below_alloc | apply pw_below_drewN | apply below_drew1 | refine below_set ?_ GE460.out) | exact HB.out)) hb)
                                  clear BK460
                                  clear HB
                                  have BK460 := n0_
                                  have HB := n1_
                                  clear n0_ n1_
                                  (try clear hb)
                                  (try clear hb2)
                                  (try clear hk)
                                  (try clear hi)
                                  refine hK.out _ _ ⟨(blk_cell BK460.out 0).trans rfl, (blk_cell BK460.out 1).trans rfl, ((HB.out.cell (World.block_lt_of_cell? w _ hw467_0)).trans hw467_0), ((HB.out.cell (World.block_lt_of_cell? w _ hw467_1)).trans hw467_1), ((HB.out.cell (World.block_lt_of_cell? w _ hw467_2)).trans hw467_2), ((HB.out.cell (World.block_lt_of_cell? w _ hw468_0)).trans hw468_0)⟩ (fun hHeld => ?_)
                                  clear hK K
                                  refine norm_ (a' := ?_) ?_ ?_
                                  rotate_left
                                  · show Act.put _ (some 62) _ = _
                                    simp only [Act.put, List.setIfInBounds_toArray, List.set_cons_zero, List.set_cons_succ, i64_w, i32_w]
                                    rfl
                                  refine pure_ (i := 11) (N := some 64) (v := ?_) (a' := ?_) #[true, true, true, true, true, true, true, true, true, true, true, true] rfl rfl (any_of HT_.out (by kernel_rfl)) (fun _ _ _ h => h) (Or.inl ⟨by rfl, ?_⟩) ?_ ?_
                                  rotate_left
                                  · intro w'
                                    go_simp
                                    with_reducible rfl
                                  rotate_left
                                  · simp only [Act.put, List.setIfInBounds_toArray, List.set_cons_zero, List.set_cons_succ, i64_w, i32_w]
                                    rfl
                                  refine done_ (done_of HT_.out (by kernel_rfl)) ?_
                                  try go_wp2
                                  go_roundg k4
                                  case measure => have := HJ2.out; have := HK2.out; have := HJ13.out; have := HK4.out; omega
                                  case rel => exact ⟨(wrap64 (x6_4 + 1)), (by first | rfl | (simp; done) | (simp [*]; done)), H', ⟨by have := HJ2.out; have := HK2.out; have := HJ13.out; have := HK4.out; omega⟩, ⟨by (with_reducible repeat (first | refine blk_drewN ?_ _ | refine blk_drew ?_ | refine blk_alloc ?_ _)); exact BK460.out⟩, ⟨by repeat (first | (with_reducible first | exact HB.out | apply below_alloc | apply pw_below_drewN | apply below_drew1 | refine below_set ?_ GE460.out) | exact HB.out)⟩⟩
                                · rw [if_neg c29] at H
                                  have c29b0 : (t469 == x5_2) = false := beq_eq_false_iff_ne.mpr c29
                                  have c29b1 : (t469 != x5_2) = true := bne_iff_ne.mpr c29
                                  obtain rfl := Option.some.inj H
                                  have p466 : 0 ≤ (x5_2 : Int) := of_decide_eq_true (by first | (with_reducible assumption) | assumption)
                                  have q466 : x5_2 < (l1.length : Int) := of_decide_eq_true (by first | (with_reducible assumption) | assumption)
                                  obtain ⟨ad466, A466_1, c466_1, e466, hx466_0, hx466_1, hx466_2, hl466_1, hi466_1⟩ := at_T28 HR1.out x5_2 p466 q466
                                  cases e466
                                  replace hx466_0 := (HB.out.cell (World.block_lt_of_cell? w _ hx466_0)).trans hx466_0
                                  replace hx466_1 := (HB.out.cell (World.block_lt_of_cell? w _ hx466_1)).trans hx466_1
                                  replace hx466_2 := (HB.out.cell (World.block_lt_of_cell? w _ hx466_2)).trans hx466_2
                                  have HR466_1 := Aside0.mk hi466_1
                                  have HC466_1 := Aside0.mk hl466_1
                                  clear hi466_1 hl466_1
                                  replace p466 := eq_true p466
                                  replace q466 := eq_true q466
                                  try go_wp2
                                  have n0_ := Aside0.mk (blk_drew BK460.out)
                                  have n1_ := Aside0.mk (below_drew1 HB.out)
                                  clear BK460
                                  clear HB
                                  have BK460 := n0_
                                  have HB := n1_
                                  clear n0_ n1_
                                  have p467 : 0 ≤ (x5_2 : Int) := of_decide_eq_true (by first | (with_reducible assumption) | assumption)
                                  have q467 : x5_2 < (l1.length : Int) := of_decide_eq_true (by first | (with_reducible assumption) | assumption)
                                  obtain ⟨ad467, A467_1, c467_1, e467, hx467_0, hx467_1, hx467_2, hl467_1, hi467_1⟩ := at_T28 HR1.out x5_2 p467 q467
                                  have hw467_2 := hx467_2
                                  have hw467_1 := hx467_1
                                  have hw467_0 := hx467_0
                                  obtain rfl : ad466 = ad467 := (by injection e467)
                                  replace hx467_0 := (HB.out.cell (World.block_lt_of_cell? w _ hx467_0)).trans hx467_0
                                  replace hx467_1 := (HB.out.cell (World.block_lt_of_cell? w _ hx467_1)).trans hx467_1
                                  replace hx467_2 := (HB.out.cell (World.block_lt_of_cell? w _ hx467_2)).trans hx467_2
                                  have HR467_1 := Aside0.mk hi467_1
                                  have HC467_1 := Aside0.mk hl467_1
                                  clear hi467_1 hl467_1
                                  replace p467 := eq_true p467
                                  replace q467 := eq_true q467
                                  have p468 : 0 ≤ (x6_4 : Int) := of_decide_eq_true (by first | (with_reducible assumption) | assumption)
                                  have q468 : x6_4 < (((rd_T28 l1 x5_2).f1).length : Int) := of_decide_eq_true (by first | (with_reducible assumption) | assumption)
                                  obtain ⟨ad468, e468, hx468_0⟩ := Kd.at_string HR467_1.out x6_4 p468 q468
                                  have hw468_0 := hx468_0
                                  cases e468
                                  replace hx468_0 := (HB.out.cell (World.block_lt_of_cell? w _ hx468_0)).trans hx468_0
                                  replace p468 := eq_true p468
                                  replace q468 := eq_true q468
                                  refine start_ (n := 12) (S := fun w' => w'.cell? ⟨gb460, 0, none⟩ = some (.slice A0_0 l0_0.length c0_0) ∧ w'.cell? ⟨gb460, 1, none⟩ = some (.slice A0_1 l0_1.length c0_1) ∧ w'.cell? (ad466.add ((x5_2).toNat * 3)) = some (.int .i64 ((rd_T28 l1 x5_2).f0)) ∧ w'.cell? ⟨(ad466.add ((x5_2).toNat * 3)).block, (ad466.add ((x5_2).toNat * 3)).off + 1, none⟩ = some (.slice (some ad468) ((rd_T28 l1 x5_2).f1).length c467_1) ∧ w'.cell? ⟨(ad466.add ((x5_2).toNat * 3)).block, (ad466.add ((x5_2).toNat * 3)).off + 2, none⟩ = some (.bool ((rd_T28 l1 x5_2).f2)) ∧ w'.cell? (ad468.add (x6_4).toNat) = some (.string (rdOf ByteArray.empty ((rd_T28 l1 x5_2).f1) x6_4))) (ds := []) #[false, false, false, false, false, false, false, false, false, false, false, false] (by kernel_rfl) rfl rfl ⟨(blk_cell BK460.out 0).trans rfl, (blk_cell BK460.out 1).trans rfl, ((HB.out.cell (World.block_lt_of_cell? w _ hw467_0)).trans hw467_0), ((HB.out.cell (World.block_lt_of_cell? w _ hw467_1)).trans hw467_1), ((HB.out.cell (World.block_lt_of_cell? w _ hw467_2)).trans hw467_2), ((HB.out.cell (World.block_lt_of_cell? w _ hw468_0)).trans hw468_0)⟩ (fun hHeld => ?_); refine with_tabW cobwebref11_Right.tab11 cobwebref11_Right.bits11 (fun HT_ HW_ => ?_)
                                  generalize wr.drew = w32 at BK460 HB HR467_1 hx467_0 hx467_1 hx467_2 hx468_0 hHeld ⊢
                                  refine pure_ (i := 1) (N := some 54) (v := ?_) (a' := ?_) #[false, true, false, false, false, false, false, false, false, false, false, false] rfl rfl (any_of HT_.out (by kernel_rfl)) (fun _ _ _ h => h) (Or.inl ⟨by rfl, ?_⟩) ?_ ?_
                                  rotate_left
                                  · intro w'
                                    go_simp
                                    with_reducible rfl
                                  rotate_left
                                  · simp only [Act.put, List.setIfInBounds_toArray, List.set_cons_zero, List.set_cons_succ, i64_w, i32_w]
                                    rfl
                                  refine pure_ (i := 2) (N := some 55) (v := ?_) (a' := ?_) #[false, true, true, false, false, false, false, false, false, false, false, false] rfl rfl (any_of HT_.out (by kernel_rfl)) (fun _ _ _ h => h) (Or.inl ⟨by rfl, ?_⟩) ?_ ?_
                                  rotate_left
                                  · intro w'
                                    go_simp
                                    with_reducible rfl
                                  rotate_left
                                  · simp only [Act.put, List.setIfInBounds_toArray, List.set_cons_zero, List.set_cons_succ, i64_w, i32_w]
                                    rfl
                                  refine pure_ (i := 3) (N := some 56) (v := ?_) (a' := ?_) #[false, true, true, true, false, false, false, false, false, false, false, false] rfl rfl (any_of HT_.out (by kernel_rfl)) (fun _ _ _ h => h) (Or.inl ⟨by rfl, ?_⟩) ?_ ?_
                                  rotate_left
                                  · intro w'
                                    go_simp
                                    with_reducible rfl
                                  rotate_left
                                  · simp only [Act.put, List.setIfInBounds_toArray, List.set_cons_zero, List.set_cons_succ, i64_w, i32_w]
                                    rfl
                                  refine pure_ (i := 4) (N := some 57) (v := ?_) (a' := ?_) #[false, true, true, true, true, false, false, false, false, false, false, false] rfl rfl (any_of HT_.out (by kernel_rfl)) (fun _ _ _ h => h) (Or.inl ⟨by rfl, ?_⟩) ?_ ?_
                                  rotate_left
                                  · intro w'
                                    go_simp
                                    with_reducible rfl
                                  rotate_left
                                  · simp only [Act.put, List.setIfInBounds_toArray, List.set_cons_zero, List.set_cons_succ, i64_w, i32_w]
                                    rfl
                                  refine pure_ (i := 6) (N := some 59) (v := ?_) (a' := ?_) #[false, true, true, true, true, false, true, false, false, false, false, false] rfl rfl (any_of HT_.out (by kernel_rfl)) (fun _ _ _ h => h) (Or.inl ⟨by rfl, ?_⟩) ?_ ?_
                                  rotate_left
                                  · intro w'
                                    go_simp
                                    with_reducible rfl
                                  rotate_left
                                  · simp only [Act.put, List.setIfInBounds_toArray, List.set_cons_zero, List.set_cons_succ, i64_w, i32_w]
                                    rfl
                                  refine pure_ (i := 10) (N := some 63) (v := ?_) (a' := ?_) #[false, true, true, true, true, false, true, false, false, false, true, false] rfl rfl (any_of HT_.out (by kernel_rfl)) (fun _ _ _ h => h) (Or.inl ⟨by rfl, ?_⟩) ?_ ?_
                                  rotate_left
                                  · intro w'
                                    go_simp
                                    with_reducible rfl
                                  rotate_left
                                  · simp only [Act.put, List.setIfInBounds_toArray, List.set_cons_zero, List.set_cons_succ, i64_w, i32_w]
                                    rfl
                                  refine take_ (i := 0) (N := some 53) (v := ?_) (a' := ?_) #[true, true, true, true, true, false, true, false, false, false, true, false] rfl rfl (take_ofW HT_.out HW_.out (by kernel_rfl)) (fun _ _ _ h => h) (Or.inl ⟨by rfl, ?_⟩) hHeld ?_ ?_
                                  rotate_left
                                  · rintro w' ⟨s0, s1, s2, s3, s4, s5⟩
                                    go_simp
                                    with_reducible rfl
                                  rotate_left
                                  · simp only [Act.put, List.setIfInBounds_toArray, List.set_cons_zero, List.set_cons_succ, i64_w, i32_w]
                                    rfl
                                  refine take_ (i := 5) (N := some 58) (v := ?_) (a' := ?_) #[true, true, true, true, true, true, true, false, false, false, true, false] rfl rfl (take_ofW HT_.out HW_.out (by kernel_rfl)) (fun _ _ _ h => h) (Or.inl ⟨by rfl, ?_⟩) hHeld ?_ ?_
                                  rotate_left
                                  · rintro w' ⟨s0, s1, s2, s3, s4, s5⟩
                                    go_simp
                                    with_reducible rfl
                                  rotate_left
                                  · simp only [Act.put, List.setIfInBounds_toArray, List.set_cons_zero, List.set_cons_succ, i64_w, i32_w]
                                    rfl
                                  refine pure_ (i := 7) (N := some 60) (v := ?_) (a' := ?_) #[true, true, true, true, true, true, true, true, false, false, true, false] rfl rfl (any_of HT_.out (by kernel_rfl)) (fun _ _ _ h => h) (Or.inl ⟨by rfl, ?_⟩) ?_ ?_
                                  rotate_left
                                  · intro w'
                                    go_simp
                                    with_reducible rfl
                                  rotate_left
                                  · simp only [Act.put, List.setIfInBounds_toArray, List.set_cons_zero, List.set_cons_succ, i64_w, i32_w]
                                    rfl
                                  refine take_ (i := 8) (N := some 61) (v := ?_) (a' := ?_) #[true, true, true, true, true, true, true, true, true, false, true, false] rfl rfl (take_ofW HT_.out HW_.out (by kernel_rfl)) (fun _ _ _ h => h) (Or.inl ⟨by rfl, ?_⟩) hHeld ?_ ?_
                                  rotate_left
                                  · rintro w' ⟨s0, s1, s2, s3, s4, s5⟩
                                    go_simp
                                    with_reducible rfl
                                  rotate_left
                                  · simp only [Act.put, List.setIfInBounds_toArray, List.set_cons_zero, List.set_cons_succ, i64_w, i32_w]
                                    rfl
                                  refine one_ (i := 9) (N := some 62) #[true, true, true, true, true, true, true, true, true, true, true, false] rfl rfl (one_of HT_.out (by kernel_rfl)) (by decide) (fun K hK => ?_)
                                  refine goes_ Try.func51 (by kernel_rfl) rfl #[.agg #[.slice A0_0 l0_0.length c0_0, .slice A0_1 l0_1.length c0_1], .string (rdOf ByteArray.empty ((rd_T28 l1 x5_2).f1) x6_4)] (by rfl) rfl rfl (by (try simp only [List.map_toArray, List.map_cons, List.map_nil]); first | done | rfl | (simp only [List.length_drop, List.length_take]; rfl)) ?_
                                  with_reducible refine (cobwebref11_At.calls k4 _ _ l0_0 _ _ l0_1 (rdOf ByteArray.empty ((rd_T28 l1 x5_2).f1) x6_4) t469 _ ?side1 ?side2 ?side3 ?side4 A28.out).mono ?_
                                  (case side1 => repeat (first | exact (Kd.C_below HR0_0.out HB.out) | (with_reducible refine Kd.C_alloc ?_ _) | (with_reducible refine Kd.C_drewN ?_ _) | (with_reducible refine Kd.C_drew ?_)))
                                  (case side2 => exact HC0_0.out)
                                  (case side3 => repeat (first | exact (Kd.C_below HR0_1.out HB.out) | (with_reducible refine Kd.C_alloc ?_ _) | (with_reducible refine Kd.C_drewN ?_ _) | (with_reducible refine Kd.C_drew ?_)))
                                  (case side4 => exact HC0_1.out)
                                  rintro e w33 ⟨rfl, hb⟩
                                  refine ⟨_, rfl, ?_⟩
                                  have n0_ := Aside0.mk (blk_below (g := gb460) (o := .cells #[.slice A0_0 l0_0.length c0_0, .slice A0_1 l0_1.length c0_1] 26 (0, 0)) (by (with_reducible repeat (first | refine blk_drewN ?_ _ | refine blk_drew ?_ | refine blk_alloc ?_ _)); exact BK460.out) hb)
                                  have n1_ := Aside0.mk (below_step (by repeat (first | (with_reducible first | exact HB.out | apply below_alloc | apply pw_below_drewN | apply below_drew1 | refine below_set ?_ GE460.out) | exact HB.out)) hb)
                                  clear BK460
                                  clear HB
                                  have BK460 := n0_
                                  have HB := n1_
                                  clear n0_ n1_
                                  (try clear hb)
                                  (try clear hb2)
                                  (try clear hk)
                                  (try clear hi)
                                  refine hK.out _ _ ⟨(blk_cell BK460.out 0).trans rfl, (blk_cell BK460.out 1).trans rfl, ((HB.out.cell (World.block_lt_of_cell? w _ hw467_0)).trans hw467_0), ((HB.out.cell (World.block_lt_of_cell? w _ hw467_1)).trans hw467_1), ((HB.out.cell (World.block_lt_of_cell? w _ hw467_2)).trans hw467_2), ((HB.out.cell (World.block_lt_of_cell? w _ hw468_0)).trans hw468_0)⟩ (fun hHeld => ?_)
                                  clear hK K
                                  refine norm_ (a' := ?_) ?_ ?_
                                  rotate_left
                                  · show Act.put _ (some 62) _ = _
                                    simp only [Act.put, List.setIfInBounds_toArray, List.set_cons_zero, List.set_cons_succ, i64_w, i32_w]
                                    rfl
                                  refine pure_ (i := 11) (N := some 64) (v := ?_) (a' := ?_) #[true, true, true, true, true, true, true, true, true, true, true, true] rfl rfl (any_of HT_.out (by kernel_rfl)) (fun _ _ _ h => h) (Or.inl ⟨by rfl, ?_⟩) ?_ ?_
                                  rotate_left
                                  · intro w'
                                    go_simp
                                    with_reducible rfl
                                  rotate_left
                                  · simp only [Act.put, List.setIfInBounds_toArray, List.set_cons_zero, List.set_cons_succ, i64_w, i32_w]
                                    rfl
                                  refine done_ (done_of HT_.out (by kernel_rfl)) ?_
                                  try go_wp2
                                  go_ret
                                  exact ⟨by first | rfl | (simp [errW_none, errW_some] <;> rfl) | (simp [*, errW_none, errW_some] <;> rfl), by repeat (first | (with_reducible first | exact HB.out | apply below_alloc | apply pw_below_drewN | apply below_drew1 | refine below_set ?_ GE460.out) | exact HB.out)⟩
                              · rw [if_neg c27] at H
                                exact absurd H (by simp)
                            · rw [if_neg c26] at H
                              have c26b0 : decide (x6_4 < (((rd_T28 l1 x5_2).f1).length : Int)) = false := decide_eq_false c26
                              clear c26
                              have H' := Aside0.mk H
                              clear H
                              have p466 : 0 ≤ (x5_2 : Int) := of_decide_eq_true (by first | (with_reducible assumption) | assumption)
                              have q466 : x5_2 < (l1.length : Int) := of_decide_eq_true (by first | (with_reducible assumption) | assumption)
                              obtain ⟨ad466, A466_1, c466_1, e466, hx466_0, hx466_1, hx466_2, hl466_1, hi466_1⟩ := at_T28 HR1.out x5_2 p466 q466
                              cases e466
                              replace hx466_0 := (HB.out.cell (World.block_lt_of_cell? w _ hx466_0)).trans hx466_0
                              replace hx466_1 := (HB.out.cell (World.block_lt_of_cell? w _ hx466_1)).trans hx466_1
                              replace hx466_2 := (HB.out.cell (World.block_lt_of_cell? w _ hx466_2)).trans hx466_2
                              have HR466_1 := Aside0.mk hi466_1
                              have HC466_1 := Aside0.mk hl466_1
                              clear hi466_1 hl466_1
                              replace p466 := eq_true p466
                              replace q466 := eq_true q466
                              go_wp2
                              go_roundg k4
                              case measure => have := HJ2.out; have := HK2.out; have := HJ13.out; have := HK4.out; omega
                              case rel => exact ⟨(wrap64 (x5_2 + 1)), (by first | rfl | (simp; done) | (simp [*]; done)), H', ⟨by have := HJ2.out; have := HK2.out; have := HJ13.out; have := HK4.out; omega⟩, ⟨by (with_reducible repeat (first | refine blk_drewN ?_ _ | refine blk_drew ?_ | refine blk_alloc ?_ _)); exact BK460.out⟩, ⟨by repeat (first | (with_reducible first | exact HB.out | apply below_alloc | apply pw_below_drewN | apply below_drew1 | refine below_set ?_ GE460.out) | exact HB.out)⟩⟩
                          · rw [if_neg c25] at H
                            exact absurd H (by simp)
                        · rw [if_neg c24] at H
                          exact absurd H (by simp)
            · rw [if_neg c13] at H
              have c13b0 : decide (x5_2 < (l1.length : Int)) = false := decide_eq_false c13
              clear c13
              obtain rfl := Option.some.inj H
              go_wp2
              go_ret
              exact ⟨by first | rfl | (simp [errW_none, errW_some] <;> rfl) | (simp [*, errW_none, errW_some] <;> rfl), by repeat (first | (with_reducible first | exact HB.out | apply below_alloc | apply pw_below_drewN | apply below_drew1 | refine below_set ?_ GE460.out) | exact HB.out)⟩
end Go.Proofs.Ytneagipmllgejaa.PL
end
