/- A part of the proof: lemmas that the row uses, laid together by a program of this session's (pack.py) out of its texts and of what the kit's printer wrote for this seat. -/
import Derived.Test.YtfbegchhgigjeaaKC0
import Derived.Test.YtfbegchhgigjeaaKC1
import Derived.Test.YtfbegchhgigjeaaKC2
import Derived.Test.YtfbegchhgigjeaaKC3
import Derived.Test.YtfbegchhgigjeaaKC4
import Derived.Test.YtfbegchhgigjeaaKC5
import Derived.Test.YtfbegchhgigjeaaKC6
import Derived.Test.YtfbegchhgigjeaaKC7
section
namespace Go.Proofs.Ytfbegchhgigjeaa.PC
open Go.RowKit Go.Proofs.YtfbegchhgigjeaaW.PrintWords Go.Proofs.YtfbegchhgigjeaaW.PrintLast Go.Proofs.YtfbegchhgigjeaaW.PrintMore
attribute [local go_sem] max2_int min2_int max_two min_two max_three min_three max_four min_four   -- for this text's walks alone
set_option linter.unusedVariables false
set_option linter.unusedSimpArgs false
mutual
def cobwebref10_Right.l0 : Nat → List (S39) → Int → Int → Option (Bool)
 | 0, _, _, _ => none
 | k + 1, x0, x3, x4 => if x4 < (x0.length : Int) then (if 0 ≤ x4 then (if (wrap64 (x4 + 1)) < (x0.length : Int) then (if 0 ≤ (wrap64 (x4 + 1)) then (if ((rd_T39 x0 (wrap64 (x4 + 1))).f0) = 0 then (some false) else (cobwebref10_Right.j1 k x0 x3 x4 ((rd_T39 x0 (wrap64 (x4 + 1))).f0) ((rd_T39 x0 x4).f0) ((rd_T39 x0 x4).f1) ((rd_T39 x0 x4).f2) ((rd_T39 x0 x4).f3))) else (none)) else (cobwebref10_Right.j1 k x0 x3 x4 0 ((rd_T39 x0 x4).f0) ((rd_T39 x0 x4).f1) ((rd_T39 x0 x4).f2) ((rd_T39 x0 x4).f3))) else (none)) else (some true)
def cobwebref10_Right.j1 : Nat → List (S39) → Int → Int → Int → Int → List Int → Int → Bool → Option (Bool)
 | 0, _, _, _, _, _, _, _, _ => none
 | k + 1, x0, x3, x4, x6, x222000, x222001, x222002, x222003 => if x4 = 0 then (if x222000 = 0 then (if x4 > 0 then (if (x222001.length : Int) = 0 then (cobwebref10_Right.j2 k x0 x3 x4 true x222000 x222001 x222002 x222003) else (if x222000 < 0 then (cobwebref10_Right.j2 k x0 x3 x4 true x222000 x222001 x222002 x222003) else (if x222003 = true then (cobwebref10_Right.j2 k x0 x3 x4 true x222000 x222001 x222002 x222003) else (if x222002 = x6 then (cobwebref10_Right.j2 k x0 x3 x4 (decide ((x222001.length : Int) > 4)) x222000 x222001 x222002 x222003) else (cobwebref10_Right.j2 k x0 x3 x4 true x222000 x222001 x222002 x222003))))) else (if x222000 < 0 then (cobwebref10_Right.j2 k x0 x3 x4 true x222000 x222001 x222002 x222003) else (if x222003 = true then (cobwebref10_Right.j2 k x0 x3 x4 true x222000 x222001 x222002 x222003) else (if x222002 = x6 then (cobwebref10_Right.j2 k x0 x3 x4 (decide ((x222001.length : Int) > 4)) x222000 x222001 x222002 x222003) else (cobwebref10_Right.j2 k x0 x3 x4 true x222000 x222001 x222002 x222003))))) else (cobwebref10_Right.j2 k x0 x3 x4 true x222000 x222001 x222002 x222003)) else (if x4 > 0 then (if (x222001.length : Int) = 0 then (cobwebref10_Right.j2 k x0 x3 x4 true x222000 x222001 x222002 x222003) else (if x222000 < 0 then (cobwebref10_Right.j2 k x0 x3 x4 true x222000 x222001 x222002 x222003) else (if x222003 = true then (cobwebref10_Right.j2 k x0 x3 x4 true x222000 x222001 x222002 x222003) else (if x222002 = x6 then (cobwebref10_Right.j2 k x0 x3 x4 (decide ((x222001.length : Int) > 4)) x222000 x222001 x222002 x222003) else (cobwebref10_Right.j2 k x0 x3 x4 true x222000 x222001 x222002 x222003))))) else (if x222000 < 0 then (cobwebref10_Right.j2 k x0 x3 x4 true x222000 x222001 x222002 x222003) else (if x222003 = true then (cobwebref10_Right.j2 k x0 x3 x4 true x222000 x222001 x222002 x222003) else (if x222002 = x6 then (cobwebref10_Right.j2 k x0 x3 x4 (decide ((x222001.length : Int) > 4)) x222000 x222001 x222002 x222003) else (cobwebref10_Right.j2 k x0 x3 x4 true x222000 x222001 x222002 x222003)))))
def cobwebref10_Right.j2 : Nat → List (S39) → Int → Int → Bool → Int → List Int → Int → Bool → Option (Bool)
 | 0, _, _, _, _, _, _, _, _ => none
 | k + 1, x0, x3, x4, x69, x222000, x222001, x222002, x222003 => if x69 = true then (some false) else (cobwebref10_Right.l1 k x0 x3 x4 0 x222000 x222001 x222002 x222003)
def cobwebref10_Right.l1 : Nat → List (S39) → Int → Int → Int → Int → List Int → Int → Bool → Option (Bool)
 | 0, _, _, _, _, _, _, _, _ => none
 | k + 1, x0, x3, x4, x7, x222000, x222001, x222002, x222003 => if x7 < x4 then (if 0 ≤ x7 then (if x7 < (x0.length : Int) then (if ((rd_T39 x0 x7).f0) = x222000 then (some false) else (cobwebref10_Right.l1 k x0 x3 x4 (wrap64 (x7 + 1)) x222000 x222001 x222002 x222003)) else (none)) else (none)) else (cobwebref10_Right.l2 k x0 x3 x4 0 x222000 x222001 x222002 x222003)
def cobwebref10_Right.l2 : Nat → List (S39) → Int → Int → Int → Int → List Int → Int → Bool → Option (Bool)
 | 0, _, _, _, _, _, _, _, _ => none
 | k + 1, x0, x3, x4, x8, x222000, x222001, x222002, x222003 => if x8 < (x222001.length : Int) then (if 0 ≤ x8 then (if (rd x222001 x8) ≤ x3 then (some false) else (cobwebref10_Right.l2 k x0 (rd x222001 x8) x4 (wrap64 (x8 + 1)) x222000 x222001 x222002 x222003)) else (none)) else (cobwebref10_Right.l0 k x0 x3 (wrap64 (x4 + 1)))
end
def cobwebref10_Right.f (k : Nat) (l0 : List (S39)) : Option (Bool) := cobwebref10_Right.l0 k l0 (-1) 0
theorem cobwebref10_Right.mono_l : ∀ k, (∀ y0 y1 y2, LeO (cobwebref10_Right.l0 k y0 y1 y2) (cobwebref10_Right.l0 (k + 1) y0 y1 y2)) ∧ (∀ y0 y1 y2 y3 y4 y5 y6 y7, LeO (cobwebref10_Right.j1 k y0 y1 y2 y3 y4 y5 y6 y7) (cobwebref10_Right.j1 (k + 1) y0 y1 y2 y3 y4 y5 y6 y7)) ∧ (∀ y0 y1 y2 y3 y4 y5 y6 y7, LeO (cobwebref10_Right.j2 k y0 y1 y2 y3 y4 y5 y6 y7) (cobwebref10_Right.j2 (k + 1) y0 y1 y2 y3 y4 y5 y6 y7)) ∧ (∀ y0 y1 y2 y3 y4 y5 y6 y7, LeO (cobwebref10_Right.l1 k y0 y1 y2 y3 y4 y5 y6 y7) (cobwebref10_Right.l1 (k + 1) y0 y1 y2 y3 y4 y5 y6 y7)) ∧ (∀ y0 y1 y2 y3 y4 y5 y6 y7, LeO (cobwebref10_Right.l2 k y0 y1 y2 y3 y4 y5 y6 y7) (cobwebref10_Right.l2 (k + 1) y0 y1 y2 y3 y4 y5 y6 y7))
 | 0 => ⟨fun _ _ _ r h => by simp [cobwebref10_Right.l0] at h, fun _ _ _ _ _ _ _ _ r h => by simp [cobwebref10_Right.j1] at h, fun _ _ _ _ _ _ _ _ r h => by simp [cobwebref10_Right.j2] at h, fun _ _ _ _ _ _ _ _ r h => by simp [cobwebref10_Right.l1] at h, fun _ _ _ _ _ _ _ _ r h => by simp [cobwebref10_Right.l2] at h⟩
 | k + 1 => by
  obtain ⟨ih0, ih1, ih2, ih3, ih4⟩ := cobwebref10_Right.mono_l k
  refine ⟨?_, ?_, ?_, ?_, ?_⟩
  ·intro y0 y1 y2
   unfold cobwebref10_Right.l0
   repeat' first
   | (with_reducible exact ih0 _ _ _)
   | (with_reducible exact ih1 _ _ _ _ _ _ _ _)
   | (with_reducible exact ih2 _ _ _ _ _ _ _ _)
   | (with_reducible exact ih3 _ _ _ _ _ _ _ _)
   | (with_reducible exact ih4 _ _ _ _ _ _ _ _)
   | (with_reducible exact LeO.refl _)
   | (with_reducible exact LeO.none _)
   | (with_reducible refine LeO.ite ?_ ?_)
   | (with_reducible refine LeO.bind ?_ (fun _ => ?_))
   | exact ih0 _ _ _
   | exact ih1 _ _ _ _ _ _ _ _
   | exact ih2 _ _ _ _ _ _ _ _
   | exact ih3 _ _ _ _ _ _ _ _
   | exact ih4 _ _ _ _ _ _ _ _
   | exact LeO.none _
   | refine LeO.ite ?_ ?_
   | refine LeO.bind ?_ (fun _ => ?_)
  ·intro y0 y1 y2 y3 y4 y5 y6 y7
   unfold cobwebref10_Right.j1
   repeat' first
   | (with_reducible exact ih0 _ _ _)
   | (with_reducible exact ih1 _ _ _ _ _ _ _ _)
   | (with_reducible exact ih2 _ _ _ _ _ _ _ _)
   | (with_reducible exact ih3 _ _ _ _ _ _ _ _)
   | (with_reducible exact ih4 _ _ _ _ _ _ _ _)
   | (with_reducible exact LeO.refl _)
   | (with_reducible exact LeO.none _)
   | (with_reducible refine LeO.ite ?_ ?_)
   | (with_reducible refine LeO.bind ?_ (fun _ => ?_))
   | exact ih0 _ _ _
   | exact ih1 _ _ _ _ _ _ _ _
   | exact ih2 _ _ _ _ _ _ _ _
   | exact ih3 _ _ _ _ _ _ _ _
   | exact ih4 _ _ _ _ _ _ _ _
   | exact LeO.none _
   | refine LeO.ite ?_ ?_
   | refine LeO.bind ?_ (fun _ => ?_)
  ·intro y0 y1 y2 y3 y4 y5 y6 y7
   unfold cobwebref10_Right.j2
   repeat' first
   | (with_reducible exact ih0 _ _ _)
   | (with_reducible exact ih1 _ _ _ _ _ _ _ _)
   | (with_reducible exact ih2 _ _ _ _ _ _ _ _)
   | (with_reducible exact ih3 _ _ _ _ _ _ _ _)
   | (with_reducible exact ih4 _ _ _ _ _ _ _ _)
   | (with_reducible exact LeO.refl _)
   | (with_reducible exact LeO.none _)
   | (with_reducible refine LeO.ite ?_ ?_)
   | (with_reducible refine LeO.bind ?_ (fun _ => ?_))
   | exact ih0 _ _ _
   | exact ih1 _ _ _ _ _ _ _ _
   | exact ih2 _ _ _ _ _ _ _ _
   | exact ih3 _ _ _ _ _ _ _ _
   | exact ih4 _ _ _ _ _ _ _ _
   | exact LeO.none _
   | refine LeO.ite ?_ ?_
   | refine LeO.bind ?_ (fun _ => ?_)
  ·intro y0 y1 y2 y3 y4 y5 y6 y7
   unfold cobwebref10_Right.l1
   repeat' first
   | (with_reducible exact ih0 _ _ _)
   | (with_reducible exact ih1 _ _ _ _ _ _ _ _)
   | (with_reducible exact ih2 _ _ _ _ _ _ _ _)
   | (with_reducible exact ih3 _ _ _ _ _ _ _ _)
   | (with_reducible exact ih4 _ _ _ _ _ _ _ _)
   | (with_reducible exact LeO.refl _)
   | (with_reducible exact LeO.none _)
   | (with_reducible refine LeO.ite ?_ ?_)
   | (with_reducible refine LeO.bind ?_ (fun _ => ?_))
   | exact ih0 _ _ _
   | exact ih1 _ _ _ _ _ _ _ _
   | exact ih2 _ _ _ _ _ _ _ _
   | exact ih3 _ _ _ _ _ _ _ _
   | exact ih4 _ _ _ _ _ _ _ _
   | exact LeO.none _
   | refine LeO.ite ?_ ?_
   | refine LeO.bind ?_ (fun _ => ?_)
  ·intro y0 y1 y2 y3 y4 y5 y6 y7
   unfold cobwebref10_Right.l2
   repeat' first
   | (with_reducible exact ih0 _ _ _)
   | (with_reducible exact ih1 _ _ _ _ _ _ _ _)
   | (with_reducible exact ih2 _ _ _ _ _ _ _ _)
   | (with_reducible exact ih3 _ _ _ _ _ _ _ _)
   | (with_reducible exact ih4 _ _ _ _ _ _ _ _)
   | (with_reducible exact LeO.refl _)
   | (with_reducible exact LeO.none _)
   | (with_reducible refine LeO.ite ?_ ?_)
   | (with_reducible refine LeO.bind ?_ (fun _ => ?_))
   | exact ih0 _ _ _
   | exact ih1 _ _ _ _ _ _ _ _
   | exact ih2 _ _ _ _ _ _ _ _
   | exact ih3 _ _ _ _ _ _ _ _
   | exact ih4 _ _ _ _ _ _ _ _
   | exact LeO.none _
   | refine LeO.ite ?_ ?_
   | refine LeO.bind ?_ (fun _ => ?_)
theorem cobwebref10_Right.mono : ∀ a0 k, LeO (cobwebref10_Right.f k a0) (cobwebref10_Right.f (k + 1) a0) := by
 intro a0 k
 obtain ⟨ih0, ih1, ih2, ih3, ih4⟩ := cobwebref10_Right.mono_l k
 unfold cobwebref10_Right.f
 repeat' first
   | (with_reducible exact ih0 _ _ _)
   | (with_reducible exact ih1 _ _ _ _ _ _ _ _)
   | (with_reducible exact ih2 _ _ _ _ _ _ _ _)
   | (with_reducible exact ih3 _ _ _ _ _ _ _ _)
   | (with_reducible exact ih4 _ _ _ _ _ _ _ _)
   | (with_reducible exact LeO.refl _)
   | (with_reducible exact LeO.none _)
   | (with_reducible refine LeO.ite ?_ ?_)
   | (with_reducible refine LeO.bind ?_ (fun _ => ?_))
   | exact ih0 _ _ _
   | exact ih1 _ _ _ _ _ _ _ _
   | exact ih2 _ _ _ _ _ _ _ _
   | exact ih3 _ _ _ _ _ _ _ _
   | exact ih4 _ _ _ _ _ _ _ _
   | exact LeO.none _
   | refine LeO.ite ?_ ?_
   | refine LeO.bind ?_ (fun _ => ?_)
set_option maxHeartbeats 8000000 in
set_option maxRecDepth 100000 in
theorem cobwebref10_Right.calls (k : Nat) (A0 : Option Addr) (c0 : Nat) (l0 : List (S39)) (r : Bool) (w : World) (hr0 : Kd.C k39 w A0 l0.length l0) (hc0 : l0.length ≤ c0) (h : cobwebref10_Right.f k l0 = some r) :
  Calls Try.prog 20 #[.slice A0 l0.length c0] w fun e w' => e = .returned (.bool r) ∧ Below w.heap.size w w' := by
 have hu39 := Try.underlying39
 have HR0 := Aside0.mk hr0
 have HC0 := Aside0.mk hc0
 clear hr0 hc0
 have HB := Aside0.mk (Below.refl w.heap.size w)
 have H : (cobwebref10_Right.l0 k l0 (-1) 0) = some r := h
 clear h
 have H' := Aside0.mk H
 clear H
 go_enter Try.func20, Try.ntmps20
 go_wp2
 repeat (go_quiet (fail); try go_wp2)
 go_loopg [3, 4] k (fun kq v3 v4 w' => ∃ (x3_1 : Int) (x4_1 : Int), v3 = .int .i64 x3_1 ∧ v4 = .int .i64 x4_1 ∧ Aside0 (cobwebref10_Right.l0 kq l0 x3_1 x4_1 = some r) ∧ Aside0 (kq ≤ k) ∧ Aside0 (Below w.heap.size w w'))
 case atStart => exact ⟨((-1)), (0), (by first | rfl | (simp; done) | (simp [*]; done)), (by first | rfl | (simp; done) | (simp [*]; done)), H', ⟨Nat.le_refl _⟩, ⟨by repeat (first | (with_reducible first | exact HB.out | apply below_alloc | apply pw_below_drewN | apply below_drew1) | exact HB.out)⟩⟩
 case round =>
  clear H'
  obtain ⟨x3_1, x4_1, rfl, rfl, HA, HK1, HB⟩ := hrel
  cases gk with
  | zero => exact absurd HA.out (by simp [cobwebref10_Right.l0])
  | succ k1 =>
   have H := HA.out
   clear HA
   simp only [cobwebref10_Right.l0] at H
   by_cases c2 : x4_1 < (l0.length : Int)
   ·rw [if_pos c2] at H
    have c2b0 : decide (x4_1 < (l0.length : Int)) = true := decide_eq_true c2
    clear c2
    by_cases c3 : 0 ≤ x4_1
    ·rw [if_pos c3] at H
     have c3b0 : decide (0 ≤ x4_1) = true := decide_eq_true c3
     clear c3
     have HC4 := Aside0.mk H
     clear H
     have p220 : 0 ≤ (x4_1 : Int) := of_decide_eq_true (by first | (with_reducible assumption) | assumption)
     have q220 : x4_1 < (l0.length : Int) := of_decide_eq_true (by first | (with_reducible assumption) | assumption)
     obtain ⟨ad220, A220_1, c220_1, e220, hx220_0, hx220_1, hx220_2, hx220_3, hl220_1, hi220_1⟩ := at_T39 HR0.out x4_1 p220 q220
     cases e220
     replace hx220_0 := (HB.out.cell (World.block_lt_of_cell? w _ hx220_0)).trans hx220_0
     replace hx220_1 := (HB.out.cell (World.block_lt_of_cell? w _ hx220_1)).trans hx220_1
     replace hx220_2 := (HB.out.cell (World.block_lt_of_cell? w _ hx220_2)).trans hx220_2
     replace hx220_3 := (HB.out.cell (World.block_lt_of_cell? w _ hx220_3)).trans hx220_3
     have HR220_1 := Aside0.mk hi220_1
     have HC220_1 := Aside0.mk hl220_1
     clear hi220_1 hl220_1
     replace p220 := eq_true p220
     replace q220 := eq_true q220
     go_upto_if 23 with (first | ((with_reducible refine gate_dst (N := 5) rfl ?_); (try (refine gate_guard (by rfl) ?_; dsimp only)); refine box_event ?hg (N := 5) ?hd (cs := #[.int .i64 0, .slice none 0 0, .int .i64 0, .bool false]) (t := 39) ?hr ?_; (case hd => rfl); (case hg => rfl); (case hr => first | (go_simp; done) | (go_simp; rfl)); intro gb221 hg w5 hbox hb; have n0_ := Aside0.mk (below_step (by repeat (first | (with_reducible first | exact HB.out | apply below_alloc | apply pw_below_drewN | apply below_drew1) | exact HB.out)) hb); have n1_ := Aside0.mk (hbox); have n2_ := Aside0.mk ((by rw [hg]; exact (below_size (by repeat (first | (with_reducible first | exact HB.out | apply below_alloc | apply pw_below_drewN | apply below_drew1) | exact HB.out))) : w.heap.size ≤ gb221)); have n3_ := Aside0.mk ((by rw [hg]; exact (below_size (by repeat (first | (with_reducible first | exact HB.out | apply below_alloc | apply pw_below_drewN | apply below_drew1) | exact HB.out))) : w.heap.size ≤ gb221)); clear HB; have HB := n0_; have BK221 := n1_; have GW221 := n2_; have GE221 := n3_; clear n0_ n1_ n2_ n3_; clear hb hbox hg; have hcz6_0 : w5.cell? ⟨gb221, 0, none⟩ = some (.int .i64 0) := (blk_cell BK221.out 0).trans rfl; have hcz6_1 : w5.cell? ⟨gb221, 1, none⟩ = some (.slice none 0 0) := (blk_cell BK221.out 1).trans rfl; have hcz6_2 : w5.cell? ⟨gb221, 2, none⟩ = some (.int .i64 0) := (blk_cell BK221.out 2).trans rfl; have hcz6_3 : w5.cell? ⟨gb221, 3, none⟩ = some (.bool false) := (blk_cell BK221.out 3).trans rfl; have hfz6_0 := blk_frozen BK221.out 0; have hfz6_1 := blk_frozen BK221.out 1; have hfz6_2 := blk_frozen BK221.out 2; have hfz6_3 := blk_frozen BK221.out 3))
     repeat (go_quiet (first | ((with_reducible refine gate_dst (N := 5) rfl ?_); (try (refine gate_guard (by rfl) ?_; dsimp only)); refine box_event ?hg (N := 5) ?hd (cs := #[.int .i64 0, .slice none 0 0, .int .i64 0, .bool false]) (t := 39) ?hr ?_; (case hd => rfl); (case hg => rfl); (case hr => first | (go_simp; done) | (go_simp; rfl)); intro gb221 hg w5 hbox hb; have n0_ := Aside0.mk (below_step (by repeat (first | (with_reducible first | exact HB.out | apply below_alloc | apply pw_below_drewN | apply below_drew1) | exact HB.out)) hb); have n1_ := Aside0.mk (hbox); have n2_ := Aside0.mk ((by rw [hg]; exact (below_size (by repeat (first | (with_reducible first | exact HB.out | apply below_alloc | apply pw_below_drewN | apply below_drew1) | exact HB.out))) : w.heap.size ≤ gb221)); have n3_ := Aside0.mk ((by rw [hg]; exact (below_size (by repeat (first | (with_reducible first | exact HB.out | apply below_alloc | apply pw_below_drewN | apply below_drew1) | exact HB.out))) : w.heap.size ≤ gb221)); clear HB; have HB := n0_; have BK221 := n1_; have GW221 := n2_; have GE221 := n3_; clear n0_ n1_ n2_ n3_; clear hb hbox hg; have hcz6_0 : w5.cell? ⟨gb221, 0, none⟩ = some (.int .i64 0) := (blk_cell BK221.out 0).trans rfl; have hcz6_1 : w5.cell? ⟨gb221, 1, none⟩ = some (.slice none 0 0) := (blk_cell BK221.out 1).trans rfl; have hcz6_2 : w5.cell? ⟨gb221, 2, none⟩ = some (.int .i64 0) := (blk_cell BK221.out 2).trans rfl; have hcz6_3 : w5.cell? ⟨gb221, 3, none⟩ = some (.bool false) := (blk_cell BK221.out 3).trans rfl; have hfz6_0 := blk_frozen BK221.out 0; have hfz6_1 := blk_frozen BK221.out 1; have hfz6_2 := blk_frozen BK221.out 2; have hfz6_3 := blk_frozen BK221.out 3)); go_upto_if 23 with (first | ((with_reducible refine gate_dst (N := 5) rfl ?_); (try (refine gate_guard (by rfl) ?_; dsimp only)); refine box_event ?hg (N := 5) ?hd (cs := #[.int .i64 0, .slice none 0 0, .int .i64 0, .bool false]) (t := 39) ?hr ?_; (case hd => rfl); (case hg => rfl); (case hr => first | (go_simp; done) | (go_simp; rfl)); intro gb221 hg w5 hbox hb; have n0_ := Aside0.mk (below_step (by repeat (first | (with_reducible first | exact HB.out | apply below_alloc | apply pw_below_drewN | apply below_drew1) | exact HB.out)) hb); have n1_ := Aside0.mk (hbox); have n2_ := Aside0.mk ((by rw [hg]; exact (below_size (by repeat (first | (with_reducible first | exact HB.out | apply below_alloc | apply pw_below_drewN | apply below_drew1) | exact HB.out))) : w.heap.size ≤ gb221)); have n3_ := Aside0.mk ((by rw [hg]; exact (below_size (by repeat (first | (with_reducible first | exact HB.out | apply below_alloc | apply pw_below_drewN | apply below_drew1) | exact HB.out))) : w.heap.size ≤ gb221)); clear HB; have HB := n0_; have BK221 := n1_; have GW221 := n2_; have GE221 := n3_; clear n0_ n1_ n2_ n3_; clear hb hbox hg; have hcz6_0 : w5.cell? ⟨gb221, 0, none⟩ = some (.int .i64 0) := (blk_cell BK221.out 0).trans rfl; have hcz6_1 : w5.cell? ⟨gb221, 1, none⟩ = some (.slice none 0 0) := (blk_cell BK221.out 1).trans rfl; have hcz6_2 : w5.cell? ⟨gb221, 2, none⟩ = some (.int .i64 0) := (blk_cell BK221.out 2).trans rfl; have hcz6_3 : w5.cell? ⟨gb221, 3, none⟩ = some (.bool false) := (blk_cell BK221.out 3).trans rfl; have hfz6_0 := blk_frozen BK221.out 0; have hfz6_1 := blk_frozen BK221.out 1; have hfz6_2 := blk_frozen BK221.out 2; have hfz6_3 := blk_frozen BK221.out 3)))
     (try simp only [Act.put, List.setIfInBounds_toArray, List.set_cons_zero, List.set_cons_succ])
     go_cut [6] (fun v6 wc => ∃ (kq : Nat) (x6_3 : Int), v6 = .int .i64 x6_3 ∧ Aside0 (cobwebref10_Right.j1 kq l0 x3_1 x4_1 x6_3 ((rd_T39 l0 x4_1).f0) ((rd_T39 l0 x4_1).f1) ((rd_T39 l0 x4_1).f2) ((rd_T39 l0 x4_1).f3) = some r) ∧ Aside0 (kq ≤ k1) ∧ Aside0 (wc.heap[gb221]? = some (.cells #[.int .i64 ((rd_T39 l0 x4_1).f0), (.slice A220_1 ((rd_T39 l0 x4_1).f1).length c220_1), .int .i64 ((rd_T39 l0 x4_1).f2), .bool ((rd_T39 l0 x4_1).f3)] 39 (0, 0))) ∧ Aside0 (Below w.heap.size w wc))
     case first =>
      have H := HC4.out
      clear HC4
      by_cases c7 : (wrap64 (x4_1 + 1)) < (l0.length : Int)
      ·rw [if_pos c7] at H
       have c7b0 : decide ((wrap64 (x4_1 + 1)) < (l0.length : Int)) = true := decide_eq_true c7
       clear c7
       (first | rw [c7b0] | (simp only [i64_w, i32_w]; rw [c7b0]) | skip)
       obtain ⟨ji8, hji8⟩ : ∃ j_ : Int, (wrap64 (x4_1 + 1)) = j_ := ⟨_, rfl⟩
       replace H : (if 0 ≤ (ji8) then (if ((rd_T39 l0 (ji8)).f0) = 0 then (some false) else (cobwebref10_Right.j1 k1 l0 x3_1 x4_1 ((rd_T39 l0 (ji8)).f0) ((rd_T39 l0 x4_1).f0) ((rd_T39 l0 x4_1).f1) ((rd_T39 l0 x4_1).f2) ((rd_T39 l0 x4_1).f3))) else (none)) = some r := by first | (rw [hji8] at H; exact H) | (simp only [hji8] at H ⊢; exact H)
       (try rw [hji8] at c7b0)
       have hji8w : (IntKind.i64.wrap (x4_1 + 1)) = ji8 := (i64_w _).trans hji8
       by_cases c9 : 0 ≤ (ji8)
       ·rw [if_pos c9] at H
        have c9b0 : decide (0 ≤ (ji8)) = true := decide_eq_true c9
        clear c9
        by_cases c10 : ((rd_T39 l0 (ji8)).f0) = 0
        ·rw [if_pos c10] at H
         have c10b0 : (((rd_T39 l0 (ji8)).f0) == 0) = true := beq_iff_eq.mpr c10
         have c10b1 : (((rd_T39 l0 (ji8)).f0) != 0) = false := bne_eq_false_iff_eq.mpr c10
         clear c10
         obtain rfl := Option.some.inj H
         have p222 : 0 ≤ ((ji8) : Int) := of_decide_eq_true (by first | (with_reducible assumption) | assumption)
         have q222 : (ji8) < (l0.length : Int) := of_decide_eq_true (by first | (with_reducible assumption) | assumption)
         obtain ⟨ad222, A222_1, c222_1, e222, hx222_0, hx222_1, hx222_2, hx222_3, hl222_1, hi222_1⟩ := at_T39 HR0.out (ji8) p222 q222
         obtain rfl : ad220 = ad222 := (by injection e222)
         have hn222_0 : ad220.block ≠ gb221 := Nat.ne_of_lt (Nat.lt_of_lt_of_le (by have := World.block_lt_of_cell? _ _ hx222_0; first | rwa [add_block] at this | exact this) GW221.out)
         have hn222_1 : ad220.block ≠ gb221 := Nat.ne_of_lt (Nat.lt_of_lt_of_le (by have := World.block_lt_of_cell? _ _ hx222_0; first | rwa [add_block] at this | exact this) GW221.out)
         have hn222_2 : ad220.block ≠ gb221 := Nat.ne_of_lt (Nat.lt_of_lt_of_le (by have := World.block_lt_of_cell? _ _ hx222_0; first | rwa [add_block] at this | exact this) GW221.out)
         have hn222_3 : ad220.block ≠ gb221 := Nat.ne_of_lt (Nat.lt_of_lt_of_le (by have := World.block_lt_of_cell? _ _ hx222_0; first | rwa [add_block] at this | exact this) GW221.out)
         replace hx222_0 := (HB.out.cell (World.block_lt_of_cell? w _ hx222_0)).trans hx222_0
         replace hx222_1 := (HB.out.cell (World.block_lt_of_cell? w _ hx222_1)).trans hx222_1
         replace hx222_2 := (HB.out.cell (World.block_lt_of_cell? w _ hx222_2)).trans hx222_2
         replace hx222_3 := (HB.out.cell (World.block_lt_of_cell? w _ hx222_3)).trans hx222_3
         have HR222_1 := Aside0.mk hi222_1
         have HC222_1 := Aside0.mk hl222_1
         clear hi222_1 hl222_1
         replace hx222_0 := (cell_far (p := ⟨gb221, 0, none⟩) (by first | (rw [add_block]; exact hn222_0) | (show (Addr.add _ _).block ≠ _; rw [add_block]; exact hn222_0) | exact hn222_0) (.int .i64 ((rd_T39 l0 x4_1).f0))).trans hx222_0
         replace hx222_1 := (cell_far (p := ⟨gb221, 0, none⟩) (by first | (rw [add_block]; exact hn222_0) | (show (Addr.add _ _).block ≠ _; rw [add_block]; exact hn222_0) | exact hn222_0) (.int .i64 ((rd_T39 l0 x4_1).f0))).trans hx222_1
         replace hx222_2 := (cell_far (p := ⟨gb221, 0, none⟩) (by first | (rw [add_block]; exact hn222_0) | (show (Addr.add _ _).block ≠ _; rw [add_block]; exact hn222_0) | exact hn222_0) (.int .i64 ((rd_T39 l0 x4_1).f0))).trans hx222_2
         replace hx222_3 := (cell_far (p := ⟨gb221, 0, none⟩) (by first | (rw [add_block]; exact hn222_0) | (show (Addr.add _ _).block ≠ _; rw [add_block]; exact hn222_0) | exact hn222_0) (.int .i64 ((rd_T39 l0 x4_1).f0))).trans hx222_3
         replace hx222_0 := (cell_far (p := ⟨gb221, 1, none⟩) (by first | (rw [add_block]; exact hn222_1) | (show (Addr.add _ _).block ≠ _; rw [add_block]; exact hn222_1) | exact hn222_1) (.slice A220_1 ((rd_T39 l0 x4_1).f1).length c220_1)).trans hx222_0
         replace hx222_1 := (cell_far (p := ⟨gb221, 1, none⟩) (by first | (rw [add_block]; exact hn222_1) | (show (Addr.add _ _).block ≠ _; rw [add_block]; exact hn222_1) | exact hn222_1) (.slice A220_1 ((rd_T39 l0 x4_1).f1).length c220_1)).trans hx222_1
         replace hx222_2 := (cell_far (p := ⟨gb221, 1, none⟩) (by first | (rw [add_block]; exact hn222_1) | (show (Addr.add _ _).block ≠ _; rw [add_block]; exact hn222_1) | exact hn222_1) (.slice A220_1 ((rd_T39 l0 x4_1).f1).length c220_1)).trans hx222_2
         replace hx222_3 := (cell_far (p := ⟨gb221, 1, none⟩) (by first | (rw [add_block]; exact hn222_1) | (show (Addr.add _ _).block ≠ _; rw [add_block]; exact hn222_1) | exact hn222_1) (.slice A220_1 ((rd_T39 l0 x4_1).f1).length c220_1)).trans hx222_3
         replace hx222_0 := (cell_far (p := ⟨gb221, 2, none⟩) (by first | (rw [add_block]; exact hn222_2) | (show (Addr.add _ _).block ≠ _; rw [add_block]; exact hn222_2) | exact hn222_2) (.int .i64 ((rd_T39 l0 x4_1).f2))).trans hx222_0
         replace hx222_1 := (cell_far (p := ⟨gb221, 2, none⟩) (by first | (rw [add_block]; exact hn222_2) | (show (Addr.add _ _).block ≠ _; rw [add_block]; exact hn222_2) | exact hn222_2) (.int .i64 ((rd_T39 l0 x4_1).f2))).trans hx222_1
         replace hx222_2 := (cell_far (p := ⟨gb221, 2, none⟩) (by first | (rw [add_block]; exact hn222_2) | (show (Addr.add _ _).block ≠ _; rw [add_block]; exact hn222_2) | exact hn222_2) (.int .i64 ((rd_T39 l0 x4_1).f2))).trans hx222_2
         replace hx222_3 := (cell_far (p := ⟨gb221, 2, none⟩) (by first | (rw [add_block]; exact hn222_2) | (show (Addr.add _ _).block ≠ _; rw [add_block]; exact hn222_2) | exact hn222_2) (.int .i64 ((rd_T39 l0 x4_1).f2))).trans hx222_3
         replace hx222_0 := (cell_far (p := ⟨gb221, 3, none⟩) (by first | (rw [add_block]; exact hn222_3) | (show (Addr.add _ _).block ≠ _; rw [add_block]; exact hn222_3) | exact hn222_3) (.bool ((rd_T39 l0 x4_1).f3))).trans hx222_0
         replace hx222_1 := (cell_far (p := ⟨gb221, 3, none⟩) (by first | (rw [add_block]; exact hn222_3) | (show (Addr.add _ _).block ≠ _; rw [add_block]; exact hn222_3) | exact hn222_3) (.bool ((rd_T39 l0 x4_1).f3))).trans hx222_1
         replace hx222_2 := (cell_far (p := ⟨gb221, 3, none⟩) (by first | (rw [add_block]; exact hn222_3) | (show (Addr.add _ _).block ≠ _; rw [add_block]; exact hn222_3) | exact hn222_3) (.bool ((rd_T39 l0 x4_1).f3))).trans hx222_2
         replace hx222_3 := (cell_far (p := ⟨gb221, 3, none⟩) (by first | (rw [add_block]; exact hn222_3) | (show (Addr.add _ _).block ≠ _; rw [add_block]; exact hn222_3) | exact hn222_3) (.bool ((rd_T39 l0 x4_1).f3))).trans hx222_3
         (try have hy222_0 := fun (n_ : Nat) => (show ((((((w5.drewN n_).setCell ⟨gb221, 0, none⟩ (.int .i64 ((rd_T39 l0 x4_1).f0))).setCell ⟨gb221, 1, none⟩ (.slice A220_1 ((rd_T39 l0 x4_1).f1).length c220_1)).setCell ⟨gb221, 2, none⟩ (.int .i64 ((rd_T39 l0 x4_1).f2))).setCell ⟨gb221, 3, none⟩ (.bool ((rd_T39 l0 x4_1).f3)))).cell? _ = some _ from hx222_0))
         (try have hy222_1 := fun (n_ : Nat) => (show ((((((w5.drewN n_).setCell ⟨gb221, 0, none⟩ (.int .i64 ((rd_T39 l0 x4_1).f0))).setCell ⟨gb221, 1, none⟩ (.slice A220_1 ((rd_T39 l0 x4_1).f1).length c220_1)).setCell ⟨gb221, 2, none⟩ (.int .i64 ((rd_T39 l0 x4_1).f2))).setCell ⟨gb221, 3, none⟩ (.bool ((rd_T39 l0 x4_1).f3)))).cell? _ = some _ from hx222_1))
         (try have hy222_2 := fun (n_ : Nat) => (show ((((((w5.drewN n_).setCell ⟨gb221, 0, none⟩ (.int .i64 ((rd_T39 l0 x4_1).f0))).setCell ⟨gb221, 1, none⟩ (.slice A220_1 ((rd_T39 l0 x4_1).f1).length c220_1)).setCell ⟨gb221, 2, none⟩ (.int .i64 ((rd_T39 l0 x4_1).f2))).setCell ⟨gb221, 3, none⟩ (.bool ((rd_T39 l0 x4_1).f3)))).cell? _ = some _ from hx222_2))
         (try have hy222_3 := fun (n_ : Nat) => (show ((((((w5.drewN n_).setCell ⟨gb221, 0, none⟩ (.int .i64 ((rd_T39 l0 x4_1).f0))).setCell ⟨gb221, 1, none⟩ (.slice A220_1 ((rd_T39 l0 x4_1).f1).length c220_1)).setCell ⟨gb221, 2, none⟩ (.int .i64 ((rd_T39 l0 x4_1).f2))).setCell ⟨gb221, 3, none⟩ (.bool ((rd_T39 l0 x4_1).f3)))).cell? _ = some _ from hx222_3))
         clear hn222_0
         clear hn222_1
         clear hn222_2
         clear hn222_3
         replace p222 := eq_true p222
         replace q222 := eq_true q222
         go_wp2
         repeat (go_quiet (fail); try go_wp2)
         go_ret
         exact ⟨by first | rfl | (simp [errW_none, errW_some] <;> rfl) | (simp only [← hji8]; first | rfl | (simp [errW_none, errW_some] <;> rfl)) | (simp [*, errW_none, errW_some] <;> rfl), by repeat (first | (with_reducible first | exact HB.out | apply below_alloc | apply pw_below_drewN | apply below_drew1 | refine below_set ?_ GE221.out) | exact HB.out)⟩
        ·rw [if_neg c10] at H
         have c10b0 : (((rd_T39 l0 (ji8)).f0) == 0) = false := beq_eq_false_iff_ne.mpr c10
         have c10b1 : (((rd_T39 l0 (ji8)).f0) != 0) = true := bne_iff_ne.mpr c10
         have H' := Aside0.mk H
         clear H
         have p222 : 0 ≤ ((ji8) : Int) := of_decide_eq_true (by first | (with_reducible assumption) | assumption)
         have q222 : (ji8) < (l0.length : Int) := of_decide_eq_true (by first | (with_reducible assumption) | assumption)
         obtain ⟨ad222, A222_1, c222_1, e222, hx222_0, hx222_1, hx222_2, hx222_3, hl222_1, hi222_1⟩ := at_T39 HR0.out (ji8) p222 q222
         obtain rfl : ad220 = ad222 := (by injection e222)
         have hn222_0 : ad220.block ≠ gb221 := Nat.ne_of_lt (Nat.lt_of_lt_of_le (by have := World.block_lt_of_cell? _ _ hx222_0; first | rwa [add_block] at this | exact this) GW221.out)
         have hn222_1 : ad220.block ≠ gb221 := Nat.ne_of_lt (Nat.lt_of_lt_of_le (by have := World.block_lt_of_cell? _ _ hx222_0; first | rwa [add_block] at this | exact this) GW221.out)
         have hn222_2 : ad220.block ≠ gb221 := Nat.ne_of_lt (Nat.lt_of_lt_of_le (by have := World.block_lt_of_cell? _ _ hx222_0; first | rwa [add_block] at this | exact this) GW221.out)
         have hn222_3 : ad220.block ≠ gb221 := Nat.ne_of_lt (Nat.lt_of_lt_of_le (by have := World.block_lt_of_cell? _ _ hx222_0; first | rwa [add_block] at this | exact this) GW221.out)
         replace hx222_0 := (HB.out.cell (World.block_lt_of_cell? w _ hx222_0)).trans hx222_0
         replace hx222_1 := (HB.out.cell (World.block_lt_of_cell? w _ hx222_1)).trans hx222_1
         replace hx222_2 := (HB.out.cell (World.block_lt_of_cell? w _ hx222_2)).trans hx222_2
         replace hx222_3 := (HB.out.cell (World.block_lt_of_cell? w _ hx222_3)).trans hx222_3
         have HR222_1 := Aside0.mk hi222_1
         have HC222_1 := Aside0.mk hl222_1
         clear hi222_1 hl222_1
         replace hx222_0 := (cell_far (p := ⟨gb221, 0, none⟩) (by first | (rw [add_block]; exact hn222_0) | (show (Addr.add _ _).block ≠ _; rw [add_block]; exact hn222_0) | exact hn222_0) (.int .i64 ((rd_T39 l0 x4_1).f0))).trans hx222_0
         replace hx222_1 := (cell_far (p := ⟨gb221, 0, none⟩) (by first | (rw [add_block]; exact hn222_0) | (show (Addr.add _ _).block ≠ _; rw [add_block]; exact hn222_0) | exact hn222_0) (.int .i64 ((rd_T39 l0 x4_1).f0))).trans hx222_1
         replace hx222_2 := (cell_far (p := ⟨gb221, 0, none⟩) (by first | (rw [add_block]; exact hn222_0) | (show (Addr.add _ _).block ≠ _; rw [add_block]; exact hn222_0) | exact hn222_0) (.int .i64 ((rd_T39 l0 x4_1).f0))).trans hx222_2
         replace hx222_3 := (cell_far (p := ⟨gb221, 0, none⟩) (by first | (rw [add_block]; exact hn222_0) | (show (Addr.add _ _).block ≠ _; rw [add_block]; exact hn222_0) | exact hn222_0) (.int .i64 ((rd_T39 l0 x4_1).f0))).trans hx222_3
         replace hx222_0 := (cell_far (p := ⟨gb221, 1, none⟩) (by first | (rw [add_block]; exact hn222_1) | (show (Addr.add _ _).block ≠ _; rw [add_block]; exact hn222_1) | exact hn222_1) (.slice A220_1 ((rd_T39 l0 x4_1).f1).length c220_1)).trans hx222_0
         replace hx222_1 := (cell_far (p := ⟨gb221, 1, none⟩) (by first | (rw [add_block]; exact hn222_1) | (show (Addr.add _ _).block ≠ _; rw [add_block]; exact hn222_1) | exact hn222_1) (.slice A220_1 ((rd_T39 l0 x4_1).f1).length c220_1)).trans hx222_1
         replace hx222_2 := (cell_far (p := ⟨gb221, 1, none⟩) (by first | (rw [add_block]; exact hn222_1) | (show (Addr.add _ _).block ≠ _; rw [add_block]; exact hn222_1) | exact hn222_1) (.slice A220_1 ((rd_T39 l0 x4_1).f1).length c220_1)).trans hx222_2
         replace hx222_3 := (cell_far (p := ⟨gb221, 1, none⟩) (by first | (rw [add_block]; exact hn222_1) | (show (Addr.add _ _).block ≠ _; rw [add_block]; exact hn222_1) | exact hn222_1) (.slice A220_1 ((rd_T39 l0 x4_1).f1).length c220_1)).trans hx222_3
         replace hx222_0 := (cell_far (p := ⟨gb221, 2, none⟩) (by first | (rw [add_block]; exact hn222_2) | (show (Addr.add _ _).block ≠ _; rw [add_block]; exact hn222_2) | exact hn222_2) (.int .i64 ((rd_T39 l0 x4_1).f2))).trans hx222_0
         replace hx222_1 := (cell_far (p := ⟨gb221, 2, none⟩) (by first | (rw [add_block]; exact hn222_2) | (show (Addr.add _ _).block ≠ _; rw [add_block]; exact hn222_2) | exact hn222_2) (.int .i64 ((rd_T39 l0 x4_1).f2))).trans hx222_1
         replace hx222_2 := (cell_far (p := ⟨gb221, 2, none⟩) (by first | (rw [add_block]; exact hn222_2) | (show (Addr.add _ _).block ≠ _; rw [add_block]; exact hn222_2) | exact hn222_2) (.int .i64 ((rd_T39 l0 x4_1).f2))).trans hx222_2
         replace hx222_3 := (cell_far (p := ⟨gb221, 2, none⟩) (by first | (rw [add_block]; exact hn222_2) | (show (Addr.add _ _).block ≠ _; rw [add_block]; exact hn222_2) | exact hn222_2) (.int .i64 ((rd_T39 l0 x4_1).f2))).trans hx222_3
         replace hx222_0 := (cell_far (p := ⟨gb221, 3, none⟩) (by first | (rw [add_block]; exact hn222_3) | (show (Addr.add _ _).block ≠ _; rw [add_block]; exact hn222_3) | exact hn222_3) (.bool ((rd_T39 l0 x4_1).f3))).trans hx222_0
         replace hx222_1 := (cell_far (p := ⟨gb221, 3, none⟩) (by first | (rw [add_block]; exact hn222_3) | (show (Addr.add _ _).block ≠ _; rw [add_block]; exact hn222_3) | exact hn222_3) (.bool ((rd_T39 l0 x4_1).f3))).trans hx222_1
         replace hx222_2 := (cell_far (p := ⟨gb221, 3, none⟩) (by first | (rw [add_block]; exact hn222_3) | (show (Addr.add _ _).block ≠ _; rw [add_block]; exact hn222_3) | exact hn222_3) (.bool ((rd_T39 l0 x4_1).f3))).trans hx222_2
         replace hx222_3 := (cell_far (p := ⟨gb221, 3, none⟩) (by first | (rw [add_block]; exact hn222_3) | (show (Addr.add _ _).block ≠ _; rw [add_block]; exact hn222_3) | exact hn222_3) (.bool ((rd_T39 l0 x4_1).f3))).trans hx222_3
         (try have hy222_0 := fun (n_ : Nat) => (show ((((((w5.drewN n_).setCell ⟨gb221, 0, none⟩ (.int .i64 ((rd_T39 l0 x4_1).f0))).setCell ⟨gb221, 1, none⟩ (.slice A220_1 ((rd_T39 l0 x4_1).f1).length c220_1)).setCell ⟨gb221, 2, none⟩ (.int .i64 ((rd_T39 l0 x4_1).f2))).setCell ⟨gb221, 3, none⟩ (.bool ((rd_T39 l0 x4_1).f3)))).cell? _ = some _ from hx222_0))
         (try have hy222_1 := fun (n_ : Nat) => (show ((((((w5.drewN n_).setCell ⟨gb221, 0, none⟩ (.int .i64 ((rd_T39 l0 x4_1).f0))).setCell ⟨gb221, 1, none⟩ (.slice A220_1 ((rd_T39 l0 x4_1).f1).length c220_1)).setCell ⟨gb221, 2, none⟩ (.int .i64 ((rd_T39 l0 x4_1).f2))).setCell ⟨gb221, 3, none⟩ (.bool ((rd_T39 l0 x4_1).f3)))).cell? _ = some _ from hx222_1))
         (try have hy222_2 := fun (n_ : Nat) => (show ((((((w5.drewN n_).setCell ⟨gb221, 0, none⟩ (.int .i64 ((rd_T39 l0 x4_1).f0))).setCell ⟨gb221, 1, none⟩ (.slice A220_1 ((rd_T39 l0 x4_1).f1).length c220_1)).setCell ⟨gb221, 2, none⟩ (.int .i64 ((rd_T39 l0 x4_1).f2))).setCell ⟨gb221, 3, none⟩ (.bool ((rd_T39 l0 x4_1).f3)))).cell? _ = some _ from hx222_2))
         (try have hy222_3 := fun (n_ : Nat) => (show ((((((w5.drewN n_).setCell ⟨gb221, 0, none⟩ (.int .i64 ((rd_T39 l0 x4_1).f0))).setCell ⟨gb221, 1, none⟩ (.slice A220_1 ((rd_T39 l0 x4_1).f1).length c220_1)).setCell ⟨gb221, 2, none⟩ (.int .i64 ((rd_T39 l0 x4_1).f2))).setCell ⟨gb221, 3, none⟩ (.bool ((rd_T39 l0 x4_1).f3)))).cell? _ = some _ from hx222_3))
         clear hn222_0
         clear hn222_1
         clear hn222_2
         clear hn222_3
         replace p222 := eq_true p222
         replace q222 := eq_true q222
         go_wp2
         repeat (go_quiet (fail); try go_wp2)
         go_meet
         case rel => exact ⟨_, ((rd_T39 l0 (ji8)).f0), (by first | rfl | (simp; done) | (simp only [← hji8] <;> (first | rfl | simp)) | (simp [*]; done)), H', ⟨by have := HK1.out; first | omega | exact Nat.le_refl _⟩, ⟨by (with_reducible repeat (first | refine blk_drewN ?_ _ | refine blk_drew ?_ | refine blk_alloc ?_ _)); refine blk_put (cs := #[.int .i64 ((rd_T39 l0 x4_1).f0), .slice A220_1 ((rd_T39 l0 x4_1).f1).length c220_1, .int .i64 ((rd_T39 l0 x4_1).f2), .bool false]) ?_ 3 _ rfl; (with_reducible repeat (first | refine blk_drewN ?_ _ | refine blk_drew ?_ | refine blk_alloc ?_ _)); refine blk_put (cs := #[.int .i64 ((rd_T39 l0 x4_1).f0), .slice A220_1 ((rd_T39 l0 x4_1).f1).length c220_1, .int .i64 0, .bool false]) ?_ 2 _ rfl; (with_reducible repeat (first | refine blk_drewN ?_ _ | refine blk_drew ?_ | refine blk_alloc ?_ _)); refine blk_put (cs := #[.int .i64 ((rd_T39 l0 x4_1).f0), .slice none 0 0, .int .i64 0, .bool false]) ?_ 1 _ rfl; (with_reducible repeat (first | refine blk_drewN ?_ _ | refine blk_drew ?_ | refine blk_alloc ?_ _)); refine blk_put (cs := #[.int .i64 0, .slice none 0 0, .int .i64 0, .bool false]) ?_ 0 _ rfl; (with_reducible repeat (first | refine blk_drewN ?_ _ | refine blk_drew ?_ | refine blk_alloc ?_ _)); exact BK221.out⟩, ⟨by repeat (first | (with_reducible first | exact HB.out | apply below_alloc | apply pw_below_drewN | apply below_drew1 | refine below_set ?_ GE221.out) | exact HB.out)⟩⟩
       ·rw [if_neg c9] at H
        exact absurd H (by simp)
      ·rw [if_neg c7] at H
       have c7b0 : decide ((wrap64 (x4_1 + 1)) < (l0.length : Int)) = false := decide_eq_false c7
       clear c7
       (first | rw [c7b0] | (simp only [i64_w, i32_w]; rw [c7b0]) | skip)
       have H' := Aside0.mk H
       clear H
       go_wp2
       repeat (go_quiet (fail); try go_wp2)
       go_meet
       case rel => exact ⟨_, (0), (by first | rfl | (simp; done) | (simp [*]; done)), H', ⟨by have := HK1.out; first | omega | exact Nat.le_refl _⟩, ⟨by (with_reducible repeat (first | refine blk_drewN ?_ _ | refine blk_drew ?_ | refine blk_alloc ?_ _)); refine blk_put (cs := #[.int .i64 ((rd_T39 l0 x4_1).f0), .slice A220_1 ((rd_T39 l0 x4_1).f1).length c220_1, .int .i64 ((rd_T39 l0 x4_1).f2), .bool false]) ?_ 3 _ rfl; (with_reducible repeat (first | refine blk_drewN ?_ _ | refine blk_drew ?_ | refine blk_alloc ?_ _)); refine blk_put (cs := #[.int .i64 ((rd_T39 l0 x4_1).f0), .slice A220_1 ((rd_T39 l0 x4_1).f1).length c220_1, .int .i64 0, .bool false]) ?_ 2 _ rfl; (with_reducible repeat (first | refine blk_drewN ?_ _ | refine blk_drew ?_ | refine blk_alloc ?_ _)); refine blk_put (cs := #[.int .i64 ((rd_T39 l0 x4_1).f0), .slice none 0 0, .int .i64 0, .bool false]) ?_ 1 _ rfl; (with_reducible repeat (first | refine blk_drewN ?_ _ | refine blk_drew ?_ | refine blk_alloc ?_ _)); refine blk_put (cs := #[.int .i64 0, .slice none 0 0, .int .i64 0, .bool false]) ?_ 0 _ rfl; (with_reducible repeat (first | refine blk_drewN ?_ _ | refine blk_drew ?_ | refine blk_alloc ?_ _)); exact BK221.out⟩, ⟨by repeat (first | (with_reducible first | exact HB.out | apply below_alloc | apply pw_below_drewN | apply below_drew1 | refine below_set ?_ GE221.out) | exact HB.out)⟩⟩
     case rest =>
      clear HC4
      try clear c1
      try clear c2
      try clear c2b0
      try clear p2
      try clear q2
      try clear hx2
      try clear c3
      try clear c3b0
      try clear p6
      try clear c7
      try clear c7b0
      try clear c9
      try clear c9b0
      try clear c10
      try clear c10b0
      try clear c10b1
      try clear hcz6_0
      try clear hcz6_1
      try clear hcz6_2
      try clear hcz6_3
      try clear hfz6_0
      try clear hfz6_1
      try clear hfz6_2
      try clear hfz6_3
      try clear hx220_0
      try clear hx220_1
      try clear hx220_2
      try clear hx220_3
      try clear hx222_0
      try clear hx222_1
      try clear hx222_2
      try clear hx222_3
      try clear p220
      try clear p222
      try clear q220
      try clear q222
      obtain ⟨kq, x6_3, rfl, HA, HJ3, BK221, HB⟩ := hcut
      cases kq with
      | zero => exact absurd HA.out (by simp [cobwebref10_Right.j1])
      | succ kj3 =>
       have H := HA.out
       clear HA
       simp only [cobwebref10_Right.j1] at H
       have HC11 := Aside0.mk H
       clear H
       go_upto_region 11 with (fail)
       repeat (go_quiet (fail); go_upto_region 11 with (fail))
       go_cut [69] (fun v69 wc => ∃ (kq : Nat) (x69_10 : Bool), v69 = .bool x69_10 ∧ Aside0 (cobwebref10_Right.j2 kq l0 x3_1 x4_1 x69_10 ((rd_T39 l0 x4_1).f0) ((rd_T39 l0 x4_1).f1) ((rd_T39 l0 x4_1).f2) ((rd_T39 l0 x4_1).f3) = some r) ∧ Aside0 (kq ≤ kj3) ∧ Aside0 (wc.heap[gb221]? = some (.cells #[.int .i64 ((rd_T39 l0 x4_1).f0), (.slice A220_1 ((rd_T39 l0 x4_1).f1).length c220_1), .int .i64 ((rd_T39 l0 x4_1).f2), .bool ((rd_T39 l0 x4_1).f3)] 39 (0, 0))) ∧ Aside0 (Below w.heap.size w wc))
       case first =>
        have H := HC11.out
        clear HC11
        by_cases c12 : x4_1 = 0
        ·rw [if_pos c12] at H
         have c12b0 : (x4_1 == 0) = true := beq_iff_eq.mpr c12
         have c12b1 : (x4_1 != 0) = false := bne_eq_false_iff_eq.mpr c12
         clear c12
         (first | rw [c12b0] | (simp only [i64_w, i32_w]; rw [c12b0]) | skip)
         by_cases c13 : ((rd_T39 l0 x4_1).f0) = 0
         ·rw [if_pos c13] at H
          have c13b0 : (((rd_T39 l0 x4_1).f0) == 0) = true := beq_iff_eq.mpr c13
          have c13b1 : (((rd_T39 l0 x4_1).f0) != 0) = false := bne_eq_false_iff_eq.mpr c13
          clear c13
          by_cases c14 : x4_1 > 0
          ·rw [if_pos c14] at H
           have c14b0 : decide (0 < x4_1) = true := decide_eq_true c14
           clear c14
           by_cases c15 : (((rd_T39 l0 x4_1).f1).length : Int) = 0
           ·rw [if_pos c15] at H
            have c15b0 : ((((rd_T39 l0 x4_1).f1).length : Int) == 0) = true := beq_iff_eq.mpr c15
            have c15b1 : ((((rd_T39 l0 x4_1).f1).length : Int) != 0) = false := bne_eq_false_iff_eq.mpr c15
            clear c15
            have H' := Aside0.mk H
            clear H
            have hcz16_0 : wc.cell? ⟨gb221, 0, none⟩ = some (.int .i64 ((rd_T39 l0 x4_1).f0)) := (blk_cell BK221.out 0).trans rfl
            have hcz16_1 : wc.cell? ⟨gb221, 1, none⟩ = some (.slice A220_1 ((rd_T39 l0 x4_1).f1).length c220_1) := (blk_cell BK221.out 1).trans rfl
            have hcz16_2 : wc.cell? ⟨gb221, 2, none⟩ = some (.int .i64 ((rd_T39 l0 x4_1).f2)) := (blk_cell BK221.out 2).trans rfl
            have hcz16_3 : wc.cell? ⟨gb221, 3, none⟩ = some (.bool ((rd_T39 l0 x4_1).f3)) := (blk_cell BK221.out 3).trans rfl
            have hfz16_0 := blk_frozen BK221.out 0
            have hfz16_1 := blk_frozen BK221.out 1
            have hfz16_2 := blk_frozen BK221.out 2
            have hfz16_3 := blk_frozen BK221.out 3
            go_wp2
            repeat (go_quiet (fail); try go_wp2)
            go_meet
            case rel => exact ⟨_, (true), (by first | rfl | (simp; done) | (simp [*]; done)), H', ⟨by have := HK1.out; have := HJ3.out; first | omega | exact Nat.le_refl _⟩, ⟨by (with_reducible repeat (first | refine blk_drewN ?_ _ | refine blk_drew ?_ | refine blk_alloc ?_ _)); exact BK221.out⟩, ⟨by repeat (first | (with_reducible first | exact HB.out | apply below_alloc | apply pw_below_drewN | apply below_drew1 | refine below_set ?_ GE221.out) | exact HB.out)⟩⟩
           ·rw [if_neg c15] at H
            have c15b0 : ((((rd_T39 l0 x4_1).f1).length : Int) == 0) = false := beq_eq_false_iff_ne.mpr c15
            have c15b1 : ((((rd_T39 l0 x4_1).f1).length : Int) != 0) = true := bne_iff_ne.mpr c15
            have c15b2 : ¬ (((rd_T39 l0 x4_1).f1) = []) := fun h_ => c15 (by rw [h_]; rfl)
            by_cases c17 : ((rd_T39 l0 x4_1).f0) < 0
            ·rw [if_pos c17] at H
             have c17b0 : decide (((rd_T39 l0 x4_1).f0) < 0) = true := decide_eq_true c17
             clear c17
             have H' := Aside0.mk H
             clear H
             have hcz18_0 : wc.cell? ⟨gb221, 0, none⟩ = some (.int .i64 ((rd_T39 l0 x4_1).f0)) := (blk_cell BK221.out 0).trans rfl
             have hcz18_1 : wc.cell? ⟨gb221, 1, none⟩ = some (.slice A220_1 ((rd_T39 l0 x4_1).f1).length c220_1) := (blk_cell BK221.out 1).trans rfl
             have hcz18_2 : wc.cell? ⟨gb221, 2, none⟩ = some (.int .i64 ((rd_T39 l0 x4_1).f2)) := (blk_cell BK221.out 2).trans rfl
             have hcz18_3 : wc.cell? ⟨gb221, 3, none⟩ = some (.bool ((rd_T39 l0 x4_1).f3)) := (blk_cell BK221.out 3).trans rfl
             have hfz18_0 := blk_frozen BK221.out 0
             have hfz18_1 := blk_frozen BK221.out 1
             have hfz18_2 := blk_frozen BK221.out 2
             have hfz18_3 := blk_frozen BK221.out 3
             go_wp2
             repeat (go_quiet (fail); try go_wp2)
             go_meet
             case rel => exact ⟨_, (true), (by first | rfl | (simp; done) | (simp [*]; done)), H', ⟨by have := HK1.out; have := HJ3.out; first | omega | exact Nat.le_refl _⟩, ⟨by (with_reducible repeat (first | refine blk_drewN ?_ _ | refine blk_drew ?_ | refine blk_alloc ?_ _)); exact BK221.out⟩, ⟨by repeat (first | (with_reducible first | exact HB.out | apply below_alloc | apply pw_below_drewN | apply below_drew1 | refine below_set ?_ GE221.out) | exact HB.out)⟩⟩
            ·rw [if_neg c17] at H
             have c17b0 : decide (((rd_T39 l0 x4_1).f0) < 0) = false := decide_eq_false c17
             clear c17
             by_cases c19 : ((rd_T39 l0 x4_1).f3) = true
             ·rw [if_pos c19] at H
              have c19b0 : ((rd_T39 l0 x4_1).f3) = true := c19
              clear c19
              have H' := Aside0.mk H
              clear H
              have hcz20_0 : wc.cell? ⟨gb221, 0, none⟩ = some (.int .i64 ((rd_T39 l0 x4_1).f0)) := (blk_cell BK221.out 0).trans rfl
              have hcz20_1 : wc.cell? ⟨gb221, 1, none⟩ = some (.slice A220_1 ((rd_T39 l0 x4_1).f1).length c220_1) := (blk_cell BK221.out 1).trans rfl
              have hcz20_2 : wc.cell? ⟨gb221, 2, none⟩ = some (.int .i64 ((rd_T39 l0 x4_1).f2)) := (blk_cell BK221.out 2).trans rfl
              have hcz20_3 : wc.cell? ⟨gb221, 3, none⟩ = some (.bool ((rd_T39 l0 x4_1).f3)) := (blk_cell BK221.out 3).trans rfl
              have hfz20_0 := blk_frozen BK221.out 0
              have hfz20_1 := blk_frozen BK221.out 1
              have hfz20_2 := blk_frozen BK221.out 2
              have hfz20_3 := blk_frozen BK221.out 3
              go_wp2
              repeat (go_quiet (fail); try go_wp2)
              go_meet
              case rel => exact ⟨_, (true), (by first | rfl | (simp; done) | (simp [*]; done)), H', ⟨by have := HK1.out; have := HJ3.out; first | omega | exact Nat.le_refl _⟩, ⟨by (with_reducible repeat (first | refine blk_drewN ?_ _ | refine blk_drew ?_ | refine blk_alloc ?_ _)); exact BK221.out⟩, ⟨by repeat (first | (with_reducible first | exact HB.out | apply below_alloc | apply pw_below_drewN | apply below_drew1 | refine below_set ?_ GE221.out) | exact HB.out)⟩⟩
             ·rw [if_neg c19] at H
              have c19b0 : ((rd_T39 l0 x4_1).f3) = false := by simpa using c19
              clear c19
              by_cases c21 : ((rd_T39 l0 x4_1).f2) = x6_3
              ·rw [if_pos c21] at H
               have c21b0 : (((rd_T39 l0 x4_1).f2) == x6_3) = true := beq_iff_eq.mpr c21
               have c21b1 : (((rd_T39 l0 x4_1).f2) != x6_3) = false := bne_eq_false_iff_eq.mpr c21
               clear c21
               have H' := Aside0.mk H
               clear H
               have hcz22_0 : wc.cell? ⟨gb221, 0, none⟩ = some (.int .i64 ((rd_T39 l0 x4_1).f0)) := (blk_cell BK221.out 0).trans rfl
               have hcz22_1 : wc.cell? ⟨gb221, 1, none⟩ = some (.slice A220_1 ((rd_T39 l0 x4_1).f1).length c220_1) := (blk_cell BK221.out 1).trans rfl
               have hcz22_2 : wc.cell? ⟨gb221, 2, none⟩ = some (.int .i64 ((rd_T39 l0 x4_1).f2)) := (blk_cell BK221.out 2).trans rfl
               have hcz22_3 : wc.cell? ⟨gb221, 3, none⟩ = some (.bool ((rd_T39 l0 x4_1).f3)) := (blk_cell BK221.out 3).trans rfl
               have hfz22_0 := blk_frozen BK221.out 0
               have hfz22_1 := blk_frozen BK221.out 1
               have hfz22_2 := blk_frozen BK221.out 2
               have hfz22_3 := blk_frozen BK221.out 3
               go_wp2
               repeat (go_quiet (fail); try go_wp2)
               go_meet
               case rel => exact ⟨_, (decide ((((rd_T39 l0 x4_1).f1).length : Int) > 4)), (by first | rfl | (simp; done) | (simp [*]; done)), H', ⟨by have := HK1.out; have := HJ3.out; first | omega | exact Nat.le_refl _⟩, ⟨by (with_reducible repeat (first | refine blk_drewN ?_ _ | refine blk_drew ?_ | refine blk_alloc ?_ _)); exact BK221.out⟩, ⟨by repeat (first | (with_reducible first | exact HB.out | apply below_alloc | apply pw_below_drewN | apply below_drew1 | refine below_set ?_ GE221.out) | exact HB.out)⟩⟩
              ·rw [if_neg c21] at H
               have c21b0 : (((rd_T39 l0 x4_1).f2) == x6_3) = false := beq_eq_false_iff_ne.mpr c21
               have c21b1 : (((rd_T39 l0 x4_1).f2) != x6_3) = true := bne_iff_ne.mpr c21
               have H' := Aside0.mk H
               clear H
               have hcz23_0 : wc.cell? ⟨gb221, 0, none⟩ = some (.int .i64 ((rd_T39 l0 x4_1).f0)) := (blk_cell BK221.out 0).trans rfl
               have hcz23_1 : wc.cell? ⟨gb221, 1, none⟩ = some (.slice A220_1 ((rd_T39 l0 x4_1).f1).length c220_1) := (blk_cell BK221.out 1).trans rfl
               have hcz23_2 : wc.cell? ⟨gb221, 2, none⟩ = some (.int .i64 ((rd_T39 l0 x4_1).f2)) := (blk_cell BK221.out 2).trans rfl
               have hcz23_3 : wc.cell? ⟨gb221, 3, none⟩ = some (.bool ((rd_T39 l0 x4_1).f3)) := (blk_cell BK221.out 3).trans rfl
               have hfz23_0 := blk_frozen BK221.out 0
               have hfz23_1 := blk_frozen BK221.out 1
               have hfz23_2 := blk_frozen BK221.out 2
               have hfz23_3 := blk_frozen BK221.out 3
               go_wp2
               repeat (go_quiet (fail); try go_wp2)
               go_meet
               case rel => exact ⟨_, (true), (by first | rfl | (simp; done) | (simp [*]; done)), H', ⟨by have := HK1.out; have := HJ3.out; first | omega | exact Nat.le_refl _⟩, ⟨by (with_reducible repeat (first | refine blk_drewN ?_ _ | refine blk_drew ?_ | refine blk_alloc ?_ _)); exact BK221.out⟩, ⟨by repeat (first | (with_reducible first | exact HB.out | apply below_alloc | apply pw_below_drewN | apply below_drew1 | refine below_set ?_ GE221.out) | exact HB.out)⟩⟩
          ·rw [if_neg c14] at H
           have c14b0 : decide (0 < x4_1) = false := decide_eq_false c14
           clear c14
           by_cases c24 : ((rd_T39 l0 x4_1).f0) < 0
           ·rw [if_pos c24] at H
            have c24b0 : decide (((rd_T39 l0 x4_1).f0) < 0) = true := decide_eq_true c24
            clear c24
            have H' := Aside0.mk H
            clear H
            have hcz25_0 : wc.cell? ⟨gb221, 0, none⟩ = some (.int .i64 ((rd_T39 l0 x4_1).f0)) := (blk_cell BK221.out 0).trans rfl
            have hcz25_1 : wc.cell? ⟨gb221, 1, none⟩ = some (.slice A220_1 ((rd_T39 l0 x4_1).f1).length c220_1) := (blk_cell BK221.out 1).trans rfl
            have hcz25_2 : wc.cell? ⟨gb221, 2, none⟩ = some (.int .i64 ((rd_T39 l0 x4_1).f2)) := (blk_cell BK221.out 2).trans rfl
            have hcz25_3 : wc.cell? ⟨gb221, 3, none⟩ = some (.bool ((rd_T39 l0 x4_1).f3)) := (blk_cell BK221.out 3).trans rfl
            have hfz25_0 := blk_frozen BK221.out 0
            have hfz25_1 := blk_frozen BK221.out 1
            have hfz25_2 := blk_frozen BK221.out 2
            have hfz25_3 := blk_frozen BK221.out 3
            go_wp2
            repeat (go_quiet (fail); try go_wp2)
            go_meet
            case rel => exact ⟨_, (true), (by first | rfl | (simp; done) | (simp [*]; done)), H', ⟨by have := HK1.out; have := HJ3.out; first | omega | exact Nat.le_refl _⟩, ⟨by (with_reducible repeat (first | refine blk_drewN ?_ _ | refine blk_drew ?_ | refine blk_alloc ?_ _)); exact BK221.out⟩, ⟨by repeat (first | (with_reducible first | exact HB.out | apply below_alloc | apply pw_below_drewN | apply below_drew1 | refine below_set ?_ GE221.out) | exact HB.out)⟩⟩
           ·rw [if_neg c24] at H
            have c24b0 : decide (((rd_T39 l0 x4_1).f0) < 0) = false := decide_eq_false c24
            clear c24
            by_cases c26 : ((rd_T39 l0 x4_1).f3) = true
            ·rw [if_pos c26] at H
             have c26b0 : ((rd_T39 l0 x4_1).f3) = true := c26
             clear c26
             have H' := Aside0.mk H
             clear H
             have hcz27_0 : wc.cell? ⟨gb221, 0, none⟩ = some (.int .i64 ((rd_T39 l0 x4_1).f0)) := (blk_cell BK221.out 0).trans rfl
             have hcz27_1 : wc.cell? ⟨gb221, 1, none⟩ = some (.slice A220_1 ((rd_T39 l0 x4_1).f1).length c220_1) := (blk_cell BK221.out 1).trans rfl
             have hcz27_2 : wc.cell? ⟨gb221, 2, none⟩ = some (.int .i64 ((rd_T39 l0 x4_1).f2)) := (blk_cell BK221.out 2).trans rfl
             have hcz27_3 : wc.cell? ⟨gb221, 3, none⟩ = some (.bool ((rd_T39 l0 x4_1).f3)) := (blk_cell BK221.out 3).trans rfl
             have hfz27_0 := blk_frozen BK221.out 0
             have hfz27_1 := blk_frozen BK221.out 1
             have hfz27_2 := blk_frozen BK221.out 2
             have hfz27_3 := blk_frozen BK221.out 3
             go_wp2
             repeat (go_quiet (fail); try go_wp2)
             go_meet
             case rel => exact ⟨_, (true), (by first | rfl | (simp; done) | (simp [*]; done)), H', ⟨by have := HK1.out; have := HJ3.out; first | omega | exact Nat.le_refl _⟩, ⟨by (with_reducible repeat (first | refine blk_drewN ?_ _ | refine blk_drew ?_ | refine blk_alloc ?_ _)); exact BK221.out⟩, ⟨by repeat (first | (with_reducible first | exact HB.out | apply below_alloc | apply pw_below_drewN | apply below_drew1 | refine below_set ?_ GE221.out) | exact HB.out)⟩⟩
            ·rw [if_neg c26] at H
             have c26b0 : ((rd_T39 l0 x4_1).f3) = false := by simpa using c26
             clear c26
             by_cases c28 : ((rd_T39 l0 x4_1).f2) = x6_3
             ·rw [if_pos c28] at H
              have c28b0 : (((rd_T39 l0 x4_1).f2) == x6_3) = true := beq_iff_eq.mpr c28
              have c28b1 : (((rd_T39 l0 x4_1).f2) != x6_3) = false := bne_eq_false_iff_eq.mpr c28
              clear c28
              have H' := Aside0.mk H
              clear H
              have hcz29_0 : wc.cell? ⟨gb221, 0, none⟩ = some (.int .i64 ((rd_T39 l0 x4_1).f0)) := (blk_cell BK221.out 0).trans rfl
              have hcz29_1 : wc.cell? ⟨gb221, 1, none⟩ = some (.slice A220_1 ((rd_T39 l0 x4_1).f1).length c220_1) := (blk_cell BK221.out 1).trans rfl
              have hcz29_2 : wc.cell? ⟨gb221, 2, none⟩ = some (.int .i64 ((rd_T39 l0 x4_1).f2)) := (blk_cell BK221.out 2).trans rfl
              have hcz29_3 : wc.cell? ⟨gb221, 3, none⟩ = some (.bool ((rd_T39 l0 x4_1).f3)) := (blk_cell BK221.out 3).trans rfl
              have hfz29_0 := blk_frozen BK221.out 0
              have hfz29_1 := blk_frozen BK221.out 1
              have hfz29_2 := blk_frozen BK221.out 2
              have hfz29_3 := blk_frozen BK221.out 3
              go_wp2
              repeat (go_quiet (fail); try go_wp2)
              go_meet
              case rel => exact ⟨_, (decide ((((rd_T39 l0 x4_1).f1).length : Int) > 4)), (by first | rfl | (simp; done) | (simp [*]; done)), H', ⟨by have := HK1.out; have := HJ3.out; first | omega | exact Nat.le_refl _⟩, ⟨by (with_reducible repeat (first | refine blk_drewN ?_ _ | refine blk_drew ?_ | refine blk_alloc ?_ _)); exact BK221.out⟩, ⟨by repeat (first | (with_reducible first | exact HB.out | apply below_alloc | apply pw_below_drewN | apply below_drew1 | refine below_set ?_ GE221.out) | exact HB.out)⟩⟩
             ·rw [if_neg c28] at H
              have c28b0 : (((rd_T39 l0 x4_1).f2) == x6_3) = false := beq_eq_false_iff_ne.mpr c28
              have c28b1 : (((rd_T39 l0 x4_1).f2) != x6_3) = true := bne_iff_ne.mpr c28
              have H' := Aside0.mk H
              clear H
              have hcz30_0 : wc.cell? ⟨gb221, 0, none⟩ = some (.int .i64 ((rd_T39 l0 x4_1).f0)) := (blk_cell BK221.out 0).trans rfl
              have hcz30_1 : wc.cell? ⟨gb221, 1, none⟩ = some (.slice A220_1 ((rd_T39 l0 x4_1).f1).length c220_1) := (blk_cell BK221.out 1).trans rfl
              have hcz30_2 : wc.cell? ⟨gb221, 2, none⟩ = some (.int .i64 ((rd_T39 l0 x4_1).f2)) := (blk_cell BK221.out 2).trans rfl
              have hcz30_3 : wc.cell? ⟨gb221, 3, none⟩ = some (.bool ((rd_T39 l0 x4_1).f3)) := (blk_cell BK221.out 3).trans rfl
              have hfz30_0 := blk_frozen BK221.out 0
              have hfz30_1 := blk_frozen BK221.out 1
              have hfz30_2 := blk_frozen BK221.out 2
              have hfz30_3 := blk_frozen BK221.out 3
              go_wp2
              repeat (go_quiet (fail); try go_wp2)
              go_meet
              case rel => exact ⟨_, (true), (by first | rfl | (simp; done) | (simp [*]; done)), H', ⟨by have := HK1.out; have := HJ3.out; first | omega | exact Nat.le_refl _⟩, ⟨by (with_reducible repeat (first | refine blk_drewN ?_ _ | refine blk_drew ?_ | refine blk_alloc ?_ _)); exact BK221.out⟩, ⟨by repeat (first | (with_reducible first | exact HB.out | apply below_alloc | apply pw_below_drewN | apply below_drew1 | refine below_set ?_ GE221.out) | exact HB.out)⟩⟩
         ·rw [if_neg c13] at H
          have c13b0 : (((rd_T39 l0 x4_1).f0) == 0) = false := beq_eq_false_iff_ne.mpr c13
          have c13b1 : (((rd_T39 l0 x4_1).f0) != 0) = true := bne_iff_ne.mpr c13
          have H' := Aside0.mk H
          clear H
          have hcz31_0 : wc.cell? ⟨gb221, 0, none⟩ = some (.int .i64 ((rd_T39 l0 x4_1).f0)) := (blk_cell BK221.out 0).trans rfl
          have hcz31_1 : wc.cell? ⟨gb221, 1, none⟩ = some (.slice A220_1 ((rd_T39 l0 x4_1).f1).length c220_1) := (blk_cell BK221.out 1).trans rfl
          have hcz31_2 : wc.cell? ⟨gb221, 2, none⟩ = some (.int .i64 ((rd_T39 l0 x4_1).f2)) := (blk_cell BK221.out 2).trans rfl
          have hcz31_3 : wc.cell? ⟨gb221, 3, none⟩ = some (.bool ((rd_T39 l0 x4_1).f3)) := (blk_cell BK221.out 3).trans rfl
          have hfz31_0 := blk_frozen BK221.out 0
          have hfz31_1 := blk_frozen BK221.out 1
          have hfz31_2 := blk_frozen BK221.out 2
          have hfz31_3 := blk_frozen BK221.out 3
          go_wp2
          repeat (go_quiet (fail); try go_wp2)
          go_meet
          case rel => exact ⟨_, (true), (by first | rfl | (simp; done) | (simp [*]; done)), H', ⟨by have := HK1.out; have := HJ3.out; first | omega | exact Nat.le_refl _⟩, ⟨by (with_reducible repeat (first | refine blk_drewN ?_ _ | refine blk_drew ?_ | refine blk_alloc ?_ _)); exact BK221.out⟩, ⟨by repeat (first | (with_reducible first | exact HB.out | apply below_alloc | apply pw_below_drewN | apply below_drew1 | refine below_set ?_ GE221.out) | exact HB.out)⟩⟩
        ·rw [if_neg c12] at H
         have c12b0 : (x4_1 == 0) = false := beq_eq_false_iff_ne.mpr c12
         have c12b1 : (x4_1 != 0) = true := bne_iff_ne.mpr c12
         (first | rw [c12b0] | (simp only [i64_w, i32_w]; rw [c12b0]) | skip)
         by_cases c32 : x4_1 > 0
         ·rw [if_pos c32] at H
          have c32b0 : decide (0 < x4_1) = true := decide_eq_true c32
          clear c32
          by_cases c33 : (((rd_T39 l0 x4_1).f1).length : Int) = 0
          ·rw [if_pos c33] at H
           have c33b0 : ((((rd_T39 l0 x4_1).f1).length : Int) == 0) = true := beq_iff_eq.mpr c33
           have c33b1 : ((((rd_T39 l0 x4_1).f1).length : Int) != 0) = false := bne_eq_false_iff_eq.mpr c33
           clear c33
           have H' := Aside0.mk H
           clear H
           have hcz34_0 : wc.cell? ⟨gb221, 0, none⟩ = some (.int .i64 ((rd_T39 l0 x4_1).f0)) := (blk_cell BK221.out 0).trans rfl
           have hcz34_1 : wc.cell? ⟨gb221, 1, none⟩ = some (.slice A220_1 ((rd_T39 l0 x4_1).f1).length c220_1) := (blk_cell BK221.out 1).trans rfl
           have hcz34_2 : wc.cell? ⟨gb221, 2, none⟩ = some (.int .i64 ((rd_T39 l0 x4_1).f2)) := (blk_cell BK221.out 2).trans rfl
           have hcz34_3 : wc.cell? ⟨gb221, 3, none⟩ = some (.bool ((rd_T39 l0 x4_1).f3)) := (blk_cell BK221.out 3).trans rfl
           have hfz34_0 := blk_frozen BK221.out 0
           have hfz34_1 := blk_frozen BK221.out 1
           have hfz34_2 := blk_frozen BK221.out 2
           have hfz34_3 := blk_frozen BK221.out 3
           go_wp2
           repeat (go_quiet (fail); try go_wp2)
           go_meet
           case rel => exact ⟨_, (true), (by first | rfl | (simp; done) | (simp [*]; done)), H', ⟨by have := HK1.out; have := HJ3.out; first | omega | exact Nat.le_refl _⟩, ⟨by (with_reducible repeat (first | refine blk_drewN ?_ _ | refine blk_drew ?_ | refine blk_alloc ?_ _)); exact BK221.out⟩, ⟨by repeat (first | (with_reducible first | exact HB.out | apply below_alloc | apply pw_below_drewN | apply below_drew1 | refine below_set ?_ GE221.out) | exact HB.out)⟩⟩
          ·rw [if_neg c33] at H
           have c33b0 : ((((rd_T39 l0 x4_1).f1).length : Int) == 0) = false := beq_eq_false_iff_ne.mpr c33
           have c33b1 : ((((rd_T39 l0 x4_1).f1).length : Int) != 0) = true := bne_iff_ne.mpr c33
           have c33b2 : ¬ (((rd_T39 l0 x4_1).f1) = []) := fun h_ => c33 (by rw [h_]; rfl)
           by_cases c35 : ((rd_T39 l0 x4_1).f0) < 0
           ·rw [if_pos c35] at H
            have c35b0 : decide (((rd_T39 l0 x4_1).f0) < 0) = true := decide_eq_true c35
            clear c35
            have H' := Aside0.mk H
            clear H
            have hcz36_0 : wc.cell? ⟨gb221, 0, none⟩ = some (.int .i64 ((rd_T39 l0 x4_1).f0)) := (blk_cell BK221.out 0).trans rfl
            have hcz36_1 : wc.cell? ⟨gb221, 1, none⟩ = some (.slice A220_1 ((rd_T39 l0 x4_1).f1).length c220_1) := (blk_cell BK221.out 1).trans rfl
            have hcz36_2 : wc.cell? ⟨gb221, 2, none⟩ = some (.int .i64 ((rd_T39 l0 x4_1).f2)) := (blk_cell BK221.out 2).trans rfl
            have hcz36_3 : wc.cell? ⟨gb221, 3, none⟩ = some (.bool ((rd_T39 l0 x4_1).f3)) := (blk_cell BK221.out 3).trans rfl
            have hfz36_0 := blk_frozen BK221.out 0
            have hfz36_1 := blk_frozen BK221.out 1
            have hfz36_2 := blk_frozen BK221.out 2
            have hfz36_3 := blk_frozen BK221.out 3
            go_wp2
            repeat (go_quiet (fail); try go_wp2)
            go_meet
            case rel => exact ⟨_, (true), (by first | rfl | (simp; done) | (simp [*]; done)), H', ⟨by have := HK1.out; have := HJ3.out; first | omega | exact Nat.le_refl _⟩, ⟨by (with_reducible repeat (first | refine blk_drewN ?_ _ | refine blk_drew ?_ | refine blk_alloc ?_ _)); exact BK221.out⟩, ⟨by repeat (first | (with_reducible first | exact HB.out | apply below_alloc | apply pw_below_drewN | apply below_drew1 | refine below_set ?_ GE221.out) | exact HB.out)⟩⟩
           ·rw [if_neg c35] at H
            have c35b0 : decide (((rd_T39 l0 x4_1).f0) < 0) = false := decide_eq_false c35
            clear c35
            by_cases c37 : ((rd_T39 l0 x4_1).f3) = true
            ·rw [if_pos c37] at H
             have c37b0 : ((rd_T39 l0 x4_1).f3) = true := c37
             clear c37
             have H' := Aside0.mk H
             clear H
             have hcz38_0 : wc.cell? ⟨gb221, 0, none⟩ = some (.int .i64 ((rd_T39 l0 x4_1).f0)) := (blk_cell BK221.out 0).trans rfl
             have hcz38_1 : wc.cell? ⟨gb221, 1, none⟩ = some (.slice A220_1 ((rd_T39 l0 x4_1).f1).length c220_1) := (blk_cell BK221.out 1).trans rfl
             have hcz38_2 : wc.cell? ⟨gb221, 2, none⟩ = some (.int .i64 ((rd_T39 l0 x4_1).f2)) := (blk_cell BK221.out 2).trans rfl
             have hcz38_3 : wc.cell? ⟨gb221, 3, none⟩ = some (.bool ((rd_T39 l0 x4_1).f3)) := (blk_cell BK221.out 3).trans rfl
             have hfz38_0 := blk_frozen BK221.out 0
             have hfz38_1 := blk_frozen BK221.out 1
             have hfz38_2 := blk_frozen BK221.out 2
             have hfz38_3 := blk_frozen BK221.out 3
             go_wp2
             repeat (go_quiet (fail); try go_wp2)
             go_meet
             case rel => exact ⟨_, (true), (by first | rfl | (simp; done) | (simp [*]; done)), H', ⟨by have := HK1.out; have := HJ3.out; first | omega | exact Nat.le_refl _⟩, ⟨by (with_reducible repeat (first | refine blk_drewN ?_ _ | refine blk_drew ?_ | refine blk_alloc ?_ _)); exact BK221.out⟩, ⟨by repeat (first | (with_reducible first | exact HB.out | apply below_alloc | apply pw_below_drewN | apply below_drew1 | refine below_set ?_ GE221.out) | exact HB.out)⟩⟩
            ·rw [if_neg c37] at H
             have c37b0 : ((rd_T39 l0 x4_1).f3) = false := by simpa using c37
             clear c37
             by_cases c39 : ((rd_T39 l0 x4_1).f2) = x6_3
             ·rw [if_pos c39] at H
              have c39b0 : (((rd_T39 l0 x4_1).f2) == x6_3) = true := beq_iff_eq.mpr c39
              have c39b1 : (((rd_T39 l0 x4_1).f2) != x6_3) = false := bne_eq_false_iff_eq.mpr c39
              clear c39
              have H' := Aside0.mk H
              clear H
              have hcz40_0 : wc.cell? ⟨gb221, 0, none⟩ = some (.int .i64 ((rd_T39 l0 x4_1).f0)) := (blk_cell BK221.out 0).trans rfl
              have hcz40_1 : wc.cell? ⟨gb221, 1, none⟩ = some (.slice A220_1 ((rd_T39 l0 x4_1).f1).length c220_1) := (blk_cell BK221.out 1).trans rfl
              have hcz40_2 : wc.cell? ⟨gb221, 2, none⟩ = some (.int .i64 ((rd_T39 l0 x4_1).f2)) := (blk_cell BK221.out 2).trans rfl
              have hcz40_3 : wc.cell? ⟨gb221, 3, none⟩ = some (.bool ((rd_T39 l0 x4_1).f3)) := (blk_cell BK221.out 3).trans rfl
              have hfz40_0 := blk_frozen BK221.out 0
              have hfz40_1 := blk_frozen BK221.out 1
              have hfz40_2 := blk_frozen BK221.out 2
              have hfz40_3 := blk_frozen BK221.out 3
              go_wp2
              repeat (go_quiet (fail); try go_wp2)
              go_meet
              case rel => exact ⟨_, (decide ((((rd_T39 l0 x4_1).f1).length : Int) > 4)), (by first | rfl | (simp; done) | (simp [*]; done)), H', ⟨by have := HK1.out; have := HJ3.out; first | omega | exact Nat.le_refl _⟩, ⟨by (with_reducible repeat (first | refine blk_drewN ?_ _ | refine blk_drew ?_ | refine blk_alloc ?_ _)); exact BK221.out⟩, ⟨by repeat (first | (with_reducible first | exact HB.out | apply below_alloc | apply pw_below_drewN | apply below_drew1 | refine below_set ?_ GE221.out) | exact HB.out)⟩⟩
             ·rw [if_neg c39] at H
              have c39b0 : (((rd_T39 l0 x4_1).f2) == x6_3) = false := beq_eq_false_iff_ne.mpr c39
              have c39b1 : (((rd_T39 l0 x4_1).f2) != x6_3) = true := bne_iff_ne.mpr c39
              have H' := Aside0.mk H
              clear H
              have hcz41_0 : wc.cell? ⟨gb221, 0, none⟩ = some (.int .i64 ((rd_T39 l0 x4_1).f0)) := (blk_cell BK221.out 0).trans rfl
              have hcz41_1 : wc.cell? ⟨gb221, 1, none⟩ = some (.slice A220_1 ((rd_T39 l0 x4_1).f1).length c220_1) := (blk_cell BK221.out 1).trans rfl
              have hcz41_2 : wc.cell? ⟨gb221, 2, none⟩ = some (.int .i64 ((rd_T39 l0 x4_1).f2)) := (blk_cell BK221.out 2).trans rfl
              have hcz41_3 : wc.cell? ⟨gb221, 3, none⟩ = some (.bool ((rd_T39 l0 x4_1).f3)) := (blk_cell BK221.out 3).trans rfl
              have hfz41_0 := blk_frozen BK221.out 0
              have hfz41_1 := blk_frozen BK221.out 1
              have hfz41_2 := blk_frozen BK221.out 2
              have hfz41_3 := blk_frozen BK221.out 3
              go_wp2
              repeat (go_quiet (fail); try go_wp2)
              go_meet
              case rel => exact ⟨_, (true), (by first | rfl | (simp; done) | (simp [*]; done)), H', ⟨by have := HK1.out; have := HJ3.out; first | omega | exact Nat.le_refl _⟩, ⟨by (with_reducible repeat (first | refine blk_drewN ?_ _ | refine blk_drew ?_ | refine blk_alloc ?_ _)); exact BK221.out⟩, ⟨by repeat (first | (with_reducible first | exact HB.out | apply below_alloc | apply pw_below_drewN | apply below_drew1 | refine below_set ?_ GE221.out) | exact HB.out)⟩⟩
         ·rw [if_neg c32] at H
          have c32b0 : decide (0 < x4_1) = false := decide_eq_false c32
          clear c32
          by_cases c42 : ((rd_T39 l0 x4_1).f0) < 0
          ·rw [if_pos c42] at H
           have c42b0 : decide (((rd_T39 l0 x4_1).f0) < 0) = true := decide_eq_true c42
           clear c42
           have H' := Aside0.mk H
           clear H
           have hcz43_0 : wc.cell? ⟨gb221, 0, none⟩ = some (.int .i64 ((rd_T39 l0 x4_1).f0)) := (blk_cell BK221.out 0).trans rfl
           have hcz43_1 : wc.cell? ⟨gb221, 1, none⟩ = some (.slice A220_1 ((rd_T39 l0 x4_1).f1).length c220_1) := (blk_cell BK221.out 1).trans rfl
           have hcz43_2 : wc.cell? ⟨gb221, 2, none⟩ = some (.int .i64 ((rd_T39 l0 x4_1).f2)) := (blk_cell BK221.out 2).trans rfl
           have hcz43_3 : wc.cell? ⟨gb221, 3, none⟩ = some (.bool ((rd_T39 l0 x4_1).f3)) := (blk_cell BK221.out 3).trans rfl
           have hfz43_0 := blk_frozen BK221.out 0
           have hfz43_1 := blk_frozen BK221.out 1
           have hfz43_2 := blk_frozen BK221.out 2
           have hfz43_3 := blk_frozen BK221.out 3
           go_wp2
           repeat (go_quiet (fail); try go_wp2)
           go_meet
           case rel => exact ⟨_, (true), (by first | rfl | (simp; done) | (simp [*]; done)), H', ⟨by have := HK1.out; have := HJ3.out; first | omega | exact Nat.le_refl _⟩, ⟨by (with_reducible repeat (first | refine blk_drewN ?_ _ | refine blk_drew ?_ | refine blk_alloc ?_ _)); exact BK221.out⟩, ⟨by repeat (first | (with_reducible first | exact HB.out | apply below_alloc | apply pw_below_drewN | apply below_drew1 | refine below_set ?_ GE221.out) | exact HB.out)⟩⟩
          ·rw [if_neg c42] at H
           have c42b0 : decide (((rd_T39 l0 x4_1).f0) < 0) = false := decide_eq_false c42
           clear c42
           by_cases c44 : ((rd_T39 l0 x4_1).f3) = true
           ·rw [if_pos c44] at H
            have c44b0 : ((rd_T39 l0 x4_1).f3) = true := c44
            clear c44
            have H' := Aside0.mk H
            clear H
            have hcz45_0 : wc.cell? ⟨gb221, 0, none⟩ = some (.int .i64 ((rd_T39 l0 x4_1).f0)) := (blk_cell BK221.out 0).trans rfl
            have hcz45_1 : wc.cell? ⟨gb221, 1, none⟩ = some (.slice A220_1 ((rd_T39 l0 x4_1).f1).length c220_1) := (blk_cell BK221.out 1).trans rfl
            have hcz45_2 : wc.cell? ⟨gb221, 2, none⟩ = some (.int .i64 ((rd_T39 l0 x4_1).f2)) := (blk_cell BK221.out 2).trans rfl
            have hcz45_3 : wc.cell? ⟨gb221, 3, none⟩ = some (.bool ((rd_T39 l0 x4_1).f3)) := (blk_cell BK221.out 3).trans rfl
            have hfz45_0 := blk_frozen BK221.out 0
            have hfz45_1 := blk_frozen BK221.out 1
            have hfz45_2 := blk_frozen BK221.out 2
            have hfz45_3 := blk_frozen BK221.out 3
            go_wp2
            repeat (go_quiet (fail); try go_wp2)
            go_meet
            case rel => exact ⟨_, (true), (by first | rfl | (simp; done) | (simp [*]; done)), H', ⟨by have := HK1.out; have := HJ3.out; first | omega | exact Nat.le_refl _⟩, ⟨by (with_reducible repeat (first | refine blk_drewN ?_ _ | refine blk_drew ?_ | refine blk_alloc ?_ _)); exact BK221.out⟩, ⟨by repeat (first | (with_reducible first | exact HB.out | apply below_alloc | apply pw_below_drewN | apply below_drew1 | refine below_set ?_ GE221.out) | exact HB.out)⟩⟩
           ·rw [if_neg c44] at H
            have c44b0 : ((rd_T39 l0 x4_1).f3) = false := by simpa using c44
            clear c44
            by_cases c46 : ((rd_T39 l0 x4_1).f2) = x6_3
            ·rw [if_pos c46] at H
             have c46b0 : (((rd_T39 l0 x4_1).f2) == x6_3) = true := beq_iff_eq.mpr c46
             have c46b1 : (((rd_T39 l0 x4_1).f2) != x6_3) = false := bne_eq_false_iff_eq.mpr c46
             clear c46
             have H' := Aside0.mk H
             clear H
             have hcz47_0 : wc.cell? ⟨gb221, 0, none⟩ = some (.int .i64 ((rd_T39 l0 x4_1).f0)) := (blk_cell BK221.out 0).trans rfl
             have hcz47_1 : wc.cell? ⟨gb221, 1, none⟩ = some (.slice A220_1 ((rd_T39 l0 x4_1).f1).length c220_1) := (blk_cell BK221.out 1).trans rfl
             have hcz47_2 : wc.cell? ⟨gb221, 2, none⟩ = some (.int .i64 ((rd_T39 l0 x4_1).f2)) := (blk_cell BK221.out 2).trans rfl
             have hcz47_3 : wc.cell? ⟨gb221, 3, none⟩ = some (.bool ((rd_T39 l0 x4_1).f3)) := (blk_cell BK221.out 3).trans rfl
             have hfz47_0 := blk_frozen BK221.out 0
             have hfz47_1 := blk_frozen BK221.out 1
             have hfz47_2 := blk_frozen BK221.out 2
             have hfz47_3 := blk_frozen BK221.out 3
             go_wp2
             repeat (go_quiet (fail); try go_wp2)
             go_meet
             case rel => exact ⟨_, (decide ((((rd_T39 l0 x4_1).f1).length : Int) > 4)), (by first | rfl | (simp; done) | (simp [*]; done)), H', ⟨by have := HK1.out; have := HJ3.out; first | omega | exact Nat.le_refl _⟩, ⟨by (with_reducible repeat (first | refine blk_drewN ?_ _ | refine blk_drew ?_ | refine blk_alloc ?_ _)); exact BK221.out⟩, ⟨by repeat (first | (with_reducible first | exact HB.out | apply below_alloc | apply pw_below_drewN | apply below_drew1 | refine below_set ?_ GE221.out) | exact HB.out)⟩⟩
            ·rw [if_neg c46] at H
             have c46b0 : (((rd_T39 l0 x4_1).f2) == x6_3) = false := beq_eq_false_iff_ne.mpr c46
             have c46b1 : (((rd_T39 l0 x4_1).f2) != x6_3) = true := bne_iff_ne.mpr c46
             have H' := Aside0.mk H
             clear H
             have hcz48_0 : wc.cell? ⟨gb221, 0, none⟩ = some (.int .i64 ((rd_T39 l0 x4_1).f0)) := (blk_cell BK221.out 0).trans rfl
             have hcz48_1 : wc.cell? ⟨gb221, 1, none⟩ = some (.slice A220_1 ((rd_T39 l0 x4_1).f1).length c220_1) := (blk_cell BK221.out 1).trans rfl
             have hcz48_2 : wc.cell? ⟨gb221, 2, none⟩ = some (.int .i64 ((rd_T39 l0 x4_1).f2)) := (blk_cell BK221.out 2).trans rfl
             have hcz48_3 : wc.cell? ⟨gb221, 3, none⟩ = some (.bool ((rd_T39 l0 x4_1).f3)) := (blk_cell BK221.out 3).trans rfl
             have hfz48_0 := blk_frozen BK221.out 0
             have hfz48_1 := blk_frozen BK221.out 1
             have hfz48_2 := blk_frozen BK221.out 2
             have hfz48_3 := blk_frozen BK221.out 3
             go_wp2
             repeat (go_quiet (fail); try go_wp2)
             go_meet
             case rel => exact ⟨_, (true), (by first | rfl | (simp; done) | (simp [*]; done)), H', ⟨by have := HK1.out; have := HJ3.out; first | omega | exact Nat.le_refl _⟩, ⟨by (with_reducible repeat (first | refine blk_drewN ?_ _ | refine blk_drew ?_ | refine blk_alloc ?_ _)); exact BK221.out⟩, ⟨by repeat (first | (with_reducible first | exact HB.out | apply below_alloc | apply pw_below_drewN | apply below_drew1 | refine below_set ?_ GE221.out) | exact HB.out)⟩⟩
       case rest =>
        clear HC11
        try clear c1
        try clear c2
        try clear c2b0
        try clear p2
        try clear q2
        try clear hx2
        try clear c3
        try clear c3b0
        try clear c4
        try clear p6
        try clear c7
        try clear c7b0
        try clear c9
        try clear c9b0
        try clear c10
        try clear c10b0
        try clear c10b1
        try clear c12
        try clear c12b0
        try clear c12b1
        try clear c13
        try clear c13b0
        try clear c13b1
        try clear c14
        try clear c14b0
        try clear c15
        try clear c15b0
        try clear c15b1
        try clear c15b2
        try clear c17
        try clear c17b0
        try clear c19
        try clear c19b0
        try clear c21
        try clear c21b0
        try clear c21b1
        try clear c22
        try clear p22
        try clear q22
        try clear hx22
        try clear c24
        try clear c24b0
        try clear c26
        try clear c26b0
        try clear c28
        try clear c28b0
        try clear c28b1
        try clear c32
        try clear c32b0
        try clear c33
        try clear c33b0
        try clear c33b1
        try clear c33b2
        try clear c35
        try clear c35b0
        try clear c37
        try clear c37b0
        try clear c39
        try clear c39b0
        try clear c39b1
        try clear c42
        try clear c42b0
        try clear c44
        try clear c44b0
        try clear c46
        try clear c46b0
        try clear c46b1
        try clear hcz16_0
        try clear hcz16_1
        try clear hcz16_2
        try clear hcz16_3
        try clear hcz18_0
        try clear hcz18_1
        try clear hcz18_2
        try clear hcz18_3
        try clear hcz20_0
        try clear hcz20_1
        try clear hcz20_2
        try clear hcz20_3
        try clear hcz22_0
        try clear hcz22_1
        try clear hcz22_2
        try clear hcz22_3
        try clear hcz23_0
        try clear hcz23_1
        try clear hcz23_2
        try clear hcz23_3
        try clear hcz25_0
        try clear hcz25_1
        try clear hcz25_2
        try clear hcz25_3
        try clear hcz27_0
        try clear hcz27_1
        try clear hcz27_2
        try clear hcz27_3
        try clear hcz29_0
        try clear hcz29_1
        try clear hcz29_2
        try clear hcz29_3
        try clear hcz30_0
        try clear hcz30_1
        try clear hcz30_2
        try clear hcz30_3
        try clear hcz31_0
        try clear hcz31_1
        try clear hcz31_2
        try clear hcz31_3
        try clear hcz34_0
        try clear hcz34_1
        try clear hcz34_2
        try clear hcz34_3
        try clear hcz36_0
        try clear hcz36_1
        try clear hcz36_2
        try clear hcz36_3
        try clear hcz38_0
        try clear hcz38_1
        try clear hcz38_2
        try clear hcz38_3
        try clear hcz40_0
        try clear hcz40_1
        try clear hcz40_2
        try clear hcz40_3
        try clear hcz41_0
        try clear hcz41_1
        try clear hcz41_2
        try clear hcz41_3
        try clear hcz43_0
        try clear hcz43_1
        try clear hcz43_2
        try clear hcz43_3
        try clear hcz45_0
        try clear hcz45_1
        try clear hcz45_2
        try clear hcz45_3
        try clear hcz47_0
        try clear hcz47_1
        try clear hcz47_2
        try clear hcz47_3
        try clear hcz48_0
        try clear hcz48_1
        try clear hcz48_2
        try clear hcz48_3
        try clear hcz6_0
        try clear hcz6_1
        try clear hcz6_2
        try clear hcz6_3
        try clear hfz16_0
        try clear hfz16_1
        try clear hfz16_2
        try clear hfz16_3
        try clear hfz18_0
        try clear hfz18_1
        try clear hfz18_2
        try clear hfz18_3
        try clear hfz20_0
        try clear hfz20_1
        try clear hfz20_2
        try clear hfz20_3
        try clear hfz22_0
        try clear hfz22_1
        try clear hfz22_2
        try clear hfz22_3
        try clear hfz23_0
        try clear hfz23_1
        try clear hfz23_2
        try clear hfz23_3
        try clear hfz25_0
        try clear hfz25_1
        try clear hfz25_2
        try clear hfz25_3
        try clear hfz27_0
        try clear hfz27_1
        try clear hfz27_2
        try clear hfz27_3
        try clear hfz29_0
        try clear hfz29_1
        try clear hfz29_2
        try clear hfz29_3
        try clear hfz30_0
        try clear hfz30_1
        try clear hfz30_2
        try clear hfz30_3
        try clear hfz31_0
        try clear hfz31_1
        try clear hfz31_2
        try clear hfz31_3
        try clear hfz34_0
        try clear hfz34_1
        try clear hfz34_2
        try clear hfz34_3
        try clear hfz36_0
        try clear hfz36_1
        try clear hfz36_2
        try clear hfz36_3
        try clear hfz38_0
        try clear hfz38_1
        try clear hfz38_2
        try clear hfz38_3
        try clear hfz40_0
        try clear hfz40_1
        try clear hfz40_2
        try clear hfz40_3
        try clear hfz41_0
        try clear hfz41_1
        try clear hfz41_2
        try clear hfz41_3
        try clear hfz43_0
        try clear hfz43_1
        try clear hfz43_2
        try clear hfz43_3
        try clear hfz45_0
        try clear hfz45_1
        try clear hfz45_2
        try clear hfz45_3
        try clear hfz47_0
        try clear hfz47_1
        try clear hfz47_2
        try clear hfz47_3
        try clear hfz48_0
        try clear hfz48_1
        try clear hfz48_2
        try clear hfz48_3
        try clear hfz6_0
        try clear hfz6_1
        try clear hfz6_2
        try clear hfz6_3
        try clear hx220_0
        try clear hx220_1
        try clear hx220_2
        try clear hx220_3
        try clear hx222_0
        try clear hx222_1
        try clear hx222_2
        try clear hx222_3
        try clear p2
        try clear p220
        try clear p222
        try clear p6
        try clear q2
        try clear q220
        try clear q222
        obtain ⟨kq, x69_10, rfl, HA, HJ10, BK221, HB⟩ := hcut
        cases kq with
        | zero => exact absurd HA.out (by simp [cobwebref10_Right.j2])
        | succ kj10 =>
         have H := HA.out
         clear HA
         simp only [cobwebref10_Right.j2] at H
         by_cases c49 : x69_10 = true
         ·subst c49
          have H1 : (some false) = some r := by rw [if_pos rfl] at H; exact H
          clear H
          have H := H1
          clear H1
          obtain rfl := Option.some.inj H
          go_wp2
          repeat (go_quiet (fail); try go_wp2)
          go_ret
          exact ⟨by first | rfl | (simp [errW_none, errW_some] <;> rfl) | (simp [*, errW_none, errW_some] <;> rfl), by repeat (first | (with_reducible first | exact HB.out | apply below_alloc | apply pw_below_drewN | apply below_drew1 | refine below_set ?_ GE221.out) | exact HB.out)⟩
         ·replace c49 := Bool.eq_false_iff.mpr c49
          subst c49
          have H1 : (cobwebref10_Right.l1 kj10 l0 x3_1 x4_1 0 ((rd_T39 l0 x4_1).f0) ((rd_T39 l0 x4_1).f1) ((rd_T39 l0 x4_1).f2) ((rd_T39 l0 x4_1).f3)) = some r := by rw [if_neg (show ¬ (false = true) by decide)] at H; exact H
          clear H
          have H := H1
          clear H1
          have H' := Aside0.mk H
          clear H
          go_wp2
          repeat (go_quiet (fail); try go_wp2)
          go_loopg [7] kj10 (fun kq v7 w' => ∃ (x7_4 : Int), v7 = .int .i64 x7_4 ∧ Aside0 (cobwebref10_Right.l1 kq l0 x3_1 x4_1 x7_4 ((rd_T39 l0 x4_1).f0) ((rd_T39 l0 x4_1).f1) ((rd_T39 l0 x4_1).f2) ((rd_T39 l0 x4_1).f3) = some r) ∧ Aside0 (kq ≤ kj10) ∧ Aside0 (w'.heap[gb221]? = some (.cells #[.int .i64 ((rd_T39 l0 x4_1).f0), (.slice A220_1 ((rd_T39 l0 x4_1).f1).length c220_1), .int .i64 ((rd_T39 l0 x4_1).f2), .bool ((rd_T39 l0 x4_1).f3)] 39 (0, 0))) ∧ Aside0 (Below w.heap.size w w'))
          case atStart => exact ⟨(0), (by first | rfl | (simp; done) | (simp [*]; done)), H', ⟨Nat.le_refl _⟩, ⟨by (with_reducible repeat (first | refine blk_drewN ?_ _ | refine blk_drew ?_ | refine blk_alloc ?_ _)); exact BK221.out⟩, ⟨by repeat (first | (with_reducible first | exact HB.out | apply below_alloc | apply pw_below_drewN | apply below_drew1 | refine below_set ?_ GE221.out) | exact HB.out)⟩⟩
          case round =>
           clear H'
           try clear c1
           try clear c2
           try clear c2b0
           try clear p2
           try clear q2
           try clear hx2
           try clear c3
           try clear c3b0
           try clear c4
           try clear p6
           try clear c7
           try clear c7b0
           try clear c9
           try clear c9b0
           try clear c10
           try clear c10b0
           try clear c10b1
           try clear c12
           try clear c12b0
           try clear c12b1
           try clear c13
           try clear c13b0
           try clear c13b1
           try clear c14
           try clear c14b0
           try clear c15
           try clear c15b0
           try clear c15b1
           try clear c15b2
           try clear c17
           try clear c17b0
           try clear c19
           try clear c19b0
           try clear c21
           try clear c21b0
           try clear c21b1
           try clear c22
           try clear p22
           try clear q22
           try clear hx22
           try clear c24
           try clear c24b0
           try clear c26
           try clear c26b0
           try clear c28
           try clear c28b0
           try clear c28b1
           try clear c32
           try clear c32b0
           try clear c33
           try clear c33b0
           try clear c33b1
           try clear c33b2
           try clear c35
           try clear c35b0
           try clear c37
           try clear c37b0
           try clear c39
           try clear c39b0
           try clear c39b1
           try clear c42
           try clear c42b0
           try clear c44
           try clear c44b0
           try clear c46
           try clear c46b0
           try clear c46b1
           try clear c49
           try clear hcz16_0
           try clear hcz16_1
           try clear hcz16_2
           try clear hcz16_3
           try clear hcz18_0
           try clear hcz18_1
           try clear hcz18_2
           try clear hcz18_3
           try clear hcz20_0
           try clear hcz20_1
           try clear hcz20_2
           try clear hcz20_3
           try clear hcz22_0
           try clear hcz22_1
           try clear hcz22_2
           try clear hcz22_3
           try clear hcz23_0
           try clear hcz23_1
           try clear hcz23_2
           try clear hcz23_3
           try clear hcz25_0
           try clear hcz25_1
           try clear hcz25_2
           try clear hcz25_3
           try clear hcz27_0
           try clear hcz27_1
           try clear hcz27_2
           try clear hcz27_3
           try clear hcz29_0
           try clear hcz29_1
           try clear hcz29_2
           try clear hcz29_3
           try clear hcz30_0
           try clear hcz30_1
           try clear hcz30_2
           try clear hcz30_3
           try clear hcz31_0
           try clear hcz31_1
           try clear hcz31_2
           try clear hcz31_3
           try clear hcz34_0
           try clear hcz34_1
           try clear hcz34_2
           try clear hcz34_3
           try clear hcz36_0
           try clear hcz36_1
           try clear hcz36_2
           try clear hcz36_3
           try clear hcz38_0
           try clear hcz38_1
           try clear hcz38_2
           try clear hcz38_3
           try clear hcz40_0
           try clear hcz40_1
           try clear hcz40_2
           try clear hcz40_3
           try clear hcz41_0
           try clear hcz41_1
           try clear hcz41_2
           try clear hcz41_3
           try clear hcz43_0
           try clear hcz43_1
           try clear hcz43_2
           try clear hcz43_3
           try clear hcz45_0
           try clear hcz45_1
           try clear hcz45_2
           try clear hcz45_3
           try clear hcz47_0
           try clear hcz47_1
           try clear hcz47_2
           try clear hcz47_3
           try clear hcz48_0
           try clear hcz48_1
           try clear hcz48_2
           try clear hcz48_3
           try clear hcz6_0
           try clear hcz6_1
           try clear hcz6_2
           try clear hcz6_3
           try clear hfz16_0
           try clear hfz16_1
           try clear hfz16_2
           try clear hfz16_3
           try clear hfz18_0
           try clear hfz18_1
           try clear hfz18_2
           try clear hfz18_3
           try clear hfz20_0
           try clear hfz20_1
           try clear hfz20_2
           try clear hfz20_3
           try clear hfz22_0
           try clear hfz22_1
           try clear hfz22_2
           try clear hfz22_3
           try clear hfz23_0
           try clear hfz23_1
           try clear hfz23_2
           try clear hfz23_3
           try clear hfz25_0
           try clear hfz25_1
           try clear hfz25_2
           try clear hfz25_3
           try clear hfz27_0
           try clear hfz27_1
           try clear hfz27_2
           try clear hfz27_3
           try clear hfz29_0
           try clear hfz29_1
           try clear hfz29_2
           try clear hfz29_3
           try clear hfz30_0
           try clear hfz30_1
           try clear hfz30_2
           try clear hfz30_3
           try clear hfz31_0
           try clear hfz31_1
           try clear hfz31_2
           try clear hfz31_3
           try clear hfz34_0
           try clear hfz34_1
           try clear hfz34_2
           try clear hfz34_3
           try clear hfz36_0
           try clear hfz36_1
           try clear hfz36_2
           try clear hfz36_3
           try clear hfz38_0
           try clear hfz38_1
           try clear hfz38_2
           try clear hfz38_3
           try clear hfz40_0
           try clear hfz40_1
           try clear hfz40_2
           try clear hfz40_3
           try clear hfz41_0
           try clear hfz41_1
           try clear hfz41_2
           try clear hfz41_3
           try clear hfz43_0
           try clear hfz43_1
           try clear hfz43_2
           try clear hfz43_3
           try clear hfz45_0
           try clear hfz45_1
           try clear hfz45_2
           try clear hfz45_3
           try clear hfz47_0
           try clear hfz47_1
           try clear hfz47_2
           try clear hfz47_3
           try clear hfz48_0
           try clear hfz48_1
           try clear hfz48_2
           try clear hfz48_3
           try clear hfz6_0
           try clear hfz6_1
           try clear hfz6_2
           try clear hfz6_3
           try clear hx220_0
           try clear hx220_1
           try clear hx220_2
           try clear hx220_3
           try clear hx222_0
           try clear hx222_1
           try clear hx222_2
           try clear hx222_3
           try clear p2
           try clear p22
           try clear p220
           try clear p222
           try clear p6
           try clear q2
           try clear q22
           try clear q220
           try clear q222
           obtain ⟨x7_4, rfl, HA, HK4, BK221, HB⟩ := hrel
           cases gk with
           | zero => exact absurd HA.out (by simp [cobwebref10_Right.l1])
           | succ k4 =>
            have H := HA.out
            clear HA
            simp only [cobwebref10_Right.l1] at H
            by_cases c50 : x7_4 < x4_1
            ·rw [if_pos c50] at H
             have c50b0 : decide (x7_4 < x4_1) = true := decide_eq_true c50
             clear c50
             by_cases c51 : 0 ≤ x7_4
             ·rw [if_pos c51] at H
              have c51b0 : decide (0 ≤ x7_4) = true := decide_eq_true c51
              clear c51
              by_cases c52 : x7_4 < (l0.length : Int)
              ·rw [if_pos c52] at H
               have c52b0 : decide (x7_4 < (l0.length : Int)) = true := decide_eq_true c52
               clear c52
               by_cases c53 : ((rd_T39 l0 x7_4).f0) = ((rd_T39 l0 x4_1).f0)
               ·rw [if_pos c53] at H
                have c53b0 : (((rd_T39 l0 x7_4).f0) == ((rd_T39 l0 x4_1).f0)) = true := beq_iff_eq.mpr c53
                have c53b1 : (((rd_T39 l0 x7_4).f0) != ((rd_T39 l0 x4_1).f0)) = false := bne_eq_false_iff_eq.mpr c53
                clear c53
                obtain rfl := Option.some.inj H
                have p223 : 0 ≤ (x7_4 : Int) := of_decide_eq_true (by first | (with_reducible assumption) | assumption)
                have q223 : x7_4 < (l0.length : Int) := of_decide_eq_true (by first | (with_reducible assumption) | assumption)
                obtain ⟨ad223, A223_1, c223_1, e223, hx223_0, hx223_1, hx223_2, hx223_3, hl223_1, hi223_1⟩ := at_T39 HR0.out x7_4 p223 q223
                obtain rfl : ad220 = ad223 := (by injection e223)
                replace hx223_0 := (HB.out.cell (World.block_lt_of_cell? w _ hx223_0)).trans hx223_0
                replace hx223_1 := (HB.out.cell (World.block_lt_of_cell? w _ hx223_1)).trans hx223_1
                replace hx223_2 := (HB.out.cell (World.block_lt_of_cell? w _ hx223_2)).trans hx223_2
                replace hx223_3 := (HB.out.cell (World.block_lt_of_cell? w _ hx223_3)).trans hx223_3
                have HR223_1 := Aside0.mk hi223_1
                have HC223_1 := Aside0.mk hl223_1
                clear hi223_1 hl223_1
                replace p223 := eq_true p223
                replace q223 := eq_true q223
                have hcz54_0 : wr.cell? ⟨gb221, 0, none⟩ = some (.int .i64 ((rd_T39 l0 x4_1).f0)) := (blk_cell BK221.out 0).trans rfl
                have hcz54_1 : wr.cell? ⟨gb221, 1, none⟩ = some (.slice A220_1 ((rd_T39 l0 x4_1).f1).length c220_1) := (blk_cell BK221.out 1).trans rfl
                have hcz54_2 : wr.cell? ⟨gb221, 2, none⟩ = some (.int .i64 ((rd_T39 l0 x4_1).f2)) := (blk_cell BK221.out 2).trans rfl
                have hcz54_3 : wr.cell? ⟨gb221, 3, none⟩ = some (.bool ((rd_T39 l0 x4_1).f3)) := (blk_cell BK221.out 3).trans rfl
                have hfz54_0 := blk_frozen BK221.out 0
                have hfz54_1 := blk_frozen BK221.out 1
                have hfz54_2 := blk_frozen BK221.out 2
                have hfz54_3 := blk_frozen BK221.out 3
                go_wp2
                repeat (go_quiet (fail); try go_wp2)
                go_ret
                exact ⟨by first | rfl | (simp [errW_none, errW_some] <;> rfl) | (simp [*, errW_none, errW_some] <;> rfl), by repeat (first | (with_reducible first | exact HB.out | apply below_alloc | apply pw_below_drewN | apply below_drew1 | refine below_set ?_ GE221.out) | exact HB.out)⟩
               ·rw [if_neg c53] at H
                have c53b0 : (((rd_T39 l0 x7_4).f0) == ((rd_T39 l0 x4_1).f0)) = false := beq_eq_false_iff_ne.mpr c53
                have c53b1 : (((rd_T39 l0 x7_4).f0) != ((rd_T39 l0 x4_1).f0)) = true := bne_iff_ne.mpr c53
                have H' := Aside0.mk H
                clear H
                have p223 : 0 ≤ (x7_4 : Int) := of_decide_eq_true (by first | (with_reducible assumption) | assumption)
                have q223 : x7_4 < (l0.length : Int) := of_decide_eq_true (by first | (with_reducible assumption) | assumption)
                obtain ⟨ad223, A223_1, c223_1, e223, hx223_0, hx223_1, hx223_2, hx223_3, hl223_1, hi223_1⟩ := at_T39 HR0.out x7_4 p223 q223
                obtain rfl : ad220 = ad223 := (by injection e223)
                replace hx223_0 := (HB.out.cell (World.block_lt_of_cell? w _ hx223_0)).trans hx223_0
                replace hx223_1 := (HB.out.cell (World.block_lt_of_cell? w _ hx223_1)).trans hx223_1
                replace hx223_2 := (HB.out.cell (World.block_lt_of_cell? w _ hx223_2)).trans hx223_2
                replace hx223_3 := (HB.out.cell (World.block_lt_of_cell? w _ hx223_3)).trans hx223_3
                have HR223_1 := Aside0.mk hi223_1
                have HC223_1 := Aside0.mk hl223_1
                clear hi223_1 hl223_1
                replace p223 := eq_true p223
                replace q223 := eq_true q223
                have hcz55_0 : wr.cell? ⟨gb221, 0, none⟩ = some (.int .i64 ((rd_T39 l0 x4_1).f0)) := (blk_cell BK221.out 0).trans rfl
                have hcz55_1 : wr.cell? ⟨gb221, 1, none⟩ = some (.slice A220_1 ((rd_T39 l0 x4_1).f1).length c220_1) := (blk_cell BK221.out 1).trans rfl
                have hcz55_2 : wr.cell? ⟨gb221, 2, none⟩ = some (.int .i64 ((rd_T39 l0 x4_1).f2)) := (blk_cell BK221.out 2).trans rfl
                have hcz55_3 : wr.cell? ⟨gb221, 3, none⟩ = some (.bool ((rd_T39 l0 x4_1).f3)) := (blk_cell BK221.out 3).trans rfl
                have hfz55_0 := blk_frozen BK221.out 0
                have hfz55_1 := blk_frozen BK221.out 1
                have hfz55_2 := blk_frozen BK221.out 2
                have hfz55_3 := blk_frozen BK221.out 3
                go_wp2
                repeat (go_quiet (fail); try go_wp2)
                go_roundg k4
                case measure => have := HK1.out; have := HJ3.out; have := HJ10.out; have := HK4.out; omega
                case rel => exact ⟨(wrap64 (x7_4 + 1)), (by first | rfl | (simp; done) | (simp [*]; done)), H', ⟨by have := HK1.out; have := HJ3.out; have := HJ10.out; have := HK4.out; omega⟩, ⟨by (with_reducible repeat (first | refine blk_drewN ?_ _ | refine blk_drew ?_ | refine blk_alloc ?_ _)); exact BK221.out⟩, ⟨by repeat (first | (with_reducible first | exact HB.out | apply below_alloc | apply pw_below_drewN | apply below_drew1 | refine below_set ?_ GE221.out) | exact HB.out)⟩⟩
              ·rw [if_neg c52] at H
               exact absurd H (by simp)
             ·rw [if_neg c51] at H
              exact absurd H (by simp)
            ·rw [if_neg c50] at H
             have c50b0 : decide (x7_4 < x4_1) = false := decide_eq_false c50
             clear c50
             have H' := Aside0.mk H
             clear H
             go_wp2
             repeat (go_quiet (fail); try go_wp2)
             go_loopg [3, 8] k4 (fun kq v3 v8 w' => ∃ (x3_5 : Int) (x8_5 : Int), v3 = .int .i64 x3_5 ∧ v8 = .int .i64 x8_5 ∧ Aside0 (cobwebref10_Right.l2 kq l0 x3_5 x4_1 x8_5 ((rd_T39 l0 x4_1).f0) ((rd_T39 l0 x4_1).f1) ((rd_T39 l0 x4_1).f2) ((rd_T39 l0 x4_1).f3) = some r) ∧ Aside0 (kq ≤ k4) ∧ Aside0 (w'.heap[gb221]? = some (.cells #[.int .i64 ((rd_T39 l0 x4_1).f0), (.slice A220_1 ((rd_T39 l0 x4_1).f1).length c220_1), .int .i64 ((rd_T39 l0 x4_1).f2), .bool ((rd_T39 l0 x4_1).f3)] 39 (0, 0))) ∧ Aside0 (Below w.heap.size w w'))
             case atStart => exact ⟨(x3_1), (0), (by first | rfl | (simp; done) | (simp [*]; done)), (by first | rfl | (simp; done) | (simp [*]; done)), H', ⟨Nat.le_refl _⟩, ⟨by (with_reducible repeat (first | refine blk_drewN ?_ _ | refine blk_drew ?_ | refine blk_alloc ?_ _)); exact BK221.out⟩, ⟨by repeat (first | (with_reducible first | exact HB.out | apply below_alloc | apply pw_below_drewN | apply below_drew1 | refine below_set ?_ GE221.out) | exact HB.out)⟩⟩
             case round =>
              clear H'
              try clear c1
              try clear c2
              try clear c2b0
              try clear p2
              try clear q2
              try clear hx2
              try clear c3
              try clear c3b0
              try clear c4
              try clear c5
              try clear p6
              try clear c7
              try clear c7b0
              try clear c9
              try clear c9b0
              try clear c10
              try clear c10b0
              try clear c10b1
              try clear c12
              try clear c12b0
              try clear c12b1
              try clear c13
              try clear c13b0
              try clear c13b1
              try clear c14
              try clear c14b0
              try clear c15
              try clear c15b0
              try clear c15b1
              try clear c15b2
              try clear c17
              try clear c17b0
              try clear c19
              try clear c19b0
              try clear c21
              try clear c21b0
              try clear c21b1
              try clear c22
              try clear p22
              try clear q22
              try clear hx22
              try clear c24
              try clear c24b0
              try clear c26
              try clear c26b0
              try clear c28
              try clear c28b0
              try clear c28b1
              try clear c32
              try clear c32b0
              try clear c33
              try clear c33b0
              try clear c33b1
              try clear c33b2
              try clear c35
              try clear c35b0
              try clear c37
              try clear c37b0
              try clear c39
              try clear c39b0
              try clear c39b1
              try clear c42
              try clear c42b0
              try clear c44
              try clear c44b0
              try clear c46
              try clear c46b0
              try clear c46b1
              try clear c49
              try clear c50
              try clear c50b0
              try clear c51
              try clear c51b0
              try clear c52
              try clear c52b0
              try clear c53
              try clear c53b0
              try clear c53b1
              try clear hcz16_0
              try clear hcz16_1
              try clear hcz16_2
              try clear hcz16_3
              try clear hcz18_0
              try clear hcz18_1
              try clear hcz18_2
              try clear hcz18_3
              try clear hcz20_0
              try clear hcz20_1
              try clear hcz20_2
              try clear hcz20_3
              try clear hcz22_0
              try clear hcz22_1
              try clear hcz22_2
              try clear hcz22_3
              try clear hcz23_0
              try clear hcz23_1
              try clear hcz23_2
              try clear hcz23_3
              try clear hcz25_0
              try clear hcz25_1
              try clear hcz25_2
              try clear hcz25_3
              try clear hcz27_0
              try clear hcz27_1
              try clear hcz27_2
              try clear hcz27_3
              try clear hcz29_0
              try clear hcz29_1
              try clear hcz29_2
              try clear hcz29_3
              try clear hcz30_0
              try clear hcz30_1
              try clear hcz30_2
              try clear hcz30_3
              try clear hcz31_0
              try clear hcz31_1
              try clear hcz31_2
              try clear hcz31_3
              try clear hcz34_0
              try clear hcz34_1
              try clear hcz34_2
              try clear hcz34_3
              try clear hcz36_0
              try clear hcz36_1
              try clear hcz36_2
              try clear hcz36_3
              try clear hcz38_0
              try clear hcz38_1
              try clear hcz38_2
              try clear hcz38_3
              try clear hcz40_0
              try clear hcz40_1
              try clear hcz40_2
              try clear hcz40_3
              try clear hcz41_0
              try clear hcz41_1
              try clear hcz41_2
              try clear hcz41_3
              try clear hcz43_0
              try clear hcz43_1
              try clear hcz43_2
              try clear hcz43_3
              try clear hcz45_0
              try clear hcz45_1
              try clear hcz45_2
              try clear hcz45_3
              try clear hcz47_0
              try clear hcz47_1
              try clear hcz47_2
              try clear hcz47_3
              try clear hcz48_0
              try clear hcz48_1
              try clear hcz48_2
              try clear hcz48_3
              try clear hcz54_0
              try clear hcz54_1
              try clear hcz54_2
              try clear hcz54_3
              try clear hcz55_0
              try clear hcz55_1
              try clear hcz55_2
              try clear hcz55_3
              try clear hcz6_0
              try clear hcz6_1
              try clear hcz6_2
              try clear hcz6_3
              try clear hfz16_0
              try clear hfz16_1
              try clear hfz16_2
              try clear hfz16_3
              try clear hfz18_0
              try clear hfz18_1
              try clear hfz18_2
              try clear hfz18_3
              try clear hfz20_0
              try clear hfz20_1
              try clear hfz20_2
              try clear hfz20_3
              try clear hfz22_0
              try clear hfz22_1
              try clear hfz22_2
              try clear hfz22_3
              try clear hfz23_0
              try clear hfz23_1
              try clear hfz23_2
              try clear hfz23_3
              try clear hfz25_0
              try clear hfz25_1
              try clear hfz25_2
              try clear hfz25_3
              try clear hfz27_0
              try clear hfz27_1
              try clear hfz27_2
              try clear hfz27_3
              try clear hfz29_0
              try clear hfz29_1
              try clear hfz29_2
              try clear hfz29_3
              try clear hfz30_0
              try clear hfz30_1
              try clear hfz30_2
              try clear hfz30_3
              try clear hfz31_0
              try clear hfz31_1
              try clear hfz31_2
              try clear hfz31_3
              try clear hfz34_0
              try clear hfz34_1
              try clear hfz34_2
              try clear hfz34_3
              try clear hfz36_0
              try clear hfz36_1
              try clear hfz36_2
              try clear hfz36_3
              try clear hfz38_0
              try clear hfz38_1
              try clear hfz38_2
              try clear hfz38_3
              try clear hfz40_0
              try clear hfz40_1
              try clear hfz40_2
              try clear hfz40_3
              try clear hfz41_0
              try clear hfz41_1
              try clear hfz41_2
              try clear hfz41_3
              try clear hfz43_0
              try clear hfz43_1
              try clear hfz43_2
              try clear hfz43_3
              try clear hfz45_0
              try clear hfz45_1
              try clear hfz45_2
              try clear hfz45_3
              try clear hfz47_0
              try clear hfz47_1
              try clear hfz47_2
              try clear hfz47_3
              try clear hfz48_0
              try clear hfz48_1
              try clear hfz48_2
              try clear hfz48_3
              try clear hfz54_0
              try clear hfz54_1
              try clear hfz54_2
              try clear hfz54_3
              try clear hfz55_0
              try clear hfz55_1
              try clear hfz55_2
              try clear hfz55_3
              try clear hfz6_0
              try clear hfz6_1
              try clear hfz6_2
              try clear hfz6_3
              try clear hx220_0
              try clear hx220_1
              try clear hx220_2
              try clear hx220_3
              try clear hx222_0
              try clear hx222_1
              try clear hx222_2
              try clear hx222_3
              try clear hx223_0
              try clear hx223_1
              try clear hx223_2
              try clear hx223_3
              try clear p2
              try clear p22
              try clear p220
              try clear p222
              try clear p223
              try clear p6
              try clear q2
              try clear q22
              try clear q220
              try clear q222
              try clear q223
              obtain ⟨x3_5, x8_5, rfl, rfl, HA, HK5, BK221, HB⟩ := hrel
              cases gk with
              | zero => exact absurd HA.out (by simp [cobwebref10_Right.l2])
              | succ k5 =>
               have H := HA.out
               clear HA
               simp only [cobwebref10_Right.l2] at H
               by_cases c56 : x8_5 < (((rd_T39 l0 x4_1).f1).length : Int)
               ·rw [if_pos c56] at H
                have c56b0 : decide (x8_5 < (((rd_T39 l0 x4_1).f1).length : Int)) = true := decide_eq_true c56
                clear c56
                by_cases c57 : 0 ≤ x8_5
                ·rw [if_pos c57] at H
                 have c57b0 : decide (0 ≤ x8_5) = true := decide_eq_true c57
                 clear c57
                 by_cases c58 : (rd ((rd_T39 l0 x4_1).f1) x8_5) ≤ x3_5
                 ·rw [if_pos c58] at H
                  have c58b0 : decide ((rd ((rd_T39 l0 x4_1).f1) x8_5) ≤ x3_5) = true := decide_eq_true c58
                  clear c58
                  obtain rfl := Option.some.inj H
                  have hcz59_0 : wr.cell? ⟨gb221, 0, none⟩ = some (.int .i64 ((rd_T39 l0 x4_1).f0)) := (blk_cell BK221.out 0).trans rfl
                  have hcz59_1 : wr.cell? ⟨gb221, 1, none⟩ = some (.slice A220_1 ((rd_T39 l0 x4_1).f1).length c220_1) := (blk_cell BK221.out 1).trans rfl
                  have hcz59_2 : wr.cell? ⟨gb221, 2, none⟩ = some (.int .i64 ((rd_T39 l0 x4_1).f2)) := (blk_cell BK221.out 2).trans rfl
                  have hcz59_3 : wr.cell? ⟨gb221, 3, none⟩ = some (.bool ((rd_T39 l0 x4_1).f3)) := (blk_cell BK221.out 3).trans rfl
                  have hfz59_0 := blk_frozen BK221.out 0
                  have hfz59_1 := blk_frozen BK221.out 1
                  have hfz59_2 := blk_frozen BK221.out 2
                  have hfz59_3 := blk_frozen BK221.out 3
                  have p224 : 0 ≤ (x8_5 : Int) := of_decide_eq_true (by first | (with_reducible assumption) | assumption)
                  have q224 : x8_5 < (((rd_T39 l0 x4_1).f1).length : Int) := of_decide_eq_true (by first | (with_reducible assumption) | assumption)
                  obtain ⟨ad224, e224, hx224_0⟩ := Kd.at_int HR220_1.out x8_5 p224 q224
                  cases e224
                  replace hx224_0 := (HB.out.cell (World.block_lt_of_cell? w _ hx224_0)).trans hx224_0
                  replace p224 := eq_true p224
                  replace q224 := eq_true q224
                  go_wp2
                  repeat (go_quiet (fail); try go_wp2)
                  go_ret
                  exact ⟨by first | rfl | (simp [errW_none, errW_some] <;> rfl) | (simp [*, errW_none, errW_some] <;> rfl), by repeat (first | (with_reducible first | exact HB.out | apply below_alloc | apply pw_below_drewN | apply below_drew1 | refine below_set ?_ GE221.out) | exact HB.out)⟩
                 ·rw [if_neg c58] at H
                  have c58b0 : decide ((rd ((rd_T39 l0 x4_1).f1) x8_5) ≤ x3_5) = false := decide_eq_false c58
                  clear c58
                  have H' := Aside0.mk H
                  clear H
                  have hcz60_0 : wr.cell? ⟨gb221, 0, none⟩ = some (.int .i64 ((rd_T39 l0 x4_1).f0)) := (blk_cell BK221.out 0).trans rfl
                  have hcz60_1 : wr.cell? ⟨gb221, 1, none⟩ = some (.slice A220_1 ((rd_T39 l0 x4_1).f1).length c220_1) := (blk_cell BK221.out 1).trans rfl
                  have hcz60_2 : wr.cell? ⟨gb221, 2, none⟩ = some (.int .i64 ((rd_T39 l0 x4_1).f2)) := (blk_cell BK221.out 2).trans rfl
                  have hcz60_3 : wr.cell? ⟨gb221, 3, none⟩ = some (.bool ((rd_T39 l0 x4_1).f3)) := (blk_cell BK221.out 3).trans rfl
                  have hfz60_0 := blk_frozen BK221.out 0
                  have hfz60_1 := blk_frozen BK221.out 1
                  have hfz60_2 := blk_frozen BK221.out 2
                  have hfz60_3 := blk_frozen BK221.out 3
                  have p224 : 0 ≤ (x8_5 : Int) := of_decide_eq_true (by first | (with_reducible assumption) | assumption)
                  have q224 : x8_5 < (((rd_T39 l0 x4_1).f1).length : Int) := of_decide_eq_true (by first | (with_reducible assumption) | assumption)
                  obtain ⟨ad224, e224, hx224_0⟩ := Kd.at_int HR220_1.out x8_5 p224 q224
                  cases e224
                  replace hx224_0 := (HB.out.cell (World.block_lt_of_cell? w _ hx224_0)).trans hx224_0
                  replace p224 := eq_true p224
                  replace q224 := eq_true q224
                  have p225 : 0 ≤ (x8_5 : Int) := of_decide_eq_true (by first | (with_reducible assumption) | assumption)
                  have q225 : x8_5 < (((rd_T39 l0 x4_1).f1).length : Int) := of_decide_eq_true (by first | (with_reducible assumption) | assumption)
                  obtain ⟨ad225, e225, hx225_0⟩ := Kd.at_int HR220_1.out x8_5 p225 q225
                  obtain rfl : ad224 = ad225 := (by injection e225)
                  replace hx225_0 := (HB.out.cell (World.block_lt_of_cell? w _ hx225_0)).trans hx225_0
                  replace p225 := eq_true p225
                  replace q225 := eq_true q225
                  go_wp2
                  repeat (go_quiet (fail); try go_wp2)
                  go_roundg k5
                  case measure => have := HK1.out; have := HJ3.out; have := HJ10.out; have := HK4.out; have := HK5.out; omega
                  case rel => exact ⟨(rd ((rd_T39 l0 x4_1).f1) x8_5), (wrap64 (x8_5 + 1)), (by first | rfl | (simp; done) | (simp [*]; done)), (by first | rfl | (simp; done) | (simp [*]; done)), H', ⟨by have := HK1.out; have := HJ3.out; have := HJ10.out; have := HK4.out; have := HK5.out; omega⟩, ⟨by (with_reducible repeat (first | refine blk_drewN ?_ _ | refine blk_drew ?_ | refine blk_alloc ?_ _)); exact BK221.out⟩, ⟨by repeat (first | (with_reducible first | exact HB.out | apply below_alloc | apply pw_below_drewN | apply below_drew1 | refine below_set ?_ GE221.out) | exact HB.out)⟩⟩
                ·rw [if_neg c57] at H
                 exact absurd H (by simp)
               ·rw [if_neg c56] at H
                have c56b0 : decide (x8_5 < (((rd_T39 l0 x4_1).f1).length : Int)) = false := decide_eq_false c56
                clear c56
                have H' := Aside0.mk H
                clear H
                have hcz61_0 : wr.cell? ⟨gb221, 0, none⟩ = some (.int .i64 ((rd_T39 l0 x4_1).f0)) := (blk_cell BK221.out 0).trans rfl
                have hcz61_1 : wr.cell? ⟨gb221, 1, none⟩ = some (.slice A220_1 ((rd_T39 l0 x4_1).f1).length c220_1) := (blk_cell BK221.out 1).trans rfl
                have hcz61_2 : wr.cell? ⟨gb221, 2, none⟩ = some (.int .i64 ((rd_T39 l0 x4_1).f2)) := (blk_cell BK221.out 2).trans rfl
                have hcz61_3 : wr.cell? ⟨gb221, 3, none⟩ = some (.bool ((rd_T39 l0 x4_1).f3)) := (blk_cell BK221.out 3).trans rfl
                have hfz61_0 := blk_frozen BK221.out 0
                have hfz61_1 := blk_frozen BK221.out 1
                have hfz61_2 := blk_frozen BK221.out 2
                have hfz61_3 := blk_frozen BK221.out 3
                go_wp2
                repeat (go_quiet (fail); try go_wp2)
                go_roundg k5
                case measure => have := HK1.out; have := HJ3.out; have := HJ10.out; have := HK4.out; have := HK5.out; omega
                case rel => exact ⟨(x3_5), (wrap64 (x4_1 + 1)), (by first | rfl | (simp; done) | (simp [*]; done)), (by first | rfl | (simp; done) | (simp [*]; done)), H', ⟨by have := HK1.out; have := HJ3.out; have := HJ10.out; have := HK4.out; have := HK5.out; omega⟩, ⟨by repeat (first | (with_reducible first | exact HB.out | apply below_alloc | apply pw_below_drewN | apply below_drew1 | refine below_set ?_ GE221.out) | exact HB.out)⟩⟩
    ·rw [if_neg c3] at H
     exact absurd H (by simp)
   ·rw [if_neg c2] at H
    have c2b0 : decide (x4_1 < (l0.length : Int)) = false := decide_eq_false c2
    clear c2
    obtain rfl := Option.some.inj H
    go_wp2
    repeat (go_quiet (fail); try go_wp2)
    go_ret
    exact ⟨by first | rfl | (simp [errW_none, errW_some] <;> rfl) | (simp [*, errW_none, errW_some] <;> rfl), by repeat (first | (with_reducible first | exact HB.out | apply below_alloc | apply pw_below_drewN | apply below_drew1) | exact HB.out)⟩
end Go.Proofs.Ytfbegchhgigjeaa.PC
end
section
namespace Go.Proofs.Ytfbegchhgigjeaa.PC
open Go.RowKit Go.Proofs.YtfbegchhgigjeaaW.PrintWords Go.Proofs.YtfbegchhgigjeaaW.PrintLast Go.Proofs.YtfbegchhgigjeaaW.PrintMore
attribute [local go_sem] max2_int min2_int max_two min_two max_three min_three max_four min_four   -- for this text's walks alone
set_option linter.unusedVariables false
set_option linter.unusedSimpArgs false
mutual
def cobwebref10_IDs.l0 : Nat → List (S39) → List Int → Int → Option (List Int)
 | 0, _, _, _ => none
 | k + 1, x0, x3, x4 => if x4 < (x0.length : Int) then (cobwebref10_IDs.l1 k x0 x3 x4 0) else (some x3)
def cobwebref10_IDs.l1 : Nat → List (S39) → List Int → Int → Int → Option (List Int)
 | 0, _, _, _, _ => none
 | k + 1, x0, x3, x4, x5 => if 0 ≤ x4 then (if x4 < (x0.length : Int) then (if x5 < (((rd_T39 x0 x4).f1).length : Int) then (if 0 ≤ x5 then (if x3.length < 17592186044416 then (cobwebref10_IDs.l1 k x0 (x3 ++ [rd ((rd_T39 x0 x4).f1) x5]) x4 (wrap64 (x5 + 1))) else (none)) else (none)) else (cobwebref10_IDs.l0 k x0 x3 (wrap64 (x4 + 1)))) else (none)) else (none)
end
def cobwebref10_IDs.f (k : Nat) (l0 : List (S39)) : Option (List Int) := cobwebref10_IDs.l0 k l0 ([] : List Int) 0
theorem cobwebref10_IDs.mono_l : ∀ k, (∀ y0 y1 y2, LeO (cobwebref10_IDs.l0 k y0 y1 y2) (cobwebref10_IDs.l0 (k + 1) y0 y1 y2)) ∧ (∀ y0 y1 y2 y3, LeO (cobwebref10_IDs.l1 k y0 y1 y2 y3) (cobwebref10_IDs.l1 (k + 1) y0 y1 y2 y3))
 | 0 => ⟨fun _ _ _ r h => by simp [cobwebref10_IDs.l0] at h, fun _ _ _ _ r h => by simp [cobwebref10_IDs.l1] at h⟩
 | k + 1 => by
  obtain ⟨ih0, ih1⟩ := cobwebref10_IDs.mono_l k
  refine ⟨?_, ?_⟩
  ·intro y0 y1 y2
   unfold cobwebref10_IDs.l0
   repeat' first
   | (with_reducible exact ih0 _ _ _)
   | (with_reducible exact ih1 _ _ _ _)
   | (with_reducible exact LeO.refl _)
   | (with_reducible exact LeO.none _)
   | (with_reducible refine LeO.ite ?_ ?_)
   | (with_reducible refine LeO.bind ?_ (fun _ => ?_))
   | exact ih0 _ _ _
   | exact ih1 _ _ _ _
   | exact LeO.none _
   | refine LeO.ite ?_ ?_
   | refine LeO.bind ?_ (fun _ => ?_)
  ·intro y0 y1 y2 y3
   unfold cobwebref10_IDs.l1
   repeat' first
   | (with_reducible exact ih0 _ _ _)
   | (with_reducible exact ih1 _ _ _ _)
   | (with_reducible exact LeO.refl _)
   | (with_reducible exact LeO.none _)
   | (with_reducible refine LeO.ite ?_ ?_)
   | (with_reducible refine LeO.bind ?_ (fun _ => ?_))
   | exact ih0 _ _ _
   | exact ih1 _ _ _ _
   | exact LeO.none _
   | refine LeO.ite ?_ ?_
   | refine LeO.bind ?_ (fun _ => ?_)
theorem cobwebref10_IDs.mono : ∀ a0 k, LeO (cobwebref10_IDs.f k a0) (cobwebref10_IDs.f (k + 1) a0) := by
 intro a0 k
 obtain ⟨ih0, ih1⟩ := cobwebref10_IDs.mono_l k
 unfold cobwebref10_IDs.f
 repeat' first
   | (with_reducible exact ih0 _ _ _)
   | (with_reducible exact ih1 _ _ _ _)
   | (with_reducible exact LeO.refl _)
   | (with_reducible exact LeO.none _)
   | (with_reducible refine LeO.ite ?_ ?_)
   | (with_reducible refine LeO.bind ?_ (fun _ => ?_))
   | exact ih0 _ _ _
   | exact ih1 _ _ _ _
   | exact LeO.none _
   | refine LeO.ite ?_ ?_
   | refine LeO.bind ?_ (fun _ => ?_)
set_option maxHeartbeats 8000000 in
set_option maxRecDepth 100000 in
theorem cobwebref10_IDs.calls (k : Nat) (A0 : Option Addr) (c0 : Nat) (l0 : List (S39)) (r : List Int) (w : World) (hr0 : Kd.C k39 w A0 l0.length l0) (hc0 : l0.length ≤ c0) (h : cobwebref10_IDs.f k l0 = some r) :
  Calls Try.prog 21 #[.slice A0 l0.length c0] w fun e w' => ∃ v0_ : Value, e = .returned (v0_) ∧ Kd.R (Kd.int .i64) 3 w' w.heap.size (fun _ => True) v0_ r ∧ Below w.heap.size w w' := by
 have HR0 := Aside0.mk hr0
 have HC0 := Aside0.mk hc0
 clear hr0 hc0
 have HB := Aside0.mk (Below.refl w.heap.size w)
 have H : (cobwebref10_IDs.l0 k l0 ([] : List Int) 0) = some r := h
 clear h
 have H' := Aside0.mk H
 clear H
 go_enter Try.func21, Try.ntmps21
 go_wp2
 go_loopg [3, 4] k (fun kq v3 v4 w' => ∃ (x3_1 : List Int) (x4_1 : Int), v4 = .int .i64 x4_1 ∧ Aside0 (cobwebref10_IDs.l0 kq l0 x3_1 x4_1 = some r) ∧ Aside0 (kq ≤ k) ∧ Aside0 (Kd.R (Kd.int .i64) 3 w' w.heap.size (fun _ => True) v3 x3_1) ∧ Aside0 (Below w.heap.size w w'))
 case atStart => exact ⟨(([] : List Int)), (0), (by first | rfl | (simp; done) | (simp [*]; done)), H', ⟨Nat.le_refl _⟩, ⟨by first | exact Kd.R_nil _ _ _ _ _ | exact Kd.N_nil _ _ _ _ _ | exact Kd.V_nil _ _ _ _ _ | exact Kd.Q_nil _ _ _ _ _ | exact Kd.S_nil _ _ _ _ _⟩, ⟨by repeat (first | (with_reducible first | exact HB.out | apply below_alloc | apply pw_below_drewN | apply below_drew1) | exact HB.out)⟩⟩
 case round =>
  clear H'
  obtain ⟨x3_1, x4_1, rfl, HA, HK1, HO_3, HB⟩ := hrel
  cases gk with
  | zero => exact absurd HA.out (by simp [cobwebref10_IDs.l0])
  | succ k1 =>
   have H := HA.out
   clear HA
   simp only [cobwebref10_IDs.l0] at H
   by_cases c2 : x4_1 < (l0.length : Int)
   ·rw [if_pos c2] at H
    have c2b0 : decide (x4_1 < (l0.length : Int)) = true := decide_eq_true c2
    clear c2
    have H' := Aside0.mk H
    clear H
    go_wp2
    go_loopg [3, 5] k1 (fun kq v3 v5 w' => ∃ (x3_2 : List Int) (x5_2 : Int), v5 = .int .i64 x5_2 ∧ Aside0 (cobwebref10_IDs.l1 kq l0 x3_2 x4_1 x5_2 = some r) ∧ Aside0 (kq ≤ k1) ∧ Aside0 (Kd.R (Kd.int .i64) 3 w' w.heap.size (fun _ => True) v3 x3_2) ∧ Aside0 (Below w.heap.size w w'))
    case atStart => exact ⟨(x3_1), (0), (by first | rfl | (simp; done) | (simp [*]; done)), H', ⟨Nat.le_refl _⟩, ⟨by (with_reducible repeat (first | apply Kd.R_alloc | apply Kd.R_drewN | apply Kd.R_drew)); exact HO_3.out⟩, ⟨by repeat (first | (with_reducible first | exact HB.out | apply below_alloc | apply pw_below_drewN | apply below_drew1) | exact HB.out)⟩⟩
    case round =>
     clear H'
     try clear c2
     try clear c2b0
     try clear p2
     obtain ⟨x3_2, x5_2, rfl, HA, HK2, HO_3, HB⟩ := hrel
     cases gk with
     | zero => exact absurd HA.out (by simp [cobwebref10_IDs.l1])
     | succ k2 =>
      have H := HA.out
      clear HA
      simp only [cobwebref10_IDs.l1] at H
      by_cases c3 : 0 ≤ x4_1
      ·rw [if_pos c3] at H
       have c3b0 : decide (0 ≤ x4_1) = true := decide_eq_true c3
       clear c3
       by_cases c4 : x4_1 < (l0.length : Int)
       ·rw [if_pos c4] at H
        have c4b0 : decide (x4_1 < (l0.length : Int)) = true := decide_eq_true c4
        clear c4
        by_cases c5 : x5_2 < (((rd_T39 l0 x4_1).f1).length : Int)
        ·rw [if_pos c5] at H
         have c5b0 : decide (x5_2 < (((rd_T39 l0 x4_1).f1).length : Int)) = true := decide_eq_true c5
         clear c5
         by_cases c6 : 0 ≤ x5_2
         ·rw [if_pos c6] at H
          have c6b0 : decide (0 ≤ x5_2) = true := decide_eq_true c6
          clear c6
          by_cases c7 : x3_2.length < 17592186044416
          ·rw [if_pos c7] at H
           have LMc7 := Aside0.mk c7
           clear c7
           obtain ⟨y229, hy229⟩ : ∃ y_ : List Int, y_ = (x3_2 ++ [rd ((rd_T39 l0 x4_1).f1) x5_2]) := ⟨_, rfl⟩
           replace H : (cobwebref10_IDs.l1 k2 l0 y229 x4_1 (wrap64 (x5_2 + 1))) = some r := by first | (rw [hy229]; with_reducible exact H) | (have H2_ := (Option.bind_some _ _).symm.trans H; rw [hy229]; with_reducible exact H2_) | (have H2_ := (Option.bind_some _ _).symm.trans H; with_reducible exact H2_) | with_reducible exact H | (rw [hy229]; exact H) | exact H
           have Ny229 := Aside0.mk hy229
           clear hy229
           have H' := Aside0.mk H
           clear H
           have p226 : 0 ≤ (x4_1 : Int) := of_decide_eq_true (by first | (with_reducible assumption) | assumption)
           have q226 : x4_1 < (l0.length : Int) := of_decide_eq_true (by first | (with_reducible assumption) | assumption)
           obtain ⟨ad226, A226_1, c226_1, e226, hx226_0, hx226_1, hx226_2, hx226_3, hl226_1, hi226_1⟩ := at_T39 HR0.out x4_1 p226 q226
           cases e226
           replace hx226_0 := (HB.out.cell (World.block_lt_of_cell? w _ hx226_0)).trans hx226_0
           replace hx226_1 := (HB.out.cell (World.block_lt_of_cell? w _ hx226_1)).trans hx226_1
           replace hx226_2 := (HB.out.cell (World.block_lt_of_cell? w _ hx226_2)).trans hx226_2
           replace hx226_3 := (HB.out.cell (World.block_lt_of_cell? w _ hx226_3)).trans hx226_3
           have HR226_1 := Aside0.mk hi226_1
           have HC226_1 := Aside0.mk hl226_1
           clear hi226_1 hl226_1
           replace p226 := eq_true p226
           replace q226 := eq_true q226
           have p227 : 0 ≤ (x4_1 : Int) := of_decide_eq_true (by first | (with_reducible assumption) | assumption)
           have q227 : x4_1 < (l0.length : Int) := of_decide_eq_true (by first | (with_reducible assumption) | assumption)
           obtain ⟨ad227, A227_1, c227_1, e227, hx227_0, hx227_1, hx227_2, hx227_3, hl227_1, hi227_1⟩ := at_T39 HR0.out x4_1 p227 q227
           obtain rfl : ad226 = ad227 := (by injection e227)
           replace hx227_0 := (HB.out.cell (World.block_lt_of_cell? w _ hx227_0)).trans hx227_0
           replace hx227_1 := (HB.out.cell (World.block_lt_of_cell? w _ hx227_1)).trans hx227_1
           replace hx227_2 := (HB.out.cell (World.block_lt_of_cell? w _ hx227_2)).trans hx227_2
           replace hx227_3 := (HB.out.cell (World.block_lt_of_cell? w _ hx227_3)).trans hx227_3
           have HR227_1 := Aside0.mk hi227_1
           have HC227_1 := Aside0.mk hl227_1
           clear hi227_1 hl227_1
           replace p227 := eq_true p227
           replace q227 := eq_true q227
           have ea_ := Option.some.inj (hx226_1.symm.trans hx227_1)
           injection ea_ with ea_ en_ ec_
           subst ea_
           subst ec_
           clear en_
           have p228 : 0 ≤ (x5_2 : Int) := of_decide_eq_true (by first | (with_reducible assumption) | assumption)
           have q228 : x5_2 < (((rd_T39 l0 x4_1).f1).length : Int) := of_decide_eq_true (by first | (with_reducible assumption) | assumption)
           obtain ⟨ad228, e228, hx228_0⟩ := Kd.at_int HR227_1.out x5_2 p228 q228
           cases e228
           replace hx228_0 := (HB.out.cell (World.block_lt_of_cell? w _ hx228_0)).trans hx228_0
           replace p228 := eq_true p228
           replace q228 := eq_true q228
           go_wp2_with (first | ((with_reducible refine gate_builtin (b := .append) (xs := #[.tmp 22, .tmp 31]) rfl ?_); at_builtin; refine Kd.R_append (Kd.int .i64) (w0 := w) w.heap.size rfl (.tmp 22) (.tmp 31) 22 3 (.int .i64 0) 8 rfl Try.underlying22 info3 rfl (by decide) (by omega) u3 x3_2 (rd ((rd_T39 l0 x4_1).f1) x5_2) [.int .i64 (rd ((rd_T39 l0 x4_1).f1) x5_2)] (fun _ => True) (fun _ => False) rfl rfl ?aP (fun _ hk => hk.elim) ?aF ?aO ?aB ?aS ?aL ?_; (case aP => exact rfl); (case aB => exact (by repeat (first | (with_reducible first | exact HB.out | apply below_alloc | apply pw_below_drewN | apply below_drew1) | exact HB.out))); (case aF => exact (fun _ _ => trivial)); (case aO => exact (by (with_reducible repeat (first | apply Kd.R_alloc | apply Kd.R_drewN | apply Kd.R_drew)); exact HO_3.out)); (case aS => exact (below_size (by repeat (first | (with_reducible first | exact HB.out | apply below_alloc | apply pw_below_drewN | apply below_drew1) | exact HB.out)))); (case aL => have := LMc7.out; omega); intro v230 w8 ho hb hg hat; rw [← Ny229.out] at ho; have n0_ := Aside0.mk (hb); have n1_ := Aside0.mk (ho); clear HB; clear HO_3; have HB := n0_; have HO231 := n1_; clear n0_ n1_; clear ho hb hg hat))
           go_roundg k2
           case measure => have := HK1.out; have := HK2.out; omega
           case rel => exact ⟨(y229), (wrap64 (x5_2 + 1)), (by first | rfl | (simp; done) | (simp [*]; done)), H', ⟨by have := HK1.out; have := HK2.out; omega⟩, ⟨by (with_reducible repeat (first | apply Kd.R_alloc | apply Kd.R_drewN | apply Kd.R_drew)); exact HO231.out⟩, ⟨by repeat (first | (with_reducible first | exact HB.out | apply below_alloc | apply pw_below_drewN | apply below_drew1) | exact HB.out)⟩⟩
          ·rw [if_neg c7] at H
           exact absurd H (by simp)
         ·rw [if_neg c6] at H
          exact absurd H (by simp)
        ·rw [if_neg c5] at H
         have c5b0 : decide (x5_2 < (((rd_T39 l0 x4_1).f1).length : Int)) = false := decide_eq_false c5
         clear c5
         have H' := Aside0.mk H
         clear H
         have p226 : 0 ≤ (x4_1 : Int) := of_decide_eq_true (by first | (with_reducible assumption) | assumption)
         have q226 : x4_1 < (l0.length : Int) := of_decide_eq_true (by first | (with_reducible assumption) | assumption)
         obtain ⟨ad226, A226_1, c226_1, e226, hx226_0, hx226_1, hx226_2, hx226_3, hl226_1, hi226_1⟩ := at_T39 HR0.out x4_1 p226 q226
         cases e226
         replace hx226_0 := (HB.out.cell (World.block_lt_of_cell? w _ hx226_0)).trans hx226_0
         replace hx226_1 := (HB.out.cell (World.block_lt_of_cell? w _ hx226_1)).trans hx226_1
         replace hx226_2 := (HB.out.cell (World.block_lt_of_cell? w _ hx226_2)).trans hx226_2
         replace hx226_3 := (HB.out.cell (World.block_lt_of_cell? w _ hx226_3)).trans hx226_3
         have HR226_1 := Aside0.mk hi226_1
         have HC226_1 := Aside0.mk hl226_1
         clear hi226_1 hl226_1
         replace p226 := eq_true p226
         replace q226 := eq_true q226
         go_wp2
         go_roundg k2
         case measure => have := HK1.out; have := HK2.out; omega
         case rel => exact ⟨(x3_2), (wrap64 (x4_1 + 1)), (by first | rfl | (simp; done) | (simp [*]; done)), H', ⟨by have := HK1.out; have := HK2.out; omega⟩, ⟨by (with_reducible repeat (first | apply Kd.R_alloc | apply Kd.R_drewN | apply Kd.R_drew)); exact HO_3.out⟩, ⟨by repeat (first | (with_reducible first | exact HB.out | apply below_alloc | apply pw_below_drewN | apply below_drew1) | exact HB.out)⟩⟩
       ·rw [if_neg c4] at H
        exact absurd H (by simp)
      ·rw [if_neg c3] at H
       exact absurd H (by simp)
   ·rw [if_neg c2] at H
    have c2b0 : decide (x4_1 < (l0.length : Int)) = false := decide_eq_false c2
    clear c2
    obtain rfl := Option.some.inj H
    go_wp2
    go_ret
    exact ⟨_, by first | rfl | (simp [errW_none, errW_some] <;> rfl) | (simp [*, errW_none, errW_some] <;> rfl), by (with_reducible repeat (first | apply Kd.R_alloc | apply Kd.R_drewN | apply Kd.R_drew)); exact HO_3.out, by repeat (first | (with_reducible first | exact HB.out | apply below_alloc | apply pw_below_drewN | apply below_drew1) | exact HB.out)⟩
end Go.Proofs.Ytfbegchhgigjeaa.PC
end
section
namespace Go.Proofs.Ytfbegchhgigjeaa.PC
open Go.RowKit Go.Proofs.YtfbegchhgigjeaaW.PrintWords Go.Proofs.YtfbegchhgigjeaaW.PrintLast Go.Proofs.YtfbegchhgigjeaaW.PrintMore
attribute [local go_sem] max2_int min2_int max_two min_two max_three min_three max_four min_four   -- for this text's walks alone
set_option linter.unusedVariables false
set_option linter.unusedSimpArgs false
def cobwebref10_Has.l0 : Nat → List Int → Int → Int → Option (Bool)
 | 0, _, _, _ => none
 | k + 1, x0, x1, x5 => if x5 < (x0.length : Int) then (if 0 ≤ x5 then (if (rd x0 x5) = x1 then (some true) else (cobwebref10_Has.l0 k x0 x1 (wrap64 (x5 + 1)))) else (none)) else (some false)
def cobwebref10_Has.f (k : Nat) (l0 : List Int) (a1 : Int) : Option (Bool) := cobwebref10_Has.l0 k l0 a1 0
theorem cobwebref10_Has.mono_l : ∀ k, (∀ y0 y1 y2, LeO (cobwebref10_Has.l0 k y0 y1 y2) (cobwebref10_Has.l0 (k + 1) y0 y1 y2))
 | 0 => fun _ _ _ r h => by simp [cobwebref10_Has.l0] at h
 | k + 1 => by
  have ih0 := cobwebref10_Has.mono_l k
  ·intro y0 y1 y2
   unfold cobwebref10_Has.l0
   repeat' first
   | (with_reducible exact ih0 _ _ _)
   | (with_reducible exact LeO.refl _)
   | (with_reducible exact LeO.none _)
   | (with_reducible refine LeO.ite ?_ ?_)
   | (with_reducible refine LeO.bind ?_ (fun _ => ?_))
   | exact ih0 _ _ _
   | exact LeO.none _
   | refine LeO.ite ?_ ?_
   | refine LeO.bind ?_ (fun _ => ?_)
theorem cobwebref10_Has.mono : ∀ a0 a1 k, LeO (cobwebref10_Has.f k a0 a1) (cobwebref10_Has.f (k + 1) a0 a1) := by
 intro a0 a1 k
 have ih0 := cobwebref10_Has.mono_l k
 unfold cobwebref10_Has.f
 repeat' first
   | (with_reducible exact ih0 _ _ _)
   | (with_reducible exact LeO.refl _)
   | (with_reducible exact LeO.none _)
   | (with_reducible refine LeO.ite ?_ ?_)
   | (with_reducible refine LeO.bind ?_ (fun _ => ?_))
   | exact ih0 _ _ _
   | exact LeO.none _
   | refine LeO.ite ?_ ?_
   | refine LeO.bind ?_ (fun _ => ?_)
set_option maxHeartbeats 8000000 in
set_option maxRecDepth 100000 in
theorem cobwebref10_Has.calls (k : Nat) (A0 : Option Addr) (c0 : Nat) (l0 : List Int) (a1 : Int) (r : Bool) (w : World) (hr0 : Kd.C (Kd.int .i64) w A0 l0.length l0) (hc0 : l0.length ≤ c0) (h : cobwebref10_Has.f k l0 a1 = some r) :
  Calls Try.prog 26 #[.slice A0 l0.length c0, .int .i64 a1] w fun e w' => e = .returned (.bool r) ∧ Drawn0 w w' := by
 have HR0 := Aside0.mk hr0
 have HC0 := Aside0.mk hc0
 clear hr0 hc0
 have H : (cobwebref10_Has.l0 k l0 a1 0) = some r := h
 clear h
 have H' := Aside0.mk H
 clear H
 go_enter Try.func26, Try.ntmps26
 go_wp2
 go_loopg [5] k (fun kq v5 w' => ∃ (x5_1 : Int), v5 = .int .i64 x5_1 ∧ Aside0 (cobwebref10_Has.l0 kq l0 a1 x5_1 = some r) ∧ Aside0 (kq ≤ k) ∧ Drawn0 w w')
 case atStart => exact ⟨(0), (by first | rfl | (simp; done) | (simp [*]; done)), H', ⟨Nat.le_refl _⟩, by repeat (first | exact Drawn0.refl _ | apply Drawn0.step)⟩
 case round =>
  clear H'
  try clear c2
  try clear p2
  obtain ⟨x5_1, rfl, HA, HK1, ⟨m1, rfl⟩⟩ := hrel
  cases gk with
  | zero => exact absurd HA.out (by simp [cobwebref10_Has.l0])
  | succ k1 =>
   have H := HA.out
   clear HA
   simp only [cobwebref10_Has.l0] at H
   by_cases c3 : x5_1 < (l0.length : Int)
   ·rw [if_pos c3] at H
    have c3b0 : decide (x5_1 < (l0.length : Int)) = true := decide_eq_true c3
    clear c3
    by_cases c4 : 0 ≤ x5_1
    ·rw [if_pos c4] at H
     have c4b0 : decide (0 ≤ x5_1) = true := decide_eq_true c4
     clear c4
     by_cases c5 : (rd l0 x5_1) = a1
     ·rw [if_pos c5] at H
      have c5b0 : ((rd l0 x5_1) == a1) = true := beq_iff_eq.mpr c5
      have c5b1 : ((rd l0 x5_1) != a1) = false := bne_eq_false_iff_eq.mpr c5
      clear c5
      obtain rfl := Option.some.inj H
      have p232 : 0 ≤ (x5_1 : Int) := of_decide_eq_true (by first | (with_reducible assumption) | assumption)
      have q232 : x5_1 < (l0.length : Int) := of_decide_eq_true (by first | (with_reducible assumption) | assumption)
      obtain ⟨ad232, e232, hx232_0⟩ := Kd.at_int HR0.out x5_1 p232 q232
      cases e232
      replace p232 := eq_true p232
      replace q232 := eq_true q232
      go_wp2
      go_ret
      exact ⟨by first | rfl | (simp; done) | (simp [*]; done), by repeat (first | exact Drawn0.refl _ | apply Drawn0.step)⟩
     ·rw [if_neg c5] at H
      have c5b0 : ((rd l0 x5_1) == a1) = false := beq_eq_false_iff_ne.mpr c5
      have c5b1 : ((rd l0 x5_1) != a1) = true := bne_iff_ne.mpr c5
      have H' := Aside0.mk H
      clear H
      have p232 : 0 ≤ (x5_1 : Int) := of_decide_eq_true (by first | (with_reducible assumption) | assumption)
      have q232 : x5_1 < (l0.length : Int) := of_decide_eq_true (by first | (with_reducible assumption) | assumption)
      obtain ⟨ad232, e232, hx232_0⟩ := Kd.at_int HR0.out x5_1 p232 q232
      cases e232
      replace p232 := eq_true p232
      replace q232 := eq_true q232
      go_wp2
      go_roundg k1
      case measure => have := HK1.out; omega
      case rel => exact ⟨(wrap64 (x5_1 + 1)), (by first | rfl | (simp; done) | (simp [*]; done)), H', ⟨by have := HK1.out; omega⟩, by repeat (first | exact Drawn0.refl _ | apply Drawn0.step)⟩
    ·rw [if_neg c4] at H
     exact absurd H (by simp)
   ·rw [if_neg c3] at H
    have c3b0 : decide (x5_1 < (l0.length : Int)) = false := decide_eq_false c3
    clear c3
    obtain rfl := Option.some.inj H
    go_wp2
    go_ret
    exact ⟨by first | rfl | (simp; done) | (simp [*]; done), by repeat (first | exact Drawn0.refl _ | apply Drawn0.step)⟩
end Go.Proofs.Ytfbegchhgigjeaa.PC
end
section
namespace Go.Proofs.Ytfbegchhgigjeaa.PC
open Go.RowKit Go.Proofs.YtfbegchhgigjeaaW.PrintWords Go.Proofs.YtfbegchhgigjeaaW.PrintLast Go.Proofs.YtfbegchhgigjeaaW.PrintMore
attribute [local go_sem] max2_int min2_int max_two min_two max_three min_three max_four min_four   -- for this text's walks alone
set_option linter.unusedVariables false
set_option linter.unusedSimpArgs false
def cobwebref10_put.l0 : Nat → List Int → Int → List Int → Bool → Int → Option (List Int)
 | 0, _, _, _, _, _ => none
 | k + 1, x0, x1, x5, x6, x7 => if x7 < (x0.length : Int) then (if 0 ≤ x7 then (if (rd x0 x7) > x1 then (if x6 = true then (if x5.length < 17592186044416 then (cobwebref10_put.l0 k x0 x1 (x5 ++ [rd x0 x7]) x6 (wrap64 (x7 + 1))) else (none)) else (if x5.length < 17592186044416 then ((some (x5 ++ [x1] : List Int)).bind fun y238 => (if y238.length < 17592186044416 then (cobwebref10_put.l0 k x0 x1 (y238 ++ [rd x0 x7]) true (wrap64 (x7 + 1))) else (none))) else (none))) else (if x5.length < 17592186044416 then (cobwebref10_put.l0 k x0 x1 (x5 ++ [rd x0 x7]) x6 (wrap64 (x7 + 1))) else (none))) else (none)) else (if x6 = true then (some x5) else (if x5.length < 17592186044416 then (some (x5 ++ [x1])) else (none)))
def cobwebref10_put.f (k : Nat) (l0 : List Int) (a1 : Int) : Option (List Int) := cobwebref10_put.l0 k l0 a1 ([] : List Int) false 0
theorem cobwebref10_put.mono_l : ∀ k, (∀ y0 y1 y2 y3 y4, LeO (cobwebref10_put.l0 k y0 y1 y2 y3 y4) (cobwebref10_put.l0 (k + 1) y0 y1 y2 y3 y4))
 | 0 => fun _ _ _ _ _ r h => by simp [cobwebref10_put.l0] at h
 | k + 1 => by
  have ih0 := cobwebref10_put.mono_l k
  ·intro y0 y1 y2 y3 y4
   unfold cobwebref10_put.l0
   repeat' first
   | (with_reducible exact ih0 _ _ _ _ _)
   | (with_reducible exact LeO.refl _)
   | (with_reducible exact LeO.none _)
   | (with_reducible refine LeO.ite ?_ ?_)
   | (with_reducible refine LeO.bind ?_ (fun _ => ?_))
   | exact ih0 _ _ _ _ _
   | exact LeO.none _
   | refine LeO.ite ?_ ?_
   | refine LeO.bind ?_ (fun _ => ?_)
theorem cobwebref10_put.mono : ∀ a0 a1 k, LeO (cobwebref10_put.f k a0 a1) (cobwebref10_put.f (k + 1) a0 a1) := by
 intro a0 a1 k
 have ih0 := cobwebref10_put.mono_l k
 unfold cobwebref10_put.f
 repeat' first
   | (with_reducible exact ih0 _ _ _ _ _)
   | (with_reducible exact LeO.refl _)
   | (with_reducible exact LeO.none _)
   | (with_reducible refine LeO.ite ?_ ?_)
   | (with_reducible refine LeO.bind ?_ (fun _ => ?_))
   | exact ih0 _ _ _ _ _
   | exact LeO.none _
   | refine LeO.ite ?_ ?_
   | refine LeO.bind ?_ (fun _ => ?_)
set_option maxHeartbeats 8000000 in
set_option maxRecDepth 100000 in
theorem cobwebref10_put.calls (k : Nat) (A0 : Option Addr) (c0 : Nat) (l0 : List Int) (a1 : Int) (r : List Int) (w : World) (hr0 : Kd.C (Kd.int .i64) w A0 l0.length l0) (hc0 : l0.length ≤ c0) (h : cobwebref10_put.f k l0 a1 = some r) :
  Calls Try.prog 37 #[.slice A0 l0.length c0, .int .i64 a1] w fun e w' => ∃ v0_ : Value, e = .returned (v0_) ∧ Kd.R (Kd.int .i64) 3 w' w.heap.size (fun _ => True) v0_ r ∧ Below w.heap.size w w' := by
 have HR0 := Aside0.mk hr0
 have HC0 := Aside0.mk hc0
 clear hr0 hc0
 have HB := Aside0.mk (Below.refl w.heap.size w)
 have H : (cobwebref10_put.l0 k l0 a1 ([] : List Int) false 0) = some r := h
 clear h
 have H' := Aside0.mk H
 clear H
 go_enter Try.func37, Try.ntmps37
 go_wp2
 go_loopg [5, 6, 7] k (fun kq v5 v6 v7 w' => ∃ (x5_1 : List Int) (x6_1 : Bool) (x7_1 : Int), v6 = .bool x6_1 ∧ v7 = .int .i64 x7_1 ∧ Aside0 (cobwebref10_put.l0 kq l0 a1 x5_1 x6_1 x7_1 = some r) ∧ Aside0 (kq ≤ k) ∧ Aside0 (Kd.R (Kd.int .i64) 3 w' w.heap.size (fun _ => True) v5 x5_1) ∧ Aside0 (Below w.heap.size w w'))
 case atStart => exact ⟨(([] : List Int)), (false), (0), (by first | rfl | (simp; done) | (simp [*]; done)), (by first | rfl | (simp; done) | (simp [*]; done)), H', ⟨Nat.le_refl _⟩, ⟨by first | exact Kd.R_nil _ _ _ _ _ | exact Kd.N_nil _ _ _ _ _ | exact Kd.V_nil _ _ _ _ _ | exact Kd.Q_nil _ _ _ _ _ | exact Kd.S_nil _ _ _ _ _⟩, ⟨by repeat (first | (with_reducible first | exact HB.out | apply below_alloc | apply pw_below_drewN | apply below_drew1) | exact HB.out)⟩⟩
 case round =>
  clear H'
  try clear p2
  obtain ⟨x5_1, x6_1, x7_1, rfl, rfl, HA, HK1, HO_5, HB⟩ := hrel
  cases gk with
  | zero => exact absurd HA.out (by simp [cobwebref10_put.l0])
  | succ k1 =>
   have H := HA.out
   clear HA
   simp only [cobwebref10_put.l0] at H
   by_cases c3 : x7_1 < (l0.length : Int)
   ·rw [if_pos c3] at H
    have c3b0 : decide (x7_1 < (l0.length : Int)) = true := decide_eq_true c3
    clear c3
    by_cases c4 : 0 ≤ x7_1
    ·rw [if_pos c4] at H
     have c4b0 : decide (0 ≤ x7_1) = true := decide_eq_true c4
     clear c4
     by_cases c5 : (rd l0 x7_1) > a1
     ·rw [if_pos c5] at H
      have c5b0 : decide (a1 < (rd l0 x7_1)) = true := decide_eq_true c5
      clear c5
      by_cases c6 : x6_1 = true
      ·subst c6
       have H1 : (if x5_1.length < 17592186044416 then (cobwebref10_put.l0 k1 l0 a1 (x5_1 ++ [rd l0 x7_1]) true (wrap64 (x7_1 + 1))) else (none)) = some r := by rw [if_pos rfl] at H; exact H
       clear H
       have H := H1
       clear H1
       by_cases c7 : x5_1.length < 17592186044416
       ·rw [if_pos c7] at H
        have LMc7 := Aside0.mk c7
        clear c7
        obtain ⟨y235, hy235⟩ : ∃ y_ : List Int, y_ = (x5_1 ++ [rd l0 x7_1]) := ⟨_, rfl⟩
        replace H : (cobwebref10_put.l0 k1 l0 a1 y235 true (wrap64 (x7_1 + 1))) = some r := by first | (rw [hy235]; with_reducible exact H) | (have H2_ := (Option.bind_some _ _).symm.trans H; rw [hy235]; with_reducible exact H2_) | (have H2_ := (Option.bind_some _ _).symm.trans H; with_reducible exact H2_) | with_reducible exact H | (rw [hy235]; exact H) | exact H
        have Ny235 := Aside0.mk hy235
        clear hy235
        have H' := Aside0.mk H
        clear H
        have p233 : 0 ≤ (x7_1 : Int) := of_decide_eq_true (by first | (with_reducible assumption) | assumption)
        have q233 : x7_1 < (l0.length : Int) := of_decide_eq_true (by first | (with_reducible assumption) | assumption)
        obtain ⟨ad233, e233, hx233_0⟩ := Kd.at_int HR0.out x7_1 p233 q233
        cases e233
        replace hx233_0 := (HB.out.cell (World.block_lt_of_cell? w _ hx233_0)).trans hx233_0
        replace p233 := eq_true p233
        replace q233 := eq_true q233
        have p234 : 0 ≤ (x7_1 : Int) := of_decide_eq_true (by first | (with_reducible assumption) | assumption)
        have q234 : x7_1 < (l0.length : Int) := of_decide_eq_true (by first | (with_reducible assumption) | assumption)
        obtain ⟨ad234, e234, hx234_0⟩ := Kd.at_int HR0.out x7_1 p234 q234
        obtain rfl : ad233 = ad234 := (by injection e234)
        replace hx234_0 := (HB.out.cell (World.block_lt_of_cell? w _ hx234_0)).trans hx234_0
        replace p234 := eq_true p234
        replace q234 := eq_true q234
        go_wp2_with (first | ((with_reducible refine gate_builtin (b := .append) (xs := #[.tmp 28, .tmp 33]) rfl ?_); at_builtin; refine Kd.R_append (Kd.int .i64) (w0 := w) w.heap.size rfl (.tmp 28) (.tmp 33) 22 3 (.int .i64 0) 8 rfl Try.underlying22 info3 rfl (by decide) (by omega) u5 x5_1 (rd l0 x7_1) [.int .i64 (rd l0 x7_1)] (fun _ => True) (fun _ => False) rfl rfl ?aP (fun _ hk => hk.elim) ?aF ?aO ?aB ?aS ?aL ?_; (case aP => exact rfl); (case aB => exact (by repeat (first | (with_reducible first | exact HB.out | apply below_alloc | apply pw_below_drewN | apply below_drew1) | exact HB.out))); (case aF => exact (fun _ _ => trivial)); (case aO => exact (by (with_reducible repeat (first | apply Kd.R_alloc | apply Kd.R_drewN | apply Kd.R_drew)); exact HO_5.out)); (case aS => exact (below_size (by repeat (first | (with_reducible first | exact HB.out | apply below_alloc | apply pw_below_drewN | apply below_drew1) | exact HB.out)))); (case aL => have := LMc7.out; omega); intro v236 w8 ho hb hg hat; rw [← Ny235.out] at ho; have n0_ := Aside0.mk (hb); have n1_ := Aside0.mk (ho); clear HB; clear HO_5; have HB := n0_; have HO237 := n1_; clear n0_ n1_; clear ho hb hg hat))
        go_roundg k1
        case measure => have := HK1.out; omega
        case rel => exact ⟨(y235), (true), (wrap64 (x7_1 + 1)), (by first | rfl | (simp; done) | (simp [*]; done)), (by first | rfl | (simp; done) | (simp [*]; done)), H', ⟨by have := HK1.out; omega⟩, ⟨by (with_reducible repeat (first | apply Kd.R_alloc | apply Kd.R_drewN | apply Kd.R_drew)); exact HO237.out⟩, ⟨by repeat (first | (with_reducible first | exact HB.out | apply below_alloc | apply pw_below_drewN | apply below_drew1) | exact HB.out)⟩⟩
       ·rw [if_neg c7] at H
        exact absurd H (by simp)
      ·replace c6 := Bool.eq_false_iff.mpr c6
       subst c6
       have H1 : (if x5_1.length < 17592186044416 then ((some (x5_1 ++ [a1] : List Int)).bind fun y238 => (if y238.length < 17592186044416 then (cobwebref10_put.l0 k1 l0 a1 (y238 ++ [rd l0 x7_1]) true (wrap64 (x7_1 + 1))) else (none))) else (none)) = some r := by rw [if_neg (show ¬ (false = true) by decide)] at H; exact H
       clear H
       have H := H1
       clear H1
       by_cases c9 : x5_1.length < 17592186044416
       ·rw [if_pos c9] at H
        have LMc9 := Aside0.mk c9
        clear c9
        obtain ⟨y238, hy238⟩ : ∃ y_ : List Int, y_ = (x5_1 ++ [a1]) := ⟨_, rfl⟩
        replace H : (if y238.length < 17592186044416 then (cobwebref10_put.l0 k1 l0 a1 (y238 ++ [rd l0 x7_1]) true (wrap64 (x7_1 + 1))) else (none)) = some r := by first | (rw [hy238]; with_reducible exact H) | (have H2_ := (Option.bind_some _ _).symm.trans H; rw [hy238]; with_reducible exact H2_) | (have H2_ := (Option.bind_some _ _).symm.trans H; with_reducible exact H2_) | with_reducible exact H | (rw [hy238]; exact H) | exact H
        have Ny238 := Aside0.mk hy238
        clear hy238
        by_cases c10 : y238.length < 17592186044416
        ·rw [if_pos c10] at H
         have LMc10 := Aside0.mk c10
         clear c10
         obtain ⟨y242, hy242⟩ : ∃ y_ : List Int, y_ = (y238 ++ [rd l0 x7_1]) := ⟨_, rfl⟩
         replace H : (cobwebref10_put.l0 k1 l0 a1 y242 true (wrap64 (x7_1 + 1))) = some r := by first | (rw [hy242]; with_reducible exact H) | (have H2_ := (Option.bind_some _ _).symm.trans H; rw [hy242]; with_reducible exact H2_) | (have H2_ := (Option.bind_some _ _).symm.trans H; with_reducible exact H2_) | with_reducible exact H | (rw [hy242]; exact H) | exact H
         have Ny242 := Aside0.mk hy242
         clear hy242
         have H' := Aside0.mk H
         clear H
         have p233 : 0 ≤ (x7_1 : Int) := of_decide_eq_true (by first | (with_reducible assumption) | assumption)
         have q233 : x7_1 < (l0.length : Int) := of_decide_eq_true (by first | (with_reducible assumption) | assumption)
         obtain ⟨ad233, e233, hx233_0⟩ := Kd.at_int HR0.out x7_1 p233 q233
         cases e233
         replace hx233_0 := (HB.out.cell (World.block_lt_of_cell? w _ hx233_0)).trans hx233_0
         replace p233 := eq_true p233
         replace q233 := eq_true q233
         go_wp2_with (first | ((with_reducible refine gate_builtin (b := .append) (xs := #[.tmp 24, .tmp 26]) rfl ?_); at_builtin; refine Kd.R_append (Kd.int .i64) (w0 := w) w.heap.size rfl (.tmp 24) (.tmp 26) 22 3 (.int .i64 0) 8 rfl Try.underlying22 info3 rfl (by decide) (by omega) u5 x5_1 a1 [.int .i64 a1] (fun _ => True) (fun _ => False) rfl rfl ?aP (fun _ hk => hk.elim) ?aF ?aO ?aB ?aS ?aL ?_; (case aP => exact rfl); (case aB => exact (by repeat (first | (with_reducible first | exact HB.out | apply below_alloc | apply pw_below_drewN | apply below_drew1) | exact HB.out))); (case aF => exact (fun _ _ => trivial)); (case aO => exact (by (with_reducible repeat (first | apply Kd.R_alloc | apply Kd.R_drewN | apply Kd.R_drew)); exact HO_5.out)); (case aS => exact (below_size (by repeat (first | (with_reducible first | exact HB.out | apply below_alloc | apply pw_below_drewN | apply below_drew1) | exact HB.out)))); (case aL => have := LMc9.out; omega); intro v239 w11 ho hb hg hat; rw [← Ny238.out] at ho; have n0_ := Aside0.mk (hb); have n1_ := Aside0.mk (ho); clear HB; clear HO_5; have HB := n0_; have HO240 := n1_; clear n0_ n1_; clear ho hb hg hat; have p241 : 0 ≤ (x7_1 : Int) := of_decide_eq_true (by first | (with_reducible assumption) | assumption); have q241 : x7_1 < (l0.length : Int) := of_decide_eq_true (by first | (with_reducible assumption) | assumption); obtain ⟨ad241, e241, hx241_0⟩ := Kd.at_int HR0.out x7_1 p241 q241; obtain rfl : ad233 = ad241 := (by injection e241); replace hx241_0 := (HB.out.cell (World.block_lt_of_cell? w _ hx241_0)).trans hx241_0; replace p241 := eq_true p241; replace q241 := eq_true q241) | ((with_reducible refine gate_builtin (b := .append) (xs := #[.tmp 28, .tmp 33]) rfl ?_); at_builtin; refine Kd.R_append (Kd.int .i64) (w0 := w) w.heap.size rfl (.tmp 28) (.tmp 33) 22 3 (.int .i64 0) 8 rfl Try.underlying22 info3 rfl (by decide) (by omega) v239 y238 (rd l0 x7_1) [.int .i64 (rd l0 x7_1)] (fun _ => True) (fun _ => False) rfl rfl ?aP (fun _ hk => hk.elim) ?aF ?aO ?aB ?aS ?aL ?_; (case aP => exact rfl); (case aB => exact (by repeat (first | (with_reducible first | exact HB.out | apply below_alloc | apply pw_below_drewN | apply below_drew1) | exact HB.out))); (case aF => exact (fun _ _ => trivial)); (case aO => exact (by (with_reducible repeat (first | apply Kd.R_alloc | apply Kd.R_drewN | apply Kd.R_drew)); exact HO240.out)); (case aS => exact (below_size (by repeat (first | (with_reducible first | exact HB.out | apply below_alloc | apply pw_below_drewN | apply below_drew1) | exact HB.out)))); (case aL => have := LMc10.out; omega); intro v243 w12 ho hb hg hat; rw [← Ny242.out] at ho; have n0_ := Aside0.mk (hb); have n1_ := Aside0.mk (ho); clear HB; clear HO240; have HB := n0_; have HO244 := n1_; clear n0_ n1_; clear ho hb hg hat))
         go_roundg k1
         case measure => have := HK1.out; omega
         case rel => exact ⟨(y242), (true), (wrap64 (x7_1 + 1)), (by first | rfl | (simp; done) | (simp [*]; done)), (by first | rfl | (simp; done) | (simp [*]; done)), H', ⟨by have := HK1.out; omega⟩, ⟨by (with_reducible repeat (first | apply Kd.R_alloc | apply Kd.R_drewN | apply Kd.R_drew)); exact HO244.out⟩, ⟨by repeat (first | (with_reducible first | exact HB.out | apply below_alloc | apply pw_below_drewN | apply below_drew1) | exact HB.out)⟩⟩
        ·rw [if_neg c10] at H
         exact absurd H (by simp)
       ·rw [if_neg c9] at H
        exact absurd H (by simp)
     ·rw [if_neg c5] at H
      have c5b0 : decide (a1 < (rd l0 x7_1)) = false := decide_eq_false c5
      clear c5
      by_cases c13 : x5_1.length < 17592186044416
      ·rw [if_pos c13] at H
       have LMc13 := Aside0.mk c13
       clear c13
       obtain ⟨y246, hy246⟩ : ∃ y_ : List Int, y_ = (x5_1 ++ [rd l0 x7_1]) := ⟨_, rfl⟩
       replace H : (cobwebref10_put.l0 k1 l0 a1 y246 x6_1 (wrap64 (x7_1 + 1))) = some r := by first | (rw [hy246]; with_reducible exact H) | (have H2_ := (Option.bind_some _ _).symm.trans H; rw [hy246]; with_reducible exact H2_) | (have H2_ := (Option.bind_some _ _).symm.trans H; with_reducible exact H2_) | with_reducible exact H | (rw [hy246]; exact H) | exact H
       have Ny246 := Aside0.mk hy246
       clear hy246
       have H' := Aside0.mk H
       clear H
       have p233 : 0 ≤ (x7_1 : Int) := of_decide_eq_true (by first | (with_reducible assumption) | assumption)
       have q233 : x7_1 < (l0.length : Int) := of_decide_eq_true (by first | (with_reducible assumption) | assumption)
       obtain ⟨ad233, e233, hx233_0⟩ := Kd.at_int HR0.out x7_1 p233 q233
       cases e233
       replace hx233_0 := (HB.out.cell (World.block_lt_of_cell? w _ hx233_0)).trans hx233_0
       replace p233 := eq_true p233
       replace q233 := eq_true q233
       have p245 : 0 ≤ (x7_1 : Int) := of_decide_eq_true (by first | (with_reducible assumption) | assumption)
       have q245 : x7_1 < (l0.length : Int) := of_decide_eq_true (by first | (with_reducible assumption) | assumption)
       obtain ⟨ad245, e245, hx245_0⟩ := Kd.at_int HR0.out x7_1 p245 q245
       obtain rfl : ad233 = ad245 := (by injection e245)
       replace hx245_0 := (HB.out.cell (World.block_lt_of_cell? w _ hx245_0)).trans hx245_0
       replace p245 := eq_true p245
       replace q245 := eq_true q245
       go_wp2_with (first | ((with_reducible refine gate_builtin (b := .append) (xs := #[.tmp 28, .tmp 33]) rfl ?_); at_builtin; refine Kd.R_append (Kd.int .i64) (w0 := w) w.heap.size rfl (.tmp 28) (.tmp 33) 22 3 (.int .i64 0) 8 rfl Try.underlying22 info3 rfl (by decide) (by omega) u5 x5_1 (rd l0 x7_1) [.int .i64 (rd l0 x7_1)] (fun _ => True) (fun _ => False) rfl rfl ?aP (fun _ hk => hk.elim) ?aF ?aO ?aB ?aS ?aL ?_; (case aP => exact rfl); (case aB => exact (by repeat (first | (with_reducible first | exact HB.out | apply below_alloc | apply pw_below_drewN | apply below_drew1) | exact HB.out))); (case aF => exact (fun _ _ => trivial)); (case aO => exact (by (with_reducible repeat (first | apply Kd.R_alloc | apply Kd.R_drewN | apply Kd.R_drew)); exact HO_5.out)); (case aS => exact (below_size (by repeat (first | (with_reducible first | exact HB.out | apply below_alloc | apply pw_below_drewN | apply below_drew1) | exact HB.out)))); (case aL => have := LMc13.out; omega); intro v247 w14 ho hb hg hat; rw [← Ny246.out] at ho; have n0_ := Aside0.mk (hb); have n1_ := Aside0.mk (ho); clear HB; clear HO_5; have HB := n0_; have HO248 := n1_; clear n0_ n1_; clear ho hb hg hat))
       go_roundg k1
       case measure => have := HK1.out; omega
       case rel => exact ⟨(y246), (x6_1), (wrap64 (x7_1 + 1)), (by first | rfl | (simp; done) | (simp [*]; done)), (by first | rfl | (simp; done) | (simp [*]; done)), H', ⟨by have := HK1.out; omega⟩, ⟨by (with_reducible repeat (first | apply Kd.R_alloc | apply Kd.R_drewN | apply Kd.R_drew)); exact HO248.out⟩, ⟨by repeat (first | (with_reducible first | exact HB.out | apply below_alloc | apply pw_below_drewN | apply below_drew1) | exact HB.out)⟩⟩
      ·rw [if_neg c13] at H
       exact absurd H (by simp)
    ·rw [if_neg c4] at H
     exact absurd H (by simp)
   ·rw [if_neg c3] at H
    have c3b0 : decide (x7_1 < (l0.length : Int)) = false := decide_eq_false c3
    clear c3
    by_cases c15 : x6_1 = true
    ·subst c15
     have H1 : (some x5_1) = some r := by rw [if_pos rfl] at H; exact H
     clear H
     have H := H1
     clear H1
     obtain rfl := Option.some.inj H
     go_wp2
     go_ret
     exact ⟨_, by first | rfl | (simp [errW_none, errW_some] <;> rfl) | (simp [*, errW_none, errW_some] <;> rfl), by (with_reducible repeat (first | apply Kd.R_alloc | apply Kd.R_drewN | apply Kd.R_drew)); exact HO_5.out, by repeat (first | (with_reducible first | exact HB.out | apply below_alloc | apply pw_below_drewN | apply below_drew1) | exact HB.out)⟩
    ·replace c15 := Bool.eq_false_iff.mpr c15
     subst c15
     have H1 : (if x5_1.length < 17592186044416 then (some (x5_1 ++ [a1])) else (none)) = some r := by rw [if_neg (show ¬ (false = true) by decide)] at H; exact H
     clear H
     have H := H1
     clear H1
     by_cases c16 : x5_1.length < 17592186044416
     ·rw [if_pos c16] at H
      have LMc16 := Aside0.mk c16
      clear c16
      obtain ⟨y249, hy249⟩ : ∃ y_ : List Int, y_ = (x5_1 ++ [a1]) := ⟨_, rfl⟩
      replace H : (some y249) = some r := by first | (rw [hy249]; with_reducible exact H) | (have H2_ := (Option.bind_some _ _).symm.trans H; rw [hy249]; with_reducible exact H2_) | (have H2_ := (Option.bind_some _ _).symm.trans H; with_reducible exact H2_) | with_reducible exact H | (rw [hy249]; exact H) | exact H
      have Ny249 := Aside0.mk hy249
      clear hy249
      obtain rfl := Option.some.inj H
      go_wp2_with (first | ((with_reducible refine gate_builtin (b := .append) (xs := #[.tmp 37, .tmp 39]) rfl ?_); at_builtin; refine Kd.R_append (Kd.int .i64) (w0 := w) w.heap.size rfl (.tmp 37) (.tmp 39) 22 3 (.int .i64 0) 8 rfl Try.underlying22 info3 rfl (by decide) (by omega) u5 x5_1 a1 [.int .i64 a1] (fun _ => True) (fun _ => False) rfl rfl ?aP (fun _ hk => hk.elim) ?aF ?aO ?aB ?aS ?aL ?_; (case aP => exact rfl); (case aB => exact (by repeat (first | (with_reducible first | exact HB.out | apply below_alloc | apply pw_below_drewN | apply below_drew1) | exact HB.out))); (case aF => exact (fun _ _ => trivial)); (case aO => exact (by (with_reducible repeat (first | apply Kd.R_alloc | apply Kd.R_drewN | apply Kd.R_drew)); exact HO_5.out)); (case aS => exact (below_size (by repeat (first | (with_reducible first | exact HB.out | apply below_alloc | apply pw_below_drewN | apply below_drew1) | exact HB.out)))); (case aL => have := LMc16.out; omega); intro v250 w17 ho hb hg hat; rw [← Ny249.out] at ho; have n0_ := Aside0.mk (hb); have n1_ := Aside0.mk (ho); clear HB; clear HO_5; have HB := n0_; have HO251 := n1_; clear n0_ n1_; clear ho hb hg hat))
      go_ret
      exact ⟨_, by first | rfl | (simp [errW_none, errW_some] <;> rfl) | (simp [*, errW_none, errW_some] <;> rfl), by (with_reducible repeat (first | apply Kd.R_alloc | apply Kd.R_drewN | apply Kd.R_drew)); exact HO251.out, by repeat (first | (with_reducible first | exact HB.out | apply below_alloc | apply pw_below_drewN | apply below_drew1) | exact HB.out)⟩
     ·rw [if_neg c16] at H
      exact absurd H (by simp)
end Go.Proofs.Ytfbegchhgigjeaa.PC
end
section
namespace Go.Proofs.Ytfbegchhgigjeaa.PC
open Go.RowKit Go.Proofs.YtfbegchhgigjeaaW.PrintWords Go.Proofs.YtfbegchhgigjeaaW.PrintLast Go.Proofs.YtfbegchhgigjeaaW.PrintMore
attribute [local go_sem] max2_int min2_int max_two min_two max_three min_three max_four min_four   -- for this text's walks alone
set_option linter.unusedVariables false
set_option linter.unusedSimpArgs false
def cobwebref10_used.l0 : Nat → List (S39) → Int → Int → Option (Bool)
 | 0, _, _, _ => none
 | k + 1, x0, x1, x5 => if x5 < (x0.length : Int) then (if 0 ≤ x5 then (if ((rd_T39 x0 x5).f0) = x1 then (some true) else (cobwebref10_used.l0 k x0 x1 (wrap64 (x5 + 1)))) else (none)) else (some false)
def cobwebref10_used.f (k : Nat) (l0 : List (S39)) (a1 : Int) : Option (Bool) := cobwebref10_used.l0 k l0 a1 0
theorem cobwebref10_used.mono_l : ∀ k, (∀ y0 y1 y2, LeO (cobwebref10_used.l0 k y0 y1 y2) (cobwebref10_used.l0 (k + 1) y0 y1 y2))
 | 0 => fun _ _ _ r h => by simp [cobwebref10_used.l0] at h
 | k + 1 => by
  have ih0 := cobwebref10_used.mono_l k
  ·intro y0 y1 y2
   unfold cobwebref10_used.l0
   repeat' first
   | (with_reducible exact ih0 _ _ _)
   | (with_reducible exact LeO.refl _)
   | (with_reducible exact LeO.none _)
   | (with_reducible refine LeO.ite ?_ ?_)
   | (with_reducible refine LeO.bind ?_ (fun _ => ?_))
   | exact ih0 _ _ _
   | exact LeO.none _
   | refine LeO.ite ?_ ?_
   | refine LeO.bind ?_ (fun _ => ?_)
theorem cobwebref10_used.mono : ∀ a0 a1 k, LeO (cobwebref10_used.f k a0 a1) (cobwebref10_used.f (k + 1) a0 a1) := by
 intro a0 a1 k
 have ih0 := cobwebref10_used.mono_l k
 unfold cobwebref10_used.f
 repeat' first
   | (with_reducible exact ih0 _ _ _)
   | (with_reducible exact LeO.refl _)
   | (with_reducible exact LeO.none _)
   | (with_reducible refine LeO.ite ?_ ?_)
   | (with_reducible refine LeO.bind ?_ (fun _ => ?_))
   | exact ih0 _ _ _
   | exact LeO.none _
   | refine LeO.ite ?_ ?_
   | refine LeO.bind ?_ (fun _ => ?_)
set_option maxHeartbeats 8000000 in
set_option maxRecDepth 100000 in
theorem cobwebref10_used.calls (k : Nat) (A0 : Option Addr) (c0 : Nat) (l0 : List (S39)) (a1 : Int) (r : Bool) (w : World) (hr0 : Kd.C k39 w A0 l0.length l0) (hc0 : l0.length ≤ c0) (h : cobwebref10_used.f k l0 a1 = some r) :
  Calls Try.prog 38 #[.slice A0 l0.length c0, .int .i64 a1] w fun e w' => e = .returned (.bool r) ∧ Drawn0 w w' := by
 have HR0 := Aside0.mk hr0
 have HC0 := Aside0.mk hc0
 clear hr0 hc0
 have H : (cobwebref10_used.l0 k l0 a1 0) = some r := h
 clear h
 have H' := Aside0.mk H
 clear H
 go_enter Try.func38, Try.ntmps38
 go_wp2
 go_loopg [5] k (fun kq v5 w' => ∃ (x5_1 : Int), v5 = .int .i64 x5_1 ∧ Aside0 (cobwebref10_used.l0 kq l0 a1 x5_1 = some r) ∧ Aside0 (kq ≤ k) ∧ Drawn0 w w')
 case atStart => exact ⟨(0), (by first | rfl | (simp; done) | (simp [*]; done)), H', ⟨Nat.le_refl _⟩, by repeat (first | exact Drawn0.refl _ | apply Drawn0.step)⟩
 case round =>
  clear H'
  try clear p2
  obtain ⟨x5_1, rfl, HA, HK1, ⟨m1, rfl⟩⟩ := hrel
  cases gk with
  | zero => exact absurd HA.out (by simp [cobwebref10_used.l0])
  | succ k1 =>
   have H := HA.out
   clear HA
   simp only [cobwebref10_used.l0] at H
   by_cases c3 : x5_1 < (l0.length : Int)
   ·rw [if_pos c3] at H
    have c3b0 : decide (x5_1 < (l0.length : Int)) = true := decide_eq_true c3
    clear c3
    by_cases c4 : 0 ≤ x5_1
    ·rw [if_pos c4] at H
     have c4b0 : decide (0 ≤ x5_1) = true := decide_eq_true c4
     clear c4
     by_cases c5 : ((rd_T39 l0 x5_1).f0) = a1
     ·rw [if_pos c5] at H
      have c5b0 : (((rd_T39 l0 x5_1).f0) == a1) = true := beq_iff_eq.mpr c5
      have c5b1 : (((rd_T39 l0 x5_1).f0) != a1) = false := bne_eq_false_iff_eq.mpr c5
      clear c5
      obtain rfl := Option.some.inj H
      have p252 : 0 ≤ (x5_1 : Int) := of_decide_eq_true (by first | (with_reducible assumption) | assumption)
      have q252 : x5_1 < (l0.length : Int) := of_decide_eq_true (by first | (with_reducible assumption) | assumption)
      obtain ⟨ad252, A252_1, c252_1, e252, hx252_0, hx252_1, hx252_2, hx252_3, hl252_1, hi252_1⟩ := at_T39 HR0.out x5_1 p252 q252
      cases e252
      have HR252_1 := Aside0.mk hi252_1
      have HC252_1 := Aside0.mk hl252_1
      clear hi252_1 hl252_1
      replace p252 := eq_true p252
      replace q252 := eq_true q252
      go_wp2
      go_ret
      exact ⟨by first | rfl | (simp; done) | (simp [*]; done), by repeat (first | exact Drawn0.refl _ | apply Drawn0.step)⟩
     ·rw [if_neg c5] at H
      have c5b0 : (((rd_T39 l0 x5_1).f0) == a1) = false := beq_eq_false_iff_ne.mpr c5
      have c5b1 : (((rd_T39 l0 x5_1).f0) != a1) = true := bne_iff_ne.mpr c5
      have H' := Aside0.mk H
      clear H
      have p252 : 0 ≤ (x5_1 : Int) := of_decide_eq_true (by first | (with_reducible assumption) | assumption)
      have q252 : x5_1 < (l0.length : Int) := of_decide_eq_true (by first | (with_reducible assumption) | assumption)
      obtain ⟨ad252, A252_1, c252_1, e252, hx252_0, hx252_1, hx252_2, hx252_3, hl252_1, hi252_1⟩ := at_T39 HR0.out x5_1 p252 q252
      cases e252
      have HR252_1 := Aside0.mk hi252_1
      have HC252_1 := Aside0.mk hl252_1
      clear hi252_1 hl252_1
      replace p252 := eq_true p252
      replace q252 := eq_true q252
      go_wp2
      go_roundg k1
      case measure => have := HK1.out; omega
      case rel => exact ⟨(wrap64 (x5_1 + 1)), (by first | rfl | (simp; done) | (simp [*]; done)), H', ⟨by have := HK1.out; omega⟩, by repeat (first | exact Drawn0.refl _ | apply Drawn0.step)⟩
    ·rw [if_neg c4] at H
     exact absurd H (by simp)
   ·rw [if_neg c3] at H
    have c3b0 : decide (x5_1 < (l0.length : Int)) = false := decide_eq_false c3
    clear c3
    obtain rfl := Option.some.inj H
    go_wp2
    go_ret
    exact ⟨by first | rfl | (simp; done) | (simp [*]; done), by repeat (first | exact Drawn0.refl _ | apply Drawn0.step)⟩
end Go.Proofs.Ytfbegchhgigjeaa.PC
end
section
namespace Go.Proofs.Ytfbegchhgigjeaa.PC
open Go.RowKit Go.Proofs.YtfbegchhgigjeaaW.PrintWords Go.Proofs.YtfbegchhgigjeaaW.PrintLast Go.Proofs.YtfbegchhgigjeaaW.PrintMore
attribute [local go_sem] max2_int min2_int max_two min_two max_three min_three max_four min_four   -- for this text's walks alone
set_option linter.unusedVariables false
set_option linter.unusedSimpArgs false
mutual
def cobwebref10_Insert.j0 : Nat → List (S39) → Int → Bool → Option ((List (S39)) × Int)
 | 0, _, _, _ => none
 | k + 1, x0, x1, x19 => if x19 = true then (some (([] : List (S39)), 2)) else ((cobwebref10_IDs.f k x0).bind fun t254 => ((cobwebref10_Has.f k t254 x1).bind fun t257 => (if t257 = true then (some (([] : List (S39)), 31)) else (if (x0.length : Int) = 0 then (some ((([(⟨0, (([x1] : List Int)), 0, false⟩ : S39)] : List (S39))), 0)) else (cobwebref10_Insert.l0 k x0 x1 0 1)))))
def cobwebref10_Insert.l0 : Nat → List (S39) → Int → Int → Int → Option ((List (S39)) × Int)
 | 0, _, _, _, _ => none
 | k + 1, x0, x1, x6, x7 => if x7 < (x0.length : Int) then (if 0 ≤ x7 then (if 0 < (((rd_T39 x0 x7).f1).length : Int) then (if (rd ((rd_T39 x0 x7).f1) 0) < x1 then (cobwebref10_Insert.l0 k x0 x1 x7 (wrap64 (x7 + 1))) else (cobwebref10_Insert.l0 k x0 x1 x6 (wrap64 (x7 + 1)))) else (none)) else (none)) else (if 0 ≤ x6 then (if x6 < (x0.length : Int) then ((cobwebref10_put.f k ((rd_T39 x0 x6).f1) x1).bind fun t268 => (if (t268.length : Int) ≤ 4 then (some ((([(⟨(rd_T39 x0 x6).f0, t268, (rd_T39 x0 x6).f2, false⟩ : S39)] : List (S39))), 0)) else (cobwebref10_Insert.l1 k x0 t268 1 ((rd_T39 x0 x6).f0) ((rd_T39 x0 x6).f1) ((rd_T39 x0 x6).f2) ((rd_T39 x0 x6).f3)))) else (none)) else (none))
def cobwebref10_Insert.l1 : Nat → List (S39) → List Int → Int → Int → List Int → Int → Bool → Option ((List (S39)) × Int)
 | 0, _, _, _, _, _, _, _ => none
 | k + 1, x0, x9, x10, x268000, x268001, x268002, x268003 => (cobwebref10_used.f k x0 x10).bind fun t274 => (if t274 = true then (cobwebref10_Insert.l1 k x0 x9 (wrap64 (x10 + 1)) x268000 x268001 x268002 x268003) else (if 3 ≤ (x9.length : Int) then (some ((([(⟨x268000, (x9.take 3), x10, false⟩ : S39), (⟨x10, (x9.drop 3), x268002, false⟩ : S39)] : List (S39))), 0)) else (none)))
end
def cobwebref10_Insert.f (k : Nat) (l0 : List (S39)) (a1 : Int) : Option ((List (S39)) × Int) := (cobwebref10_Right.f k l0).bind fun t253 => (if t253 = true then (if a1 < 0 then (cobwebref10_Insert.j0 k l0 a1 true) else (cobwebref10_Insert.j0 k l0 a1 (decide (a1 ≥ 1099511627776)))) else (some (([] : List (S39)), 100)))
theorem cobwebref10_Insert.mono_l : ∀ k, (∀ y0 y1 y2, LeO (cobwebref10_Insert.j0 k y0 y1 y2) (cobwebref10_Insert.j0 (k + 1) y0 y1 y2)) ∧ (∀ y0 y1 y2 y3, LeO (cobwebref10_Insert.l0 k y0 y1 y2 y3) (cobwebref10_Insert.l0 (k + 1) y0 y1 y2 y3)) ∧ (∀ y0 y1 y2 y3 y4 y5 y6, LeO (cobwebref10_Insert.l1 k y0 y1 y2 y3 y4 y5 y6) (cobwebref10_Insert.l1 (k + 1) y0 y1 y2 y3 y4 y5 y6))
 | 0 => ⟨fun _ _ _ r h => by simp [cobwebref10_Insert.j0] at h, fun _ _ _ _ r h => by simp [cobwebref10_Insert.l0] at h, fun _ _ _ _ _ _ _ r h => by simp [cobwebref10_Insert.l1] at h⟩
 | k + 1 => by
  obtain ⟨ih0, ih1, ih2⟩ := cobwebref10_Insert.mono_l k
  refine ⟨?_, ?_, ?_⟩
  ·intro y0 y1 y2
   unfold cobwebref10_Insert.j0
   repeat' first
   | (with_reducible exact ih0 _ _ _)
   | (with_reducible exact ih1 _ _ _ _)
   | (with_reducible exact ih2 _ _ _ _ _ _ _)
   | (with_reducible exact cobwebref10_Has.mono _ _ _)
   | (with_reducible exact cobwebref10_IDs.mono _ _)
   | (with_reducible exact cobwebref10_Right.mono _ _)
   | (with_reducible exact cobwebref10_put.mono _ _ _)
   | (with_reducible exact cobwebref10_used.mono _ _ _)
   | (with_reducible exact LeO.refl _)
   | (with_reducible exact LeO.none _)
   | (with_reducible refine LeO.ite ?_ ?_)
   | (with_reducible refine LeO.bind ?_ (fun _ => ?_))
   | exact ih0 _ _ _
   | exact ih1 _ _ _ _
   | exact ih2 _ _ _ _ _ _ _
   | exact cobwebref10_Has.mono _ _ _
   | exact cobwebref10_IDs.mono _ _
   | exact cobwebref10_Right.mono _ _
   | exact cobwebref10_put.mono _ _ _
   | exact cobwebref10_used.mono _ _ _
   | exact LeO.none _
   | refine LeO.ite ?_ ?_
   | refine LeO.bind ?_ (fun _ => ?_)
  ·intro y0 y1 y2 y3
   unfold cobwebref10_Insert.l0
   repeat' first
   | (with_reducible exact ih0 _ _ _)
   | (with_reducible exact ih1 _ _ _ _)
   | (with_reducible exact ih2 _ _ _ _ _ _ _)
   | (with_reducible exact cobwebref10_Has.mono _ _ _)
   | (with_reducible exact cobwebref10_IDs.mono _ _)
   | (with_reducible exact cobwebref10_Right.mono _ _)
   | (with_reducible exact cobwebref10_put.mono _ _ _)
   | (with_reducible exact cobwebref10_used.mono _ _ _)
   | (with_reducible exact LeO.refl _)
   | (with_reducible exact LeO.none _)
   | (with_reducible refine LeO.ite ?_ ?_)
   | (with_reducible refine LeO.bind ?_ (fun _ => ?_))
   | exact ih0 _ _ _
   | exact ih1 _ _ _ _
   | exact ih2 _ _ _ _ _ _ _
   | exact cobwebref10_Has.mono _ _ _
   | exact cobwebref10_IDs.mono _ _
   | exact cobwebref10_Right.mono _ _
   | exact cobwebref10_put.mono _ _ _
   | exact cobwebref10_used.mono _ _ _
   | exact LeO.none _
   | refine LeO.ite ?_ ?_
   | refine LeO.bind ?_ (fun _ => ?_)
  ·intro y0 y1 y2 y3 y4 y5 y6
   unfold cobwebref10_Insert.l1
   repeat' first
   | (with_reducible exact ih0 _ _ _)
   | (with_reducible exact ih1 _ _ _ _)
   | (with_reducible exact ih2 _ _ _ _ _ _ _)
   | (with_reducible exact cobwebref10_Has.mono _ _ _)
   | (with_reducible exact cobwebref10_IDs.mono _ _)
   | (with_reducible exact cobwebref10_Right.mono _ _)
   | (with_reducible exact cobwebref10_put.mono _ _ _)
   | (with_reducible exact cobwebref10_used.mono _ _ _)
   | (with_reducible exact LeO.refl _)
   | (with_reducible exact LeO.none _)
   | (with_reducible refine LeO.ite ?_ ?_)
   | (with_reducible refine LeO.bind ?_ (fun _ => ?_))
   | exact ih0 _ _ _
   | exact ih1 _ _ _ _
   | exact ih2 _ _ _ _ _ _ _
   | exact cobwebref10_Has.mono _ _ _
   | exact cobwebref10_IDs.mono _ _
   | exact cobwebref10_Right.mono _ _
   | exact cobwebref10_put.mono _ _ _
   | exact cobwebref10_used.mono _ _ _
   | exact LeO.none _
   | refine LeO.ite ?_ ?_
   | refine LeO.bind ?_ (fun _ => ?_)
theorem cobwebref10_Insert.mono : ∀ a0 a1 k, LeO (cobwebref10_Insert.f k a0 a1) (cobwebref10_Insert.f (k + 1) a0 a1) := by
 intro a0 a1 k
 obtain ⟨ih0, ih1, ih2⟩ := cobwebref10_Insert.mono_l k
 unfold cobwebref10_Insert.f
 repeat' first
   | (with_reducible exact ih0 _ _ _)
   | (with_reducible exact ih1 _ _ _ _)
   | (with_reducible exact ih2 _ _ _ _ _ _ _)
   | (with_reducible exact cobwebref10_Has.mono _ _ _)
   | (with_reducible exact cobwebref10_IDs.mono _ _)
   | (with_reducible exact cobwebref10_Right.mono _ _)
   | (with_reducible exact cobwebref10_put.mono _ _ _)
   | (with_reducible exact cobwebref10_used.mono _ _ _)
   | (with_reducible exact LeO.refl _)
   | (with_reducible exact LeO.none _)
   | (with_reducible refine LeO.ite ?_ ?_)
   | (with_reducible refine LeO.bind ?_ (fun _ => ?_))
   | exact ih0 _ _ _
   | exact ih1 _ _ _ _
   | exact ih2 _ _ _ _ _ _ _
   | exact cobwebref10_Has.mono _ _ _
   | exact cobwebref10_IDs.mono _ _
   | exact cobwebref10_Right.mono _ _
   | exact cobwebref10_put.mono _ _ _
   | exact cobwebref10_used.mono _ _ _
   | exact LeO.none _
   | refine LeO.ite ?_ ?_
   | refine LeO.bind ?_ (fun _ => ?_)
def cobwebref10_Insert.T22 : Bool × List (List Nat × List Nat) := (true, [([], []), ([0], [0]), ([], []), ([2], [2]), ([], []), ([1, 3, 4], [1, 3, 4]), ([], []), ([], []), ([7], [7]), ([], []), ([9], [9]), ([6, 8, 10], [6, 8, 10]), ([5, 11], [5, 11]), ([12, 0, 1, 2, 3, 4, 5, 6, 7, 8, 9, 10, 11, 12], [12]), ([13, 0, 1, 2, 3, 4, 5, 6, 7, 8, 9, 10, 11, 12, 13], [])])
def cobwebref10_Insert.B22 : List Nat := [0, 1, 0, 4, 0, 31, 0, 0, 128, 0, 512, 1984, 4095, 8191, 16383]
theorem cobwebref10_Insert.tab22 : rtab .any (opsOf Try.f17 22) = cobwebref10_Insert.T22 := by kernel_rfl
theorem cobwebref10_Insert.bits22 : waitsOk cobwebref10_Insert.T22.2 cobwebref10_Insert.B22 = true := by kernel_rfl
set_option maxHeartbeats 8000000 in
set_option maxRecDepth 100000 in
theorem cobwebref10_Insert.calls (k : Nat) (A0 : Option Addr) (c0 : Nat) (l0 : List (S39)) (a1 : Int) (r1 : List (S39)) (r2 : Int) (w : World) (hr0 : Kd.C k39 w A0 l0.length l0) (hc0 : l0.length ≤ c0) (h : cobwebref10_Insert.f k l0 a1 = some (r1, r2)) :
  Calls Try.prog 17 #[.slice A0 l0.length c0, .int .i64 a1] w fun e w' => ∃ v0_ : Value, e = .returned (.tuple #[v0_, .int .i64 r2]) ∧ Kd.N k39 39 w' w.heap.size (fun k_ => (w.heap.size ≤ k_)) v0_ r1 ∧ Below w.heap.size w w' := by
 have hu39 := Try.underlying39
 have HR0 := Aside0.mk hr0
 have HC0 := Aside0.mk hc0
 clear hr0 hc0
 have HB := Aside0.mk (Below.refl w.heap.size w)
 have H : ((cobwebref10_Right.f k l0).bind fun t253 => (if t253 = true then (if a1 < 0 then (cobwebref10_Insert.j0 k l0 a1 true) else (cobwebref10_Insert.j0 k l0 a1 (decide (a1 ≥ 1099511627776)))) else (some (([] : List (S39)), 100)))) = some (r1, r2) := h
 clear h
 replace H := Option.bind_eq_some_iff.mp H
 obtain ⟨t253, A30, H⟩ := H
 replace H : (if t253 = true then (if a1 < 0 then (cobwebref10_Insert.j0 k l0 a1 true) else (cobwebref10_Insert.j0 k l0 a1 (decide (a1 ≥ 1099511627776)))) else (some (([] : List (S39)), 100))) = some (r1, r2) := H
 have A3 := Aside0.mk A30
 clear A30
 by_cases c4 : t253 = true
 ·subst c4
  have H1 : (if a1 < 0 then (cobwebref10_Insert.j0 k l0 a1 true) else (cobwebref10_Insert.j0 k l0 a1 (decide (a1 ≥ 1099511627776)))) = some (r1, r2) := by rw [if_pos rfl] at H; exact H
  clear H
  have H := H1
  clear H1
  have HC5 := Aside0.mk H
  clear H
  go_enter Try.func17, Try.ntmps17
  go_upto_region 3 with (first | ((with_reducible refine gate_callee (f := 20) rfl ?_); refine goesL_ (some 12) rfl rfl Try.func20 (by kernel_rfl) rfl #[.slice A0 l0.length c0] rfl (by (try simp only [List.map_toArray, List.map_cons, List.map_nil]); first | done | rfl | (simp only [List.length_drop, List.length_take]; rfl)) ?_; (with_reducible refine (cobwebref10_Right.calls k _ _ l0 true _ ?side1 ?side2 A3.out).mono ?_); (case side1 => repeat (first | exact HR0.out | (with_reducible refine Kd.C_alloc ?_ _) | (with_reducible refine Kd.C_drewN ?_ _) | (with_reducible refine Kd.C_drew ?_))); (case side2 => exact HC0.out); rintro e w6 ⟨rfl, hb⟩; refine ⟨_, rfl, ?_⟩; have n0_ := Aside0.mk (below_step (by repeat (first | (with_reducible first | exact HB.out | apply below_alloc | apply pw_below_drewN | apply below_drew1) | exact HB.out)) hb); clear HB; have HB := n0_; clear n0_; (try clear hb); (try clear hb2); (try clear hk); (try clear hi)))
  (try simp only [Act.put, List.setIfInBounds_toArray, List.set_cons_zero, List.set_cons_succ])
  go_cut [19] (fun v19 wc => ∃ (kq : Nat) (x19_4 : Bool), v19 = .bool x19_4 ∧ Aside0 (cobwebref10_Insert.j0 kq l0 a1 x19_4 = some (r1, r2)) ∧ Aside0 (kq ≤ k) ∧ Aside0 (Below w.heap.size w wc))
  case first =>
   have H := HC5.out
   clear HC5
   by_cases c7 : a1 < 0
   ·rw [if_pos c7] at H
    have c7b0 : decide (a1 < 0) = true := decide_eq_true c7
    clear c7
    (first | rw [c7b0] | (simp only [i64_w, i32_w]; rw [c7b0]) | skip)
    have H' := Aside0.mk H
    clear H
    go_wp2
    go_meet
    case rel => exact ⟨_, (true), (by first | rfl | (simp; done) | (simp [*]; done)), H', ⟨by first | omega | exact Nat.le_refl _⟩, ⟨by repeat (first | (with_reducible first | exact HB.out | apply below_alloc | apply pw_below_drewN | apply below_drew1) | exact HB.out)⟩⟩
   ·rw [if_neg c7] at H
    have c7b0 : decide (a1 < 0) = false := decide_eq_false c7
    clear c7
    (first | rw [c7b0] | (simp only [i64_w, i32_w]; rw [c7b0]) | skip)
    have H' := Aside0.mk H
    clear H
    go_wp2
    go_meet
    case rel => exact ⟨_, (decide (a1 ≥ 1099511627776)), (by first | rfl | (simp; done) | (simp [*]; done)), H', ⟨by first | omega | exact Nat.le_refl _⟩, ⟨by repeat (first | (with_reducible first | exact HB.out | apply below_alloc | apply pw_below_drewN | apply below_drew1) | exact HB.out)⟩⟩
  case rest =>
   clear HC5
   try clear c1
   try clear c2
   try clear p2
   try clear c4
   try clear c7
   try clear c7b0
   obtain ⟨kq, x19_4, rfl, HA, HJ4, HB⟩ := hcut
   cases kq with
   | zero => exact absurd HA.out (by simp [cobwebref10_Insert.j0])
   | succ kj4 =>
    have H := HA.out
    clear HA
    simp only [cobwebref10_Insert.j0] at H
    by_cases c8 : x19_4 = true
    ·subst c8
     have H1 : (some (([] : List (S39)), 2)) = some (r1, r2) := by rw [if_pos rfl] at H; exact H
     clear H
     have H := H1
     clear H1
     simp only [Option.some.injEq, Prod.mk.injEq] at H
     obtain ⟨rfl, rfl⟩ := H
     go_wp2
     go_ret2
     exact ⟨_, by first | rfl | (simp [errW_none, errW_some] <;> rfl) | (simp [*, errW_none, errW_some] <;> rfl), by first | exact Kd.S_nil _ _ _ _ _ | exact Kd.N_nil _ _ _ _ _ | exact Kd.V_nil _ _ _ _ _ | exact Kd.Q_nil _ _ _ _ _ | exact Kd.R_nil _ _ _ _ _, by repeat (first | (with_reducible first | exact HB.out | apply below_alloc | apply pw_below_drewN | apply below_drew1) | exact HB.out)⟩
    ·replace c8 := Bool.eq_false_iff.mpr c8
     subst c8
     have H1 : ((cobwebref10_IDs.f kj4 l0).bind fun t254 => ((cobwebref10_Has.f kj4 t254 a1).bind fun t257 => (if t257 = true then (some (([] : List (S39)), 31)) else (if (l0.length : Int) = 0 then (some ((([(⟨0, (([a1] : List Int)), 0, false⟩ : S39)] : List (S39))), 0)) else (cobwebref10_Insert.l0 kj4 l0 a1 0 1))))) = some (r1, r2) := by rw [if_neg (show ¬ (false = true) by decide)] at H; exact H
     clear H
     have H := H1
     clear H1
     replace H := Option.bind_eq_some_iff.mp H
     obtain ⟨t254, A90, H⟩ := H
     replace H : ((cobwebref10_Has.f kj4 t254 a1).bind fun t257 => (if t257 = true then (some (([] : List (S39)), 31)) else (if (l0.length : Int) = 0 then (some ((([(⟨0, (([a1] : List Int)), 0, false⟩ : S39)] : List (S39))), 0)) else (cobwebref10_Insert.l0 kj4 l0 a1 0 1)))) = some (r1, r2) := H
     have A9 := Aside0.mk A90
     clear A90
     replace H := Option.bind_eq_some_iff.mp H
     obtain ⟨t257, A100, H⟩ := H
     replace H : (if t257 = true then (some (([] : List (S39)), 31)) else (if (l0.length : Int) = 0 then (some ((([(⟨0, (([a1] : List Int)), 0, false⟩ : S39)] : List (S39))), 0)) else (cobwebref10_Insert.l0 kj4 l0 a1 0 1))) = some (r1, r2) := H
     have A10 := Aside0.mk A100
     clear A100
     by_cases c11 : t257 = true
     ·subst c11
      have H1 : (some (([] : List (S39)), 31)) = some (r1, r2) := by rw [if_pos rfl] at H; exact H
      clear H
      have H := H1
      clear H1
      simp only [Option.some.injEq, Prod.mk.injEq] at H
      obtain ⟨rfl, rfl⟩ := H
      go_wp2_with (first | ((with_reducible refine gate_callee (f := 21) rfl ?_); refine goesL_ (some 21) rfl rfl Try.func21 (by kernel_rfl) rfl #[.slice A0 l0.length c0] rfl (by (try simp only [List.map_toArray, List.map_cons, List.map_nil]); first | done | rfl | (simp only [List.length_drop, List.length_take]; rfl)) ?_; (with_reducible refine (cobwebref10_IDs.calls kj4 _ _ l0 t254 _ ?side1 ?side2 A9.out).mono ?_); (case side1 => repeat (first | exact (Kd.C_below HR0.out HB.out) | (with_reducible refine Kd.C_alloc ?_ _) | (with_reducible refine Kd.C_drewN ?_ _) | (with_reducible refine Kd.C_drew ?_))); (case side2 => exact HC0.out); rintro e w12 ⟨v255, rfl, ho0, hb⟩; refine ⟨_, rfl, ?_⟩; have n0_ := Aside0.mk (Kd.R_lower (Kd.R_newM (M := fun k_ => (w.heap.size ≤ k_)) ho0 (below_size (by repeat (first | (with_reducible first | exact HB.out | apply below_alloc | apply pw_below_drewN | apply below_drew1) | exact HB.out))) (fun k_ h_ => h_)) (below_size (by repeat (first | (with_reducible first | exact HB.out | apply below_alloc | apply pw_below_drewN | apply below_drew1) | exact HB.out)))); have n1_ := Aside0.mk (below_step (by repeat (first | (with_reducible first | exact HB.out | apply below_alloc | apply pw_below_drewN | apply below_drew1) | exact HB.out)) hb); clear HB; have HO256 := n0_; have HB := n1_; clear n0_ n1_; (try clear hb); (try clear hb2); (try clear hk); (try clear hi); (try clear ho0); obtain ⟨Ao13, co13, eo13⟩ := Kd.R_slice HO256.out; subst eo13) | ((with_reducible refine gate_callee (f := 26) rfl ?_); refine goesL_ (some 23) rfl rfl Try.func26 (by kernel_rfl) rfl #[.slice Ao13 t254.length co13, .int .i64 a1] rfl (by (try simp only [List.map_toArray, List.map_cons, List.map_nil]); first | done | rfl | (simp only [List.length_drop, List.length_take]; rfl)) ?_; (with_reducible refine (cobwebref10_Has.calls kj4 _ _ t254 a1 true _ ?side1 ?side2 A10.out).mono ?_); (case side1 => repeat (first | exact (Kd.R_reads' HO256.out).2.2 | (with_reducible refine Kd.C_alloc ?_ _) | (with_reducible refine Kd.C_drewN ?_ _) | (with_reducible refine Kd.C_drew ?_))); (case side2 => exact (Kd.R_reads' HO256.out).2.1); rintro e w' ⟨rfl, ⟨nd, rfl⟩⟩; refine ⟨_, rfl, ?_⟩))
      go_ret2
      exact ⟨_, by first | rfl | (simp [errW_none, errW_some] <;> rfl) | (simp [*, errW_none, errW_some] <;> rfl), by first | exact Kd.S_nil _ _ _ _ _ | exact Kd.N_nil _ _ _ _ _ | exact Kd.V_nil _ _ _ _ _ | exact Kd.Q_nil _ _ _ _ _ | exact Kd.R_nil _ _ _ _ _, by repeat (first | (with_reducible first | exact HB.out | apply below_alloc | apply pw_below_drewN | apply below_drew1) | exact HB.out)⟩
     ·replace c11 := Bool.eq_false_iff.mpr c11
      subst c11
      have H1 : (if (l0.length : Int) = 0 then (some ((([(⟨0, (([a1] : List Int)), 0, false⟩ : S39)] : List (S39))), 0)) else (cobwebref10_Insert.l0 kj4 l0 a1 0 1)) = some (r1, r2) := by rw [if_neg (show ¬ (false = true) by decide)] at H; exact H
      clear H
      have H := H1
      clear H1
      by_cases c14 : (l0.length : Int) = 0
      ·rw [if_pos c14] at H
       have c14b0 : ((l0.length : Int) == 0) = true := beq_iff_eq.mpr c14
       have c14b1 : ((l0.length : Int) != 0) = false := bne_eq_false_iff_eq.mpr c14
       clear c14
       obtain ⟨y258, hy258⟩ : ∃ y_ : List Int, y_ = (([a1] : List Int)) := ⟨_, rfl⟩
       replace H : (some ((([(⟨0, y258, 0, false⟩ : S39)] : List (S39))), 0)) = some (r1, r2) := by first | (rw [hy258]; with_reducible exact H) | (have H2_ := (Option.bind_some _ _).symm.trans H; rw [hy258]; with_reducible exact H2_) | (have H2_ := (Option.bind_some _ _).symm.trans H; with_reducible exact H2_) | with_reducible exact H | (rw [hy258]; exact H) | exact H
       have Ny258 := Aside0.mk hy258
       clear hy258
       obtain ⟨y261, hy261⟩ : ∃ y_ : List (S39), y_ = (([(⟨0, y258, 0, false⟩ : S39)] : List (S39))) := ⟨_, rfl⟩
       replace H : (some (y261, 0)) = some (r1, r2) := by first | (rw [hy261]; with_reducible exact H) | (have H2_ := (Option.bind_some _ _).symm.trans H; rw [hy261]; with_reducible exact H2_) | (have H2_ := (Option.bind_some _ _).symm.trans H; with_reducible exact H2_) | with_reducible exact H | (rw [hy261]; exact H) | exact H
       have Ny261 := Aside0.mk hy261
       clear hy261
       simp only [Option.some.injEq, Prod.mk.injEq] at H
       obtain ⟨rfl, rfl⟩ := H
       go_wp2_with (first | ((with_reducible refine gate_callee (f := 21) rfl ?_); refine goesL_ (some 21) rfl rfl Try.func21 (by kernel_rfl) rfl #[.slice A0 l0.length c0] rfl (by (try simp only [List.map_toArray, List.map_cons, List.map_nil]); first | done | rfl | (simp only [List.length_drop, List.length_take]; rfl)) ?_; (with_reducible refine (cobwebref10_IDs.calls kj4 _ _ l0 t254 _ ?side1 ?side2 A9.out).mono ?_); (case side1 => repeat (first | exact (Kd.C_below HR0.out HB.out) | (with_reducible refine Kd.C_alloc ?_ _) | (with_reducible refine Kd.C_drewN ?_ _) | (with_reducible refine Kd.C_drew ?_))); (case side2 => exact HC0.out); rintro e w15 ⟨v255, rfl, ho0, hb⟩; refine ⟨_, rfl, ?_⟩; have n0_ := Aside0.mk (Kd.R_lower (Kd.R_newM (M := fun k_ => (w.heap.size ≤ k_)) ho0 (below_size (by repeat (first | (with_reducible first | exact HB.out | apply below_alloc | apply pw_below_drewN | apply below_drew1) | exact HB.out))) (fun k_ h_ => h_)) (below_size (by repeat (first | (with_reducible first | exact HB.out | apply below_alloc | apply pw_below_drewN | apply below_drew1) | exact HB.out)))); have n1_ := Aside0.mk (below_step (by repeat (first | (with_reducible first | exact HB.out | apply below_alloc | apply pw_below_drewN | apply below_drew1) | exact HB.out)) hb); clear HB; have HO256 := n0_; have HB := n1_; clear n0_ n1_; (try clear hb); (try clear hb2); (try clear hk); (try clear hi); (try clear ho0); obtain ⟨Ao16, co16, eo16⟩ := Kd.R_slice HO256.out; subst eo16) | ((with_reducible refine gate_callee (f := 26) rfl ?_); refine goesL_ (some 23) rfl rfl Try.func26 (by kernel_rfl) rfl #[.slice Ao16 t254.length co16, .int .i64 a1] rfl (by (try simp only [List.map_toArray, List.map_cons, List.map_nil]); first | done | rfl | (simp only [List.length_drop, List.length_take]; rfl)) ?_; (with_reducible refine (cobwebref10_Has.calls kj4 _ _ t254 a1 false _ ?side1 ?side2 A10.out).mono ?_); (case side1 => repeat (first | exact (Kd.R_reads' HO256.out).2.2 | (with_reducible refine Kd.C_alloc ?_ _) | (with_reducible refine Kd.C_drewN ?_ _) | (with_reducible refine Kd.C_drew ?_))); (case side2 => exact (Kd.R_reads' HO256.out).2.1); rintro e w' ⟨rfl, ⟨nd, rfl⟩⟩; refine ⟨_, rfl, ?_⟩) | ((with_reducible refine gate_dst (N := 28) rfl ?_); refine Kd.R_lit (Kd.int .i64) _ 3 ?hg (N := 28) ?hd (xs := ([a1] : List Int)) (inner := [.int .i64 a1]) (ok := fun _ => True) (okp := fun _ => True) ?hr ?hp (fun _ hk => hk) trivial (Below.refl _ _) (Nat.le_refl _) (by simp) ?_; (case hd => rfl); (case hg => rfl); (case hr => first | (go_simp; done) | (go_simp; rfl)); (case hp => exact (Reps.one (show Kd.M (Kd.int .i64) _ _ _ a1 [.int .i64 a1] from rfl) (Reps.none _ _))); intro v259 w17 ho18 hb hg_ hnew_; clear hg_ hnew_; (first | rw [← Ny258.out] at ho18 | (simp only [Int.reduceToNat] at ho18; rw [← Ny258.out] at ho18)); have n0_ := Aside0.mk (Kd.R_elder' (by (with_reducible repeat (first | apply Kd.R_alloc | apply Kd.R_drewN | apply Kd.R_drew)); exact HO256.out) (Kd.R_base ho18) hb); have n1_ := Aside0.mk (Kd.R_lower (Kd.R_new' (Kd.R_newM (M := fun k_ => (w.heap.size ≤ k_)) ho18 (below_size (by repeat (first | (with_reducible first | exact HB.out | apply below_alloc | apply pw_below_drewN | apply below_drew1) | exact HB.out))) (fun k_ h_ => h_)) (Kd.R_lt (by (with_reducible repeat (first | apply Kd.R_alloc | apply Kd.R_drewN | apply Kd.R_drew)); exact HO256.out))) (below_size (by repeat (first | (with_reducible first | exact HB.out | apply below_alloc | apply pw_below_drewN | apply below_drew1) | exact HB.out)))); have n2_ := Aside0.mk (below_step (by repeat (first | (with_reducible first | exact HB.out | apply below_alloc | apply pw_below_drewN | apply below_drew1) | exact HB.out)) hb); clear HO256; clear HB; have HO256 := n0_; have HO260 := n1_; have HB := n2_; clear n0_ n1_ n2_; clear hb ho18; obtain ⟨Ao19, co19, eo19⟩ := Kd.R_slice HO260.out; subst eo19) | ((with_reducible refine gate_dst (N := 30) rfl ?_); refine Kd.N_lit k39 _ 39 ?hg (N' := 30) ?hd (xs := ([(⟨0, y258, 0, false⟩ : S39)] : List (S39))) (inner := [.int .i64 0, .slice Ao19 y258.length co19, .int .i64 0, .bool false]) (ok := (fun k_ => (w.heap.size ≤ k_) ∧ some k_ ≠ (.slice Ao16 t254.length co16 : Value).ownBlock)) (okp := (fun k_ => (w.heap.size ≤ k_) ∧ some k_ ≠ (.slice Ao16 t254.length co16 : Value).ownBlock)) ?hr ?hp (fun _ hk => hk) ((show ∀ k_, w17.heap.size ≤ k_ → (fun k_ => (w.heap.size ≤ k_) ∧ some k_ ≠ (.slice Ao16 t254.length co16 : Value).ownBlock) k_ from fun k_ hk => ⟨(Nat.le_trans (below_size (by repeat (first | (with_reducible first | exact HB.out | apply below_alloc | apply pw_below_drewN | apply below_drew1) | exact HB.out))) hk), Kd.fresh' (Kd.R_lt (by (with_reducible repeat (first | apply Kd.R_alloc | apply Kd.R_drewN | apply Kd.R_drew)); exact HO256.out)) k_ hk⟩) _ (Nat.le_refl _)) (Below.refl _ _) (Nat.le_refl _) (by simp) ?_; (case hd => rfl); (case hg => rfl); (case hr => first | (go_simp; done) | (go_simp; rfl)); (case hp => exact (Reps.c4 (show Kd.FK k39 _ _ (⟨0, y258, 0, false⟩ : S39) [.int .i64 0, .slice Ao19 y258.length co19, .int .i64 0, .bool false] from (k39_mkF _ _ (⟨0, y258, 0, false⟩ : S39) (Kd.R_reads' (Kd.R_mono (ok' := (fun k_ => (w.heap.size ≤ k_) ∧ some k_ ≠ (.slice Ao16 t254.length co16 : Value).ownBlock)) (HO260.out) (fun k_ hk => ⟨hk.1.1, hk.2⟩))).2.1 (Kd.R_F (Kd.R_mono (ok' := (fun k_ => (w.heap.size ≤ k_) ∧ some k_ ≠ (.slice Ao16 t254.length co16 : Value).ownBlock)) (HO260.out) (fun k_ hk => ⟨hk.1.1, hk.2⟩))))) (Reps.none _ _))); intro v262 w20 ho21 hb hg_ hnew_; clear hg_ hnew_; (first | rw [← Ny261.out] at ho21 | (simp only [Int.reduceToNat] at ho21; rw [← Ny261.out] at ho21)); have n0_ := Aside0.mk (Kd.R_below (by (with_reducible repeat (first | apply Kd.R_alloc | apply Kd.R_drewN | apply Kd.R_drew)); exact HO256.out) hb); have n1_ := Aside0.mk (Kd.N_lower ho21 (below_size (by repeat (first | (with_reducible first | exact HB.out | apply below_alloc | apply pw_below_drewN | apply below_drew1) | exact HB.out)))); have n2_ := Aside0.mk (below_step (by repeat (first | (with_reducible first | exact HB.out | apply below_alloc | apply pw_below_drewN | apply below_drew1) | exact HB.out)) hb); clear HO256; clear HB; clear HO260; have HO256 := n0_; have HO263 := n1_; have HB := n2_; clear n0_ n1_ n2_; clear hb ho21))
       go_ret2
       exact ⟨_, by first | rfl | (simp [errW_none, errW_some] <;> rfl) | (simp [*, errW_none, errW_some] <;> rfl), by (with_reducible repeat (first | apply Kd.N_alloc | apply Kd.N_drewN | apply Kd.N_drew)); exact Kd.N_mono HO263.out (fun _ hk => hk.1), by repeat (first | (with_reducible first | exact HB.out | apply below_alloc | apply pw_below_drewN | apply below_drew1) | exact HB.out)⟩
      ·rw [if_neg c14] at H
       have c14b0 : ((l0.length : Int) == 0) = false := beq_eq_false_iff_ne.mpr c14
       have c14b1 : ((l0.length : Int) != 0) = true := bne_iff_ne.mpr c14
       have c14b2 : ¬ (l0 = []) := fun h_ => c14 (by rw [h_]; rfl)
       have H' := Aside0.mk H
       clear H
       go_wp2_with (first | ((with_reducible refine gate_callee (f := 21) rfl ?_); refine goesL_ (some 21) rfl rfl Try.func21 (by kernel_rfl) rfl #[.slice A0 l0.length c0] rfl (by (try simp only [List.map_toArray, List.map_cons, List.map_nil]); first | done | rfl | (simp only [List.length_drop, List.length_take]; rfl)) ?_; (with_reducible refine (cobwebref10_IDs.calls kj4 _ _ l0 t254 _ ?side1 ?side2 A9.out).mono ?_); (case side1 => repeat (first | exact (Kd.C_below HR0.out HB.out) | (with_reducible refine Kd.C_alloc ?_ _) | (with_reducible refine Kd.C_drewN ?_ _) | (with_reducible refine Kd.C_drew ?_))); (case side2 => exact HC0.out); rintro e w22 ⟨v255, rfl, ho0, hb⟩; refine ⟨_, rfl, ?_⟩; have n0_ := Aside0.mk (Kd.R_lower (Kd.R_newM (M := fun k_ => (w.heap.size ≤ k_)) ho0 (below_size (by repeat (first | (with_reducible first | exact HB.out | apply below_alloc | apply pw_below_drewN | apply below_drew1) | exact HB.out))) (fun k_ h_ => h_)) (below_size (by repeat (first | (with_reducible first | exact HB.out | apply below_alloc | apply pw_below_drewN | apply below_drew1) | exact HB.out)))); have n1_ := Aside0.mk (below_step (by repeat (first | (with_reducible first | exact HB.out | apply below_alloc | apply pw_below_drewN | apply below_drew1) | exact HB.out)) hb); clear HB; have HO256 := n0_; have HB := n1_; clear n0_ n1_; (try clear hb); (try clear hb2); (try clear hk); (try clear hi); (try clear ho0); obtain ⟨Ao23, co23, eo23⟩ := Kd.R_slice HO256.out; subst eo23) | ((with_reducible refine gate_callee (f := 26) rfl ?_); refine goesL_ (some 23) rfl rfl Try.func26 (by kernel_rfl) rfl #[.slice Ao23 t254.length co23, .int .i64 a1] rfl (by (try simp only [List.map_toArray, List.map_cons, List.map_nil]); first | done | rfl | (simp only [List.length_drop, List.length_take]; rfl)) ?_; (with_reducible refine (cobwebref10_Has.calls kj4 _ _ t254 a1 false _ ?side1 ?side2 A10.out).mono ?_); (case side1 => repeat (first | exact (Kd.R_reads' HO256.out).2.2 | (with_reducible refine Kd.C_alloc ?_ _) | (with_reducible refine Kd.C_drewN ?_ _) | (with_reducible refine Kd.C_drew ?_))); (case side2 => exact (Kd.R_reads' HO256.out).2.1); rintro e w' ⟨rfl, ⟨nd, rfl⟩⟩; refine ⟨_, rfl, ?_⟩))
       go_loopg [6, 7] kj4 (fun kq v6 v7 w' => ∃ (x6_2 : Int) (x7_2 : Int), v6 = .int .i64 x6_2 ∧ v7 = .int .i64 x7_2 ∧ Aside0 (cobwebref10_Insert.l0 kq l0 a1 x6_2 x7_2 = some (r1, r2)) ∧ Aside0 (kq ≤ kj4) ∧ Aside0 (Below w.heap.size w w'))
       case atStart => exact ⟨(0), (1), (by first | rfl | (simp; done) | (simp [*]; done)), (by first | rfl | (simp; done) | (simp [*]; done)), H', ⟨Nat.le_refl _⟩, ⟨by repeat (first | (with_reducible first | exact HB.out | apply below_alloc | apply pw_below_drewN | apply below_drew1) | exact HB.out)⟩⟩
       case round =>
        clear H'
        try clear c1
        try clear c2
        try clear p2
        try clear c4
        try clear c7
        try clear c7b0
        try clear c8
        try clear c11
        try clear c14
        try clear c14b0
        try clear c14b1
        try clear c14b2
        try clear c17
        try clear c20
        try clear c21
        try clear p2
        obtain ⟨x6_2, x7_2, rfl, rfl, HA, HK2, HB⟩ := hrel
        cases gk with
        | zero => exact absurd HA.out (by simp [cobwebref10_Insert.l0])
        | succ k2 =>
         have H := HA.out
         clear HA
         simp only [cobwebref10_Insert.l0] at H
         by_cases c24 : x7_2 < (l0.length : Int)
         ·rw [if_pos c24] at H
          have c24b0 : decide (x7_2 < (l0.length : Int)) = true := decide_eq_true c24
          clear c24
          by_cases c25 : 0 ≤ x7_2
          ·rw [if_pos c25] at H
           have c25b0 : decide (0 ≤ x7_2) = true := decide_eq_true c25
           clear c25
           by_cases c26 : 0 < (((rd_T39 l0 x7_2).f1).length : Int)
           ·rw [if_pos c26] at H
            have c26b0 : decide (0 < (((rd_T39 l0 x7_2).f1).length : Int)) = true := decide_eq_true c26
            have c26b1 : decide (0 < ((rd_T39 l0 x7_2).f1).length) = true := decide_eq_true (by omega)
            clear c26
            by_cases c27 : (rd ((rd_T39 l0 x7_2).f1) 0) < a1
            ·rw [if_pos c27] at H
             have c27b0 : decide ((rd ((rd_T39 l0 x7_2).f1) 0) < a1) = true := decide_eq_true c27
             clear c27
             have H' := Aside0.mk H
             clear H
             have p264 : 0 ≤ (x7_2 : Int) := of_decide_eq_true (by first | (with_reducible assumption) | assumption)
             have q264 : x7_2 < (l0.length : Int) := of_decide_eq_true (by first | (with_reducible assumption) | assumption)
             obtain ⟨ad264, A264_1, c264_1, e264, hx264_0, hx264_1, hx264_2, hx264_3, hl264_1, hi264_1⟩ := at_T39 HR0.out x7_2 p264 q264
             cases e264
             replace hx264_0 := (HB.out.cell (World.block_lt_of_cell? w _ hx264_0)).trans hx264_0
             replace hx264_1 := (HB.out.cell (World.block_lt_of_cell? w _ hx264_1)).trans hx264_1
             replace hx264_2 := (HB.out.cell (World.block_lt_of_cell? w _ hx264_2)).trans hx264_2
             replace hx264_3 := (HB.out.cell (World.block_lt_of_cell? w _ hx264_3)).trans hx264_3
             have HR264_1 := Aside0.mk hi264_1
             have HC264_1 := Aside0.mk hl264_1
             clear hi264_1 hl264_1
             replace p264 := eq_true p264
             replace q264 := eq_true q264
             have p265 : 0 ≤ (0 : Int) := (by omega)
             have q265 : 0 < (((rd_T39 l0 x7_2).f1).length : Int) := of_decide_eq_true (by first | (with_reducible assumption) | assumption)
             obtain ⟨ad265, e265, hx265_0⟩ := Kd.at_int HR264_1.out 0 p265 q265
             cases e265
             have qi265 : (0 < ((rd_T39 l0 x7_2).f1).length) = True := eq_true (by omega)
             (try rw [show ((0 : Int)).toNat = 0 from rfl] at hx265_0)
             (try rw [Addr.add_zero'] at hx265_0)
             replace hx265_0 := (HB.out.cell (World.block_lt_of_cell? w _ hx265_0)).trans hx265_0
             replace p265 := eq_true p265
             replace q265 := eq_true q265
             go_wp2
             go_roundg k2
             case measure => have := HJ4.out; have := HK2.out; omega
             case rel => exact ⟨(x7_2), (wrap64 (x7_2 + 1)), (by first | rfl | (simp; done) | (simp [*]; done)), (by first | rfl | (simp; done) | (simp [*]; done)), H', ⟨by have := HJ4.out; have := HK2.out; omega⟩, ⟨by repeat (first | (with_reducible first | exact HB.out | apply below_alloc | apply pw_below_drewN | apply below_drew1) | exact HB.out)⟩⟩
            ·rw [if_neg c27] at H
             have c27b0 : decide ((rd ((rd_T39 l0 x7_2).f1) 0) < a1) = false := decide_eq_false c27
             clear c27
             have H' := Aside0.mk H
             clear H
             have p264 : 0 ≤ (x7_2 : Int) := of_decide_eq_true (by first | (with_reducible assumption) | assumption)
             have q264 : x7_2 < (l0.length : Int) := of_decide_eq_true (by first | (with_reducible assumption) | assumption)
             obtain ⟨ad264, A264_1, c264_1, e264, hx264_0, hx264_1, hx264_2, hx264_3, hl264_1, hi264_1⟩ := at_T39 HR0.out x7_2 p264 q264
             cases e264
             replace hx264_0 := (HB.out.cell (World.block_lt_of_cell? w _ hx264_0)).trans hx264_0
             replace hx264_1 := (HB.out.cell (World.block_lt_of_cell? w _ hx264_1)).trans hx264_1
             replace hx264_2 := (HB.out.cell (World.block_lt_of_cell? w _ hx264_2)).trans hx264_2
             replace hx264_3 := (HB.out.cell (World.block_lt_of_cell? w _ hx264_3)).trans hx264_3
             have HR264_1 := Aside0.mk hi264_1
             have HC264_1 := Aside0.mk hl264_1
             clear hi264_1 hl264_1
             replace p264 := eq_true p264
             replace q264 := eq_true q264
             have p265 : 0 ≤ (0 : Int) := (by omega)
             have q265 : 0 < (((rd_T39 l0 x7_2).f1).length : Int) := of_decide_eq_true (by first | (with_reducible assumption) | assumption)
             obtain ⟨ad265, e265, hx265_0⟩ := Kd.at_int HR264_1.out 0 p265 q265
             cases e265
             have qi265 : (0 < ((rd_T39 l0 x7_2).f1).length) = True := eq_true (by omega)
             (try rw [show ((0 : Int)).toNat = 0 from rfl] at hx265_0)
             (try rw [Addr.add_zero'] at hx265_0)
             replace hx265_0 := (HB.out.cell (World.block_lt_of_cell? w _ hx265_0)).trans hx265_0
             replace p265 := eq_true p265
             replace q265 := eq_true q265
             go_wp2
             go_roundg k2
             case measure => have := HJ4.out; have := HK2.out; omega
             case rel => exact ⟨(x6_2), (wrap64 (x7_2 + 1)), (by first | rfl | (simp; done) | (simp [*]; done)), (by first | rfl | (simp; done) | (simp [*]; done)), H', ⟨by have := HJ4.out; have := HK2.out; omega⟩, ⟨by repeat (first | (with_reducible first | exact HB.out | apply below_alloc | apply pw_below_drewN | apply below_drew1) | exact HB.out)⟩⟩
           ·rw [if_neg c26] at H
            exact absurd H (by simp)
          ·rw [if_neg c25] at H
           exact absurd H (by simp)
         ·rw [if_neg c24] at H
          have c24b0 : decide (x7_2 < (l0.length : Int)) = false := decide_eq_false c24
          clear c24
          by_cases c28 : 0 ≤ x6_2
          ·rw [if_pos c28] at H
           have c28b0 : decide (0 ≤ x6_2) = true := decide_eq_true c28
           clear c28
           by_cases c29 : x6_2 < (l0.length : Int)
           ·rw [if_pos c29] at H
            have c29b0 : decide (x6_2 < (l0.length : Int)) = true := decide_eq_true c29
            clear c29
            replace H := Option.bind_eq_some_iff.mp H
            obtain ⟨t268, A300, H⟩ := H
            replace H : (if (t268.length : Int) ≤ 4 then (some ((([(⟨(rd_T39 l0 x6_2).f0, t268, (rd_T39 l0 x6_2).f2, false⟩ : S39)] : List (S39))), 0)) else (cobwebref10_Insert.l1 k2 l0 t268 1 ((rd_T39 l0 x6_2).f0) ((rd_T39 l0 x6_2).f1) ((rd_T39 l0 x6_2).f2) ((rd_T39 l0 x6_2).f3))) = some (r1, r2) := H
            have A30 := Aside0.mk A300
            clear A300
            by_cases c31 : (t268.length : Int) ≤ 4
            ·rw [if_pos c31] at H
             have c31b0 : decide ((t268.length : Int) ≤ 4) = true := decide_eq_true c31
             have c31b1 : decide (t268.length ≤ 4) = true := decide_eq_true (by omega)
             clear c31
             obtain ⟨y271, hy271⟩ : ∃ y_ : List (S39), y_ = (([(⟨(rd_T39 l0 x6_2).f0, t268, (rd_T39 l0 x6_2).f2, false⟩ : S39)] : List (S39))) := ⟨_, rfl⟩
             replace H : (some (y271, 0)) = some (r1, r2) := by first | (rw [hy271]; with_reducible exact H) | (have H2_ := (Option.bind_some _ _).symm.trans H; rw [hy271]; with_reducible exact H2_) | (have H2_ := (Option.bind_some _ _).symm.trans H; with_reducible exact H2_) | with_reducible exact H | (rw [hy271]; exact H) | exact H
             have Ny271 := Aside0.mk hy271
             clear hy271
             simp only [Option.some.injEq, Prod.mk.injEq] at H
             obtain ⟨rfl, rfl⟩ := H
             have p266 : 0 ≤ (x6_2 : Int) := of_decide_eq_true (by first | (with_reducible assumption) | assumption)
             have q266 : x6_2 < (l0.length : Int) := of_decide_eq_true (by first | (with_reducible assumption) | assumption)
             obtain ⟨ad266, A266_1, c266_1, e266, hx266_0, hx266_1, hx266_2, hx266_3, hl266_1, hi266_1⟩ := at_T39 HR0.out x6_2 p266 q266
             cases e266
             replace hx266_0 := (HB.out.cell (World.block_lt_of_cell? w _ hx266_0)).trans hx266_0
             replace hx266_1 := (HB.out.cell (World.block_lt_of_cell? w _ hx266_1)).trans hx266_1
             replace hx266_2 := (HB.out.cell (World.block_lt_of_cell? w _ hx266_2)).trans hx266_2
             replace hx266_3 := (HB.out.cell (World.block_lt_of_cell? w _ hx266_3)).trans hx266_3
             have HR266_1 := Aside0.mk hi266_1
             have HC266_1 := Aside0.mk hl266_1
             clear hi266_1 hl266_1
             replace p266 := eq_true p266
             replace q266 := eq_true q266
             go_wp2_with (first | ((with_reducible refine gate_dst (N := 8) rfl ?_); refine box_event ?hg (N := 8) ?hd (cs := #[.int .i64 0, .slice none 0 0, .int .i64 0, .bool false]) (t := 39) ?hr ?_; (case hd => rfl); (case hg => rfl); (case hr => first | (go_simp; done) | (go_simp; rfl)); intro gb267 hg w32 hbox hb; have n0_ := Aside0.mk (below_step (by repeat (first | (with_reducible first | exact HB.out | apply below_alloc | apply pw_below_drewN | apply below_drew1) | exact HB.out)) hb); have n1_ := Aside0.mk (hbox); have n2_ := Aside0.mk ((by rw [hg]; exact (below_size (by repeat (first | (with_reducible first | exact HB.out | apply below_alloc | apply pw_below_drewN | apply below_drew1) | exact HB.out))) : w.heap.size ≤ gb267)); have n3_ := Aside0.mk ((by rw [hg]; exact (below_size (by repeat (first | (with_reducible first | exact HB.out | apply below_alloc | apply pw_below_drewN | apply below_drew1) | exact HB.out))) : w.heap.size ≤ gb267)); clear HB; have HB := n0_; have BK267 := n1_; have GW267 := n2_; have GE267 := n3_; clear n0_ n1_ n2_ n3_; clear hb hbox hg; have hcz33_0 : w32.cell? ⟨gb267, 0, none⟩ = some (.int .i64 0) := (blk_cell BK267.out 0).trans rfl; have hcz33_1 : w32.cell? ⟨gb267, 1, none⟩ = some (.slice none 0 0) := (blk_cell BK267.out 1).trans rfl; have hcz33_2 : w32.cell? ⟨gb267, 2, none⟩ = some (.int .i64 0) := (blk_cell BK267.out 2).trans rfl; have hcz33_3 : w32.cell? ⟨gb267, 3, none⟩ = some (.bool false) := (blk_cell BK267.out 3).trans rfl; have hfz33_0 := blk_frozen BK267.out 0; have hfz33_1 := blk_frozen BK267.out 1; have hfz33_2 := blk_frozen BK267.out 2; have hfz33_3 := blk_frozen BK267.out 3) | ((with_reducible refine gate_callee (f := 37) rfl ?_); refine goesL_ (some 54) rfl rfl Try.func37 (by kernel_rfl) rfl #[.slice A266_1 ((rd_T39 l0 x6_2).f1).length c266_1, .int .i64 a1] rfl (by (try simp only [List.map_toArray, List.map_cons, List.map_nil]); first | done | rfl | (simp only [List.length_drop, List.length_take]; rfl)) ?_; (with_reducible refine (cobwebref10_put.calls k2 _ _ ((rd_T39 l0 x6_2).f1) a1 t268 _ ?side1 ?side2 A30.out).mono ?_); (case side1 => exact Kd.C_below HR266_1.out (by repeat (first | (with_reducible first | exact HB.out | apply below_alloc | apply pw_below_drewN | apply below_drew1 | refine below_set ?_ GE267.out) | exact HB.out))); (case side2 => exact HC266_1.out); rintro e w34 ⟨v269, rfl, ho0, hb⟩; refine ⟨_, rfl, ?_⟩; have n0_ := Aside0.mk (Kd.R_lower (Kd.R_newM (M := fun k_ => (w.heap.size ≤ k_)) ho0 (below_size (by repeat (first | (with_reducible first | exact HB.out | apply below_alloc | apply pw_below_drewN | apply below_drew1 | refine below_set ?_ GE267.out) | exact HB.out))) (fun k_ h_ => h_)) (below_size (by repeat (first | (with_reducible first | exact HB.out | apply below_alloc | apply pw_below_drewN | apply below_drew1 | refine below_set ?_ GE267.out) | exact HB.out)))); have n1_ := Aside0.mk (blk_below (g := gb267) (o := .cells #[.int .i64 ((rd_T39 l0 x6_2).f0), .slice A266_1 ((rd_T39 l0 x6_2).f1).length c266_1, .int .i64 ((rd_T39 l0 x6_2).f2), .bool ((rd_T39 l0 x6_2).f3)] 39 (0, 0)) (by (with_reducible repeat (first | refine blk_drewN ?_ _ | refine blk_drew ?_ | refine blk_alloc ?_ _)); refine blk_put (cs := #[.int .i64 ((rd_T39 l0 x6_2).f0), .slice A266_1 ((rd_T39 l0 x6_2).f1).length c266_1, .int .i64 ((rd_T39 l0 x6_2).f2), .bool false]) ?_ 3 _ rfl; (with_reducible repeat (first | refine blk_drewN ?_ _ | refine blk_drew ?_ | refine blk_alloc ?_ _)); refine blk_put (cs := #[.int .i64 ((rd_T39 l0 x6_2).f0), .slice A266_1 ((rd_T39 l0 x6_2).f1).length c266_1, .int .i64 0, .bool false]) ?_ 2 _ rfl; (with_reducible repeat (first | refine blk_drewN ?_ _ | refine blk_drew ?_ | refine blk_alloc ?_ _)); refine blk_put (cs := #[.int .i64 ((rd_T39 l0 x6_2).f0), .slice none 0 0, .int .i64 0, .bool false]) ?_ 1 _ rfl; (with_reducible repeat (first | refine blk_drewN ?_ _ | refine blk_drew ?_ | refine blk_alloc ?_ _)); refine blk_put (cs := #[.int .i64 0, .slice none 0 0, .int .i64 0, .bool false]) ?_ 0 _ rfl; (with_reducible repeat (first | refine blk_drewN ?_ _ | refine blk_drew ?_ | refine blk_alloc ?_ _)); exact BK267.out) hb); have n2_ := Aside0.mk (below_step (by repeat (first | (with_reducible first | exact HB.out | apply below_alloc | apply pw_below_drewN | apply below_drew1 | refine below_set ?_ GE267.out) | exact HB.out)) hb); clear BK267; clear HB; have HO270 := n0_; have BK267 := n1_; have HB := n2_; clear n0_ n1_ n2_; (try clear hb); (try clear hb2); (try clear hk); (try clear hi); (try clear ho0); obtain ⟨Ao35, co35, eo35⟩ := Kd.R_slice HO270.out; subst eo35; have hcz36_0 : w34.cell? ⟨gb267, 0, none⟩ = some (.int .i64 ((rd_T39 l0 x6_2).f0)) := (blk_cell BK267.out 0).trans rfl; have hcz36_1 : w34.cell? ⟨gb267, 1, none⟩ = some (.slice A266_1 ((rd_T39 l0 x6_2).f1).length c266_1) := (blk_cell BK267.out 1).trans rfl; have hcz36_2 : w34.cell? ⟨gb267, 2, none⟩ = some (.int .i64 ((rd_T39 l0 x6_2).f2)) := (blk_cell BK267.out 2).trans rfl; have hcz36_3 : w34.cell? ⟨gb267, 3, none⟩ = some (.bool ((rd_T39 l0 x6_2).f3)) := (blk_cell BK267.out 3).trans rfl; have hfz36_0 := blk_frozen BK267.out 0; have hfz36_1 := blk_frozen BK267.out 1; have hfz36_2 := blk_frozen BK267.out 2; have hfz36_3 := blk_frozen BK267.out 3) | ((with_reducible refine gate_dst (N := 64) rfl ?_); refine Kd.N_lit k39 _ 39 ?hg (N' := 64) ?hd (xs := ([(⟨(rd_T39 l0 x6_2).f0, t268, (rd_T39 l0 x6_2).f2, false⟩ : S39)] : List (S39))) (inner := [.int .i64 ((rd_T39 l0 x6_2).f0), .slice Ao35 t268.length co35, .int .i64 ((rd_T39 l0 x6_2).f2), .bool false]) (ok := (fun k_ => (w.heap.size ≤ k_) ∧ k_ ≠ gb267)) (okp := (fun k_ => (w.heap.size ≤ k_) ∧ k_ ≠ gb267)) ?hr ?hp (fun _ hk => hk) ((show ∀ k_, w34.heap.size ≤ k_ → (fun k_ => (w.heap.size ≤ k_) ∧ k_ ≠ gb267) k_ from fun k_ hk => ⟨(Nat.le_trans (below_size (by repeat (first | (with_reducible first | exact HB.out | apply below_alloc | apply pw_below_drewN | apply below_drew1 | refine below_set ?_ GE267.out) | exact HB.out))) hk), Kd.freshB (g := gb267) (o := .cells #[.int .i64 ((rd_T39 l0 x6_2).f0), .slice A266_1 ((rd_T39 l0 x6_2).f1).length c266_1, .int .i64 ((rd_T39 l0 x6_2).f2), .bool ((rd_T39 l0 x6_2).f3)] 39 (0, 0)) (by (with_reducible repeat (first | refine blk_drewN ?_ _ | refine blk_drew ?_ | refine blk_alloc ?_ _)); exact BK267.out) k_ hk⟩) _ (Nat.le_refl _)) (Below.refl _ _) (Nat.le_refl _) (by simp) ?_; (case hd => rfl); (case hg => rfl); (case hr => first | (go_simp; done) | (go_simp; rfl)); (case hp => exact (Reps.c4 (show Kd.FK k39 _ _ (⟨(rd_T39 l0 x6_2).f0, t268, (rd_T39 l0 x6_2).f2, false⟩ : S39) [.int .i64 ((rd_T39 l0 x6_2).f0), .slice Ao35 t268.length co35, .int .i64 ((rd_T39 l0 x6_2).f2), .bool false] from (k39_mkF _ _ (⟨(rd_T39 l0 x6_2).f0, t268, (rd_T39 l0 x6_2).f2, false⟩ : S39) (Kd.R_reads' (Kd.R_mono (ok' := (fun k_ => (w.heap.size ≤ k_) ∧ k_ ≠ gb267)) (Kd.R_types (HO270.out) BK267.out (by decide)) (fun k_ hk => ⟨hk.1.1, hk.2⟩))).2.1 (Kd.R_F (Kd.R_mono (ok' := (fun k_ => (w.heap.size ≤ k_) ∧ k_ ≠ gb267)) (Kd.R_types (HO270.out) BK267.out (by decide)) (fun k_ hk => ⟨hk.1.1, hk.2⟩))))) (Reps.none _ _))); intro v272 w37 ho38 hb hg_ hnew_; clear hg_ hnew_; (first | rw [← Ny271.out] at ho38 | (simp only [Int.reduceToNat] at ho38; rw [← Ny271.out] at ho38)); have n0_ := Aside0.mk (Kd.N_lower ho38 (below_size (by repeat (first | (with_reducible first | exact HB.out | apply below_alloc | apply pw_below_drewN | apply below_drew1 | refine below_set ?_ GE267.out) | exact HB.out)))); have n1_ := Aside0.mk (blk_below (g := gb267) (o := .cells #[.int .i64 ((rd_T39 l0 x6_2).f0), .slice A266_1 ((rd_T39 l0 x6_2).f1).length c266_1, .int .i64 ((rd_T39 l0 x6_2).f2), .bool ((rd_T39 l0 x6_2).f3)] 39 (0, 0)) (by (with_reducible repeat (first | refine blk_drewN ?_ _ | refine blk_drew ?_ | refine blk_alloc ?_ _)); exact BK267.out) hb); have n2_ := Aside0.mk (below_step (by repeat (first | (with_reducible first | exact HB.out | apply below_alloc | apply pw_below_drewN | apply below_drew1 | refine below_set ?_ GE267.out) | exact HB.out)) hb); clear BK267; clear HB; clear HO270; have HO273 := n0_; have BK267 := n1_; have HB := n2_; clear n0_ n1_ n2_; clear hb ho38))
             go_ret2
             exact ⟨_, by first | rfl | (simp [errW_none, errW_some] <;> rfl) | (simp [*, errW_none, errW_some] <;> rfl), by (with_reducible repeat (first | apply Kd.N_alloc | apply Kd.N_drewN | apply Kd.N_drew)); exact Kd.N_mono HO273.out (fun _ hk => hk.1), by repeat (first | (with_reducible first | exact HB.out | apply below_alloc | apply pw_below_drewN | apply below_drew1 | refine below_set ?_ GE267.out) | exact HB.out)⟩
            ·rw [if_neg c31] at H
             have c31b0 : decide ((t268.length : Int) ≤ 4) = false := decide_eq_false c31
             have c31b1 : decide (t268.length ≤ 4) = false := decide_eq_false (by omega)
             clear c31
             have H' := Aside0.mk H
             clear H
             have p266 : 0 ≤ (x6_2 : Int) := of_decide_eq_true (by first | (with_reducible assumption) | assumption)
             have q266 : x6_2 < (l0.length : Int) := of_decide_eq_true (by first | (with_reducible assumption) | assumption)
             obtain ⟨ad266, A266_1, c266_1, e266, hx266_0, hx266_1, hx266_2, hx266_3, hl266_1, hi266_1⟩ := at_T39 HR0.out x6_2 p266 q266
             cases e266
             replace hx266_0 := (HB.out.cell (World.block_lt_of_cell? w _ hx266_0)).trans hx266_0
             replace hx266_1 := (HB.out.cell (World.block_lt_of_cell? w _ hx266_1)).trans hx266_1
             replace hx266_2 := (HB.out.cell (World.block_lt_of_cell? w _ hx266_2)).trans hx266_2
             replace hx266_3 := (HB.out.cell (World.block_lt_of_cell? w _ hx266_3)).trans hx266_3
             have HR266_1 := Aside0.mk hi266_1
             have HC266_1 := Aside0.mk hl266_1
             clear hi266_1 hl266_1
             replace p266 := eq_true p266
             replace q266 := eq_true q266
             go_wp2_with (first | ((with_reducible refine gate_dst (N := 8) rfl ?_); refine box_event ?hg (N := 8) ?hd (cs := #[.int .i64 0, .slice none 0 0, .int .i64 0, .bool false]) (t := 39) ?hr ?_; (case hd => rfl); (case hg => rfl); (case hr => first | (go_simp; done) | (go_simp; rfl)); intro gb267 hg w39 hbox hb; have n0_ := Aside0.mk (below_step (by repeat (first | (with_reducible first | exact HB.out | apply below_alloc | apply pw_below_drewN | apply below_drew1) | exact HB.out)) hb); have n1_ := Aside0.mk (hbox); have n2_ := Aside0.mk ((by rw [hg]; exact (below_size (by repeat (first | (with_reducible first | exact HB.out | apply below_alloc | apply pw_below_drewN | apply below_drew1) | exact HB.out))) : w.heap.size ≤ gb267)); have n3_ := Aside0.mk ((by rw [hg]; exact (below_size (by repeat (first | (with_reducible first | exact HB.out | apply below_alloc | apply pw_below_drewN | apply below_drew1) | exact HB.out))) : w.heap.size ≤ gb267)); clear HB; have HB := n0_; have BK267 := n1_; have GW267 := n2_; have GE267 := n3_; clear n0_ n1_ n2_ n3_; clear hb hbox hg; have hcz40_0 : w39.cell? ⟨gb267, 0, none⟩ = some (.int .i64 0) := (blk_cell BK267.out 0).trans rfl; have hcz40_1 : w39.cell? ⟨gb267, 1, none⟩ = some (.slice none 0 0) := (blk_cell BK267.out 1).trans rfl; have hcz40_2 : w39.cell? ⟨gb267, 2, none⟩ = some (.int .i64 0) := (blk_cell BK267.out 2).trans rfl; have hcz40_3 : w39.cell? ⟨gb267, 3, none⟩ = some (.bool false) := (blk_cell BK267.out 3).trans rfl; have hfz40_0 := blk_frozen BK267.out 0; have hfz40_1 := blk_frozen BK267.out 1; have hfz40_2 := blk_frozen BK267.out 2; have hfz40_3 := blk_frozen BK267.out 3) | ((with_reducible refine gate_callee (f := 37) rfl ?_); refine goesL_ (some 54) rfl rfl Try.func37 (by kernel_rfl) rfl #[.slice A266_1 ((rd_T39 l0 x6_2).f1).length c266_1, .int .i64 a1] rfl (by (try simp only [List.map_toArray, List.map_cons, List.map_nil]); first | done | rfl | (simp only [List.length_drop, List.length_take]; rfl)) ?_; (with_reducible refine (cobwebref10_put.calls k2 _ _ ((rd_T39 l0 x6_2).f1) a1 t268 _ ?side1 ?side2 A30.out).mono ?_); (case side1 => exact Kd.C_below HR266_1.out (by repeat (first | (with_reducible first | exact HB.out | apply below_alloc | apply pw_below_drewN | apply below_drew1 | refine below_set ?_ GE267.out) | exact HB.out))); (case side2 => exact HC266_1.out); rintro e w41 ⟨v269, rfl, ho0, hb⟩; refine ⟨_, rfl, ?_⟩; have n0_ := Aside0.mk (Kd.R_lower (Kd.R_newM (M := fun k_ => (w.heap.size ≤ k_)) ho0 (below_size (by repeat (first | (with_reducible first | exact HB.out | apply below_alloc | apply pw_below_drewN | apply below_drew1 | refine below_set ?_ GE267.out) | exact HB.out))) (fun k_ h_ => h_)) (below_size (by repeat (first | (with_reducible first | exact HB.out | apply below_alloc | apply pw_below_drewN | apply below_drew1 | refine below_set ?_ GE267.out) | exact HB.out)))); have n1_ := Aside0.mk (blk_below (g := gb267) (o := .cells #[.int .i64 ((rd_T39 l0 x6_2).f0), .slice A266_1 ((rd_T39 l0 x6_2).f1).length c266_1, .int .i64 ((rd_T39 l0 x6_2).f2), .bool ((rd_T39 l0 x6_2).f3)] 39 (0, 0)) (by (with_reducible repeat (first | refine blk_drewN ?_ _ | refine blk_drew ?_ | refine blk_alloc ?_ _)); refine blk_put (cs := #[.int .i64 ((rd_T39 l0 x6_2).f0), .slice A266_1 ((rd_T39 l0 x6_2).f1).length c266_1, .int .i64 ((rd_T39 l0 x6_2).f2), .bool false]) ?_ 3 _ rfl; (with_reducible repeat (first | refine blk_drewN ?_ _ | refine blk_drew ?_ | refine blk_alloc ?_ _)); refine blk_put (cs := #[.int .i64 ((rd_T39 l0 x6_2).f0), .slice A266_1 ((rd_T39 l0 x6_2).f1).length c266_1, .int .i64 0, .bool false]) ?_ 2 _ rfl; (with_reducible repeat (first | refine blk_drewN ?_ _ | refine blk_drew ?_ | refine blk_alloc ?_ _)); refine blk_put (cs := #[.int .i64 ((rd_T39 l0 x6_2).f0), .slice none 0 0, .int .i64 0, .bool false]) ?_ 1 _ rfl; (with_reducible repeat (first | refine blk_drewN ?_ _ | refine blk_drew ?_ | refine blk_alloc ?_ _)); refine blk_put (cs := #[.int .i64 0, .slice none 0 0, .int .i64 0, .bool false]) ?_ 0 _ rfl; (with_reducible repeat (first | refine blk_drewN ?_ _ | refine blk_drew ?_ | refine blk_alloc ?_ _)); exact BK267.out) hb); have n2_ := Aside0.mk (below_step (by repeat (first | (with_reducible first | exact HB.out | apply below_alloc | apply pw_below_drewN | apply below_drew1 | refine below_set ?_ GE267.out) | exact HB.out)) hb); clear BK267; clear HB; have HO270 := n0_; have BK267 := n1_; have HB := n2_; clear n0_ n1_ n2_; (try clear hb); (try clear hb2); (try clear hk); (try clear hi); (try clear ho0); obtain ⟨Ao42, co42, eo42⟩ := Kd.R_slice HO270.out; subst eo42))
             go_loopg [10] k2 (fun kq v10 w' => ∃ (x10_3 : Int), v10 = .int .i64 x10_3 ∧ Aside0 (cobwebref10_Insert.l1 kq l0 t268 x10_3 ((rd_T39 l0 x6_2).f0) ((rd_T39 l0 x6_2).f1) ((rd_T39 l0 x6_2).f2) ((rd_T39 l0 x6_2).f3) = some (r1, r2)) ∧ Aside0 (kq ≤ k2) ∧ Aside0 (Kd.R (Kd.int .i64) 3 w' w.heap.size (fun k_ => (w.heap.size ≤ k_)) (.slice Ao42 t268.length co42) t268) ∧ Aside0 (w'.heap[gb267]? = some (.cells #[.int .i64 ((rd_T39 l0 x6_2).f0), (.slice A266_1 ((rd_T39 l0 x6_2).f1).length c266_1), .int .i64 ((rd_T39 l0 x6_2).f2), .bool ((rd_T39 l0 x6_2).f3)] 39 (0, 0))) ∧ Aside0 (Below w.heap.size w w'))
             case atStart => exact ⟨(1), (by first | rfl | (simp; done) | (simp [*]; done)), H', ⟨Nat.le_refl _⟩, ⟨by (with_reducible repeat (first | apply Kd.R_alloc | apply Kd.R_drewN | apply Kd.R_drew)); exact Kd.R_mono HO270.out (fun _ hk => hk.1)⟩, ⟨by (with_reducible repeat (first | refine blk_drewN ?_ _ | refine blk_drew ?_ | refine blk_alloc ?_ _)); exact BK267.out⟩, ⟨by repeat (first | (with_reducible first | exact HB.out | apply below_alloc | apply pw_below_drewN | apply below_drew1 | refine below_set ?_ GE267.out) | exact HB.out)⟩⟩
             case round =>
              clear H'
              try clear c1
              try clear c2
              try clear p2
              try clear q2
              try clear hx2
              try clear qi2
              try clear c3
              try clear c4
              try clear p6
              try clear c7
              try clear c7b0
              try clear c8
              try clear c11
              try clear c14
              try clear c14b0
              try clear c14b1
              try clear c14b2
              try clear c17
              try clear c20
              try clear c21
              try clear c24
              try clear c24b0
              try clear c25
              try clear c25b0
              try clear c26
              try clear c26b0
              try clear c26b1
              try clear p26
              try clear q26
              try clear hx26
              try clear qi26
              try clear c27
              try clear c27b0
              try clear c28
              try clear c28b0
              try clear c29
              try clear c29b0
              try clear c31
              try clear c31b0
              try clear c31b1
              try clear c37
              try clear hcz33_0
              try clear hcz33_1
              try clear hcz33_2
              try clear hcz33_3
              try clear hcz36_0
              try clear hcz36_1
              try clear hcz36_2
              try clear hcz36_3
              try clear hcz40_0
              try clear hcz40_1
              try clear hcz40_2
              try clear hcz40_3
              try clear hfz33_0
              try clear hfz33_1
              try clear hfz33_2
              try clear hfz33_3
              try clear hfz36_0
              try clear hfz36_1
              try clear hfz36_2
              try clear hfz36_3
              try clear hfz40_0
              try clear hfz40_1
              try clear hfz40_2
              try clear hfz40_3
              try clear hx264_0
              try clear hx264_1
              try clear hx264_2
              try clear hx264_3
              try clear hx265_0
              try clear hx266_0
              try clear hx266_1
              try clear hx266_2
              try clear hx266_3
              try clear p2
              try clear p264
              try clear p265
              try clear p266
              try clear q264
              try clear q265
              try clear q266
              obtain ⟨x10_3, rfl, HA, HK3, HO_9, BK267, HB⟩ := hrel
              cases gk with
              | zero => exact absurd HA.out (by simp [cobwebref10_Insert.l1])
              | succ k3 =>
               have H := HA.out
               clear HA
               simp only [cobwebref10_Insert.l1] at H
               replace H := Option.bind_eq_some_iff.mp H
               obtain ⟨t274, A430, H⟩ := H
               replace H : (if t274 = true then (cobwebref10_Insert.l1 k3 l0 t268 (wrap64 (x10_3 + 1)) ((rd_T39 l0 x6_2).f0) ((rd_T39 l0 x6_2).f1) ((rd_T39 l0 x6_2).f2) ((rd_T39 l0 x6_2).f3)) else (if 3 ≤ (t268.length : Int) then (some ((([(⟨((rd_T39 l0 x6_2).f0), (t268.take 3), x10_3, false⟩ : S39), (⟨x10_3, (t268.drop 3), ((rd_T39 l0 x6_2).f2), false⟩ : S39)] : List (S39))), 0)) else (none))) = some (r1, r2) := H
               have A43 := Aside0.mk A430
               clear A430
               by_cases c44 : t274 = true
               ·subst c44
                have H1 : (cobwebref10_Insert.l1 k3 l0 t268 (wrap64 (x10_3 + 1)) ((rd_T39 l0 x6_2).f0) ((rd_T39 l0 x6_2).f1) ((rd_T39 l0 x6_2).f2) ((rd_T39 l0 x6_2).f3)) = some (r1, r2) := by rw [if_pos rfl] at H; exact H
                clear H
                have H := H1
                clear H1
                have H' := Aside0.mk H
                clear H
                go_wp2_with (first | ((with_reducible refine gate_callee (f := 38) rfl ?_); refine goesL_ (some 67) rfl rfl Try.func38 (by kernel_rfl) rfl #[.slice (some ad266) l0.length c0, .int .i64 x10_3] rfl (by (try simp only [List.map_toArray, List.map_cons, List.map_nil]); first | done | rfl | (simp only [List.length_drop, List.length_take]; rfl)) ?_; (with_reducible refine (cobwebref10_used.calls k3 _ _ l0 x10_3 true _ ?side1 ?side2 A43.out).mono ?_); (case side1 => repeat (first | exact (Kd.C_below HR0.out HB.out) | (with_reducible refine Kd.C_alloc ?_ _) | (with_reducible refine Kd.C_drewN ?_ _) | (with_reducible refine Kd.C_drew ?_))); (case side2 => exact HC0.out); rintro e w' ⟨rfl, ⟨nd, rfl⟩⟩; refine ⟨_, rfl, ?_⟩))
                go_roundg k3
                case measure => have := HJ4.out; have := HK2.out; have := HK3.out; omega
                case rel => exact ⟨(wrap64 (x10_3 + 1)), (by first | rfl | (simp; done) | (simp [*]; done)), H', ⟨by have := HJ4.out; have := HK2.out; have := HK3.out; omega⟩, ⟨by (with_reducible repeat (first | apply Kd.R_alloc | apply Kd.R_drewN | apply Kd.R_drew)); exact HO_9.out⟩, ⟨by (with_reducible repeat (first | refine blk_drewN ?_ _ | refine blk_drew ?_ | refine blk_alloc ?_ _)); exact BK267.out⟩, ⟨by repeat (first | (with_reducible first | exact HB.out | apply below_alloc | apply pw_below_drewN | apply below_drew1 | refine below_set ?_ GE267.out) | exact HB.out)⟩⟩
               ·replace c44 := Bool.eq_false_iff.mpr c44
                subst c44
                have H1 : (if 3 ≤ (t268.length : Int) then (some ((([(⟨((rd_T39 l0 x6_2).f0), (t268.take 3), x10_3, false⟩ : S39), (⟨x10_3, (t268.drop 3), ((rd_T39 l0 x6_2).f2), false⟩ : S39)] : List (S39))), 0)) else (none)) = some (r1, r2) := by rw [if_neg (show ¬ (false = true) by decide)] at H; exact H
                clear H
                have H := H1
                clear H1
                by_cases c45 : 3 ≤ (t268.length : Int)
                ·rw [if_pos c45] at H
                 have c45b0 := eq_true c45
                 have c45b1 : decide (3 ≤ (t268.length : Int)) = true := decide_eq_true c45
                 clear c45
                 obtain ⟨y275, hy275⟩ : ∃ y_ : List Int, y_ = (t268.take 3) := ⟨_, rfl⟩
                 replace H : (some ((([(⟨((rd_T39 l0 x6_2).f0), y275, x10_3, false⟩ : S39), (⟨x10_3, (t268.drop 3), ((rd_T39 l0 x6_2).f2), false⟩ : S39)] : List (S39))), 0)) = some (r1, r2) := by first | (rw [hy275]; with_reducible exact H) | (have H2_ := (Option.bind_some _ _).symm.trans H; rw [hy275]; with_reducible exact H2_) | (have H2_ := (Option.bind_some _ _).symm.trans H; with_reducible exact H2_) | with_reducible exact H | (rw [hy275]; exact H) | exact H
                 have Ny275 := Aside0.mk hy275
                 clear hy275
                 have c46b0 := eq_true (of_decide_eq_true (by first | (with_reducible assumption) | assumption) : 3 ≤ (t268.length : Int))
                 obtain ⟨y280, hy280⟩ : ∃ y_ : List Int, y_ = (t268.drop 3) := ⟨_, rfl⟩
                 replace H : (some ((([(⟨((rd_T39 l0 x6_2).f0), y275, x10_3, false⟩ : S39), (⟨x10_3, y280, ((rd_T39 l0 x6_2).f2), false⟩ : S39)] : List (S39))), 0)) = some (r1, r2) := by first | (rw [hy280]; with_reducible exact H) | (have H2_ := (Option.bind_some _ _).symm.trans H; rw [hy280]; with_reducible exact H2_) | (have H2_ := (Option.bind_some _ _).symm.trans H; with_reducible exact H2_) | with_reducible exact H | (rw [hy280]; exact H) | exact H
                 have Ny280 := Aside0.mk hy280
                 clear hy280
                 obtain ⟨y285, hy285⟩ : ∃ y_ : List (S39), y_ = (([(⟨((rd_T39 l0 x6_2).f0), y275, x10_3, false⟩ : S39), (⟨x10_3, y280, ((rd_T39 l0 x6_2).f2), false⟩ : S39)] : List (S39))) := ⟨_, rfl⟩
                 replace H : (some (y285, 0)) = some (r1, r2) := by first | (rw [hy285]; with_reducible exact H) | (have H2_ := (Option.bind_some _ _).symm.trans H; rw [hy285]; with_reducible exact H2_) | (have H2_ := (Option.bind_some _ _).symm.trans H; with_reducible exact H2_) | with_reducible exact H | (rw [hy285]; exact H) | exact H
                 have Ny285 := Aside0.mk hy285
                 clear hy285
                 simp only [Option.some.injEq, Prod.mk.injEq] at H
                 obtain ⟨rfl, rfl⟩ := H
                 try go_wp2_with (first | ((with_reducible refine gate_callee (f := 38) rfl ?_); refine goesL_ (some 67) rfl rfl Try.func38 (by kernel_rfl) rfl #[.slice (some ad266) l0.length c0, .int .i64 x10_3] rfl (by (try simp only [List.map_toArray, List.map_cons, List.map_nil]); first | done | rfl | (simp only [List.length_drop, List.length_take]; rfl)) ?_; (with_reducible refine (cobwebref10_used.calls k3 _ _ l0 x10_3 false _ ?side1 ?side2 A43.out).mono ?_); (case side1 => repeat (first | exact (Kd.C_below HR0.out HB.out) | (with_reducible refine Kd.C_alloc ?_ _) | (with_reducible refine Kd.C_drewN ?_ _) | (with_reducible refine Kd.C_drew ?_))); (case side2 => exact HC0.out); rintro e w' ⟨rfl, ⟨nd, rfl⟩⟩; refine ⟨_, rfl, ?_⟩))
                 (try (rw [drewN_self wr]; generalize hq_ : World.drewN wr _ = wr; have n0_ : Aside0 (Kd.R (Kd.int .i64) 3 wr w.heap.size (fun k_ => (w.heap.size ≤ k_)) (.slice Ao42 t268.length co42) t268) := ⟨by rw [← hq_]; exact (by (with_reducible repeat (first | apply Kd.R_alloc | apply Kd.R_drewN | apply Kd.R_drew)); exact HO_9.out)⟩; have n1_ : Aside0 (wr.heap[gb267]? = some (.cells #[.int .i64 ((rd_T39 l0 x6_2).f0), .slice A266_1 ((rd_T39 l0 x6_2).f1).length c266_1, .int .i64 ((rd_T39 l0 x6_2).f2), .bool ((rd_T39 l0 x6_2).f3)] 39 (0, 0))) := ⟨by rw [← hq_]; exact (by (with_reducible repeat (first | refine blk_drewN ?_ _ | refine blk_drew ?_ | refine blk_alloc ?_ _)); exact BK267.out)⟩; have n2_ : Aside0 (Below w.heap.size w wr) := ⟨by rw [← hq_]; exact (by repeat (first | (with_reducible first | exact HB.out | apply below_alloc | apply pw_below_drewN | apply below_drew1 | refine below_set ?_ GE267.out) | exact HB.out))⟩; clear HO_9 BK267 HB hq_; have HO_9 := n0_; have BK267 := n1_; have HB := n2_; clear n0_ n1_ n2_))
                 have n0_ := Aside0.mk (Kd.R_drew HO_9.out)
                 have n1_ := Aside0.mk (blk_drew BK267.out)
                 have n2_ := Aside0.mk (below_drew1 HB.out)
                 clear HO_9
                 clear BK267
                 clear HB
                 have HO_9 := n0_
                 have BK267 := n1_
                 have HB := n2_
                 clear n0_ n1_ n2_
                 have q48 : (3 : Int) ≤ ((t268.length : Int) : Int) := of_decide_eq_true (by first | (with_reducible assumption) | assumption)
                 obtain ⟨i048, hi048, _, hsz48, _⟩ := info_parts info3
                 have hroom48 : t268.length ≤ co42 := (Kd.R_reads' HO_9.out).2.1
                 have hC48 : Kd.F (Kd.int .i64) _ _ Ao42 t268.length t268 := (Kd.V_at (base := w.heap.size) (Kd.R_V (Kd.R_types (HO_9.out) BK267.out (by decide)))).2.2
                 have hcut48 := cut_to (P := Try.prog) 22 3 .i64 Try.underlying22 hi048 Ao42 t268.length co42 3 (by omega) q48 hroom48
                 have hr48 := Kd.F_take (m := 3) hC48 (by omega)
                 have hy48 : y275.length = (3 : Int).toNat := (by rw [Ny275.out, List.length_take]; omega)
                 rw [← Ny275.out] at hr48
                 rw [← hy48] at hcut48
                 have HO279 := Aside0.mk (show Kd.V (Kd.int .i64) 3 _ w.heap.size _ (.slice Ao42 y275.length co42) y275 from Kd.V_mk (by omega) hr48)
                 have HC279 := Aside0.mk (show y275.length ≤ co42 from by omega)
                 clear hr48 hC48 hroom48 hi048 hsz48
                 have KY48 := Aside0.mk hy48
                 clear hy48
                 replace q48 := eq_true q48
                 have q49 : (3 : Int) ≤ ((t268.length : Int) : Int) := of_decide_eq_true (by first | (with_reducible assumption) | assumption)
                 obtain ⟨i049, hi049, _, hsz49, _⟩ := info_parts info3
                 have hroom49 : t268.length ≤ co42 := (Kd.R_reads' HO_9.out).2.1
                 have hC49 : Kd.F (Kd.int .i64) _ _ Ao42 t268.length t268 := (Kd.V_at (base := w.heap.size) (Kd.R_V (Kd.R_types (HO_9.out) BK267.out (by decide)))).2.2
                 have hcut49 := cut_from (P := Try.prog) 22 3 .i64 Try.underlying22 hi049 1 hsz49 Ao42 t268.length co42 3 (by omega) q49
                 have hr49 := Kd.F_cut (m := (3 : Int).toNat) (c := co42) hC49 (by omega) hroom49
                 obtain ⟨A49, hA49⟩ : ∃ A1, A1 = (if co42 = (3 : Int).toNat then Ao42 else (Ao42 : Option Addr).map (·.add ((3 : Int).toNat * 1))) := ⟨_, rfl⟩
                 obtain ⟨c49, hc49⟩ : ∃ c1, c1 = co42 - (3 : Int).toNat := ⟨_, rfl⟩
                 have hy49 : y280.length = t268.length - (3 : Int).toNat := (by rw [Ny280.out, List.length_drop] <;> omega)
                 rw [show (t268).drop (3 : Int).toNat = y280 from Ny280.out.symm] at hr49
                 replace hr49 : Kd.F (Kd.int .i64) _ _ A49 y280.length y280 := (by rw [hA49]; exact hr49)
                 rw [← hy49, ← hA49, ← hc49] at hcut49
                 have HO284 := Aside0.mk (show Kd.V (Kd.int .i64) 3 _ w.heap.size _ (.slice A49 y280.length c49) y280 from Kd.V_mk (by rw [hy49, hc49]; exact Nat.sub_le_sub_right hroom49 _) hr49)
                 have HC284 := Aside0.mk (show y280.length ≤ c49 from by rw [hy49, hc49]; exact Nat.sub_le_sub_right hroom49 _)
                 clear hr49 hC49 hroom49 hi049 hsz49 hc49
                 have KY49 := Aside0.mk hy49
                 have KA49 := Aside0.mk hA49
                 clear hy49 hA49
                 replace q49 := eq_true q49
                 refine start_ (n := 15) (S := fun w' => w'.cell? ⟨gb267, 0, none⟩ = some (.int .i64 ((rd_T39 l0 x6_2).f0)) ∧ w'.cell? ⟨gb267, 1, none⟩ = some (.slice A266_1 ((rd_T39 l0 x6_2).f1).length c266_1) ∧ w'.cell? ⟨gb267, 2, none⟩ = some (.int .i64 ((rd_T39 l0 x6_2).f2)) ∧ w'.cell? ⟨gb267, 3, none⟩ = some (.bool ((rd_T39 l0 x6_2).f3))) (ds := []) #[false, false, false, false, false, false, false, false, false, false, false, false, false, false, false] (by kernel_rfl) rfl rfl ⟨(blk_cell BK267.out 0).trans rfl, (blk_cell BK267.out 1).trans rfl, (blk_cell BK267.out 2).trans rfl, (blk_cell BK267.out 3).trans rfl⟩ (fun hHeld => ?_); refine with_tabW cobwebref10_Insert.tab22 cobwebref10_Insert.bits22 (fun HT_ HW_ => ?_)
                 generalize wr.drew = w47 at HO_9 BK267 HB HO279 HO284 hHeld ⊢
                 refine pure_ (i := 0) (N := some 70) (v := ?_) (a' := ?_) #[true, false, false, false, false, false, false, false, false, false, false, false, false, false, false] rfl rfl (any_of HT_.out (by kernel_rfl)) (fun _ _ _ h => h) (Or.inl ⟨by rfl, ?_⟩) ?_ ?_
                 rotate_left
                 ·intro w'
                  go_simp
                  with_reducible rfl
                 rotate_left
                 ·simp only [Act.put, List.setIfInBounds_toArray, List.set_cons_zero, List.set_cons_succ, i64_w, i32_w]
                  rfl
                 refine pure_ (i := 2) (N := some 72) (v := ?_) (a' := ?_) #[true, false, true, false, false, false, false, false, false, false, false, false, false, false, false] rfl rfl (any_of HT_.out (by kernel_rfl)) (fun _ _ _ h => h) (Or.inl ⟨by rfl, ?_⟩) ?_ ?_
                 rotate_left
                 ·intro w'
                  go_simp
                  with_reducible rfl
                 rotate_left
                 ·simp only [Act.put, List.setIfInBounds_toArray, List.set_cons_zero, List.set_cons_succ, i64_w, i32_w]
                  rfl
                 refine pure_ (i := 3) (N := some 73) (v := ?_) (a' := ?_) #[true, false, true, true, false, false, false, false, false, false, false, false, false, false, false] rfl rfl (any_of HT_.out (by kernel_rfl)) (fun _ _ _ h => h) (Or.inl ⟨by rfl, ?_⟩) ?_ ?_
                 rotate_left
                 ·intro w'
                  go_simp
                  with_reducible rfl
                 rotate_left
                 ·simp only [Act.put, List.setIfInBounds_toArray, List.set_cons_zero, List.set_cons_succ, i64_w, i32_w]
                  rfl
                 refine pure_ (i := 4) (N := some 74) (v := ?_) (a' := ?_) #[true, false, true, true, true, false, false, false, false, false, false, false, false, false, false] rfl rfl (any_of HT_.out (by kernel_rfl)) (fun _ _ _ h => h) (Or.inl ⟨by rfl, ?_⟩) ?_ ?_
                 rotate_left
                 ·intro w'
                  go_simp
                  with_reducible rfl
                 rotate_left
                 ·simp only [Act.put, List.setIfInBounds_toArray, List.set_cons_zero, List.set_cons_succ, i64_w, i32_w]
                  rfl
                 refine pure_ (i := 6) (N := some 76) (v := ?_) (a' := ?_) #[true, false, true, true, true, false, true, false, false, false, false, false, false, false, false] rfl rfl (any_of HT_.out (by kernel_rfl)) (fun _ _ _ h => h) (Or.inl ⟨by rfl, ?_⟩) ?_ ?_
                 rotate_left
                 ·intro w'
                  go_simp
                  with_reducible rfl
                 rotate_left
                 ·simp only [Act.put, List.setIfInBounds_toArray, List.set_cons_zero, List.set_cons_succ, i64_w, i32_w]
                  rfl
                 refine pure_ (i := 7) (N := some 77) (v := ?_) (a' := ?_) #[true, false, true, true, true, false, true, true, false, false, false, false, false, false, false] rfl rfl (any_of HT_.out (by kernel_rfl)) (fun _ _ _ h => h) (Or.inl ⟨by rfl, ?_⟩) ?_ ?_
                 rotate_left
                 ·intro w'
                  go_simp
                  with_reducible rfl
                 rotate_left
                 ·simp only [Act.put, List.setIfInBounds_toArray, List.set_cons_zero, List.set_cons_succ, i64_w, i32_w]
                  rfl
                 refine pure_ (i := 8) (N := some 78) (v := ?_) (a' := ?_) #[true, false, true, true, true, false, true, true, true, false, false, false, false, false, false] rfl rfl (any_of HT_.out (by kernel_rfl)) (fun _ _ _ h => h) (Or.inl ⟨by rfl, ?_⟩) ?_ ?_
                 rotate_left
                 ·intro w'
                  go_simp
                  with_reducible rfl
                 rotate_left
                 ·simp only [Act.put, List.setIfInBounds_toArray, List.set_cons_zero, List.set_cons_succ, i64_w, i32_w]
                  rfl
                 refine pure_ (i := 9) (N := some 79) (v := ?_) (a' := ?_) #[true, false, true, true, true, false, true, true, true, true, false, false, false, false, false] rfl rfl (any_of HT_.out (by kernel_rfl)) (fun _ _ _ h => h) (Or.inl ⟨by rfl, ?_⟩) ?_ ?_
                 rotate_left
                 ·intro w'
                  go_simp
                  with_reducible rfl
                 rotate_left
                 ·simp only [Act.put, List.setIfInBounds_toArray, List.set_cons_zero, List.set_cons_succ, i64_w, i32_w]
                  rfl
                 refine take_ (i := 1) (N := some 71) (v := ?_) (a' := ?_) #[true, true, true, true, true, false, true, true, true, true, false, false, false, false, false] rfl rfl (take_ofW HT_.out HW_.out (by kernel_rfl)) (fun _ _ _ h => h) (Or.inl ⟨by rfl, ?_⟩) hHeld ?_ ?_
                 rotate_left
                 ·rintro w' ⟨s0, s1, s2, s3⟩
                  go_simp
                  with_reducible rfl
                 rotate_left
                 ·simp only [Act.put, List.setIfInBounds_toArray, List.set_cons_zero, List.set_cons_succ, i64_w, i32_w]
                  rfl
                 refine pure_ (i := 5) (N := some 75) (v := ?_) (a' := ?_) #[true, true, true, true, true, true, true, true, true, true, false, false, false, false, false] rfl rfl (any_of HT_.out (by kernel_rfl)) (fun _ _ _ h => h) (Or.inl ⟨by rfl, ?_⟩) ?_ ?_
                 rotate_left
                 ·intro w'
                  go_simp
                  with_reducible rfl
                 rotate_left
                 ·simp only [Act.put, List.setIfInBounds_toArray, List.set_cons_zero, List.set_cons_succ, i64_w, i32_w]
                  rfl
                 refine take_ (i := 10) (N := some 80) (v := ?_) (a' := ?_) #[true, true, true, true, true, true, true, true, true, true, true, false, false, false, false] rfl rfl (take_ofW HT_.out HW_.out (by kernel_rfl)) (fun _ _ _ h => h) (Or.inl ⟨by rfl, ?_⟩) hHeld ?_ ?_
                 rotate_left
                 ·rintro w' ⟨s0, s1, s2, s3⟩
                  go_simp
                  with_reducible rfl
                 rotate_left
                 ·simp only [Act.put, List.setIfInBounds_toArray, List.set_cons_zero, List.set_cons_succ, i64_w, i32_w]
                  rfl
                 refine pure_ (i := 11) (N := some 81) (v := ?_) (a' := ?_) #[true, true, true, true, true, true, true, true, true, true, true, true, false, false, false] rfl rfl (any_of HT_.out (by kernel_rfl)) (fun _ _ _ h => h) (Or.inl ⟨by rfl, ?_⟩) ?_ ?_
                 rotate_left
                 ·intro w'
                  go_simp
                  with_reducible rfl
                 rotate_left
                 ·simp only [Act.put, List.setIfInBounds_toArray, List.set_cons_zero, List.set_cons_succ, i64_w, i32_w]
                  rfl
                 refine one_ (i := 12) (N := some 82) #[true, true, true, true, true, true, true, true, true, true, true, true, true, false, false] rfl rfl (one_of HT_.out (by kernel_rfl)) (by decide) (fun K hK => ?_)
                 refine Kd.N_lit_step k39 _ 39 ?hg (N' := 82) ?hd (xs := ([(⟨((rd_T39 l0 x6_2).f0), y275, x10_3, false⟩ : S39), (⟨x10_3, y280, ((rd_T39 l0 x6_2).f2), false⟩ : S39)] : List (S39))) (inner := [.int .i64 ((rd_T39 l0 x6_2).f0), .slice Ao42 y275.length co42, .int .i64 x10_3, .bool false, .int .i64 x10_3, .slice A49 y280.length c49, .int .i64 ((rd_T39 l0 x6_2).f2), .bool false]) (ok := (fun k_ => (w.heap.size ≤ k_) ∧ k_ ≠ gb267)) (okp := (fun k_ => (w.heap.size ≤ k_) ∧ k_ ≠ gb267)) ?hr ?hp (fun _ hk => hk) ((show ∀ k_, w47.heap.size ≤ k_ → (fun k_ => (w.heap.size ≤ k_) ∧ k_ ≠ gb267) k_ from fun k_ hk => ⟨(Nat.le_trans (below_size (by repeat (first | (with_reducible first | exact HB.out | apply below_alloc | apply pw_below_drewN | apply below_drew1 | refine below_set ?_ GE267.out) | exact HB.out))) hk), Kd.freshB (g := gb267) (o := .cells #[.int .i64 ((rd_T39 l0 x6_2).f0), .slice A266_1 ((rd_T39 l0 x6_2).f1).length c266_1, .int .i64 ((rd_T39 l0 x6_2).f2), .bool ((rd_T39 l0 x6_2).f3)] 39 (0, 0)) (by (with_reducible repeat (first | refine blk_drewN ?_ _ | refine blk_drew ?_ | refine blk_alloc ?_ _)); exact BK267.out) k_ hk⟩) _ (Nat.le_refl _)) (Below.refl _ _) (Nat.le_refl _) (by simp) ?_; (case hd => rfl); (case hg => rfl); (case hr => first | (go_simp; done) | (go_simp; rfl)); (case hp => exact (Reps.c4 (show Kd.FK k39 _ _ (⟨((rd_T39 l0 x6_2).f0), y275, x10_3, false⟩ : S39) [.int .i64 ((rd_T39 l0 x6_2).f0), .slice Ao42 y275.length co42, .int .i64 x10_3, .bool false] from (k39_mkF _ _ (⟨((rd_T39 l0 x6_2).f0), y275, x10_3, false⟩ : S39) (Kd.V_reads' (Kd.V_mono (ok' := (fun k_ => (w.heap.size ≤ k_) ∧ k_ ≠ gb267)) (HO279.out) (fun k_ hk => ⟨hk.1, hk.2⟩))).2.1 (Kd.V_F (Kd.V_mono (ok' := (fun k_ => (w.heap.size ≤ k_) ∧ k_ ≠ gb267)) (HO279.out) (fun k_ hk => ⟨hk.1, hk.2⟩))))) (Reps.c4 (show Kd.FK k39 _ _ (⟨x10_3, y280, ((rd_T39 l0 x6_2).f2), false⟩ : S39) [.int .i64 x10_3, .slice A49 y280.length c49, .int .i64 ((rd_T39 l0 x6_2).f2), .bool false] from (k39_mkF _ _ (⟨x10_3, y280, ((rd_T39 l0 x6_2).f2), false⟩ : S39) (Kd.V_reads' (Kd.V_mono (ok' := (fun k_ => (w.heap.size ≤ k_) ∧ k_ ≠ gb267)) (HO284.out) (fun k_ hk => ⟨hk.1, hk.2⟩))).2.1 (Kd.V_F (Kd.V_mono (ok' := (fun k_ => (w.heap.size ≤ k_) ∧ k_ ≠ gb267)) (HO284.out) (fun k_ hk => ⟨hk.1, hk.2⟩))))) (Reps.none _ _))))
                 intro v286 w50 ho51 hb hg_ hnew_
                 clear hg_ hnew_
                 (first | rw [← Ny285.out] at ho51 | (simp only [Int.reduceToNat] at ho51; rw [← Ny285.out] at ho51))
                 have n0_ := Aside0.mk (Kd.R_below (by (with_reducible repeat (first | apply Kd.R_alloc | apply Kd.R_drewN | apply Kd.R_drew)); exact HO_9.out) hb)
                 have n1_ := Aside0.mk (Kd.V_elder' (by (with_reducible repeat (first | apply Kd.V_alloc | apply Kd.V_drewN | apply Kd.V_drew)); exact HO279.out) (Kd.N_base ho51) hb)
                 have n2_ := Aside0.mk (Kd.V_elder' (by (with_reducible repeat (first | apply Kd.V_alloc | apply Kd.V_drewN | apply Kd.V_drew)); exact HO284.out) (Kd.N_base ho51) hb)
                 have n3_ := Aside0.mk (Kd.N_lower ho51 (below_size (by repeat (first | (with_reducible first | exact HB.out | apply below_alloc | apply pw_below_drewN | apply below_drew1 | refine below_set ?_ GE267.out) | exact HB.out))))
                 have n4_ := Aside0.mk (blk_below (g := gb267) (o := .cells #[.int .i64 ((rd_T39 l0 x6_2).f0), .slice A266_1 ((rd_T39 l0 x6_2).f1).length c266_1, .int .i64 ((rd_T39 l0 x6_2).f2), .bool ((rd_T39 l0 x6_2).f3)] 39 (0, 0)) (by (with_reducible repeat (first | refine blk_drewN ?_ _ | refine blk_drew ?_ | refine blk_alloc ?_ _)); exact BK267.out) hb)
                 have n5_ := Aside0.mk (below_step (by repeat (first | (with_reducible first | exact HB.out | apply below_alloc | apply pw_below_drewN | apply below_drew1 | refine below_set ?_ GE267.out) | exact HB.out)) hb)
                 clear HO_9
                 clear HO279
                 clear HO284
                 clear BK267
                 clear HB
                 have HO_9 := n0_
                 have HO279 := n1_
                 have HO284 := n2_
                 have HO287 := n3_
                 have BK267 := n4_
                 have HB := n5_
                 clear n0_ n1_ n2_ n3_ n4_ n5_
                 clear hb ho51
                 refine hK.out _ _ ⟨(blk_cell BK267.out 0).trans rfl, (blk_cell BK267.out 1).trans rfl, (blk_cell BK267.out 2).trans rfl, (blk_cell BK267.out 3).trans rfl⟩ (fun hHeld => ?_)
                 clear hK K
                 refine norm_ (a' := ?_) ?_ ?_
                 rotate_left
                 ·show Act.put _ (some 82) _ = _
                  simp only [Act.put, List.setIfInBounds_toArray, List.set_cons_zero, List.set_cons_succ, i64_w, i32_w]
                  rfl
                 refine pure_ (i := 13) (N := some 4) (v := ?_) (a' := ?_) #[true, true, true, true, true, true, true, true, true, true, true, true, true, true, false] rfl rfl (any_of HT_.out (by kernel_rfl)) (fun _ _ _ h => h) (Or.inl ⟨by rfl, ?_⟩) ?_ ?_
                 rotate_left
                 ·intro w'
                  go_simp
                  with_reducible rfl
                 rotate_left
                 ·simp only [Act.put, List.setIfInBounds_toArray, List.set_cons_zero, List.set_cons_succ, i64_w, i32_w]
                  rfl
                 refine pure_ (i := 14) (N := some 5) (v := ?_) (a' := ?_) #[true, true, true, true, true, true, true, true, true, true, true, true, true, true, true] rfl rfl (any_of HT_.out (by kernel_rfl)) (fun _ _ _ h => h) (Or.inl ⟨by rfl, ?_⟩) ?_ ?_
                 rotate_left
                 ·intro w'
                  go_simp
                  with_reducible rfl
                 rotate_left
                 ·simp only [Act.put, List.setIfInBounds_toArray, List.set_cons_zero, List.set_cons_succ, i64_w, i32_w]
                  rfl
                 refine done_ (done_of HT_.out (by kernel_rfl)) ?_
                 try go_wp2
                 go_ret2
                 exact ⟨_, by first | rfl | (simp [errW_none, errW_some] <;> rfl) | (simp [*, errW_none, errW_some] <;> rfl), by (with_reducible repeat (first | apply Kd.N_alloc | apply Kd.N_drewN | apply Kd.N_drew)); exact Kd.N_mono HO287.out (fun _ hk => hk.1), by repeat (first | (with_reducible first | exact HB.out | apply below_alloc | apply pw_below_drewN | apply below_drew1 | refine below_set ?_ GE267.out) | exact HB.out)⟩
                ·rw [if_neg c45] at H
                 exact absurd H (by simp)
           ·rw [if_neg c29] at H
            exact absurd H (by simp)
          ·rw [if_neg c28] at H
           exact absurd H (by simp)
 ·replace c4 := Bool.eq_false_iff.mpr c4
  subst c4
  have H1 : (some (([] : List (S39)), 100)) = some (r1, r2) := by rw [if_neg (show ¬ (false = true) by decide)] at H; exact H
  clear H
  have H := H1
  clear H1
  simp only [Option.some.injEq, Prod.mk.injEq] at H
  obtain ⟨rfl, rfl⟩ := H
  go_enter Try.func17, Try.ntmps17
  go_wp2_with (first | ((with_reducible refine gate_callee (f := 20) rfl ?_); refine goesL_ (some 12) rfl rfl Try.func20 (by kernel_rfl) rfl #[.slice A0 l0.length c0] rfl (by (try simp only [List.map_toArray, List.map_cons, List.map_nil]); first | done | rfl | (simp only [List.length_drop, List.length_take]; rfl)) ?_; (with_reducible refine (cobwebref10_Right.calls k _ _ l0 false _ ?side1 ?side2 A3.out).mono ?_); (case side1 => repeat (first | exact HR0.out | (with_reducible refine Kd.C_alloc ?_ _) | (with_reducible refine Kd.C_drewN ?_ _) | (with_reducible refine Kd.C_drew ?_))); (case side2 => exact HC0.out); rintro e w52 ⟨rfl, hb⟩; refine ⟨_, rfl, ?_⟩; have n0_ := Aside0.mk (below_step (by repeat (first | (with_reducible first | exact HB.out | apply below_alloc | apply pw_below_drewN | apply below_drew1) | exact HB.out)) hb); clear HB; have HB := n0_; clear n0_; (try clear hb); (try clear hb2); (try clear hk); (try clear hi)))
  go_ret2
  exact ⟨_, by first | rfl | (simp [errW_none, errW_some] <;> rfl) | (simp [*, errW_none, errW_some] <;> rfl), by first | exact Kd.S_nil _ _ _ _ _ | exact Kd.N_nil _ _ _ _ _ | exact Kd.V_nil _ _ _ _ _ | exact Kd.Q_nil _ _ _ _ _ | exact Kd.R_nil _ _ _ _ _, by repeat (first | (with_reducible first | exact HB.out | apply below_alloc | apply pw_below_drewN | apply below_drew1) | exact HB.out)⟩
end Go.Proofs.Ytfbegchhgigjeaa.PC
end
