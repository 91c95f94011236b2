-- written by drive.py, a program of this session's, by running the kit's printer; Lean checks it
import Derived.Test.YtfbegchhgigjeaaC0
import Derived.Test.YtfbegchhgigjeaaC2
import Derived.Test.YtfbegchhgigjeaaC21
import Derived.Test.YtfbegchhgigjeaaC22
import Derived.Test.YtfbegchhgigjeaaC23
import Derived.Test.YtfbegchhgigjeaaC34
import Derived.Test.YtfbegchhgigjeaaHApply
import Derived.Test.YtfbegchhgigjeaaHInsert
import Derived.Test.YtfbegchhgigjeaaHRemove
namespace Go.Proofs.Ytfbegchhgigjeaa.PC
open Go.RowKit Go.Proofs.YtfbegchhgigjeaaW.PrintWords Go.Proofs.YtfbegchhgigjeaaW.PrintLast Go.Proofs.YtfbegchhgigjeaaW.PrintMore
attribute [local go_sem] max2_int min2_int max_two min_two max_three min_three max_four min_four   -- for this text's walks alone
set_option linter.unusedVariables false
set_option linter.unusedSimpArgs false

/-! ### cobweblaw10_ChunkKeeps: function 7 -/
mutual
def cobweblaw10_ChunkKeeps.j0 : Nat → List Int → Int → Bool → Option (Bool)
  | 0, _, _, _ => none
  | k + 1, x0, x1, x26 => if x26 = true then ((cobweblaw10_awake.f k).bind fun t453 => (some t453)) else (cobweblaw10_ChunkKeeps.l0 k x0 x1 ([] : List (S39)) 0)
def cobweblaw10_ChunkKeeps.l0 : Nat → List Int → Int → List (S39) → Int → Option (Bool)
  | 0, _, _, _, _ => none
  | k + 1, x0, x1, x5, x6 => if x6 < (x0.length : Int) then (if 0 ≤ x6 then ((chunk_Insert.f x5 (Int.tmod (wrap64 ((Int.tmod (rd x0 x6) 100) + 100)) 100)).bind fun bt455 => (if bt455.2 = 0 then ((chunk_Apply.f x5 bt455.1).bind fun t459 => (cobweblaw10_ChunkKeeps.l0 k x0 x1 t459 (wrap64 (x6 + 1)))) else (cobweblaw10_ChunkKeeps.l0 k x0 x1 x5 (wrap64 (x6 + 1))))) else (none)) else (if (Int.tmod x1 2) = 0 then (cobweblaw10_ChunkKeeps.j2 k x5 (Int.tmod (wrap64 ((Int.tmod x1 100) + 100)) 100)) else (cobweblaw10_ChunkKeeps.j2 k x5 (wrap64 (100 + (Int.tmod (wrap64 ((Int.tmod x1 100) + 100)) 100)))))
def cobweblaw10_ChunkKeeps.j2 : Nat → List (S39) → Int → Option (Bool)
  | 0, _, _ => none
  | k + 1, x5, x9 => (chunk_Insert.f x5 x9).bind fun bt462 => (if bt462.2 = 31 then ((chunk_IDs.f k x5).bind fun t466 => ((cobwebref10_Has.f k t466 x9).bind fun t469 => (some t469))) else ((chunk_Apply.f x5 bt462.1).bind fun t470 => (cobweblaw10_ChunkKeeps.l1 k x5 x9 bt462.1 bt462.2 t470 0)))
def cobweblaw10_ChunkKeeps.l1 : Nat → List (S39) → Int → List (S39) → Int → List (S39) → Int → Option (Bool)
  | 0, _, _, _, _, _, _ => none
  | k + 1, x5, x9, x10, x11, x12, x13 => if x13 < (x5.length : Int) then (cobweblaw10_ChunkKeeps.l2 k x5 x9 x10 x11 x12 x13 false 0) else ((chunk_Remove.f x12 x9).bind fun bt486 => (if x11 = 0 then (if bt486.2 = 0 then ((chunk_Apply.f x12 bt486.1).bind fun t490 => ((chunk_IDs.f k t490).bind fun t493 => ((chunk_IDs.f k x5).bind fun t496 => ((cobwebref10_Ints.f k t493 t496).bind fun t499 => (some t499))))) else (some false)) else (some false)))
def cobweblaw10_ChunkKeeps.l2 : Nat → List (S39) → Int → List (S39) → Int → List (S39) → Int → Bool → Int → Option (Bool)
  | 0, _, _, _, _, _, _, _, _ => none
  | k + 1, x5, x9, x10, x11, x12, x13, x14, x15 => if x15 < (x10.length : Int) then (if x14 = true then (cobweblaw10_ChunkKeeps.l2 k x5 x9 x10 x11 x12 x13 true (wrap64 (x15 + 1))) else (if 0 ≤ x15 then (if 0 ≤ x13 then (if x13 < (x5.length : Int) then (cobweblaw10_ChunkKeeps.l2 k x5 x9 x10 x11 x12 x13 (((rd_T39 x10 x15).f0) == ((rd_T39 x5 x13).f0)) (wrap64 (x15 + 1))) else (none)) else (none)) else (none))) else (cobweblaw10_ChunkKeeps.l3 k x5 x9 x10 x11 x12 x13 x14 false 0)
def cobweblaw10_ChunkKeeps.l3 : Nat → List (S39) → Int → List (S39) → Int → List (S39) → Int → Bool → Bool → Int → Option (Bool)
  | 0, _, _, _, _, _, _, _, _, _ => none
  | k + 1, x5, x9, x10, x11, x12, x13, x14, x16, x17 => if x17 < (x12.length : Int) then (if x16 = true then (cobweblaw10_ChunkKeeps.l3 k x5 x9 x10 x11 x12 x13 x14 true (wrap64 (x17 + 1))) else (if 0 ≤ x17 then (if x17 ≤ (wrap64 (x17 + 1)) then (if (wrap64 (x17 + 1)) ≤ (x12.length : Int) then (if 0 ≤ x13 then (if x13 ≤ (wrap64 (x13 + 1)) then (if (wrap64 (x13 + 1)) ≤ (x5.length : Int) then ((cobwebref10_Same.f k ((x12.take ((wrap64 (x17 + 1)) : Int).toNat).drop (x17 : Int).toNat) ((x5.take ((wrap64 (x13 + 1)) : Int).toNat).drop (x13 : Int).toNat)).bind fun t485 => (cobweblaw10_ChunkKeeps.l3 k x5 x9 x10 x11 x12 x13 x14 t485 (wrap64 (x17 + 1)))) else (none)) else (none)) else (none)) else (none)) else (none)) else (none))) else (if x14 = true then (cobweblaw10_ChunkKeeps.l1 k x5 x9 x10 x11 x12 (wrap64 (x13 + 1))) else (if x16 = true then (cobweblaw10_ChunkKeeps.l1 k x5 x9 x10 x11 x12 (wrap64 (x13 + 1))) else (some false)))
end
def cobweblaw10_ChunkKeeps.f (k : Nat) (l0 : List Int) (a1 : Int) : Option (Bool) := (cobweblaw10_awake.f k).bind fun t452 => (if t452 = true then (cobweblaw10_ChunkKeeps.j0 k l0 a1 (decide ((l0.length : Int) > 40))) else (cobweblaw10_ChunkKeeps.j0 k l0 a1 true))
theorem cobweblaw10_ChunkKeeps.mono_l : ∀ k, (∀ y0 y1 y2, LeO (cobweblaw10_ChunkKeeps.j0 k y0 y1 y2) (cobweblaw10_ChunkKeeps.j0 (k + 1) y0 y1 y2)) ∧ (∀ y0 y1 y2 y3, LeO (cobweblaw10_ChunkKeeps.l0 k y0 y1 y2 y3) (cobweblaw10_ChunkKeeps.l0 (k + 1) y0 y1 y2 y3)) ∧ (∀ y0 y1, LeO (cobweblaw10_ChunkKeeps.j2 k y0 y1) (cobweblaw10_ChunkKeeps.j2 (k + 1) y0 y1)) ∧ (∀ y0 y1 y2 y3 y4 y5, LeO (cobweblaw10_ChunkKeeps.l1 k y0 y1 y2 y3 y4 y5) (cobweblaw10_ChunkKeeps.l1 (k + 1) y0 y1 y2 y3 y4 y5)) ∧ (∀ y0 y1 y2 y3 y4 y5 y6 y7, LeO (cobweblaw10_ChunkKeeps.l2 k y0 y1 y2 y3 y4 y5 y6 y7) (cobweblaw10_ChunkKeeps.l2 (k + 1) y0 y1 y2 y3 y4 y5 y6 y7)) ∧ (∀ y0 y1 y2 y3 y4 y5 y6 y7 y8, LeO (cobweblaw10_ChunkKeeps.l3 k y0 y1 y2 y3 y4 y5 y6 y7 y8) (cobweblaw10_ChunkKeeps.l3 (k + 1) y0 y1 y2 y3 y4 y5 y6 y7 y8))
  | 0 => ⟨fun _ _ _ r h => by simp [cobweblaw10_ChunkKeeps.j0] at h, fun _ _ _ _ r h => by simp [cobweblaw10_ChunkKeeps.l0] at h, fun _ _ r h => by simp [cobweblaw10_ChunkKeeps.j2] at h, fun _ _ _ _ _ _ r h => by simp [cobweblaw10_ChunkKeeps.l1] at h, fun _ _ _ _ _ _ _ _ r h => by simp [cobweblaw10_ChunkKeeps.l2] at h, fun _ _ _ _ _ _ _ _ _ r h => by simp [cobweblaw10_ChunkKeeps.l3] at h⟩
  | k + 1 => by
    obtain ⟨ih0, ih1, ih2, ih3, ih4, ih5⟩ := cobweblaw10_ChunkKeeps.mono_l k
    refine ⟨?_, ?_, ?_, ?_, ?_, ?_⟩
    · intro y0 y1 y2
      unfold cobweblaw10_ChunkKeeps.j0
      repeat' first
      | (with_reducible exact ih0 _ _ _)
      | (with_reducible exact ih1 _ _ _ _)
      | (with_reducible exact ih2 _ _)
      | (with_reducible exact ih3 _ _ _ _ _ _)
      | (with_reducible exact ih4 _ _ _ _ _ _ _ _)
      | (with_reducible exact ih5 _ _ _ _ _ _ _ _ _)
      | (with_reducible exact chunk_IDs.mono _ _)
      | (with_reducible exact cobweblaw10_awake.mono _)
      | (with_reducible exact cobwebref10_Has.mono _ _ _)
      | (with_reducible exact cobwebref10_Ints.mono _ _ _)
      | (with_reducible exact cobwebref10_Same.mono _ _ _)
      | (with_reducible exact LeO.refl _)
      | (with_reducible exact LeO.none _)
      | (with_reducible refine LeO.ite ?_ ?_)
      | (with_reducible refine LeO.bind ?_ (fun _ => ?_))
      | exact ih0 _ _ _
      | exact ih1 _ _ _ _
      | exact ih2 _ _
      | exact ih3 _ _ _ _ _ _
      | exact ih4 _ _ _ _ _ _ _ _
      | exact ih5 _ _ _ _ _ _ _ _ _
      | exact chunk_IDs.mono _ _
      | exact cobweblaw10_awake.mono _
      | exact cobwebref10_Has.mono _ _ _
      | exact cobwebref10_Ints.mono _ _ _
      | exact cobwebref10_Same.mono _ _ _
      | exact LeO.none _
      | refine LeO.ite ?_ ?_
      | refine LeO.bind ?_ (fun _ => ?_)
    · intro y0 y1 y2 y3
      unfold cobweblaw10_ChunkKeeps.l0
      repeat' first
      | (with_reducible exact ih0 _ _ _)
      | (with_reducible exact ih1 _ _ _ _)
      | (with_reducible exact ih2 _ _)
      | (with_reducible exact ih3 _ _ _ _ _ _)
      | (with_reducible exact ih4 _ _ _ _ _ _ _ _)
      | (with_reducible exact ih5 _ _ _ _ _ _ _ _ _)
      | (with_reducible exact chunk_IDs.mono _ _)
      | (with_reducible exact cobweblaw10_awake.mono _)
      | (with_reducible exact cobwebref10_Has.mono _ _ _)
      | (with_reducible exact cobwebref10_Ints.mono _ _ _)
      | (with_reducible exact cobwebref10_Same.mono _ _ _)
      | (with_reducible exact LeO.refl _)
      | (with_reducible exact LeO.none _)
      | (with_reducible refine LeO.ite ?_ ?_)
      | (with_reducible refine LeO.bind ?_ (fun _ => ?_))
      | exact ih0 _ _ _
      | exact ih1 _ _ _ _
      | exact ih2 _ _
      | exact ih3 _ _ _ _ _ _
      | exact ih4 _ _ _ _ _ _ _ _
      | exact ih5 _ _ _ _ _ _ _ _ _
      | exact chunk_IDs.mono _ _
      | exact cobweblaw10_awake.mono _
      | exact cobwebref10_Has.mono _ _ _
      | exact cobwebref10_Ints.mono _ _ _
      | exact cobwebref10_Same.mono _ _ _
      | exact LeO.none _
      | refine LeO.ite ?_ ?_
      | refine LeO.bind ?_ (fun _ => ?_)
    · intro y0 y1
      unfold cobweblaw10_ChunkKeeps.j2
      repeat' first
      | (with_reducible exact ih0 _ _ _)
      | (with_reducible exact ih1 _ _ _ _)
      | (with_reducible exact ih2 _ _)
      | (with_reducible exact ih3 _ _ _ _ _ _)
      | (with_reducible exact ih4 _ _ _ _ _ _ _ _)
      | (with_reducible exact ih5 _ _ _ _ _ _ _ _ _)
      | (with_reducible exact chunk_IDs.mono _ _)
      | (with_reducible exact cobweblaw10_awake.mono _)
      | (with_reducible exact cobwebref10_Has.mono _ _ _)
      | (with_reducible exact cobwebref10_Ints.mono _ _ _)
      | (with_reducible exact cobwebref10_Same.mono _ _ _)
      | (with_reducible exact LeO.refl _)
      | (with_reducible exact LeO.none _)
      | (with_reducible refine LeO.ite ?_ ?_)
      | (with_reducible refine LeO.bind ?_ (fun _ => ?_))
      | exact ih0 _ _ _
      | exact ih1 _ _ _ _
      | exact ih2 _ _
      | exact ih3 _ _ _ _ _ _
      | exact ih4 _ _ _ _ _ _ _ _
      | exact ih5 _ _ _ _ _ _ _ _ _
      | exact chunk_IDs.mono _ _
      | exact cobweblaw10_awake.mono _
      | exact cobwebref10_Has.mono _ _ _
      | exact cobwebref10_Ints.mono _ _ _
      | exact cobwebref10_Same.mono _ _ _
      | exact LeO.none _
      | refine LeO.ite ?_ ?_
      | refine LeO.bind ?_ (fun _ => ?_)
    · intro y0 y1 y2 y3 y4 y5
      unfold cobweblaw10_ChunkKeeps.l1
      repeat' first
      | (with_reducible exact ih0 _ _ _)
      | (with_reducible exact ih1 _ _ _ _)
      | (with_reducible exact ih2 _ _)
      | (with_reducible exact ih3 _ _ _ _ _ _)
      | (with_reducible exact ih4 _ _ _ _ _ _ _ _)
      | (with_reducible exact ih5 _ _ _ _ _ _ _ _ _)
      | (with_reducible exact chunk_IDs.mono _ _)
      | (with_reducible exact cobweblaw10_awake.mono _)
      | (with_reducible exact cobwebref10_Has.mono _ _ _)
      | (with_reducible exact cobwebref10_Ints.mono _ _ _)
      | (with_reducible exact cobwebref10_Same.mono _ _ _)
      | (with_reducible exact LeO.refl _)
      | (with_reducible exact LeO.none _)
      | (with_reducible refine LeO.ite ?_ ?_)
      | (with_reducible refine LeO.bind ?_ (fun _ => ?_))
      | exact ih0 _ _ _
      | exact ih1 _ _ _ _
      | exact ih2 _ _
      | exact ih3 _ _ _ _ _ _
      | exact ih4 _ _ _ _ _ _ _ _
      | exact ih5 _ _ _ _ _ _ _ _ _
      | exact chunk_IDs.mono _ _
      | exact cobweblaw10_awake.mono _
      | exact cobwebref10_Has.mono _ _ _
      | exact cobwebref10_Ints.mono _ _ _
      | exact cobwebref10_Same.mono _ _ _
      | exact LeO.none _
      | refine LeO.ite ?_ ?_
      | refine LeO.bind ?_ (fun _ => ?_)
    · intro y0 y1 y2 y3 y4 y5 y6 y7
      unfold cobweblaw10_ChunkKeeps.l2
      repeat' first
      | (with_reducible exact ih0 _ _ _)
      | (with_reducible exact ih1 _ _ _ _)
      | (with_reducible exact ih2 _ _)
      | (with_reducible exact ih3 _ _ _ _ _ _)
      | (with_reducible exact ih4 _ _ _ _ _ _ _ _)
      | (with_reducible exact ih5 _ _ _ _ _ _ _ _ _)
      | (with_reducible exact chunk_IDs.mono _ _)
      | (with_reducible exact cobweblaw10_awake.mono _)
      | (with_reducible exact cobwebref10_Has.mono _ _ _)
      | (with_reducible exact cobwebref10_Ints.mono _ _ _)
      | (with_reducible exact cobwebref10_Same.mono _ _ _)
      | (with_reducible exact LeO.refl _)
      | (with_reducible exact LeO.none _)
      | (with_reducible refine LeO.ite ?_ ?_)
      | (with_reducible refine LeO.bind ?_ (fun _ => ?_))
      | exact ih0 _ _ _
      | exact ih1 _ _ _ _
      | exact ih2 _ _
      | exact ih3 _ _ _ _ _ _
      | exact ih4 _ _ _ _ _ _ _ _
      | exact ih5 _ _ _ _ _ _ _ _ _
      | exact chunk_IDs.mono _ _
      | exact cobweblaw10_awake.mono _
      | exact cobwebref10_Has.mono _ _ _
      | exact cobwebref10_Ints.mono _ _ _
      | exact cobwebref10_Same.mono _ _ _
      | exact LeO.none _
      | refine LeO.ite ?_ ?_
      | refine LeO.bind ?_ (fun _ => ?_)
    · intro y0 y1 y2 y3 y4 y5 y6 y7 y8
      unfold cobweblaw10_ChunkKeeps.l3
      repeat' first
      | (with_reducible exact ih0 _ _ _)
      | (with_reducible exact ih1 _ _ _ _)
      | (with_reducible exact ih2 _ _)
      | (with_reducible exact ih3 _ _ _ _ _ _)
      | (with_reducible exact ih4 _ _ _ _ _ _ _ _)
      | (with_reducible exact ih5 _ _ _ _ _ _ _ _ _)
      | (with_reducible exact chunk_IDs.mono _ _)
      | (with_reducible exact cobweblaw10_awake.mono _)
      | (with_reducible exact cobwebref10_Has.mono _ _ _)
      | (with_reducible exact cobwebref10_Ints.mono _ _ _)
      | (with_reducible exact cobwebref10_Same.mono _ _ _)
      | (with_reducible exact LeO.refl _)
      | (with_reducible exact LeO.none _)
      | (with_reducible refine LeO.ite ?_ ?_)
      | (with_reducible refine LeO.bind ?_ (fun _ => ?_))
      | exact ih0 _ _ _
      | exact ih1 _ _ _ _
      | exact ih2 _ _
      | exact ih3 _ _ _ _ _ _
      | exact ih4 _ _ _ _ _ _ _ _
      | exact ih5 _ _ _ _ _ _ _ _ _
      | exact chunk_IDs.mono _ _
      | exact cobweblaw10_awake.mono _
      | exact cobwebref10_Has.mono _ _ _
      | exact cobwebref10_Ints.mono _ _ _
      | exact cobwebref10_Same.mono _ _ _
      | exact LeO.none _
      | refine LeO.ite ?_ ?_
      | refine LeO.bind ?_ (fun _ => ?_)
theorem cobweblaw10_ChunkKeeps.mono : ∀ a0 a1 k, LeO (cobweblaw10_ChunkKeeps.f k a0 a1) (cobweblaw10_ChunkKeeps.f (k + 1) a0 a1) := by
  intro a0 a1 k
  obtain ⟨ih0, ih1, ih2, ih3, ih4, ih5⟩ := cobweblaw10_ChunkKeeps.mono_l k
  unfold cobweblaw10_ChunkKeeps.f
  repeat' first
      | (with_reducible exact ih0 _ _ _)
      | (with_reducible exact ih1 _ _ _ _)
      | (with_reducible exact ih2 _ _)
      | (with_reducible exact ih3 _ _ _ _ _ _)
      | (with_reducible exact ih4 _ _ _ _ _ _ _ _)
      | (with_reducible exact ih5 _ _ _ _ _ _ _ _ _)
      | (with_reducible exact chunk_IDs.mono _ _)
      | (with_reducible exact cobweblaw10_awake.mono _)
      | (with_reducible exact cobwebref10_Has.mono _ _ _)
      | (with_reducible exact cobwebref10_Ints.mono _ _ _)
      | (with_reducible exact cobwebref10_Same.mono _ _ _)
      | (with_reducible exact LeO.refl _)
      | (with_reducible exact LeO.none _)
      | (with_reducible refine LeO.ite ?_ ?_)
      | (with_reducible refine LeO.bind ?_ (fun _ => ?_))
      | exact ih0 _ _ _
      | exact ih1 _ _ _ _
      | exact ih2 _ _
      | exact ih3 _ _ _ _ _ _
      | exact ih4 _ _ _ _ _ _ _ _
      | exact ih5 _ _ _ _ _ _ _ _ _
      | exact chunk_IDs.mono _ _
      | exact cobweblaw10_awake.mono _
      | exact cobwebref10_Has.mono _ _ _
      | exact cobwebref10_Ints.mono _ _ _
      | exact cobwebref10_Same.mono _ _ _
      | exact LeO.none _
      | refine LeO.ite ?_ ?_
      | refine LeO.bind ?_ (fun _ => ?_)
def cobweblaw10_ChunkKeeps.T24 : Bool × List (List Nat × List Nat) := (true, [([], []), ([0], [0]), ([1], [1]), ([1], [1]), ([2, 3, 1], [1, 2, 3]), ([4, 1], [1, 4]), ([5, 1], [1, 5]), ([1], [1]), ([1], [1]), ([7, 8, 1], [1, 7, 8]), ([9, 1], [1, 9]), ([10, 1], [1, 10]), ([6, 11, 1], [1, 6, 11]), ([1, 12], [1, 12]), ([13, 1, 0, 1, 2, 3, 4, 5, 6, 7, 8, 9, 10, 11, 12, 13], [0, 13])])
def cobweblaw10_ChunkKeeps.B24 : List Nat := [0, 1, 3, 3, 15, 31, 63, 3, 3, 387, 899, 1923, 4095, 8191, 16383]
theorem cobweblaw10_ChunkKeeps.tab24 : rtab .any (opsOf Try.f7 24) = cobweblaw10_ChunkKeeps.T24 := by kernel_rfl
theorem cobweblaw10_ChunkKeeps.bits24 : waitsOk cobweblaw10_ChunkKeeps.T24.2 cobweblaw10_ChunkKeeps.B24 = true := by kernel_rfl
def cobweblaw10_ChunkKeeps.T29 : Bool × List (List Nat × List Nat) := (true, [([], []), ([0], [0]), ([1], [1]), ([1], [1]), ([1], [1]), ([4, 1], [1, 4]), ([2, 3, 5, 1], [1, 2, 3, 5]), ([1], [1]), ([1], [1]), ([1], [1]), ([9, 1], [1, 9]), ([7, 8, 10, 1], [1, 7, 8, 10]), ([6, 11, 1, 1], [1, 6, 11]), ([1, 12], [1, 12]), ([13, 12, 0, 1, 2, 3, 4, 5, 6, 7, 8, 9, 10, 11, 12, 13], [0, 13])])
def cobweblaw10_ChunkKeeps.B29 : List Nat := [0, 1, 3, 3, 3, 19, 63, 3, 3, 3, 515, 1923, 4095, 8191, 16383]
theorem cobweblaw10_ChunkKeeps.tab29 : rtab .any (opsOf Try.f7 29) = cobweblaw10_ChunkKeeps.T29 := by kernel_rfl
theorem cobweblaw10_ChunkKeeps.bits29 : waitsOk cobweblaw10_ChunkKeeps.T29.2 cobweblaw10_ChunkKeeps.B29 = true := by kernel_rfl
set_option maxHeartbeats 8000000 in
set_option maxRecDepth 100000 in
theorem cobweblaw10_ChunkKeeps.calls (k : Nat) (A0 : Option Addr) (c0 : Nat) (l0 : List Int) (a1 : Int) (r : Bool) (w : World) (hr0 : Kd.C (Kd.int .i64) w A0 l0.length l0) (hc0 : l0.length ≤ c0) (h : cobweblaw10_ChunkKeeps.f k l0 a1 = some r) :
    Calls Try.prog 7 #[.slice A0 l0.length c0, .int .i64 a1] w fun e w' => e = .returned (.bool r) ∧ Below w.heap.size w w' := by
  have HR0 := Aside0.mk hr0
  have HC0 := Aside0.mk hc0
  clear hr0 hc0
  have HB := Aside0.mk (Below.refl w.heap.size w)
  have H : ((cobweblaw10_awake.f k).bind fun t452 => (if t452 = true then (cobweblaw10_ChunkKeeps.j0 k l0 a1 (decide ((l0.length : Int) > 40))) else (cobweblaw10_ChunkKeeps.j0 k l0 a1 true))) = some r := h
  clear h
  have HC3 := Aside0.mk H
  clear H
  go_enter Try.func7, Try.ntmps7
  go_upto_region 1 with (fail)
  go_cut [26] (fun v26 wc => ∃ (kq : Nat) (x26_2 : Bool), v26 = .bool x26_2 ∧ Aside0 (cobweblaw10_ChunkKeeps.j0 kq l0 a1 x26_2 = some r) ∧ Aside0 (kq ≤ k) ∧ Aside0 (Below w.heap.size w wc))
  case first =>
    have H := HC3.out
    clear HC3
    replace H := Option.bind_eq_some_iff.mp H
    obtain ⟨t452, A40, H⟩ := H
    replace H : (if t452 = true then (cobweblaw10_ChunkKeeps.j0 k l0 a1 (decide ((l0.length : Int) > 40))) else (cobweblaw10_ChunkKeeps.j0 k l0 a1 true)) = some r := H
    have A4 := Aside0.mk A40
    clear A40
    by_cases c5 : t452 = true
    · subst c5
      have H1 : (cobweblaw10_ChunkKeeps.j0 k l0 a1 (decide ((l0.length : Int) > 40))) = some r := by rw [if_pos rfl] at H; exact H
      clear H
      have H := H1
      clear H1
      have H' := Aside0.mk H
      clear H
      go_wp2_with (first | ((with_reducible refine gate_callee (f := 8) rfl ?_); refine goesL_ (some 20) rfl rfl Try.func8 (by kernel_rfl) rfl #[] rfl (by (try simp only [List.map_toArray, List.map_cons, List.map_nil]); first | done | rfl | (simp only [List.length_drop, List.length_take]; rfl)) ?_; (with_reducible refine (cobweblaw10_awake.calls k  true _ A4.out).mono ?_); rintro e w6 ⟨rfl, hb⟩; refine ⟨_, rfl, ?_⟩; have n0_ := Aside0.mk (below_step (by repeat (first | (with_reducible first | exact HB.out | apply below_alloc | apply pw_below_drewN | apply below_drew1) | exact HB.out)) hb); clear HB; have HB := n0_; clear n0_; (try clear hb); (try clear hb2); (try clear hk); (try clear hi)))
      go_meet
      case rel => exact ⟨_, (decide ((l0.length : Int) > 40)), (by first | rfl | (simp; done) | (simp [*]; done)), H', ⟨by first | omega | exact Nat.le_refl _⟩, ⟨by repeat (first | (with_reducible first | exact HB.out | apply below_alloc | apply pw_below_drewN | apply below_drew1) | exact HB.out)⟩⟩
    · replace c5 := Bool.eq_false_iff.mpr c5
      subst c5
      have H1 : (cobweblaw10_ChunkKeeps.j0 k l0 a1 true) = some r := by rw [if_neg (show ¬ (false = true) by decide)] at H; exact H
      clear H
      have H := H1
      clear H1
      have H' := Aside0.mk H
      clear H
      go_wp2_with (first | ((with_reducible refine gate_callee (f := 8) rfl ?_); refine goesL_ (some 20) rfl rfl Try.func8 (by kernel_rfl) rfl #[] rfl (by (try simp only [List.map_toArray, List.map_cons, List.map_nil]); first | done | rfl | (simp only [List.length_drop, List.length_take]; rfl)) ?_; (with_reducible refine (cobweblaw10_awake.calls k  false _ A4.out).mono ?_); rintro e w7 ⟨rfl, hb⟩; refine ⟨_, rfl, ?_⟩; have n0_ := Aside0.mk (below_step (by repeat (first | (with_reducible first | exact HB.out | apply below_alloc | apply pw_below_drewN | apply below_drew1) | exact HB.out)) hb); clear HB; have HB := n0_; clear n0_; (try clear hb); (try clear hb2); (try clear hk); (try clear hi)))
      go_meet
      case rel => exact ⟨_, (true), (by first | rfl | (simp; done) | (simp [*]; done)), H', ⟨by first | omega | exact Nat.le_refl _⟩, ⟨by repeat (first | (with_reducible first | exact HB.out | apply below_alloc | apply pw_below_drewN | apply below_drew1) | exact HB.out)⟩⟩
  case rest =>
    clear HC3
    try clear p2
    try clear c5
    try clear c7
    obtain ⟨kq, x26_2, rfl, HA, HJ2, HB⟩ := hcut
    cases kq with
    | zero => exact absurd HA.out (by simp [cobweblaw10_ChunkKeeps.j0])
    | succ kj2 =>
      have H := HA.out
      clear HA
      simp only [cobweblaw10_ChunkKeeps.j0] at H
      by_cases c8 : x26_2 = true
      · subst c8
        have H1 : ((cobweblaw10_awake.f kj2).bind fun t453 => (some t453)) = some r := by rw [if_pos rfl] at H; exact H
        clear H
        have H := H1
        clear H1
        replace H := Option.bind_eq_some_iff.mp H
        obtain ⟨t453, A90, H⟩ := H
        replace H : (some t453) = some r := H
        have A9 := Aside0.mk A90
        clear A90
        obtain rfl := Option.some.inj H
        go_wp2_with (first | ((with_reducible refine gate_callee (f := 8) rfl ?_); refine goesL_ (some 27) rfl rfl Try.func8 (by kernel_rfl) rfl #[] rfl (by (try simp only [List.map_toArray, List.map_cons, List.map_nil]); first | done | rfl | (simp only [List.length_drop, List.length_take]; rfl)) ?_; (with_reducible refine (cobweblaw10_awake.calls kj2  t453 _ A9.out).mono ?_); rintro e w10 ⟨rfl, hb⟩; refine ⟨_, rfl, ?_⟩; have n0_ := Aside0.mk (below_step (by repeat (first | (with_reducible first | exact HB.out | apply below_alloc | apply pw_below_drewN | apply below_drew1) | exact HB.out)) hb); clear HB; have HB := n0_; clear n0_; (try clear hb); (try clear hb2); (try clear hk); (try clear hi)))
        go_ret
        exact ⟨by first | rfl | (simp [errW_none, errW_some] <;> rfl) | (simp [*, errW_none, errW_some] <;> rfl), by repeat (first | (with_reducible first | exact HB.out | apply below_alloc | apply pw_below_drewN | apply below_drew1) | exact HB.out)⟩
      · replace c8 := Bool.eq_false_iff.mpr c8
        subst c8
        have H1 : (cobweblaw10_ChunkKeeps.l0 kj2 l0 a1 ([] : List (S39)) 0) = some r := by rw [if_neg (show ¬ (false = true) by decide)] at H; exact H
        clear H
        have H := H1
        clear H1
        have H' := Aside0.mk H
        clear H
        go_wp2
        go_loopg [5, 6] kj2 (fun kq v5 v6 w' => ∃ (x5_2 : List (S39)) (x6_2 : Int), v6 = .int .i64 x6_2 ∧ Aside0 (cobweblaw10_ChunkKeeps.l0 kq l0 a1 x5_2 x6_2 = some r) ∧ Aside0 (kq ≤ kj2) ∧ Aside0 (Kd.N k39 39 w' w.heap.size (fun _ => True) v5 x5_2) ∧ Aside0 (Below w.heap.size w w'))
        case atStart => exact ⟨(([] : List (S39))), (0), (by first | rfl | (simp; done) | (simp [*]; done)), H', ⟨Nat.le_refl _⟩, ⟨by first | exact Kd.S_nil _ _ _ _ _ | exact Kd.N_nil _ _ _ _ _ | exact Kd.V_nil _ _ _ _ _ | exact Kd.Q_nil _ _ _ _ _ | exact Kd.R_nil _ _ _ _ _⟩, ⟨by repeat (first | (with_reducible first | exact HB.out | apply below_alloc | apply pw_below_drewN | apply below_drew1) | exact HB.out)⟩⟩
        case round =>
          clear H'
          try clear p2
          try clear c5
          try clear c7
          try clear c8
          try clear p2
          obtain ⟨x5_2, x6_2, rfl, HA, HK2, HO_5, HB⟩ := hrel
          cases gk with
          | zero => exact absurd HA.out (by simp [cobweblaw10_ChunkKeeps.l0])
          | succ k2 =>
            have H := HA.out
            clear HA
            simp only [cobweblaw10_ChunkKeeps.l0] at H
            by_cases c11 : x6_2 < (l0.length : Int)
            · rw [if_pos c11] at H
              have c11b0 : decide (x6_2 < (l0.length : Int)) = true := decide_eq_true c11
              clear c11
              by_cases c12 : 0 ≤ x6_2
              · rw [if_pos c12] at H
                have c12b0 : decide (0 ≤ x6_2) = true := decide_eq_true c12
                clear c12
                replace H := Option.bind_eq_some_iff.mp H
                obtain ⟨⟨t455, t458⟩, A130, H⟩ := H
                replace H : (if t458 = 0 then ((chunk_Apply.f x5_2 t455).bind fun t459 => (cobweblaw10_ChunkKeeps.l0 k2 l0 a1 t459 (wrap64 (x6_2 + 1)))) else (cobweblaw10_ChunkKeeps.l0 k2 l0 a1 x5_2 (wrap64 (x6_2 + 1)))) = some r := H
                have A13 := Aside0.mk A130
                clear A130
                by_cases c14 : t458 = 0
                · rw [if_pos c14] at H
                  have c14b0 : (t458 == 0) = true := beq_iff_eq.mpr c14
                  have c14b1 : (t458 != 0) = false := bne_eq_false_iff_eq.mpr c14
                  clear c14
                  replace H := Option.bind_eq_some_iff.mp H
                  obtain ⟨t459, A150, H⟩ := H
                  replace H : (cobweblaw10_ChunkKeeps.l0 k2 l0 a1 t459 (wrap64 (x6_2 + 1))) = some r := H
                  have A15 := Aside0.mk A150
                  clear A150
                  have H' := Aside0.mk H
                  clear H
                  have p454 : 0 ≤ (x6_2 : Int) := of_decide_eq_true (by first | (with_reducible assumption) | assumption)
                  have q454 : x6_2 < (l0.length : Int) := of_decide_eq_true (by first | (with_reducible assumption) | assumption)
                  obtain ⟨ad454, e454, hx454_0⟩ := Kd.at_int HR0.out x6_2 p454 q454
                  cases e454
                  replace hx454_0 := (HB.out.cell (World.block_lt_of_cell? w _ hx454_0)).trans hx454_0
                  replace p454 := eq_true p454
                  replace q454 := eq_true q454
                  obtain ⟨Ao16, co16, eo16⟩ := Kd.N_slice HO_5.out
                  subst eo16
                  go_wp2_with (first | ((with_reducible refine gate_callee (f := 9) rfl ?_); refine goesL_ (some 43) rfl rfl Try.func9 (by kernel_rfl) rfl #[.slice Ao16 x5_2.length co16, .int .i64 (Int.tmod (wrap64 ((Int.tmod (rd l0 x6_2) 100) + 100)) 100)] rfl (by (try simp only [List.map_toArray, List.map_cons, List.map_nil]); first | done | rfl | (simp only [List.length_drop, List.length_take]; rfl)) ?_; (with_reducible refine (chunk_Insert.calls _ _ x5_2 (Int.tmod (wrap64 ((Int.tmod (rd l0 x6_2) 100) + 100)) 100) t455 t458 _ ?side1 ?side2 A13.out).mono ?_); (case side1 => repeat (first | exact (Kd.N_reads' HO_5.out).2.2 | (with_reducible refine Kd.C_alloc ?_ _) | (with_reducible refine Kd.C_drewN ?_ _) | (with_reducible refine Kd.C_drew ?_))); (case side2 => exact (Kd.N_reads' HO_5.out).2.1); rintro e w17 ⟨v456, rfl, ho0, hb⟩; refine ⟨_, rfl, ?_⟩; have n0_ := Aside0.mk (Kd.N_elder' (by (with_reducible repeat (first | apply Kd.N_alloc | apply Kd.N_drewN | apply Kd.N_drew)); exact HO_5.out) (Kd.N_base ho0) hb); have n1_ := Aside0.mk (Kd.N_lower (Kd.N_mono (ok' := fun k_ => some k_ ≠ (.slice Ao16 x5_2.length co16 : Value).ownBlock) ho0 (fun k_ hk_ => (Kd.fresh' (Kd.N_lt (by (with_reducible repeat (first | apply Kd.N_alloc | apply Kd.N_drewN | apply Kd.N_drew)); exact HO_5.out)) k_ hk_))) (below_size (by repeat (first | (with_reducible first | exact HB.out | apply below_alloc | apply pw_below_drewN | apply below_drew1) | exact HB.out)))); have n2_ := Aside0.mk (below_step (by repeat (first | (with_reducible first | exact HB.out | apply below_alloc | apply pw_below_drewN | apply below_drew1) | exact HB.out)) hb); clear HO_5; clear HB; have HO_5 := n0_; have HO457 := n1_; have HB := n2_; clear n0_ n1_ n2_; (try clear hb); (try clear hb2); (try clear hk); (try clear hi); (try clear ho0); obtain ⟨Ao18, co18, eo18⟩ := Kd.N_slice HO457.out; subst eo18) | ((with_reducible refine gate_callee (f := 10) rfl ?_); refine goesL_ (some 50) rfl rfl Try.func10 (by kernel_rfl) rfl #[.slice Ao16 x5_2.length co16, .slice Ao18 t455.length co18] rfl (by (try simp only [List.map_toArray, List.map_cons, List.map_nil]); first | done | rfl | (simp only [List.length_drop, List.length_take]; rfl)) ?_; (with_reducible refine (chunk_Apply.calls _ _ x5_2 _ _ t455 t459 _ ?side1 ?side2 ?side3 ?side4 A15.out).mono ?_); (case side1 => repeat (first | exact (Kd.N_reads' HO_5.out).2.2 | (with_reducible refine Kd.C_alloc ?_ _) | (with_reducible refine Kd.C_drewN ?_ _) | (with_reducible refine Kd.C_drew ?_))); (case side2 => exact (Kd.N_reads' HO_5.out).2.1); (case side3 => repeat (first | exact (Kd.N_reads' HO457.out).2.2 | (with_reducible refine Kd.C_alloc ?_ _) | (with_reducible refine Kd.C_drewN ?_ _) | (with_reducible refine Kd.C_drew ?_))); (case side4 => exact (Kd.N_reads' HO457.out).2.1); rintro e w19 ⟨v460, rfl, ho0, hb⟩; refine ⟨_, rfl, ?_⟩; have n0_ := Aside0.mk (Kd.N_elder' (by (with_reducible repeat (first | apply Kd.N_alloc | apply Kd.N_drewN | apply Kd.N_drew)); exact HO_5.out) (Kd.N_base ho0) hb); have n1_ := Aside0.mk (Kd.N_elder' (by (with_reducible repeat (first | apply Kd.N_alloc | apply Kd.N_drewN | apply Kd.N_drew)); exact HO457.out) (Kd.N_base ho0) hb); have n2_ := Aside0.mk (Kd.N_lower (Kd.N_mono (ok' := fun k_ => some k_ ≠ (.slice Ao16 x5_2.length co16 : Value).ownBlock ∧ some k_ ≠ (.slice Ao18 t455.length co18 : Value).ownBlock) ho0 (fun k_ hk_ => ⟨(Kd.fresh' (Kd.N_lt (by (with_reducible repeat (first | apply Kd.N_alloc | apply Kd.N_drewN | apply Kd.N_drew)); exact HO_5.out)) k_ hk_), (Kd.fresh' (Kd.N_lt (by (with_reducible repeat (first | apply Kd.N_alloc | apply Kd.N_drewN | apply Kd.N_drew)); exact HO457.out)) k_ hk_)⟩)) (below_size (by repeat (first | (with_reducible first | exact HB.out | apply below_alloc | apply pw_below_drewN | apply below_drew1) | exact HB.out)))); have n3_ := Aside0.mk (below_step (by repeat (first | (with_reducible first | exact HB.out | apply below_alloc | apply pw_below_drewN | apply below_drew1) | exact HB.out)) hb); clear HO_5; clear HO457; clear HB; have HO_5 := n0_; have HO457 := n1_; have HO461 := n2_; have HB := n3_; clear n0_ n1_ n2_ n3_; (try clear hb); (try clear hb2); (try clear hk); (try clear hi); (try clear ho0)))
                  go_roundg k2
                  case measure => have := HJ2.out; have := HK2.out; omega
                  case rel => exact ⟨(t459), (wrap64 (x6_2 + 1)), (by first | rfl | (simp; done) | (simp [*]; done)), H', ⟨by have := HJ2.out; have := HK2.out; omega⟩, ⟨by (with_reducible repeat (first | apply Kd.N_alloc | apply Kd.N_drewN | apply Kd.N_drew)); exact Kd.N_mono HO461.out (fun _ hk => trivial)⟩, ⟨by repeat (first | (with_reducible first | exact HB.out | apply below_alloc | apply pw_below_drewN | apply below_drew1) | exact HB.out)⟩⟩
                · rw [if_neg c14] at H
                  have c14b0 : (t458 == 0) = false := beq_eq_false_iff_ne.mpr c14
                  have c14b1 : (t458 != 0) = true := bne_iff_ne.mpr c14
                  have H' := Aside0.mk H
                  clear H
                  have p454 : 0 ≤ (x6_2 : Int) := of_decide_eq_true (by first | (with_reducible assumption) | assumption)
                  have q454 : x6_2 < (l0.length : Int) := of_decide_eq_true (by first | (with_reducible assumption) | assumption)
                  obtain ⟨ad454, e454, hx454_0⟩ := Kd.at_int HR0.out x6_2 p454 q454
                  cases e454
                  replace hx454_0 := (HB.out.cell (World.block_lt_of_cell? w _ hx454_0)).trans hx454_0
                  replace p454 := eq_true p454
                  replace q454 := eq_true q454
                  obtain ⟨Ao20, co20, eo20⟩ := Kd.N_slice HO_5.out
                  subst eo20
                  go_wp2_with (first | ((with_reducible refine gate_callee (f := 9) rfl ?_); refine goesL_ (some 43) rfl rfl Try.func9 (by kernel_rfl) rfl #[.slice Ao20 x5_2.length co20, .int .i64 (Int.tmod (wrap64 ((Int.tmod (rd l0 x6_2) 100) + 100)) 100)] rfl (by (try simp only [List.map_toArray, List.map_cons, List.map_nil]); first | done | rfl | (simp only [List.length_drop, List.length_take]; rfl)) ?_; (with_reducible refine (chunk_Insert.calls _ _ x5_2 (Int.tmod (wrap64 ((Int.tmod (rd l0 x6_2) 100) + 100)) 100) t455 t458 _ ?side1 ?side2 A13.out).mono ?_); (case side1 => repeat (first | exact (Kd.N_reads' HO_5.out).2.2 | (with_reducible refine Kd.C_alloc ?_ _) | (with_reducible refine Kd.C_drewN ?_ _) | (with_reducible refine Kd.C_drew ?_))); (case side2 => exact (Kd.N_reads' HO_5.out).2.1); rintro e w21 ⟨v456, rfl, ho0, hb⟩; refine ⟨_, rfl, ?_⟩; have n0_ := Aside0.mk (Kd.N_elder' (by (with_reducible repeat (first | apply Kd.N_alloc | apply Kd.N_drewN | apply Kd.N_drew)); exact HO_5.out) (Kd.N_base ho0) hb); have n1_ := Aside0.mk (Kd.N_lower (Kd.N_mono (ok' := fun k_ => some k_ ≠ (.slice Ao20 x5_2.length co20 : Value).ownBlock) ho0 (fun k_ hk_ => (Kd.fresh' (Kd.N_lt (by (with_reducible repeat (first | apply Kd.N_alloc | apply Kd.N_drewN | apply Kd.N_drew)); exact HO_5.out)) k_ hk_))) (below_size (by repeat (first | (with_reducible first | exact HB.out | apply below_alloc | apply pw_below_drewN | apply below_drew1) | exact HB.out)))); have n2_ := Aside0.mk (below_step (by repeat (first | (with_reducible first | exact HB.out | apply below_alloc | apply pw_below_drewN | apply below_drew1) | exact HB.out)) hb); clear HO_5; clear HB; have HO_5 := n0_; have HO457 := n1_; have HB := n2_; clear n0_ n1_ n2_; (try clear hb); (try clear hb2); (try clear hk); (try clear hi); (try clear ho0)))
                  go_roundg k2
                  case measure => have := HJ2.out; have := HK2.out; omega
                  case rel => exact ⟨(x5_2), (wrap64 (x6_2 + 1)), (by first | rfl | (simp; done) | (simp [*]; done)), H', ⟨by have := HJ2.out; have := HK2.out; omega⟩, ⟨by (with_reducible repeat (first | apply Kd.N_alloc | apply Kd.N_drewN | apply Kd.N_drew)); exact Kd.N_mono HO_5.out (fun _ hk => trivial)⟩, ⟨by repeat (first | (with_reducible first | exact HB.out | apply below_alloc | apply pw_below_drewN | apply below_drew1) | exact HB.out)⟩⟩
              · rw [if_neg c12] at H
                exact absurd H (by simp)
            · rw [if_neg c11] at H
              have c11b0 : decide (x6_2 < (l0.length : Int)) = false := decide_eq_false c11
              clear c11
              have HC22 := Aside0.mk H
              clear H
              go_upto_if 58 with (fail)
              go_cut [9] (fun v9 wc => ∃ (kq : Nat) (x9_21 : Int), v9 = .int .i64 x9_21 ∧ Aside0 (cobweblaw10_ChunkKeeps.j2 kq x5_2 x9_21 = some r) ∧ Aside0 (kq ≤ k2) ∧ Aside0 (Kd.N k39 39 wc w.heap.size (fun _ => True) u5 x5_2) ∧ Aside0 (Below w.heap.size w wc))
              case first =>
                have H := HC22.out
                clear HC22
                by_cases c23 : (Int.tmod a1 2) = 0
                · rw [if_pos c23] at H
                  have c23b0 : ((Int.tmod a1 2) == 0) = true := beq_iff_eq.mpr c23
                  have c23b1 : ((Int.tmod a1 2) != 0) = false := bne_eq_false_iff_eq.mpr c23
                  clear c23
                  (first | rw [c23b0] | (simp only [i64_w, i32_w]; rw [c23b0]) | skip)
                  have H' := Aside0.mk H
                  clear H
                  go_wp2
                  go_meet
                  case rel => exact ⟨_, (Int.tmod (wrap64 ((Int.tmod a1 100) + 100)) 100), (by first | rfl | (simp; done) | (simp [*]; done)), H', ⟨by have := HJ2.out; have := HK2.out; first | omega | exact Nat.le_refl _⟩, ⟨by (with_reducible repeat (first | apply Kd.N_alloc | apply Kd.N_drewN | apply Kd.N_drew)); exact HO_5.out⟩, ⟨by repeat (first | (with_reducible first | exact HB.out | apply below_alloc | apply pw_below_drewN | apply below_drew1) | exact HB.out)⟩⟩
                · rw [if_neg c23] at H
                  have c23b0 : ((Int.tmod a1 2) == 0) = false := beq_eq_false_iff_ne.mpr c23
                  have c23b1 : ((Int.tmod a1 2) != 0) = true := bne_iff_ne.mpr c23
                  (first | rw [c23b0] | (simp only [i64_w, i32_w]; rw [c23b0]) | skip)
                  have H' := Aside0.mk H
                  clear H
                  go_wp2
                  go_meet
                  case rel => exact ⟨_, (wrap64 (100 + (Int.tmod (wrap64 ((Int.tmod a1 100) + 100)) 100))), (by first | rfl | (simp; done) | (simp [*]; done)), H', ⟨by have := HJ2.out; have := HK2.out; first | omega | exact Nat.le_refl _⟩, ⟨by (with_reducible repeat (first | apply Kd.N_alloc | apply Kd.N_drewN | apply Kd.N_drew)); exact HO_5.out⟩, ⟨by repeat (first | (with_reducible first | exact HB.out | apply below_alloc | apply pw_below_drewN | apply below_drew1) | exact HB.out)⟩⟩
              case rest =>
                clear HC22
                try clear c1
                try clear c2
                try clear p2
                try clear p4
                try clear q4
                try clear hx4
                try clear c5
                try clear p6
                try clear c7
                try clear c8
                try clear c9
                try clear c10
                try clear c11
                try clear c11b0
                try clear c12
                try clear c12b0
                try clear c14
                try clear c14b0
                try clear c14b1
                try clear c23
                try clear c23b0
                try clear c23b1
                try clear hx454_0
                try clear p2
                try clear p454
                try clear q454
                obtain ⟨kq, x9_21, rfl, HA, HJ21, HO_5, HB⟩ := hcut
                cases kq with
                | zero => exact absurd HA.out (by simp [cobweblaw10_ChunkKeeps.j2])
                | succ kj21 =>
                  have H := HA.out
                  clear HA
                  simp only [cobweblaw10_ChunkKeeps.j2] at H
                  replace H := Option.bind_eq_some_iff.mp H
                  obtain ⟨⟨t462, t465⟩, A240, H⟩ := H
                  replace H : (if t465 = 31 then ((chunk_IDs.f kj21 x5_2).bind fun t466 => ((cobwebref10_Has.f kj21 t466 x9_21).bind fun t469 => (some t469))) else ((chunk_Apply.f x5_2 t462).bind fun t470 => (cobweblaw10_ChunkKeeps.l1 kj21 x5_2 x9_21 t462 t465 t470 0))) = some r := H
                  have A24 := Aside0.mk A240
                  clear A240
                  by_cases c25 : t465 = 31
                  · rw [if_pos c25] at H
                    have c25b0 : (t465 == 31) = true := beq_iff_eq.mpr c25
                    have c25b1 : (t465 != 31) = false := bne_eq_false_iff_eq.mpr c25
                    clear c25
                    replace H := Option.bind_eq_some_iff.mp H
                    obtain ⟨t466, A260, H⟩ := H
                    replace H : ((cobwebref10_Has.f kj21 t466 x9_21).bind fun t469 => (some t469)) = some r := H
                    have A26 := Aside0.mk A260
                    clear A260
                    replace H := Option.bind_eq_some_iff.mp H
                    obtain ⟨t469, A270, H⟩ := H
                    replace H : (some t469) = some r := H
                    have A27 := Aside0.mk A270
                    clear A270
                    obtain rfl := Option.some.inj H
                    obtain ⟨Ao28, co28, eo28⟩ := Kd.N_slice HO_5.out
                    subst eo28
                    go_wp2_with (first | ((with_reducible refine gate_callee (f := 9) rfl ?_); refine goesL_ (some 66) rfl rfl Try.func9 (by kernel_rfl) rfl #[.slice Ao28 x5_2.length co28, .int .i64 x9_21] rfl (by (try simp only [List.map_toArray, List.map_cons, List.map_nil]); first | done | rfl | (simp only [List.length_drop, List.length_take]; rfl)) ?_; (with_reducible refine (chunk_Insert.calls _ _ x5_2 x9_21 t462 t465 _ ?side1 ?side2 A24.out).mono ?_); (case side1 => repeat (first | exact (Kd.N_reads' HO_5.out).2.2 | (with_reducible refine Kd.C_alloc ?_ _) | (with_reducible refine Kd.C_drewN ?_ _) | (with_reducible refine Kd.C_drew ?_))); (case side2 => exact (Kd.N_reads' HO_5.out).2.1); rintro e w29 ⟨v463, rfl, ho0, hb⟩; refine ⟨_, rfl, ?_⟩; have n0_ := Aside0.mk (Kd.N_elder' (by (with_reducible repeat (first | apply Kd.N_alloc | apply Kd.N_drewN | apply Kd.N_drew)); exact HO_5.out) (Kd.N_base ho0) hb); have n1_ := Aside0.mk (Kd.N_lower (Kd.N_mono (ok' := fun k_ => some k_ ≠ (.slice Ao28 x5_2.length co28 : Value).ownBlock) ho0 (fun k_ hk_ => (Kd.fresh' (Kd.N_lt (by (with_reducible repeat (first | apply Kd.N_alloc | apply Kd.N_drewN | apply Kd.N_drew)); exact HO_5.out)) k_ hk_))) (below_size (by repeat (first | (with_reducible first | exact HB.out | apply below_alloc | apply pw_below_drewN | apply below_drew1) | exact HB.out)))); have n2_ := Aside0.mk (below_step (by repeat (first | (with_reducible first | exact HB.out | apply below_alloc | apply pw_below_drewN | apply below_drew1) | exact HB.out)) hb); clear HO_5; clear HB; have HO_5 := n0_; have HO464 := n1_; have HB := n2_; clear n0_ n1_ n2_; (try clear hb); (try clear hb2); (try clear hk); (try clear hi); (try clear ho0)) | ((with_reducible refine gate_callee (f := 13) rfl ?_); refine goesL_ (some 72) rfl rfl Try.func13 (by kernel_rfl) rfl #[.slice Ao28 x5_2.length co28] rfl (by (try simp only [List.map_toArray, List.map_cons, List.map_nil]); first | done | rfl | (simp only [List.length_drop, List.length_take]; rfl)) ?_; (with_reducible refine (chunk_IDs.calls kj21 _ _ x5_2 t466 _ ?side1 ?side2 A26.out).mono ?_); (case side1 => repeat (first | exact (Kd.N_reads' HO_5.out).2.2 | (with_reducible refine Kd.C_alloc ?_ _) | (with_reducible refine Kd.C_drewN ?_ _) | (with_reducible refine Kd.C_drew ?_))); (case side2 => exact (Kd.N_reads' HO_5.out).2.1); rintro e w30 ⟨v467, rfl, ho0, hb⟩; refine ⟨_, rfl, ?_⟩; have n0_ := Aside0.mk (Kd.N_elder' (by (with_reducible repeat (first | apply Kd.N_alloc | apply Kd.N_drewN | apply Kd.N_drew)); exact HO_5.out) (Kd.R_base ho0) hb); have n1_ := Aside0.mk (Kd.N_elder' (by (with_reducible repeat (first | apply Kd.N_alloc | apply Kd.N_drewN | apply Kd.N_drew)); exact HO464.out) (Kd.R_base ho0) hb); have n2_ := Aside0.mk (Kd.R_lower ho0 (below_size (by repeat (first | (with_reducible first | exact HB.out | apply below_alloc | apply pw_below_drewN | apply below_drew1) | exact HB.out)))); have n3_ := Aside0.mk (below_step (by repeat (first | (with_reducible first | exact HB.out | apply below_alloc | apply pw_below_drewN | apply below_drew1) | exact HB.out)) hb); clear HO_5; clear HO464; clear HB; have HO_5 := n0_; have HO464 := n1_; have HO468 := n2_; have HB := n3_; clear n0_ n1_ n2_ n3_; (try clear hb); (try clear hb2); (try clear hk); (try clear hi); (try clear ho0); obtain ⟨Ao31, co31, eo31⟩ := Kd.R_slice HO468.out; subst eo31) | ((with_reducible refine gate_callee (f := 26) rfl ?_); refine goesL_ (some 74) rfl rfl Try.func26 (by kernel_rfl) rfl #[.slice Ao31 t466.length co31, .int .i64 x9_21] rfl (by (try simp only [List.map_toArray, List.map_cons, List.map_nil]); first | done | rfl | (simp only [List.length_drop, List.length_take]; rfl)) ?_; (with_reducible refine (cobwebref10_Has.calls kj21 _ _ t466 x9_21 t469 _ ?side1 ?side2 A27.out).mono ?_); (case side1 => repeat (first | exact (Kd.R_reads' HO468.out).2.2 | (with_reducible refine Kd.C_alloc ?_ _) | (with_reducible refine Kd.C_drewN ?_ _) | (with_reducible refine Kd.C_drew ?_))); (case side2 => exact (Kd.R_reads' HO468.out).2.1); rintro e w' ⟨rfl, ⟨nd, rfl⟩⟩; refine ⟨_, rfl, ?_⟩))
                    go_ret
                    exact ⟨by first | rfl | (simp [errW_none, errW_some] <;> rfl) | (simp [*, errW_none, errW_some] <;> rfl), by repeat (first | (with_reducible first | exact HB.out | apply below_alloc | apply pw_below_drewN | apply below_drew1) | exact HB.out)⟩
                  · rw [if_neg c25] at H
                    have c25b0 : (t465 == 31) = false := beq_eq_false_iff_ne.mpr c25
                    have c25b1 : (t465 != 31) = true := bne_iff_ne.mpr c25
                    replace H := Option.bind_eq_some_iff.mp H
                    obtain ⟨t470, A320, H⟩ := H
                    replace H : (cobweblaw10_ChunkKeeps.l1 kj21 x5_2 x9_21 t462 t465 t470 0) = some r := H
                    have A32 := Aside0.mk A320
                    clear A320
                    have H' := Aside0.mk H
                    clear H
                    obtain ⟨Ao33, co33, eo33⟩ := Kd.N_slice HO_5.out
                    subst eo33
                    go_wp2_with (first | ((with_reducible refine gate_callee (f := 9) rfl ?_); refine goesL_ (some 66) rfl rfl Try.func9 (by kernel_rfl) rfl #[.slice Ao33 x5_2.length co33, .int .i64 x9_21] rfl (by (try simp only [List.map_toArray, List.map_cons, List.map_nil]); first | done | rfl | (simp only [List.length_drop, List.length_take]; rfl)) ?_; (with_reducible refine (chunk_Insert.calls _ _ x5_2 x9_21 t462 t465 _ ?side1 ?side2 A24.out).mono ?_); (case side1 => repeat (first | exact (Kd.N_reads' HO_5.out).2.2 | (with_reducible refine Kd.C_alloc ?_ _) | (with_reducible refine Kd.C_drewN ?_ _) | (with_reducible refine Kd.C_drew ?_))); (case side2 => exact (Kd.N_reads' HO_5.out).2.1); rintro e w34 ⟨v463, rfl, ho0, hb⟩; refine ⟨_, rfl, ?_⟩; have n0_ := Aside0.mk (Kd.N_elder' (by (with_reducible repeat (first | apply Kd.N_alloc | apply Kd.N_drewN | apply Kd.N_drew)); exact HO_5.out) (Kd.N_base ho0) hb); have n1_ := Aside0.mk (Kd.N_lower (Kd.N_mono (ok' := fun k_ => some k_ ≠ (.slice Ao33 x5_2.length co33 : Value).ownBlock) ho0 (fun k_ hk_ => (Kd.fresh' (Kd.N_lt (by (with_reducible repeat (first | apply Kd.N_alloc | apply Kd.N_drewN | apply Kd.N_drew)); exact HO_5.out)) k_ hk_))) (below_size (by repeat (first | (with_reducible first | exact HB.out | apply below_alloc | apply pw_below_drewN | apply below_drew1) | exact HB.out)))); have n2_ := Aside0.mk (below_step (by repeat (first | (with_reducible first | exact HB.out | apply below_alloc | apply pw_below_drewN | apply below_drew1) | exact HB.out)) hb); clear HO_5; clear HB; have HO_5 := n0_; have HO464 := n1_; have HB := n2_; clear n0_ n1_ n2_; (try clear hb); (try clear hb2); (try clear hk); (try clear hi); (try clear ho0); obtain ⟨Ao35, co35, eo35⟩ := Kd.N_slice HO464.out; subst eo35) | ((with_reducible refine gate_callee (f := 10) rfl ?_); refine goesL_ (some 77) rfl rfl Try.func10 (by kernel_rfl) rfl #[.slice Ao33 x5_2.length co33, .slice Ao35 t462.length co35] rfl (by (try simp only [List.map_toArray, List.map_cons, List.map_nil]); first | done | rfl | (simp only [List.length_drop, List.length_take]; rfl)) ?_; (with_reducible refine (chunk_Apply.calls _ _ x5_2 _ _ t462 t470 _ ?side1 ?side2 ?side3 ?side4 A32.out).mono ?_); (case side1 => repeat (first | exact (Kd.N_reads' HO_5.out).2.2 | (with_reducible refine Kd.C_alloc ?_ _) | (with_reducible refine Kd.C_drewN ?_ _) | (with_reducible refine Kd.C_drew ?_))); (case side2 => exact (Kd.N_reads' HO_5.out).2.1); (case side3 => repeat (first | exact (Kd.N_reads' HO464.out).2.2 | (with_reducible refine Kd.C_alloc ?_ _) | (with_reducible refine Kd.C_drewN ?_ _) | (with_reducible refine Kd.C_drew ?_))); (case side4 => exact (Kd.N_reads' HO464.out).2.1); rintro e w36 ⟨v471, rfl, ho0, hb⟩; refine ⟨_, rfl, ?_⟩; have n0_ := Aside0.mk (Kd.N_elder' (by (with_reducible repeat (first | apply Kd.N_alloc | apply Kd.N_drewN | apply Kd.N_drew)); exact HO_5.out) (Kd.N_base ho0) hb); have n1_ := Aside0.mk (Kd.N_elder' (by (with_reducible repeat (first | apply Kd.N_alloc | apply Kd.N_drewN | apply Kd.N_drew)); exact HO464.out) (Kd.N_base ho0) hb); have n2_ := Aside0.mk (Kd.N_lower (Kd.N_mono (ok' := fun k_ => some k_ ≠ (.slice Ao33 x5_2.length co33 : Value).ownBlock ∧ some k_ ≠ (.slice Ao35 t462.length co35 : Value).ownBlock) ho0 (fun k_ hk_ => ⟨(Kd.fresh' (Kd.N_lt (by (with_reducible repeat (first | apply Kd.N_alloc | apply Kd.N_drewN | apply Kd.N_drew)); exact HO_5.out)) k_ hk_), (Kd.fresh' (Kd.N_lt (by (with_reducible repeat (first | apply Kd.N_alloc | apply Kd.N_drewN | apply Kd.N_drew)); exact HO464.out)) k_ hk_)⟩)) (below_size (by repeat (first | (with_reducible first | exact HB.out | apply below_alloc | apply pw_below_drewN | apply below_drew1) | exact HB.out)))); have n3_ := Aside0.mk (below_step (by repeat (first | (with_reducible first | exact HB.out | apply below_alloc | apply pw_below_drewN | apply below_drew1) | exact HB.out)) hb); clear HO_5; clear HO464; clear HB; have HO_5 := n0_; have HO464 := n1_; have HO472 := n2_; have HB := n3_; clear n0_ n1_ n2_ n3_; (try clear hb); (try clear hb2); (try clear hk); (try clear hi); (try clear ho0)))
                    go_loopg [13] kj21 (fun kq v13 w' => ∃ (x13_4 : Int), v13 = .int .i64 x13_4 ∧ Aside0 (cobweblaw10_ChunkKeeps.l1 kq x5_2 x9_21 t462 t465 t470 x13_4 = some r) ∧ Aside0 (kq ≤ kj21) ∧ Aside0 (Kd.N k39 39 w' w.heap.size (fun k_ => some k_ ≠ ((.slice Ao35 t462.length co35) : Value).ownBlock ∧ some k_ ≠ (v471 : Value).ownBlock) (.slice Ao33 x5_2.length co33) x5_2) ∧ Aside0 (Kd.N k39 39 w' w.heap.size (fun k_ => some k_ ≠ ((.slice Ao33 x5_2.length co33) : Value).ownBlock ∧ some k_ ≠ (v471 : Value).ownBlock) (.slice Ao35 t462.length co35) t462) ∧ Aside0 (Kd.N k39 39 w' w.heap.size (fun k_ => some k_ ≠ ((.slice Ao33 x5_2.length co33) : Value).ownBlock ∧ some k_ ≠ ((.slice Ao35 t462.length co35) : Value).ownBlock) v471 t470) ∧ Aside0 (Below w.heap.size w w'))
                    case atStart => exact ⟨(0), (by first | rfl | (simp; done) | (simp [*]; done)), H', ⟨Nat.le_refl _⟩, ⟨by (with_reducible repeat (first | apply Kd.N_alloc | apply Kd.N_drewN | apply Kd.N_drew)); exact Kd.N_mono HO_5.out (fun _ hk => ⟨hk.1.2, hk.2⟩)⟩, ⟨by (with_reducible repeat (first | apply Kd.N_alloc | apply Kd.N_drewN | apply Kd.N_drew)); exact HO464.out⟩, ⟨by (with_reducible repeat (first | apply Kd.N_alloc | apply Kd.N_drewN | apply Kd.N_drew)); exact HO472.out⟩, ⟨by repeat (first | (with_reducible first | exact HB.out | apply below_alloc | apply pw_below_drewN | apply below_drew1) | exact HB.out)⟩⟩
                    case round =>
                      clear H'
                      try clear c1
                      try clear c2
                      try clear p2
                      try clear p4
                      try clear q4
                      try clear hx4
                      try clear c5
                      try clear p6
                      try clear c7
                      try clear c8
                      try clear c9
                      try clear c10
                      try clear c11
                      try clear c11b0
                      try clear c12
                      try clear c12b0
                      try clear c13
                      try clear c14
                      try clear c14b0
                      try clear c14b1
                      try clear c23
                      try clear c23b0
                      try clear c23b1
                      try clear c25
                      try clear c25b0
                      try clear c25b1
                      try clear c26
                      try clear hx454_0
                      try clear p2
                      try clear p4
                      try clear p454
                      try clear p6
                      try clear q4
                      try clear q454
                      obtain ⟨x13_4, rfl, HA, HK4, HO_5, HO_10, HO_12, HB⟩ := hrel
                      cases gk with
                      | zero => exact absurd HA.out (by simp [cobweblaw10_ChunkKeeps.l1])
                      | succ k4 =>
                        have H := HA.out
                        clear HA
                        simp only [cobweblaw10_ChunkKeeps.l1] at H
                        by_cases c37 : x13_4 < (x5_2.length : Int)
                        · rw [if_pos c37] at H
                          have c37b0 : decide (x13_4 < (x5_2.length : Int)) = true := decide_eq_true c37
                          clear c37
                          have H' := Aside0.mk H
                          clear H
                          go_wp2
                          go_loopg [14, 15] k4 (fun kq v14 v15 w' => ∃ (x14_5 : Bool) (x15_5 : Int), v14 = .bool x14_5 ∧ v15 = .int .i64 x15_5 ∧ Aside0 (cobweblaw10_ChunkKeeps.l2 kq x5_2 x9_21 t462 t465 t470 x13_4 x14_5 x15_5 = some r) ∧ Aside0 (kq ≤ k4) ∧ Aside0 (Kd.N k39 39 w' w.heap.size (fun k_ => some k_ ≠ ((.slice Ao35 t462.length co35) : Value).ownBlock ∧ some k_ ≠ (v471 : Value).ownBlock) (.slice Ao33 x5_2.length co33) x5_2) ∧ Aside0 (Kd.N k39 39 w' w.heap.size (fun k_ => some k_ ≠ ((.slice Ao33 x5_2.length co33) : Value).ownBlock ∧ some k_ ≠ (v471 : Value).ownBlock) (.slice Ao35 t462.length co35) t462) ∧ Aside0 (Kd.N k39 39 w' w.heap.size (fun k_ => some k_ ≠ ((.slice Ao33 x5_2.length co33) : Value).ownBlock ∧ some k_ ≠ ((.slice Ao35 t462.length co35) : Value).ownBlock) v471 t470) ∧ Aside0 (Below w.heap.size w w'))
                          case atStart => exact ⟨(false), (0), (by first | rfl | (simp; done) | (simp [*]; done)), (by first | rfl | (simp; done) | (simp [*]; done)), H', ⟨Nat.le_refl _⟩, ⟨by (with_reducible repeat (first | apply Kd.N_alloc | apply Kd.N_drewN | apply Kd.N_drew)); exact HO_5.out⟩, ⟨by (with_reducible repeat (first | apply Kd.N_alloc | apply Kd.N_drewN | apply Kd.N_drew)); exact HO_10.out⟩, ⟨by (with_reducible repeat (first | apply Kd.N_alloc | apply Kd.N_drewN | apply Kd.N_drew)); exact HO_12.out⟩, ⟨by repeat (first | (with_reducible first | exact HB.out | apply below_alloc | apply pw_below_drewN | apply below_drew1) | exact HB.out)⟩⟩
                          case round =>
                            clear H'
                            try clear c1
                            try clear c2
                            try clear p2
                            try clear c3
                            try clear p4
                            try clear q4
                            try clear hx4
                            try clear c5
                            try clear p6
                            try clear c7
                            try clear c8
                            try clear c9
                            try clear c10
                            try clear c11
                            try clear c11b0
                            try clear c12
                            try clear c12b0
                            try clear c13
                            try clear c14
                            try clear c14b0
                            try clear c14b1
                            try clear c23
                            try clear c23b0
                            try clear c23b1
                            try clear c25
                            try clear c25b0
                            try clear c25b1
                            try clear c26
                            try clear c37
                            try clear c37b0
                            try clear hx454_0
                            try clear p2
                            try clear p4
                            try clear p454
                            try clear p6
                            try clear q4
                            try clear q454
                            obtain ⟨x14_5, x15_5, rfl, rfl, HA, HK5, HO_5, HO_10, HO_12, HB⟩ := hrel
                            cases gk with
                            | zero => exact absurd HA.out (by simp [cobweblaw10_ChunkKeeps.l2])
                            | succ k5 =>
                              have H := HA.out
                              clear HA
                              simp only [cobweblaw10_ChunkKeeps.l2] at H
                              by_cases c38 : x15_5 < (t462.length : Int)
                              · rw [if_pos c38] at H
                                have c38b0 : decide (x15_5 < (t462.length : Int)) = true := decide_eq_true c38
                                clear c38
                                by_cases c39 : x14_5 = true
                                · subst c39
                                  have H1 : (cobweblaw10_ChunkKeeps.l2 k5 x5_2 x9_21 t462 t465 t470 x13_4 true (wrap64 (x15_5 + 1))) = some r := by rw [if_pos rfl] at H; exact H
                                  clear H
                                  have H := H1
                                  clear H1
                                  have H' := Aside0.mk H
                                  clear H
                                  try go_wp2
                                  have n0_ := Aside0.mk (Kd.N_drew HO_5.out)
                                  have n1_ := Aside0.mk (Kd.N_drew HO_10.out)
                                  have n2_ := Aside0.mk (Kd.N_drew HO_12.out)
                                  have n3_ := Aside0.mk (below_drew1 HB.out)
                                  clear HO_5
                                  clear HO_10
                                  clear HO_12
                                  clear HB
                                  have HO_5 := n0_
                                  have HO_10 := n1_
                                  have HO_12 := n2_
                                  have HB := n3_
                                  clear n0_ n1_ n2_ n3_
                                  refine start_ (n := 15) (S := fun w' => True) (ds := []) #[false, false, false, false, false, false, false, false, false, false, false, false, false, false, false] (by kernel_rfl) rfl rfl trivial (fun hHeld => ?_); refine with_tabW cobweblaw10_ChunkKeeps.tab24 cobweblaw10_ChunkKeeps.bits24 (fun HT_ HW_ => ?_)
                                  generalize wr.drew = w40 at HO_5 HO_10 HO_12 HB hHeld ⊢
                                  refine pure_ (i := 0) (N := some 90) (v := ?_) (a' := ?_) #[true, false, false, false, false, false, false, false, false, false, false, false, false, false, false] rfl rfl (any_of HT_.out (by kernel_rfl)) (fun _ _ _ h => h) (Or.inl ⟨by rfl, ?_⟩) ?_ ?_
                                  rotate_left
                                  · intro w'
                                    go_simp
                                    with_reducible rfl
                                  rotate_left
                                  · simp only [Act.put, List.setIfInBounds_toArray, List.set_cons_zero, List.set_cons_succ, i64_w, i32_w]
                                    rfl
                                  refine pure_ (i := 1) (N := some 91) (v := ?_) (a' := ?_) #[true, true, false, false, false, false, false, false, false, false, false, false, false, false, false] rfl rfl (any_of HT_.out (by kernel_rfl)) (fun _ _ _ h => h) (Or.inl ⟨by rfl, ?_⟩) ?_ ?_
                                  rotate_left
                                  · intro w'
                                    go_simp
                                    with_reducible rfl
                                  rotate_left
                                  · simp only [Act.put, List.setIfInBounds_toArray, List.set_cons_zero, List.set_cons_succ, i64_w, i32_w]
                                    rfl
                                  refine pure_ (i := 2) (N := some 92) (v := undef) (a' := ?_) #[true, true, true, false, false, false, false, false, false, false, false, false, false, false, false] rfl rfl (any_of HT_.out (by kernel_rfl)) (fun _ _ _ h => h) (Or.inr ⟨by rfl, rfl⟩) ?_ ?_
                                  rotate_left
                                  · simp only [Act.put, List.setIfInBounds_toArray, List.set_cons_zero, List.set_cons_succ, i64_w, i32_w]
                                    rfl
                                  refine pure_ (i := 3) (N := some 93) (v := undef) (a' := ?_) #[true, true, true, true, false, false, false, false, false, false, false, false, false, false, false] rfl rfl (any_of HT_.out (by kernel_rfl)) (fun _ _ _ h => h) (Or.inr ⟨by rfl, rfl⟩) ?_ ?_
                                  rotate_left
                                  · simp only [Act.put, List.setIfInBounds_toArray, List.set_cons_zero, List.set_cons_succ, i64_w, i32_w]
                                    rfl
                                  refine pure_ (i := 4) (N := some 94) (v := undef) (a' := ?_) #[true, true, true, true, true, false, false, false, false, false, false, false, false, false, false] rfl rfl (any_of HT_.out (by kernel_rfl)) (fun _ _ _ h => h) (Or.inr ⟨by rfl, rfl⟩) ?_ ?_
                                  rotate_left
                                  · simp only [Act.put, List.setIfInBounds_toArray, List.set_cons_zero, List.set_cons_succ, i64_w, i32_w]
                                    rfl
                                  refine pure_ (i := 5) (N := some 95) (v := undef) (a' := ?_) #[true, true, true, true, true, true, false, false, false, false, false, false, false, false, false] rfl rfl (any_of HT_.out (by kernel_rfl)) (fun _ _ _ h => h) (Or.inr ⟨by rfl, rfl⟩) ?_ ?_
                                  rotate_left
                                  · simp only [Act.put, List.setIfInBounds_toArray, List.set_cons_zero, List.set_cons_succ, i64_w, i32_w]
                                    rfl
                                  refine pure_ (i := 6) (N := some 96) (v := undef) (a' := ?_) #[true, true, true, true, true, true, true, false, false, false, false, false, false, false, false] rfl rfl (any_of HT_.out (by kernel_rfl)) (fun _ _ _ h => h) (Or.inr ⟨by rfl, rfl⟩) ?_ ?_
                                  rotate_left
                                  · simp only [Act.put, List.setIfInBounds_toArray, List.set_cons_zero, List.set_cons_succ, i64_w, i32_w]
                                    rfl
                                  refine pure_ (i := 7) (N := some 97) (v := undef) (a' := ?_) #[true, true, true, true, true, true, true, true, false, false, false, false, false, false, false] rfl rfl (any_of HT_.out (by kernel_rfl)) (fun _ _ _ h => h) (Or.inr ⟨by rfl, rfl⟩) ?_ ?_
                                  rotate_left
                                  · simp only [Act.put, List.setIfInBounds_toArray, List.set_cons_zero, List.set_cons_succ, i64_w, i32_w]
                                    rfl
                                  refine pure_ (i := 8) (N := some 98) (v := undef) (a' := ?_) #[true, true, true, true, true, true, true, true, true, false, false, false, false, false, false] rfl rfl (any_of HT_.out (by kernel_rfl)) (fun _ _ _ h => h) (Or.inr ⟨by rfl, rfl⟩) ?_ ?_
                                  rotate_left
                                  · simp only [Act.put, List.setIfInBounds_toArray, List.set_cons_zero, List.set_cons_succ, i64_w, i32_w]
                                    rfl
                                  refine pure_ (i := 9) (N := some 99) (v := undef) (a' := ?_) #[true, true, true, true, true, true, true, true, true, true, false, false, false, false, false] rfl rfl (any_of HT_.out (by kernel_rfl)) (fun _ _ _ h => h) (Or.inr ⟨by rfl, rfl⟩) ?_ ?_
                                  rotate_left
                                  · simp only [Act.put, List.setIfInBounds_toArray, List.set_cons_zero, List.set_cons_succ, i64_w, i32_w]
                                    rfl
                                  refine pure_ (i := 10) (N := some 100) (v := undef) (a' := ?_) #[true, true, true, true, true, true, true, true, true, true, true, false, false, false, false] rfl rfl (any_of HT_.out (by kernel_rfl)) (fun _ _ _ h => h) (Or.inr ⟨by rfl, rfl⟩) ?_ ?_
                                  rotate_left
                                  · simp only [Act.put, List.setIfInBounds_toArray, List.set_cons_zero, List.set_cons_succ, i64_w, i32_w]
                                    rfl
                                  refine pure_ (i := 11) (N := some 101) (v := undef) (a' := ?_) #[true, true, true, true, true, true, true, true, true, true, true, true, false, false, false] rfl rfl (any_of HT_.out (by kernel_rfl)) (fun _ _ _ h => h) (Or.inr ⟨by rfl, rfl⟩) ?_ ?_
                                  rotate_left
                                  · simp only [Act.put, List.setIfInBounds_toArray, List.set_cons_zero, List.set_cons_succ, i64_w, i32_w]
                                    rfl
                                  refine pure_ (i := 12) (N := some 102) (v := undef) (a' := ?_) #[true, true, true, true, true, true, true, true, true, true, true, true, true, false, false] rfl rfl (any_of HT_.out (by kernel_rfl)) (fun _ _ _ h => h) (Or.inr ⟨by rfl, rfl⟩) ?_ ?_
                                  rotate_left
                                  · simp only [Act.put, List.setIfInBounds_toArray, List.set_cons_zero, List.set_cons_succ, i64_w, i32_w]
                                    rfl
                                  refine pure_ (i := 13) (N := some 103) (v := ?_) (a' := ?_) #[true, true, true, true, true, true, true, true, true, true, true, true, true, true, false] rfl rfl (any_of HT_.out (by kernel_rfl)) (fun _ _ _ h => h) (Or.inl ⟨by rfl, ?_⟩) ?_ ?_
                                  rotate_left
                                  · intro w'
                                    go_simp
                                    with_reducible rfl
                                  rotate_left
                                  · simp only [Act.put, List.setIfInBounds_toArray, List.set_cons_zero, List.set_cons_succ, i64_w, i32_w]
                                    rfl
                                  refine pure_ (i := 14) (N := some 14) (v := ?_) (a' := ?_) #[true, true, true, true, true, true, true, true, true, true, true, true, true, true, true] rfl rfl (any_of HT_.out (by kernel_rfl)) (fun _ _ _ h => h) (Or.inl ⟨by rfl, ?_⟩) ?_ ?_
                                  rotate_left
                                  · intro w'
                                    go_simp
                                    with_reducible rfl
                                  rotate_left
                                  · simp only [Act.put, List.setIfInBounds_toArray, List.set_cons_zero, List.set_cons_succ, i64_w, i32_w]
                                    rfl
                                  refine done_ (done_of HT_.out (by kernel_rfl)) ?_
                                  try go_wp2
                                  go_roundg k5
                                  case measure => have := HJ2.out; have := HK2.out; have := HJ21.out; have := HK4.out; have := HK5.out; omega
                                  case rel => exact ⟨(true), (wrap64 (x15_5 + 1)), (by first | rfl | (simp; done) | (simp [*]; done)), (by first | rfl | (simp; done) | (simp [*]; done)), H', ⟨by have := HJ2.out; have := HK2.out; have := HJ21.out; have := HK4.out; have := HK5.out; omega⟩, ⟨by (with_reducible repeat (first | apply Kd.N_alloc | apply Kd.N_drewN | apply Kd.N_drew)); exact HO_5.out⟩, ⟨by (with_reducible repeat (first | apply Kd.N_alloc | apply Kd.N_drewN | apply Kd.N_drew)); exact HO_10.out⟩, ⟨by (with_reducible repeat (first | apply Kd.N_alloc | apply Kd.N_drewN | apply Kd.N_drew)); exact HO_12.out⟩, ⟨by repeat (first | (with_reducible first | exact HB.out | apply below_alloc | apply pw_below_drewN | apply below_drew1) | exact HB.out)⟩⟩
                                · replace c39 := Bool.eq_false_iff.mpr c39
                                  subst c39
                                  have H1 : (if 0 ≤ x15_5 then (if 0 ≤ x13_4 then (if x13_4 < (x5_2.length : Int) then (cobweblaw10_ChunkKeeps.l2 k5 x5_2 x9_21 t462 t465 t470 x13_4 (((rd_T39 t462 x15_5).f0) == ((rd_T39 x5_2 x13_4).f0)) (wrap64 (x15_5 + 1))) else (none)) else (none)) else (none)) = some r := by rw [if_neg (show ¬ (false = true) by decide)] at H; exact H
                                  clear H
                                  have H := H1
                                  clear H1
                                  by_cases c41 : 0 ≤ x15_5
                                  · rw [if_pos c41] at H
                                    have c41b0 : decide (0 ≤ x15_5) = true := decide_eq_true c41
                                    clear c41
                                    by_cases c42 : 0 ≤ x13_4
                                    · rw [if_pos c42] at H
                                      have c42b0 : decide (0 ≤ x13_4) = true := decide_eq_true c42
                                      clear c42
                                      by_cases c43 : x13_4 < (x5_2.length : Int)
                                      · rw [if_pos c43] at H
                                        have c43b0 : decide (x13_4 < (x5_2.length : Int)) = true := decide_eq_true c43
                                        clear c43
                                        have H' := Aside0.mk H
                                        clear H
                                        try go_wp2
                                        have n0_ := Aside0.mk (Kd.N_drew HO_5.out)
                                        have n1_ := Aside0.mk (Kd.N_drew HO_10.out)
                                        have n2_ := Aside0.mk (Kd.N_drew HO_12.out)
                                        have n3_ := Aside0.mk (below_drew1 HB.out)
                                        clear HO_5
                                        clear HO_10
                                        clear HO_12
                                        clear HB
                                        have HO_5 := n0_
                                        have HO_10 := n1_
                                        have HO_12 := n2_
                                        have HB := n3_
                                        clear n0_ n1_ n2_ n3_
                                        have p473 : 0 ≤ (x15_5 : Int) := of_decide_eq_true (by first | (with_reducible assumption) | assumption)
                                        have q473 : x15_5 < (t462.length : Int) := of_decide_eq_true (by first | (with_reducible assumption) | assumption)
                                        obtain ⟨ad473, A473_1, c473_1, e473, hx473_0, hx473_1, hx473_2, hx473_3, hl473_1, hi473_1⟩ := at_T39 (Kd.N_reads' HO_10.out).2.2 x15_5 p473 q473
                                        cases e473
                                        obtain ⟨ce473, hce473, hMe473, hcc473⟩ := Kd.N_get HO_10.out z39 x15_5 p473 (by first | exact q473 | exact of_decide_eq_true (by first | (with_reducible assumption) | assumption) | (have e_ := (Kd.N_reads' HO_10.out).1; omega))
                                        obtain ⟨ua473_1, uc473_1, rfl, ul473_1, ge473_1⟩ := k39_openF hMe473
                                        have hv473_1 := hcc473 1 _ rfl
                                        rw [add_field _ _ 1 (by omega)] at hv473_1
                                        replace hv473_1 := Option.some.inj (hv473_1.symm.trans hx473_1)
                                        injection hv473_1 with hva_ hvn_ hvc_
                                        rw [hva_] at ge473_1
                                        rw [hvc_] at ul473_1
                                        have HL473_1 := Aside0.mk (show Kd.V (Kd.int .i64) 3 _ w.heap.size _ _ ((rd_T39 t462 x15_5).f1) from Kd.V_mk ul473_1 ge473_1)
                                        clear hva_ hvn_ hvc_ ge473_1 ul473_1
                                        clear hcc473 hce473
                                        have HR473_1 := Aside0.mk hi473_1
                                        have HC473_1 := Aside0.mk hl473_1
                                        clear hi473_1 hl473_1
                                        replace p473 := eq_true p473
                                        replace q473 := eq_true q473
                                        have p474 : 0 ≤ (x13_4 : Int) := of_decide_eq_true (by first | (with_reducible assumption) | assumption)
                                        have q474 : x13_4 < (x5_2.length : Int) := of_decide_eq_true (by first | (with_reducible assumption) | assumption)
                                        obtain ⟨ad474, A474_1, c474_1, e474, hx474_0, hx474_1, hx474_2, hx474_3, hl474_1, hi474_1⟩ := at_T39 (Kd.N_reads' HO_5.out).2.2 x13_4 p474 q474
                                        cases e474
                                        obtain ⟨ce474, hce474, hMe474, hcc474⟩ := Kd.N_get HO_5.out z39 x13_4 p474 (by first | exact q474 | exact of_decide_eq_true (by first | (with_reducible assumption) | assumption) | (have e_ := (Kd.N_reads' HO_5.out).1; omega))
                                        obtain ⟨ua474_1, uc474_1, rfl, ul474_1, ge474_1⟩ := k39_openF hMe474
                                        have hv474_1 := hcc474 1 _ rfl
                                        rw [add_field _ _ 1 (by omega)] at hv474_1
                                        replace hv474_1 := Option.some.inj (hv474_1.symm.trans hx474_1)
                                        injection hv474_1 with hva_ hvn_ hvc_
                                        rw [hva_] at ge474_1
                                        rw [hvc_] at ul474_1
                                        have HL474_1 := Aside0.mk (show Kd.V (Kd.int .i64) 3 _ w.heap.size _ _ ((rd_T39 x5_2 x13_4).f1) from Kd.V_mk ul474_1 ge474_1)
                                        clear hva_ hvn_ hvc_ ge474_1 ul474_1
                                        clear hcc474 hce474
                                        have HR474_1 := Aside0.mk hi474_1
                                        have HC474_1 := Aside0.mk hl474_1
                                        clear hi474_1 hl474_1
                                        replace p474 := eq_true p474
                                        replace q474 := eq_true q474
                                        refine start_ (n := 15) (S := fun w' => w'.cell? (ad473.add ((x15_5).toNat * 4)) = some (.int .i64 ((rd_T39 t462 x15_5).f0)) ∧ w'.cell? ⟨(ad473.add ((x15_5).toNat * 4)).block, (ad473.add ((x15_5).toNat * 4)).off + 1, none⟩ = some (.slice A473_1 ((rd_T39 t462 x15_5).f1).length c473_1) ∧ w'.cell? ⟨(ad473.add ((x15_5).toNat * 4)).block, (ad473.add ((x15_5).toNat * 4)).off + 2, none⟩ = some (.int .i64 ((rd_T39 t462 x15_5).f2)) ∧ w'.cell? ⟨(ad473.add ((x15_5).toNat * 4)).block, (ad473.add ((x15_5).toNat * 4)).off + 3, none⟩ = some (.bool ((rd_T39 t462 x15_5).f3)) ∧ w'.cell? (ad474.add ((x13_4).toNat * 4)) = some (.int .i64 ((rd_T39 x5_2 x13_4).f0)) ∧ w'.cell? ⟨(ad474.add ((x13_4).toNat * 4)).block, (ad474.add ((x13_4).toNat * 4)).off + 1, none⟩ = some (.slice A474_1 ((rd_T39 x5_2 x13_4).f1).length c474_1) ∧ w'.cell? ⟨(ad474.add ((x13_4).toNat * 4)).block, (ad474.add ((x13_4).toNat * 4)).off + 2, none⟩ = some (.int .i64 ((rd_T39 x5_2 x13_4).f2)) ∧ w'.cell? ⟨(ad474.add ((x13_4).toNat * 4)).block, (ad474.add ((x13_4).toNat * 4)).off + 3, none⟩ = some (.bool ((rd_T39 x5_2 x13_4).f3))) (ds := []) #[false, false, false, false, false, false, false, false, false, false, false, false, false, false, false] (by kernel_rfl) rfl rfl ⟨hx473_0, hx473_1, hx473_2, hx473_3, hx474_0, hx474_1, hx474_2, hx474_3⟩ (fun hHeld => ?_); refine with_tabW cobweblaw10_ChunkKeeps.tab24 cobweblaw10_ChunkKeeps.bits24 (fun HT_ HW_ => ?_)
                                        generalize wr.drew = w44 at HO_5 HO_10 HO_12 HB HL473_1 HL474_1 HR473_1 HR474_1 hx473_0 hx473_1 hx473_2 hx473_3 hx474_0 hx474_1 hx474_2 hx474_3 hHeld ⊢
                                        refine pure_ (i := 0) (N := some 90) (v := ?_) (a' := ?_) #[true, false, false, false, false, false, false, false, false, false, false, false, false, false, false] rfl rfl (any_of HT_.out (by kernel_rfl)) (fun _ _ _ h => h) (Or.inl ⟨by rfl, ?_⟩) ?_ ?_
                                        rotate_left
                                        · intro w'
                                          go_simp
                                          with_reducible rfl
                                        rotate_left
                                        · simp only [Act.put, List.setIfInBounds_toArray, List.set_cons_zero, List.set_cons_succ, i64_w, i32_w]
                                          rfl
                                        refine pure_ (i := 1) (N := some 91) (v := ?_) (a' := ?_) #[true, true, false, false, false, false, false, false, false, false, false, false, false, false, false] rfl rfl (any_of HT_.out (by kernel_rfl)) (fun _ _ _ h => h) (Or.inl ⟨by rfl, ?_⟩) ?_ ?_
                                        rotate_left
                                        · intro w'
                                          go_simp
                                          with_reducible rfl
                                        rotate_left
                                        · simp only [Act.put, List.setIfInBounds_toArray, List.set_cons_zero, List.set_cons_succ, i64_w, i32_w]
                                          rfl
                                        refine pure_ (i := 2) (N := some 92) (v := ?_) (a' := ?_) #[true, true, true, false, false, false, false, false, false, false, false, false, false, false, false] rfl rfl (any_of HT_.out (by kernel_rfl)) (fun _ _ _ h => h) (Or.inl ⟨by rfl, ?_⟩) ?_ ?_
                                        rotate_left
                                        · intro w'
                                          go_simp
                                          with_reducible rfl
                                        rotate_left
                                        · simp only [Act.put, List.setIfInBounds_toArray, List.set_cons_zero, List.set_cons_succ, i64_w, i32_w]
                                          rfl
                                        refine pure_ (i := 3) (N := some 93) (v := ?_) (a' := ?_) #[true, true, true, true, false, false, false, false, false, false, false, false, false, false, false] rfl rfl (any_of HT_.out (by kernel_rfl)) (fun _ _ _ h => h) (Or.inl ⟨by rfl, ?_⟩) ?_ ?_
                                        rotate_left
                                        · intro w'
                                          go_simp
                                          with_reducible rfl
                                        rotate_left
                                        · simp only [Act.put, List.setIfInBounds_toArray, List.set_cons_zero, List.set_cons_succ, i64_w, i32_w]
                                          rfl
                                        refine pure_ (i := 4) (N := some 94) (v := ?_) (a' := ?_) #[true, true, true, true, true, false, false, false, false, false, false, false, false, false, false] rfl rfl (any_of HT_.out (by kernel_rfl)) (fun _ _ _ h => h) (Or.inl ⟨by rfl, ?_⟩) ?_ ?_
                                        rotate_left
                                        · intro w'
                                          go_simp
                                          with_reducible rfl
                                        rotate_left
                                        · simp only [Act.put, List.setIfInBounds_toArray, List.set_cons_zero, List.set_cons_succ, i64_w, i32_w]
                                          rfl
                                        refine pure_ (i := 5) (N := some 95) (v := ?_) (a' := ?_) #[true, true, true, true, true, true, false, false, false, false, false, false, false, false, false] rfl rfl (any_of HT_.out (by kernel_rfl)) (fun _ _ _ h => h) (Or.inl ⟨by rfl, ?_⟩) ?_ ?_
                                        rotate_left
                                        · intro w'
                                          go_simp
                                          with_reducible rfl
                                        rotate_left
                                        · simp only [Act.put, List.setIfInBounds_toArray, List.set_cons_zero, List.set_cons_succ, i64_w, i32_w]
                                          rfl
                                        refine pure_ (i := 7) (N := some 97) (v := ?_) (a' := ?_) #[true, true, true, true, true, true, false, true, false, false, false, false, false, false, false] rfl rfl (any_of HT_.out (by kernel_rfl)) (fun _ _ _ h => h) (Or.inl ⟨by rfl, ?_⟩) ?_ ?_
                                        rotate_left
                                        · intro w'
                                          go_simp
                                          with_reducible rfl
                                        rotate_left
                                        · simp only [Act.put, List.setIfInBounds_toArray, List.set_cons_zero, List.set_cons_succ, i64_w, i32_w]
                                          rfl
                                        refine pure_ (i := 8) (N := some 98) (v := ?_) (a' := ?_) #[true, true, true, true, true, true, false, true, true, false, false, false, false, false, false] rfl rfl (any_of HT_.out (by kernel_rfl)) (fun _ _ _ h => h) (Or.inl ⟨by rfl, ?_⟩) ?_ ?_
                                        rotate_left
                                        · intro w'
                                          go_simp
                                          with_reducible rfl
                                        rotate_left
                                        · simp only [Act.put, List.setIfInBounds_toArray, List.set_cons_zero, List.set_cons_succ, i64_w, i32_w]
                                          rfl
                                        refine pure_ (i := 9) (N := some 99) (v := ?_) (a' := ?_) #[true, true, true, true, true, true, false, true, true, true, false, false, false, false, false] rfl rfl (any_of HT_.out (by kernel_rfl)) (fun _ _ _ h => h) (Or.inl ⟨by rfl, ?_⟩) ?_ ?_
                                        rotate_left
                                        · intro w'
                                          go_simp
                                          with_reducible rfl
                                        rotate_left
                                        · simp only [Act.put, List.setIfInBounds_toArray, List.set_cons_zero, List.set_cons_succ, i64_w, i32_w]
                                          rfl
                                        refine pure_ (i := 10) (N := some 100) (v := ?_) (a' := ?_) #[true, true, true, true, true, true, false, true, true, true, true, false, false, false, false] rfl rfl (any_of HT_.out (by kernel_rfl)) (fun _ _ _ h => h) (Or.inl ⟨by rfl, ?_⟩) ?_ ?_
                                        rotate_left
                                        · intro w'
                                          go_simp
                                          with_reducible rfl
                                        rotate_left
                                        · simp only [Act.put, List.setIfInBounds_toArray, List.set_cons_zero, List.set_cons_succ, i64_w, i32_w]
                                          rfl
                                        refine take_ (i := 6) (N := some 96) (v := ?_) (a' := ?_) #[true, true, true, true, true, true, true, true, true, true, true, false, false, false, false] rfl rfl (take_ofW HT_.out HW_.out (by kernel_rfl)) (fun _ _ _ h => h) (Or.inl ⟨by rfl, ?_⟩) hHeld ?_ ?_
                                        rotate_left
                                        · rintro w' ⟨s0, s1, s2, s3, s4, s5, s6, s7⟩
                                          go_simp
                                          with_reducible rfl
                                        rotate_left
                                        · simp only [Act.put, List.setIfInBounds_toArray, List.set_cons_zero, List.set_cons_succ, i64_w, i32_w]
                                          rfl
                                        refine take_ (i := 11) (N := some 101) (v := ?_) (a' := ?_) #[true, true, true, true, true, true, true, true, true, true, true, true, false, false, false] rfl rfl (take_ofW HT_.out HW_.out (by kernel_rfl)) (fun _ _ _ h => h) (Or.inl ⟨by rfl, ?_⟩) hHeld ?_ ?_
                                        rotate_left
                                        · rintro w' ⟨s0, s1, s2, s3, s4, s5, s6, s7⟩
                                          go_simp
                                          with_reducible rfl
                                        rotate_left
                                        · simp only [Act.put, List.setIfInBounds_toArray, List.set_cons_zero, List.set_cons_succ, i64_w, i32_w]
                                          rfl
                                        refine pure_ (i := 12) (N := some 102) (v := ?_) (a' := ?_) #[true, true, true, true, true, true, true, true, true, true, true, true, true, false, false] rfl rfl (any_of HT_.out (by kernel_rfl)) (fun _ _ _ h => h) (Or.inl ⟨by rfl, ?_⟩) ?_ ?_
                                        rotate_left
                                        · intro w'
                                          go_simp
                                          with_reducible rfl
                                        rotate_left
                                        · simp only [Act.put, List.setIfInBounds_toArray, List.set_cons_zero, List.set_cons_succ, i64_w, i32_w]
                                          rfl
                                        refine pure_ (i := 13) (N := some 103) (v := ?_) (a' := ?_) #[true, true, true, true, true, true, true, true, true, true, true, true, true, true, false] rfl rfl (any_of HT_.out (by kernel_rfl)) (fun _ _ _ h => h) (Or.inl ⟨by rfl, ?_⟩) ?_ ?_
                                        rotate_left
                                        · intro w'
                                          go_simp
                                          with_reducible rfl
                                        rotate_left
                                        · simp only [Act.put, List.setIfInBounds_toArray, List.set_cons_zero, List.set_cons_succ, i64_w, i32_w]
                                          rfl
                                        refine pure_ (i := 14) (N := some 14) (v := ?_) (a' := ?_) #[true, true, true, true, true, true, true, true, true, true, true, true, true, true, true] rfl rfl (any_of HT_.out (by kernel_rfl)) (fun _ _ _ h => h) (Or.inl ⟨by rfl, ?_⟩) ?_ ?_
                                        rotate_left
                                        · intro w'
                                          go_simp
                                          with_reducible rfl
                                        rotate_left
                                        · simp only [Act.put, List.setIfInBounds_toArray, List.set_cons_zero, List.set_cons_succ, i64_w, i32_w]
                                          rfl
                                        refine done_ (done_of HT_.out (by kernel_rfl)) ?_
                                        try go_wp2
                                        go_roundg k5
                                        case measure => have := HJ2.out; have := HK2.out; have := HJ21.out; have := HK4.out; have := HK5.out; omega
                                        case rel => exact ⟨((((rd_T39 t462 x15_5).f0) == ((rd_T39 x5_2 x13_4).f0))), (wrap64 (x15_5 + 1)), (by first | rfl | (simp; done) | (simp [*]; done)), (by first | rfl | (simp; done) | (simp [*]; done)), H', ⟨by have := HJ2.out; have := HK2.out; have := HJ21.out; have := HK4.out; have := HK5.out; omega⟩, ⟨by (with_reducible repeat (first | apply Kd.N_alloc | apply Kd.N_drewN | apply Kd.N_drew)); exact HO_5.out⟩, ⟨by (with_reducible repeat (first | apply Kd.N_alloc | apply Kd.N_drewN | apply Kd.N_drew)); exact HO_10.out⟩, ⟨by (with_reducible repeat (first | apply Kd.N_alloc | apply Kd.N_drewN | apply Kd.N_drew)); exact HO_12.out⟩, ⟨by repeat (first | (with_reducible first | exact HB.out | apply below_alloc | apply pw_below_drewN | apply below_drew1) | exact HB.out)⟩⟩
                                      · rw [if_neg c43] at H
                                        exact absurd H (by simp)
                                    · rw [if_neg c42] at H
                                      exact absurd H (by simp)
                                  · rw [if_neg c41] at H
                                    exact absurd H (by simp)
                              · rw [if_neg c38] at H
                                have c38b0 : decide (x15_5 < (t462.length : Int)) = false := decide_eq_false c38
                                clear c38
                                have H' := Aside0.mk H
                                clear H
                                go_wp2
                                go_loopg [16, 17] k5 (fun kq v16 v17 w' => ∃ (x16_6 : Bool) (x17_6 : Int), v16 = .bool x16_6 ∧ v17 = .int .i64 x17_6 ∧ Aside0 (cobweblaw10_ChunkKeeps.l3 kq x5_2 x9_21 t462 t465 t470 x13_4 x14_5 x16_6 x17_6 = some r) ∧ Aside0 (kq ≤ k5) ∧ Aside0 (Kd.N k39 39 w' w.heap.size (fun k_ => some k_ ≠ ((.slice Ao35 t462.length co35) : Value).ownBlock ∧ some k_ ≠ (v471 : Value).ownBlock) (.slice Ao33 x5_2.length co33) x5_2) ∧ Aside0 (Kd.N k39 39 w' w.heap.size (fun k_ => some k_ ≠ ((.slice Ao33 x5_2.length co33) : Value).ownBlock ∧ some k_ ≠ (v471 : Value).ownBlock) (.slice Ao35 t462.length co35) t462) ∧ Aside0 (Kd.N k39 39 w' w.heap.size (fun k_ => some k_ ≠ ((.slice Ao33 x5_2.length co33) : Value).ownBlock ∧ some k_ ≠ ((.slice Ao35 t462.length co35) : Value).ownBlock) v471 t470) ∧ Aside0 (Below w.heap.size w w'))
                                case atStart => exact ⟨(false), (0), (by first | rfl | (simp; done) | (simp [*]; done)), (by first | rfl | (simp; done) | (simp [*]; done)), H', ⟨Nat.le_refl _⟩, ⟨by (with_reducible repeat (first | apply Kd.N_alloc | apply Kd.N_drewN | apply Kd.N_drew)); exact HO_5.out⟩, ⟨by (with_reducible repeat (first | apply Kd.N_alloc | apply Kd.N_drewN | apply Kd.N_drew)); exact HO_10.out⟩, ⟨by (with_reducible repeat (first | apply Kd.N_alloc | apply Kd.N_drewN | apply Kd.N_drew)); exact HO_12.out⟩, ⟨by repeat (first | (with_reducible first | exact HB.out | apply below_alloc | apply pw_below_drewN | apply below_drew1) | exact HB.out)⟩⟩
                                case round =>
                                  clear H'
                                  try clear c1
                                  try clear c2
                                  try clear p2
                                  try clear c3
                                  try clear c4
                                  try clear p4
                                  try clear q4
                                  try clear hx4
                                  try clear c5
                                  try clear p6
                                  try clear c7
                                  try clear c8
                                  try clear c9
                                  try clear c10
                                  try clear c11
                                  try clear c11b0
                                  try clear c12
                                  try clear c12b0
                                  try clear c13
                                  try clear c14
                                  try clear c14b0
                                  try clear c14b1
                                  try clear c23
                                  try clear c23b0
                                  try clear c23b1
                                  try clear c25
                                  try clear c25b0
                                  try clear c25b1
                                  try clear c26
                                  try clear c37
                                  try clear c37b0
                                  try clear c38
                                  try clear c38b0
                                  try clear c39
                                  try clear c41
                                  try clear c41b0
                                  try clear c42
                                  try clear c42b0
                                  try clear c43
                                  try clear c43b0
                                  try clear hx454_0
                                  try clear hx473_0
                                  try clear hx473_1
                                  try clear hx473_2
                                  try clear hx473_3
                                  try clear hx474_0
                                  try clear hx474_1
                                  try clear hx474_2
                                  try clear hx474_3
                                  try clear p2
                                  try clear p4
                                  try clear p454
                                  try clear p473
                                  try clear p474
                                  try clear p6
                                  try clear q4
                                  try clear q454
                                  try clear q473
                                  try clear q474
                                  obtain ⟨x16_6, x17_6, rfl, rfl, HA, HK6, HO_5, HO_10, HO_12, HB⟩ := hrel
                                  cases gk with
                                  | zero => exact absurd HA.out (by simp [cobweblaw10_ChunkKeeps.l3])
                                  | succ k6 =>
                                    have H := HA.out
                                    clear HA
                                    simp only [cobweblaw10_ChunkKeeps.l3] at H
                                    by_cases c45 : x17_6 < (t470.length : Int)
                                    · rw [if_pos c45] at H
                                      have c45b0 : decide (x17_6 < (t470.length : Int)) = true := decide_eq_true c45
                                      clear c45
                                      by_cases c46 : x16_6 = true
                                      · subst c46
                                        have H1 : (cobweblaw10_ChunkKeeps.l3 k6 x5_2 x9_21 t462 t465 t470 x13_4 x14_5 true (wrap64 (x17_6 + 1))) = some r := by rw [if_pos rfl] at H; exact H
                                        clear H
                                        have H := H1
                                        clear H1
                                        have H' := Aside0.mk H
                                        clear H
                                        obtain ⟨Ao47, co47, eo47⟩ := Kd.N_slice HO_12.out
                                        subst eo47
                                        try go_wp2
                                        have n0_ := Aside0.mk (Kd.N_drew HO_5.out)
                                        have n1_ := Aside0.mk (Kd.N_drew HO_10.out)
                                        have n2_ := Aside0.mk (Kd.N_drew HO_12.out)
                                        have n3_ := Aside0.mk (below_drew1 HB.out)
                                        clear HO_5
                                        clear HO_10
                                        clear HO_12
                                        clear HB
                                        have HO_5 := n0_
                                        have HO_10 := n1_
                                        have HO_12 := n2_
                                        have HB := n3_
                                        clear n0_ n1_ n2_ n3_
                                        refine start_ (n := 15) (S := fun w' => True) (ds := []) #[false, false, false, false, false, false, false, false, false, false, false, false, false, false, false] (by kernel_rfl) rfl rfl trivial (fun hHeld => ?_); refine with_tabW cobweblaw10_ChunkKeeps.tab29 cobweblaw10_ChunkKeeps.bits29 (fun HT_ HW_ => ?_)
                                        generalize wr.drew = w48 at HO_5 HO_10 HO_12 HB hHeld ⊢
                                        refine pure_ (i := 0) (N := some 110) (v := ?_) (a' := ?_) #[true, false, false, false, false, false, false, false, false, false, false, false, false, false, false] rfl rfl (any_of HT_.out (by kernel_rfl)) (fun _ _ _ h => h) (Or.inl ⟨by rfl, ?_⟩) ?_ ?_
                                        rotate_left
                                        · intro w'
                                          go_simp
                                          with_reducible rfl
                                        rotate_left
                                        · simp only [Act.put, List.setIfInBounds_toArray, List.set_cons_zero, List.set_cons_succ, i64_w, i32_w]
                                          rfl
                                        refine pure_ (i := 1) (N := some 111) (v := ?_) (a' := ?_) #[true, true, false, false, false, false, false, false, false, false, false, false, false, false, false] rfl rfl (any_of HT_.out (by kernel_rfl)) (fun _ _ _ h => h) (Or.inl ⟨by rfl, ?_⟩) ?_ ?_
                                        rotate_left
                                        · intro w'
                                          go_simp
                                          with_reducible rfl
                                        rotate_left
                                        · simp only [Act.put, List.setIfInBounds_toArray, List.set_cons_zero, List.set_cons_succ, i64_w, i32_w]
                                          rfl
                                        refine pure_ (i := 2) (N := some 112) (v := undef) (a' := ?_) #[true, true, true, false, false, false, false, false, false, false, false, false, false, false, false] rfl rfl (any_of HT_.out (by kernel_rfl)) (fun _ _ _ h => h) (Or.inr ⟨by rfl, rfl⟩) ?_ ?_
                                        rotate_left
                                        · simp only [Act.put, List.setIfInBounds_toArray, List.set_cons_zero, List.set_cons_succ, i64_w, i32_w]
                                          rfl
                                        refine pure_ (i := 3) (N := some 113) (v := undef) (a' := ?_) #[true, true, true, true, false, false, false, false, false, false, false, false, false, false, false] rfl rfl (any_of HT_.out (by kernel_rfl)) (fun _ _ _ h => h) (Or.inr ⟨by rfl, rfl⟩) ?_ ?_
                                        rotate_left
                                        · simp only [Act.put, List.setIfInBounds_toArray, List.set_cons_zero, List.set_cons_succ, i64_w, i32_w]
                                          rfl
                                        refine pure_ (i := 4) (N := some 114) (v := undef) (a' := ?_) #[true, true, true, true, true, false, false, false, false, false, false, false, false, false, false] rfl rfl (any_of HT_.out (by kernel_rfl)) (fun _ _ _ h => h) (Or.inr ⟨by rfl, rfl⟩) ?_ ?_
                                        rotate_left
                                        · simp only [Act.put, List.setIfInBounds_toArray, List.set_cons_zero, List.set_cons_succ, i64_w, i32_w]
                                          rfl
                                        refine pure_ (i := 5) (N := some 115) (v := undef) (a' := ?_) #[true, true, true, true, true, true, false, false, false, false, false, false, false, false, false] rfl rfl (any_of HT_.out (by kernel_rfl)) (fun _ _ _ h => h) (Or.inr ⟨by rfl, rfl⟩) ?_ ?_
                                        rotate_left
                                        · simp only [Act.put, List.setIfInBounds_toArray, List.set_cons_zero, List.set_cons_succ, i64_w, i32_w]
                                          rfl
                                        refine pure_ (i := 6) (N := some 116) (v := undef) (a' := ?_) #[true, true, true, true, true, true, true, false, false, false, false, false, false, false, false] rfl rfl (any_of HT_.out (by kernel_rfl)) (fun _ _ _ h => h) (Or.inr ⟨by rfl, rfl⟩) ?_ ?_
                                        rotate_left
                                        · simp only [Act.put, List.setIfInBounds_toArray, List.set_cons_zero, List.set_cons_succ, i64_w, i32_w]
                                          rfl
                                        refine pure_ (i := 7) (N := some 117) (v := undef) (a' := ?_) #[true, true, true, true, true, true, true, true, false, false, false, false, false, false, false] rfl rfl (any_of HT_.out (by kernel_rfl)) (fun _ _ _ h => h) (Or.inr ⟨by rfl, rfl⟩) ?_ ?_
                                        rotate_left
                                        · simp only [Act.put, List.setIfInBounds_toArray, List.set_cons_zero, List.set_cons_succ, i64_w, i32_w]
                                          rfl
                                        refine pure_ (i := 8) (N := some 118) (v := undef) (a' := ?_) #[true, true, true, true, true, true, true, true, true, false, false, false, false, false, false] rfl rfl (any_of HT_.out (by kernel_rfl)) (fun _ _ _ h => h) (Or.inr ⟨by rfl, rfl⟩) ?_ ?_
                                        rotate_left
                                        · simp only [Act.put, List.setIfInBounds_toArray, List.set_cons_zero, List.set_cons_succ, i64_w, i32_w]
                                          rfl
                                        refine pure_ (i := 9) (N := some 119) (v := undef) (a' := ?_) #[true, true, true, true, true, true, true, true, true, true, false, false, false, false, false] rfl rfl (any_of HT_.out (by kernel_rfl)) (fun _ _ _ h => h) (Or.inr ⟨by rfl, rfl⟩) ?_ ?_
                                        rotate_left
                                        · simp only [Act.put, List.setIfInBounds_toArray, List.set_cons_zero, List.set_cons_succ, i64_w, i32_w]
                                          rfl
                                        refine pure_ (i := 10) (N := some 120) (v := undef) (a' := ?_) #[true, true, true, true, true, true, true, true, true, true, true, false, false, false, false] rfl rfl (any_of HT_.out (by kernel_rfl)) (fun _ _ _ h => h) (Or.inr ⟨by rfl, rfl⟩) ?_ ?_
                                        rotate_left
                                        · simp only [Act.put, List.setIfInBounds_toArray, List.set_cons_zero, List.set_cons_succ, i64_w, i32_w]
                                          rfl
                                        refine pure_ (i := 11) (N := some 121) (v := undef) (a' := ?_) #[true, true, true, true, true, true, true, true, true, true, true, true, false, false, false] rfl rfl (any_of HT_.out (by kernel_rfl)) (fun _ _ _ h => h) (Or.inr ⟨by rfl, rfl⟩) ?_ ?_
                                        rotate_left
                                        · simp only [Act.put, List.setIfInBounds_toArray, List.set_cons_zero, List.set_cons_succ, i64_w, i32_w]
                                          rfl
                                        refine pure_ (i := 12) (N := some 122) (v := undef) (a' := ?_) #[true, true, true, true, true, true, true, true, true, true, true, true, true, false, false] rfl rfl (any_of HT_.out (by kernel_rfl)) (fun _ _ _ h => h) (Or.inr ⟨by rfl, rfl⟩) ?_ ?_
                                        rotate_left
                                        · simp only [Act.put, List.setIfInBounds_toArray, List.set_cons_zero, List.set_cons_succ, i64_w, i32_w]
                                          rfl
                                        refine pure_ (i := 13) (N := some 123) (v := ?_) (a' := ?_) #[true, true, true, true, true, true, true, true, true, true, true, true, true, true, false] rfl rfl (any_of HT_.out (by kernel_rfl)) (fun _ _ _ h => h) (Or.inl ⟨by rfl, ?_⟩) ?_ ?_
                                        rotate_left
                                        · intro w'
                                          go_simp
                                          with_reducible rfl
                                        rotate_left
                                        · simp only [Act.put, List.setIfInBounds_toArray, List.set_cons_zero, List.set_cons_succ, i64_w, i32_w]
                                          rfl
                                        refine pure_ (i := 14) (N := some 16) (v := ?_) (a' := ?_) #[true, true, true, true, true, true, true, true, true, true, true, true, true, true, true] rfl rfl (any_of HT_.out (by kernel_rfl)) (fun _ _ _ h => h) (Or.inl ⟨by rfl, ?_⟩) ?_ ?_
                                        rotate_left
                                        · intro w'
                                          go_simp
                                          with_reducible rfl
                                        rotate_left
                                        · simp only [Act.put, List.setIfInBounds_toArray, List.set_cons_zero, List.set_cons_succ, i64_w, i32_w]
                                          rfl
                                        refine done_ (done_of HT_.out (by kernel_rfl)) ?_
                                        try go_wp2
                                        go_roundg k6
                                        case measure => have := HJ2.out; have := HK2.out; have := HJ21.out; have := HK4.out; have := HK5.out; have := HK6.out; omega
                                        case rel => exact ⟨(true), (wrap64 (x17_6 + 1)), (by first | rfl | (simp; done) | (simp [*]; done)), (by first | rfl | (simp; done) | (simp [*]; done)), H', ⟨by have := HJ2.out; have := HK2.out; have := HJ21.out; have := HK4.out; have := HK5.out; have := HK6.out; omega⟩, ⟨by (with_reducible repeat (first | apply Kd.N_alloc | apply Kd.N_drewN | apply Kd.N_drew)); exact HO_5.out⟩, ⟨by (with_reducible repeat (first | apply Kd.N_alloc | apply Kd.N_drewN | apply Kd.N_drew)); exact HO_10.out⟩, ⟨by (with_reducible repeat (first | apply Kd.N_alloc | apply Kd.N_drewN | apply Kd.N_drew)); exact HO_12.out⟩, ⟨by repeat (first | (with_reducible first | exact HB.out | apply below_alloc | apply pw_below_drewN | apply below_drew1) | exact HB.out)⟩⟩
                                      · replace c46 := Bool.eq_false_iff.mpr c46
                                        subst c46
                                        have H1 : (if 0 ≤ x17_6 then (if x17_6 ≤ (wrap64 (x17_6 + 1)) then (if (wrap64 (x17_6 + 1)) ≤ (t470.length : Int) then (if 0 ≤ x13_4 then (if x13_4 ≤ (wrap64 (x13_4 + 1)) then (if (wrap64 (x13_4 + 1)) ≤ (x5_2.length : Int) then ((cobwebref10_Same.f k6 ((t470.take ((wrap64 (x17_6 + 1)) : Int).toNat).drop (x17_6 : Int).toNat) ((x5_2.take ((wrap64 (x13_4 + 1)) : Int).toNat).drop (x13_4 : Int).toNat)).bind fun t485 => (cobweblaw10_ChunkKeeps.l3 k6 x5_2 x9_21 t462 t465 t470 x13_4 x14_5 t485 (wrap64 (x17_6 + 1)))) else (none)) else (none)) else (none)) else (none)) else (none)) else (none)) = some r := by rw [if_neg (show ¬ (false = true) by decide)] at H; exact H
                                        clear H
                                        have H := H1
                                        clear H1
                                        by_cases c49 : 0 ≤ x17_6
                                        · rw [if_pos c49] at H
                                          have c49b0 := eq_true c49
                                          have c49b1 : decide (0 ≤ x17_6) = true := decide_eq_true c49
                                          clear c49
                                          by_cases c50 : x17_6 ≤ (wrap64 (x17_6 + 1))
                                          · rw [if_pos c50] at H
                                            have c50b0 := eq_true c50
                                            have c50b1 : decide (x17_6 ≤ (wrap64 (x17_6 + 1))) = true := decide_eq_true c50
                                            by_cases c51 : (wrap64 (x17_6 + 1)) ≤ (t470.length : Int)
                                            · rw [if_pos c51] at H
                                              have c51b0 := eq_true c51
                                              have c51b1 : decide ((wrap64 (x17_6 + 1)) ≤ (t470.length : Int)) = true := decide_eq_true c51
                                              obtain ⟨y475, hy475⟩ : ∃ y_ : List (S39), y_ = ((t470.take ((wrap64 (x17_6 + 1)) : Int).toNat).drop (x17_6 : Int).toNat) := ⟨_, rfl⟩
                                              replace H : (if 0 ≤ x13_4 then (if x13_4 ≤ (wrap64 (x13_4 + 1)) then (if (wrap64 (x13_4 + 1)) ≤ (x5_2.length : Int) then ((cobwebref10_Same.f k6 y475 ((x5_2.take ((wrap64 (x13_4 + 1)) : Int).toNat).drop (x13_4 : Int).toNat)).bind fun t485 => (cobweblaw10_ChunkKeeps.l3 k6 x5_2 x9_21 t462 t465 t470 x13_4 x14_5 t485 (wrap64 (x17_6 + 1)))) else (none)) else (none)) else (none)) = some r := by first | (rw [hy475]; with_reducible exact H) | (have H2_ := (Option.bind_some _ _).symm.trans H; rw [hy475]; with_reducible exact H2_) | (have H2_ := (Option.bind_some _ _).symm.trans H; with_reducible exact H2_) | with_reducible exact H | (rw [hy475]; exact H) | exact H
                                              have Ny475 := Aside0.mk hy475
                                              clear hy475
                                              by_cases c52 : 0 ≤ x13_4
                                              · rw [if_pos c52] at H
                                                have c52b0 := eq_true c52
                                                have c52b1 : decide (0 ≤ x13_4) = true := decide_eq_true c52
                                                clear c52
                                                by_cases c53 : x13_4 ≤ (wrap64 (x13_4 + 1))
                                                · rw [if_pos c53] at H
                                                  have c53b0 := eq_true c53
                                                  have c53b1 : decide (x13_4 ≤ (wrap64 (x13_4 + 1))) = true := decide_eq_true c53
                                                  by_cases c54 : (wrap64 (x13_4 + 1)) ≤ (x5_2.length : Int)
                                                  · rw [if_pos c54] at H
                                                    have c54b0 := eq_true c54
                                                    have c54b1 : decide ((wrap64 (x13_4 + 1)) ≤ (x5_2.length : Int)) = true := decide_eq_true c54
                                                    obtain ⟨y480, hy480⟩ : ∃ y_ : List (S39), y_ = ((x5_2.take ((wrap64 (x13_4 + 1)) : Int).toNat).drop (x13_4 : Int).toNat) := ⟨_, rfl⟩
                                                    replace H : ((cobwebref10_Same.f k6 y475 y480).bind fun t485 => (cobweblaw10_ChunkKeeps.l3 k6 x5_2 x9_21 t462 t465 t470 x13_4 x14_5 t485 (wrap64 (x17_6 + 1)))) = some r := by first | (rw [hy480]; with_reducible exact H) | (have H2_ := (Option.bind_some _ _).symm.trans H; rw [hy480]; with_reducible exact H2_) | (have H2_ := (Option.bind_some _ _).symm.trans H; with_reducible exact H2_) | with_reducible exact H | (rw [hy480]; exact H) | exact H
                                                    have Ny480 := Aside0.mk hy480
                                                    clear hy480
                                                    replace H := Option.bind_eq_some_iff.mp H
                                                    obtain ⟨t485, A550, H⟩ := H
                                                    replace H : (cobweblaw10_ChunkKeeps.l3 k6 x5_2 x9_21 t462 t465 t470 x13_4 x14_5 t485 (wrap64 (x17_6 + 1))) = some r := H
                                                    have A55 := Aside0.mk A550
                                                    clear A550
                                                    have H' := Aside0.mk H
                                                    clear H
                                                    obtain ⟨Ao56, co56, eo56⟩ := Kd.N_slice HO_12.out
                                                    subst eo56
                                                    try go_wp2
                                                    have n0_ := Aside0.mk (Kd.N_drew HO_5.out)
                                                    have n1_ := Aside0.mk (Kd.N_drew HO_10.out)
                                                    have n2_ := Aside0.mk (Kd.N_drew HO_12.out)
                                                    have n3_ := Aside0.mk (below_drew1 HB.out)
                                                    clear HO_5
                                                    clear HO_10
                                                    clear HO_12
                                                    clear HB
                                                    have HO_5 := n0_
                                                    have HO_10 := n1_
                                                    have HO_12 := n2_
                                                    have HB := n3_
                                                    clear n0_ n1_ n2_ n3_
                                                    have q58 : ((wrap64 (x17_6 + 1)) : Int) ≤ ((t470.length : Int) : Int) := of_decide_eq_true (by first | (with_reducible assumption) | assumption)
                                                    obtain ⟨i058, hi058, _, hsz58, _⟩ := info_parts info39
                                                    have hroom58 : t470.length ≤ co56 := (Kd.N_reads' HO_12.out).2.1
                                                    have hC58 : Kd.F k39 _ _ Ao56 t470.length t470 := (Kd.V_at (base := w.heap.size) (Kd.N_V HO_12.out)).2.2
                                                    have ql58 : (x17_6 : Int) ≤ ((wrap64 (x17_6 + 1)) : Int) := of_decide_eq_true (by first | (with_reducible assumption) | assumption)
                                                    have q058 : (0 : Int) ≤ (x17_6 : Int) := of_decide_eq_true (by first | (with_reducible assumption) | assumption)
                                                    have hcut58 := cut_mid (P := Try.prog) 24 39 .i64 .i64 Try.underlying24 hi058 4 hsz58 Ao56 t470.length co56 x17_6 (wrap64 (x17_6 + 1)) q058 ql58 q58 hroom58
                                                    have hr58 := Kd.F_mid (lo := (x17_6 : Int).toNat) (hi := ((wrap64 (x17_6 + 1)) : Int).toNat) (c := co56) hC58 (by omega) (by omega) hroom58
                                                    obtain ⟨A58, hA58⟩ : ∃ A1, A1 = (if co56 = (x17_6 : Int).toNat then Ao56 else (Ao56 : Option Addr).map (·.add ((x17_6 : Int).toNat * 4))) := ⟨_, rfl⟩
                                                    obtain ⟨c58, hc58⟩ : ∃ c1, c1 = co56 - (x17_6 : Int).toNat := ⟨_, rfl⟩
                                                    have hy58 : y475.length = ((wrap64 (x17_6 + 1)) : Int).toNat - (x17_6 : Int).toNat := (by rw [Ny475.out, List.length_drop, List.length_take] <;> omega)
                                                    rw [show ((t470).take ((wrap64 (x17_6 + 1)) : Int).toNat).drop (x17_6 : Int).toNat = y475 from Ny475.out.symm] at hr58
                                                    replace hr58 : Kd.F k39 _ _ A58 y475.length y475 := (by rw [hA58]; exact hr58)
                                                    rw [← hy58, ← hA58, ← hc58] at hcut58
                                                    have HO479 := Aside0.mk (show Kd.V k39 39 _ w.heap.size _ (.slice A58 y475.length c58) y475 from Kd.V_mk (by rw [hy58, hc58]; exact Nat.sub_le_sub_right (Nat.le_trans (by omega) hroom58) _) hr58)
                                                    have HC479 := Aside0.mk (show y475.length ≤ c58 from by rw [hy58, hc58]; exact Nat.sub_le_sub_right (Nat.le_trans (by omega) hroom58) _)
                                                    clear hr58 hC58 hroom58 hi058 hsz58 hc58
                                                    have KY58 := Aside0.mk hy58
                                                    have KA58 := Aside0.mk hA58
                                                    clear hy58 hA58
                                                    replace q58 := eq_true q58
                                                    have q59 : ((wrap64 (x13_4 + 1)) : Int) ≤ ((x5_2.length : Int) : Int) := of_decide_eq_true (by first | (with_reducible assumption) | assumption)
                                                    obtain ⟨i059, hi059, _, hsz59, _⟩ := info_parts info39
                                                    have hroom59 : x5_2.length ≤ co33 := (Kd.N_reads' HO_5.out).2.1
                                                    have hC59 : Kd.F k39 _ _ Ao33 x5_2.length x5_2 := (Kd.V_at (base := w.heap.size) (Kd.N_V HO_5.out)).2.2
                                                    have ql59 : (x13_4 : Int) ≤ ((wrap64 (x13_4 + 1)) : Int) := of_decide_eq_true (by first | (with_reducible assumption) | assumption)
                                                    have q059 : (0 : Int) ≤ (x13_4 : Int) := of_decide_eq_true (by first | (with_reducible assumption) | assumption)
                                                    have hcut59 := cut_mid (P := Try.prog) 24 39 .i64 .i64 Try.underlying24 hi059 4 hsz59 Ao33 x5_2.length co33 x13_4 (wrap64 (x13_4 + 1)) q059 ql59 q59 hroom59
                                                    have hr59 := Kd.F_mid (lo := (x13_4 : Int).toNat) (hi := ((wrap64 (x13_4 + 1)) : Int).toNat) (c := co33) hC59 (by omega) (by omega) hroom59
                                                    obtain ⟨A59, hA59⟩ : ∃ A1, A1 = (if co33 = (x13_4 : Int).toNat then Ao33 else (Ao33 : Option Addr).map (·.add ((x13_4 : Int).toNat * 4))) := ⟨_, rfl⟩
                                                    obtain ⟨c59, hc59⟩ : ∃ c1, c1 = co33 - (x13_4 : Int).toNat := ⟨_, rfl⟩
                                                    have hy59 : y480.length = ((wrap64 (x13_4 + 1)) : Int).toNat - (x13_4 : Int).toNat := (by rw [Ny480.out, List.length_drop, List.length_take] <;> omega)
                                                    rw [show ((x5_2).take ((wrap64 (x13_4 + 1)) : Int).toNat).drop (x13_4 : Int).toNat = y480 from Ny480.out.symm] at hr59
                                                    replace hr59 : Kd.F k39 _ _ A59 y480.length y480 := (by rw [hA59]; exact hr59)
                                                    rw [← hy59, ← hA59, ← hc59] at hcut59
                                                    have HO484 := Aside0.mk (show Kd.V k39 39 _ w.heap.size _ (.slice A59 y480.length c59) y480 from Kd.V_mk (by rw [hy59, hc59]; exact Nat.sub_le_sub_right (Nat.le_trans (by omega) hroom59) _) hr59)
                                                    have HC484 := Aside0.mk (show y480.length ≤ c59 from by rw [hy59, hc59]; exact Nat.sub_le_sub_right (Nat.le_trans (by omega) hroom59) _)
                                                    clear hr59 hC59 hroom59 hi059 hsz59 hc59
                                                    have KY59 := Aside0.mk hy59
                                                    have KA59 := Aside0.mk hA59
                                                    clear hy59 hA59
                                                    replace q59 := eq_true q59
                                                    refine start_ (n := 15) (S := fun w' => True) (ds := []) #[false, false, false, false, false, false, false, false, false, false, false, false, false, false, false] (by kernel_rfl) rfl rfl trivial (fun hHeld => ?_); refine with_tabW cobweblaw10_ChunkKeeps.tab29 cobweblaw10_ChunkKeeps.bits29 (fun HT_ HW_ => ?_)
                                                    generalize wr.drew = w57 at HO_5 HO_10 HO_12 HB HO479 HO484 hHeld ⊢
                                                    refine pure_ (i := 0) (N := some 110) (v := ?_) (a' := ?_) #[true, false, false, false, false, false, false, false, false, false, false, false, false, false, false] rfl rfl (any_of HT_.out (by kernel_rfl)) (fun _ _ _ h => h) (Or.inl ⟨by rfl, ?_⟩) ?_ ?_
                                                    rotate_left
                                                    · intro w'
                                                      go_simp
                                                      with_reducible rfl
                                                    rotate_left
                                                    · simp only [Act.put, List.setIfInBounds_toArray, List.set_cons_zero, List.set_cons_succ, i64_w, i32_w]
                                                      rfl
                                                    refine pure_ (i := 1) (N := some 111) (v := ?_) (a' := ?_) #[true, true, false, false, false, false, false, false, false, false, false, false, false, false, false] rfl rfl (any_of HT_.out (by kernel_rfl)) (fun _ _ _ h => h) (Or.inl ⟨by rfl, ?_⟩) ?_ ?_
                                                    rotate_left
                                                    · intro w'
                                                      go_simp
                                                      with_reducible rfl
                                                    rotate_left
                                                    · simp only [Act.put, List.setIfInBounds_toArray, List.set_cons_zero, List.set_cons_succ, i64_w, i32_w]
                                                      rfl
                                                    refine pure_ (i := 2) (N := some 112) (v := ?_) (a' := ?_) #[true, true, true, false, false, false, false, false, false, false, false, false, false, false, false] rfl rfl (any_of HT_.out (by kernel_rfl)) (fun _ _ _ h => h) (Or.inl ⟨by rfl, ?_⟩) ?_ ?_
                                                    rotate_left
                                                    · intro w'
                                                      go_simp
                                                      with_reducible rfl
                                                    rotate_left
                                                    · simp only [Act.put, List.setIfInBounds_toArray, List.set_cons_zero, List.set_cons_succ, i64_w, i32_w]
                                                      rfl
                                                    refine pure_ (i := 3) (N := some 113) (v := ?_) (a' := ?_) #[true, true, true, true, false, false, false, false, false, false, false, false, false, false, false] rfl rfl (any_of HT_.out (by kernel_rfl)) (fun _ _ _ h => h) (Or.inl ⟨by rfl, ?_⟩) ?_ ?_
                                                    rotate_left
                                                    · intro w'
                                                      go_simp
                                                      with_reducible rfl
                                                    rotate_left
                                                    · simp only [Act.put, List.setIfInBounds_toArray, List.set_cons_zero, List.set_cons_succ, i64_w, i32_w]
                                                      rfl
                                                    refine pure_ (i := 4) (N := some 114) (v := ?_) (a' := ?_) #[true, true, true, true, true, false, false, false, false, false, false, false, false, false, false] rfl rfl (any_of HT_.out (by kernel_rfl)) (fun _ _ _ h => h) (Or.inl ⟨by rfl, ?_⟩) ?_ ?_
                                                    rotate_left
                                                    · intro w'
                                                      go_simp
                                                      with_reducible rfl
                                                    rotate_left
                                                    · simp only [Act.put, List.setIfInBounds_toArray, List.set_cons_zero, List.set_cons_succ, i64_w, i32_w]
                                                      rfl
                                                    refine pure_ (i := 5) (N := some 115) (v := ?_) (a' := ?_) #[true, true, true, true, true, true, false, false, false, false, false, false, false, false, false] rfl rfl (any_of HT_.out (by kernel_rfl)) (fun _ _ _ h => h) (Or.inl ⟨by rfl, ?_⟩) ?_ ?_
                                                    rotate_left
                                                    · intro w'
                                                      go_simp
                                                      with_reducible rfl
                                                    rotate_left
                                                    · simp only [Act.put, List.setIfInBounds_toArray, List.set_cons_zero, List.set_cons_succ, i64_w, i32_w]
                                                      rfl
                                                    refine pure_ (i := 6) (N := some 116) (v := ?_) (a' := ?_) #[true, true, true, true, true, true, true, false, false, false, false, false, false, false, false] rfl rfl (any_of HT_.out (by kernel_rfl)) (fun _ _ _ h => h) (Or.inl ⟨by rfl, ?_⟩) ?_ ?_
                                                    rotate_left
                                                    · intro w'
                                                      go_simp
                                                      with_reducible rfl
                                                    rotate_left
                                                    · simp only [Act.put, List.setIfInBounds_toArray, List.set_cons_zero, List.set_cons_succ, i64_w, i32_w]
                                                      rfl
                                                    refine pure_ (i := 7) (N := some 117) (v := ?_) (a' := ?_) #[true, true, true, true, true, true, true, true, false, false, false, false, false, false, false] rfl rfl (any_of HT_.out (by kernel_rfl)) (fun _ _ _ h => h) (Or.inl ⟨by rfl, ?_⟩) ?_ ?_
                                                    rotate_left
                                                    · intro w'
                                                      go_simp
                                                      with_reducible rfl
                                                    rotate_left
                                                    · simp only [Act.put, List.setIfInBounds_toArray, List.set_cons_zero, List.set_cons_succ, i64_w, i32_w]
                                                      rfl
                                                    refine pure_ (i := 8) (N := some 118) (v := ?_) (a' := ?_) #[true, true, true, true, true, true, true, true, true, false, false, false, false, false, false] rfl rfl (any_of HT_.out (by kernel_rfl)) (fun _ _ _ h => h) (Or.inl ⟨by rfl, ?_⟩) ?_ ?_
                                                    rotate_left
                                                    · intro w'
                                                      go_simp
                                                      with_reducible rfl
                                                    rotate_left
                                                    · simp only [Act.put, List.setIfInBounds_toArray, List.set_cons_zero, List.set_cons_succ, i64_w, i32_w]
                                                      rfl
                                                    refine pure_ (i := 9) (N := some 119) (v := ?_) (a' := ?_) #[true, true, true, true, true, true, true, true, true, true, false, false, false, false, false] rfl rfl (any_of HT_.out (by kernel_rfl)) (fun _ _ _ h => h) (Or.inl ⟨by rfl, ?_⟩) ?_ ?_
                                                    rotate_left
                                                    · intro w'
                                                      go_simp
                                                      with_reducible rfl
                                                    rotate_left
                                                    · simp only [Act.put, List.setIfInBounds_toArray, List.set_cons_zero, List.set_cons_succ, i64_w, i32_w]
                                                      rfl
                                                    refine pure_ (i := 10) (N := some 120) (v := ?_) (a' := ?_) #[true, true, true, true, true, true, true, true, true, true, true, false, false, false, false] rfl rfl (any_of HT_.out (by kernel_rfl)) (fun _ _ _ h => h) (Or.inl ⟨by rfl, ?_⟩) ?_ ?_
                                                    rotate_left
                                                    · intro w'
                                                      go_simp
                                                      with_reducible rfl
                                                    rotate_left
                                                    · simp only [Act.put, List.setIfInBounds_toArray, List.set_cons_zero, List.set_cons_succ, i64_w, i32_w]
                                                      rfl
                                                    refine pure_ (i := 11) (N := some 121) (v := ?_) (a' := ?_) #[true, true, true, true, true, true, true, true, true, true, true, true, false, false, false] rfl rfl (any_of HT_.out (by kernel_rfl)) (fun _ _ _ h => h) (Or.inl ⟨by rfl, ?_⟩) ?_ ?_
                                                    rotate_left
                                                    · intro w'
                                                      go_simp
                                                      with_reducible rfl
                                                    rotate_left
                                                    · simp only [Act.put, List.setIfInBounds_toArray, List.set_cons_zero, List.set_cons_succ, i64_w, i32_w]
                                                      rfl
                                                    refine one_ (i := 12) (N := some 122) #[true, true, true, true, true, true, true, true, true, true, true, true, true, false, false] rfl rfl (one_of HT_.out (by kernel_rfl)) (by decide) (fun K hK => ?_)
                                                    refine goes_ Try.func19 (by kernel_rfl) rfl #[.slice A58 y475.length c58, .slice A59 y480.length c59] (by rfl) rfl rfl (by (try simp only [List.map_toArray, List.map_cons, List.map_nil]); first | done | rfl | (simp only [List.length_drop, List.length_take]; rfl)) ?_
                                                    with_reducible refine (cobwebref10_Same.calls k6 _ _ y475 _ _ y480 t485 _ ?side1 ?side2 ?side3 ?side4 A55.out).mono ?_
                                                    (case side1 => repeat (first | exact (Kd.V_reads' HO479.out).2.2 | (with_reducible refine Kd.C_alloc ?_ _) | (with_reducible refine Kd.C_drewN ?_ _) | (with_reducible refine Kd.C_drew ?_)))
                                                    (case side2 => exact (Kd.V_reads' HO479.out).2.1)
                                                    (case side3 => repeat (first | exact (Kd.V_reads' HO484.out).2.2 | (with_reducible refine Kd.C_alloc ?_ _) | (with_reducible refine Kd.C_drewN ?_ _) | (with_reducible refine Kd.C_drew ?_)))
                                                    (case side4 => exact (Kd.V_reads' HO484.out).2.1)
                                                    rintro e w60 ⟨rfl, hb⟩
                                                    refine ⟨_, rfl, ?_⟩
                                                    have n0_ := Aside0.mk (Kd.N_below (by (with_reducible repeat (first | apply Kd.N_alloc | apply Kd.N_drewN | apply Kd.N_drew)); exact HO_5.out) hb)
                                                    have n1_ := Aside0.mk (Kd.N_below (by (with_reducible repeat (first | apply Kd.N_alloc | apply Kd.N_drewN | apply Kd.N_drew)); exact HO_10.out) hb)
                                                    have n2_ := Aside0.mk (Kd.N_below (by (with_reducible repeat (first | apply Kd.N_alloc | apply Kd.N_drewN | apply Kd.N_drew)); exact HO_12.out) hb)
                                                    have n3_ := Aside0.mk (Kd.V_below (by (with_reducible repeat (first | apply Kd.V_alloc | apply Kd.V_drewN | apply Kd.V_drew)); exact HO479.out) hb)
                                                    have n4_ := Aside0.mk (Kd.V_below (by (with_reducible repeat (first | apply Kd.V_alloc | apply Kd.V_drewN | apply Kd.V_drew)); exact HO484.out) hb)
                                                    have n5_ := Aside0.mk (below_step (by repeat (first | (with_reducible first | exact HB.out | apply below_alloc | apply pw_below_drewN | apply below_drew1) | exact HB.out)) hb)
                                                    clear HO_5
                                                    clear HO_10
                                                    clear HO_12
                                                    clear HO479
                                                    clear HO484
                                                    clear HB
                                                    have HO_5 := n0_
                                                    have HO_10 := n1_
                                                    have HO_12 := n2_
                                                    have HO479 := n3_
                                                    have HO484 := n4_
                                                    have HB := n5_
                                                    clear n0_ n1_ n2_ n3_ n4_ n5_
                                                    (try clear hb)
                                                    (try clear hb2)
                                                    (try clear hk)
                                                    (try clear hi)
                                                    refine hK.out _ _ trivial (fun hHeld => ?_)
                                                    clear hK K
                                                    refine norm_ (a' := ?_) ?_ ?_
                                                    rotate_left
                                                    · show Act.put _ (some 122) _ = _
                                                      simp only [Act.put, List.setIfInBounds_toArray, List.set_cons_zero, List.set_cons_succ, i64_w, i32_w]
                                                      rfl
                                                    refine pure_ (i := 13) (N := some 123) (v := ?_) (a' := ?_) #[true, true, true, true, true, true, true, true, true, true, true, true, true, true, false] rfl rfl (any_of HT_.out (by kernel_rfl)) (fun _ _ _ h => h) (Or.inl ⟨by rfl, ?_⟩) ?_ ?_
                                                    rotate_left
                                                    · intro w'
                                                      go_simp
                                                      with_reducible rfl
                                                    rotate_left
                                                    · simp only [Act.put, List.setIfInBounds_toArray, List.set_cons_zero, List.set_cons_succ, i64_w, i32_w]
                                                      rfl
                                                    refine pure_ (i := 14) (N := some 16) (v := ?_) (a' := ?_) #[true, true, true, true, true, true, true, true, true, true, true, true, true, true, true] rfl rfl (any_of HT_.out (by kernel_rfl)) (fun _ _ _ h => h) (Or.inl ⟨by rfl, ?_⟩) ?_ ?_
                                                    rotate_left
                                                    · intro w'
                                                      go_simp
                                                      with_reducible rfl
                                                    rotate_left
                                                    · simp only [Act.put, List.setIfInBounds_toArray, List.set_cons_zero, List.set_cons_succ, i64_w, i32_w]
                                                      rfl
                                                    refine done_ (done_of HT_.out (by kernel_rfl)) ?_
                                                    try go_wp2
                                                    go_roundg k6
                                                    case measure => have := HJ2.out; have := HK2.out; have := HJ21.out; have := HK4.out; have := HK5.out; have := HK6.out; omega
                                                    case rel => exact ⟨(t485), (wrap64 (x17_6 + 1)), (by first | rfl | (simp; done) | (simp [*]; done)), (by first | rfl | (simp; done) | (simp [*]; done)), H', ⟨by have := HJ2.out; have := HK2.out; have := HJ21.out; have := HK4.out; have := HK5.out; have := HK6.out; omega⟩, ⟨by (with_reducible repeat (first | apply Kd.N_alloc | apply Kd.N_drewN | apply Kd.N_drew)); exact HO_5.out⟩, ⟨by (with_reducible repeat (first | apply Kd.N_alloc | apply Kd.N_drewN | apply Kd.N_drew)); exact HO_10.out⟩, ⟨by (with_reducible repeat (first | apply Kd.N_alloc | apply Kd.N_drewN | apply Kd.N_drew)); exact HO_12.out⟩, ⟨by repeat (first | (with_reducible first | exact HB.out | apply below_alloc | apply pw_below_drewN | apply below_drew1) | exact HB.out)⟩⟩
                                                  · rw [if_neg c54] at H
                                                    exact absurd H (by simp)
                                                · rw [if_neg c53] at H
                                                  exact absurd H (by simp)
                                              · rw [if_neg c52] at H
                                                exact absurd H (by simp)
                                            · rw [if_neg c51] at H
                                              exact absurd H (by simp)
                                          · rw [if_neg c50] at H
                                            exact absurd H (by simp)
                                        · rw [if_neg c49] at H
                                          exact absurd H (by simp)
                                    · rw [if_neg c45] at H
                                      have c45b0 : decide (x17_6 < (t470.length : Int)) = false := decide_eq_false c45
                                      clear c45
                                      by_cases c61 : x14_5 = true
                                      · subst c61
                                        have H1 : (cobweblaw10_ChunkKeeps.l1 k6 x5_2 x9_21 t462 t465 t470 (wrap64 (x13_4 + 1))) = some r := by rw [if_pos rfl] at H; exact H
                                        clear H
                                        have H := H1
                                        clear H1
                                        have H' := Aside0.mk H
                                        clear H
                                        obtain ⟨Ao62, co62, eo62⟩ := Kd.N_slice HO_12.out
                                        subst eo62
                                        go_wp2
                                        go_roundg k6
                                        case measure => have := HJ2.out; have := HK2.out; have := HJ21.out; have := HK4.out; have := HK5.out; have := HK6.out; omega
                                        case rel => exact ⟨(wrap64 (x13_4 + 1)), (by first | rfl | (simp; done) | (simp [*]; done)), H', ⟨by have := HJ2.out; have := HK2.out; have := HJ21.out; have := HK4.out; have := HK5.out; have := HK6.out; omega⟩, ⟨by (with_reducible repeat (first | apply Kd.N_alloc | apply Kd.N_drewN | apply Kd.N_drew)); exact HO_5.out⟩, ⟨by (with_reducible repeat (first | apply Kd.N_alloc | apply Kd.N_drewN | apply Kd.N_drew)); exact HO_10.out⟩, ⟨by (with_reducible repeat (first | apply Kd.N_alloc | apply Kd.N_drewN | apply Kd.N_drew)); exact HO_12.out⟩, ⟨by repeat (first | (with_reducible first | exact HB.out | apply below_alloc | apply pw_below_drewN | apply below_drew1) | exact HB.out)⟩⟩
                                      · replace c61 := Bool.eq_false_iff.mpr c61
                                        subst c61
                                        have H1 : (if x16_6 = true then (cobweblaw10_ChunkKeeps.l1 k6 x5_2 x9_21 t462 t465 t470 (wrap64 (x13_4 + 1))) else (some false)) = some r := by rw [if_neg (show ¬ (false = true) by decide)] at H; exact H
                                        clear H
                                        have H := H1
                                        clear H1
                                        by_cases c63 : x16_6 = true
                                        · subst c63
                                          have H1 : (cobweblaw10_ChunkKeeps.l1 k6 x5_2 x9_21 t462 t465 t470 (wrap64 (x13_4 + 1))) = some r := by rw [if_pos rfl] at H; exact H
                                          clear H
                                          have H := H1
                                          clear H1
                                          have H' := Aside0.mk H
                                          clear H
                                          obtain ⟨Ao64, co64, eo64⟩ := Kd.N_slice HO_12.out
                                          subst eo64
                                          go_wp2
                                          go_roundg k6
                                          case measure => have := HJ2.out; have := HK2.out; have := HJ21.out; have := HK4.out; have := HK5.out; have := HK6.out; omega
                                          case rel => exact ⟨(wrap64 (x13_4 + 1)), (by first | rfl | (simp; done) | (simp [*]; done)), H', ⟨by have := HJ2.out; have := HK2.out; have := HJ21.out; have := HK4.out; have := HK5.out; have := HK6.out; omega⟩, ⟨by (with_reducible repeat (first | apply Kd.N_alloc | apply Kd.N_drewN | apply Kd.N_drew)); exact HO_5.out⟩, ⟨by (with_reducible repeat (first | apply Kd.N_alloc | apply Kd.N_drewN | apply Kd.N_drew)); exact HO_10.out⟩, ⟨by (with_reducible repeat (first | apply Kd.N_alloc | apply Kd.N_drewN | apply Kd.N_drew)); exact HO_12.out⟩, ⟨by repeat (first | (with_reducible first | exact HB.out | apply below_alloc | apply pw_below_drewN | apply below_drew1) | exact HB.out)⟩⟩
                                        · replace c63 := Bool.eq_false_iff.mpr c63
                                          subst c63
                                          have H1 : (some false) = some r := by rw [if_neg (show ¬ (false = true) by decide)] at H; exact H
                                          clear H
                                          have H := H1
                                          clear H1
                                          obtain rfl := Option.some.inj H
                                          obtain ⟨Ao65, co65, eo65⟩ := Kd.N_slice HO_12.out
                                          subst eo65
                                          go_wp2
                                          go_ret
                                          exact ⟨by first | rfl | (simp [errW_none, errW_some] <;> rfl) | (simp [*, errW_none, errW_some] <;> rfl), by repeat (first | (with_reducible first | exact HB.out | apply below_alloc | apply pw_below_drewN | apply below_drew1) | exact HB.out)⟩
                        · rw [if_neg c37] at H
                          have c37b0 : decide (x13_4 < (x5_2.length : Int)) = false := decide_eq_false c37
                          clear c37
                          replace H := Option.bind_eq_some_iff.mp H
                          obtain ⟨⟨t486, t489⟩, A660, H⟩ := H
                          replace H : (if t465 = 0 then (if t489 = 0 then ((chunk_Apply.f t470 t486).bind fun t490 => ((chunk_IDs.f k4 t490).bind fun t493 => ((chunk_IDs.f k4 x5_2).bind fun t496 => ((cobwebref10_Ints.f k4 t493 t496).bind fun t499 => (some t499))))) else (some false)) else (some false)) = some r := H
                          have A66 := Aside0.mk A660
                          clear A660
                          by_cases c67 : t465 = 0
                          · rw [if_pos c67] at H
                            have c67b0 : (t465 == 0) = true := beq_iff_eq.mpr c67
                            have c67b1 : (t465 != 0) = false := bne_eq_false_iff_eq.mpr c67
                            clear c67
                            by_cases c68 : t489 = 0
                            · rw [if_pos c68] at H
                              have c68b0 : (t489 == 0) = true := beq_iff_eq.mpr c68
                              have c68b1 : (t489 != 0) = false := bne_eq_false_iff_eq.mpr c68
                              clear c68
                              replace H := Option.bind_eq_some_iff.mp H
                              obtain ⟨t490, A690, H⟩ := H
                              replace H : ((chunk_IDs.f k4 t490).bind fun t493 => ((chunk_IDs.f k4 x5_2).bind fun t496 => ((cobwebref10_Ints.f k4 t493 t496).bind fun t499 => (some t499)))) = some r := H
                              have A69 := Aside0.mk A690
                              clear A690
                              replace H := Option.bind_eq_some_iff.mp H
                              obtain ⟨t493, A700, H⟩ := H
                              replace H : ((chunk_IDs.f k4 x5_2).bind fun t496 => ((cobwebref10_Ints.f k4 t493 t496).bind fun t499 => (some t499))) = some r := H
                              have A70 := Aside0.mk A700
                              clear A700
                              replace H := Option.bind_eq_some_iff.mp H
                              obtain ⟨t496, A710, H⟩ := H
                              replace H : ((cobwebref10_Ints.f k4 t493 t496).bind fun t499 => (some t499)) = some r := H
                              have A71 := Aside0.mk A710
                              clear A710
                              replace H := Option.bind_eq_some_iff.mp H
                              obtain ⟨t499, A720, H⟩ := H
                              replace H : (some t499) = some r := H
                              have A72 := Aside0.mk A720
                              clear A720
                              obtain rfl := Option.some.inj H
                              obtain ⟨Ao73, co73, eo73⟩ := Kd.N_slice HO_12.out
                              subst eo73
                              go_wp2_with (first | ((with_reducible refine gate_callee (f := 16) rfl ?_); refine goesL_ (some 133) rfl rfl Try.func16 (by kernel_rfl) rfl #[.slice Ao73 t470.length co73, .int .i64 x9_21] rfl (by (try simp only [List.map_toArray, List.map_cons, List.map_nil]); first | done | rfl | (simp only [List.length_drop, List.length_take]; rfl)) ?_; (with_reducible refine (chunk_Remove.calls _ _ t470 x9_21 t486 t489 _ ?side1 ?side2 A66.out).mono ?_); (case side1 => repeat (first | exact (Kd.N_reads' HO_12.out).2.2 | (with_reducible refine Kd.C_alloc ?_ _) | (with_reducible refine Kd.C_drewN ?_ _) | (with_reducible refine Kd.C_drew ?_))); (case side2 => exact (Kd.N_reads' HO_12.out).2.1); rintro e w74 ⟨v487, rfl, ho0, hb⟩; refine ⟨_, rfl, ?_⟩; have n0_ := Aside0.mk (Kd.N_elder' (by (with_reducible repeat (first | apply Kd.N_alloc | apply Kd.N_drewN | apply Kd.N_drew)); exact HO_5.out) (Kd.N_base ho0) hb); have n1_ := Aside0.mk (Kd.N_elder' (by (with_reducible repeat (first | apply Kd.N_alloc | apply Kd.N_drewN | apply Kd.N_drew)); exact HO_10.out) (Kd.N_base ho0) hb); have n2_ := Aside0.mk (Kd.N_elder' (by (with_reducible repeat (first | apply Kd.N_alloc | apply Kd.N_drewN | apply Kd.N_drew)); exact HO_12.out) (Kd.N_base ho0) hb); have n3_ := Aside0.mk (Kd.N_lower (Kd.N_mono (ok' := fun k_ => some k_ ≠ (.slice Ao33 x5_2.length co33 : Value).ownBlock ∧ some k_ ≠ (.slice Ao35 t462.length co35 : Value).ownBlock ∧ some k_ ≠ (.slice Ao73 t470.length co73 : Value).ownBlock) ho0 (fun k_ hk_ => ⟨(Kd.fresh' (Kd.N_lt (by (with_reducible repeat (first | apply Kd.N_alloc | apply Kd.N_drewN | apply Kd.N_drew)); exact HO_5.out)) k_ hk_), (Kd.fresh' (Kd.N_lt (by (with_reducible repeat (first | apply Kd.N_alloc | apply Kd.N_drewN | apply Kd.N_drew)); exact HO_10.out)) k_ hk_), (Kd.fresh' (Kd.N_lt (by (with_reducible repeat (first | apply Kd.N_alloc | apply Kd.N_drewN | apply Kd.N_drew)); exact HO_12.out)) k_ hk_)⟩)) (below_size (by repeat (first | (with_reducible first | exact HB.out | apply below_alloc | apply pw_below_drewN | apply below_drew1) | exact HB.out)))); have n4_ := Aside0.mk (below_step (by repeat (first | (with_reducible first | exact HB.out | apply below_alloc | apply pw_below_drewN | apply below_drew1) | exact HB.out)) hb); clear HO_5; clear HO_10; clear HO_12; clear HB; have HO_5 := n0_; have HO_10 := n1_; have HO_12 := n2_; have HO488 := n3_; have HB := n4_; clear n0_ n1_ n2_ n3_ n4_; (try clear hb); (try clear hb2); (try clear hk); (try clear hi); (try clear ho0); obtain ⟨Ao75, co75, eo75⟩ := Kd.N_slice HO488.out; subst eo75) | (go_at_call 10; (with_reducible refine (chunk_Apply.calls _ _ t470 _ _ t486 t490 _ ?side1 ?side2 ?side3 ?side4 A69.out).mono ?_); (case side1 => repeat (first | exact (Kd.N_reads' HO_12.out).2.2 | (with_reducible refine Kd.C_alloc ?_ _) | (with_reducible refine Kd.C_drewN ?_ _) | (with_reducible refine Kd.C_drew ?_))); (case side2 => exact (Kd.N_reads' HO_12.out).2.1); (case side3 => repeat (first | exact (Kd.N_reads' HO488.out).2.2 | (with_reducible refine Kd.C_alloc ?_ _) | (with_reducible refine Kd.C_drewN ?_ _) | (with_reducible refine Kd.C_drew ?_))); (case side4 => exact (Kd.N_reads' HO488.out).2.1); rintro e w76 ⟨v491, rfl, ho0, hb⟩; have n0_ := Aside0.mk (Kd.N_elder' (by (with_reducible repeat (first | apply Kd.N_alloc | apply Kd.N_drewN | apply Kd.N_drew)); exact HO_5.out) (Kd.N_base ho0) hb); have n1_ := Aside0.mk (Kd.N_elder' (by (with_reducible repeat (first | apply Kd.N_alloc | apply Kd.N_drewN | apply Kd.N_drew)); exact HO_10.out) (Kd.N_base ho0) hb); have n2_ := Aside0.mk (Kd.N_elder' (by (with_reducible repeat (first | apply Kd.N_alloc | apply Kd.N_drewN | apply Kd.N_drew)); exact HO_12.out) (Kd.N_base ho0) hb); have n3_ := Aside0.mk (Kd.N_elder' (by (with_reducible repeat (first | apply Kd.N_alloc | apply Kd.N_drewN | apply Kd.N_drew)); exact HO488.out) (Kd.N_base ho0) hb); have n4_ := Aside0.mk (Kd.N_lower (Kd.N_mono (ok' := fun k_ => some k_ ≠ (.slice Ao33 x5_2.length co33 : Value).ownBlock ∧ some k_ ≠ (.slice Ao35 t462.length co35 : Value).ownBlock ∧ some k_ ≠ (.slice Ao73 t470.length co73 : Value).ownBlock ∧ some k_ ≠ (.slice Ao75 t486.length co75 : Value).ownBlock) ho0 (fun k_ hk_ => ⟨(Kd.fresh' (Kd.N_lt (by (with_reducible repeat (first | apply Kd.N_alloc | apply Kd.N_drewN | apply Kd.N_drew)); exact HO_5.out)) k_ hk_), (Kd.fresh' (Kd.N_lt (by (with_reducible repeat (first | apply Kd.N_alloc | apply Kd.N_drewN | apply Kd.N_drew)); exact HO_10.out)) k_ hk_), (Kd.fresh' (Kd.N_lt (by (with_reducible repeat (first | apply Kd.N_alloc | apply Kd.N_drewN | apply Kd.N_drew)); exact HO_12.out)) k_ hk_), (Kd.fresh' (Kd.N_lt (by (with_reducible repeat (first | apply Kd.N_alloc | apply Kd.N_drewN | apply Kd.N_drew)); exact HO488.out)) k_ hk_)⟩)) (below_size (by repeat (first | (with_reducible first | exact HB.out | apply below_alloc | apply pw_below_drewN | apply below_drew1) | exact HB.out)))); have n5_ := Aside0.mk (below_step (by repeat (first | (with_reducible first | exact HB.out | apply below_alloc | apply pw_below_drewN | apply below_drew1) | exact HB.out)) hb); clear HO_5; clear HO_10; clear HO_12; clear HO488; clear HB; have HO_5 := n0_; have HO_10 := n1_; have HO_12 := n2_; have HO488 := n3_; have HO492 := n4_; have HB := n5_; clear n0_ n1_ n2_ n3_ n4_ n5_; (try clear hb); (try clear hb2); (try clear hk); (try clear hi); (try clear ho0); obtain ⟨Ao77, co77, eo77⟩ := Kd.N_slice HO492.out; subst eo77) | (go_at_call 13; (with_reducible refine (chunk_IDs.calls k4 _ _ t490 t493 _ ?side1 ?side2 A70.out).mono ?_); (case side1 => repeat (first | exact (Kd.N_reads' HO492.out).2.2 | (with_reducible refine Kd.C_alloc ?_ _) | (with_reducible refine Kd.C_drewN ?_ _) | (with_reducible refine Kd.C_drew ?_))); (case side2 => exact (Kd.N_reads' HO492.out).2.1); rintro e w78 ⟨v494, rfl, ho0, hb⟩; have n0_ := Aside0.mk (Kd.N_elder' (by (with_reducible repeat (first | apply Kd.N_alloc | apply Kd.N_drewN | apply Kd.N_drew)); exact HO_5.out) (Kd.R_base ho0) hb); have n1_ := Aside0.mk (Kd.N_elder' (by (with_reducible repeat (first | apply Kd.N_alloc | apply Kd.N_drewN | apply Kd.N_drew)); exact HO_10.out) (Kd.R_base ho0) hb); have n2_ := Aside0.mk (Kd.N_elder' (by (with_reducible repeat (first | apply Kd.N_alloc | apply Kd.N_drewN | apply Kd.N_drew)); exact HO_12.out) (Kd.R_base ho0) hb); have n3_ := Aside0.mk (Kd.N_elder' (by (with_reducible repeat (first | apply Kd.N_alloc | apply Kd.N_drewN | apply Kd.N_drew)); exact HO488.out) (Kd.R_base ho0) hb); have n4_ := Aside0.mk (Kd.N_elder' (by (with_reducible repeat (first | apply Kd.N_alloc | apply Kd.N_drewN | apply Kd.N_drew)); exact HO492.out) (Kd.R_base ho0) hb); have n5_ := Aside0.mk (Kd.R_lower ho0 (below_size (by repeat (first | (with_reducible first | exact HB.out | apply below_alloc | apply pw_below_drewN | apply below_drew1) | exact HB.out)))); have n6_ := Aside0.mk (below_step (by repeat (first | (with_reducible first | exact HB.out | apply below_alloc | apply pw_below_drewN | apply below_drew1) | exact HB.out)) hb); clear HO_5; clear HO_10; clear HO_12; clear HO488; clear HO492; clear HB; have HO_5 := n0_; have HO_10 := n1_; have HO_12 := n2_; have HO488 := n3_; have HO492 := n4_; have HO495 := n5_; have HB := n6_; clear n0_ n1_ n2_ n3_ n4_ n5_ n6_; (try clear hb); (try clear hb2); (try clear hk); (try clear hi); (try clear ho0)) | (go_at_call 13; (with_reducible refine (chunk_IDs.calls k4 _ _ x5_2 t496 _ ?side1 ?side2 A71.out).mono ?_); (case side1 => repeat (first | exact (Kd.N_reads' HO_5.out).2.2 | (with_reducible refine Kd.C_alloc ?_ _) | (with_reducible refine Kd.C_drewN ?_ _) | (with_reducible refine Kd.C_drew ?_))); (case side2 => exact (Kd.N_reads' HO_5.out).2.1); rintro e w79 ⟨v497, rfl, ho0, hb⟩; have n0_ := Aside0.mk (Kd.N_elder' (by (with_reducible repeat (first | apply Kd.N_alloc | apply Kd.N_drewN | apply Kd.N_drew)); exact HO_5.out) (Kd.R_base ho0) hb); have n1_ := Aside0.mk (Kd.N_elder' (by (with_reducible repeat (first | apply Kd.N_alloc | apply Kd.N_drewN | apply Kd.N_drew)); exact HO_10.out) (Kd.R_base ho0) hb); have n2_ := Aside0.mk (Kd.N_elder' (by (with_reducible repeat (first | apply Kd.N_alloc | apply Kd.N_drewN | apply Kd.N_drew)); exact HO_12.out) (Kd.R_base ho0) hb); have n3_ := Aside0.mk (Kd.N_elder' (by (with_reducible repeat (first | apply Kd.N_alloc | apply Kd.N_drewN | apply Kd.N_drew)); exact HO488.out) (Kd.R_base ho0) hb); have n4_ := Aside0.mk (Kd.N_elder' (by (with_reducible repeat (first | apply Kd.N_alloc | apply Kd.N_drewN | apply Kd.N_drew)); exact HO492.out) (Kd.R_base ho0) hb); have n5_ := Aside0.mk (Kd.R_elder' (by (with_reducible repeat (first | apply Kd.R_alloc | apply Kd.R_drewN | apply Kd.R_drew)); exact HO495.out) (Kd.R_base ho0) hb); have n6_ := Aside0.mk (Kd.R_lower (Kd.R_new' ho0 (Kd.R_lt (by (with_reducible repeat (first | apply Kd.R_alloc | apply Kd.R_drewN | apply Kd.R_drew)); exact HO495.out))) (below_size (by repeat (first | (with_reducible first | exact HB.out | apply below_alloc | apply pw_below_drewN | apply below_drew1) | exact HB.out)))); have n7_ := Aside0.mk (below_step (by repeat (first | (with_reducible first | exact HB.out | apply below_alloc | apply pw_below_drewN | apply below_drew1) | exact HB.out)) hb); clear HO_5; clear HO_10; clear HO_12; clear HO488; clear HO492; clear HO495; clear HB; have HO_5 := n0_; have HO_10 := n1_; have HO_12 := n2_; have HO488 := n3_; have HO492 := n4_; have HO495 := n5_; have HO498 := n6_; have HB := n7_; clear n0_ n1_ n2_ n3_ n4_ n5_ n6_ n7_; (try clear hb); (try clear hb2); (try clear hk); (try clear hi); (try clear ho0); obtain ⟨Ao80, co80, eo80⟩ := Kd.R_slice HO495.out; subst eo80; obtain ⟨Ao81, co81, eo81⟩ := Kd.R_slice HO498.out; subst eo81) | (go_at_call 12; (with_reducible refine (cobwebref10_Ints.calls k4 _ _ t493 _ _ t496 t499 _ ?side1 ?side2 ?side3 ?side4 A72.out).mono ?_); (case side1 => repeat (first | exact (Kd.R_reads' HO495.out).2.2 | (with_reducible refine Kd.C_alloc ?_ _) | (with_reducible refine Kd.C_drewN ?_ _) | (with_reducible refine Kd.C_drew ?_))); (case side2 => exact (Kd.R_reads' HO495.out).2.1); (case side3 => repeat (first | exact (Kd.R_reads' HO498.out).2.2 | (with_reducible refine Kd.C_alloc ?_ _) | (with_reducible refine Kd.C_drewN ?_ _) | (with_reducible refine Kd.C_drew ?_))); (case side4 => exact (Kd.R_reads' HO498.out).2.1); rintro e w' ⟨rfl, ⟨nd, rfl⟩⟩))
                              go_ret
                              exact ⟨by first | rfl | (simp [errW_none, errW_some] <;> rfl) | (simp [*, errW_none, errW_some] <;> rfl), by repeat (first | (with_reducible first | exact HB.out | apply below_alloc | apply pw_below_drewN | apply below_drew1) | exact HB.out)⟩
                            · rw [if_neg c68] at H
                              have c68b0 : (t489 == 0) = false := beq_eq_false_iff_ne.mpr c68
                              have c68b1 : (t489 != 0) = true := bne_iff_ne.mpr c68
                              obtain rfl := Option.some.inj H
                              obtain ⟨Ao82, co82, eo82⟩ := Kd.N_slice HO_12.out
                              subst eo82
                              go_wp2_with (first | ((with_reducible refine gate_callee (f := 16) rfl ?_); refine goesL_ (some 133) rfl rfl Try.func16 (by kernel_rfl) rfl #[.slice Ao82 t470.length co82, .int .i64 x9_21] rfl (by (try simp only [List.map_toArray, List.map_cons, List.map_nil]); first | done | rfl | (simp only [List.length_drop, List.length_take]; rfl)) ?_; (with_reducible refine (chunk_Remove.calls _ _ t470 x9_21 t486 t489 _ ?side1 ?side2 A66.out).mono ?_); (case side1 => repeat (first | exact (Kd.N_reads' HO_12.out).2.2 | (with_reducible refine Kd.C_alloc ?_ _) | (with_reducible refine Kd.C_drewN ?_ _) | (with_reducible refine Kd.C_drew ?_))); (case side2 => exact (Kd.N_reads' HO_12.out).2.1); rintro e w83 ⟨v487, rfl, ho0, hb⟩; refine ⟨_, rfl, ?_⟩; have n0_ := Aside0.mk (Kd.N_elder' (by (with_reducible repeat (first | apply Kd.N_alloc | apply Kd.N_drewN | apply Kd.N_drew)); exact HO_5.out) (Kd.N_base ho0) hb); have n1_ := Aside0.mk (Kd.N_elder' (by (with_reducible repeat (first | apply Kd.N_alloc | apply Kd.N_drewN | apply Kd.N_drew)); exact HO_10.out) (Kd.N_base ho0) hb); have n2_ := Aside0.mk (Kd.N_elder' (by (with_reducible repeat (first | apply Kd.N_alloc | apply Kd.N_drewN | apply Kd.N_drew)); exact HO_12.out) (Kd.N_base ho0) hb); have n3_ := Aside0.mk (Kd.N_lower (Kd.N_mono (ok' := fun k_ => some k_ ≠ (.slice Ao33 x5_2.length co33 : Value).ownBlock ∧ some k_ ≠ (.slice Ao35 t462.length co35 : Value).ownBlock ∧ some k_ ≠ (.slice Ao82 t470.length co82 : Value).ownBlock) ho0 (fun k_ hk_ => ⟨(Kd.fresh' (Kd.N_lt (by (with_reducible repeat (first | apply Kd.N_alloc | apply Kd.N_drewN | apply Kd.N_drew)); exact HO_5.out)) k_ hk_), (Kd.fresh' (Kd.N_lt (by (with_reducible repeat (first | apply Kd.N_alloc | apply Kd.N_drewN | apply Kd.N_drew)); exact HO_10.out)) k_ hk_), (Kd.fresh' (Kd.N_lt (by (with_reducible repeat (first | apply Kd.N_alloc | apply Kd.N_drewN | apply Kd.N_drew)); exact HO_12.out)) k_ hk_)⟩)) (below_size (by repeat (first | (with_reducible first | exact HB.out | apply below_alloc | apply pw_below_drewN | apply below_drew1) | exact HB.out)))); have n4_ := Aside0.mk (below_step (by repeat (first | (with_reducible first | exact HB.out | apply below_alloc | apply pw_below_drewN | apply below_drew1) | exact HB.out)) hb); clear HO_5; clear HO_10; clear HO_12; clear HB; have HO_5 := n0_; have HO_10 := n1_; have HO_12 := n2_; have HO488 := n3_; have HB := n4_; clear n0_ n1_ n2_ n3_ n4_; (try clear hb); (try clear hb2); (try clear hk); (try clear hi); (try clear ho0)))
                              go_ret
                              exact ⟨by first | rfl | (simp [errW_none, errW_some] <;> rfl) | (simp [*, errW_none, errW_some] <;> rfl), by repeat (first | (with_reducible first | exact HB.out | apply below_alloc | apply pw_below_drewN | apply below_drew1) | exact HB.out)⟩
                          · rw [if_neg c67] at H
                            have c67b0 : (t465 == 0) = false := beq_eq_false_iff_ne.mpr c67
                            have c67b1 : (t465 != 0) = true := bne_iff_ne.mpr c67
                            obtain rfl := Option.some.inj H
                            obtain ⟨Ao84, co84, eo84⟩ := Kd.N_slice HO_12.out
                            subst eo84
                            go_wp2_with (first | ((with_reducible refine gate_callee (f := 16) rfl ?_); refine goesL_ (some 133) rfl rfl Try.func16 (by kernel_rfl) rfl #[.slice Ao84 t470.length co84, .int .i64 x9_21] rfl (by (try simp only [List.map_toArray, List.map_cons, List.map_nil]); first | done | rfl | (simp only [List.length_drop, List.length_take]; rfl)) ?_; (with_reducible refine (chunk_Remove.calls _ _ t470 x9_21 t486 t489 _ ?side1 ?side2 A66.out).mono ?_); (case side1 => repeat (first | exact (Kd.N_reads' HO_12.out).2.2 | (with_reducible refine Kd.C_alloc ?_ _) | (with_reducible refine Kd.C_drewN ?_ _) | (with_reducible refine Kd.C_drew ?_))); (case side2 => exact (Kd.N_reads' HO_12.out).2.1); rintro e w85 ⟨v487, rfl, ho0, hb⟩; refine ⟨_, rfl, ?_⟩; have n0_ := Aside0.mk (Kd.N_elder' (by (with_reducible repeat (first | apply Kd.N_alloc | apply Kd.N_drewN | apply Kd.N_drew)); exact HO_5.out) (Kd.N_base ho0) hb); have n1_ := Aside0.mk (Kd.N_elder' (by (with_reducible repeat (first | apply Kd.N_alloc | apply Kd.N_drewN | apply Kd.N_drew)); exact HO_10.out) (Kd.N_base ho0) hb); have n2_ := Aside0.mk (Kd.N_elder' (by (with_reducible repeat (first | apply Kd.N_alloc | apply Kd.N_drewN | apply Kd.N_drew)); exact HO_12.out) (Kd.N_base ho0) hb); have n3_ := Aside0.mk (Kd.N_lower (Kd.N_mono (ok' := fun k_ => some k_ ≠ (.slice Ao33 x5_2.length co33 : Value).ownBlock ∧ some k_ ≠ (.slice Ao35 t462.length co35 : Value).ownBlock ∧ some k_ ≠ (.slice Ao84 t470.length co84 : Value).ownBlock) ho0 (fun k_ hk_ => ⟨(Kd.fresh' (Kd.N_lt (by (with_reducible repeat (first | apply Kd.N_alloc | apply Kd.N_drewN | apply Kd.N_drew)); exact HO_5.out)) k_ hk_), (Kd.fresh' (Kd.N_lt (by (with_reducible repeat (first | apply Kd.N_alloc | apply Kd.N_drewN | apply Kd.N_drew)); exact HO_10.out)) k_ hk_), (Kd.fresh' (Kd.N_lt (by (with_reducible repeat (first | apply Kd.N_alloc | apply Kd.N_drewN | apply Kd.N_drew)); exact HO_12.out)) k_ hk_)⟩)) (below_size (by repeat (first | (with_reducible first | exact HB.out | apply below_alloc | apply pw_below_drewN | apply below_drew1) | exact HB.out)))); have n4_ := Aside0.mk (below_step (by repeat (first | (with_reducible first | exact HB.out | apply below_alloc | apply pw_below_drewN | apply below_drew1) | exact HB.out)) hb); clear HO_5; clear HO_10; clear HO_12; clear HB; have HO_5 := n0_; have HO_10 := n1_; have HO_12 := n2_; have HO488 := n3_; have HB := n4_; clear n0_ n1_ n2_ n3_ n4_; (try clear hb); (try clear hb2); (try clear hk); (try clear hi); (try clear ho0)))
                            go_ret
                            exact ⟨by first | rfl | (simp [errW_none, errW_some] <;> rfl) | (simp [*, errW_none, errW_some] <;> rfl), by repeat (first | (with_reducible first | exact HB.out | apply below_alloc | apply pw_below_drewN | apply below_drew1) | exact HB.out)⟩

/-- THE ONE PURE STATEMENT of cobweblaw10_ChunkKeeps: yours. -/
def cobweblaw10_ChunkKeeps.Pure : Prop := ∀ (l0 : List Int) (a1 : Int), l0.length ≤ maxLen → l0.length * 8 ≤ 140737488351232 → (∀ x ∈ l0, (Lit.int .i64 x).wf = true) → (Lit.int .i64 a1).wf = true → ∃ k, cobweblaw10_ChunkKeeps.f k l0 a1 = some true
theorem cobweblaw10_ChunkKeeps.walk (P : cobweblaw10_ChunkKeeps.Pure) (a0 : Option Addr) (len0 cap0 : Nat) (z0 : List Int) (a1 : Int) (w : World) (w0 : (a0 = none ∧ len0 = 0 ∧ cap0 = 0 ∧ z0 = []) ∨ ∃ x, a0 = some x ∧ len0 ≤ cap0 ∧ cap0 ≤ maxLen ∧ z0.length = cap0 ∧ (∀ i, i < z0.length → w.cell? (x.add i) = some (.int .i64 (z0.getD i 0))) ∧ ∀ n ∈ z0, (Lit.int .i64 n).wf = true) (y0 : len0 * 8 ≤ 140737488351232) (w1 : (Lit.int .i64 a1).wf = true) :
    Calls Try.prog 7 #[.slice a0 len0 cap0, .int .i64 a1] w fun e w' => e = .returned (.bool true) ∧ Below w.heap.size w w' := by
  obtain ⟨l0, rfl, hr0, hm0, hw0, hc0⟩ := ReadsInt.ofRowC w0
  obtain ⟨k, h⟩ := P l0 a1 hm0 y0 hw0 w1
  refine (cobweblaw10_ChunkKeeps.calls k _ _ l0 a1 true w (Kd.C_of_reads (d := (0 : Int)) (h1 := fun _ => rfl) hr0) hc0 h).mono ?_
  rintro e w' ⟨rfl, hd⟩
  exact ⟨rfl, hd⟩

end Go.Proofs.Ytfbegchhgigjeaa.PC
