-- written by drive.py, a program of this session's, by running the kit's printer; Lean checks it
import Derived.Test.YtfbegchhgigjeaaC0
import Derived.Test.YtfbegchhgigjeaaC2
import Derived.Test.YtfbegchhgigjeaaC21
import Derived.Test.YtfbegchhgigjeaaC23
import Derived.Test.YtfbegchhgigjeaaC34
import Derived.Test.YtfbegchhgigjeaaHApply
import Derived.Test.YtfbegchhgigjeaaHInsert
import Derived.Test.YtfbegchhgigjeaaHRemove
import Derived.Test.YtfbegchhgigjeaaHRight
namespace Go.Proofs.Ytfbegchhgigjeaa.PC
open Go.RowKit Go.Proofs.YtfbegchhgigjeaaW.PrintWords Go.Proofs.YtfbegchhgigjeaaW.PrintLast Go.Proofs.YtfbegchhgigjeaaW.PrintMore
attribute [local go_sem] max2_int min2_int max_two min_two max_three min_three max_four min_four   -- for this text's walks alone
set_option linter.unusedVariables false
set_option linter.unusedSimpArgs false

/-! ### cobweblaw10_ChunkActs: function 6 -/
mutual
def cobweblaw10_ChunkActs.j0 : Nat → List Int → Bool → Option (Bool)
  | 0, _, _ => none
  | k + 1, x0, x19 => if x19 = true then ((cobweblaw10_awake.f k).bind fun t416 => (some t416)) else (cobweblaw10_ChunkActs.l0 k x0 ([] : List (S39)) ([] : List Int) 0)
def cobweblaw10_ChunkActs.l0 : Nat → List Int → List (S39) → List Int → Int → Option (Bool)
  | 0, _, _, _, _ => none
  | k + 1, x0, x3, x4, x5 => if x5 < (x0.length : Int) then (if 0 ≤ x5 then ((cobwebref10_Has.f k x4 (Int.tmod (wrap64 ((Int.tmod (rd x0 x5) 64) + 64)) 64)).bind fun t418 => (if t418 = true then ((chunk_Remove.f x3 (Int.tmod (wrap64 ((Int.tmod (rd x0 x5) 64) + 64)) 64)).bind fun bt419 => (cobweblaw10_ChunkActs.j2 k x0 x3 x4 x5 (Int.tmod (wrap64 ((Int.tmod (rd x0 x5) 64) + 64)) 64) t418 bt419.1 bt419.2)) else ((chunk_Insert.f x3 (Int.tmod (wrap64 ((Int.tmod (rd x0 x5) 64) + 64)) 64)).bind fun bt423 => (cobweblaw10_ChunkActs.j2 k x0 x3 x4 x5 (Int.tmod (wrap64 ((Int.tmod (rd x0 x5) 64) + 64)) 64) t418 bt423.1 bt423.2)))) else (none)) else (some true)
def cobweblaw10_ChunkActs.j2 : Nat → List Int → List (S39) → List Int → Int → Int → Bool → List (S39) → Int → Option (Bool)
  | 0, _, _, _, _, _, _, _, _ => none
  | k + 1, x0, x3, x4, x5, x6, x7, x8, x9 => if x9 = 0 then (if (x8.length : Int) < 1 then (cobweblaw10_ChunkActs.j3 k x0 x3 x4 x5 x6 x7 x8 true) else (cobweblaw10_ChunkActs.j3 k x0 x3 x4 x5 x6 x7 x8 (decide ((x8.length : Int) > 2)))) else (cobweblaw10_ChunkActs.j3 k x0 x3 x4 x5 x6 x7 x8 true)
def cobweblaw10_ChunkActs.j3 : Nat → List Int → List (S39) → List Int → Int → Int → Bool → List (S39) → Bool → Option (Bool)
  | 0, _, _, _, _, _, _, _, _ => none
  | k + 1, x0, x3, x4, x5, x6, x7, x8, x61 => if x61 = true then (some false) else ((chunk_Apply.f x3 x8).bind fun t427 => (cobweblaw10_ChunkActs.l1 k x0 t427 x4 x5 x6 ([] : List Int) x7 0))
def cobweblaw10_ChunkActs.l1 : Nat → List Int → List (S39) → List Int → Int → Int → List Int → Bool → Int → Option (Bool)
  | 0, _, _, _, _, _, _, _, _ => none
  | k + 1, x0, x3, x4, x5, x6, x10, x11, x12 => if x12 < (x4.length : Int) then (if 0 ≤ x12 then (if (rd x4 x12) > x6 then (cobweblaw10_ChunkActs.j5 k x0 x3 x4 x5 x6 x10 x11 x12 (!x11)) else (cobweblaw10_ChunkActs.j5 k x0 x3 x4 x5 x6 x10 x11 x12 false)) else (none)) else (if x11 = true then (cobweblaw10_ChunkActs.j6 k x0 x3 x5 x10) else (if x10.length < 17592186044416 then (cobweblaw10_ChunkActs.j6 k x0 x3 x5 (x10 ++ [x6])) else (none)))
def cobweblaw10_ChunkActs.j5 : Nat → List Int → List (S39) → List Int → Int → Int → List Int → Bool → Int → Bool → Option (Bool)
  | 0, _, _, _, _, _, _, _, _, _ => none
  | k + 1, x0, x3, x4, x5, x6, x10, x11, x12, x81 => if x81 = true then (if x10.length < 17592186044416 then ((some (x10 ++ [x6] : List Int)).bind fun y431 => (if 0 ≤ x12 then (if x12 < (x4.length : Int) then (if (rd x4 x12) = x6 then (cobweblaw10_ChunkActs.l1 k x0 x3 x4 x5 x6 y431 true (wrap64 (x12 + 1))) else (if y431.length < 17592186044416 then (cobweblaw10_ChunkActs.l1 k x0 x3 x4 x5 x6 (y431 ++ [rd x4 x12]) true (wrap64 (x12 + 1))) else (none))) else (none)) else (none))) else (none)) else (if 0 ≤ x12 then (if x12 < (x4.length : Int) then (if (rd x4 x12) = x6 then (cobweblaw10_ChunkActs.l1 k x0 x3 x4 x5 x6 x10 x11 (wrap64 (x12 + 1))) else (if x10.length < 17592186044416 then (cobweblaw10_ChunkActs.l1 k x0 x3 x4 x5 x6 (x10 ++ [rd x4 x12]) x11 (wrap64 (x12 + 1))) else (none))) else (none)) else (none))
def cobweblaw10_ChunkActs.j6 : Nat → List Int → List (S39) → Int → List Int → Option (Bool)
  | 0, _, _, _, _ => none
  | k + 1, x0, x3, x5, x10 => (chunk_Right.f x3).bind fun t447 => (if t447 = true then ((chunk_IDs.f k x3).bind fun t448 => ((cobwebref10_Ints.f k t448 x10).bind fun t451 => (if t451 = true then (cobweblaw10_ChunkActs.l0 k x0 x3 x10 (wrap64 (x5 + 1))) else (some false)))) else (some false))
end
def cobweblaw10_ChunkActs.f (k : Nat) (l0 : List Int) : Option (Bool) := (cobweblaw10_awake.f k).bind fun t415 => (if t415 = true then (cobweblaw10_ChunkActs.j0 k l0 (decide ((l0.length : Int) > 150))) else (cobweblaw10_ChunkActs.j0 k l0 true))
theorem cobweblaw10_ChunkActs.mono_l : ∀ k, (∀ y0 y1, LeO (cobweblaw10_ChunkActs.j0 k y0 y1) (cobweblaw10_ChunkActs.j0 (k + 1) y0 y1)) ∧ (∀ y0 y1 y2 y3, LeO (cobweblaw10_ChunkActs.l0 k y0 y1 y2 y3) (cobweblaw10_ChunkActs.l0 (k + 1) y0 y1 y2 y3)) ∧ (∀ y0 y1 y2 y3 y4 y5 y6 y7, LeO (cobweblaw10_ChunkActs.j2 k y0 y1 y2 y3 y4 y5 y6 y7) (cobweblaw10_ChunkActs.j2 (k + 1) y0 y1 y2 y3 y4 y5 y6 y7)) ∧ (∀ y0 y1 y2 y3 y4 y5 y6 y7, LeO (cobweblaw10_ChunkActs.j3 k y0 y1 y2 y3 y4 y5 y6 y7) (cobweblaw10_ChunkActs.j3 (k + 1) y0 y1 y2 y3 y4 y5 y6 y7)) ∧ (∀ y0 y1 y2 y3 y4 y5 y6 y7, LeO (cobweblaw10_ChunkActs.l1 k y0 y1 y2 y3 y4 y5 y6 y7) (cobweblaw10_ChunkActs.l1 (k + 1) y0 y1 y2 y3 y4 y5 y6 y7)) ∧ (∀ y0 y1 y2 y3 y4 y5 y6 y7 y8, LeO (cobweblaw10_ChunkActs.j5 k y0 y1 y2 y3 y4 y5 y6 y7 y8) (cobweblaw10_ChunkActs.j5 (k + 1) y0 y1 y2 y3 y4 y5 y6 y7 y8)) ∧ (∀ y0 y1 y2 y3, LeO (cobweblaw10_ChunkActs.j6 k y0 y1 y2 y3) (cobweblaw10_ChunkActs.j6 (k + 1) y0 y1 y2 y3))
  | 0 => ⟨fun _ _ r h => by simp [cobweblaw10_ChunkActs.j0] at h, fun _ _ _ _ r h => by simp [cobweblaw10_ChunkActs.l0] at h, fun _ _ _ _ _ _ _ _ r h => by simp [cobweblaw10_ChunkActs.j2] at h, fun _ _ _ _ _ _ _ _ r h => by simp [cobweblaw10_ChunkActs.j3] at h, fun _ _ _ _ _ _ _ _ r h => by simp [cobweblaw10_ChunkActs.l1] at h, fun _ _ _ _ _ _ _ _ _ r h => by simp [cobweblaw10_ChunkActs.j5] at h, fun _ _ _ _ r h => by simp [cobweblaw10_ChunkActs.j6] at h⟩
  | k + 1 => by
    obtain ⟨ih0, ih1, ih2, ih3, ih4, ih5, ih6⟩ := cobweblaw10_ChunkActs.mono_l k
    refine ⟨?_, ?_, ?_, ?_, ?_, ?_, ?_⟩
    · intro y0 y1
      unfold cobweblaw10_ChunkActs.j0
      repeat' first
      | (with_reducible exact ih0 _ _)
      | (with_reducible exact ih1 _ _ _ _)
      | (with_reducible exact ih2 _ _ _ _ _ _ _ _)
      | (with_reducible exact ih3 _ _ _ _ _ _ _ _)
      | (with_reducible exact ih4 _ _ _ _ _ _ _ _)
      | (with_reducible exact ih5 _ _ _ _ _ _ _ _ _)
      | (with_reducible exact ih6 _ _ _ _)
      | (with_reducible exact chunk_IDs.mono _ _)
      | (with_reducible exact cobweblaw10_awake.mono _)
      | (with_reducible exact cobwebref10_Has.mono _ _ _)
      | (with_reducible exact cobwebref10_Ints.mono _ _ _)
      | (with_reducible exact LeO.refl _)
      | (with_reducible exact LeO.none _)
      | (with_reducible refine LeO.ite ?_ ?_)
      | (with_reducible refine LeO.bind ?_ (fun _ => ?_))
      | exact ih0 _ _
      | exact ih1 _ _ _ _
      | exact ih2 _ _ _ _ _ _ _ _
      | exact ih3 _ _ _ _ _ _ _ _
      | exact ih4 _ _ _ _ _ _ _ _
      | exact ih5 _ _ _ _ _ _ _ _ _
      | exact ih6 _ _ _ _
      | exact chunk_IDs.mono _ _
      | exact cobweblaw10_awake.mono _
      | exact cobwebref10_Has.mono _ _ _
      | exact cobwebref10_Ints.mono _ _ _
      | exact LeO.none _
      | refine LeO.ite ?_ ?_
      | refine LeO.bind ?_ (fun _ => ?_)
    · intro y0 y1 y2 y3
      unfold cobweblaw10_ChunkActs.l0
      repeat' first
      | (with_reducible exact ih0 _ _)
      | (with_reducible exact ih1 _ _ _ _)
      | (with_reducible exact ih2 _ _ _ _ _ _ _ _)
      | (with_reducible exact ih3 _ _ _ _ _ _ _ _)
      | (with_reducible exact ih4 _ _ _ _ _ _ _ _)
      | (with_reducible exact ih5 _ _ _ _ _ _ _ _ _)
      | (with_reducible exact ih6 _ _ _ _)
      | (with_reducible exact chunk_IDs.mono _ _)
      | (with_reducible exact cobweblaw10_awake.mono _)
      | (with_reducible exact cobwebref10_Has.mono _ _ _)
      | (with_reducible exact cobwebref10_Ints.mono _ _ _)
      | (with_reducible exact LeO.refl _)
      | (with_reducible exact LeO.none _)
      | (with_reducible refine LeO.ite ?_ ?_)
      | (with_reducible refine LeO.bind ?_ (fun _ => ?_))
      | exact ih0 _ _
      | exact ih1 _ _ _ _
      | exact ih2 _ _ _ _ _ _ _ _
      | exact ih3 _ _ _ _ _ _ _ _
      | exact ih4 _ _ _ _ _ _ _ _
      | exact ih5 _ _ _ _ _ _ _ _ _
      | exact ih6 _ _ _ _
      | exact chunk_IDs.mono _ _
      | exact cobweblaw10_awake.mono _
      | exact cobwebref10_Has.mono _ _ _
      | exact cobwebref10_Ints.mono _ _ _
      | exact LeO.none _
      | refine LeO.ite ?_ ?_
      | refine LeO.bind ?_ (fun _ => ?_)
    · intro y0 y1 y2 y3 y4 y5 y6 y7
      unfold cobweblaw10_ChunkActs.j2
      repeat' first
      | (with_reducible exact ih0 _ _)
      | (with_reducible exact ih1 _ _ _ _)
      | (with_reducible exact ih2 _ _ _ _ _ _ _ _)
      | (with_reducible exact ih3 _ _ _ _ _ _ _ _)
      | (with_reducible exact ih4 _ _ _ _ _ _ _ _)
      | (with_reducible exact ih5 _ _ _ _ _ _ _ _ _)
      | (with_reducible exact ih6 _ _ _ _)
      | (with_reducible exact chunk_IDs.mono _ _)
      | (with_reducible exact cobweblaw10_awake.mono _)
      | (with_reducible exact cobwebref10_Has.mono _ _ _)
      | (with_reducible exact cobwebref10_Ints.mono _ _ _)
      | (with_reducible exact LeO.refl _)
      | (with_reducible exact LeO.none _)
      | (with_reducible refine LeO.ite ?_ ?_)
      | (with_reducible refine LeO.bind ?_ (fun _ => ?_))
      | exact ih0 _ _
      | exact ih1 _ _ _ _
      | exact ih2 _ _ _ _ _ _ _ _
      | exact ih3 _ _ _ _ _ _ _ _
      | exact ih4 _ _ _ _ _ _ _ _
      | exact ih5 _ _ _ _ _ _ _ _ _
      | exact ih6 _ _ _ _
      | exact chunk_IDs.mono _ _
      | exact cobweblaw10_awake.mono _
      | exact cobwebref10_Has.mono _ _ _
      | exact cobwebref10_Ints.mono _ _ _
      | exact LeO.none _
      | refine LeO.ite ?_ ?_
      | refine LeO.bind ?_ (fun _ => ?_)
    · intro y0 y1 y2 y3 y4 y5 y6 y7
      unfold cobweblaw10_ChunkActs.j3
      repeat' first
      | (with_reducible exact ih0 _ _)
      | (with_reducible exact ih1 _ _ _ _)
      | (with_reducible exact ih2 _ _ _ _ _ _ _ _)
      | (with_reducible exact ih3 _ _ _ _ _ _ _ _)
      | (with_reducible exact ih4 _ _ _ _ _ _ _ _)
      | (with_reducible exact ih5 _ _ _ _ _ _ _ _ _)
      | (with_reducible exact ih6 _ _ _ _)
      | (with_reducible exact chunk_IDs.mono _ _)
      | (with_reducible exact cobweblaw10_awake.mono _)
      | (with_reducible exact cobwebref10_Has.mono _ _ _)
      | (with_reducible exact cobwebref10_Ints.mono _ _ _)
      | (with_reducible exact LeO.refl _)
      | (with_reducible exact LeO.none _)
      | (with_reducible refine LeO.ite ?_ ?_)
      | (with_reducible refine LeO.bind ?_ (fun _ => ?_))
      | exact ih0 _ _
      | exact ih1 _ _ _ _
      | exact ih2 _ _ _ _ _ _ _ _
      | exact ih3 _ _ _ _ _ _ _ _
      | exact ih4 _ _ _ _ _ _ _ _
      | exact ih5 _ _ _ _ _ _ _ _ _
      | exact ih6 _ _ _ _
      | exact chunk_IDs.mono _ _
      | exact cobweblaw10_awake.mono _
      | exact cobwebref10_Has.mono _ _ _
      | exact cobwebref10_Ints.mono _ _ _
      | exact LeO.none _
      | refine LeO.ite ?_ ?_
      | refine LeO.bind ?_ (fun _ => ?_)
    · intro y0 y1 y2 y3 y4 y5 y6 y7
      unfold cobweblaw10_ChunkActs.l1
      repeat' first
      | (with_reducible exact ih0 _ _)
      | (with_reducible exact ih1 _ _ _ _)
      | (with_reducible exact ih2 _ _ _ _ _ _ _ _)
      | (with_reducible exact ih3 _ _ _ _ _ _ _ _)
      | (with_reducible exact ih4 _ _ _ _ _ _ _ _)
      | (with_reducible exact ih5 _ _ _ _ _ _ _ _ _)
      | (with_reducible exact ih6 _ _ _ _)
      | (with_reducible exact chunk_IDs.mono _ _)
      | (with_reducible exact cobweblaw10_awake.mono _)
      | (with_reducible exact cobwebref10_Has.mono _ _ _)
      | (with_reducible exact cobwebref10_Ints.mono _ _ _)
      | (with_reducible exact LeO.refl _)
      | (with_reducible exact LeO.none _)
      | (with_reducible refine LeO.ite ?_ ?_)
      | (with_reducible refine LeO.bind ?_ (fun _ => ?_))
      | exact ih0 _ _
      | exact ih1 _ _ _ _
      | exact ih2 _ _ _ _ _ _ _ _
      | exact ih3 _ _ _ _ _ _ _ _
      | exact ih4 _ _ _ _ _ _ _ _
      | exact ih5 _ _ _ _ _ _ _ _ _
      | exact ih6 _ _ _ _
      | exact chunk_IDs.mono _ _
      | exact cobweblaw10_awake.mono _
      | exact cobwebref10_Has.mono _ _ _
      | exact cobwebref10_Ints.mono _ _ _
      | exact LeO.none _
      | refine LeO.ite ?_ ?_
      | refine LeO.bind ?_ (fun _ => ?_)
    · intro y0 y1 y2 y3 y4 y5 y6 y7 y8
      unfold cobweblaw10_ChunkActs.j5
      repeat' first
      | (with_reducible exact ih0 _ _)
      | (with_reducible exact ih1 _ _ _ _)
      | (with_reducible exact ih2 _ _ _ _ _ _ _ _)
      | (with_reducible exact ih3 _ _ _ _ _ _ _ _)
      | (with_reducible exact ih4 _ _ _ _ _ _ _ _)
      | (with_reducible exact ih5 _ _ _ _ _ _ _ _ _)
      | (with_reducible exact ih6 _ _ _ _)
      | (with_reducible exact chunk_IDs.mono _ _)
      | (with_reducible exact cobweblaw10_awake.mono _)
      | (with_reducible exact cobwebref10_Has.mono _ _ _)
      | (with_reducible exact cobwebref10_Ints.mono _ _ _)
      | (with_reducible exact LeO.refl _)
      | (with_reducible exact LeO.none _)
      | (with_reducible refine LeO.ite ?_ ?_)
      | (with_reducible refine LeO.bind ?_ (fun _ => ?_))
      | exact ih0 _ _
      | exact ih1 _ _ _ _
      | exact ih2 _ _ _ _ _ _ _ _
      | exact ih3 _ _ _ _ _ _ _ _
      | exact ih4 _ _ _ _ _ _ _ _
      | exact ih5 _ _ _ _ _ _ _ _ _
      | exact ih6 _ _ _ _
      | exact chunk_IDs.mono _ _
      | exact cobweblaw10_awake.mono _
      | exact cobwebref10_Has.mono _ _ _
      | exact cobwebref10_Ints.mono _ _ _
      | exact LeO.none _
      | refine LeO.ite ?_ ?_
      | refine LeO.bind ?_ (fun _ => ?_)
    · intro y0 y1 y2 y3
      unfold cobweblaw10_ChunkActs.j6
      repeat' first
      | (with_reducible exact ih0 _ _)
      | (with_reducible exact ih1 _ _ _ _)
      | (with_reducible exact ih2 _ _ _ _ _ _ _ _)
      | (with_reducible exact ih3 _ _ _ _ _ _ _ _)
      | (with_reducible exact ih4 _ _ _ _ _ _ _ _)
      | (with_reducible exact ih5 _ _ _ _ _ _ _ _ _)
      | (with_reducible exact ih6 _ _ _ _)
      | (with_reducible exact chunk_IDs.mono _ _)
      | (with_reducible exact cobweblaw10_awake.mono _)
      | (with_reducible exact cobwebref10_Has.mono _ _ _)
      | (with_reducible exact cobwebref10_Ints.mono _ _ _)
      | (with_reducible exact LeO.refl _)
      | (with_reducible exact LeO.none _)
      | (with_reducible refine LeO.ite ?_ ?_)
      | (with_reducible refine LeO.bind ?_ (fun _ => ?_))
      | exact ih0 _ _
      | exact ih1 _ _ _ _
      | exact ih2 _ _ _ _ _ _ _ _
      | exact ih3 _ _ _ _ _ _ _ _
      | exact ih4 _ _ _ _ _ _ _ _
      | exact ih5 _ _ _ _ _ _ _ _ _
      | exact ih6 _ _ _ _
      | exact chunk_IDs.mono _ _
      | exact cobweblaw10_awake.mono _
      | exact cobwebref10_Has.mono _ _ _
      | exact cobwebref10_Ints.mono _ _ _
      | exact LeO.none _
      | refine LeO.ite ?_ ?_
      | refine LeO.bind ?_ (fun _ => ?_)
theorem cobweblaw10_ChunkActs.mono : ∀ a0 k, LeO (cobweblaw10_ChunkActs.f k a0) (cobweblaw10_ChunkActs.f (k + 1) a0) := by
  intro a0 k
  obtain ⟨ih0, ih1, ih2, ih3, ih4, ih5, ih6⟩ := cobweblaw10_ChunkActs.mono_l k
  unfold cobweblaw10_ChunkActs.f
  repeat' first
      | (with_reducible exact ih0 _ _)
      | (with_reducible exact ih1 _ _ _ _)
      | (with_reducible exact ih2 _ _ _ _ _ _ _ _)
      | (with_reducible exact ih3 _ _ _ _ _ _ _ _)
      | (with_reducible exact ih4 _ _ _ _ _ _ _ _)
      | (with_reducible exact ih5 _ _ _ _ _ _ _ _ _)
      | (with_reducible exact ih6 _ _ _ _)
      | (with_reducible exact chunk_IDs.mono _ _)
      | (with_reducible exact cobweblaw10_awake.mono _)
      | (with_reducible exact cobwebref10_Has.mono _ _ _)
      | (with_reducible exact cobwebref10_Ints.mono _ _ _)
      | (with_reducible exact LeO.refl _)
      | (with_reducible exact LeO.none _)
      | (with_reducible refine LeO.ite ?_ ?_)
      | (with_reducible refine LeO.bind ?_ (fun _ => ?_))
      | exact ih0 _ _
      | exact ih1 _ _ _ _
      | exact ih2 _ _ _ _ _ _ _ _
      | exact ih3 _ _ _ _ _ _ _ _
      | exact ih4 _ _ _ _ _ _ _ _
      | exact ih5 _ _ _ _ _ _ _ _ _
      | exact ih6 _ _ _ _
      | exact chunk_IDs.mono _ _
      | exact cobweblaw10_awake.mono _
      | exact cobwebref10_Has.mono _ _ _
      | exact cobwebref10_Ints.mono _ _ _
      | exact LeO.none _
      | refine LeO.ite ?_ ?_
      | refine LeO.bind ?_ (fun _ => ?_)
set_option maxHeartbeats 8000000 in
set_option maxRecDepth 100000 in
theorem cobweblaw10_ChunkActs.calls (k : Nat) (A0 : Option Addr) (c0 : Nat) (l0 : List Int) (r : Bool) (w : World) (hr0 : Kd.C (Kd.int .i64) w A0 l0.length l0) (hc0 : l0.length ≤ c0) (h : cobweblaw10_ChunkActs.f k l0 = some r) :
    Calls Try.prog 6 #[.slice A0 l0.length c0] w fun e w' => e = .returned (.bool r) ∧ Below w.heap.size w w' := by
  have HR0 := Aside0.mk hr0
  have HC0 := Aside0.mk hc0
  clear hr0 hc0
  have HB := Aside0.mk (Below.refl w.heap.size w)
  have H : ((cobweblaw10_awake.f k).bind fun t415 => (if t415 = true then (cobweblaw10_ChunkActs.j0 k l0 (decide ((l0.length : Int) > 150))) else (cobweblaw10_ChunkActs.j0 k l0 true))) = some r := h
  clear h
  have HC2 := Aside0.mk H
  clear H
  go_enter Try.func6, Try.ntmps6
  go_upto_region 1 with (fail)
  go_cut [19] (fun v19 wc => ∃ (kq : Nat) (x19_1 : Bool), v19 = .bool x19_1 ∧ Aside0 (cobweblaw10_ChunkActs.j0 kq l0 x19_1 = some r) ∧ Aside0 (kq ≤ k) ∧ Aside0 (Below w.heap.size w wc))
  case first =>
    have H := HC2.out
    clear HC2
    replace H := Option.bind_eq_some_iff.mp H
    obtain ⟨t415, A30, H⟩ := H
    replace H : (if t415 = true then (cobweblaw10_ChunkActs.j0 k l0 (decide ((l0.length : Int) > 150))) else (cobweblaw10_ChunkActs.j0 k l0 true)) = some r := H
    have A3 := Aside0.mk A30
    clear A30
    by_cases c4 : t415 = true
    · subst c4
      have H1 : (cobweblaw10_ChunkActs.j0 k l0 (decide ((l0.length : Int) > 150))) = some r := by rw [if_pos rfl] at H; exact H
      clear H
      have H := H1
      clear H1
      have H' := Aside0.mk H
      clear H
      go_wp2_with (first | ((with_reducible refine gate_callee (f := 8) rfl ?_); refine goesL_ (some 13) rfl rfl Try.func8 (by kernel_rfl) rfl #[] rfl (by (try simp only [List.map_toArray, List.map_cons, List.map_nil]); first | done | rfl | (simp only [List.length_drop, List.length_take]; rfl)) ?_; (with_reducible refine (cobweblaw10_awake.calls k  true _ A3.out).mono ?_); rintro e w5 ⟨rfl, hb⟩; refine ⟨_, rfl, ?_⟩; have n0_ := Aside0.mk (below_step (by repeat (first | (with_reducible first | exact HB.out | apply below_alloc | apply pw_below_drewN | apply below_drew1) | exact HB.out)) hb); clear HB; have HB := n0_; clear n0_; (try clear hb); (try clear hb2); (try clear hk); (try clear hi)))
      go_meet
      case rel => exact ⟨_, (decide ((l0.length : Int) > 150)), (by first | rfl | (simp; done) | (simp [*]; done)), H', ⟨by first | omega | exact Nat.le_refl _⟩, ⟨by repeat (first | (with_reducible first | exact HB.out | apply below_alloc | apply pw_below_drewN | apply below_drew1) | exact HB.out)⟩⟩
    · replace c4 := Bool.eq_false_iff.mpr c4
      subst c4
      have H1 : (cobweblaw10_ChunkActs.j0 k l0 true) = some r := by rw [if_neg (show ¬ (false = true) by decide)] at H; exact H
      clear H
      have H := H1
      clear H1
      have H' := Aside0.mk H
      clear H
      go_wp2_with (first | ((with_reducible refine gate_callee (f := 8) rfl ?_); refine goesL_ (some 13) rfl rfl Try.func8 (by kernel_rfl) rfl #[] rfl (by (try simp only [List.map_toArray, List.map_cons, List.map_nil]); first | done | rfl | (simp only [List.length_drop, List.length_take]; rfl)) ?_; (with_reducible refine (cobweblaw10_awake.calls k  false _ A3.out).mono ?_); rintro e w6 ⟨rfl, hb⟩; refine ⟨_, rfl, ?_⟩; have n0_ := Aside0.mk (below_step (by repeat (first | (with_reducible first | exact HB.out | apply below_alloc | apply pw_below_drewN | apply below_drew1) | exact HB.out)) hb); clear HB; have HB := n0_; clear n0_; (try clear hb); (try clear hb2); (try clear hk); (try clear hi)))
      go_meet
      case rel => exact ⟨_, (true), (by first | rfl | (simp; done) | (simp [*]; done)), H', ⟨by first | omega | exact Nat.le_refl _⟩, ⟨by repeat (first | (with_reducible first | exact HB.out | apply below_alloc | apply pw_below_drewN | apply below_drew1) | exact HB.out)⟩⟩
  case rest =>
    clear HC2
    try clear p2
    try clear c4
    try clear c6
    obtain ⟨kq, x19_1, rfl, HA, HJ1, HB⟩ := hcut
    cases kq with
    | zero => exact absurd HA.out (by simp [cobweblaw10_ChunkActs.j0])
    | succ kj1 =>
      have H := HA.out
      clear HA
      simp only [cobweblaw10_ChunkActs.j0] at H
      by_cases c7 : x19_1 = true
      · subst c7
        have H1 : ((cobweblaw10_awake.f kj1).bind fun t416 => (some t416)) = some r := by rw [if_pos rfl] at H; exact H
        clear H
        have H := H1
        clear H1
        replace H := Option.bind_eq_some_iff.mp H
        obtain ⟨t416, A80, H⟩ := H
        replace H : (some t416) = some r := H
        have A8 := Aside0.mk A80
        clear A80
        obtain rfl := Option.some.inj H
        go_wp2_with (first | ((with_reducible refine gate_callee (f := 8) rfl ?_); refine goesL_ (some 20) rfl rfl Try.func8 (by kernel_rfl) rfl #[] rfl (by (try simp only [List.map_toArray, List.map_cons, List.map_nil]); first | done | rfl | (simp only [List.length_drop, List.length_take]; rfl)) ?_; (with_reducible refine (cobweblaw10_awake.calls kj1  t416 _ A8.out).mono ?_); rintro e w9 ⟨rfl, hb⟩; refine ⟨_, rfl, ?_⟩; have n0_ := Aside0.mk (below_step (by repeat (first | (with_reducible first | exact HB.out | apply below_alloc | apply pw_below_drewN | apply below_drew1) | exact HB.out)) hb); clear HB; have HB := n0_; clear n0_; (try clear hb); (try clear hb2); (try clear hk); (try clear hi)))
        go_ret
        exact ⟨by first | rfl | (simp [errW_none, errW_some] <;> rfl) | (simp [*, errW_none, errW_some] <;> rfl), by repeat (first | (with_reducible first | exact HB.out | apply below_alloc | apply pw_below_drewN | apply below_drew1) | exact HB.out)⟩
      · replace c7 := Bool.eq_false_iff.mpr c7
        subst c7
        have H1 : (cobweblaw10_ChunkActs.l0 kj1 l0 ([] : List (S39)) ([] : List Int) 0) = some r := by rw [if_neg (show ¬ (false = true) by decide)] at H; exact H
        clear H
        have H := H1
        clear H1
        have H' := Aside0.mk H
        clear H
        go_wp2
        go_loopg [3, 4, 5] kj1 (fun kq v3 v4 v5 w' => ∃ (x3_2 : List (S39)) (x4_2 : List Int) (x5_2 : Int), v5 = .int .i64 x5_2 ∧ Aside0 (cobweblaw10_ChunkActs.l0 kq l0 x3_2 x4_2 x5_2 = some r) ∧ Aside0 (kq ≤ kj1) ∧ Aside0 (Kd.N k39 39 w' w.heap.size (fun k_ => some k_ ≠ (v4 : Value).ownBlock) v3 x3_2) ∧ Aside0 (Kd.R (Kd.int .i64) 3 w' w.heap.size (fun _ => True) v4 x4_2) ∧ Aside0 (Below w.heap.size w w'))
        case atStart => exact ⟨(([] : List (S39))), (([] : List Int)), (0), (by first | rfl | (simp; done) | (simp [*]; done)), H', ⟨Nat.le_refl _⟩, ⟨by first | exact Kd.S_nil _ _ _ _ _ | exact Kd.N_nil _ _ _ _ _ | exact Kd.V_nil _ _ _ _ _ | exact Kd.Q_nil _ _ _ _ _ | exact Kd.R_nil _ _ _ _ _⟩, ⟨by first | exact Kd.R_nil _ _ _ _ _ | exact Kd.N_nil _ _ _ _ _ | exact Kd.V_nil _ _ _ _ _ | exact Kd.Q_nil _ _ _ _ _ | exact Kd.S_nil _ _ _ _ _⟩, ⟨by repeat (first | (with_reducible first | exact HB.out | apply below_alloc | apply pw_below_drewN | apply below_drew1) | exact HB.out)⟩⟩
        case round =>
          clear H'
          try clear p2
          try clear c4
          try clear c6
          try clear c7
          try clear c8
          try clear p2
          obtain ⟨x3_2, x4_2, x5_2, rfl, HA, HK2, HO_3, HO_4, HB⟩ := hrel
          cases gk with
          | zero => exact absurd HA.out (by simp [cobweblaw10_ChunkActs.l0])
          | succ k2 =>
            have H := HA.out
            clear HA
            simp only [cobweblaw10_ChunkActs.l0] at H
            by_cases c10 : x5_2 < (l0.length : Int)
            · rw [if_pos c10] at H
              have c10b0 : decide (x5_2 < (l0.length : Int)) = true := decide_eq_true c10
              clear c10
              by_cases c11 : 0 ≤ x5_2
              · rw [if_pos c11] at H
                have c11b0 : decide (0 ≤ x5_2) = true := decide_eq_true c11
                clear c11
                replace H := Option.bind_eq_some_iff.mp H
                obtain ⟨t418, A120, H⟩ := H
                replace H : (if t418 = true then ((chunk_Remove.f x3_2 (Int.tmod (wrap64 ((Int.tmod (rd l0 x5_2) 64) + 64)) 64)).bind fun bt419 => (cobweblaw10_ChunkActs.j2 k2 l0 x3_2 x4_2 x5_2 (Int.tmod (wrap64 ((Int.tmod (rd l0 x5_2) 64) + 64)) 64) t418 bt419.1 bt419.2)) else ((chunk_Insert.f x3_2 (Int.tmod (wrap64 ((Int.tmod (rd l0 x5_2) 64) + 64)) 64)).bind fun bt423 => (cobweblaw10_ChunkActs.j2 k2 l0 x3_2 x4_2 x5_2 (Int.tmod (wrap64 ((Int.tmod (rd l0 x5_2) 64) + 64)) 64) t418 bt423.1 bt423.2))) = some r := H
                have A12 := Aside0.mk A120
                clear A120
                have HC13 := Aside0.mk H
                clear H
                have p417 : 0 ≤ (x5_2 : Int) := of_decide_eq_true (by first | (with_reducible assumption) | assumption)
                have q417 : x5_2 < (l0.length : Int) := of_decide_eq_true (by first | (with_reducible assumption) | assumption)
                obtain ⟨ad417, e417, hx417_0⟩ := Kd.at_int HR0.out x5_2 p417 q417
                cases e417
                replace hx417_0 := (HB.out.cell (World.block_lt_of_cell? w _ hx417_0)).trans hx417_0
                replace p417 := eq_true p417
                replace q417 := eq_true q417
                obtain ⟨Ao14, co14, eo14⟩ := Kd.R_slice HO_4.out
                subst eo14
                go_upto_if 37 with (first | ((with_reducible refine gate_callee (f := 26) rfl ?_); refine goesL_ (some 36) rfl rfl Try.func26 (by kernel_rfl) rfl #[.slice Ao14 x4_2.length co14, .int .i64 (Int.tmod (wrap64 ((Int.tmod (rd l0 x5_2) 64) + 64)) 64)] rfl (by (try simp only [List.map_toArray, List.map_cons, List.map_nil]); first | done | rfl | (simp only [List.length_drop, List.length_take]; rfl)) ?_; (with_reducible refine (cobwebref10_Has.calls k2 _ _ x4_2 (Int.tmod (wrap64 ((Int.tmod (rd l0 x5_2) 64) + 64)) 64) t418 _ ?side1 ?side2 A12.out).mono ?_); (case side1 => repeat (first | exact (Kd.R_reads' HO_4.out).2.2 | (with_reducible refine Kd.C_alloc ?_ _) | (with_reducible refine Kd.C_drewN ?_ _) | (with_reducible refine Kd.C_drew ?_))); (case side2 => exact (Kd.R_reads' HO_4.out).2.1); rintro e w' ⟨rfl, ⟨nd, rfl⟩⟩; refine ⟨_, rfl, ?_⟩))
                (try simp only [Act.put, List.setIfInBounds_toArray, List.set_cons_zero, List.set_cons_succ])
                go_cut [8, 9] (fun v8 v9 wc => ∃ (kq : Nat) (x8_12 : List (S39)) (x9_12 : Int), v9 = .int .i64 x9_12 ∧ Aside0 (cobweblaw10_ChunkActs.j2 kq l0 x3_2 x4_2 x5_2 (Int.tmod (wrap64 ((Int.tmod (rd l0 x5_2) 64) + 64)) 64) t418 x8_12 x9_12 = some r) ∧ Aside0 (kq ≤ k2) ∧ Aside0 (Kd.N k39 39 wc w.heap.size (fun k_ => some k_ ≠ ((.slice Ao14 x4_2.length co14) : Value).ownBlock ∧ some k_ ≠ (v8 : Value).ownBlock) u3 x3_2) ∧ Aside0 (Kd.R (Kd.int .i64) 3 wc w.heap.size (fun _ => True) (.slice Ao14 x4_2.length co14) x4_2) ∧ Aside0 (Kd.N k39 39 wc w.heap.size (fun k_ => some k_ ≠ (u3 : Value).ownBlock ∧ some k_ ≠ ((.slice Ao14 x4_2.length co14) : Value).ownBlock) v8 x8_12) ∧ Aside0 (Below w.heap.size w wc))
                case first =>
                  have H := HC13.out
                  clear HC13
                  by_cases c15 : t418 = true
                  · subst c15
                    have H1 : ((chunk_Remove.f x3_2 (Int.tmod (wrap64 ((Int.tmod (rd l0 x5_2) 64) + 64)) 64)).bind fun bt419 => (cobweblaw10_ChunkActs.j2 k2 l0 x3_2 x4_2 x5_2 (Int.tmod (wrap64 ((Int.tmod (rd l0 x5_2) 64) + 64)) 64) true bt419.1 bt419.2)) = some r := by rw [if_pos rfl] at H; exact H
                    clear H
                    have H := H1
                    clear H1
                    replace H := Option.bind_eq_some_iff.mp H
                    obtain ⟨⟨t419, t422⟩, A160, H⟩ := H
                    replace H : (cobweblaw10_ChunkActs.j2 k2 l0 x3_2 x4_2 x5_2 (Int.tmod (wrap64 ((Int.tmod (rd l0 x5_2) 64) + 64)) 64) true t419 t422) = some r := H
                    have A16 := Aside0.mk A160
                    clear A160
                    have H' := Aside0.mk H
                    clear H
                    obtain ⟨Ao17, co17, eo17⟩ := Kd.N_slice HO_3.out
                    subst eo17
                    go_wp2_with (first | ((with_reducible refine gate_callee (f := 16) rfl ?_); refine goesL_ (some 41) rfl rfl Try.func16 (by kernel_rfl) rfl #[.slice Ao17 x3_2.length co17, .int .i64 (Int.tmod (wrap64 ((Int.tmod (rd l0 x5_2) 64) + 64)) 64)] rfl (by (try simp only [List.map_toArray, List.map_cons, List.map_nil]); first | done | rfl | (simp only [List.length_drop, List.length_take]; rfl)) ?_; (with_reducible refine (chunk_Remove.calls _ _ x3_2 (Int.tmod (wrap64 ((Int.tmod (rd l0 x5_2) 64) + 64)) 64) t419 t422 _ ?side1 ?side2 A16.out).mono ?_); (case side1 => repeat (first | exact (Kd.N_reads' HO_3.out).2.2 | (with_reducible refine Kd.C_alloc ?_ _) | (with_reducible refine Kd.C_drewN ?_ _) | (with_reducible refine Kd.C_drew ?_))); (case side2 => exact (Kd.N_reads' HO_3.out).2.1); rintro e w18 ⟨v420, rfl, ho0, hb⟩; refine ⟨_, rfl, ?_⟩; have n0_ := Aside0.mk (Kd.N_elder' (by (with_reducible repeat (first | apply Kd.N_alloc | apply Kd.N_drewN | apply Kd.N_drew)); exact HO_3.out) (Kd.N_base ho0) hb); have n1_ := Aside0.mk (Kd.R_below (by (with_reducible repeat (first | apply Kd.R_alloc | apply Kd.R_drewN | apply Kd.R_drew)); exact HO_4.out) hb); have n2_ := Aside0.mk (Kd.N_lower (Kd.N_mono (ok' := fun k_ => some k_ ≠ (.slice Ao17 x3_2.length co17 : Value).ownBlock ∧ some k_ ≠ (.slice Ao14 x4_2.length co14 : Value).ownBlock) ho0 (fun k_ hk_ => ⟨(Kd.fresh' (Kd.N_lt (by (with_reducible repeat (first | apply Kd.N_alloc | apply Kd.N_drewN | apply Kd.N_drew)); exact HO_3.out)) k_ hk_), (Kd.fresh' (Kd.R_lt (by (with_reducible repeat (first | apply Kd.R_alloc | apply Kd.R_drewN | apply Kd.R_drew)); exact HO_4.out)) k_ hk_)⟩)) (below_size (by repeat (first | (with_reducible first | exact HB.out | apply below_alloc | apply pw_below_drewN | apply below_drew1) | exact HB.out)))); have n3_ := Aside0.mk (below_step (by repeat (first | (with_reducible first | exact HB.out | apply below_alloc | apply pw_below_drewN | apply below_drew1) | exact HB.out)) hb); clear HO_3; clear HO_4; clear HB; have HO_3 := n0_; have HO_4 := n1_; have HO421 := n2_; have HB := n3_; clear n0_ n1_ n2_ n3_; (try clear hb); (try clear hb2); (try clear hk); (try clear hi); (try clear ho0)))
                    go_meet
                    case rel => exact ⟨_, (t419), (t422), (by first | rfl | (simp; done) | (simp [*]; done)), H', ⟨by have := HJ1.out; have := HK2.out; first | omega | exact Nat.le_refl _⟩, ⟨by (with_reducible repeat (first | apply Kd.N_alloc | apply Kd.N_drewN | apply Kd.N_drew)); exact HO_3.out⟩, ⟨by (with_reducible repeat (first | apply Kd.R_alloc | apply Kd.R_drewN | apply Kd.R_drew)); exact HO_4.out⟩, ⟨by (with_reducible repeat (first | apply Kd.N_alloc | apply Kd.N_drewN | apply Kd.N_drew)); exact HO421.out⟩, ⟨by repeat (first | (with_reducible first | exact HB.out | apply below_alloc | apply pw_below_drewN | apply below_drew1) | exact HB.out)⟩⟩
                  · replace c15 := Bool.eq_false_iff.mpr c15
                    subst c15
                    have H1 : ((chunk_Insert.f x3_2 (Int.tmod (wrap64 ((Int.tmod (rd l0 x5_2) 64) + 64)) 64)).bind fun bt423 => (cobweblaw10_ChunkActs.j2 k2 l0 x3_2 x4_2 x5_2 (Int.tmod (wrap64 ((Int.tmod (rd l0 x5_2) 64) + 64)) 64) false bt423.1 bt423.2)) = some r := by rw [if_neg (show ¬ (false = true) by decide)] at H; exact H
                    clear H
                    have H := H1
                    clear H1
                    replace H := Option.bind_eq_some_iff.mp H
                    obtain ⟨⟨t423, t426⟩, A190, H⟩ := H
                    replace H : (cobweblaw10_ChunkActs.j2 k2 l0 x3_2 x4_2 x5_2 (Int.tmod (wrap64 ((Int.tmod (rd l0 x5_2) 64) + 64)) 64) false t423 t426) = some r := H
                    have A19 := Aside0.mk A190
                    clear A190
                    have H' := Aside0.mk H
                    clear H
                    obtain ⟨Ao20, co20, eo20⟩ := Kd.N_slice HO_3.out
                    subst eo20
                    go_wp2_with (first | ((with_reducible refine gate_callee (f := 9) rfl ?_); refine goesL_ (some 47) rfl rfl Try.func9 (by kernel_rfl) rfl #[.slice Ao20 x3_2.length co20, .int .i64 (Int.tmod (wrap64 ((Int.tmod (rd l0 x5_2) 64) + 64)) 64)] rfl (by (try simp only [List.map_toArray, List.map_cons, List.map_nil]); first | done | rfl | (simp only [List.length_drop, List.length_take]; rfl)) ?_; (with_reducible refine (chunk_Insert.calls _ _ x3_2 (Int.tmod (wrap64 ((Int.tmod (rd l0 x5_2) 64) + 64)) 64) t423 t426 _ ?side1 ?side2 A19.out).mono ?_); (case side1 => repeat (first | exact (Kd.N_reads' HO_3.out).2.2 | (with_reducible refine Kd.C_alloc ?_ _) | (with_reducible refine Kd.C_drewN ?_ _) | (with_reducible refine Kd.C_drew ?_))); (case side2 => exact (Kd.N_reads' HO_3.out).2.1); rintro e w21 ⟨v424, rfl, ho0, hb⟩; refine ⟨_, rfl, ?_⟩; have n0_ := Aside0.mk (Kd.N_elder' (by (with_reducible repeat (first | apply Kd.N_alloc | apply Kd.N_drewN | apply Kd.N_drew)); exact HO_3.out) (Kd.N_base ho0) hb); have n1_ := Aside0.mk (Kd.R_below (by (with_reducible repeat (first | apply Kd.R_alloc | apply Kd.R_drewN | apply Kd.R_drew)); exact HO_4.out) hb); have n2_ := Aside0.mk (Kd.N_lower (Kd.N_mono (ok' := fun k_ => some k_ ≠ (.slice Ao20 x3_2.length co20 : Value).ownBlock ∧ some k_ ≠ (.slice Ao14 x4_2.length co14 : Value).ownBlock) ho0 (fun k_ hk_ => ⟨(Kd.fresh' (Kd.N_lt (by (with_reducible repeat (first | apply Kd.N_alloc | apply Kd.N_drewN | apply Kd.N_drew)); exact HO_3.out)) k_ hk_), (Kd.fresh' (Kd.R_lt (by (with_reducible repeat (first | apply Kd.R_alloc | apply Kd.R_drewN | apply Kd.R_drew)); exact HO_4.out)) k_ hk_)⟩)) (below_size (by repeat (first | (with_reducible first | exact HB.out | apply below_alloc | apply pw_below_drewN | apply below_drew1) | exact HB.out)))); have n3_ := Aside0.mk (below_step (by repeat (first | (with_reducible first | exact HB.out | apply below_alloc | apply pw_below_drewN | apply below_drew1) | exact HB.out)) hb); clear HO_3; clear HO_4; clear HB; have HO_3 := n0_; have HO_4 := n1_; have HO425 := n2_; have HB := n3_; clear n0_ n1_ n2_ n3_; (try clear hb); (try clear hb2); (try clear hk); (try clear hi); (try clear ho0)))
                    go_meet
                    case rel => exact ⟨_, (t423), (t426), (by first | rfl | (simp; done) | (simp [*]; done)), H', ⟨by have := HJ1.out; have := HK2.out; first | omega | exact Nat.le_refl _⟩, ⟨by (with_reducible repeat (first | apply Kd.N_alloc | apply Kd.N_drewN | apply Kd.N_drew)); exact HO_3.out⟩, ⟨by (with_reducible repeat (first | apply Kd.R_alloc | apply Kd.R_drewN | apply Kd.R_drew)); exact HO_4.out⟩, ⟨by (with_reducible repeat (first | apply Kd.N_alloc | apply Kd.N_drewN | apply Kd.N_drew)); exact HO425.out⟩, ⟨by repeat (first | (with_reducible first | exact HB.out | apply below_alloc | apply pw_below_drewN | apply below_drew1) | exact HB.out)⟩⟩
                case rest =>
                  clear HC13
                  try clear c1
                  try clear c2
                  try clear p2
                  try clear c4
                  try clear p4
                  try clear q4
                  try clear hx4
                  try clear c6
                  try clear p6
                  try clear c7
                  try clear c8
                  try clear c9
                  try clear c10
                  try clear c10b0
                  try clear c11
                  try clear c11b0
                  try clear c15
                  try clear c16
                  try clear hx417_0
                  try clear p2
                  try clear p417
                  try clear q417
                  obtain ⟨kq, x8_12, x9_12, rfl, HA, HJ12, HO_3, HO_4, HO_8, HB⟩ := hcut
                  cases kq with
                  | zero => exact absurd HA.out (by simp [cobweblaw10_ChunkActs.j2])
                  | succ kj12 =>
                    have H := HA.out
                    clear HA
                    simp only [cobweblaw10_ChunkActs.j2] at H
                    have HC22 := Aside0.mk H
                    clear H
                    go_upto_region 15 with (fail)
                    go_cut [61] (fun v61 wc => ∃ (kq : Nat) (x61_21 : Bool), v61 = .bool x61_21 ∧ Aside0 (cobweblaw10_ChunkActs.j3 kq l0 x3_2 x4_2 x5_2 (Int.tmod (wrap64 ((Int.tmod (rd l0 x5_2) 64) + 64)) 64) t418 x8_12 x61_21 = some r) ∧ Aside0 (kq ≤ kj12) ∧ Aside0 (Kd.N k39 39 wc w.heap.size (fun k_ => some k_ ≠ ((.slice Ao14 x4_2.length co14) : Value).ownBlock ∧ some k_ ≠ (u8 : Value).ownBlock) u3 x3_2) ∧ Aside0 (Kd.R (Kd.int .i64) 3 wc w.heap.size (fun _ => True) (.slice Ao14 x4_2.length co14) x4_2) ∧ Aside0 (Kd.N k39 39 wc w.heap.size (fun k_ => some k_ ≠ (u3 : Value).ownBlock ∧ some k_ ≠ ((.slice Ao14 x4_2.length co14) : Value).ownBlock) u8 x8_12) ∧ Aside0 (Below w.heap.size w wc))
                    case first =>
                      have H := HC22.out
                      clear HC22
                      by_cases c23 : x9_12 = 0
                      · rw [if_pos c23] at H
                        have c23b0 : (x9_12 == 0) = true := beq_iff_eq.mpr c23
                        have c23b1 : (x9_12 != 0) = false := bne_eq_false_iff_eq.mpr c23
                        clear c23
                        (first | rw [c23b0] | (simp only [i64_w, i32_w]; rw [c23b0]) | skip)
                        by_cases c24 : (x8_12.length : Int) < 1
                        · rw [if_pos c24] at H
                          have c24b0 : decide ((x8_12.length : Int) < 1) = true := decide_eq_true c24
                          have c24b1 : decide (x8_12.length < 1) = true := decide_eq_true (by omega)
                          clear c24
                          have H' := Aside0.mk H
                          clear H
                          obtain ⟨Ao25, co25, eo25⟩ := Kd.N_slice HO_8.out
                          subst eo25
                          go_wp2
                          go_meet
                          case rel => exact ⟨_, (true), (by first | rfl | (simp; done) | (simp [*]; done)), H', ⟨by have := HJ1.out; have := HK2.out; have := HJ12.out; first | omega | exact Nat.le_refl _⟩, ⟨by (with_reducible repeat (first | apply Kd.N_alloc | apply Kd.N_drewN | apply Kd.N_drew)); exact HO_3.out⟩, ⟨by (with_reducible repeat (first | apply Kd.R_alloc | apply Kd.R_drewN | apply Kd.R_drew)); exact HO_4.out⟩, ⟨by (with_reducible repeat (first | apply Kd.N_alloc | apply Kd.N_drewN | apply Kd.N_drew)); exact HO_8.out⟩, ⟨by repeat (first | (with_reducible first | exact HB.out | apply below_alloc | apply pw_below_drewN | apply below_drew1) | exact HB.out)⟩⟩
                        · rw [if_neg c24] at H
                          have c24b0 : decide ((x8_12.length : Int) < 1) = false := decide_eq_false c24
                          have c24b1 : decide (x8_12.length < 1) = false := decide_eq_false (by omega)
                          clear c24
                          have H' := Aside0.mk H
                          clear H
                          obtain ⟨Ao26, co26, eo26⟩ := Kd.N_slice HO_8.out
                          subst eo26
                          go_wp2
                          go_meet
                          case rel => exact ⟨_, (decide ((x8_12.length : Int) > 2)), (by first | rfl | (simp; done) | (simp [*]; done)), H', ⟨by have := HJ1.out; have := HK2.out; have := HJ12.out; first | omega | exact Nat.le_refl _⟩, ⟨by (with_reducible repeat (first | apply Kd.N_alloc | apply Kd.N_drewN | apply Kd.N_drew)); exact HO_3.out⟩, ⟨by (with_reducible repeat (first | apply Kd.R_alloc | apply Kd.R_drewN | apply Kd.R_drew)); exact HO_4.out⟩, ⟨by (with_reducible repeat (first | apply Kd.N_alloc | apply Kd.N_drewN | apply Kd.N_drew)); exact HO_8.out⟩, ⟨by repeat (first | (with_reducible first | exact HB.out | apply below_alloc | apply pw_below_drewN | apply below_drew1) | exact HB.out)⟩⟩
                      · rw [if_neg c23] at H
                        have c23b0 : (x9_12 == 0) = false := beq_eq_false_iff_ne.mpr c23
                        have c23b1 : (x9_12 != 0) = true := bne_iff_ne.mpr c23
                        (first | rw [c23b0] | (simp only [i64_w, i32_w]; rw [c23b0]) | skip)
                        have H' := Aside0.mk H
                        clear H
                        go_wp2
                        go_meet
                        case rel => exact ⟨_, (true), (by first | rfl | (simp; done) | (simp [*]; done)), H', ⟨by have := HJ1.out; have := HK2.out; have := HJ12.out; first | omega | exact Nat.le_refl _⟩, ⟨by (with_reducible repeat (first | apply Kd.N_alloc | apply Kd.N_drewN | apply Kd.N_drew)); exact HO_3.out⟩, ⟨by (with_reducible repeat (first | apply Kd.R_alloc | apply Kd.R_drewN | apply Kd.R_drew)); exact HO_4.out⟩, ⟨by (with_reducible repeat (first | apply Kd.N_alloc | apply Kd.N_drewN | apply Kd.N_drew)); exact HO_8.out⟩, ⟨by repeat (first | (with_reducible first | exact HB.out | apply below_alloc | apply pw_below_drewN | apply below_drew1) | exact HB.out)⟩⟩
                    case rest =>
                      clear HC22
                      try clear c1
                      try clear c2
                      try clear p2
                      try clear c4
                      try clear p4
                      try clear q4
                      try clear hx4
                      try clear c6
                      try clear p6
                      try clear c7
                      try clear c8
                      try clear c9
                      try clear c10
                      try clear c10b0
                      try clear c11
                      try clear c11b0
                      try clear c15
                      try clear c16
                      try clear c23
                      try clear c23b0
                      try clear c23b1
                      try clear c24
                      try clear c24b0
                      try clear c24b1
                      try clear c26
                      try clear hx417_0
                      try clear p2
                      try clear p4
                      try clear p417
                      try clear p6
                      try clear q4
                      try clear q417
                      obtain ⟨kq, x61_21, rfl, HA, HJ21, HO_3, HO_4, HO_8, HB⟩ := hcut
                      cases kq with
                      | zero => exact absurd HA.out (by simp [cobweblaw10_ChunkActs.j3])
                      | succ kj21 =>
                        have H := HA.out
                        clear HA
                        simp only [cobweblaw10_ChunkActs.j3] at H
                        by_cases c27 : x61_21 = true
                        · subst c27
                          have H1 : (some false) = some r := by rw [if_pos rfl] at H; exact H
                          clear H
                          have H := H1
                          clear H1
                          obtain rfl := Option.some.inj H
                          go_wp2
                          go_ret
                          exact ⟨by first | rfl | (simp [errW_none, errW_some] <;> rfl) | (simp [*, errW_none, errW_some] <;> rfl), by repeat (first | (with_reducible first | exact HB.out | apply below_alloc | apply pw_below_drewN | apply below_drew1) | exact HB.out)⟩
                        · replace c27 := Bool.eq_false_iff.mpr c27
                          subst c27
                          have H1 : ((chunk_Apply.f x3_2 x8_12).bind fun t427 => (cobweblaw10_ChunkActs.l1 kj21 l0 t427 x4_2 x5_2 (Int.tmod (wrap64 ((Int.tmod (rd l0 x5_2) 64) + 64)) 64) ([] : List Int) t418 0)) = some r := by rw [if_neg (show ¬ (false = true) by decide)] at H; exact H
                          clear H
                          have H := H1
                          clear H1
                          replace H := Option.bind_eq_some_iff.mp H
                          obtain ⟨t427, A280, H⟩ := H
                          replace H : (cobweblaw10_ChunkActs.l1 kj21 l0 t427 x4_2 x5_2 (Int.tmod (wrap64 ((Int.tmod (rd l0 x5_2) 64) + 64)) 64) ([] : List Int) t418 0) = some r := H
                          have A28 := Aside0.mk A280
                          clear A280
                          have H' := Aside0.mk H
                          clear H
                          obtain ⟨Ao29, co29, eo29⟩ := Kd.N_slice HO_3.out
                          subst eo29
                          obtain ⟨Ao30, co30, eo30⟩ := Kd.N_slice HO_8.out
                          subst eo30
                          go_wp2_with (first | ((with_reducible refine gate_callee (f := 10) rfl ?_); refine goesL_ (some 64) rfl rfl Try.func10 (by kernel_rfl) rfl #[.slice Ao29 x3_2.length co29, .slice Ao30 x8_12.length co30] rfl (by (try simp only [List.map_toArray, List.map_cons, List.map_nil]); first | done | rfl | (simp only [List.length_drop, List.length_take]; rfl)) ?_; (with_reducible refine (chunk_Apply.calls _ _ x3_2 _ _ x8_12 t427 _ ?side1 ?side2 ?side3 ?side4 A28.out).mono ?_); (case side1 => repeat (first | exact (Kd.N_reads' HO_3.out).2.2 | (with_reducible refine Kd.C_alloc ?_ _) | (with_reducible refine Kd.C_drewN ?_ _) | (with_reducible refine Kd.C_drew ?_))); (case side2 => exact (Kd.N_reads' HO_3.out).2.1); (case side3 => repeat (first | exact (Kd.N_reads' HO_8.out).2.2 | (with_reducible refine Kd.C_alloc ?_ _) | (with_reducible refine Kd.C_drewN ?_ _) | (with_reducible refine Kd.C_drew ?_))); (case side4 => exact (Kd.N_reads' HO_8.out).2.1); rintro e w31 ⟨v428, rfl, ho0, hb⟩; refine ⟨_, rfl, ?_⟩; have n0_ := Aside0.mk (Kd.N_elder' (by (with_reducible repeat (first | apply Kd.N_alloc | apply Kd.N_drewN | apply Kd.N_drew)); exact HO_3.out) (Kd.N_base ho0) hb); have n1_ := Aside0.mk (Kd.R_below (by (with_reducible repeat (first | apply Kd.R_alloc | apply Kd.R_drewN | apply Kd.R_drew)); exact HO_4.out) hb); have n2_ := Aside0.mk (Kd.N_elder' (by (with_reducible repeat (first | apply Kd.N_alloc | apply Kd.N_drewN | apply Kd.N_drew)); exact HO_8.out) (Kd.N_base ho0) hb); have n3_ := Aside0.mk (Kd.N_lower (Kd.N_mono (ok' := fun k_ => some k_ ≠ (.slice Ao29 x3_2.length co29 : Value).ownBlock ∧ some k_ ≠ (.slice Ao14 x4_2.length co14 : Value).ownBlock ∧ some k_ ≠ (.slice Ao30 x8_12.length co30 : Value).ownBlock) ho0 (fun k_ hk_ => ⟨(Kd.fresh' (Kd.N_lt (by (with_reducible repeat (first | apply Kd.N_alloc | apply Kd.N_drewN | apply Kd.N_drew)); exact HO_3.out)) k_ hk_), (Kd.fresh' (Kd.R_lt (by (with_reducible repeat (first | apply Kd.R_alloc | apply Kd.R_drewN | apply Kd.R_drew)); exact HO_4.out)) k_ hk_), (Kd.fresh' (Kd.N_lt (by (with_reducible repeat (first | apply Kd.N_alloc | apply Kd.N_drewN | apply Kd.N_drew)); exact HO_8.out)) k_ hk_)⟩)) (below_size (by repeat (first | (with_reducible first | exact HB.out | apply below_alloc | apply pw_below_drewN | apply below_drew1) | exact HB.out)))); have n4_ := Aside0.mk (below_step (by repeat (first | (with_reducible first | exact HB.out | apply below_alloc | apply pw_below_drewN | apply below_drew1) | exact HB.out)) hb); clear HO_3; clear HO_4; clear HO_8; clear HB; have HO_3 := n0_; have HO_4 := n1_; have HO_8 := n2_; have HO429 := n3_; have HB := n4_; clear n0_ n1_ n2_ n3_ n4_; (try clear hb); (try clear hb2); (try clear hk); (try clear hi); (try clear ho0)))
                          go_loopg [10, 11, 12] kj21 (fun kq v10 v11 v12 w' => ∃ (x10_5 : List Int) (x11_5 : Bool) (x12_5 : Int), v11 = .bool x11_5 ∧ v12 = .int .i64 x12_5 ∧ Aside0 (cobweblaw10_ChunkActs.l1 kq l0 t427 x4_2 x5_2 (Int.tmod (wrap64 ((Int.tmod (rd l0 x5_2) 64) + 64)) 64) x10_5 x11_5 x12_5 = some r) ∧ Aside0 (kq ≤ kj21) ∧ Aside0 (Kd.N k39 39 w' w.heap.size (fun k_ => some k_ ≠ ((.slice Ao14 x4_2.length co14) : Value).ownBlock ∧ some k_ ≠ (v10 : Value).ownBlock) v428 t427) ∧ Aside0 (Kd.R (Kd.int .i64) 3 w' w.heap.size (fun k_ => some k_ ≠ (v10 : Value).ownBlock) (.slice Ao14 x4_2.length co14) x4_2) ∧ Aside0 (Kd.R (Kd.int .i64) 3 w' w.heap.size (fun k_ => some k_ ≠ ((.slice Ao14 x4_2.length co14) : Value).ownBlock) v10 x10_5) ∧ Aside0 (Below w.heap.size w w'))
                          case atStart => exact ⟨(([] : List Int)), (t418), (0), (by first | rfl | (simp; done) | (simp [*]; done)), (by first | rfl | (simp; done) | (simp [*]; done)), H', ⟨Nat.le_refl _⟩, ⟨by (with_reducible repeat (first | apply Kd.N_alloc | apply Kd.N_drewN | apply Kd.N_drew)); exact Kd.N_mono HO429.out (fun _ hk => ⟨hk.2.1, (by simp [Value.ownBlock])⟩)⟩, ⟨by (with_reducible repeat (first | apply Kd.R_alloc | apply Kd.R_drewN | apply Kd.R_drew)); exact Kd.R_mono HO_4.out (fun _ hk => (by simp [Value.ownBlock]))⟩, ⟨by first | exact Kd.R_nil _ _ _ _ _ | exact Kd.N_nil _ _ _ _ _ | exact Kd.V_nil _ _ _ _ _ | exact Kd.Q_nil _ _ _ _ _ | exact Kd.S_nil _ _ _ _ _⟩, ⟨by repeat (first | (with_reducible first | exact HB.out | apply below_alloc | apply pw_below_drewN | apply below_drew1) | exact HB.out)⟩⟩
                          case round =>
                            clear H'
                            try clear c1
                            try clear c2
                            try clear p2
                            try clear c4
                            try clear p4
                            try clear q4
                            try clear hx4
                            try clear c6
                            try clear p6
                            try clear c7
                            try clear c8
                            try clear c9
                            try clear c10
                            try clear c10b0
                            try clear c11
                            try clear c11b0
                            try clear c15
                            try clear c16
                            try clear c23
                            try clear c23b0
                            try clear c23b1
                            try clear c24
                            try clear c24b0
                            try clear c24b1
                            try clear c26
                            try clear c27
                            try clear hx417_0
                            try clear p2
                            try clear p4
                            try clear p417
                            try clear p6
                            try clear q4
                            try clear q417
                            obtain ⟨x10_5, x11_5, x12_5, rfl, rfl, HA, HK5, HO_3, HO_4, HO_10, HB⟩ := hrel
                            cases gk with
                            | zero => exact absurd HA.out (by simp [cobweblaw10_ChunkActs.l1])
                            | succ k5 =>
                              have H := HA.out
                              clear HA
                              simp only [cobweblaw10_ChunkActs.l1] at H
                              by_cases c32 : x12_5 < (x4_2.length : Int)
                              · rw [if_pos c32] at H
                                have c32b0 : decide (x12_5 < (x4_2.length : Int)) = true := decide_eq_true c32
                                clear c32
                                have HC33 := Aside0.mk H
                                clear H
                                go_upto_region 23 with (fail)
                                go_cut [81] (fun v81 wc => ∃ (kq : Nat) (x81_32 : Bool), v81 = .bool x81_32 ∧ Aside0 (cobweblaw10_ChunkActs.j5 kq l0 t427 x4_2 x5_2 (Int.tmod (wrap64 ((Int.tmod (rd l0 x5_2) 64) + 64)) 64) x10_5 x11_5 x12_5 x81_32 = some r) ∧ Aside0 (kq ≤ k5) ∧ Aside0 (Kd.N k39 39 wc w.heap.size (fun k_ => some k_ ≠ ((.slice Ao14 x4_2.length co14) : Value).ownBlock ∧ some k_ ≠ (u10 : Value).ownBlock) v428 t427) ∧ Aside0 (Kd.R (Kd.int .i64) 3 wc w.heap.size (fun k_ => some k_ ≠ (u10 : Value).ownBlock) (.slice Ao14 x4_2.length co14) x4_2) ∧ Aside0 (Kd.R (Kd.int .i64) 3 wc w.heap.size (fun k_ => some k_ ≠ ((.slice Ao14 x4_2.length co14) : Value).ownBlock) u10 x10_5) ∧ Aside0 (Below w.heap.size w wc))
                                case first =>
                                  have H := HC33.out
                                  clear HC33
                                  by_cases c34 : 0 ≤ x12_5
                                  · rw [if_pos c34] at H
                                    have c34b0 : decide (0 ≤ x12_5) = true := decide_eq_true c34
                                    clear c34
                                    (first | rw [c34b0] | (simp only [i64_w, i32_w]; rw [c34b0]) | skip)
                                    by_cases c35 : (rd x4_2 x12_5) > (Int.tmod (wrap64 ((Int.tmod (rd l0 x5_2) 64) + 64)) 64)
                                    · rw [if_pos c35] at H
                                      have c35b0 : decide ((Int.tmod (wrap64 ((Int.tmod (rd l0 x5_2) 64) + 64)) 64) < (rd x4_2 x12_5)) = true := decide_eq_true c35
                                      clear c35
                                      have H' := Aside0.mk H
                                      clear H
                                      have p430 : 0 ≤ (x12_5 : Int) := of_decide_eq_true (by first | (with_reducible assumption) | assumption)
                                      have q430 : x12_5 < (x4_2.length : Int) := of_decide_eq_true (by first | (with_reducible assumption) | assumption)
                                      obtain ⟨ad430, e430, hx430_0⟩ := Kd.at_int (Kd.R_reads' HO_4.out).2.2 x12_5 p430 q430
                                      cases e430
                                      replace p430 := eq_true p430
                                      replace q430 := eq_true q430
                                      go_wp2
                                      go_meet
                                      case rel => exact ⟨_, (!x11_5), (by first | rfl | (simp; done) | (simp [*]; done)), H', ⟨by have := HJ1.out; have := HK2.out; have := HJ12.out; have := HJ21.out; have := HK5.out; first | omega | exact Nat.le_refl _⟩, ⟨by (with_reducible repeat (first | apply Kd.N_alloc | apply Kd.N_drewN | apply Kd.N_drew)); exact HO_3.out⟩, ⟨by (with_reducible repeat (first | apply Kd.R_alloc | apply Kd.R_drewN | apply Kd.R_drew)); exact HO_4.out⟩, ⟨by (with_reducible repeat (first | apply Kd.R_alloc | apply Kd.R_drewN | apply Kd.R_drew)); exact HO_10.out⟩, ⟨by repeat (first | (with_reducible first | exact HB.out | apply below_alloc | apply pw_below_drewN | apply below_drew1) | exact HB.out)⟩⟩
                                    · rw [if_neg c35] at H
                                      have c35b0 : decide ((Int.tmod (wrap64 ((Int.tmod (rd l0 x5_2) 64) + 64)) 64) < (rd x4_2 x12_5)) = false := decide_eq_false c35
                                      clear c35
                                      have H' := Aside0.mk H
                                      clear H
                                      have p430 : 0 ≤ (x12_5 : Int) := of_decide_eq_true (by first | (with_reducible assumption) | assumption)
                                      have q430 : x12_5 < (x4_2.length : Int) := of_decide_eq_true (by first | (with_reducible assumption) | assumption)
                                      obtain ⟨ad430, e430, hx430_0⟩ := Kd.at_int (Kd.R_reads' HO_4.out).2.2 x12_5 p430 q430
                                      cases e430
                                      replace p430 := eq_true p430
                                      replace q430 := eq_true q430
                                      go_wp2
                                      go_meet
                                      case rel => exact ⟨_, (false), (by first | rfl | (simp; done) | (simp [*]; done)), H', ⟨by have := HJ1.out; have := HK2.out; have := HJ12.out; have := HJ21.out; have := HK5.out; first | omega | exact Nat.le_refl _⟩, ⟨by (with_reducible repeat (first | apply Kd.N_alloc | apply Kd.N_drewN | apply Kd.N_drew)); exact HO_3.out⟩, ⟨by (with_reducible repeat (first | apply Kd.R_alloc | apply Kd.R_drewN | apply Kd.R_drew)); exact HO_4.out⟩, ⟨by (with_reducible repeat (first | apply Kd.R_alloc | apply Kd.R_drewN | apply Kd.R_drew)); exact HO_10.out⟩, ⟨by repeat (first | (with_reducible first | exact HB.out | apply below_alloc | apply pw_below_drewN | apply below_drew1) | exact HB.out)⟩⟩
                                  · rw [if_neg c34] at H
                                    exact absurd H (by simp)
                                case rest =>
                                  clear HC33
                                  try clear c1
                                  try clear c2
                                  try clear p2
                                  try clear c3
                                  try clear c4
                                  try clear p4
                                  try clear q4
                                  try clear hx4
                                  try clear c6
                                  try clear p6
                                  try clear c7
                                  try clear c8
                                  try clear c9
                                  try clear c10
                                  try clear c10b0
                                  try clear c11
                                  try clear c11b0
                                  try clear c15
                                  try clear c16
                                  try clear c23
                                  try clear c23b0
                                  try clear c23b1
                                  try clear c24
                                  try clear c24b0
                                  try clear c24b1
                                  try clear c26
                                  try clear c27
                                  try clear c32
                                  try clear c32b0
                                  try clear c34
                                  try clear c34b0
                                  try clear c35
                                  try clear c35b0
                                  try clear hx417_0
                                  try clear hx430_0
                                  try clear p2
                                  try clear p4
                                  try clear p417
                                  try clear p430
                                  try clear p6
                                  try clear q4
                                  try clear q417
                                  try clear q430
                                  obtain ⟨kq, x81_32, rfl, HA, HJ32, HO_3, HO_4, HO_10, HB⟩ := hcut
                                  cases kq with
                                  | zero => exact absurd HA.out (by simp [cobweblaw10_ChunkActs.j5])
                                  | succ kj32 =>
                                    have H := HA.out
                                    clear HA
                                    simp only [cobweblaw10_ChunkActs.j5] at H
                                    by_cases c36 : x81_32 = true
                                    · subst c36
                                      have H1 : (if x10_5.length < 17592186044416 then ((some (x10_5 ++ [(Int.tmod (wrap64 ((Int.tmod (rd l0 x5_2) 64) + 64)) 64)] : List Int)).bind fun y431 => (if 0 ≤ x12_5 then (if x12_5 < (x4_2.length : Int) then (if (rd x4_2 x12_5) = (Int.tmod (wrap64 ((Int.tmod (rd l0 x5_2) 64) + 64)) 64) then (cobweblaw10_ChunkActs.l1 kj32 l0 t427 x4_2 x5_2 (Int.tmod (wrap64 ((Int.tmod (rd l0 x5_2) 64) + 64)) 64) y431 true (wrap64 (x12_5 + 1))) else (if y431.length < 17592186044416 then (cobweblaw10_ChunkActs.l1 kj32 l0 t427 x4_2 x5_2 (Int.tmod (wrap64 ((Int.tmod (rd l0 x5_2) 64) + 64)) 64) (y431 ++ [rd x4_2 x12_5]) true (wrap64 (x12_5 + 1))) else (none))) else (none)) else (none))) else (none)) = some r := by rw [if_pos rfl] at H; exact H
                                      clear H
                                      have H := H1
                                      clear H1
                                      by_cases c37 : x10_5.length < 17592186044416
                                      · rw [if_pos c37] at H
                                        have LMc37 := Aside0.mk c37
                                        clear c37
                                        obtain ⟨y431, hy431⟩ : ∃ y_ : List Int, y_ = (x10_5 ++ [(Int.tmod (wrap64 ((Int.tmod (rd l0 x5_2) 64) + 64)) 64)]) := ⟨_, rfl⟩
                                        replace H : (if 0 ≤ x12_5 then (if x12_5 < (x4_2.length : Int) then (if (rd x4_2 x12_5) = (Int.tmod (wrap64 ((Int.tmod (rd l0 x5_2) 64) + 64)) 64) then (cobweblaw10_ChunkActs.l1 kj32 l0 t427 x4_2 x5_2 (Int.tmod (wrap64 ((Int.tmod (rd l0 x5_2) 64) + 64)) 64) y431 true (wrap64 (x12_5 + 1))) else (if y431.length < 17592186044416 then (cobweblaw10_ChunkActs.l1 kj32 l0 t427 x4_2 x5_2 (Int.tmod (wrap64 ((Int.tmod (rd l0 x5_2) 64) + 64)) 64) (y431 ++ [rd x4_2 x12_5]) true (wrap64 (x12_5 + 1))) else (none))) else (none)) else (none)) = some r := by first | (rw [hy431]; with_reducible exact H) | (have H2_ := (Option.bind_some _ _).symm.trans H; rw [hy431]; with_reducible exact H2_) | (have H2_ := (Option.bind_some _ _).symm.trans H; with_reducible exact H2_) | with_reducible exact H | (rw [hy431]; exact H) | exact H
                                        have Ny431 := Aside0.mk hy431
                                        clear hy431
                                        by_cases c38 : 0 ≤ x12_5
                                        · rw [if_pos c38] at H
                                          have c38b0 : decide (0 ≤ x12_5) = true := decide_eq_true c38
                                          clear c38
                                          by_cases c39 : x12_5 < (x4_2.length : Int)
                                          · rw [if_pos c39] at H
                                            have c39b0 : decide (x12_5 < (x4_2.length : Int)) = true := decide_eq_true c39
                                            clear c39
                                            by_cases c40 : (rd x4_2 x12_5) = (Int.tmod (wrap64 ((Int.tmod (rd l0 x5_2) 64) + 64)) 64)
                                            · rw [if_pos c40] at H
                                              have c40b0 : ((rd x4_2 x12_5) == (Int.tmod (wrap64 ((Int.tmod (rd l0 x5_2) 64) + 64)) 64)) = true := beq_iff_eq.mpr c40
                                              have c40b1 : ((rd x4_2 x12_5) != (Int.tmod (wrap64 ((Int.tmod (rd l0 x5_2) 64) + 64)) 64)) = false := bne_eq_false_iff_eq.mpr c40
                                              clear c40
                                              have H' := Aside0.mk H
                                              clear H
                                              go_wp2_with (first | ((with_reducible refine gate_builtin (b := .append) (xs := #[.tmp 82, .tmp 84]) rfl ?_); (try (refine gate_guard (by rfl) ?_; dsimp only)); at_builtin; refine Kd.R_append (Kd.int .i64) (w0 := w) w.heap.size rfl (.tmp 82) (.tmp 84) 22 3 (.int .i64 0) 8 rfl Try.underlying22 info3 rfl (by decide) (by omega) u10 x10_5 (Int.tmod (wrap64 ((Int.tmod (rd l0 x5_2) 64) + 64)) 64) [.int .i64 (Int.tmod (wrap64 ((Int.tmod (rd l0 x5_2) 64) + 64)) 64)] (fun k_ => some k_ ≠ (.slice Ao14 x4_2.length co14 : Value).ownBlock) (fun _ => False) rfl rfl ?aP (fun _ hk => hk.elim) ?aF ?aO ?aB ?aS ?aL ?_; (case aP => exact rfl); (case aB => exact (by repeat (first | (with_reducible first | exact HB.out | apply below_alloc | apply pw_below_drewN | apply below_drew1) | exact HB.out))); (case aF => exact (fun k_ hk => Kd.fresh' (Kd.R_lt (by (with_reducible repeat (first | apply Kd.R_alloc | apply Kd.R_drewN | apply Kd.R_drew)); exact HO_4.out)) k_ hk)); (case aO => exact (by (with_reducible repeat (first | apply Kd.R_alloc | apply Kd.R_drewN | apply Kd.R_drew)); exact HO_10.out)); (case aS => exact (below_size (by repeat (first | (with_reducible first | exact HB.out | apply below_alloc | apply pw_below_drewN | apply below_drew1) | exact HB.out)))); (case aL => have := LMc37.out; omega); intro v432 w41 ho hb hg hat; rw [← Ny431.out] at ho; have n0_ := Aside0.mk (Kd.N_afterv (ok := (fun k_ => some k_ ≠ (.slice Ao14 x4_2.length co14 : Value).ownBlock)) (by (with_reducible repeat (first | apply Kd.N_alloc | apply Kd.N_drewN | apply Kd.N_drew)); exact HO_3.out) hg hat); have n1_ := Aside0.mk (Kd.R_after (ok := (fun _ => True)) (by (with_reducible repeat (first | apply Kd.R_alloc | apply Kd.R_drewN | apply Kd.R_drew)); exact Kd.R_mono HO_4.out (fun _ hk => ⟨trivial, hk⟩)) hg hat); have n2_ := Aside0.mk (hb); have n3_ := Aside0.mk (ho); clear HO_3; clear HO_4; clear HB; clear HO_10; have HO_3 := n0_; have HO_4 := n1_; have HB := n2_; have HO433 := n3_; clear n0_ n1_ n2_ n3_; clear ho hb hg hat; have p434 : 0 ≤ (x12_5 : Int) := of_decide_eq_true (by first | (with_reducible assumption) | assumption); have q434 : x12_5 < (x4_2.length : Int) := of_decide_eq_true (by first | (with_reducible assumption) | assumption); obtain ⟨ad434, e434, hx434_0⟩ := Kd.at_int (Kd.R_reads' HO_4.out).2.2 x12_5 p434 q434; cases e434; replace p434 := eq_true p434; replace q434 := eq_true q434))
                                              go_roundg kj32
                                              case measure => have := HJ1.out; have := HK2.out; have := HJ12.out; have := HJ21.out; have := HK5.out; have := HJ32.out; omega
                                              case rel => exact ⟨(y431), (true), (wrap64 (x12_5 + 1)), (by first | rfl | (simp; done) | (simp [*]; done)), (by first | rfl | (simp; done) | (simp [*]; done)), H', ⟨by have := HJ1.out; have := HK2.out; have := HJ12.out; have := HJ21.out; have := HK5.out; have := HJ32.out; omega⟩, ⟨by (with_reducible repeat (first | apply Kd.N_alloc | apply Kd.N_drewN | apply Kd.N_drew)); exact HO_3.out⟩, ⟨by (with_reducible repeat (first | apply Kd.R_alloc | apply Kd.R_drewN | apply Kd.R_drew)); exact Kd.R_mono HO_4.out (fun _ hk => hk.2)⟩, ⟨by (with_reducible repeat (first | apply Kd.R_alloc | apply Kd.R_drewN | apply Kd.R_drew)); exact HO433.out⟩, ⟨by repeat (first | (with_reducible first | exact HB.out | apply below_alloc | apply pw_below_drewN | apply below_drew1) | exact HB.out)⟩⟩
                                            · rw [if_neg c40] at H
                                              have c40b0 : ((rd x4_2 x12_5) == (Int.tmod (wrap64 ((Int.tmod (rd l0 x5_2) 64) + 64)) 64)) = false := beq_eq_false_iff_ne.mpr c40
                                              have c40b1 : ((rd x4_2 x12_5) != (Int.tmod (wrap64 ((Int.tmod (rd l0 x5_2) 64) + 64)) 64)) = true := bne_iff_ne.mpr c40
                                              by_cases c42 : y431.length < 17592186044416
                                              · rw [if_pos c42] at H
                                                have LMc42 := Aside0.mk c42
                                                clear c42
                                                obtain ⟨y436, hy436⟩ : ∃ y_ : List Int, y_ = (y431 ++ [rd x4_2 x12_5]) := ⟨_, rfl⟩
                                                replace H : (cobweblaw10_ChunkActs.l1 kj32 l0 t427 x4_2 x5_2 (Int.tmod (wrap64 ((Int.tmod (rd l0 x5_2) 64) + 64)) 64) y436 true (wrap64 (x12_5 + 1))) = some r := by first | (rw [hy436]; with_reducible exact H) | (have H2_ := (Option.bind_some _ _).symm.trans H; rw [hy436]; with_reducible exact H2_) | (have H2_ := (Option.bind_some _ _).symm.trans H; with_reducible exact H2_) | with_reducible exact H | (rw [hy436]; exact H) | exact H
                                                have Ny436 := Aside0.mk hy436
                                                clear hy436
                                                have H' := Aside0.mk H
                                                clear H
                                                go_wp2_with (first | ((with_reducible refine gate_builtin (b := .append) (xs := #[.tmp 82, .tmp 84]) rfl ?_); (try (refine gate_guard (by rfl) ?_; dsimp only)); at_builtin; refine Kd.R_append (Kd.int .i64) (w0 := w) w.heap.size rfl (.tmp 82) (.tmp 84) 22 3 (.int .i64 0) 8 rfl Try.underlying22 info3 rfl (by decide) (by omega) u10 x10_5 (Int.tmod (wrap64 ((Int.tmod (rd l0 x5_2) 64) + 64)) 64) [.int .i64 (Int.tmod (wrap64 ((Int.tmod (rd l0 x5_2) 64) + 64)) 64)] (fun k_ => some k_ ≠ (.slice Ao14 x4_2.length co14 : Value).ownBlock) (fun _ => False) rfl rfl ?aP (fun _ hk => hk.elim) ?aF ?aO ?aB ?aS ?aL ?_; (case aP => exact rfl); (case aB => exact (by repeat (first | (with_reducible first | exact HB.out | apply below_alloc | apply pw_below_drewN | apply below_drew1) | exact HB.out))); (case aF => exact (fun k_ hk => Kd.fresh' (Kd.R_lt (by (with_reducible repeat (first | apply Kd.R_alloc | apply Kd.R_drewN | apply Kd.R_drew)); exact HO_4.out)) k_ hk)); (case aO => exact (by (with_reducible repeat (first | apply Kd.R_alloc | apply Kd.R_drewN | apply Kd.R_drew)); exact HO_10.out)); (case aS => exact (below_size (by repeat (first | (with_reducible first | exact HB.out | apply below_alloc | apply pw_below_drewN | apply below_drew1) | exact HB.out)))); (case aL => have := LMc37.out; omega); intro v432 w43 ho hb hg hat; rw [← Ny431.out] at ho; have n0_ := Aside0.mk (Kd.N_afterv (ok := (fun k_ => some k_ ≠ (.slice Ao14 x4_2.length co14 : Value).ownBlock)) (by (with_reducible repeat (first | apply Kd.N_alloc | apply Kd.N_drewN | apply Kd.N_drew)); exact HO_3.out) hg hat); have n1_ := Aside0.mk (Kd.R_after (ok := (fun _ => True)) (by (with_reducible repeat (first | apply Kd.R_alloc | apply Kd.R_drewN | apply Kd.R_drew)); exact Kd.R_mono HO_4.out (fun _ hk => ⟨trivial, hk⟩)) hg hat); have n2_ := Aside0.mk (hb); have n3_ := Aside0.mk (ho); clear HO_3; clear HO_4; clear HB; clear HO_10; have HO_3 := n0_; have HO_4 := n1_; have HB := n2_; have HO433 := n3_; clear n0_ n1_ n2_ n3_; clear ho hb hg hat; have p434 : 0 ≤ (x12_5 : Int) := of_decide_eq_true (by first | (with_reducible assumption) | assumption); have q434 : x12_5 < (x4_2.length : Int) := of_decide_eq_true (by first | (with_reducible assumption) | assumption); obtain ⟨ad434, e434, hx434_0⟩ := Kd.at_int (Kd.R_reads' HO_4.out).2.2 x12_5 p434 q434; cases e434; replace p434 := eq_true p434; replace q434 := eq_true q434; have p435 : 0 ≤ (x12_5 : Int) := of_decide_eq_true (by first | (with_reducible assumption) | assumption); have q435 : x12_5 < (x4_2.length : Int) := of_decide_eq_true (by first | (with_reducible assumption) | assumption); obtain ⟨ad435, e435, hx435_0⟩ := Kd.at_int (Kd.R_reads' HO_4.out).2.2 x12_5 p435 q435; obtain rfl : ad434 = ad435 := (by injection e435); replace p435 := eq_true p435; replace q435 := eq_true q435) | ((with_reducible refine gate_builtin (b := .append) (xs := #[.tmp 92, .tmp 97]) rfl ?_); (try (refine gate_guard (by rfl) ?_; dsimp only)); at_builtin; refine Kd.R_append (Kd.int .i64) (w0 := w) w.heap.size rfl (.tmp 92) (.tmp 97) 22 3 (.int .i64 0) 8 rfl Try.underlying22 info3 rfl (by decide) (by omega) v432 y431 (rd x4_2 x12_5) [.int .i64 (rd x4_2 x12_5)] (fun k_ => some k_ ≠ (.slice (some ad434) x4_2.length co14 : Value).ownBlock) (fun _ => False) rfl rfl ?aP (fun _ hk => hk.elim) ?aF ?aO ?aB ?aS ?aL ?_; (case aP => exact rfl); (case aB => exact (by repeat (first | (with_reducible first | exact HB.out | apply below_alloc | apply pw_below_drewN | apply below_drew1) | exact HB.out))); (case aF => exact (fun k_ hk => Kd.fresh' (Kd.R_lt (by (with_reducible repeat (first | apply Kd.R_alloc | apply Kd.R_drewN | apply Kd.R_drew)); exact HO_4.out)) k_ hk)); (case aO => exact (by (with_reducible repeat (first | apply Kd.R_alloc | apply Kd.R_drewN | apply Kd.R_drew)); exact HO433.out)); (case aS => exact (below_size (by repeat (first | (with_reducible first | exact HB.out | apply below_alloc | apply pw_below_drewN | apply below_drew1) | exact HB.out)))); (case aL => have := LMc42.out; omega); intro v437 w44 ho hb hg hat; rw [← Ny436.out] at ho; have n0_ := Aside0.mk (Kd.N_afterv (ok := (fun k_ => some k_ ≠ (.slice (some ad434) x4_2.length co14 : Value).ownBlock)) (by (with_reducible repeat (first | apply Kd.N_alloc | apply Kd.N_drewN | apply Kd.N_drew)); exact HO_3.out) hg hat); have n1_ := Aside0.mk (Kd.R_after (ok := (fun _ => True)) (by (with_reducible repeat (first | apply Kd.R_alloc | apply Kd.R_drewN | apply Kd.R_drew)); exact HO_4.out) hg hat); have n2_ := Aside0.mk (hb); have n3_ := Aside0.mk (ho); clear HO_3; clear HO_4; clear HB; clear HO433; have HO_3 := n0_; have HO_4 := n1_; have HB := n2_; have HO438 := n3_; clear n0_ n1_ n2_ n3_; clear ho hb hg hat))
                                                go_roundg kj32
                                                case measure => have := HJ1.out; have := HK2.out; have := HJ12.out; have := HJ21.out; have := HK5.out; have := HJ32.out; omega
                                                case rel => exact ⟨(y436), (true), (wrap64 (x12_5 + 1)), (by first | rfl | (simp; done) | (simp [*]; done)), (by first | rfl | (simp; done) | (simp [*]; done)), H', ⟨by have := HJ1.out; have := HK2.out; have := HJ12.out; have := HJ21.out; have := HK5.out; have := HJ32.out; omega⟩, ⟨by (with_reducible repeat (first | apply Kd.N_alloc | apply Kd.N_drewN | apply Kd.N_drew)); exact HO_3.out⟩, ⟨by (with_reducible repeat (first | apply Kd.R_alloc | apply Kd.R_drewN | apply Kd.R_drew)); exact Kd.R_mono HO_4.out (fun _ hk => hk.2)⟩, ⟨by (with_reducible repeat (first | apply Kd.R_alloc | apply Kd.R_drewN | apply Kd.R_drew)); exact HO438.out⟩, ⟨by repeat (first | (with_reducible first | exact HB.out | apply below_alloc | apply pw_below_drewN | apply below_drew1) | exact HB.out)⟩⟩
                                              · rw [if_neg c42] at H
                                                exact absurd H (by simp)
                                          · rw [if_neg c39] at H
                                            exact absurd H (by simp)
                                        · rw [if_neg c38] at H
                                          exact absurd H (by simp)
                                      · rw [if_neg c37] at H
                                        exact absurd H (by simp)
                                    · replace c36 := Bool.eq_false_iff.mpr c36
                                      subst c36
                                      have H1 : (if 0 ≤ x12_5 then (if x12_5 < (x4_2.length : Int) then (if (rd x4_2 x12_5) = (Int.tmod (wrap64 ((Int.tmod (rd l0 x5_2) 64) + 64)) 64) then (cobweblaw10_ChunkActs.l1 kj32 l0 t427 x4_2 x5_2 (Int.tmod (wrap64 ((Int.tmod (rd l0 x5_2) 64) + 64)) 64) x10_5 x11_5 (wrap64 (x12_5 + 1))) else (if x10_5.length < 17592186044416 then (cobweblaw10_ChunkActs.l1 kj32 l0 t427 x4_2 x5_2 (Int.tmod (wrap64 ((Int.tmod (rd l0 x5_2) 64) + 64)) 64) (x10_5 ++ [rd x4_2 x12_5]) x11_5 (wrap64 (x12_5 + 1))) else (none))) else (none)) else (none)) = some r := by rw [if_neg (show ¬ (false = true) by decide)] at H; exact H
                                      clear H
                                      have H := H1
                                      clear H1
                                      by_cases c45 : 0 ≤ x12_5
                                      · rw [if_pos c45] at H
                                        have c45b0 : decide (0 ≤ x12_5) = true := decide_eq_true c45
                                        clear c45
                                        by_cases c46 : x12_5 < (x4_2.length : Int)
                                        · rw [if_pos c46] at H
                                          have c46b0 : decide (x12_5 < (x4_2.length : Int)) = true := decide_eq_true c46
                                          clear c46
                                          by_cases c47 : (rd x4_2 x12_5) = (Int.tmod (wrap64 ((Int.tmod (rd l0 x5_2) 64) + 64)) 64)
                                          · rw [if_pos c47] at H
                                            have c47b0 : ((rd x4_2 x12_5) == (Int.tmod (wrap64 ((Int.tmod (rd l0 x5_2) 64) + 64)) 64)) = true := beq_iff_eq.mpr c47
                                            have c47b1 : ((rd x4_2 x12_5) != (Int.tmod (wrap64 ((Int.tmod (rd l0 x5_2) 64) + 64)) 64)) = false := bne_eq_false_iff_eq.mpr c47
                                            clear c47
                                            have H' := Aside0.mk H
                                            clear H
                                            have p439 : 0 ≤ (x12_5 : Int) := of_decide_eq_true (by first | (with_reducible assumption) | assumption)
                                            have q439 : x12_5 < (x4_2.length : Int) := of_decide_eq_true (by first | (with_reducible assumption) | assumption)
                                            obtain ⟨ad439, e439, hx439_0⟩ := Kd.at_int (Kd.R_reads' HO_4.out).2.2 x12_5 p439 q439
                                            cases e439
                                            replace p439 := eq_true p439
                                            replace q439 := eq_true q439
                                            go_wp2
                                            go_roundg kj32
                                            case measure => have := HJ1.out; have := HK2.out; have := HJ12.out; have := HJ21.out; have := HK5.out; have := HJ32.out; omega
                                            case rel => exact ⟨(x10_5), (x11_5), (wrap64 (x12_5 + 1)), (by first | rfl | (simp; done) | (simp [*]; done)), (by first | rfl | (simp; done) | (simp [*]; done)), H', ⟨by have := HJ1.out; have := HK2.out; have := HJ12.out; have := HJ21.out; have := HK5.out; have := HJ32.out; omega⟩, ⟨by (with_reducible repeat (first | apply Kd.N_alloc | apply Kd.N_drewN | apply Kd.N_drew)); exact HO_3.out⟩, ⟨by (with_reducible repeat (first | apply Kd.R_alloc | apply Kd.R_drewN | apply Kd.R_drew)); exact HO_4.out⟩, ⟨by (with_reducible repeat (first | apply Kd.R_alloc | apply Kd.R_drewN | apply Kd.R_drew)); exact HO_10.out⟩, ⟨by repeat (first | (with_reducible first | exact HB.out | apply below_alloc | apply pw_below_drewN | apply below_drew1) | exact HB.out)⟩⟩
                                          · rw [if_neg c47] at H
                                            have c47b0 : ((rd x4_2 x12_5) == (Int.tmod (wrap64 ((Int.tmod (rd l0 x5_2) 64) + 64)) 64)) = false := beq_eq_false_iff_ne.mpr c47
                                            have c47b1 : ((rd x4_2 x12_5) != (Int.tmod (wrap64 ((Int.tmod (rd l0 x5_2) 64) + 64)) 64)) = true := bne_iff_ne.mpr c47
                                            by_cases c48 : x10_5.length < 17592186044416
                                            · rw [if_pos c48] at H
                                              have LMc48 := Aside0.mk c48
                                              clear c48
                                              obtain ⟨y441, hy441⟩ : ∃ y_ : List Int, y_ = (x10_5 ++ [rd x4_2 x12_5]) := ⟨_, rfl⟩
                                              replace H : (cobweblaw10_ChunkActs.l1 kj32 l0 t427 x4_2 x5_2 (Int.tmod (wrap64 ((Int.tmod (rd l0 x5_2) 64) + 64)) 64) y441 x11_5 (wrap64 (x12_5 + 1))) = some r := by first | (rw [hy441]; with_reducible exact H) | (have H2_ := (Option.bind_some _ _).symm.trans H; rw [hy441]; with_reducible exact H2_) | (have H2_ := (Option.bind_some _ _).symm.trans H; with_reducible exact H2_) | with_reducible exact H | (rw [hy441]; exact H) | exact H
                                              have Ny441 := Aside0.mk hy441
                                              clear hy441
                                              have H' := Aside0.mk H
                                              clear H
                                              have p439 : 0 ≤ (x12_5 : Int) := of_decide_eq_true (by first | (with_reducible assumption) | assumption)
                                              have q439 : x12_5 < (x4_2.length : Int) := of_decide_eq_true (by first | (with_reducible assumption) | assumption)
                                              obtain ⟨ad439, e439, hx439_0⟩ := Kd.at_int (Kd.R_reads' HO_4.out).2.2 x12_5 p439 q439
                                              cases e439
                                              replace p439 := eq_true p439
                                              replace q439 := eq_true q439
                                              have p440 : 0 ≤ (x12_5 : Int) := of_decide_eq_true (by first | (with_reducible assumption) | assumption)
                                              have q440 : x12_5 < (x4_2.length : Int) := of_decide_eq_true (by first | (with_reducible assumption) | assumption)
                                              obtain ⟨ad440, e440, hx440_0⟩ := Kd.at_int (Kd.R_reads' HO_4.out).2.2 x12_5 p440 q440
                                              obtain rfl : ad439 = ad440 := (by injection e440)
                                              replace p440 := eq_true p440
                                              replace q440 := eq_true q440
                                              go_wp2_with (first | ((with_reducible refine gate_builtin (b := .append) (xs := #[.tmp 92, .tmp 97]) rfl ?_); (try (refine gate_guard (by rfl) ?_; dsimp only)); at_builtin; refine Kd.R_append (Kd.int .i64) (w0 := w) w.heap.size rfl (.tmp 92) (.tmp 97) 22 3 (.int .i64 0) 8 rfl Try.underlying22 info3 rfl (by decide) (by omega) u10 x10_5 (rd x4_2 x12_5) [.int .i64 (rd x4_2 x12_5)] (fun k_ => some k_ ≠ (.slice (some ad439) x4_2.length co14 : Value).ownBlock) (fun _ => False) rfl rfl ?aP (fun _ hk => hk.elim) ?aF ?aO ?aB ?aS ?aL ?_; (case aP => exact rfl); (case aB => exact (by repeat (first | (with_reducible first | exact HB.out | apply below_alloc | apply pw_below_drewN | apply below_drew1) | exact HB.out))); (case aF => exact (fun k_ hk => Kd.fresh' (Kd.R_lt (by (with_reducible repeat (first | apply Kd.R_alloc | apply Kd.R_drewN | apply Kd.R_drew)); exact HO_4.out)) k_ hk)); (case aO => exact (by (with_reducible repeat (first | apply Kd.R_alloc | apply Kd.R_drewN | apply Kd.R_drew)); exact HO_10.out)); (case aS => exact (below_size (by repeat (first | (with_reducible first | exact HB.out | apply below_alloc | apply pw_below_drewN | apply below_drew1) | exact HB.out)))); (case aL => have := LMc48.out; omega); intro v442 w49 ho hb hg hat; rw [← Ny441.out] at ho; have n0_ := Aside0.mk (Kd.N_afterv (ok := (fun k_ => some k_ ≠ (.slice (some ad439) x4_2.length co14 : Value).ownBlock)) (by (with_reducible repeat (first | apply Kd.N_alloc | apply Kd.N_drewN | apply Kd.N_drew)); exact HO_3.out) hg hat); have n1_ := Aside0.mk (Kd.R_after (ok := (fun _ => True)) (by (with_reducible repeat (first | apply Kd.R_alloc | apply Kd.R_drewN | apply Kd.R_drew)); exact Kd.R_mono HO_4.out (fun _ hk => ⟨trivial, hk⟩)) hg hat); have n2_ := Aside0.mk (hb); have n3_ := Aside0.mk (ho); clear HO_3; clear HO_4; clear HB; clear HO_10; have HO_3 := n0_; have HO_4 := n1_; have HB := n2_; have HO443 := n3_; clear n0_ n1_ n2_ n3_; clear ho hb hg hat))
                                              go_roundg kj32
                                              case measure => have := HJ1.out; have := HK2.out; have := HJ12.out; have := HJ21.out; have := HK5.out; have := HJ32.out; omega
                                              case rel => exact ⟨(y441), (x11_5), (wrap64 (x12_5 + 1)), (by first | rfl | (simp; done) | (simp [*]; done)), (by first | rfl | (simp; done) | (simp [*]; done)), H', ⟨by have := HJ1.out; have := HK2.out; have := HJ12.out; have := HJ21.out; have := HK5.out; have := HJ32.out; omega⟩, ⟨by (with_reducible repeat (first | apply Kd.N_alloc | apply Kd.N_drewN | apply Kd.N_drew)); exact HO_3.out⟩, ⟨by (with_reducible repeat (first | apply Kd.R_alloc | apply Kd.R_drewN | apply Kd.R_drew)); exact Kd.R_mono HO_4.out (fun _ hk => hk.2)⟩, ⟨by (with_reducible repeat (first | apply Kd.R_alloc | apply Kd.R_drewN | apply Kd.R_drew)); exact HO443.out⟩, ⟨by repeat (first | (with_reducible first | exact HB.out | apply below_alloc | apply pw_below_drewN | apply below_drew1) | exact HB.out)⟩⟩
                                            · rw [if_neg c48] at H
                                              exact absurd H (by simp)
                                        · rw [if_neg c46] at H
                                          exact absurd H (by simp)
                                      · rw [if_neg c45] at H
                                        exact absurd H (by simp)
                              · rw [if_neg c32] at H
                                have c32b0 : decide (x12_5 < (x4_2.length : Int)) = false := decide_eq_false c32
                                clear c32
                                have HC50 := Aside0.mk H
                                clear H
                                go_upto_if 100 with (fail)
                                go_cut [10] (fun v10 wc => ∃ (kq : Nat) (x10_49 : List Int), Aside0 (cobweblaw10_ChunkActs.j6 kq l0 t427 x5_2 x10_49 = some r) ∧ Aside0 (kq ≤ k5) ∧ Aside0 (Kd.N k39 39 wc w.heap.size (fun k_ => some k_ ≠ (v10 : Value).ownBlock) v428 t427) ∧ Aside0 (Kd.R (Kd.int .i64) 3 wc w.heap.size (fun _ => True) v10 x10_49) ∧ Aside0 (Below w.heap.size w wc))
                                case first =>
                                  have H := HC50.out
                                  clear HC50
                                  by_cases c51 : x11_5 = true
                                  · subst c51
                                    have H1 : (cobweblaw10_ChunkActs.j6 k5 l0 t427 x5_2 x10_5) = some r := by rw [if_pos rfl] at H; exact H
                                    clear H
                                    have H := H1
                                    clear H1
                                    have H' := Aside0.mk H
                                    clear H
                                    go_wp2
                                    go_meet
                                    case rel => exact ⟨_, (x10_5), H', ⟨by have := HJ1.out; have := HK2.out; have := HJ12.out; have := HJ21.out; have := HK5.out; first | omega | exact Nat.le_refl _⟩, ⟨by (with_reducible repeat (first | apply Kd.N_alloc | apply Kd.N_drewN | apply Kd.N_drew)); exact Kd.N_mono HO_3.out (fun _ hk => hk.2)⟩, ⟨by (with_reducible repeat (first | apply Kd.R_alloc | apply Kd.R_drewN | apply Kd.R_drew)); exact Kd.R_mono HO_10.out (fun _ hk => trivial)⟩, ⟨by repeat (first | (with_reducible first | exact HB.out | apply below_alloc | apply pw_below_drewN | apply below_drew1) | exact HB.out)⟩⟩
                                  · replace c51 := Bool.eq_false_iff.mpr c51
                                    subst c51
                                    have H1 : (if x10_5.length < 17592186044416 then (cobweblaw10_ChunkActs.j6 k5 l0 t427 x5_2 (x10_5 ++ [(Int.tmod (wrap64 ((Int.tmod (rd l0 x5_2) 64) + 64)) 64)])) else (none)) = some r := by rw [if_neg (show ¬ (false = true) by decide)] at H; exact H
                                    clear H
                                    have H := H1
                                    clear H1
                                    by_cases c52 : x10_5.length < 17592186044416
                                    · rw [if_pos c52] at H
                                      have LMc52 := Aside0.mk c52
                                      clear c52
                                      obtain ⟨y444, hy444⟩ : ∃ y_ : List Int, y_ = (x10_5 ++ [(Int.tmod (wrap64 ((Int.tmod (rd l0 x5_2) 64) + 64)) 64)]) := ⟨_, rfl⟩
                                      replace H : (cobweblaw10_ChunkActs.j6 k5 l0 t427 x5_2 y444) = some r := by first | (rw [hy444]; with_reducible exact H) | (have H2_ := (Option.bind_some _ _).symm.trans H; rw [hy444]; with_reducible exact H2_) | (have H2_ := (Option.bind_some _ _).symm.trans H; with_reducible exact H2_) | with_reducible exact H | (rw [hy444]; exact H) | exact H
                                      have Ny444 := Aside0.mk hy444
                                      clear hy444
                                      have H' := Aside0.mk H
                                      clear H
                                      go_wp2_with (first | ((with_reducible refine gate_builtin (b := .append) (xs := #[.tmp 101, .tmp 103]) rfl ?_); (try (refine gate_guard (by rfl) ?_; dsimp only)); at_builtin; refine Kd.R_append (Kd.int .i64) (w0 := w) w.heap.size rfl (.tmp 101) (.tmp 103) 22 3 (.int .i64 0) 8 rfl Try.underlying22 info3 rfl (by decide) (by omega) u10 x10_5 (Int.tmod (wrap64 ((Int.tmod (rd l0 x5_2) 64) + 64)) 64) [.int .i64 (Int.tmod (wrap64 ((Int.tmod (rd l0 x5_2) 64) + 64)) 64)] (fun k_ => some k_ ≠ (.slice Ao14 x4_2.length co14 : Value).ownBlock) (fun _ => False) rfl rfl ?aP (fun _ hk => hk.elim) ?aF ?aO ?aB ?aS ?aL ?_; (case aP => exact rfl); (case aB => exact (by repeat (first | (with_reducible first | exact HB.out | apply below_alloc | apply pw_below_drewN | apply below_drew1) | exact HB.out))); (case aF => exact (fun k_ hk => Kd.fresh' (Kd.R_lt (by (with_reducible repeat (first | apply Kd.R_alloc | apply Kd.R_drewN | apply Kd.R_drew)); exact HO_4.out)) k_ hk)); (case aO => exact (by (with_reducible repeat (first | apply Kd.R_alloc | apply Kd.R_drewN | apply Kd.R_drew)); exact HO_10.out)); (case aS => exact (below_size (by repeat (first | (with_reducible first | exact HB.out | apply below_alloc | apply pw_below_drewN | apply below_drew1) | exact HB.out)))); (case aL => have := LMc52.out; omega); intro v445 w53 ho hb hg hat; rw [← Ny444.out] at ho; have n0_ := Aside0.mk (Kd.N_afterv (ok := (fun k_ => some k_ ≠ (.slice Ao14 x4_2.length co14 : Value).ownBlock)) (by (with_reducible repeat (first | apply Kd.N_alloc | apply Kd.N_drewN | apply Kd.N_drew)); exact HO_3.out) hg hat); have n1_ := Aside0.mk (Kd.R_after (ok := (fun _ => True)) (by (with_reducible repeat (first | apply Kd.R_alloc | apply Kd.R_drewN | apply Kd.R_drew)); exact Kd.R_mono HO_4.out (fun _ hk => ⟨trivial, hk⟩)) hg hat); have n2_ := Aside0.mk (hb); have n3_ := Aside0.mk (ho); clear HO_3; clear HO_4; clear HB; clear HO_10; have HO_3 := n0_; have HO_4 := n1_; have HB := n2_; have HO446 := n3_; clear n0_ n1_ n2_ n3_; clear ho hb hg hat))
                                      go_meet
                                      case rel => exact ⟨_, (y444), H', ⟨by have := HJ1.out; have := HK2.out; have := HJ12.out; have := HJ21.out; have := HK5.out; first | omega | exact Nat.le_refl _⟩, ⟨by (with_reducible repeat (first | apply Kd.N_alloc | apply Kd.N_drewN | apply Kd.N_drew)); exact Kd.N_mono HO_3.out (fun _ hk => hk.2)⟩, ⟨by (with_reducible repeat (first | apply Kd.R_alloc | apply Kd.R_drewN | apply Kd.R_drew)); exact Kd.R_mono HO446.out (fun _ hk => trivial)⟩, ⟨by repeat (first | (with_reducible first | exact HB.out | apply below_alloc | apply pw_below_drewN | apply below_drew1) | exact HB.out)⟩⟩
                                    · rw [if_neg c52] at H
                                      exact absurd H (by simp)
                                case rest =>
                                  clear HC50
                                  try clear c1
                                  try clear c2
                                  try clear p2
                                  try clear c3
                                  try clear c4
                                  try clear p4
                                  try clear q4
                                  try clear hx4
                                  try clear c5
                                  try clear c6
                                  try clear p6
                                  try clear c7
                                  try clear c8
                                  try clear c9
                                  try clear c10
                                  try clear c10b0
                                  try clear c11
                                  try clear c11b0
                                  try clear c15
                                  try clear c16
                                  try clear c23
                                  try clear c23b0
                                  try clear c23b1
                                  try clear c24
                                  try clear c24b0
                                  try clear c24b1
                                  try clear c26
                                  try clear c27
                                  try clear c32
                                  try clear c32b0
                                  try clear c34
                                  try clear c34b0
                                  try clear c35
                                  try clear c35b0
                                  try clear c36
                                  try clear c37
                                  try clear c38
                                  try clear c38b0
                                  try clear c39
                                  try clear c39b0
                                  try clear c40
                                  try clear c40b0
                                  try clear c40b1
                                  try clear p41
                                  try clear q41
                                  try clear hx41
                                  try clear c42
                                  try clear p43
                                  try clear q43
                                  try clear hx43
                                  try clear p44
                                  try clear q44
                                  try clear hx44
                                  try clear c45
                                  try clear c45b0
                                  try clear c46
                                  try clear c46b0
                                  try clear c47
                                  try clear c47b0
                                  try clear c47b1
                                  try clear c48
                                  try clear c51
                                  try clear c52
                                  try clear hx417_0
                                  try clear hx430_0
                                  try clear hx434_0
                                  try clear hx435_0
                                  try clear hx439_0
                                  try clear hx440_0
                                  try clear p2
                                  try clear p4
                                  try clear p417
                                  try clear p430
                                  try clear p434
                                  try clear p435
                                  try clear p439
                                  try clear p440
                                  try clear p6
                                  try clear q4
                                  try clear q417
                                  try clear q430
                                  try clear q434
                                  try clear q435
                                  try clear q439
                                  try clear q440
                                  obtain ⟨kq, x10_49, HA, HJ49, HO_3, HO_10, HB⟩ := hcut
                                  cases kq with
                                  | zero => exact absurd HA.out (by simp [cobweblaw10_ChunkActs.j6])
                                  | succ kj49 =>
                                    have H := HA.out
                                    clear HA
                                    simp only [cobweblaw10_ChunkActs.j6] at H
                                    replace H := Option.bind_eq_some_iff.mp H
                                    obtain ⟨t447, A540, H⟩ := H
                                    replace H : (if t447 = true then ((chunk_IDs.f kj49 t427).bind fun t448 => ((cobwebref10_Ints.f kj49 t448 x10_49).bind fun t451 => (if t451 = true then (cobweblaw10_ChunkActs.l0 kj49 l0 t427 x10_49 (wrap64 (x5_2 + 1))) else (some false)))) else (some false)) = some r := H
                                    have A54 := Aside0.mk A540
                                    clear A540
                                    by_cases c55 : t447 = true
                                    · subst c55
                                      have H1 : ((chunk_IDs.f kj49 t427).bind fun t448 => ((cobwebref10_Ints.f kj49 t448 x10_49).bind fun t451 => (if t451 = true then (cobweblaw10_ChunkActs.l0 kj49 l0 t427 x10_49 (wrap64 (x5_2 + 1))) else (some false)))) = some r := by rw [if_pos rfl] at H; exact H
                                      clear H
                                      have H := H1
                                      clear H1
                                      replace H := Option.bind_eq_some_iff.mp H
                                      obtain ⟨t448, A560, H⟩ := H
                                      replace H : ((cobwebref10_Ints.f kj49 t448 x10_49).bind fun t451 => (if t451 = true then (cobweblaw10_ChunkActs.l0 kj49 l0 t427 x10_49 (wrap64 (x5_2 + 1))) else (some false))) = some r := H
                                      have A56 := Aside0.mk A560
                                      clear A560
                                      replace H := Option.bind_eq_some_iff.mp H
                                      obtain ⟨t451, A570, H⟩ := H
                                      replace H : (if t451 = true then (cobweblaw10_ChunkActs.l0 kj49 l0 t427 x10_49 (wrap64 (x5_2 + 1))) else (some false)) = some r := H
                                      have A57 := Aside0.mk A570
                                      clear A570
                                      by_cases c58 : t451 = true
                                      · subst c58
                                        have H1 : (cobweblaw10_ChunkActs.l0 kj49 l0 t427 x10_49 (wrap64 (x5_2 + 1))) = some r := by rw [if_pos rfl] at H; exact H
                                        clear H
                                        have H := H1
                                        clear H1
                                        have H' := Aside0.mk H
                                        clear H
                                        obtain ⟨Ao59, co59, eo59⟩ := Kd.N_slice HO_3.out
                                        subst eo59
                                        go_wp2_with (first | ((with_reducible refine gate_callee (f := 11) rfl ?_); refine goesL_ (some 107) rfl rfl Try.func11 (by kernel_rfl) rfl #[.slice Ao59 t427.length co59] rfl (by (try simp only [List.map_toArray, List.map_cons, List.map_nil]); first | done | rfl | (simp only [List.length_drop, List.length_take]; rfl)) ?_; (with_reducible refine (chunk_Right.calls _ _ t427 true _ ?side1 ?side2 A54.out).mono ?_); (case side1 => repeat (first | exact (Kd.N_reads' HO_3.out).2.2 | (with_reducible refine Kd.C_alloc ?_ _) | (with_reducible refine Kd.C_drewN ?_ _) | (with_reducible refine Kd.C_drew ?_))); (case side2 => exact (Kd.N_reads' HO_3.out).2.1); rintro e w60 ⟨rfl, hb⟩; refine ⟨_, rfl, ?_⟩; have n0_ := Aside0.mk (Kd.N_below (by (with_reducible repeat (first | apply Kd.N_alloc | apply Kd.N_drewN | apply Kd.N_drew)); exact HO_3.out) hb); have n1_ := Aside0.mk (Kd.R_below (by (with_reducible repeat (first | apply Kd.R_alloc | apply Kd.R_drewN | apply Kd.R_drew)); exact HO_10.out) hb); have n2_ := Aside0.mk (below_step (by repeat (first | (with_reducible first | exact HB.out | apply below_alloc | apply pw_below_drewN | apply below_drew1) | exact HB.out)) hb); clear HO_3; clear HO_10; clear HB; have HO_3 := n0_; have HO_10 := n1_; have HB := n2_; clear n0_ n1_ n2_; (try clear hb); (try clear hb2); (try clear hk); (try clear hi)) | (go_at_call 13; (with_reducible refine (chunk_IDs.calls kj49 _ _ t427 t448 _ ?side1 ?side2 A56.out).mono ?_); (case side1 => repeat (first | exact (Kd.N_reads' HO_3.out).2.2 | (with_reducible refine Kd.C_alloc ?_ _) | (with_reducible refine Kd.C_drewN ?_ _) | (with_reducible refine Kd.C_drew ?_))); (case side2 => exact (Kd.N_reads' HO_3.out).2.1); rintro e w61 ⟨v449, rfl, ho0, hb⟩; have n0_ := Aside0.mk (Kd.N_elder' (by (with_reducible repeat (first | apply Kd.N_alloc | apply Kd.N_drewN | apply Kd.N_drew)); exact HO_3.out) (Kd.R_base ho0) hb); have n1_ := Aside0.mk (Kd.R_elder' (by (with_reducible repeat (first | apply Kd.R_alloc | apply Kd.R_drewN | apply Kd.R_drew)); exact HO_10.out) (Kd.R_base ho0) hb); have n2_ := Aside0.mk (Kd.R_lower (Kd.R_new' ho0 (Kd.R_lt (by (with_reducible repeat (first | apply Kd.R_alloc | apply Kd.R_drewN | apply Kd.R_drew)); exact HO_10.out))) (below_size (by repeat (first | (with_reducible first | exact HB.out | apply below_alloc | apply pw_below_drewN | apply below_drew1) | exact HB.out)))); have n3_ := Aside0.mk (below_step (by repeat (first | (with_reducible first | exact HB.out | apply below_alloc | apply pw_below_drewN | apply below_drew1) | exact HB.out)) hb); clear HO_3; clear HO_10; clear HB; have HO_3 := n0_; have HO_10 := n1_; have HO450 := n2_; have HB := n3_; clear n0_ n1_ n2_ n3_; (try clear hb); (try clear hb2); (try clear hk); (try clear hi); (try clear ho0); obtain ⟨Ao62, co62, eo62⟩ := Kd.R_slice HO450.out; subst eo62; obtain ⟨Ao63, co63, eo63⟩ := Kd.R_slice HO_10.out; subst eo63) | (go_at_call 12; (with_reducible refine (cobwebref10_Ints.calls kj49 _ _ t448 _ _ x10_49 true _ ?side1 ?side2 ?side3 ?side4 A57.out).mono ?_); (case side1 => repeat (first | exact (Kd.R_reads' HO450.out).2.2 | (with_reducible refine Kd.C_alloc ?_ _) | (with_reducible refine Kd.C_drewN ?_ _) | (with_reducible refine Kd.C_drew ?_))); (case side2 => exact (Kd.R_reads' HO450.out).2.1); (case side3 => repeat (first | exact (Kd.R_reads' HO_10.out).2.2 | (with_reducible refine Kd.C_alloc ?_ _) | (with_reducible refine Kd.C_drewN ?_ _) | (with_reducible refine Kd.C_drew ?_))); (case side4 => exact (Kd.R_reads' HO_10.out).2.1); rintro e w' ⟨rfl, ⟨nd, rfl⟩⟩))
                                        go_roundg kj49
                                        case measure => have := HJ1.out; have := HK2.out; have := HJ12.out; have := HJ21.out; have := HK5.out; have := HJ49.out; omega
                                        case rel => exact ⟨(t427), (x10_49), (wrap64 (x5_2 + 1)), (by first | rfl | (simp; done) | (simp [*]; done)), H', ⟨by have := HJ1.out; have := HK2.out; have := HJ12.out; have := HJ21.out; have := HK5.out; have := HJ49.out; omega⟩, ⟨by (with_reducible repeat (first | apply Kd.N_alloc | apply Kd.N_drewN | apply Kd.N_drew)); exact Kd.N_mono HO_3.out (fun _ hk => hk.1)⟩, ⟨by (with_reducible repeat (first | apply Kd.R_alloc | apply Kd.R_drewN | apply Kd.R_drew)); exact Kd.R_mono HO_10.out (fun _ hk => trivial)⟩, ⟨by repeat (first | (with_reducible first | exact HB.out | apply below_alloc | apply pw_below_drewN | apply below_drew1) | exact HB.out)⟩⟩
                                      · replace c58 := Bool.eq_false_iff.mpr c58
                                        subst c58
                                        have H1 : (some false) = some r := by rw [if_neg (show ¬ (false = true) by decide)] at H; exact H
                                        clear H
                                        have H := H1
                                        clear H1
                                        obtain rfl := Option.some.inj H
                                        obtain ⟨Ao64, co64, eo64⟩ := Kd.N_slice HO_3.out
                                        subst eo64
                                        go_wp2_with (first | ((with_reducible refine gate_callee (f := 11) rfl ?_); refine goesL_ (some 107) rfl rfl Try.func11 (by kernel_rfl) rfl #[.slice Ao64 t427.length co64] rfl (by (try simp only [List.map_toArray, List.map_cons, List.map_nil]); first | done | rfl | (simp only [List.length_drop, List.length_take]; rfl)) ?_; (with_reducible refine (chunk_Right.calls _ _ t427 true _ ?side1 ?side2 A54.out).mono ?_); (case side1 => repeat (first | exact (Kd.N_reads' HO_3.out).2.2 | (with_reducible refine Kd.C_alloc ?_ _) | (with_reducible refine Kd.C_drewN ?_ _) | (with_reducible refine Kd.C_drew ?_))); (case side2 => exact (Kd.N_reads' HO_3.out).2.1); rintro e w65 ⟨rfl, hb⟩; refine ⟨_, rfl, ?_⟩; have n0_ := Aside0.mk (Kd.N_below (by (with_reducible repeat (first | apply Kd.N_alloc | apply Kd.N_drewN | apply Kd.N_drew)); exact HO_3.out) hb); have n1_ := Aside0.mk (Kd.R_below (by (with_reducible repeat (first | apply Kd.R_alloc | apply Kd.R_drewN | apply Kd.R_drew)); exact HO_10.out) hb); have n2_ := Aside0.mk (below_step (by repeat (first | (with_reducible first | exact HB.out | apply below_alloc | apply pw_below_drewN | apply below_drew1) | exact HB.out)) hb); clear HO_3; clear HO_10; clear HB; have HO_3 := n0_; have HO_10 := n1_; have HB := n2_; clear n0_ n1_ n2_; (try clear hb); (try clear hb2); (try clear hk); (try clear hi)) | (go_at_call 13; (with_reducible refine (chunk_IDs.calls kj49 _ _ t427 t448 _ ?side1 ?side2 A56.out).mono ?_); (case side1 => repeat (first | exact (Kd.N_reads' HO_3.out).2.2 | (with_reducible refine Kd.C_alloc ?_ _) | (with_reducible refine Kd.C_drewN ?_ _) | (with_reducible refine Kd.C_drew ?_))); (case side2 => exact (Kd.N_reads' HO_3.out).2.1); rintro e w66 ⟨v449, rfl, ho0, hb⟩; have n0_ := Aside0.mk (Kd.N_elder' (by (with_reducible repeat (first | apply Kd.N_alloc | apply Kd.N_drewN | apply Kd.N_drew)); exact HO_3.out) (Kd.R_base ho0) hb); have n1_ := Aside0.mk (Kd.R_elder' (by (with_reducible repeat (first | apply Kd.R_alloc | apply Kd.R_drewN | apply Kd.R_drew)); exact HO_10.out) (Kd.R_base ho0) hb); have n2_ := Aside0.mk (Kd.R_lower (Kd.R_new' ho0 (Kd.R_lt (by (with_reducible repeat (first | apply Kd.R_alloc | apply Kd.R_drewN | apply Kd.R_drew)); exact HO_10.out))) (below_size (by repeat (first | (with_reducible first | exact HB.out | apply below_alloc | apply pw_below_drewN | apply below_drew1) | exact HB.out)))); have n3_ := Aside0.mk (below_step (by repeat (first | (with_reducible first | exact HB.out | apply below_alloc | apply pw_below_drewN | apply below_drew1) | exact HB.out)) hb); clear HO_3; clear HO_10; clear HB; have HO_3 := n0_; have HO_10 := n1_; have HO450 := n2_; have HB := n3_; clear n0_ n1_ n2_ n3_; (try clear hb); (try clear hb2); (try clear hk); (try clear hi); (try clear ho0); obtain ⟨Ao67, co67, eo67⟩ := Kd.R_slice HO450.out; subst eo67; obtain ⟨Ao68, co68, eo68⟩ := Kd.R_slice HO_10.out; subst eo68) | (go_at_call 12; (with_reducible refine (cobwebref10_Ints.calls kj49 _ _ t448 _ _ x10_49 false _ ?side1 ?side2 ?side3 ?side4 A57.out).mono ?_); (case side1 => repeat (first | exact (Kd.R_reads' HO450.out).2.2 | (with_reducible refine Kd.C_alloc ?_ _) | (with_reducible refine Kd.C_drewN ?_ _) | (with_reducible refine Kd.C_drew ?_))); (case side2 => exact (Kd.R_reads' HO450.out).2.1); (case side3 => repeat (first | exact (Kd.R_reads' HO_10.out).2.2 | (with_reducible refine Kd.C_alloc ?_ _) | (with_reducible refine Kd.C_drewN ?_ _) | (with_reducible refine Kd.C_drew ?_))); (case side4 => exact (Kd.R_reads' HO_10.out).2.1); rintro e w' ⟨rfl, ⟨nd, rfl⟩⟩))
                                        go_ret
                                        exact ⟨by first | rfl | (simp [errW_none, errW_some] <;> rfl) | (simp [*, errW_none, errW_some] <;> rfl), by repeat (first | (with_reducible first | exact HB.out | apply below_alloc | apply pw_below_drewN | apply below_drew1) | exact HB.out)⟩
                                    · replace c55 := Bool.eq_false_iff.mpr c55
                                      subst c55
                                      have H1 : (some false) = some r := by rw [if_neg (show ¬ (false = true) by decide)] at H; exact H
                                      clear H
                                      have H := H1
                                      clear H1
                                      obtain rfl := Option.some.inj H
                                      obtain ⟨Ao69, co69, eo69⟩ := Kd.N_slice HO_3.out
                                      subst eo69
                                      go_wp2_with (first | ((with_reducible refine gate_callee (f := 11) rfl ?_); refine goesL_ (some 107) rfl rfl Try.func11 (by kernel_rfl) rfl #[.slice Ao69 t427.length co69] rfl (by (try simp only [List.map_toArray, List.map_cons, List.map_nil]); first | done | rfl | (simp only [List.length_drop, List.length_take]; rfl)) ?_; (with_reducible refine (chunk_Right.calls _ _ t427 false _ ?side1 ?side2 A54.out).mono ?_); (case side1 => repeat (first | exact (Kd.N_reads' HO_3.out).2.2 | (with_reducible refine Kd.C_alloc ?_ _) | (with_reducible refine Kd.C_drewN ?_ _) | (with_reducible refine Kd.C_drew ?_))); (case side2 => exact (Kd.N_reads' HO_3.out).2.1); rintro e w70 ⟨rfl, hb⟩; refine ⟨_, rfl, ?_⟩; have n0_ := Aside0.mk (Kd.N_below (by (with_reducible repeat (first | apply Kd.N_alloc | apply Kd.N_drewN | apply Kd.N_drew)); exact HO_3.out) hb); have n1_ := Aside0.mk (Kd.R_below (by (with_reducible repeat (first | apply Kd.R_alloc | apply Kd.R_drewN | apply Kd.R_drew)); exact HO_10.out) hb); have n2_ := Aside0.mk (below_step (by repeat (first | (with_reducible first | exact HB.out | apply below_alloc | apply pw_below_drewN | apply below_drew1) | exact HB.out)) hb); clear HO_3; clear HO_10; clear HB; have HO_3 := n0_; have HO_10 := n1_; have HB := n2_; clear n0_ n1_ n2_; (try clear hb); (try clear hb2); (try clear hk); (try clear hi)))
                                      go_ret
                                      exact ⟨by first | rfl | (simp [errW_none, errW_some] <;> rfl) | (simp [*, errW_none, errW_some] <;> rfl), by repeat (first | (with_reducible first | exact HB.out | apply below_alloc | apply pw_below_drewN | apply below_drew1) | exact HB.out)⟩
              · rw [if_neg c11] at H
                exact absurd H (by simp)
            · rw [if_neg c10] at H
              have c10b0 : decide (x5_2 < (l0.length : Int)) = false := decide_eq_false c10
              clear c10
              obtain rfl := Option.some.inj H
              go_wp2
              go_ret
              exact ⟨by first | rfl | (simp [errW_none, errW_some] <;> rfl) | (simp [*, errW_none, errW_some] <;> rfl), by repeat (first | (with_reducible first | exact HB.out | apply below_alloc | apply pw_below_drewN | apply below_drew1) | exact HB.out)⟩

/-- THE ONE PURE STATEMENT of cobweblaw10_ChunkActs: yours. -/
def cobweblaw10_ChunkActs.Pure : Prop := ∀ (l0 : List Int), l0.length ≤ maxLen → l0.length * 8 ≤ 140737488351232 → (∀ x ∈ l0, (Lit.int .i64 x).wf = true) → ∃ k, cobweblaw10_ChunkActs.f k l0 = some true
theorem cobweblaw10_ChunkActs.walk (P : cobweblaw10_ChunkActs.Pure) (a0 : Option Addr) (len0 cap0 : Nat) (z0 : List Int) (w : World) (w0 : (a0 = none ∧ len0 = 0 ∧ cap0 = 0 ∧ z0 = []) ∨ ∃ x, a0 = some x ∧ len0 ≤ cap0 ∧ cap0 ≤ maxLen ∧ z0.length = cap0 ∧ (∀ i, i < z0.length → w.cell? (x.add i) = some (.int .i64 (z0.getD i 0))) ∧ ∀ n ∈ z0, (Lit.int .i64 n).wf = true) (y0 : len0 * 8 ≤ 140737488351232) :
    Calls Try.prog 6 #[.slice a0 len0 cap0] w fun e w' => e = .returned (.bool true) ∧ Below w.heap.size w w' := by
  obtain ⟨l0, rfl, hr0, hm0, hw0, hc0⟩ := ReadsInt.ofRowC w0
  obtain ⟨k, h⟩ := P l0 hm0 y0 hw0
  refine (cobweblaw10_ChunkActs.calls k _ _ l0 true w (Kd.C_of_reads (d := (0 : Int)) (h1 := fun _ => rfl) hr0) hc0 h).mono ?_
  rintro e w' ⟨rfl, hd⟩
  exact ⟨rfl, hd⟩

end Go.Proofs.Ytfbegchhgigjeaa.PC
