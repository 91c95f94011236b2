/- slices.DeleteFunc at []int, with chunk.Remove's closure: the shelf's proof, laid for this program (the laying's text is lay-plain.mjs's, a tool of the kit's), on a row of one's own. -/
import Derived.Shelf.SlicesE.DeleteFunc
import Derived.Lib.OwnBridge
import Derived.Test.YtfbegchhgigjeaaHEv
set_option linter.unusedVariables false
set_option linter.unusedSimpArgs false
namespace Go.Proofs.Ytfbegchhgigjeaa.PC
open Go.Shelf Go.RowKit Go.Lib Go.Sort Go.Proofs.YtfbegchhgigjeaaW.PrintWords Go.Proofs.YtfbegchhgigjeaaW.PrintLast Go.Proofs.YtfbegchhgigjeaaW.PrintMore Go.Proofs.YtfbegchhgigjeaaH
def l35_ren : Go.Shelf.Ren := ⟨fun | 10 => 35 | 6 => 51 | n => n, fun | 22 => 22 | 23 => 3 | 25 => 60 | 3 => 3 | 4 => 4 | 0 => 0 | n => n, fun | n => n⟩
theorem l35 : SlLaysH.n10 Try.prog l35_ren := {
  mixed := by kernel_rfl
  f6 := ⟨Try.f51.name, by decide, Try.func51.trans (congrArg some (by kernel_rfl))⟩
  f10 := ⟨Try.f35.name, by decide, Try.func35.trans (congrArg some (by kernel_rfl))⟩
  t0 := Try.underlying0
  a0 := Try.isAgg0
  z0 := Try.sizeOf0
  v0 := Try.zeroValue0
  t3 := Try.underlying3
  a3 := Try.isAgg3
  z3 := Try.sizeOf3
  v3 := Try.zeroValue3
  t4 := Try.underlying4
  a4 := Try.isAgg4
  z4 := Try.sizeOf4
  v4 := Try.zeroValue4
  t22 := Try.underlying22
  a22 := Try.isAgg22
  z22 := Try.sizeOf22
  v22 := Try.zeroValue22
  a23 := Try.isAgg3
  z23 := Try.sizeOf3
  t25 := Try.underlying60
  a25 := Try.isAgg60
  z25 := Try.sizeOf60
  v25 := Try.zeroValue60 }

/-- The closure: is it that id? -/
theorem gives36 (id x : Int) (B : Nat) (W : World) (hc : W.cell? ⟨B, 0, none⟩ = some (.int .i64 id)) : FnGives Try.prog 36 #[.pointer (some ⟨B, 0, none⟩)] #[.int .i64 x] (.bool (x == id)) W := by
  show Calls Try.prog 36 #[.int .i64 x, .pointer (some ⟨B, 0, none⟩)] W _
  go_enter Try.func36, Try.ntmps36
  go_wp2
  all_goals (go_ret; exact ⟨by simp_all, 0, rfl⟩)
theorem pred36 (id : Int) (B : Nat) (w : World) (hB : B < w.heap.size) (hcell : w.cell? ⟨B, 0, none⟩ = some (.int .i64 id)) : PredAt Try.prog 36 #[.pointer (some ⟨B, 0, none⟩)] (Value.int .i64) (fun x => x == id) w :=
  fun W x hb => gives36 id x B W ((hb.cell (p := ⟨B, 0, none⟩) hB).trans hcell)
theorem over36 (id : Int) (B blk off size : Nat) (w : World) (hB : B < w.heap.size) (hne : B ≠ blk) (hcell : w.cell? ⟨B, 0, none⟩ = some (.int .i64 id)) : PredOver Try.prog 36 #[.pointer (some ⟨B, 0, none⟩)] (Value.int .i64) (fun x => x == id) blk off size w :=
  fun n os dk x _ => gives36 id x B _ (by
    unfold sortWorld
    rw [cell?_grow _ _ _ (by show B < (putRow _ _ _ _ _).heap.size; rw [size_putRow]; exact hB), cell?_putRow_other _ _ blk off _ _ (Or.inl hne)]
    exact hcell)
theorem grown_putRow {w : World} {g q : Nat} {d : Array Int} : w.grownBy (putRow (Value.int .i64) (Sort.ahead w q) g 0 d) (some g) :=
  ⟨rfl, rfl, rfl, by simp [putRow, mapBlock, Sort.ahead], fun k hk hne => by simp [putRow, mapBlock, Sort.ahead, Array.getElem?_modify, show g ≠ k from fun e => hne (by rw [e])]⟩
set_option maxRecDepth 100000 in
theorem del_own (base : Nat) (v : Value) (xs : List Int) (w0 w : World) (id : Int) (B : Nat) (HO : (Kd.int .i64).R 3 w base (fun _ => True) v xs) (hB : Below base w0 w) (hc : w.cell? ⟨B, 0, none⟩ = some (.int .i64 id)) (hne : some B ≠ v.ownBlock) (h0 : xs ≠ []) :
    Calls Try.prog 35 #[v, .func (.func 36) #[] #[.pointer (some ⟨B, 0, none⟩)]] w fun e w' => ∃ v1, e = .returned v1 ∧ (Kd.int .i64).R 3 w' base (fun _ => True) v1 (xs.filter (fun x => !(x == id))) ∧ Below base w0 w' ∧ w.grownBy w' v.ownBlock := by
  have hown := Kd.own_of_R HO
  have hv : v ≠ .slice none 0 0 := fun e => by
    subst e
    rcases hown.2 with ⟨_, hz⟩ | ⟨g, cap, cur, e0, _⟩
    · exact h0 (List.eq_nil_of_length_eq_zero hz)
    · cases e0
  obtain ⟨g, cap, rfl, hbg, hlt, hn, hm, _, hH⟩ := holds_of_ownsRow (enc := Value.int .i64) hown hv
  have hBlt : B < w.heap.size := World.block_lt_of_cell? w _ hc
  have eg : ∀ args w, (callFunc 36 args).run Try.prog w = .ok (.enter 36 args) w := enters_of Try.func36 (by kernel_rfl) rfl
  have hBg : B ≠ g := fun e => hne (by simp [Value.ownBlock, e])
  have hcon := AnyE.slices_DeleteFunc l35 (Value.int .i64) (fun _ => rfl) (fun x => x == id) 36 #[.pointer (some ⟨B, 0, none⟩)] eg 0 Try.zeroValue3 g 0 cap xs.toArray w (pred36 id B w hBlt hc) (over36 id B g 0 xs.toArray.size w hBlt hBg hc) hH (by unfold maxLen at hm; simp; omega) (by simpa using hn)
  change Calls Try.prog 35 _ _ _ at hcon
  rw [List.size_toArray] at hcon
  refine hcon.mono ?_
  rintro e w1 ⟨rfl, q, rfl⟩
  have hfl : (xs.filter (fun x => !(x == id))).length ≤ xs.length := List.length_filter_le _ _
  have hrow := ownsRow_putRow (q := q) (k := (xs.filter (fun x => !(x == id))).length) (ys := (xs.filter (fun x => !(x == id))) ++ List.replicate (xs.length - (xs.filter (fun x => !(x == id))).length) 0) hown (by simp; omega) hfl
  rw [List.take_left] at hrow
  exact ⟨_, rfl, Kd.R_of_own (h1 := fun _ => rfl) hrow (fun _ _ => trivial), below_putRow hB hbg, grown_putRow⟩
end Go.Proofs.Ytfbegchhgigjeaa.PC
