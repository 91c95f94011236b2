/- A part of the proof: lemmas that the row uses, laid together by a program of this session's (pack.py) out of its texts and of what the kit's printer wrote for this seat. -/
import Derived.Lib.Walk
import Derived.Lib.SliceRun
import Derived.Lib.JoinLaws
import Derived.Lib.AppendZeros
import Derived.Lib.Overlaps
import Derived.Laws.Externs
import Derived.Laws.IdiomCopy
import Derived.Lib.AppendZerosOnto
import Derived.Laws.NewBlocks
import Derived.Deep.RegionLaw
import Derived.Shelf.Spec.SlicesInsert
import Derived.Deep.RegionHeld3
import Derived.Test.YtfbegchhgigjeaaKC0
import Derived.Test.YtfbegchhgigjeaaKC1
import Derived.Test.YtfbegchhgigjeaaKC2
import Derived.Test.YtfbegchhgigjeaaKC3
import Derived.Test.YtfbegchhgigjeaaKC4
import Derived.Test.YtfbegchhgigjeaaKC5
import Derived.Test.YtfbegchhgigjeaaKC6
section
namespace Go.Proofs.Ytfbegchhgigjeaa.PC
open Go.Shelf Go.RowKit Go.Lib Go.Proofs.YtfbegchhgigjeaaW.PrintWords Go.Proofs.YtfbegchhgigjeaaW.PrintLast Go.Proofs.YtfbegchhgigjeaaW.PrintMore Go.Proofs.YtfbegchhgigjeaaH
set_option linter.unusedVariables false
set_option linter.unusedSimpArgs false
theorem sizeEI : ∀ w, (Go.sizeOf 3).run Try.prog w = .ok 1 w := fun w => by kernel_rfl
set_option maxHeartbeats 4000000 in
set_option maxRecDepth 100000 in
theorem insI_shift (b off n c i vb voff m vc : Nat) (cs vs : List Value) (w : World) (hi : i < n) (hm : 0 < m) (hroom : n + m ≤ c) (hc63 : c ≤ 9223372036854775807) (hvb : vb ≠ b)
    (hcl : cs.length = n) (hvl : vs.length = m)
    (hcs : ∀ j v, cs[j]? = some v → w.cell? ⟨b, off + j, none⟩ = some v) (hsp : ∀ j, j < n + m → (w.cell? ⟨b, off + j, none⟩).isSome = true) (hfz : ∀ j, j < n + m → w.frozen? ⟨b, off + j, none⟩ = false)
    (hvs : ∀ j v, vs[j]? = some v → w.cell? ⟨vb, voff + j, none⟩ = some v) (h1c : ∀ v ∈ cs, v.oneCell' = true) (h1v : ∀ v ∈ vs, v.oneCell' = true)
    (tA tB : TypeId) (kA kB : Nat) (hsa : w.shape? vb = some (tA, kA)) (hsb : w.shape? b = some (tB, kB)) (hkB : kB ≠ 0) (hfa : w.frozen? ⟨vb, voff, none⟩ = false) (hfe : w.frozen? ⟨vb, kA, none⟩ = false) :
    Calls Try.prog 31 #[.slice (some ⟨b, off, none⟩) n c, .int .i64 i, .slice (some ⟨vb, voff, none⟩) m vc] w fun e w' =>
      e = .returned (.slice (some ⟨b, off, none⟩) (n + m) c) ∧ w' = (w.drew.setCells b (off + (i + m)) (cs.drop i)).setCells b (off + i) vs := by
  have u22 := run_underlying Try.underlying22
  have hz1 : ¬ ((m : Int) = 0) := by omega
  have hz2 : ¬ ((i : Int) = (n : Int)) := by omega
  have hsz : (Try.prog.info? 3).map (·.size) = some 1 := by
    obtain ⟨i0, hi0, h0, h1, h2⟩ := info_parts info3
    rw [hi0]; simp [h1]
  have hov : ∀ lb cb, (callFunc 47 #[.slice (some ⟨vb, voff, none⟩) m vc, .slice (some ⟨b, off + (i + m), none⟩) lb cb]).run Try.prog w = .ok (.value (.bool false)) w := fun lb cb => by
    rw [run_callFunc_extern Try.func47 (by kernel_rfl) (by kernel_rfl) (by kernel_rfl) (e := Extern.SlicesOverlaps.overlaps #[22, 22] #[4]) (by kernel_rfl),
      Lib.run_overlaps_apart w 22 4 3 Try.underlying22 1 (sizeEI) ⟨vb, voff, none⟩ ⟨b, off + (i + m), none⟩ m vc lb cb hvb tA tB kA kB hsa hsb hkB hfa hfe]
    rfl
  have hdl : (cs.drop i).length = n - i := by rw [List.length_drop, hcl]
  have hw1 : IntKind.i64.wrap ((i : Int) + (m : Int)) = (i : Int) + (m : Int) := by rw [IntKind.wrap_i64]; omega
  have hb1 : (0 : Int) ≤ (i : Int) + (m : Int) := by omega
  have hin : i ≤ n := by omega
  have htn : ((i : Int) + (m : Int)).toNat = i + m := by omega
  have hb2 : ¬ (c = i + m) := by omega
  have hb3 : (i : Int) ≤ (n : Int) + (m : Int) := by omega
  have hb4 : ¬ (c = i) := by omega
  have hcp1 : ∀ ty dc sc, (Builtin.copy_ #[22, 22] ty #[.slice (some ⟨b, off + (i + m), none⟩) (n + m - (i + m)) dc, .slice (some ⟨b, off + i, none⟩) (n + m - i) sc]).run Try.prog w.drew = .ok (goInt (cs.drop i).length) (w.drew.setCells b (off + (i + m)) (cs.drop i)) := fun ty dc sc =>
    run_copy_cells w.drew _ _ ty 3 b (off + (i + m)) (n + m - (i + m)) dc ⟨b, off + i, none⟩ (n + m - i) sc (cs.drop i) Try.underlying22 hsz (by rw [hdl]; simp only [Nat.min_def]; split <;> omega)
      (fun j v hj => by rw [Addr.add_lit, Nat.add_assoc]; exact hcs (i + j) v (by rwa [List.getElem?_drop] at hj))
      (fun j hj => by rw [Nat.add_assoc]; exact hsp _ (by omega)) (fun j hj => by rw [Nat.add_assoc]; exact hfz _ (by omega)) (fun v hv => h1c v (List.mem_of_mem_drop hv))
  obtain ⟨W1, hW1⟩ : ∃ W1, W1 = w.drew.setCells b (off + (i + m)) (cs.drop i) := ⟨_, rfl⟩
  have hsp1 : ∀ k, k < n + m → (W1.cell? ⟨b, off + k, none⟩).isSome = true := fun k hk => by
    rw [hW1]
    exact isSome_setCells b _ _ _ (fun j hj => by rw [Nat.add_assoc]; exact hsp _ (by omega)) _ (hsp k hk)
  have hcp2 : ∀ (W : World), (∀ x, W.cell? x = W1.cell? x) → (∀ x, W.frozen? x = W1.frozen? x) → ∀ ty dc, (Builtin.copy_ #[22, 22] ty #[.slice (some ⟨b, off + i, none⟩) (n + m - i) dc, .slice (some ⟨vb, voff, none⟩) m vc]).run Try.prog W = .ok (goInt vs.length) (W.setCells b (off + i) vs) := fun W hWc hWf ty dc =>
    run_copy_cells W _ _ ty 3 b (off + i) (n + m - i) dc ⟨vb, voff, none⟩ m vc vs Try.underlying22 hsz (by rw [hvl]; simp only [Nat.min_def]; split <;> omega)
      (fun j v hj => by
        rw [Addr.add_lit, hWc, hW1, World.cell?_setCells_out b _ _ _ _ (fun h _ => absurd h hvb)]
        exact hvs j v hj)
      (fun j hj => by rw [hWc, Nat.add_assoc]; exact hsp1 _ (by omega)) (fun j hj => by rw [hWf, hW1, World.frozen?_setCells, Nat.add_assoc]; exact hfz _ (by omega)) h1v
  rw [← hW1] at hcp1
  go_enter Try.func31, Try.ntmps31
  go_wp2_with (simp only [hov])
  go_region_law (refine step_copy_runI rfl _ _ 22 22 rfl _ _ (by simp [Act.eval, Act.put]) (by simp [Act.eval, Act.put]) (hcp1 _ _ _) ?_)
  go_wp2_with (at_builtin; refine wpList_copy_runI _ rfl _ _ 22 22 rfl _ _ rfl rfl (hcp2 _ (fun _ => rfl) (fun _ => rfl) _ _) ?_)
  go_ret
  first | exact ⟨rfl, rfl⟩ | exact ⟨rfl, by rw [hW1]⟩
set_option maxHeartbeats 4000000 in
set_option maxRecDepth 100000 in
theorem insI_grow (b off n c i vb voff m vc : Nat) (cs vs : List Value) (w : World) (hi : i < n) (hm : 0 < m) (hnc : n ≤ c) (hroom : c < n + m) (hbig : (n + m) * 8 ≤ 140737488355328)
    (hcl : cs.length = n) (hvl : vs.length = m)
    (hcs : ∀ j v, cs[j]? = some v → w.cell? ⟨b, off + j, none⟩ = some v)
    (hvs : ∀ j v, vs[j]? = some v → w.cell? ⟨vb, voff + j, none⟩ = some v) (h1c : ∀ v ∈ cs, v.oneCell' = true) (h1v : ∀ v ∈ vs, v.oneCell' = true) :
    Calls Try.prog 31 #[.slice (some ⟨b, off, none⟩) n c, .int .i64 i, .slice (some ⟨vb, voff, none⟩) m vc] w fun e w' =>
      e = .returned (.slice (some ⟨w.heap.size, 0, none⟩) (n + m) (grownCap w (n + m) c 3)) ∧
      w' = (((w.alloc (.cells ((cs.take i).toArray ++ Builtin.zeroCells (Value.int .i64 0).cells (n + m - i) ++ Builtin.zeroCells (Value.int .i64 0).cells (grownCap w (n + m) c 3 - (n + m))) 3)).drew.setCells w.heap.size i vs).drew).setCells w.heap.size (i + m) (cs.drop i) := by
  have u22 := run_underlying Try.underlying22
  obtain ⟨i0, hi0, hz0, hzs, hzb⟩ := info_parts info3
  have hz1 : ¬ ((m : Int) = 0) := by omega
  have hz2 : ¬ ((i : Int) = (n : Int)) := by omega
  have hz3 : (c : Int) < (n : Int) + (m : Int) := by omega
  have hsz : (Try.prog.info? 3).map (·.size) = some 1 := by rw [hi0]; simp [hzs]
  have hbw : b < w.heap.size := block_lt_of_cell (hcs 0 _ (List.getElem?_eq_getElem (by omega)))
  have hvw : vb < w.heap.size := block_lt_of_cell (hvs 0 _ (List.getElem?_eq_getElem (by omega)))
  have hkk : (n : Int) + (m : Int) - (i : Int) = ((n + m - i : Nat) : Int) := by omega
  have hik : i + (n + m - i) = n + m := by omega
  have hold : (Builtin.firstCells i0.size i (.slice (some ⟨b, off, none⟩) i c)).run Try.prog w.drew = .ok (cs.take i).toArray w.drew := by
    rw [hzs]
    exact run_firstCells_some w.drew 1 i ⟨b, off, none⟩ i c (cs.take i) (by rw [List.length_take]; omega) (fun j v hj => by
      rw [Addr.add_lit]
      rw [List.getElem?_take] at hj
      split at hj
      · exact hcs j v hj
      · cases hj)
  have hrz : ∀ ty, (Builtin.append_ #[22, 3] ty #[.slice (some ⟨b, off, none⟩) i c, .int .i64 ((n : Int) + (m : Int) - (i : Int))]).run Try.prog w =
      .ok (.slice (some ⟨w.heap.size, 0, none⟩) (n + m) (grownCap w (n + m) c 3)) (w.drew.alloc (.cells ((cs.take i).toArray ++ Builtin.zeroCells (Value.int .i64 0).cells (n + m - i) ++ Builtin.zeroCells (Value.int .i64 0).cells (grownCap w (n + m) c 3 - (n + m))) 3)) := fun ty => by
    have h := Lib.run_append_grow_zeros w 22 3 ty 3 i0 _ .i64 .i64 Try.underlying22 Try.underlying3 hi0 hz0 (some ⟨b, off, none⟩) i c (cs.take i) hold (n + m - i) (by omega) (by omega) (by omega) (by omega) (by rw [hzb]; omega) (by rw [hzb, hik]; exact growslice_fits hroom hbig)
    rw [hik] at h
    rw [hkk]
    exact h
  obtain ⟨G, hG⟩ : ∃ G, G = grownCap w (n + m) c 3 := ⟨_, rfl⟩
  obtain ⟨ROW, hROW⟩ : ∃ ROW : Array Value, ROW = (cs.take i).toArray ++ Builtin.zeroCells (Value.int .i64 0).cells (n + m - i) ++ Builtin.zeroCells (Value.int .i64 0).cells (G - (n + m)) := ⟨_, rfl⟩
  rw [← hG] at hrz ⊢
  rw [← hROW] at hrz ⊢
  have hRl : n + m ≤ ROW.size := by
    rw [hROW]
    simp [Builtin.zeroCells, Value.cells]
    omega
  obtain ⟨W1, hW1⟩ : ∃ W1, W1 = w.drew.alloc (.cells ROW 3) := ⟨_, rfl⟩
  rw [← hW1] at hrz
  have hN : ∀ j, j < n + m → (W1.cell? ⟨w.heap.size, j, none⟩).isSome = true := fun j hj => by
    rw [hW1, World.cell?_alloc_at (w := w.drew) ROW _ w.heap.size j rfl, Array.getElem?_eq_getElem (by omega)]; rfl
  have hNf : ∀ j, W1.frozen? ⟨w.heap.size, j, none⟩ = false := fun j => by rw [hW1]; exact World.frozen?_alloc_at (w := w.drew) ROW _ w.heap.size j rfl
  have hOb : ∀ j v, w.cell? ⟨b, j, none⟩ = some v → W1.cell? ⟨b, j, none⟩ = some v := fun j v h => by rw [hW1, World.cell?_alloc_past (w := w.drew) _ b j hbw]; exact h
  have hOv : ∀ j v, w.cell? ⟨vb, j, none⟩ = some v → W1.cell? ⟨vb, j, none⟩ = some v := fun j v h => by rw [hW1, World.cell?_alloc_past (w := w.drew) _ vb j hvw]; exact h
  have hcpA : ∀ (W : World), (∀ x, W.cell? x = W1.cell? x) → (∀ x, W.frozen? x = W1.frozen? x) → ∀ ty dc, (Builtin.copy_ #[22, 22] ty #[.slice (some ⟨w.heap.size, i, none⟩) (n + m - i) dc, .slice (some ⟨vb, voff, none⟩) m vc]).run Try.prog W = .ok (goInt vs.length) (W.setCells w.heap.size i vs) := fun W hWc hWf ty dc =>
    run_copy_cells W _ _ ty 3 w.heap.size i (n + m - i) dc ⟨vb, voff, none⟩ m vc vs Try.underlying22 hsz (by rw [hvl]; simp only [Nat.min_def]; split <;> omega)
      (fun j v hj => by rw [Addr.add_lit, hWc]; exact hOv _ v (hvs j v hj))
      (fun j hj => by rw [hWc]; exact hN _ (by omega)) (fun j hj => by rw [hWf]; exact hNf _) h1v
  have hGn : n + m ≤ G := by rw [hG]; exact grownCap_ge w _ _ _
  have hG63 : G ≤ 9223372036854775807 := by
    have := grownCap_le_maxLen w (n + m) c 3 (by unfold maxLen; omega)
    rw [← hG] at this
    unfold maxLen at this
    omega
  have hGi : ¬ (G = i) := by omega
  have hGim : ¬ (G = i + m) := by omega
  have hci : ¬ (c = i) := by omega
  have hbN : b ≠ w.heap.size := by omega
  have hdl : (cs.drop i).length = n - i := by rw [List.length_drop, hcl]
  have hcpB : ∀ (W : World), (∀ x, W.cell? x = (W1.setCells w.heap.size i vs).cell? x) → (∀ x, W.frozen? x = (W1.setCells w.heap.size i vs).frozen? x) → ∀ ty dc sc, (Builtin.copy_ #[22, 22] ty #[.slice (some ⟨w.heap.size, i + m, none⟩) (n + m - (i + m)) dc, .slice (some ⟨b, off + i, none⟩) (n - i) sc]).run Try.prog W = .ok (goInt (cs.drop i).length) (W.setCells w.heap.size (i + m) (cs.drop i)) := fun W hWc hWf ty dc sc =>
    run_copy_cells W _ _ ty 3 w.heap.size (i + m) (n + m - (i + m)) dc ⟨b, off + i, none⟩ (n - i) sc (cs.drop i) Try.underlying22 hsz (by rw [hdl]; simp only [Nat.min_def]; split <;> omega)
      (fun j v hj => by
        rw [Addr.add_lit, hWc, World.cell?_setCells_out _ _ _ _ _ (fun h _ => absurd h hbN), Nat.add_assoc]
        exact hOb _ v (hcs (i + j) v (by rwa [List.getElem?_drop] at hj)))
      (fun j hj => by rw [hWc]; exact isSome_setCells _ _ _ _ (fun t ht => hN _ (by omega)) _ (hN _ (by omega)))
      (fun j hj => by rw [hWf, World.frozen?_setCells]; exact hNf _) (fun v hv => h1c v (List.mem_of_mem_drop hv))
  subst hW1
  have hE1 : ∀ x, ((w.alloc (.cells ROW 3)).drew).cell? x = (w.drew.alloc (.cells ROW 3)).cell? x := fun x => rfl
  have hE2 : ∀ x, ((w.alloc (.cells ROW 3)).drew).frozen? x = (w.drew.alloc (.cells ROW 3)).frozen? x := fun x => rfl
  have hF1 : ∀ x, (((w.alloc (.cells ROW 3)).drew.setCells w.heap.size i vs).drew).cell? x = ((w.drew.alloc (.cells ROW 3)).setCells w.heap.size i vs).cell? x := fun x => rfl
  have hF2 : ∀ x, (((w.alloc (.cells ROW 3)).drew.setCells w.heap.size i vs).drew).frozen? x = ((w.drew.alloc (.cells ROW 3)).setCells w.heap.size i vs).frozen? x := fun x => rfl
  have hw1 : IntKind.i64.wrap ((i : Int) + (m : Int)) = (i : Int) + (m : Int) := by rw [IntKind.wrap_i64]; omega
  have hb1 : (0 : Int) ≤ (i : Int) + (m : Int) := by omega
  have hin : i ≤ n := by omega
  have htn : ((i : Int) + (m : Int)).toNat = i + m := by omega
  have hb3 : (i : Int) ≤ (n : Int) := by omega
  clear hkk hik hold hROW hG hRl
  go_enter Try.func31, Try.ntmps31
  go_wp2_with (first
    | (at_builtin; refine Lib.wpList_append_run _ rfl _ _ _ _ rfl _ _ rfl rfl _ _ (hrz _) ?_)
    | (at_builtin; refine wpList_copy_runI _ rfl _ _ 22 22 rfl _ _ rfl rfl (hcpA _ hE1 hE2 _ _) ?_)
    | (at_builtin; refine wpList_copy_runI _ rfl _ _ 22 22 rfl _ _ rfl rfl (hcpB _ (fun _ => rfl) (fun _ => rfl) _ _ _) ?_))
  go_region_law (refine step_copy_runI rfl _ _ 22 22 rfl (.slice (some ⟨w.heap.size, i + m, none⟩) (n + m - (i + m)) (G - (i + m))) (.slice (some ⟨b, off + i, none⟩) (n - i) (c - i)) (by simp [Act.eval, Act.put]) (by simp [Act.eval, Act.put]) (hcpB _ hF1 hF2 3 (G - (i + m)) (c - i)) ?_)
  go_wp2
  go_ret
  exact ⟨rfl, rfl⟩
theorem splice_shift {α : Type} {l cs l1 l2 : List α} {n i : Nat} {x : α} (hi : i ≤ n) (hc : cs.length = n) (hl : l.take n = cs) (hn : n + 1 ≤ l.length)
    (h1 : l1 = l.take (i + 1) ++ cs.drop i ++ l.drop (i + 1 + (cs.drop i).length)) (h2 : l2 = l1.take i ++ [x] ++ l1.drop (i + [x].length)) : l2.take (n + 1) = cs.take i ++ x :: cs.drop i := by
  have hA : (l.take (i + 1)).length = i + 1 := by rw [List.length_take]; omega
  have e1 : l1.take i = cs.take i := by
    rw [h1, List.append_assoc, List.take_append_of_le_length (by omega), List.take_take, Nat.min_eq_left (by omega), ← hl, List.take_take, Nat.min_eq_left hi]
  have e2 : l1.drop (i + 1) = cs.drop i ++ l.drop (i + 1 + (cs.drop i).length) := by
    rw [h1, List.append_assoc]
    exact List.drop_left' hA
  rw [h2, e1]
  simp only [List.length_singleton, e2]
  have hL : (cs.take i ++ x :: cs.drop i).length = n + 1 := by simp; omega
  rw [show cs.take i ++ [x] ++ (cs.drop i ++ l.drop (i + 1 + (cs.drop i).length)) = (cs.take i ++ x :: cs.drop i) ++ l.drop (i + 1 + (cs.drop i).length) by simp]
  rw [← hL, List.take_left]
theorem splice_grow {α : Type} {cs l l1 l2 Z : List α} {n i : Nat} {x : α} (hi : i ≤ n) (hc : cs.length = n) (h0 : l = cs.take i ++ Z) (hz : n + 1 - i ≤ Z.length) (h1 : l1 = l.take i ++ [x] ++ l.drop (i + [x].length)) (h2 : l2 = l1.take (i + 1) ++ cs.drop i ++ l1.drop (i + 1 + (cs.drop i).length)) : l2.take (n + 1) = cs.take i ++ x :: cs.drop i := by
  have hA : (cs.take i).length = i := by rw [List.length_take]; omega
  have e1 : l.take i = cs.take i := by rw [h0, List.take_append_of_le_length (by omega), List.take_of_length_le (by omega)]
  have hB : (l.take i ++ [x]).length = i + 1 := by rw [e1]; simp; omega
  have e2 : l1.take (i + 1) = cs.take i ++ [x] := by rw [h1, ← hB, List.take_left, e1]
  have hL : (cs.take i ++ x :: cs.drop i).length = n + 1 := by simp; omega
  rw [h2, e2, show cs.take i ++ [x] ++ cs.drop i ++ l1.drop (i + 1 + (cs.drop i).length) = (cs.take i ++ x :: cs.drop i) ++ l1.drop (i + 1 + (cs.drop i).length) by simp, ← hL, List.take_left]
set_option maxHeartbeats 1000000 in
set_option maxRecDepth 100000 in
/-- slices.Insert of one value into a row of one's own. -/
theorem insI_own (base : Nat) (ok : Nat → Prop) (v : Value) (xs : List Int) (i : Nat) (x : Int) (vb : Nat) (w0 w : World) (HO : (Kd.int .i64).R 3 w base ok v xs) (hB : Below base w0 w) (hi : i ≤ xs.length)
    (hx : w.heap[vb]? = some (.cells #[.int .i64 x] 3 (0, 0))) (hne : some vb ≠ v.ownBlock) (hbase : base ≤ w.heap.size) (hlim : xs.length ≤ 1000000) :
    Calls Try.prog 31 #[v, .int .i64 i, .slice (some ⟨vb, 0, none⟩) 1 1] w fun e w' => ∃ v1, e = .returned v1 ∧ (Kd.int .i64).R 3 w' base (fun _ => True) v1 (xs.take i ++ x :: xs.drop i) ∧ Below base w0 w' ∧ w.grownBy w' v.ownBlock := by
  have hown := Kd.own_of_R HO
  have hvx : w.cell? ⟨vb, 0, none⟩ = some (.int .i64 x) := (blk_cell hx 0).trans rfl
  have hvs : ∀ j v, [Value.int .i64 x][j]? = some v → w.cell? ⟨vb, 0 + j, none⟩ = some v := by
    intro j v hj
    cases j with
    | zero => simp at hj; subst hj; exact hvx
    | succ j => simp at hj
  by_cases hin : i = xs.length
  · -- at the end
    subst hin
    have hRD : ReadsOf (Value.int .i64) (0 : Int) w (some ⟨vb, 0, none⟩) 1 [x] := ⟨rfl, by omega, fun _ => ⟨_, rfl, fun j hj => by
      obtain rfl : j = 0 := by omega
      exact hvx⟩⟩
    have HRD := Lib.hid hRD
    have HOW := Lib.hid hown
    have HBB := Lib.hid hB
    obtain ⟨A, c, rfl⟩ := own_slice hown
    have hAc : xs.length ≤ c := own_le hown
    have hc63 : c ≤ 9223372036854775807 := by
      rcases hown.2 with ⟨he, _⟩ | ⟨g, cap, cur, he, _, _, _, hm, _⟩
      · injection he with _ _ h3; omega
      · injection he with _ _ h3; unfold maxLen at hm; omega
    have hdr : ∀ W : World, ∃ A' : Option Addr, (Instr.slice 22 (.slice A xs.length c) (some (.int .i64 (xs.length : Int))) none none).run Try.prog W = .ok (.slice A' (xs.length - xs.length) (c - xs.length)) W := fun W => by
      obtain ⟨i0, hi0, _, hs0, _⟩ := info_parts info3
      obtain ⟨A', h1, _⟩ := print_cut_of (P := Try.prog) (Value.int .i64) (0 : Int) 22 3 .i64 Try.underlying22 hi0 hs0 A xs.length c xs.length (Nat.le_refl _)
      exact ⟨A', h1 W⟩
    obtain ⟨A', hcut⟩ := hdr w
    clear hdr hvs hvx hRD hown hB HO
    go_enter Try.func31, Try.ntmps31
    go_wp2_with (at_builtin; refine print_append_row_of (w0 := w0) (Value.int .i64) (0 : Int) base rfl _ _ 22 3 (.int .i64 0) 8 rfl Try.underlying22 info3 rfl (by decide) (fun _ => rfl) _ xs [x] (some ⟨vb, 0, none⟩) _ _ rfl rfl HOW.out HRD.out HBB.out hbase (by omega) ?_; intro v1 w1 hown1 hb1 hg1 _; have HO1 := Lib.hid hown1; have HB1 := Lib.hid hb1; have HG1 := Lib.hid hg1; clear hown1 hb1 hg1)
    go_ret
    refine ⟨_, rfl, Kd.R_of_own ?_ (fun _ _ => trivial), HB1.out, HG1.out⟩
    rw [List.take_length, List.drop_length]
    exact HO1.out
  · have hlt : i < xs.length := by omega
    rcases hown.2 with ⟨_, h0⟩ | ⟨g, cap, cur, rfl, hg, hh, hnc, hcm, hcs, htk⟩
    · omega
    simp only [Nat.mul_one] at hcs htk
    unfold maxLen at hcm
    have hcl : (encs (Value.int .i64) xs).length = xs.length := encs_length xs
    have h1c : ∀ u ∈ encs (Value.int .i64) xs, u.oneCell' = true := by
      intro u hu; simp only [encs, List.mem_map] at hu; obtain ⟨q, _, rfl⟩ := hu; rfl
    have h1v : ∀ u ∈ [Value.int .i64 x], u.oneCell' = true := by intro u hu; simp at hu; subst hu; rfl
    have hvg : vb ≠ g := fun e => hne (by rw [e]; rfl)
    have hcc : ∀ j u, (encs (Value.int .i64) xs)[j]? = some u → w.cell? ⟨g, 0 + j, none⟩ = some u := by
      intro j u hj
      rw [Nat.zero_add, blk_cell hh]
      have h2 : cur.toList[j]? = some u := by
        rw [← htk] at hj
        rw [List.getElem?_take] at hj
        split at hj
        · exact hj
        · cases hj
      rw [← Array.getElem?_toList]
      exact h2
    by_cases hroom : xs.length + 1 ≤ cap
    · refine (insI_shift g 0 xs.length cap i vb 0 1 1 (encs (Value.int .i64) xs) [.int .i64 x] w hlt (by omega) hroom (by omega) hvg hcl rfl hcc (fun j hj => ?_) (fun j hj => ?_) hvs h1c h1v 3 3 1 cap ?_ ?_ (by omega) ?_ ?_).mono ?_
      · rw [Nat.zero_add, blk_cell hh, Array.getElem?_eq_getElem (by omega)]; rfl
      · exact blk_frozen hh _
      · simp [World.shape?, hx]
      · simp [World.shape?, hh, hcs]
      · exact blk_frozen hx _
      · exact blk_frozen hx _
      rintro e w' ⟨rfl, rfl⟩
      simp only [Nat.zero_add]
      obtain ⟨cur1, a1, a2, a3⟩ := setCells_row ((encs (Value.int .i64) xs).drop i) (i + 1) w.drew cur (blk_drew hh) (by rw [List.length_drop, hcl]; omega)
      obtain ⟨cur2, b1, b2, b3⟩ := setCells_row [Value.int .i64 x] i _ cur1 a1 (by simp; omega)
      obtain ⟨s1, s2, s3, s4⟩ := setCells_same g ((encs (Value.int .i64) xs).drop i) (i + 1) w.drew
      obtain ⟨t1, t2, t3, t4⟩ := setCells_same g [Value.int .i64 x] i (w.drew.setCells g (i + 1) ((encs (Value.int .i64) xs).drop i))
      have hgb : w.grownBy ((w.drew.setCells g (i + 1) ((encs (Value.int .i64) xs).drop i)).setCells g i [Value.int .i64 x]) (some g) :=
        ⟨t1.trans s1, t2.trans s2, t3.trans s3, by rw [t4, s4]; exact Nat.le_refl _, fun k hk hne => by
          rw [setCells_far _ _ k (fun e => hne (by rw [e])), setCells_far _ _ k (fun e => hne (by rw [e]))]; rfl⟩
      refine ⟨_, rfl, Kd.R_of_own (enc := Value.int .i64) ⟨?_, .inr ⟨g, cap, cur2, ?_, hg, b1, ?_, ?_, ?_, ?_⟩⟩ (fun _ _ => trivial), hB.grown hgb hbase (fun k e => by cases e; exact hg), hgb⟩
      · rw [encs_length]; omega
      · congr 1; simp; omega
      · simp; omega
      · unfold maxLen; omega
      · rw [b2, a2]; omega
      · have := splice_shift (l := cur.toList) (cs := encs (Value.int .i64) xs) (n := xs.length) (i := i) (x := Value.int .i64 x) (by omega) hcl htk (by have : cur.toList.length = cur.size := Array.length_toList; omega) a3 b3
        have hle : (xs.take i ++ x :: xs.drop i).length * 1 = xs.length + 1 := by simp; omega
        rw [hle, this]
        simp [encs, List.map_take, List.map_drop]
    · refine (insI_grow g 0 xs.length cap i vb 0 1 1 (encs (Value.int .i64) xs) [.int .i64 x] w hlt (by omega) hnc (by omega) (by omega) hcl rfl hcc hvs h1c h1v).mono ?_
      rintro e w' ⟨rfl, rfl⟩
      generalize hG : grownCap w (xs.length + 1) cap 3 = G
      have hGn : xs.length + 1 ≤ G := by rw [← hG]; exact grownCap_ge w _ _ _
      have hG63 : G ≤ maxLen := by rw [← hG]; exact grownCap_le_maxLen w (xs.length + 1) cap 3 (by unfold maxLen; omega)
      generalize hR : ((encs (Value.int .i64) xs).take i).toArray ++ Builtin.zeroCells (Value.int .i64 0).cells (xs.length + 1 - i) ++ Builtin.zeroCells (Value.int .i64 0).cells (G - (xs.length + 1)) = ROW
      have hRs : ROW.size = G := by
        rw [← hR]
        simp [Builtin.zeroCells, Value.cells, hcl]
        omega
      have hRl : ROW.toList = (encs (Value.int .i64) xs).take i ++ ((Builtin.zeroCells (Value.int .i64 0).cells (xs.length + 1 - i)).toList ++ (Builtin.zeroCells (Value.int .i64 0).cells (G - (xs.length + 1))).toList) := by rw [← hR]; simp
      have h0 : ((w.alloc (.cells ROW 3)).drew).heap[w.heap.size]? = some (.cells ROW 3 (0, 0)) := heap_alloc_new w _
      obtain ⟨cur1, a1, a2, a3⟩ := setCells_row [Value.int .i64 x] i _ ROW h0 (by simp; omega)
      obtain ⟨cur2, b1, b2, b3⟩ := setCells_row (g := w.heap.size) ((encs (Value.int .i64) xs).drop i) (i + 1) (((w.alloc (.cells ROW 3)).drew.setCells w.heap.size i [Value.int .i64 x]).drew) cur1 a1 (by rw [List.length_drop, hcl]; omega)
      obtain ⟨s1, s2, s3, s4⟩ := setCells_same w.heap.size [Value.int .i64 x] i ((w.alloc (.cells ROW 3)).drew)
      obtain ⟨t1, t2, t3, t4⟩ := setCells_same w.heap.size ((encs (Value.int .i64) xs).drop i) (i + 1) (((w.alloc (.cells ROW 3)).drew.setCells w.heap.size i [Value.int .i64 x]).drew)
      have hgb : ∀ row, w.grownBy ((((w.alloc (.cells ROW 3)).drew.setCells w.heap.size i [Value.int .i64 x]).drew).setCells w.heap.size (i + 1) ((encs (Value.int .i64) xs).drop i)) row := fun row =>
        ⟨t1.trans s1, t2.trans s2, t3.trans s3, by rw [t4]; show w.heap.size ≤ (World.setCells _ _ _ _).heap.size; rw [s4]; simp, fun k hk hne => by
          rw [setCells_far _ _ k (by omega)]
          show (World.setCells _ _ _ _).heap[k]? = _
          rw [setCells_far _ _ k (by omega)]
          exact Below.heap_alloc w _ k hk⟩
      refine ⟨_, rfl, Kd.R_of_own (enc := Value.int .i64) ⟨?_, .inr ⟨w.heap.size, G, cur2, ?_, hbase, b1, ?_, hG63, ?_, ?_⟩⟩ (fun _ _ => trivial), hB.grown (hgb none) hbase (fun k e => by cases e), hgb _⟩
      · rw [encs_length]; omega
      · congr 1; simp; omega
      · simp; omega
      · rw [b2, a2, hRs]; omega
      · have := splice_grow (l := ROW.toList) (cs := encs (Value.int .i64) xs) (n := xs.length) (i := i) (x := Value.int .i64 x) (by omega) hcl hRl (by first | (simp [Builtin.zeroCells, Value.cells]; done) | (simp [Builtin.zeroCells, Value.cells]; omega)) a3 b3
        have hle : (xs.take i ++ x :: xs.drop i).length * 1 = xs.length + 1 := by simp; omega
        rw [hle, this]
        simp [encs, List.map_take, List.map_drop]
end Go.Proofs.Ytfbegchhgigjeaa.PC
end
section
set_option linter.unusedVariables false
set_option linter.unusedSimpArgs false
namespace Go.Proofs.YtfbegchhgigjeaaH
open Go.RowKit Go.Proofs.YtfbegchhgigjeaaW.PrintWords Go.Proofs.YtfbegchhgigjeaaW.PrintLast Go.Proofs.YtfbegchhgigjeaaW.PrintMore
section
variable {P : Program} {o : Oper} {a : Act} {K : Act → World → Prop} {Q : Exit → Act → World → Prop} {W : World} {b : Bool} {L : Prop}
end
theorem grown_setCell (W : World) (g j : Nat) (u : Value) : W.grownBy (W.setCell ⟨g, j, none⟩ u) (some g) :=
  ⟨rfl, rfl, rfl, by show W.heap.size ≤ (W.setCell ⟨g, j, none⟩ u).heap.size; simp [World.setCell], fun k hk hne => Below.heap_setCell W ⟨g, j, none⟩ u k (fun e => hne (by rw [e]))⟩
/-- What is kept through a region: the frame, a box of one's own, a row of one's own. -/
def Inv1 (w : World) (g : Nat) (cs : Array Value) (v : Value) (ys : List Int) (W : World) : Prop :=
  Below w.heap.size w W ∧ W.heap[g]? = some (.cells cs 39 (0, 0)) ∧ (Kd.int .i64).R 3 W w.heap.size (fun _ => True) v ys
theorem Inv1.step {w W W1 : World} {g : Nat} {cs : Array Value} {v : Value} {ys : List Int} (h : Inv1 w g cs v ys W) (hb : Below W.heap.size W W1) : Inv1 w g cs v ys W1 :=
  ⟨below_then h.1 h.1.size hb, blk_below h.2.1 hb, Kd.R_below h.2.2 hb⟩
theorem Inv1.drew {w W : World} {g : Nat} {cs : Array Value} {v : Value} {ys : List Int} (h : Inv1 w g cs v ys W) : Inv1 w g cs v ys W.drew := h.step (below_drew (Below.refl _ _))
theorem Inv1.grown {w W W1 : World} {g x : Nat} {cs ds : Array Value} {v : Value} {ys : List Int} (h : Inv1 w g cs v ys W) (hx : W.heap[x]? = some (.cells ds 39 (0, 0))) (hwx : w.heap.size ≤ x) (hne : x ≠ g) (hg : W.grownBy W1 (some x)) : Inv1 w g cs v ys W1 :=
  ⟨below_own h.1 hg hwx h.1.size, blk_grown h.2.1 hg (by simp; omega), Kd.R_grown1 h.2.2 rfl hg (Kd.R_ne h.2.2 hx (by decide))⟩
theorem box_facts {W : World} {g : Nat} {a b c d : Value} (h : W.heap[g]? = some (.cells #[a, b, c, d] 39 (0, 0))) : W.cell? ⟨g, 0, none⟩ = some a ∧ W.cell? ⟨g, 1, none⟩ = some b ∧ W.cell? ⟨g, 2, none⟩ = some c ∧ W.cell? ⟨g, 3, none⟩ = some d ∧ W.frozen? ⟨g, 0, none⟩ = false ∧ W.frozen? ⟨g, 1, none⟩ = false ∧ W.frozen? ⟨g, 2, none⟩ = false ∧ W.frozen? ⟨g, 3, none⟩ = false :=
  ⟨(blk_cell h 0).trans rfl, (blk_cell h 1).trans rfl, (blk_cell h 2).trans rfl, (blk_cell h 3).trans rfl, blk_frozen h 0, blk_frozen h 1, blk_frozen h 2, blk_frozen h 3⟩
theorem Inv1.c1 {w W : World} {g : Nat} {a b c d v : Value} {ys : List Int} (h : Inv1 w g #[a, b, c, d] v ys W) : W.cell? ⟨g, 1, none⟩ = some b := (blk_cell h.2.1 1).trans rfl
theorem Inv1.c2 {w W : World} {g : Nat} {a b c d v : Value} {ys : List Int} (h : Inv1 w g #[a, b, c, d] v ys W) : W.cell? ⟨g, 2, none⟩ = some c := (blk_cell h.2.1 2).trans rfl
theorem Inv1.alloc {w W : World} {g : Nat} {cs : Array Value} {v : Value} {ys : List Int} (h : Inv1 w g cs v ys W) (o : Obj) : Inv1 w g cs v ys (W.alloc o) := h.step (below_alloc (Below.refl _ _) _)
theorem new_box {w W w1 : World} {g : Nat} {cs : Array Value} {v : Value} {ys : List Int} {o : Obj} (h : Inv1 w g cs v ys W) (hb : Below (W.alloc o).heap.size (W.alloc o) w1) : w1.heap[W.heap.size]? = some o ∧ W.heap.size ≠ g ∧ w.heap.size ≤ W.heap.size :=
  ⟨blk_below (heap_alloc_new W o) hb, Nat.ne_of_gt (blk_lt h.2.1), h.1.size⟩
theorem new_box_drew {w W w1 : World} {g : Nat} {cs : Array Value} {v : Value} {ys : List Int} {o : Obj} (h : Inv1 w g cs v ys W.drew) (hb : Below (W.alloc o).drew.heap.size (W.alloc o).drew w1) : w1.heap[W.heap.size]? = some o ∧ W.heap.size ≠ g ∧ w.heap.size ≤ W.heap.size :=
  ⟨blk_below (w := (W.alloc o).drew) (heap_alloc_new W o) hb, Nat.ne_of_gt (blk_lt h.2.1 : g < W.heap.size), h.1.size⟩
theorem four_far {W : World} {g6 g9 j : Nat} {a b c d v : Value} (hn : g9 ≠ g6) (h : W.cell? ⟨g6, j, none⟩ = some v) : ((((W.setCell ⟨g9, 0, none⟩ a).setCell ⟨g9, 1, none⟩ b).setCell ⟨g9, 2, none⟩ c).setCell ⟨g9, 3, none⟩ d).cell? ⟨g6, j, none⟩ = some v := by
  rw [World.cell?_setCell_far _ _ _ _ hn, World.cell?_setCell_far _ _ _ _ hn, World.cell?_setCell_far _ _ _ _ hn, World.cell?_setCell_far _ _ _ _ hn]
  exact h
/-- A box of one's own is filled, cell by cell. -/
theorem four_sets {w W : World} {g6 g9 : Nat} {cs : Array Value} {z0 z1 z2 z3 a b c d v va : Value} {ys zs : List Int} (HQ : Inv1 w g6 cs v ys W) (hx9 : W.heap[g9]? = some (.cells #[z0, z1, z2, z3] 39 (0, 0))) (hn : g9 ≠ g6) (h9 : w.heap.size ≤ g9) (hv : Kd.R (Kd.int .i64) 3 W w.heap.size (fun _ => True) va zs) :
    Inv1 w g6 cs v ys ((((W.setCell ⟨g9, 0, none⟩ a).setCell ⟨g9, 1, none⟩ b).setCell ⟨g9, 2, none⟩ c).setCell ⟨g9, 3, none⟩ d) ∧ ((((W.setCell ⟨g9, 0, none⟩ a).setCell ⟨g9, 1, none⟩ b).setCell ⟨g9, 2, none⟩ c).setCell ⟨g9, 3, none⟩ d).heap[g9]? = some (.cells #[a, b, c, d] 39 (0, 0)) ∧
    Kd.R (Kd.int .i64) 3 ((((W.setCell ⟨g9, 0, none⟩ a).setCell ⟨g9, 1, none⟩ b).setCell ⟨g9, 2, none⟩ c).setCell ⟨g9, 3, none⟩ d) w.heap.size (fun _ => True) va zs := by
  have x1 := blk_set hx9 0 a
  have q1 := HQ.grown hx9 h9 hn (grown_setCell W g9 0 a)
  have v1 := Kd.R_grown1 hv rfl (grown_setCell W g9 0 a) (Kd.R_ne hv hx9 (by decide))
  have x2 := blk_set x1 1 b
  have q2 := q1.grown x1 h9 hn (grown_setCell _ g9 1 b)
  have v2 := Kd.R_grown1 v1 rfl (grown_setCell _ g9 1 b) (Kd.R_ne v1 x1 (by decide))
  have x3 := blk_set x2 2 c
  have q3 := q2.grown x2 h9 hn (grown_setCell _ g9 2 c)
  have v3 := Kd.R_grown1 v2 rfl (grown_setCell _ g9 2 c) (Kd.R_ne v2 x2 (by decide))
  have x4 := blk_set x3 3 d
  have q4 := q3.grown x3 h9 hn (grown_setCell _ g9 3 d)
  have v4 := Kd.R_grown1 v3 rfl (grown_setCell _ g9 3 d) (Kd.R_ne v3 x3 (by decide))
  exact ⟨q4, x4, v4⟩
theorem two_sets {w W : World} {g6 g9 : Nat} {x0 v1 x2 x3 u1 u2 v va : Value} {ys zs : List Int} {o9 : Array Value} (HQ : Inv1 w g6 #[x0, v1, x2, x3] v ys W) (hx9 : W.heap[g9]? = some (.cells o9 39 (0, 0))) (hn : g9 ≠ g6) (h6 : w.heap.size ≤ g6) (hv : Kd.R (Kd.int .i64) 3 W w.heap.size (fun _ => True) va zs) :
    ((W.setCell ⟨g6, 1, none⟩ u1).setCell ⟨g6, 2, none⟩ u2).drew.heap[g6]? = some (.cells #[x0, u1, u2, x3] 39 (0, 0)) ∧ ((W.setCell ⟨g6, 1, none⟩ u1).setCell ⟨g6, 2, none⟩ u2).drew.heap[g9]? = some (.cells o9 39 (0, 0)) ∧
    Below w.heap.size w ((W.setCell ⟨g6, 1, none⟩ u1).setCell ⟨g6, 2, none⟩ u2).drew ∧ Kd.R (Kd.int .i64) 3 ((W.setCell ⟨g6, 1, none⟩ u1).setCell ⟨g6, 2, none⟩ u2).drew w.heap.size (fun _ => True) va zs ∧ Kd.R (Kd.int .i64) 3 ((W.setCell ⟨g6, 1, none⟩ u1).setCell ⟨g6, 2, none⟩ u2).drew w.heap.size (fun _ => True) v ys := by
  obtain ⟨hb, hx, hr⟩ := HQ
  have a1 := blk_set hx 1 u1
  have g1 := grown_setCell W g6 1 u1
  have a2 := blk_set a1 2 u2
  have g2 := grown_setCell (W.setCell ⟨g6, 1, none⟩ u1) g6 2 u2
  have b1 := below_own hb g1 h6 hb.size
  have b2 := below_own b1 g2 h6 b1.size
  refine ⟨a2, ?_, below_drew1 b2, Kd.R_drew ?_, Kd.R_drew ?_⟩
  · exact (blk_grown (blk_grown hx9 g1 (by simpa using hn)) g2 (by simpa using hn) : ((W.setCell ⟨g6, 1, none⟩ u1).setCell ⟨g6, 2, none⟩ u2).heap[g9]? = _)
  · have r1 := Kd.R_grown1 hv rfl g1 (Kd.R_ne hv hx (by decide))
    exact Kd.R_grown1 r1 rfl g2 (Kd.R_ne r1 a1 (by decide))
  · have r1 := Kd.R_grown1 hr rfl g1 (Kd.R_ne hr hx (by decide))
    exact Kd.R_grown1 r1 rfl g2 (Kd.R_ne r1 a1 (by decide))
end Go.Proofs.YtfbegchhgigjeaaH
end
section
namespace Go.Proofs.Ytfbegchhgigjeaa.PC
open Go.RowKit Go.Proofs.YtfbegchhgigjeaaW.PrintWords Go.Proofs.YtfbegchhgigjeaaW.PrintLast Go.Proofs.YtfbegchhgigjeaaW.PrintMore Go.Proofs.YtfbegchhgigjeaaH
set_option linter.unusedVariables false
set_option linter.unusedSimpArgs false
def insertAt (l0 : List S39) (id : Int) (c : S39) : Option (List S39 × Int) :=
  if (putAt id c.f1).length ≤ 4 then some ([⟨c.f0, putAt id c.f1, c.f2, c.f3⟩], 0)
  else (chunk_fresh.f l0).bind fun no => some ([⟨c.f0, (putAt id c.f1).take 3, no, c.f3⟩, ⟨no, (putAt id c.f1).drop 3, c.f2, false⟩], 0)
def chunk_Insert.f (l0 : List S39) (id : Int) : Option (List S39 × Int) :=
  if l0.length ≤ 100000 ∧ (idsOf l0).length ≤ 100000 then
    if rightGo true (-1) [] l0 = false then some ([], 100)
    else if id < 0 ∨ id ≥ 1099511627776 then some ([], 2)
    else if (idsOf l0).contains id = true then some ([], 31)
    else if l0.length = 0 then some ([⟨0, [id], 0, false⟩], 0)
    else insertAt l0 id (rd_T39 l0 (placeGo id 0 0 l0))
  else none
def InsPost (w : World) (r1 : List S39) (r2 : Int) (e : Ending) (w' : World) : Prop :=
  ∃ v0_ : Value, e = .returned (.tuple #[v0_, .int .i64 r2]) ∧ Kd.N k39 39 w' w.heap.size (fun k_ => (w.heap.size ≤ k_)) v0_ r1 ∧ Below w.heap.size w w'
set_option maxHeartbeats 1000000 in
set_option maxRecDepth 100000 in
theorem ins_wrong (A0 : Option Addr) (c0 : Nat) (l0 : List S39) (a1 : Int) (w : World) (hr0 : Kd.C k39 w A0 l0.length l0) (hc0 : l0.length ≤ c0) (hf : chunk_Right.f l0 = some false) : Calls Try.prog 9 #[.slice A0 l0.length c0, .int .i64 a1] w (InsPost w [] 100) := by
  have HC := Lib.hid (chunk_Right.calls A0 c0 l0 false w hr0 hc0 hf)
  clear hr0 hf hc0
  go_enter Try.func9, Try.ntmps9
  go_wp2_with (go_at_call 11; refine HC.out.mono ?_; rintro e w1 ⟨rfl, hb⟩)
  go_ret2
  exact ⟨_, rfl, Kd.N_nil _ _ _ _ _, ‹_›⟩
set_option maxHeartbeats 1000000 in
set_option maxRecDepth 100000 in
theorem ins_arg (A0 : Option Addr) (c0 : Nat) (l0 : List S39) (a1 : Int) (w : World) (hr0 : Kd.C k39 w A0 l0.length l0) (hc0 : l0.length ≤ c0) (hf : chunk_Right.f l0 = some true) (ha : a1 < 0 ∨ a1 ≥ 1099511627776) : Calls Try.prog 9 #[.slice A0 l0.length c0, .int .i64 a1] w (InsPost w [] 2) := by
  have HC := Lib.hid (chunk_Right.calls A0 c0 l0 true w hr0 hc0 hf)
  clear hr0 hf hc0
  by_cases h1 : a1 < 0
  · have h1b : decide (a1 < 0) = true := decide_eq_true h1
    clear h1 ha
    go_enter Try.func9, Try.ntmps9
    go_wp2_with (go_at_call 11; refine HC.out.mono ?_; rintro e w1 ⟨rfl, hb⟩)
    go_ret2
    exact ⟨_, rfl, Kd.N_nil _ _ _ _ _, ‹_›⟩
  · have h2 : 1099511627776 ≤ a1 := by omega
    have h1b : decide (a1 < 0) = false := decide_eq_false h1
    have h2b : decide (1099511627776 ≤ a1) = true := decide_eq_true h2
    clear ha
    go_enter Try.func9, Try.ntmps9
    go_wp2_with (go_at_call 11; refine HC.out.mono ?_; rintro e w1 ⟨rfl, hb⟩)
    go_ret2
    exact ⟨_, rfl, Kd.N_nil _ _ _ _ _, ‹_›⟩
/-- What holds ahead of the search for a place. -/
structure Pre (A0 : Option Addr) (c0 : Nat) (l0 : List S39) (a1 : Int) (w : World) : Prop where
  r : Kd.C k39 w A0 l0.length l0
  c : l0.length ≤ c0
  right : chunk_Right.f l0 = some true
  lo : 0 ≤ a1
  hi : a1 < 1099511627776
  len : l0.length ≤ 100000
  ids : (idsOf l0).length ≤ 100000
set_option maxHeartbeats 1000000 in
set_option maxRecDepth 100000 in
theorem ins_twice (A0 : Option Addr) (c0 : Nat) (l0 : List S39) (a1 : Int) (w : World) (H : Pre A0 c0 l0 a1 w) (hk : (idsOf l0).contains a1 = true) : Calls Try.prog 9 #[.slice A0 l0.length c0, .int .i64 a1] w (InsPost w [] 31) := by
  have HC := Lib.hid (chunk_Right.calls A0 c0 l0 true w H.r H.c H.right)
  have hlo := H.lo
  have hhi := H.hi
  have HP := Lib.hid H
  have HK := Lib.hid hk
  clear H hk
  go_enter Try.func9, Try.ntmps9
  go_wp2_with (first | (go_at_call 11; refine HC.out.mono ?_; rintro e w1 ⟨rfl, hb⟩; have HB1 := Lib.hid hb; clear hb) | (go_at_call 13; refine (chunk_IDs.calls (l0.length + 1) A0 c0 l0 (idsOf l0) _ (Kd.C_below HP.out.r HB1.out) HP.out.c (IDs_spec l0 (by have := HP.out.len; omega) (by have := HP.out.ids; omega) _ (by omega))).mono ?_; rintro e w2 ⟨v2, rfl, hv, hb⟩; obtain ⟨A2, c2, rfl, hl2, hC2⟩ := Kd.R_reads hv; have HB2 := Lib.hid (below_then HB1.out HB1.out.size hb); have HC2 := Lib.hid hC2; have HL2 := Lib.hid hl2; clear hv hb hC2 hl2) | (go_at_call 27; refine (slices_Contains_int_int.calls ((idsOf l0).length + 1) A2 c2 (idsOf l0) a1 true _ HC2.out HL2.out (by rw [Contains_spec _ _ (by have := HP.out.ids; omega) _ (by omega), HK.out])).mono ?_; rintro e w3 ⟨rfl, hd⟩; have HB3 := Lib.hid (below_then HB2.out HB2.out.size hd.below); clear hd))
  go_ret2
  exact ⟨_, rfl, Kd.N_nil _ _ _ _ _, HB3.out⟩
set_option maxHeartbeats 1000000 in
set_option maxRecDepth 100000 in
theorem ins_first (A0 : Option Addr) (c0 : Nat) (l0 : List S39) (a1 : Int) (w : World) (H : Pre A0 c0 l0 a1 w) (hk : (idsOf l0).contains a1 = false) (h0 : l0.length = 0) : Calls Try.prog 9 #[.slice A0 l0.length c0, .int .i64 a1] w (InsPost w [⟨0, [a1], 0, false⟩] 0) := by
  have HC := Lib.hid (chunk_Right.calls A0 c0 l0 true w H.r H.c H.right)
  have hlo := H.lo
  have hhi := H.hi
  have HP := Lib.hid H
  have HK := Lib.hid hk
  have h0b : ((l0.length : Int) == 0) = true := by rw [h0]; rfl
  have h0c : (l0.length == 0) = true := by rw [h0]; rfl
  clear H hk h0
  go_enter Try.func9, Try.ntmps9
  go_wp2_with (first | (go_at_call 11; refine HC.out.mono ?_; rintro e w1 ⟨rfl, hb⟩; have HB1 := Lib.hid hb; clear hb) | (go_at_call 13; refine (chunk_IDs.calls (l0.length + 1) A0 c0 l0 (idsOf l0) _ (Kd.C_below HP.out.r HB1.out) HP.out.c (IDs_spec l0 (by have := HP.out.len; omega) (by have := HP.out.ids; omega) _ (by omega))).mono ?_; rintro e w2 ⟨v2, rfl, hv, hb⟩; obtain ⟨A2, c2, rfl, hl2, hC2⟩ := Kd.R_reads hv; have HB2 := Lib.hid (below_then HB1.out HB1.out.size hb); have HC2 := Lib.hid hC2; have HL2 := Lib.hid hl2; clear hv hb hC2 hl2) | (go_at_call 27; refine (slices_Contains_int_int.calls ((idsOf l0).length + 1) A2 c2 (idsOf l0) a1 false _ HC2.out HL2.out (by rw [Contains_spec _ _ (by have := HP.out.ids; omega) _ (by omega), HK.out])).mono ?_; rintro e w3 ⟨rfl, hd⟩; have HB3 := Lib.hid (below_then HB2.out HB2.out.size hd.below); clear hd))
  go_ret2
  refine ⟨_, rfl, N_one39 ⟨0, [a1], 0, false⟩ (heap_alloc2_new w3 _ _) (by have := HB3.out.size; omega) (by have := HB3.out.size; omega) (Nat.le_refl _) ?_, below_alloc (below_alloc HB3.out _) _⟩
  have hown := (own_lit_of (enc := Value.int .i64) w3 w.heap.size 3 [a1] HB3.out.size (by simp)).alloc (.cells #[.int .i64 0, .slice (some ⟨w3.heap.size, 0, none⟩) 1 1, .int .i64 0, .bool false] 39)
  exact (F_row (xs := [a1]) (ok := fun k => w.heap.size ≤ k ∧ k ≠ w3.heap.size + 1) (Kd.R_of_own (h1 := fun _ => rfl) hown (fun k hk => by simp [Value.ownBlock] at hk; subst hk; exact ⟨HB3.out.size, by omega⟩))).2.2
theorem own_eq (c : S39) (h : c.f1.length ≤ 1000000) : chunk_own.f c.f0 c.f1 c.f2 c.f3 = some (c.f0, c.f1, c.f2, c.f3) := by
  unfold chunk_own.f slices_Clone_int_int.f
  rw [if_pos (by omega)]
  rfl
theorem putAt_len (x : Int) (l : List Int) : (putAt x l).length = l.length + 1 := by
  unfold putAt
  have h := congrArg List.length (List.takeWhile_append_dropWhile (p := fun y => decide (y < x)) (l := l))
  simp only [List.length_append, List.length_cons] at h ⊢
  omega
theorem drop_own {W : World} {base : Nat} {ok : Nat → Prop} {A : Option Addr} {c m : Nat} {xs : List Int} (h : Kd.R (Kd.int .i64) 3 W base ok (.slice A xs.length c) xs) (hm : m ≤ xs.length) (hc : ¬ (c = m)) : Kd.C (Kd.int .i64) W (A.map (·.add (m * 1))) (xs.drop m).length (xs.drop m) := by
  have hcd := Kd.C_drop (Kd.R_reads' h).2.2 hm (Kd.R_reads' h).2.1
  rw [if_neg hc] at hcd
  exact hcd
/-- Clone's contract, the length said in whatever form. -/
theorem clone_at {A : Option Addr} {n c : Nat} {xs : List Int} {w : World} (hn : n = xs.length) (hr : Kd.C (Kd.int .i64) w A xs.length xs) (hc : n ≤ c) (hl : xs.length ≤ 1000000) :
    Calls Try.prog 33 #[.slice A n c] w fun e w' => ∃ A' c', e = .returned (.slice A' n c') ∧ n ≤ c' ∧ Kd.R (Kd.int .i64) 3 w' w.heap.size (fun _ => True) (.slice A' n c') xs ∧ Below w.heap.size w w' := by
  subst hn
  refine (slices_Clone_int_int.calls A c xs xs w hr hc (if_pos (by omega))).mono ?_
  rintro e w1 ⟨v, rfl, hv, hb⟩
  obtain ⟨A1, c1, rfl, h1, _⟩ := Kd.R_reads hv
  exact ⟨A1, c1, rfl, h1, hv, hb⟩
set_option maxHeartbeats 4000000 in
set_option maxRecDepth 100000 in
theorem ins_main (A0 : Option Addr) (c0 : Nat) (l0 : List S39) (a1 : Int) (w : World) (H : Pre A0 c0 l0 a1 w) (hk : (idsOf l0).contains a1 = false) (h0 : l0.length ≠ 0) (r1 : List S39) (r2 : Int) (h : insertAt l0 a1 (rd_T39 l0 (placeGo a1 0 0 l0)) = some (r1, r2)) :
    Calls Try.prog 9 #[.slice A0 l0.length c0, .int .i64 a1] w (InsPost w r1 r2) := by
  have hu39 := Try.underlying39
  have HC := Lib.hid (chunk_Right.calls A0 c0 l0 true w H.r H.c H.right)
  have hlo := H.lo
  have hhi := H.hi
  have HP := Lib.hid H
  have HK := Lib.hid hk
  obtain ⟨hp0, hp1⟩ := placeGo_range a1 l0 0 0 l0.length (by omega) (by omega) (by omega) (by omega)
  obtain ⟨pn, hpn⟩ := Int.eq_ofNat_of_zero_le hp0
  have HPL := Lib.hid (show chunk_place.f (l0.length + 1) l0 a1 = some (pn : Int) by rw [place_spec l0 a1 (by have := H.len; omega) _ (by omega), hpn])
  have hpl : pn < l0.length := by omega
  obtain ⟨ad, A1, c1, e1, hx0, hx1, hx2, hx3, hl1, hi1⟩ := at_T39 H.r (pn : Int) (by omega) (by omega)
  have hmem : rd_T39 l0 (pn : Int) ∈ l0 := by simp [rd_T39, List.getD_eq_getElem?_getD, List.getElem?_eq_getElem hpl]
  obtain ⟨hs1, hs2, hs3⟩ := rightGo_mem (by have := H.right; unfold chunk_Right.f at this; exact Option.some.inj this) _ hmem
  rw [hpn] at h
  have HH := Lib.hid h
  have HE := Lib.hid e1
  simp only [Int.toNat_natCast] at hx0 hx1 hx2 hx3
  generalize rd_T39 l0 (pn : Int) = c at *
  have HX0 := Lib.hid hx0
  have HX1 := Lib.hid hx1
  have HX2 := Lib.hid hx2
  have HX3 := Lib.hid hx3
  have HL1 := Lib.hid hl1
  have HI1 := Lib.hid hi1
  obtain ⟨p, b, hbs, hat⟩ := search_spec c.f1 a1 hs1 (by omega) (c.f1.length + 1) (by omega)
  have HBS := Lib.hid hbs
  have HAT := Lib.hid hat
  have hpl2 := hat.le
  have HS3 := Lib.hid hs3
  have hb0 : ((l0.length : Int) == 0) = false := beq_eq_false_iff_ne.mpr (by omega)
  have hb1 : (l0.length == 0) = false := beq_eq_false_iff_ne.mpr h0
  have hm64 : l0.length ≤ 100000 := H.len
  clear H hk h0 hp0 hp1 hpn h e1 hx0 hx1 hx2 hx3 hl1 hi1 hs1 hs3 hmem hbs hat
  subst HE
  go_enter Try.func9, Try.ntmps9
  go_wp2_with (first | (go_at_call 11; refine HC.out.mono ?_; rintro e w1 ⟨rfl, hb⟩; have HB1 := Lib.hid hb; clear hb) | (go_at_call 13; refine (chunk_IDs.calls (l0.length + 1) _ c0 l0 (idsOf l0) _ (Kd.C_below HP.out.r HB1.out) HP.out.c (IDs_spec l0 (by have := HP.out.len; omega) (by have := HP.out.ids; omega) _ (by omega))).mono ?_; rintro e w2 ⟨v2, rfl, hv, hb⟩; obtain ⟨A2, c2, rfl, hl2, hC2⟩ := Kd.R_reads hv; have HB2 := Lib.hid (below_then HB1.out HB1.out.size hb); have HC2 := Lib.hid hC2; have HL2 := Lib.hid hl2; clear hv hb hC2 hl2) | (go_at_call 27; refine (slices_Contains_int_int.calls ((idsOf l0).length + 1) A2 c2 (idsOf l0) a1 false _ HC2.out HL2.out (by rw [Contains_spec _ _ (by have := HP.out.ids; omega) _ (by omega), HK.out])).mono ?_; rintro e w3 ⟨rfl, hd⟩; have HB3 := Lib.hid (below_then HB2.out HB2.out.size hd.below); clear hd) | (go_at_call 29; refine (chunk_place.calls (l0.length + 1) _ c0 l0 a1 (pn : Int) _ (Kd.C_below HP.out.r HB3.out) HP.out.c HPL.out).mono ?_; rintro e w4 ⟨rfl, hb⟩; have HB4 := Lib.hid (below_then HB3.out HB3.out.size hb); clear hb; have hx0 := pw_cell_below HB4.out HX0.out; have hx1 := pw_cell_below HB4.out HX1.out; have hx2 := pw_cell_below HB4.out HX2.out; have hx3 := pw_cell_below HB4.out HX3.out) | (go_at_call 28; refine (chunk_own.calls c.f0 A1 c1 c.f1 c.f2 c.f3 c.f0 c.f1 c.f2 c.f3 _ (Kd.C_below HI1.out HB4.out) HL1.out (own_eq c (by omega))).mono ?_; rintro e w5 ⟨v5, rfl, hv, hb⟩; obtain ⟨A5, c5, rfl, hl5, hC5⟩ := Kd.R_reads hv; have HV5 := Lib.hid (Kd.R_lower hv HB4.out.size); have HB5 := Lib.hid (below_then HB4.out HB4.out.size hb); clear hv hb hC5 hl5 hx0 hx1 hx2 hx3) | ((with_reducible refine gate_dst (N := 6) rfl ?_); refine box_event ?hg (N := 6) ?hd (cs := #[.int .i64 0, .slice none 0 0, .int .i64 0, .bool false]) (t := 39) ?hr ?_; (case hd => rfl); (case hg => rfl); (case hr => first | (go_simp; done) | (go_simp; rfl)); intro g6 hg w6 hbox hb; have HG6 := Lib.hid (show w.heap.size ≤ g6 by rw [hg]; exact HB5.out.size); have HX6 := Lib.hid hbox; have HV6 := Lib.hid (Kd.R_below HV5.out hb); have HB6 := Lib.hid (below_then HB5.out HB5.out.size hb); clear hg hbox hb) | ((with_reducible refine gate_store (t := 39) (p := 6) rfl ?_); refine store_row rfl rfl rfl g6 _ 39 [.int .i64 c.f0, .slice A5 c.f1.length c5, .int .i64 c.f2, .bool c.f3] rfl (.agg #[.int .i64 c.f0, .slice A5 c.f1.length c5, .int .i64 c.f2, .bool c.f3]) rfl rfl HX6.out rfl (by kernel_rfl) (one39 (.bool true) _ (.bool true) rfl _ _ _) ?_; intro w7 hbox hg hz; have HX7 := Lib.hid hbox; have HV7 := Lib.hid (Kd.R_grown1 HV6.out rfl hg (Kd.R_ne HV6.out HX6.out (by decide))); have HB7 := Lib.hid (below_own HB6.out hg HG6.out HB6.out.size); clear hbox hg hz; refine Hold.go ?_))
  have hc7 : w7.cell? ⟨g6, 1, none⟩ = some (.slice A5 c.f1.length c5) := (blk_cell HX7.out 1).trans rfl
  refine Hold.of ?_
  go_wp2_with (first | (go_at_call 30; refine (slices_BinarySearch_int_int.calls (c.f1.length + 1) A5 c5 c.f1 a1 (p : Int) b _ (Kd.F_now (F_row HV7.out).2.2) (F_row HV7.out).2.1 HBS.out).mono ?_; rintro e w8 ⟨rfl, hd⟩; have HX8 := Lib.hid (blk_below HX7.out hd.below); have HV8 := Lib.hid (Kd.R_below HV7.out hd.below); have HB8 := Lib.hid (below_then HB7.out HB7.out.size hd.below); clear hd; have hc8 : w8.cell? ⟨g6, 1, none⟩ = some (.slice A5 c.f1.length c5) := (blk_cell HX8.out 1).trans rfl) | ((with_reducible refine gate_dst (N := 52) rfl ?_); refine alloc_event ?hg (N := 52) ?hd (fun g => .slice (some ⟨g, 0, none⟩) 1 1) (.cells #[.int .i64 a1] 3 (0, 0)) ?hr ?_; (case hd => rfl); (case hg => rfl); (case hr => first | (go_simp; done) | (go_simp; rfl)); intro g9 hg w9 hbox hb; have HG9 := Lib.hid hg; have HX9 := Lib.hid hbox; have HY9 := Lib.hid (blk_below HX8.out hb); have HV9 := Lib.hid (Kd.R_below HV8.out hb); have HB9 := Lib.hid (below_then HB8.out HB8.out.size hb); clear hg hbox hb hc8) | (go_at_call 31; refine (insI_own w.heap.size (fun _ => True) _ c.f1 p a1 g9 w _ HV9.out HB9.out hpl2 HX9.out (fun e_ => by have h1 := Kd.R_lt HV8.out _ e_.symm; have h2 := HG9.out; omega) HB9.out.size (by omega)).mono ?_; rintro e w10 ⟨v10, rfl, hv, hb, hg⟩; obtain ⟨A10, c10, rfl⟩ := Kd.R_slice hv; rw [putAt_eq HAT.out] at hv ⊢; have HY10 := Lib.hid (blk_grown HY9.out hg (Kd.R_ne HV9.out HY9.out (by decide))); have HV10 := Lib.hid hv; have HB10 := Lib.hid hb; clear hv hb hg) | ((with_reducible refine gate_store (t := 22) (p := 54) rfl ?_); refine store_cell rfl rfl rfl g6 1 _ 39 rfl (.slice A10 (putAt a1 c.f1).length c10) rfl rfl HY10.out (by simp) (by kernel_rfl) rfl ?_; intro w11 hbox hg hz; have HX11 := Lib.hid (show w11.heap[g6]? = some (.cells #[.int .i64 c.f0, .slice A10 (putAt a1 c.f1).length c10, .int .i64 c.f2, .bool c.f3] 39 (0, 0)) from hbox); have HV11 := Lib.hid (Kd.R_grown1 HV10.out rfl hg (Kd.R_ne HV10.out HY10.out (by decide))); have HB11 := Lib.hid (below_own HB10.out hg HG6.out HB10.out.size); clear hbox hg hz; refine Hold.go ?_))
  refine Hold.of ?_
  have HH2 := HH.out
  clear HH
  unfold insertAt at HH2
  have hi6 : (putAt a1 c.f1).length ≤ 1000000 := by have h1 : (putAt a1 c.f1).length = c.f1.length + 1 := putAt_len _ _; omega
  generalize putAt a1 c.f1 = ids at *
  have HH := Lib.hid HH2
  clear HX8 HV8 HB8 HB7 HV7 HX7 HB6 HV6 HX6 HB5 HV5 HX9 HY9 HV9 HB9 HY10 HV10 HB10 hc7 HC2 HL2 HB2 HB3 HPL HBS HAT HL1 HI1 HX0 HX1 HX2 HX3 HC HH2
  have hcap : ids.length ≤ c10 := (F_row HV11.out).2.1
  have hf0 : w11.cell? ⟨g6, 0, none⟩ = some (.int .i64 c.f0) := (blk_cell HX11.out 0).trans rfl
  have hf1 : w11.cell? ⟨g6, 1, none⟩ = some (.slice A10 ids.length c10) := (blk_cell HX11.out 1).trans rfl
  have hf2 : w11.cell? ⟨g6, 2, none⟩ = some (.int .i64 c.f2) := (blk_cell HX11.out 2).trans rfl
  have hf3 : w11.cell? ⟨g6, 3, none⟩ = some (.bool c.f3) := (blk_cell HX11.out 3).trans rfl
  by_cases hlen : ids.length ≤ 4
  · have h := HH.out
    rw [if_pos hlen] at h
    simp only [Option.some.injEq, Prod.mk.injEq] at h
    obtain ⟨rfl, rfl⟩ := h
    have hlb : decide ((ids.length : Int) ≤ 4) = true := decide_eq_true (by omega)
    have hlc : decide (ids.length ≤ 4) = true := decide_eq_true hlen
    clear hlen HH
    go_wp2
    go_ret2
    have hF : Kd.F (Kd.int .i64) w11 (fun k => w.heap.size ≤ k) A10 ids.length ids := (F_row (Kd.R_mono (Kd.R_bound HV11.out) (fun k hk => hk.2.1))).2.2
    exact ⟨_, rfl, N_one39 ⟨c.f0, ids, c.f2, c.f3⟩ (heap_alloc_new w11 _) HB11.out.size HB11.out.size hcap (Kd.F_alloc (Kd.F_elderB hF _ (Nat.le_refl _)) _), below_alloc HB11.out _⟩
  · have h := HH.out
    rw [if_neg hlen] at h
    obtain ⟨no, hfr, h⟩ := Option.bind_eq_some_iff.mp h
    have HF := Lib.hid hfr
    simp only [Option.some.injEq, Prod.mk.injEq] at h
    obtain ⟨rfl, rfl⟩ := h
    have hlb : decide ((ids.length : Int) ≤ 4) = false := decide_eq_false (by omega)
    have hlc : decide (ids.length ≤ 4) = false := decide_eq_false hlen
    obtain ⟨ad6, e6, _⟩ := Kd.at_int (Kd.R_reads' HV11.out).2.2 0 (by omega) (by omega)
    cases e6
    have hi1 : (3 : Int) ≤ (ids.length : Int) := by omega
    have hi2 : (ids.length : Int) ≤ (c10 : Int) := by omega
    have hi3 : 3 ≤ ids.length := by omega
    have hi4 : ¬ (c10 = 3) := by omega
    have hi5 : (c10 == 3) = false := beq_eq_false_iff_ne.mpr hi4
    clear hfr HH h
    have HQ := Lib.hid (show Inv1 w g6 _ _ _ w11.drew from Inv1.drew ⟨HB11.out, HX11.out, HV11.out⟩)
    clear hlen HX11 HV11 HB11
    go_upto_region 14 with (fail)
    clear hlb hlc
    go_cut [9] (fun v9 wc => ∃ (g9 : Nat) (Ac : Option Addr) (cc : Nat), v9 = .pointer (some ⟨g9, 0, none⟩) ∧ g9 ≠ g6 ∧ w.heap.size ≤ g9 ∧ (ids.length - 3) ≤ cc ∧ Aside0 (Inv1 w g6 #[.int .i64 c.f0, .slice (some ad6) ids.length c10, .int .i64 c.f2, .bool c.f3] (.slice (some ad6) ids.length c10) ids wc) ∧ Aside0 (wc.heap[g9]? = some (.cells #[.int .i64 no, .slice Ac (ids.length - 3) cc, .int .i64 c.f2, .bool false] 39 (0, 0))) ∧ Aside0 (Kd.R (Kd.int .i64) 3 wc w.heap.size (fun _ => True) (.slice Ac (ids.length - 3) cc) (ids.drop 3)))
    case first =>
      go_region_held3 (fun w' => w'.cell? ⟨g6, 1, none⟩ = some (.slice (some ad6) ids.length c10) ∧ w'.cell? ⟨g6, 2, none⟩ = some (.int .i64 c.f2)) (first | (with_reducible exact ⟨Inv1.c1 HQ.out, Inv1.c2 HQ.out⟩) | (with_reducible exact ⟨Inv1.c1 (Inv1.alloc HQ.out _), Inv1.c2 (Inv1.alloc HQ.out _)⟩) | (with_reducible exact ⟨four_far hn9.out (Inv1.c1 HQ.out), four_far hn9.out (Inv1.c2 HQ.out)⟩)) (first | (go_at_call 32; refine (chunk_fresh.calls _ c0 l0 no _ (Kd.C_below HP.out.r (by first | exact HQ.out.1 | exact below_alloc HQ.out.1 _)) HP.out.c HF.out).mono ?_; rintro e wf ⟨rfl, hb⟩; (first | (have m_ := Lib.hid (blk_below HX9.out hb); clear HX9; have HX9 := m_; clear m_) | (have hnb := new_box_drew HQ.out hb; obtain ⟨hnb1, hnb2, hnb3⟩ := hnb; have HX9 := Lib.hid hnb1; have hn9 := Lib.hid hnb2; have hw9 := Lib.hid hnb3; clear hnb1 hnb2 hnb3) | (have hnb := new_box HQ.out hb; obtain ⟨hnb1, hnb2, hnb3⟩ := hnb; have HX9 := Lib.hid hnb1; have hn9 := Lib.hid hnb2; have hw9 := Lib.hid hnb3; clear hnb1 hnb2 hnb3) | skip); have n_ := Lib.hid ((by first | exact Inv1.step HQ.out hb | exact Inv1.step (Inv1.alloc HQ.out _) hb) : Inv1 w g6 #[.int .i64 c.f0, .slice (some ad6) ids.length c10, .int .i64 c.f2, .bool c.f3] (.slice (some ad6) ids.length c10) ids wf); clear HQ; have HQ := n_; clear n_; clear hb) | (go_at_call 33; refine (clone_at (xs := ids.drop 3) (by simp) (by first | exact drop_own HQ.out.2.2 hi3 hi4 | exact drop_own (Kd.R_alloc HQ.out.2.2 _) hi3 hi4) (by omega) (by simp; omega)).mono ?_; rintro e wd ⟨Ac, cc, rfl, hcc, hv, hb⟩; have HVc := Lib.hid (Kd.R_lower hv (Below.size (w := w) (by first | exact HQ.out.1 | exact below_alloc HQ.out.1 _))); (first | (have m_ := Lib.hid (blk_below HX9.out hb); clear HX9; have HX9 := m_; clear m_) | (have hnb := new_box_drew HQ.out hb; obtain ⟨hnb1, hnb2, hnb3⟩ := hnb; have HX9 := Lib.hid hnb1; have hn9 := Lib.hid hnb2; have hw9 := Lib.hid hnb3; clear hnb1 hnb2 hnb3) | (have hnb := new_box HQ.out hb; obtain ⟨hnb1, hnb2, hnb3⟩ := hnb; have HX9 := Lib.hid hnb1; have hn9 := Lib.hid hnb2; have hw9 := Lib.hid hnb3; clear hnb1 hnb2 hnb3) | skip); have n_ := Lib.hid ((by first | exact Inv1.step HQ.out hb | exact Inv1.step (Inv1.alloc HQ.out _) hb) : Inv1 w g6 #[.int .i64 c.f0, .slice (some ad6) ids.length c10, .int .i64 c.f2, .bool c.f3] (.slice (some ad6) ids.length c10) ids wd); clear HQ; have HQ := n_; clear n_; (first | (have HY9 := box_facts HX9.out; obtain ⟨hcz0, hcz1, hcz2, hcz3, hfz0, hfz1, hfz2, hfz3⟩ := HY9) | skip); clear hb hv))
      all_goals (go_wp2; go_meet; first | exact ⟨_, Ac, cc, rfl, Nat.ne_of_gt (blk_lt HQ.out.2.1), HQ.out.1.size, hcc, ⟨Inv1.alloc HQ.out _⟩, ⟨heap_alloc_new _ _⟩, ⟨Kd.R_alloc HVc.out _⟩⟩ | exact ⟨_, Ac, cc, rfl, hn9.out, hw9.out, hcc, ⟨(four_sets HQ.out HX9.out hn9.out hw9.out HVc.out).1⟩, ⟨(four_sets HQ.out HX9.out hn9.out hw9.out HVc.out).2.1⟩, ⟨(four_sets HQ.out HX9.out hn9.out hw9.out HVc.out).2.2⟩⟩)
    case rest =>
      clear HQ
      obtain ⟨g9, Ac, cc, rfl, hn9, hw9, hcc, HQ, HX9, HVc⟩ := hcut
      have hq1 : wc.cell? ⟨g6, 1, none⟩ = some (.slice (some ad6) ids.length c10) := (blk_cell HQ.out.2.1 1).trans rfl
      have hq2 : wc.cell? ⟨g6, 2, none⟩ = some (.int .i64 c.f2) := (blk_cell HQ.out.2.1 2).trans rfl
      have hq9 : wc.cell? ⟨g9, 0, none⟩ = some (.int .i64 no) := (blk_cell HX9.out 0).trans rfl
      have hz1 := blk_frozen HQ.out.2.1 1
      have hz2 := blk_frozen HQ.out.2.1 2
      clear hf0 hf1 hf2 hf3
      have hi7 : (3 : Int) ≤ (c10 : Int) := by omega
      go_upto_region 15 with (fail)
      go_cut [] (fun wd => wd.heap[g6]? = some (.cells #[.int .i64 c.f0, .slice (some ad6) 3 3, .int .i64 no, .bool c.f3] 39 (0, 0)) ∧ wd.heap[g9]? = some (.cells #[.int .i64 no, .slice Ac (ids.length - 3) cc, .int .i64 c.f2, .bool false] 39 (0, 0)) ∧ Below w.heap.size w wd ∧ Kd.R (Kd.int .i64) 3 wd w.heap.size (fun _ => True) (.slice Ac (ids.length - 3) cc) (ids.drop 3) ∧ Kd.R (Kd.int .i64) 3 wd w.heap.size (fun _ => True) (.slice (some ad6) ids.length c10) ids)
      case first =>
        go_region
        all_goals (go_wp2; go_meet; exact two_sets HQ.out HX9.out hn9 HG6.out HVc.out)
      case rest =>
        clear hq1 hq2 hq9 hz1 hz2 HQ HX9 HVc
        obtain ⟨hx6, hx9, hb, hv, hr⟩ := hcut
        have HX6 := Lib.hid hx6
        have HY9 := Lib.hid hx9
        have HB := Lib.hid hb
        have HV := Lib.hid hv
        have HR := Lib.hid hr
        have p0 : wc.cell? ⟨g6, 0, none⟩ = some (.int .i64 c.f0) := (blk_cell hx6 0).trans rfl
        have p1 : wc.cell? ⟨g6, 1, none⟩ = some (.slice (some ad6) 3 3) := (blk_cell hx6 1).trans rfl
        have p2 : wc.cell? ⟨g6, 2, none⟩ = some (.int .i64 no) := (blk_cell hx6 2).trans rfl
        have p3 : wc.cell? ⟨g6, 3, none⟩ = some (.bool c.f3) := (blk_cell hx6 3).trans rfl
        have q0 : wc.cell? ⟨g9, 0, none⟩ = some (.int .i64 no) := (blk_cell hx9 0).trans rfl
        have q1 : wc.cell? ⟨g9, 1, none⟩ = some (.slice Ac (ids.length - 3) cc) := (blk_cell hx9 1).trans rfl
        have q2 : wc.cell? ⟨g9, 2, none⟩ = some (.int .i64 c.f2) := (blk_cell hx9 2).trans rfl
        have q3 : wc.cell? ⟨g9, 3, none⟩ = some (.bool false) := (blk_cell hx9 3).trans rfl
        clear hx6 hx9 hb hv hr
        go_wp2
        go_ret2
        have hL : (ids.drop 3).length = ids.length - 3 := List.length_drop
        have hT : (ids.take 3).length = 3 := by rw [List.length_take]; omega
        have hF : Kd.F (Kd.int .i64) wc (fun k => w.heap.size ≤ k) (some ad6) ids.length ids := (F_row (Kd.R_mono (Kd.R_bound HR.out) (fun k hk => hk.2.1))).2.2
        have hG : Kd.F (Kd.int .i64) wc (fun k => w.heap.size ≤ k) Ac (ids.drop 3).length (ids.drop 3) := (F_row (Kd.R_mono (Kd.R_bound HV.out) (fun k hk => hk.2.1))).2.2
        have hE := Kd.F_take (m := 3) hF hi3
        refine ⟨_, rfl, N_two39 ⟨c.f0, ids.take 3, no, c.f3⟩ ⟨no, ids.drop 3, c.f2, false⟩ (c1 := 3) (d1 := cc) ?_ HB.out.size HB.out.size (by simp only [hT]; exact Nat.le_refl _) (by simp only [hL]; exact hcc) (Kd.F_alloc (Kd.F_elderB hE _ (Nat.le_refl _)) _) (Kd.F_alloc (Kd.F_elderB hG _ (Nat.le_refl _)) _), below_alloc HB.out _⟩
        simp only [hL, hT]
        exact heap_alloc_new wc _
theorem chunk_Insert.calls (A0 : Option Addr) (c0 : Nat) (l0 : List S39) (a1 : Int) (r1 : List S39) (r2 : Int) (w : World) (hr0 : Kd.C k39 w A0 l0.length l0) (hc0 : l0.length ≤ c0) (h : chunk_Insert.f l0 a1 = some (r1, r2)) :
    Calls Try.prog 9 #[.slice A0 l0.length c0, .int .i64 a1] w fun e w' => ∃ v0_ : Value, e = .returned (.tuple #[v0_, .int .i64 r2]) ∧ Kd.N k39 39 w' w.heap.size (fun k_ => (w.heap.size ≤ k_)) v0_ r1 ∧ Below w.heap.size w w' := by
  show Calls Try.prog 9 _ w (InsPost w r1 r2)
  unfold chunk_Insert.f at h
  split at h
  · rename_i hlim
    split at h
    · rename_i hf
      simp only [Option.some.injEq, Prod.mk.injEq] at h
      obtain ⟨rfl, rfl⟩ := h
      exact ins_wrong A0 c0 l0 a1 w hr0 hc0 (congrArg some hf)
    · rename_i hf
      have hf2 : chunk_Right.f l0 = some true := congrArg some (by simpa using hf)
      split at h
      · rename_i ha
        simp only [Option.some.injEq, Prod.mk.injEq] at h
        obtain ⟨rfl, rfl⟩ := h
        exact ins_arg A0 c0 l0 a1 w hr0 hc0 hf2 ha
      · rename_i ha
        have HP : Pre A0 c0 l0 a1 w := ⟨hr0, hc0, hf2, by omega, by omega, hlim.1, hlim.2⟩
        split at h
        · rename_i hk
          simp only [Option.some.injEq, Prod.mk.injEq] at h
          obtain ⟨rfl, rfl⟩ := h
          exact ins_twice A0 c0 l0 a1 w HP hk
        · rename_i hk
          have hk2 : (idsOf l0).contains a1 = false := by simpa using hk
          split at h
          · rename_i h0
            simp only [Option.some.injEq, Prod.mk.injEq] at h
            obtain ⟨rfl, rfl⟩ := h
            exact ins_first A0 c0 l0 a1 w HP hk2 h0
          · rename_i h0
            exact ins_main A0 c0 l0 a1 w HP hk2 h0 r1 r2 h
  · cases h
end Go.Proofs.Ytfbegchhgigjeaa.PC
end
section
namespace Go.Proofs.Ytfbegchhgigjeaa.PC
open Go.RowKit Go.Proofs.YtfbegchhgigjeaaW.PrintWords Go.Proofs.YtfbegchhgigjeaaW.PrintLast Go.Proofs.YtfbegchhgigjeaaW.PrintMore
attribute [local go_sem] max2_int min2_int max_two min_two max_three min_three max_four min_four   -- for this text's walks alone
set_option linter.unusedVariables false
set_option linter.unusedSimpArgs false
def cobweblaw10_awake.f (k : Nat)  : Option (Bool) := (chunk_Insert.f ([] : List (S39)) 5).bind fun bt150 => ((chunk_Insert.f (([(⟨0, (([1, 2, 4, 5] : List Int)), 0, false⟩ : S39)] : List (S39))) 3).bind fun bt160 => (if bt150.2 = 0 then ((cobwebref10_Same.f k bt150.1 (([(⟨0, (([5] : List Int)), 0, false⟩ : S39)] : List (S39)))).bind fun t170 => (if t170 = true then (if bt160.2 = 0 then ((cobwebref10_Same.f k bt160.1 (([(⟨0, (([1, 2, 3] : List Int)), 1, false⟩ : S39), (⟨1, (([4, 5] : List Int)), 0, false⟩ : S39)] : List (S39)))).bind fun t180 => (some t180)) else (some false)) else (some false))) else (some false)))
theorem cobweblaw10_awake.mono : ∀ k, LeO (cobweblaw10_awake.f k ) (cobweblaw10_awake.f (k + 1) ) := by
 intro  k
 unfold cobweblaw10_awake.f
 repeat' first
   | (with_reducible exact cobwebref10_Same.mono _ _ _)
   | (with_reducible exact LeO.refl _)
   | (with_reducible exact LeO.none _)
   | (with_reducible refine LeO.ite ?_ ?_)
   | (with_reducible refine LeO.bind ?_ (fun _ => ?_))
   | exact cobwebref10_Same.mono _ _ _
   | exact LeO.none _
   | refine LeO.ite ?_ ?_
   | refine LeO.bind ?_ (fun _ => ?_)
set_option maxHeartbeats 8000000 in
set_option maxRecDepth 100000 in
theorem cobweblaw10_awake.calls (k : Nat)  (r : Bool) (w : World) (h : cobweblaw10_awake.f k  = some r) :
  Calls Try.prog 8 #[] w fun e w' => e = .returned (.bool r) ∧ Below w.heap.size w w' := by
 have hu39 := Try.underlying39
 have HB := Aside0.mk (Below.refl w.heap.size w)
 have H : ((chunk_Insert.f ([] : List (S39)) 5).bind fun bt150 => ((chunk_Insert.f (([(⟨0, (([1, 2, 4, 5] : List Int)), 0, false⟩ : S39)] : List (S39))) 3).bind fun bt160 => (if bt150.2 = 0 then ((cobwebref10_Same.f k bt150.1 (([(⟨0, (([5] : List Int)), 0, false⟩ : S39)] : List (S39)))).bind fun t170 => (if t170 = true then (if bt160.2 = 0 then ((cobwebref10_Same.f k bt160.1 (([(⟨0, (([1, 2, 3] : List Int)), 1, false⟩ : S39), (⟨1, (([4, 5] : List Int)), 0, false⟩ : S39)] : List (S39)))).bind fun t180 => (some t180)) else (some false)) else (some false))) else (some false)))) = some r := h
 clear h
 replace H := Option.bind_eq_some_iff.mp H
 obtain ⟨⟨t150, t153⟩, A10, H⟩ := H
 replace H : ((chunk_Insert.f (([(⟨0, (([1, 2, 4, 5] : List Int)), 0, false⟩ : S39)] : List (S39))) 3).bind fun bt160 => (if t153 = 0 then ((cobwebref10_Same.f k t150 (([(⟨0, (([5] : List Int)), 0, false⟩ : S39)] : List (S39)))).bind fun t170 => (if t170 = true then (if bt160.2 = 0 then ((cobwebref10_Same.f k bt160.1 (([(⟨0, (([1, 2, 3] : List Int)), 1, false⟩ : S39), (⟨1, (([4, 5] : List Int)), 0, false⟩ : S39)] : List (S39)))).bind fun t180 => (some t180)) else (some false)) else (some false))) else (some false))) = some r := H
 have A1 := Aside0.mk A10
 clear A10
 obtain ⟨y154, hy154⟩ : ∃ y_ : List Int, y_ = (([1, 2, 4, 5] : List Int)) := ⟨_, rfl⟩
 replace H : ((chunk_Insert.f (([(⟨0, y154, 0, false⟩ : S39)] : List (S39))) 3).bind fun bt160 => (if t153 = 0 then ((cobwebref10_Same.f k t150 (([(⟨0, (([5] : List Int)), 0, false⟩ : S39)] : List (S39)))).bind fun t170 => (if t170 = true then (if bt160.2 = 0 then ((cobwebref10_Same.f k bt160.1 (([(⟨0, (([1, 2, 3] : List Int)), 1, false⟩ : S39), (⟨1, (([4, 5] : List Int)), 0, false⟩ : S39)] : List (S39)))).bind fun t180 => (some t180)) else (some false)) else (some false))) else (some false))) = some r := by first | (rw [hy154]; with_reducible exact H) | (have H2_ := (Option.bind_some _ _).symm.trans H; rw [hy154]; with_reducible exact H2_) | (have H2_ := (Option.bind_some _ _).symm.trans H; with_reducible exact H2_) | with_reducible exact H | (rw [hy154]; exact H) | exact H
 have Ny154 := Aside0.mk hy154
 clear hy154
 obtain ⟨y157, hy157⟩ : ∃ y_ : List (S39), y_ = (([(⟨0, y154, 0, false⟩ : S39)] : List (S39))) := ⟨_, rfl⟩
 replace H : ((chunk_Insert.f y157 3).bind fun bt160 => (if t153 = 0 then ((cobwebref10_Same.f k t150 (([(⟨0, (([5] : List Int)), 0, false⟩ : S39)] : List (S39)))).bind fun t170 => (if t170 = true then (if bt160.2 = 0 then ((cobwebref10_Same.f k bt160.1 (([(⟨0, (([1, 2, 3] : List Int)), 1, false⟩ : S39), (⟨1, (([4, 5] : List Int)), 0, false⟩ : S39)] : List (S39)))).bind fun t180 => (some t180)) else (some false)) else (some false))) else (some false))) = some r := by first | (rw [hy157]; with_reducible exact H) | (have H2_ := (Option.bind_some _ _).symm.trans H; rw [hy157]; with_reducible exact H2_) | (have H2_ := (Option.bind_some _ _).symm.trans H; with_reducible exact H2_) | with_reducible exact H | (rw [hy157]; exact H) | exact H
 have Ny157 := Aside0.mk hy157
 clear hy157
 replace H := Option.bind_eq_some_iff.mp H
 obtain ⟨⟨t160, t163⟩, A20, H⟩ := H
 replace H : (if t153 = 0 then ((cobwebref10_Same.f k t150 (([(⟨0, (([5] : List Int)), 0, false⟩ : S39)] : List (S39)))).bind fun t170 => (if t170 = true then (if t163 = 0 then ((cobwebref10_Same.f k t160 (([(⟨0, (([1, 2, 3] : List Int)), 1, false⟩ : S39), (⟨1, (([4, 5] : List Int)), 0, false⟩ : S39)] : List (S39)))).bind fun t180 => (some t180)) else (some false)) else (some false))) else (some false)) = some r := H
 have A2 := Aside0.mk A20
 clear A20
 by_cases c3 : t153 = 0
 ·rw [if_pos c3] at H
  have c3b0 : (t153 == 0) = true := beq_iff_eq.mpr c3
  have c3b1 : (t153 != 0) = false := bne_eq_false_iff_eq.mpr c3
  clear c3
  obtain ⟨y164, hy164⟩ : ∃ y_ : List Int, y_ = (([5] : List Int)) := ⟨_, rfl⟩
  replace H : ((cobwebref10_Same.f k t150 (([(⟨0, y164, 0, false⟩ : S39)] : List (S39)))).bind fun t170 => (if t170 = true then (if t163 = 0 then ((cobwebref10_Same.f k t160 (([(⟨0, (([1, 2, 3] : List Int)), 1, false⟩ : S39), (⟨1, (([4, 5] : List Int)), 0, false⟩ : S39)] : List (S39)))).bind fun t180 => (some t180)) else (some false)) else (some false))) = some r := by first | (rw [hy164]; with_reducible exact H) | (have H2_ := (Option.bind_some _ _).symm.trans H; rw [hy164]; with_reducible exact H2_) | (have H2_ := (Option.bind_some _ _).symm.trans H; with_reducible exact H2_) | with_reducible exact H | (rw [hy164]; exact H) | exact H
  have Ny164 := Aside0.mk hy164
  clear hy164
  obtain ⟨y167, hy167⟩ : ∃ y_ : List (S39), y_ = (([(⟨0, y164, 0, false⟩ : S39)] : List (S39))) := ⟨_, rfl⟩
  replace H : ((cobwebref10_Same.f k t150 y167).bind fun t170 => (if t170 = true then (if t163 = 0 then ((cobwebref10_Same.f k t160 (([(⟨0, (([1, 2, 3] : List Int)), 1, false⟩ : S39), (⟨1, (([4, 5] : List Int)), 0, false⟩ : S39)] : List (S39)))).bind fun t180 => (some t180)) else (some false)) else (some false))) = some r := by first | (rw [hy167]; with_reducible exact H) | (have H2_ := (Option.bind_some _ _).symm.trans H; rw [hy167]; with_reducible exact H2_) | (have H2_ := (Option.bind_some _ _).symm.trans H; with_reducible exact H2_) | with_reducible exact H | (rw [hy167]; exact H) | exact H
  have Ny167 := Aside0.mk hy167
  clear hy167
  replace H := Option.bind_eq_some_iff.mp H
  obtain ⟨t170, A40, H⟩ := H
  replace H : (if t170 = true then (if t163 = 0 then ((cobwebref10_Same.f k t160 (([(⟨0, (([1, 2, 3] : List Int)), 1, false⟩ : S39), (⟨1, (([4, 5] : List Int)), 0, false⟩ : S39)] : List (S39)))).bind fun t180 => (some t180)) else (some false)) else (some false)) = some r := H
  have A4 := Aside0.mk A40
  clear A40
  by_cases c5 : t170 = true
  ·subst c5
   have H1 : (if t163 = 0 then ((cobwebref10_Same.f k t160 (([(⟨0, (([1, 2, 3] : List Int)), 1, false⟩ : S39), (⟨1, (([4, 5] : List Int)), 0, false⟩ : S39)] : List (S39)))).bind fun t180 => (some t180)) else (some false)) = some r := by rw [if_pos rfl] at H; exact H
   clear H
   have H := H1
   clear H1
   by_cases c6 : t163 = 0
   ·rw [if_pos c6] at H
    have c6b0 : (t163 == 0) = true := beq_iff_eq.mpr c6
    have c6b1 : (t163 != 0) = false := bne_eq_false_iff_eq.mpr c6
    clear c6
    obtain ⟨y171, hy171⟩ : ∃ y_ : List Int, y_ = (([1, 2, 3] : List Int)) := ⟨_, rfl⟩
    replace H : ((cobwebref10_Same.f k t160 (([(⟨0, y171, 1, false⟩ : S39), (⟨1, (([4, 5] : List Int)), 0, false⟩ : S39)] : List (S39)))).bind fun t180 => (some t180)) = some r := by first | (rw [hy171]; with_reducible exact H) | (have H2_ := (Option.bind_some _ _).symm.trans H; rw [hy171]; with_reducible exact H2_) | (have H2_ := (Option.bind_some _ _).symm.trans H; with_reducible exact H2_) | with_reducible exact H | (rw [hy171]; exact H) | exact H
    have Ny171 := Aside0.mk hy171
    clear hy171
    obtain ⟨y174, hy174⟩ : ∃ y_ : List Int, y_ = (([4, 5] : List Int)) := ⟨_, rfl⟩
    replace H : ((cobwebref10_Same.f k t160 (([(⟨0, y171, 1, false⟩ : S39), (⟨1, y174, 0, false⟩ : S39)] : List (S39)))).bind fun t180 => (some t180)) = some r := by first | (rw [hy174]; with_reducible exact H) | (have H2_ := (Option.bind_some _ _).symm.trans H; rw [hy174]; with_reducible exact H2_) | (have H2_ := (Option.bind_some _ _).symm.trans H; with_reducible exact H2_) | with_reducible exact H | (rw [hy174]; exact H) | exact H
    have Ny174 := Aside0.mk hy174
    clear hy174
    obtain ⟨y177, hy177⟩ : ∃ y_ : List (S39), y_ = (([(⟨0, y171, 1, false⟩ : S39), (⟨1, y174, 0, false⟩ : S39)] : List (S39))) := ⟨_, rfl⟩
    replace H : ((cobwebref10_Same.f k t160 y177).bind fun t180 => (some t180)) = some r := by first | (rw [hy177]; with_reducible exact H) | (have H2_ := (Option.bind_some _ _).symm.trans H; rw [hy177]; with_reducible exact H2_) | (have H2_ := (Option.bind_some _ _).symm.trans H; with_reducible exact H2_) | with_reducible exact H | (rw [hy177]; exact H) | exact H
    have Ny177 := Aside0.mk hy177
    clear hy177
    replace H := Option.bind_eq_some_iff.mp H
    obtain ⟨t180, A70, H⟩ := H
    replace H : (some t180) = some r := H
    have A7 := Aside0.mk A70
    clear A70
    obtain rfl := Option.some.inj H
    go_enter Try.func8, Try.ntmps8
    go_wp2_with (first | ((with_reducible refine gate_callee (f := 9) rfl ?_); refine goesL_ (some 6) rfl rfl Try.func9 (by kernel_rfl) rfl #[.slice none 0 0, .int .i64 5] rfl (by (try simp only [List.map_toArray, List.map_cons, List.map_nil]); first | done | rfl | (simp only [List.length_drop, List.length_take]; rfl)) ?_; (refine (chunk_Insert.calls _ _ ([] : List (S39)) 5 t150 t153 _ ?side1 ?side2 A1.out).mono ?_); (case side1 => exact Kd.C_nil _ _); (case side2 => exact Nat.le_refl _); rintro e w8 ⟨v151, rfl, ho0, hb⟩; refine ⟨_, rfl, ?_⟩; have n0_ := Aside0.mk (Kd.N_lower (Kd.N_mono (ok' := fun k_ => True) ho0 (fun k_ hk_ => trivial)) (below_size (by repeat (first | (with_reducible first | exact HB.out | apply below_alloc | apply pw_below_drewN | apply below_drew1) | exact HB.out)))); have n1_ := Aside0.mk (below_step (by repeat (first | (with_reducible first | exact HB.out | apply below_alloc | apply pw_below_drewN | apply below_drew1) | exact HB.out)) hb); clear HB; have HO152 := n0_; have HB := n1_; clear n0_ n1_; (try clear hb); (try clear hb2); (try clear hk); (try clear hi); (try clear ho0)) | ((with_reducible refine gate_dst (N := 10) rfl ?_); (try (refine gate_guard (by rfl) ?_; dsimp only)); refine Kd.R_lit (Kd.int .i64) _ 3 ?hg (N := 10) ?hd (xs := ([1, 2, 4, 5] : List Int)) (inner := [.int .i64 1, .int .i64 2, .int .i64 4, .int .i64 5]) (ok := fun _ => True) (okp := fun _ => True) ?hr ?hp (fun _ hk => hk) trivial (Below.refl _ _) (Nat.le_refl _) (by simp) ?_; (case hd => rfl); (case hg => rfl); (case hr => first | (go_simp; done) | (go_simp; rfl)); (case hp => exact (Reps.one (show Kd.M (Kd.int .i64) _ _ _ 1 [.int .i64 1] from rfl) (Reps.one (show Kd.M (Kd.int .i64) _ _ _ 2 [.int .i64 2] from rfl) (Reps.one (show Kd.M (Kd.int .i64) _ _ _ 4 [.int .i64 4] from rfl) (Reps.one (show Kd.M (Kd.int .i64) _ _ _ 5 [.int .i64 5] from rfl) (Reps.none _ _)))))); intro v155 w9 ho10 hb hg_ hnew_; clear hg_ hnew_; (first | rw [← Ny154.out] at ho10 | (simp only [Int.reduceToNat] at ho10; rw [← Ny154.out] at ho10)); have n0_ := Aside0.mk (Kd.N_elder' (by (with_reducible repeat (first | apply Kd.N_alloc | apply Kd.N_drewN | apply Kd.N_drew)); exact HO152.out) (Kd.R_base ho10) hb); have n1_ := Aside0.mk (Kd.R_lower ho10 (below_size (by repeat (first | (with_reducible first | exact HB.out | apply below_alloc | apply pw_below_drewN | apply below_drew1) | exact HB.out)))); have n2_ := Aside0.mk (below_step (by repeat (first | (with_reducible first | exact HB.out | apply below_alloc | apply pw_below_drewN | apply below_drew1) | exact HB.out)) hb); clear HO152; clear HB; have HO152 := n0_; have HO156 := n1_; have HB := n2_; clear n0_ n1_ n2_; clear hb ho10; obtain ⟨Ao11, co11, eo11⟩ := Kd.R_slice HO156.out; subst eo11) | ((with_reducible refine gate_dst (N := 12) rfl ?_); (try (refine gate_guard (by rfl) ?_; dsimp only)); refine Kd.N_lit k39 _ 39 ?hg (N' := 12) ?hd (xs := ([(⟨0, y154, 0, false⟩ : S39)] : List (S39))) (inner := [.int .i64 0, .slice Ao11 y154.length co11, .int .i64 0, .bool false]) (ok := (fun k_ => some k_ ≠ (v151 : Value).ownBlock)) (okp := (fun k_ => some k_ ≠ (v151 : Value).ownBlock)) ?hr ?hp (fun _ hk => hk) ((show ∀ k_, w9.heap.size ≤ k_ → (fun k_ => some k_ ≠ (v151 : Value).ownBlock) k_ from fun k_ hk => Kd.fresh' (Kd.N_lt (by (with_reducible repeat (first | apply Kd.N_alloc | apply Kd.N_drewN | apply Kd.N_drew)); exact HO152.out)) k_ hk) _ (Nat.le_refl _)) (Below.refl _ _) (Nat.le_refl _) (by simp) ?_; (case hd => rfl); (case hg => rfl); (case hr => first | (go_simp; done) | (go_simp; rfl)); (case hp => exact (Reps.c4 (show Kd.FK k39 _ _ (⟨0, y154, 0, false⟩ : S39) [.int .i64 0, .slice Ao11 y154.length co11, .int .i64 0, .bool false] from (k39_mkF _ _ (⟨0, y154, 0, false⟩ : S39) (Kd.R_reads' (Kd.R_mono (ok' := (fun k_ => some k_ ≠ (v151 : Value).ownBlock)) (Kd.R_apart' (HO156.out) (Kd.N_typed HO152.out) (by decide)) (fun k_ hk => hk.2))).2.1 (Kd.R_F (Kd.R_mono (ok' := (fun k_ => some k_ ≠ (v151 : Value).ownBlock)) (Kd.R_apart' (HO156.out) (Kd.N_typed HO152.out) (by decide)) (fun k_ hk => hk.2))))) (Reps.none _ _))); intro v158 w12 ho13 hb hg_ hnew_; clear hg_ hnew_; (first | rw [← Ny157.out] at ho13 | (simp only [Int.reduceToNat] at ho13; rw [← Ny157.out] at ho13)); have n0_ := Aside0.mk (Kd.N_elder' (by (with_reducible repeat (first | apply Kd.N_alloc | apply Kd.N_drewN | apply Kd.N_drew)); exact HO152.out) (Kd.N_base ho13) hb); have n1_ := Aside0.mk (Kd.N_lower ho13 (below_size (by repeat (first | (with_reducible first | exact HB.out | apply below_alloc | apply pw_below_drewN | apply below_drew1) | exact HB.out)))); have n2_ := Aside0.mk (below_step (by repeat (first | (with_reducible first | exact HB.out | apply below_alloc | apply pw_below_drewN | apply below_drew1) | exact HB.out)) hb); clear HO152; clear HB; clear HO156; have HO152 := n0_; have HO159 := n1_; have HB := n2_; clear n0_ n1_ n2_; clear hb ho13; obtain ⟨Ao14, co14, eo14⟩ := Kd.N_slice HO159.out; subst eo14) | ((with_reducible refine gate_callee (f := 9) rfl ?_); refine goesL_ (some 13) rfl rfl Try.func9 (by kernel_rfl) rfl #[.slice Ao14 y157.length co14, .int .i64 3] rfl (by (try simp only [List.map_toArray, List.map_cons, List.map_nil]); first | done | rfl | (simp only [List.length_drop, List.length_take]; rfl)) ?_; (with_reducible refine (chunk_Insert.calls _ _ y157 3 t160 t163 _ ?side1 ?side2 A2.out).mono ?_); (case side1 => repeat (first | exact (Kd.N_reads' HO159.out).2.2 | (with_reducible refine Kd.C_alloc ?_ _) | (with_reducible refine Kd.C_drewN ?_ _) | (with_reducible refine Kd.C_drew ?_))); (case side2 => exact (Kd.N_reads' HO159.out).2.1); rintro e w15 ⟨v161, rfl, ho0, hb⟩; refine ⟨_, rfl, ?_⟩; have n0_ := Aside0.mk (Kd.N_elder' (by (with_reducible repeat (first | apply Kd.N_alloc | apply Kd.N_drewN | apply Kd.N_drew)); exact HO152.out) (Kd.N_base ho0) hb); have n1_ := Aside0.mk (Kd.N_elder' (by (with_reducible repeat (first | apply Kd.N_alloc | apply Kd.N_drewN | apply Kd.N_drew)); exact HO159.out) (Kd.N_base ho0) hb); have n2_ := Aside0.mk (Kd.N_lower (Kd.N_mono (ok' := fun k_ => some k_ ≠ (v151 : Value).ownBlock ∧ some k_ ≠ (.slice Ao14 y157.length co14 : Value).ownBlock) ho0 (fun k_ hk_ => ⟨(Kd.fresh' (Kd.N_lt (by (with_reducible repeat (first | apply Kd.N_alloc | apply Kd.N_drewN | apply Kd.N_drew)); exact HO152.out)) k_ hk_), (Kd.fresh' (Kd.N_lt (by (with_reducible repeat (first | apply Kd.N_alloc | apply Kd.N_drewN | apply Kd.N_drew)); exact HO159.out)) k_ hk_)⟩)) (below_size (by repeat (first | (with_reducible first | exact HB.out | apply below_alloc | apply pw_below_drewN | apply below_drew1) | exact HB.out)))); have n3_ := Aside0.mk (below_step (by repeat (first | (with_reducible first | exact HB.out | apply below_alloc | apply pw_below_drewN | apply below_drew1) | exact HB.out)) hb); clear HO152; clear HO159; clear HB; have HO152 := n0_; have HO159 := n1_; have HO162 := n2_; have HB := n3_; clear n0_ n1_ n2_ n3_; (try clear hb); (try clear hb2); (try clear hk); (try clear hi); (try clear ho0)) | ((with_reducible refine gate_dst (N := 20) rfl ?_); (try (refine gate_guard (by rfl) ?_; dsimp only)); refine Kd.R_lit (Kd.int .i64) _ 3 ?hg (N := 20) ?hd (xs := ([5] : List Int)) (inner := [.int .i64 5]) (ok := fun _ => True) (okp := fun _ => True) ?hr ?hp (fun _ hk => hk) trivial (Below.refl _ _) (Nat.le_refl _) (by simp) ?_; (case hd => rfl); (case hg => rfl); (case hr => first | (go_simp; done) | (go_simp; rfl)); (case hp => exact (Reps.one (show Kd.M (Kd.int .i64) _ _ _ 5 [.int .i64 5] from rfl) (Reps.none _ _))); intro v165 w16 ho17 hb hg_ hnew_; clear hg_ hnew_; (first | rw [← Ny164.out] at ho17 | (simp only [Int.reduceToNat] at ho17; rw [← Ny164.out] at ho17)); have n0_ := Aside0.mk (Kd.N_elder' (by (with_reducible repeat (first | apply Kd.N_alloc | apply Kd.N_drewN | apply Kd.N_drew)); exact HO152.out) (Kd.R_base ho17) hb); have n1_ := Aside0.mk (Kd.N_elder' (by (with_reducible repeat (first | apply Kd.N_alloc | apply Kd.N_drewN | apply Kd.N_drew)); exact HO159.out) (Kd.R_base ho17) hb); have n2_ := Aside0.mk (Kd.N_elder' (by (with_reducible repeat (first | apply Kd.N_alloc | apply Kd.N_drewN | apply Kd.N_drew)); exact HO162.out) (Kd.R_base ho17) hb); have n3_ := Aside0.mk (Kd.R_lower ho17 (below_size (by repeat (first | (with_reducible first | exact HB.out | apply below_alloc | apply pw_below_drewN | apply below_drew1) | exact HB.out)))); have n4_ := Aside0.mk (below_step (by repeat (first | (with_reducible first | exact HB.out | apply below_alloc | apply pw_below_drewN | apply below_drew1) | exact HB.out)) hb); clear HO152; clear HO159; clear HO162; clear HB; have HO152 := n0_; have HO159 := n1_; have HO162 := n2_; have HO166 := n3_; have HB := n4_; clear n0_ n1_ n2_ n3_ n4_; clear hb ho17; obtain ⟨Ao18, co18, eo18⟩ := Kd.R_slice HO166.out; subst eo18) | ((with_reducible refine gate_dst (N := 22) rfl ?_); (try (refine gate_guard (by rfl) ?_; dsimp only)); refine Kd.N_lit k39 _ 39 ?hg (N' := 22) ?hd (xs := ([(⟨0, y164, 0, false⟩ : S39)] : List (S39))) (inner := [.int .i64 0, .slice Ao18 y164.length co18, .int .i64 0, .bool false]) (ok := (fun k_ => some k_ ≠ (v151 : Value).ownBlock ∧ some k_ ≠ (.slice Ao14 y157.length co14 : Value).ownBlock ∧ some k_ ≠ (v161 : Value).ownBlock)) (okp := (fun k_ => some k_ ≠ (v151 : Value).ownBlock ∧ some k_ ≠ (.slice Ao14 y157.length co14 : Value).ownBlock ∧ some k_ ≠ (v161 : Value).ownBlock)) ?hr ?hp (fun _ hk => hk) ((show ∀ k_, w16.heap.size ≤ k_ → (fun k_ => some k_ ≠ (v151 : Value).ownBlock ∧ some k_ ≠ (.slice Ao14 y157.length co14 : Value).ownBlock ∧ some k_ ≠ (v161 : Value).ownBlock) k_ from fun k_ hk => ⟨Kd.fresh' (Kd.N_lt (by (with_reducible repeat (first | apply Kd.N_alloc | apply Kd.N_drewN | apply Kd.N_drew)); exact HO152.out)) k_ hk, Kd.fresh' (Kd.N_lt (by (with_reducible repeat (first | apply Kd.N_alloc | apply Kd.N_drewN | apply Kd.N_drew)); exact HO159.out)) k_ hk, Kd.fresh' (Kd.N_lt (by (with_reducible repeat (first | apply Kd.N_alloc | apply Kd.N_drewN | apply Kd.N_drew)); exact HO162.out)) k_ hk⟩) _ (Nat.le_refl _)) (Below.refl _ _) (Nat.le_refl _) (by simp) ?_; (case hd => rfl); (case hg => rfl); (case hr => first | (go_simp; done) | (go_simp; rfl)); (case hp => exact (Reps.c4 (show Kd.FK k39 _ _ (⟨0, y164, 0, false⟩ : S39) [.int .i64 0, .slice Ao18 y164.length co18, .int .i64 0, .bool false] from (k39_mkF _ _ (⟨0, y164, 0, false⟩ : S39) (Kd.R_reads' (Kd.R_mono (ok' := (fun k_ => some k_ ≠ (v151 : Value).ownBlock ∧ some k_ ≠ (.slice Ao14 y157.length co14 : Value).ownBlock ∧ some k_ ≠ (v161 : Value).ownBlock)) (Kd.R_apart' (Kd.R_apart' (Kd.R_apart' (HO166.out) (Kd.N_typed HO152.out) (by decide)) (Kd.N_typed HO159.out) (by decide)) (Kd.N_typed HO162.out) (by decide)) (fun k_ hk => ⟨hk.1.1.2, ⟨hk.1.2, hk.2⟩⟩))).2.1 (Kd.R_F (Kd.R_mono (ok' := (fun k_ => some k_ ≠ (v151 : Value).ownBlock ∧ some k_ ≠ (.slice Ao14 y157.length co14 : Value).ownBlock ∧ some k_ ≠ (v161 : Value).ownBlock)) (Kd.R_apart' (Kd.R_apart' (Kd.R_apart' (HO166.out) (Kd.N_typed HO152.out) (by decide)) (Kd.N_typed HO159.out) (by decide)) (Kd.N_typed HO162.out) (by decide)) (fun k_ hk => ⟨hk.1.1.2, ⟨hk.1.2, hk.2⟩⟩))))) (Reps.none _ _))); intro v168 w19 ho20 hb hg_ hnew_; clear hg_ hnew_; (first | rw [← Ny167.out] at ho20 | (simp only [Int.reduceToNat] at ho20; rw [← Ny167.out] at ho20)); have n0_ := Aside0.mk (Kd.N_elder' (by (with_reducible repeat (first | apply Kd.N_alloc | apply Kd.N_drewN | apply Kd.N_drew)); exact HO152.out) (Kd.N_base ho20) hb); have n1_ := Aside0.mk (Kd.N_elder' (by (with_reducible repeat (first | apply Kd.N_alloc | apply Kd.N_drewN | apply Kd.N_drew)); exact HO159.out) (Kd.N_base ho20) hb); have n2_ := Aside0.mk (Kd.N_elder' (by (with_reducible repeat (first | apply Kd.N_alloc | apply Kd.N_drewN | apply Kd.N_drew)); exact HO162.out) (Kd.N_base ho20) hb); have n3_ := Aside0.mk (Kd.N_lower ho20 (below_size (by repeat (first | (with_reducible first | exact HB.out | apply below_alloc | apply pw_below_drewN | apply below_drew1) | exact HB.out)))); have n4_ := Aside0.mk (below_step (by repeat (first | (with_reducible first | exact HB.out | apply below_alloc | apply pw_below_drewN | apply below_drew1) | exact HB.out)) hb); clear HO152; clear HO159; clear HO162; clear HB; clear HO166; have HO152 := n0_; have HO159 := n1_; have HO162 := n2_; have HO169 := n3_; have HB := n4_; clear n0_ n1_ n2_ n3_ n4_; clear hb ho20; obtain ⟨Ao21, co21, eo21⟩ := Kd.N_slice HO152.out; subst eo21; obtain ⟨Ao22, co22, eo22⟩ := Kd.N_slice HO169.out; subst eo22) | (go_at_call 19; (with_reducible refine (cobwebref10_Same.calls k _ _ t150 _ _ y167 true _ ?side1 ?side2 ?side3 ?side4 A4.out).mono ?_); (case side1 => repeat (first | exact (Kd.N_reads' HO152.out).2.2 | (with_reducible refine Kd.C_alloc ?_ _) | (with_reducible refine Kd.C_drewN ?_ _) | (with_reducible refine Kd.C_drew ?_))); (case side2 => exact (Kd.N_reads' HO152.out).2.1); (case side3 => repeat (first | exact (Kd.N_reads' HO169.out).2.2 | (with_reducible refine Kd.C_alloc ?_ _) | (with_reducible refine Kd.C_drewN ?_ _) | (with_reducible refine Kd.C_drew ?_))); (case side4 => exact (Kd.N_reads' HO169.out).2.1); rintro e w23 ⟨rfl, hb⟩; have n0_ := Aside0.mk (Kd.N_below (by (with_reducible repeat (first | apply Kd.N_alloc | apply Kd.N_drewN | apply Kd.N_drew)); exact HO152.out) hb); have n1_ := Aside0.mk (Kd.N_below (by (with_reducible repeat (first | apply Kd.N_alloc | apply Kd.N_drewN | apply Kd.N_drew)); exact HO159.out) hb); have n2_ := Aside0.mk (Kd.N_below (by (with_reducible repeat (first | apply Kd.N_alloc | apply Kd.N_drewN | apply Kd.N_drew)); exact HO162.out) hb); have n3_ := Aside0.mk (Kd.N_below (by (with_reducible repeat (first | apply Kd.N_alloc | apply Kd.N_drewN | apply Kd.N_drew)); exact HO169.out) hb); have n4_ := Aside0.mk (below_step (by repeat (first | (with_reducible first | exact HB.out | apply below_alloc | apply pw_below_drewN | apply below_drew1) | exact HB.out)) hb); clear HO152; clear HO159; clear HO162; clear HO169; clear HB; have HO152 := n0_; have HO159 := n1_; have HO162 := n2_; have HO169 := n3_; have HB := n4_; clear n0_ n1_ n2_ n3_ n4_; (try clear hb); (try clear hb2); (try clear hk); (try clear hi)) | ((with_reducible refine gate_dst (N := 31) rfl ?_); (try (refine gate_guard (by rfl) ?_; dsimp only)); refine Kd.R_lit (Kd.int .i64) _ 3 ?hg (N := 31) ?hd (xs := ([1, 2, 3] : List Int)) (inner := [.int .i64 1, .int .i64 2, .int .i64 3]) (ok := fun _ => True) (okp := fun _ => True) ?hr ?hp (fun _ hk => hk) trivial (Below.refl _ _) (Nat.le_refl _) (by simp) ?_; (case hd => rfl); (case hg => rfl); (case hr => first | (go_simp; done) | (go_simp; rfl)); (case hp => exact (Reps.one (show Kd.M (Kd.int .i64) _ _ _ 1 [.int .i64 1] from rfl) (Reps.one (show Kd.M (Kd.int .i64) _ _ _ 2 [.int .i64 2] from rfl) (Reps.one (show Kd.M (Kd.int .i64) _ _ _ 3 [.int .i64 3] from rfl) (Reps.none _ _))))); intro v172 w24 ho25 hb hg_ hnew_; clear hg_ hnew_; (first | rw [← Ny171.out] at ho25 | (simp only [Int.reduceToNat] at ho25; rw [← Ny171.out] at ho25)); have n0_ := Aside0.mk (Kd.N_elder' (by (with_reducible repeat (first | apply Kd.N_alloc | apply Kd.N_drewN | apply Kd.N_drew)); exact HO152.out) (Kd.R_base ho25) hb); have n1_ := Aside0.mk (Kd.N_elder' (by (with_reducible repeat (first | apply Kd.N_alloc | apply Kd.N_drewN | apply Kd.N_drew)); exact HO159.out) (Kd.R_base ho25) hb); have n2_ := Aside0.mk (Kd.N_elder' (by (with_reducible repeat (first | apply Kd.N_alloc | apply Kd.N_drewN | apply Kd.N_drew)); exact HO162.out) (Kd.R_base ho25) hb); have n3_ := Aside0.mk (Kd.N_elder' (by (with_reducible repeat (first | apply Kd.N_alloc | apply Kd.N_drewN | apply Kd.N_drew)); exact HO169.out) (Kd.R_base ho25) hb); have n4_ := Aside0.mk (Kd.R_lower ho25 (below_size (by repeat (first | (with_reducible first | exact HB.out | apply below_alloc | apply pw_below_drewN | apply below_drew1) | exact HB.out)))); have n5_ := Aside0.mk (below_step (by repeat (first | (with_reducible first | exact HB.out | apply below_alloc | apply pw_below_drewN | apply below_drew1) | exact HB.out)) hb); clear HO152; clear HO159; clear HO162; clear HO169; clear HB; have HO152 := n0_; have HO159 := n1_; have HO162 := n2_; have HO169 := n3_; have HO173 := n4_; have HB := n5_; clear n0_ n1_ n2_ n3_ n4_ n5_; clear hb ho25; obtain ⟨Ao26, co26, eo26⟩ := Kd.R_slice HO173.out; subst eo26) | ((with_reducible refine gate_dst (N := 33) rfl ?_); (try (refine gate_guard (by rfl) ?_; dsimp only)); refine Kd.R_lit (Kd.int .i64) _ 3 ?hg (N := 33) ?hd (xs := ([4, 5] : List Int)) (inner := [.int .i64 4, .int .i64 5]) (ok := fun _ => True) (okp := fun _ => True) ?hr ?hp (fun _ hk => hk) trivial (Below.refl _ _) (Nat.le_refl _) (by simp) ?_; (case hd => rfl); (case hg => rfl); (case hr => first | (go_simp; done) | (go_simp; rfl)); (case hp => exact (Reps.one (show Kd.M (Kd.int .i64) _ _ _ 4 [.int .i64 4] from rfl) (Reps.one (show Kd.M (Kd.int .i64) _ _ _ 5 [.int .i64 5] from rfl) (Reps.none _ _)))); intro v175 w27 ho28 hb hg_ hnew_; clear hg_ hnew_; (first | rw [← Ny174.out] at ho28 | (simp only [Int.reduceToNat] at ho28; rw [← Ny174.out] at ho28)); have n0_ := Aside0.mk (Kd.N_elder' (by (with_reducible repeat (first | apply Kd.N_alloc | apply Kd.N_drewN | apply Kd.N_drew)); exact HO152.out) (Kd.R_base ho28) hb); have n1_ := Aside0.mk (Kd.N_elder' (by (with_reducible repeat (first | apply Kd.N_alloc | apply Kd.N_drewN | apply Kd.N_drew)); exact HO159.out) (Kd.R_base ho28) hb); have n2_ := Aside0.mk (Kd.N_elder' (by (with_reducible repeat (first | apply Kd.N_alloc | apply Kd.N_drewN | apply Kd.N_drew)); exact HO162.out) (Kd.R_base ho28) hb); have n3_ := Aside0.mk (Kd.N_elder' (by (with_reducible repeat (first | apply Kd.N_alloc | apply Kd.N_drewN | apply Kd.N_drew)); exact HO169.out) (Kd.R_base ho28) hb); have n4_ := Aside0.mk (Kd.R_elder' (by (with_reducible repeat (first | apply Kd.R_alloc | apply Kd.R_drewN | apply Kd.R_drew)); exact HO173.out) (Kd.R_base ho28) hb); have n5_ := Aside0.mk (Kd.R_lower (Kd.R_new' ho28 (Kd.R_lt (by (with_reducible repeat (first | apply Kd.R_alloc | apply Kd.R_drewN | apply Kd.R_drew)); exact HO173.out))) (below_size (by repeat (first | (with_reducible first | exact HB.out | apply below_alloc | apply pw_below_drewN | apply below_drew1) | exact HB.out)))); have n6_ := Aside0.mk (below_step (by repeat (first | (with_reducible first | exact HB.out | apply below_alloc | apply pw_below_drewN | apply below_drew1) | exact HB.out)) hb); clear HO152; clear HO159; clear HO162; clear HO169; clear HO173; clear HB; have HO152 := n0_; have HO159 := n1_; have HO162 := n2_; have HO169 := n3_; have HO173 := n4_; have HO176 := n5_; have HB := n6_; clear n0_ n1_ n2_ n3_ n4_ n5_ n6_; clear hb ho28; obtain ⟨Ao29, co29, eo29⟩ := Kd.R_slice HO176.out; subst eo29) | ((with_reducible refine gate_dst (N := 35) rfl ?_); (try (refine gate_guard (by rfl) ?_; dsimp only)); refine Kd.N_lit k39 _ 39 ?hg (N' := 35) ?hd (xs := ([(⟨0, y171, 1, false⟩ : S39), (⟨1, y174, 0, false⟩ : S39)] : List (S39))) (inner := [.int .i64 0, .slice Ao26 y171.length co26, .int .i64 1, .bool false, .int .i64 1, .slice Ao29 y174.length co29, .int .i64 0, .bool false]) (ok := (fun k_ => some k_ ≠ (.slice Ao21 t150.length co21 : Value).ownBlock ∧ some k_ ≠ (.slice Ao14 y157.length co14 : Value).ownBlock ∧ some k_ ≠ (v161 : Value).ownBlock ∧ some k_ ≠ (.slice Ao22 y167.length co22 : Value).ownBlock)) (okp := (fun k_ => some k_ ≠ (.slice Ao21 t150.length co21 : Value).ownBlock ∧ some k_ ≠ (.slice Ao14 y157.length co14 : Value).ownBlock ∧ some k_ ≠ (v161 : Value).ownBlock ∧ some k_ ≠ (.slice Ao22 y167.length co22 : Value).ownBlock)) ?hr ?hp (fun _ hk => hk) ((show ∀ k_, w27.heap.size ≤ k_ → (fun k_ => some k_ ≠ (.slice Ao21 t150.length co21 : Value).ownBlock ∧ some k_ ≠ (.slice Ao14 y157.length co14 : Value).ownBlock ∧ some k_ ≠ (v161 : Value).ownBlock ∧ some k_ ≠ (.slice Ao22 y167.length co22 : Value).ownBlock) k_ from fun k_ hk => ⟨Kd.fresh' (Kd.N_lt (by (with_reducible repeat (first | apply Kd.N_alloc | apply Kd.N_drewN | apply Kd.N_drew)); exact HO152.out)) k_ hk, Kd.fresh' (Kd.N_lt (by (with_reducible repeat (first | apply Kd.N_alloc | apply Kd.N_drewN | apply Kd.N_drew)); exact HO159.out)) k_ hk, Kd.fresh' (Kd.N_lt (by (with_reducible repeat (first | apply Kd.N_alloc | apply Kd.N_drewN | apply Kd.N_drew)); exact HO162.out)) k_ hk, Kd.fresh' (Kd.N_lt (by (with_reducible repeat (first | apply Kd.N_alloc | apply Kd.N_drewN | apply Kd.N_drew)); exact HO169.out)) k_ hk⟩) _ (Nat.le_refl _)) (Below.refl _ _) (Nat.le_refl _) (by simp) ?_; (case hd => rfl); (case hg => rfl); (case hr => first | (go_simp; done) | (go_simp; rfl)); (case hp => exact (Reps.c4 (show Kd.FK k39 _ _ (⟨0, y171, 1, false⟩ : S39) [.int .i64 0, .slice Ao26 y171.length co26, .int .i64 1, .bool false] from (k39_mkF _ _ (⟨0, y171, 1, false⟩ : S39) (Kd.R_reads' (Kd.R_mono (ok' := (fun k_ => some k_ ≠ (.slice Ao21 t150.length co21 : Value).ownBlock ∧ some k_ ≠ (.slice Ao14 y157.length co14 : Value).ownBlock ∧ some k_ ≠ (v161 : Value).ownBlock ∧ some k_ ≠ (.slice Ao22 y167.length co22 : Value).ownBlock)) (Kd.R_apart' (Kd.R_apart' (Kd.R_apart' (Kd.R_apart' (HO173.out) (Kd.N_typed HO152.out) (by decide)) (Kd.N_typed HO159.out) (by decide)) (Kd.N_typed HO162.out) (by decide)) (Kd.N_typed HO169.out) (by decide)) (fun k_ hk => ⟨hk.1.1.1.2, ⟨hk.1.1.2, ⟨hk.1.2, hk.2⟩⟩⟩))).2.1 (Kd.R_F (Kd.R_mono (ok' := (fun k_ => some k_ ≠ (.slice Ao21 t150.length co21 : Value).ownBlock ∧ some k_ ≠ (.slice Ao14 y157.length co14 : Value).ownBlock ∧ some k_ ≠ (v161 : Value).ownBlock ∧ some k_ ≠ (.slice Ao22 y167.length co22 : Value).ownBlock)) (Kd.R_apart' (Kd.R_apart' (Kd.R_apart' (Kd.R_apart' (HO173.out) (Kd.N_typed HO152.out) (by decide)) (Kd.N_typed HO159.out) (by decide)) (Kd.N_typed HO162.out) (by decide)) (Kd.N_typed HO169.out) (by decide)) (fun k_ hk => ⟨hk.1.1.1.2, ⟨hk.1.1.2, ⟨hk.1.2, hk.2⟩⟩⟩))))) (Reps.c4 (show Kd.FK k39 _ _ (⟨1, y174, 0, false⟩ : S39) [.int .i64 1, .slice Ao29 y174.length co29, .int .i64 0, .bool false] from (k39_mkF _ _ (⟨1, y174, 0, false⟩ : S39) (Kd.R_reads' (Kd.R_mono (ok' := (fun k_ => some k_ ≠ (.slice Ao21 t150.length co21 : Value).ownBlock ∧ some k_ ≠ (.slice Ao14 y157.length co14 : Value).ownBlock ∧ some k_ ≠ (v161 : Value).ownBlock ∧ some k_ ≠ (.slice Ao22 y167.length co22 : Value).ownBlock)) (Kd.R_apart' (Kd.R_apart' (Kd.R_apart' (Kd.R_apart' (HO176.out) (Kd.N_typed HO152.out) (by decide)) (Kd.N_typed HO159.out) (by decide)) (Kd.N_typed HO162.out) (by decide)) (Kd.N_typed HO169.out) (by decide)) (fun k_ hk => ⟨hk.1.1.1.2, ⟨hk.1.1.2, ⟨hk.1.2, hk.2⟩⟩⟩))).2.1 (Kd.R_F (Kd.R_mono (ok' := (fun k_ => some k_ ≠ (.slice Ao21 t150.length co21 : Value).ownBlock ∧ some k_ ≠ (.slice Ao14 y157.length co14 : Value).ownBlock ∧ some k_ ≠ (v161 : Value).ownBlock ∧ some k_ ≠ (.slice Ao22 y167.length co22 : Value).ownBlock)) (Kd.R_apart' (Kd.R_apart' (Kd.R_apart' (Kd.R_apart' (HO176.out) (Kd.N_typed HO152.out) (by decide)) (Kd.N_typed HO159.out) (by decide)) (Kd.N_typed HO162.out) (by decide)) (Kd.N_typed HO169.out) (by decide)) (fun k_ hk => ⟨hk.1.1.1.2, ⟨hk.1.1.2, ⟨hk.1.2, hk.2⟩⟩⟩))))) (Reps.none _ _)))); intro v178 w30 ho31 hb hg_ hnew_; clear hg_ hnew_; (first | rw [← Ny177.out] at ho31 | (simp only [Int.reduceToNat] at ho31; rw [← Ny177.out] at ho31)); have n0_ := Aside0.mk (Kd.N_elder' (by (with_reducible repeat (first | apply Kd.N_alloc | apply Kd.N_drewN | apply Kd.N_drew)); exact HO152.out) (Kd.N_base ho31) hb); have n1_ := Aside0.mk (Kd.N_elder' (by (with_reducible repeat (first | apply Kd.N_alloc | apply Kd.N_drewN | apply Kd.N_drew)); exact HO159.out) (Kd.N_base ho31) hb); have n2_ := Aside0.mk (Kd.N_elder' (by (with_reducible repeat (first | apply Kd.N_alloc | apply Kd.N_drewN | apply Kd.N_drew)); exact HO162.out) (Kd.N_base ho31) hb); have n3_ := Aside0.mk (Kd.N_elder' (by (with_reducible repeat (first | apply Kd.N_alloc | apply Kd.N_drewN | apply Kd.N_drew)); exact HO169.out) (Kd.N_base ho31) hb); have n4_ := Aside0.mk (Kd.N_lower ho31 (below_size (by repeat (first | (with_reducible first | exact HB.out | apply below_alloc | apply pw_below_drewN | apply below_drew1) | exact HB.out)))); have n5_ := Aside0.mk (below_step (by repeat (first | (with_reducible first | exact HB.out | apply below_alloc | apply pw_below_drewN | apply below_drew1) | exact HB.out)) hb); clear HO152; clear HO159; clear HO162; clear HO169; clear HB; clear HO173; clear HO176; have HO152 := n0_; have HO159 := n1_; have HO162 := n2_; have HO169 := n3_; have HO179 := n4_; have HB := n5_; clear n0_ n1_ n2_ n3_ n4_ n5_; clear hb ho31; obtain ⟨Ao32, co32, eo32⟩ := Kd.N_slice HO162.out; subst eo32; obtain ⟨Ao33, co33, eo33⟩ := Kd.N_slice HO179.out; subst eo33) | (go_at_call 19; (with_reducible refine (cobwebref10_Same.calls k _ _ t160 _ _ y177 t180 _ ?side1 ?side2 ?side3 ?side4 A7.out).mono ?_); (case side1 => repeat (first | exact (Kd.N_reads' HO162.out).2.2 | (with_reducible refine Kd.C_alloc ?_ _) | (with_reducible refine Kd.C_drewN ?_ _) | (with_reducible refine Kd.C_drew ?_))); (case side2 => exact (Kd.N_reads' HO162.out).2.1); (case side3 => repeat (first | exact (Kd.N_reads' HO179.out).2.2 | (with_reducible refine Kd.C_alloc ?_ _) | (with_reducible refine Kd.C_drewN ?_ _) | (with_reducible refine Kd.C_drew ?_))); (case side4 => exact (Kd.N_reads' HO179.out).2.1); rintro e w34 ⟨rfl, hb⟩; have n0_ := Aside0.mk (Kd.N_below (by (with_reducible repeat (first | apply Kd.N_alloc | apply Kd.N_drewN | apply Kd.N_drew)); exact HO152.out) hb); have n1_ := Aside0.mk (Kd.N_below (by (with_reducible repeat (first | apply Kd.N_alloc | apply Kd.N_drewN | apply Kd.N_drew)); exact HO159.out) hb); have n2_ := Aside0.mk (Kd.N_below (by (with_reducible repeat (first | apply Kd.N_alloc | apply Kd.N_drewN | apply Kd.N_drew)); exact HO162.out) hb); have n3_ := Aside0.mk (Kd.N_below (by (with_reducible repeat (first | apply Kd.N_alloc | apply Kd.N_drewN | apply Kd.N_drew)); exact HO169.out) hb); have n4_ := Aside0.mk (Kd.N_below (by (with_reducible repeat (first | apply Kd.N_alloc | apply Kd.N_drewN | apply Kd.N_drew)); exact HO179.out) hb); have n5_ := Aside0.mk (below_step (by repeat (first | (with_reducible first | exact HB.out | apply below_alloc | apply pw_below_drewN | apply below_drew1) | exact HB.out)) hb); clear HO152; clear HO159; clear HO162; clear HO169; clear HO179; clear HB; have HO152 := n0_; have HO159 := n1_; have HO162 := n2_; have HO169 := n3_; have HO179 := n4_; have HB := n5_; clear n0_ n1_ n2_ n3_ n4_ n5_; (try clear hb); (try clear hb2); (try clear hk); (try clear hi)))
    go_ret
    exact ⟨by first | rfl | (simp [errW_none, errW_some] <;> rfl) | (simp [*, errW_none, errW_some] <;> rfl), by repeat (first | (with_reducible first | exact HB.out | apply below_alloc | apply pw_below_drewN | apply below_drew1) | exact HB.out)⟩
   ·rw [if_neg c6] at H
    have c6b0 : (t163 == 0) = false := beq_eq_false_iff_ne.mpr c6
    have c6b1 : (t163 != 0) = true := bne_iff_ne.mpr c6
    obtain rfl := Option.some.inj H
    go_enter Try.func8, Try.ntmps8
    go_wp2_with (first | ((with_reducible refine gate_callee (f := 9) rfl ?_); refine goesL_ (some 6) rfl rfl Try.func9 (by kernel_rfl) rfl #[.slice none 0 0, .int .i64 5] rfl (by (try simp only [List.map_toArray, List.map_cons, List.map_nil]); first | done | rfl | (simp only [List.length_drop, List.length_take]; rfl)) ?_; (refine (chunk_Insert.calls _ _ ([] : List (S39)) 5 t150 t153 _ ?side1 ?side2 A1.out).mono ?_); (case side1 => exact Kd.C_nil _ _); (case side2 => exact Nat.le_refl _); rintro e w35 ⟨v151, rfl, ho0, hb⟩; refine ⟨_, rfl, ?_⟩; have n0_ := Aside0.mk (Kd.N_lower (Kd.N_mono (ok' := fun k_ => True) ho0 (fun k_ hk_ => trivial)) (below_size (by repeat (first | (with_reducible first | exact HB.out | apply below_alloc | apply pw_below_drewN | apply below_drew1) | exact HB.out)))); have n1_ := Aside0.mk (below_step (by repeat (first | (with_reducible first | exact HB.out | apply below_alloc | apply pw_below_drewN | apply below_drew1) | exact HB.out)) hb); clear HB; have HO152 := n0_; have HB := n1_; clear n0_ n1_; (try clear hb); (try clear hb2); (try clear hk); (try clear hi); (try clear ho0)) | ((with_reducible refine gate_dst (N := 10) rfl ?_); (try (refine gate_guard (by rfl) ?_; dsimp only)); refine Kd.R_lit (Kd.int .i64) _ 3 ?hg (N := 10) ?hd (xs := ([1, 2, 4, 5] : List Int)) (inner := [.int .i64 1, .int .i64 2, .int .i64 4, .int .i64 5]) (ok := fun _ => True) (okp := fun _ => True) ?hr ?hp (fun _ hk => hk) trivial (Below.refl _ _) (Nat.le_refl _) (by simp) ?_; (case hd => rfl); (case hg => rfl); (case hr => first | (go_simp; done) | (go_simp; rfl)); (case hp => exact (Reps.one (show Kd.M (Kd.int .i64) _ _ _ 1 [.int .i64 1] from rfl) (Reps.one (show Kd.M (Kd.int .i64) _ _ _ 2 [.int .i64 2] from rfl) (Reps.one (show Kd.M (Kd.int .i64) _ _ _ 4 [.int .i64 4] from rfl) (Reps.one (show Kd.M (Kd.int .i64) _ _ _ 5 [.int .i64 5] from rfl) (Reps.none _ _)))))); intro v155 w36 ho37 hb hg_ hnew_; clear hg_ hnew_; (first | rw [← Ny154.out] at ho37 | (simp only [Int.reduceToNat] at ho37; rw [← Ny154.out] at ho37)); have n0_ := Aside0.mk (Kd.N_elder' (by (with_reducible repeat (first | apply Kd.N_alloc | apply Kd.N_drewN | apply Kd.N_drew)); exact HO152.out) (Kd.R_base ho37) hb); have n1_ := Aside0.mk (Kd.R_lower ho37 (below_size (by repeat (first | (with_reducible first | exact HB.out | apply below_alloc | apply pw_below_drewN | apply below_drew1) | exact HB.out)))); have n2_ := Aside0.mk (below_step (by repeat (first | (with_reducible first | exact HB.out | apply below_alloc | apply pw_below_drewN | apply below_drew1) | exact HB.out)) hb); clear HO152; clear HB; have HO152 := n0_; have HO156 := n1_; have HB := n2_; clear n0_ n1_ n2_; clear hb ho37; obtain ⟨Ao38, co38, eo38⟩ := Kd.R_slice HO156.out; subst eo38) | ((with_reducible refine gate_dst (N := 12) rfl ?_); (try (refine gate_guard (by rfl) ?_; dsimp only)); refine Kd.N_lit k39 _ 39 ?hg (N' := 12) ?hd (xs := ([(⟨0, y154, 0, false⟩ : S39)] : List (S39))) (inner := [.int .i64 0, .slice Ao38 y154.length co38, .int .i64 0, .bool false]) (ok := (fun k_ => some k_ ≠ (v151 : Value).ownBlock)) (okp := (fun k_ => some k_ ≠ (v151 : Value).ownBlock)) ?hr ?hp (fun _ hk => hk) ((show ∀ k_, w36.heap.size ≤ k_ → (fun k_ => some k_ ≠ (v151 : Value).ownBlock) k_ from fun k_ hk => Kd.fresh' (Kd.N_lt (by (with_reducible repeat (first | apply Kd.N_alloc | apply Kd.N_drewN | apply Kd.N_drew)); exact HO152.out)) k_ hk) _ (Nat.le_refl _)) (Below.refl _ _) (Nat.le_refl _) (by simp) ?_; (case hd => rfl); (case hg => rfl); (case hr => first | (go_simp; done) | (go_simp; rfl)); (case hp => exact (Reps.c4 (show Kd.FK k39 _ _ (⟨0, y154, 0, false⟩ : S39) [.int .i64 0, .slice Ao38 y154.length co38, .int .i64 0, .bool false] from (k39_mkF _ _ (⟨0, y154, 0, false⟩ : S39) (Kd.R_reads' (Kd.R_mono (ok' := (fun k_ => some k_ ≠ (v151 : Value).ownBlock)) (Kd.R_apart' (HO156.out) (Kd.N_typed HO152.out) (by decide)) (fun k_ hk => hk.2))).2.1 (Kd.R_F (Kd.R_mono (ok' := (fun k_ => some k_ ≠ (v151 : Value).ownBlock)) (Kd.R_apart' (HO156.out) (Kd.N_typed HO152.out) (by decide)) (fun k_ hk => hk.2))))) (Reps.none _ _))); intro v158 w39 ho40 hb hg_ hnew_; clear hg_ hnew_; (first | rw [← Ny157.out] at ho40 | (simp only [Int.reduceToNat] at ho40; rw [← Ny157.out] at ho40)); have n0_ := Aside0.mk (Kd.N_elder' (by (with_reducible repeat (first | apply Kd.N_alloc | apply Kd.N_drewN | apply Kd.N_drew)); exact HO152.out) (Kd.N_base ho40) hb); have n1_ := Aside0.mk (Kd.N_lower ho40 (below_size (by repeat (first | (with_reducible first | exact HB.out | apply below_alloc | apply pw_below_drewN | apply below_drew1) | exact HB.out)))); have n2_ := Aside0.mk (below_step (by repeat (first | (with_reducible first | exact HB.out | apply below_alloc | apply pw_below_drewN | apply below_drew1) | exact HB.out)) hb); clear HO152; clear HB; clear HO156; have HO152 := n0_; have HO159 := n1_; have HB := n2_; clear n0_ n1_ n2_; clear hb ho40; obtain ⟨Ao41, co41, eo41⟩ := Kd.N_slice HO159.out; subst eo41) | ((with_reducible refine gate_callee (f := 9) rfl ?_); refine goesL_ (some 13) rfl rfl Try.func9 (by kernel_rfl) rfl #[.slice Ao41 y157.length co41, .int .i64 3] rfl (by (try simp only [List.map_toArray, List.map_cons, List.map_nil]); first | done | rfl | (simp only [List.length_drop, List.length_take]; rfl)) ?_; (with_reducible refine (chunk_Insert.calls _ _ y157 3 t160 t163 _ ?side1 ?side2 A2.out).mono ?_); (case side1 => repeat (first | exact (Kd.N_reads' HO159.out).2.2 | (with_reducible refine Kd.C_alloc ?_ _) | (with_reducible refine Kd.C_drewN ?_ _) | (with_reducible refine Kd.C_drew ?_))); (case side2 => exact (Kd.N_reads' HO159.out).2.1); rintro e w42 ⟨v161, rfl, ho0, hb⟩; refine ⟨_, rfl, ?_⟩; have n0_ := Aside0.mk (Kd.N_elder' (by (with_reducible repeat (first | apply Kd.N_alloc | apply Kd.N_drewN | apply Kd.N_drew)); exact HO152.out) (Kd.N_base ho0) hb); have n1_ := Aside0.mk (Kd.N_elder' (by (with_reducible repeat (first | apply Kd.N_alloc | apply Kd.N_drewN | apply Kd.N_drew)); exact HO159.out) (Kd.N_base ho0) hb); have n2_ := Aside0.mk (Kd.N_lower (Kd.N_mono (ok' := fun k_ => some k_ ≠ (v151 : Value).ownBlock ∧ some k_ ≠ (.slice Ao41 y157.length co41 : Value).ownBlock) ho0 (fun k_ hk_ => ⟨(Kd.fresh' (Kd.N_lt (by (with_reducible repeat (first | apply Kd.N_alloc | apply Kd.N_drewN | apply Kd.N_drew)); exact HO152.out)) k_ hk_), (Kd.fresh' (Kd.N_lt (by (with_reducible repeat (first | apply Kd.N_alloc | apply Kd.N_drewN | apply Kd.N_drew)); exact HO159.out)) k_ hk_)⟩)) (below_size (by repeat (first | (with_reducible first | exact HB.out | apply below_alloc | apply pw_below_drewN | apply below_drew1) | exact HB.out)))); have n3_ := Aside0.mk (below_step (by repeat (first | (with_reducible first | exact HB.out | apply below_alloc | apply pw_below_drewN | apply below_drew1) | exact HB.out)) hb); clear HO152; clear HO159; clear HB; have HO152 := n0_; have HO159 := n1_; have HO162 := n2_; have HB := n3_; clear n0_ n1_ n2_ n3_; (try clear hb); (try clear hb2); (try clear hk); (try clear hi); (try clear ho0)) | ((with_reducible refine gate_dst (N := 20) rfl ?_); (try (refine gate_guard (by rfl) ?_; dsimp only)); refine Kd.R_lit (Kd.int .i64) _ 3 ?hg (N := 20) ?hd (xs := ([5] : List Int)) (inner := [.int .i64 5]) (ok := fun _ => True) (okp := fun _ => True) ?hr ?hp (fun _ hk => hk) trivial (Below.refl _ _) (Nat.le_refl _) (by simp) ?_; (case hd => rfl); (case hg => rfl); (case hr => first | (go_simp; done) | (go_simp; rfl)); (case hp => exact (Reps.one (show Kd.M (Kd.int .i64) _ _ _ 5 [.int .i64 5] from rfl) (Reps.none _ _))); intro v165 w43 ho44 hb hg_ hnew_; clear hg_ hnew_; (first | rw [← Ny164.out] at ho44 | (simp only [Int.reduceToNat] at ho44; rw [← Ny164.out] at ho44)); have n0_ := Aside0.mk (Kd.N_elder' (by (with_reducible repeat (first | apply Kd.N_alloc | apply Kd.N_drewN | apply Kd.N_drew)); exact HO152.out) (Kd.R_base ho44) hb); have n1_ := Aside0.mk (Kd.N_elder' (by (with_reducible repeat (first | apply Kd.N_alloc | apply Kd.N_drewN | apply Kd.N_drew)); exact HO159.out) (Kd.R_base ho44) hb); have n2_ := Aside0.mk (Kd.N_elder' (by (with_reducible repeat (first | apply Kd.N_alloc | apply Kd.N_drewN | apply Kd.N_drew)); exact HO162.out) (Kd.R_base ho44) hb); have n3_ := Aside0.mk (Kd.R_lower ho44 (below_size (by repeat (first | (with_reducible first | exact HB.out | apply below_alloc | apply pw_below_drewN | apply below_drew1) | exact HB.out)))); have n4_ := Aside0.mk (below_step (by repeat (first | (with_reducible first | exact HB.out | apply below_alloc | apply pw_below_drewN | apply below_drew1) | exact HB.out)) hb); clear HO152; clear HO159; clear HO162; clear HB; have HO152 := n0_; have HO159 := n1_; have HO162 := n2_; have HO166 := n3_; have HB := n4_; clear n0_ n1_ n2_ n3_ n4_; clear hb ho44; obtain ⟨Ao45, co45, eo45⟩ := Kd.R_slice HO166.out; subst eo45) | ((with_reducible refine gate_dst (N := 22) rfl ?_); (try (refine gate_guard (by rfl) ?_; dsimp only)); refine Kd.N_lit k39 _ 39 ?hg (N' := 22) ?hd (xs := ([(⟨0, y164, 0, false⟩ : S39)] : List (S39))) (inner := [.int .i64 0, .slice Ao45 y164.length co45, .int .i64 0, .bool false]) (ok := (fun k_ => some k_ ≠ (v151 : Value).ownBlock ∧ some k_ ≠ (.slice Ao41 y157.length co41 : Value).ownBlock ∧ some k_ ≠ (v161 : Value).ownBlock)) (okp := (fun k_ => some k_ ≠ (v151 : Value).ownBlock ∧ some k_ ≠ (.slice Ao41 y157.length co41 : Value).ownBlock ∧ some k_ ≠ (v161 : Value).ownBlock)) ?hr ?hp (fun _ hk => hk) ((show ∀ k_, w43.heap.size ≤ k_ → (fun k_ => some k_ ≠ (v151 : Value).ownBlock ∧ some k_ ≠ (.slice Ao41 y157.length co41 : Value).ownBlock ∧ some k_ ≠ (v161 : Value).ownBlock) k_ from fun k_ hk => ⟨Kd.fresh' (Kd.N_lt (by (with_reducible repeat (first | apply Kd.N_alloc | apply Kd.N_drewN | apply Kd.N_drew)); exact HO152.out)) k_ hk, Kd.fresh' (Kd.N_lt (by (with_reducible repeat (first | apply Kd.N_alloc | apply Kd.N_drewN | apply Kd.N_drew)); exact HO159.out)) k_ hk, Kd.fresh' (Kd.N_lt (by (with_reducible repeat (first | apply Kd.N_alloc | apply Kd.N_drewN | apply Kd.N_drew)); exact HO162.out)) k_ hk⟩) _ (Nat.le_refl _)) (Below.refl _ _) (Nat.le_refl _) (by simp) ?_; (case hd => rfl); (case hg => rfl); (case hr => first | (go_simp; done) | (go_simp; rfl)); (case hp => exact (Reps.c4 (show Kd.FK k39 _ _ (⟨0, y164, 0, false⟩ : S39) [.int .i64 0, .slice Ao45 y164.length co45, .int .i64 0, .bool false] from (k39_mkF _ _ (⟨0, y164, 0, false⟩ : S39) (Kd.R_reads' (Kd.R_mono (ok' := (fun k_ => some k_ ≠ (v151 : Value).ownBlock ∧ some k_ ≠ (.slice Ao41 y157.length co41 : Value).ownBlock ∧ some k_ ≠ (v161 : Value).ownBlock)) (Kd.R_apart' (Kd.R_apart' (Kd.R_apart' (HO166.out) (Kd.N_typed HO152.out) (by decide)) (Kd.N_typed HO159.out) (by decide)) (Kd.N_typed HO162.out) (by decide)) (fun k_ hk => ⟨hk.1.1.2, ⟨hk.1.2, hk.2⟩⟩))).2.1 (Kd.R_F (Kd.R_mono (ok' := (fun k_ => some k_ ≠ (v151 : Value).ownBlock ∧ some k_ ≠ (.slice Ao41 y157.length co41 : Value).ownBlock ∧ some k_ ≠ (v161 : Value).ownBlock)) (Kd.R_apart' (Kd.R_apart' (Kd.R_apart' (HO166.out) (Kd.N_typed HO152.out) (by decide)) (Kd.N_typed HO159.out) (by decide)) (Kd.N_typed HO162.out) (by decide)) (fun k_ hk => ⟨hk.1.1.2, ⟨hk.1.2, hk.2⟩⟩))))) (Reps.none _ _))); intro v168 w46 ho47 hb hg_ hnew_; clear hg_ hnew_; (first | rw [← Ny167.out] at ho47 | (simp only [Int.reduceToNat] at ho47; rw [← Ny167.out] at ho47)); have n0_ := Aside0.mk (Kd.N_elder' (by (with_reducible repeat (first | apply Kd.N_alloc | apply Kd.N_drewN | apply Kd.N_drew)); exact HO152.out) (Kd.N_base ho47) hb); have n1_ := Aside0.mk (Kd.N_elder' (by (with_reducible repeat (first | apply Kd.N_alloc | apply Kd.N_drewN | apply Kd.N_drew)); exact HO159.out) (Kd.N_base ho47) hb); have n2_ := Aside0.mk (Kd.N_elder' (by (with_reducible repeat (first | apply Kd.N_alloc | apply Kd.N_drewN | apply Kd.N_drew)); exact HO162.out) (Kd.N_base ho47) hb); have n3_ := Aside0.mk (Kd.N_lower ho47 (below_size (by repeat (first | (with_reducible first | exact HB.out | apply below_alloc | apply pw_below_drewN | apply below_drew1) | exact HB.out)))); have n4_ := Aside0.mk (below_step (by repeat (first | (with_reducible first | exact HB.out | apply below_alloc | apply pw_below_drewN | apply below_drew1) | exact HB.out)) hb); clear HO152; clear HO159; clear HO162; clear HB; clear HO166; have HO152 := n0_; have HO159 := n1_; have HO162 := n2_; have HO169 := n3_; have HB := n4_; clear n0_ n1_ n2_ n3_ n4_; clear hb ho47; obtain ⟨Ao48, co48, eo48⟩ := Kd.N_slice HO152.out; subst eo48; obtain ⟨Ao49, co49, eo49⟩ := Kd.N_slice HO169.out; subst eo49) | (go_at_call 19; (with_reducible refine (cobwebref10_Same.calls k _ _ t150 _ _ y167 true _ ?side1 ?side2 ?side3 ?side4 A4.out).mono ?_); (case side1 => repeat (first | exact (Kd.N_reads' HO152.out).2.2 | (with_reducible refine Kd.C_alloc ?_ _) | (with_reducible refine Kd.C_drewN ?_ _) | (with_reducible refine Kd.C_drew ?_))); (case side2 => exact (Kd.N_reads' HO152.out).2.1); (case side3 => repeat (first | exact (Kd.N_reads' HO169.out).2.2 | (with_reducible refine Kd.C_alloc ?_ _) | (with_reducible refine Kd.C_drewN ?_ _) | (with_reducible refine Kd.C_drew ?_))); (case side4 => exact (Kd.N_reads' HO169.out).2.1); rintro e w50 ⟨rfl, hb⟩; have n0_ := Aside0.mk (Kd.N_below (by (with_reducible repeat (first | apply Kd.N_alloc | apply Kd.N_drewN | apply Kd.N_drew)); exact HO152.out) hb); have n1_ := Aside0.mk (Kd.N_below (by (with_reducible repeat (first | apply Kd.N_alloc | apply Kd.N_drewN | apply Kd.N_drew)); exact HO159.out) hb); have n2_ := Aside0.mk (Kd.N_below (by (with_reducible repeat (first | apply Kd.N_alloc | apply Kd.N_drewN | apply Kd.N_drew)); exact HO162.out) hb); have n3_ := Aside0.mk (Kd.N_below (by (with_reducible repeat (first | apply Kd.N_alloc | apply Kd.N_drewN | apply Kd.N_drew)); exact HO169.out) hb); have n4_ := Aside0.mk (below_step (by repeat (first | (with_reducible first | exact HB.out | apply below_alloc | apply pw_below_drewN | apply below_drew1) | exact HB.out)) hb); clear HO152; clear HO159; clear HO162; clear HO169; clear HB; have HO152 := n0_; have HO159 := n1_; have HO162 := n2_; have HO169 := n3_; have HB := n4_; clear n0_ n1_ n2_ n3_ n4_; (try clear hb); (try clear hb2); (try clear hk); (try clear hi)))
    go_ret
    exact ⟨by first | rfl | (simp [errW_none, errW_some] <;> rfl) | (simp [*, errW_none, errW_some] <;> rfl), by repeat (first | (with_reducible first | exact HB.out | apply below_alloc | apply pw_below_drewN | apply below_drew1) | exact HB.out)⟩
  ·replace c5 := Bool.eq_false_iff.mpr c5
   subst c5
   have H1 : (some false) = some r := by rw [if_neg (show ¬ (false = true) by decide)] at H; exact H
   clear H
   have H := H1
   clear H1
   obtain rfl := Option.some.inj H
   go_enter Try.func8, Try.ntmps8
   go_wp2_with (first | ((with_reducible refine gate_callee (f := 9) rfl ?_); refine goesL_ (some 6) rfl rfl Try.func9 (by kernel_rfl) rfl #[.slice none 0 0, .int .i64 5] rfl (by (try simp only [List.map_toArray, List.map_cons, List.map_nil]); first | done | rfl | (simp only [List.length_drop, List.length_take]; rfl)) ?_; (refine (chunk_Insert.calls _ _ ([] : List (S39)) 5 t150 t153 _ ?side1 ?side2 A1.out).mono ?_); (case side1 => exact Kd.C_nil _ _); (case side2 => exact Nat.le_refl _); rintro e w51 ⟨v151, rfl, ho0, hb⟩; refine ⟨_, rfl, ?_⟩; have n0_ := Aside0.mk (Kd.N_lower (Kd.N_mono (ok' := fun k_ => True) ho0 (fun k_ hk_ => trivial)) (below_size (by repeat (first | (with_reducible first | exact HB.out | apply below_alloc | apply pw_below_drewN | apply below_drew1) | exact HB.out)))); have n1_ := Aside0.mk (below_step (by repeat (first | (with_reducible first | exact HB.out | apply below_alloc | apply pw_below_drewN | apply below_drew1) | exact HB.out)) hb); clear HB; have HO152 := n0_; have HB := n1_; clear n0_ n1_; (try clear hb); (try clear hb2); (try clear hk); (try clear hi); (try clear ho0)) | ((with_reducible refine gate_dst (N := 10) rfl ?_); (try (refine gate_guard (by rfl) ?_; dsimp only)); refine Kd.R_lit (Kd.int .i64) _ 3 ?hg (N := 10) ?hd (xs := ([1, 2, 4, 5] : List Int)) (inner := [.int .i64 1, .int .i64 2, .int .i64 4, .int .i64 5]) (ok := fun _ => True) (okp := fun _ => True) ?hr ?hp (fun _ hk => hk) trivial (Below.refl _ _) (Nat.le_refl _) (by simp) ?_; (case hd => rfl); (case hg => rfl); (case hr => first | (go_simp; done) | (go_simp; rfl)); (case hp => exact (Reps.one (show Kd.M (Kd.int .i64) _ _ _ 1 [.int .i64 1] from rfl) (Reps.one (show Kd.M (Kd.int .i64) _ _ _ 2 [.int .i64 2] from rfl) (Reps.one (show Kd.M (Kd.int .i64) _ _ _ 4 [.int .i64 4] from rfl) (Reps.one (show Kd.M (Kd.int .i64) _ _ _ 5 [.int .i64 5] from rfl) (Reps.none _ _)))))); intro v155 w52 ho53 hb hg_ hnew_; clear hg_ hnew_; (first | rw [← Ny154.out] at ho53 | (simp only [Int.reduceToNat] at ho53; rw [← Ny154.out] at ho53)); have n0_ := Aside0.mk (Kd.N_elder' (by (with_reducible repeat (first | apply Kd.N_alloc | apply Kd.N_drewN | apply Kd.N_drew)); exact HO152.out) (Kd.R_base ho53) hb); have n1_ := Aside0.mk (Kd.R_lower ho53 (below_size (by repeat (first | (with_reducible first | exact HB.out | apply below_alloc | apply pw_below_drewN | apply below_drew1) | exact HB.out)))); have n2_ := Aside0.mk (below_step (by repeat (first | (with_reducible first | exact HB.out | apply below_alloc | apply pw_below_drewN | apply below_drew1) | exact HB.out)) hb); clear HO152; clear HB; have HO152 := n0_; have HO156 := n1_; have HB := n2_; clear n0_ n1_ n2_; clear hb ho53; obtain ⟨Ao54, co54, eo54⟩ := Kd.R_slice HO156.out; subst eo54) | ((with_reducible refine gate_dst (N := 12) rfl ?_); (try (refine gate_guard (by rfl) ?_; dsimp only)); refine Kd.N_lit k39 _ 39 ?hg (N' := 12) ?hd (xs := ([(⟨0, y154, 0, false⟩ : S39)] : List (S39))) (inner := [.int .i64 0, .slice Ao54 y154.length co54, .int .i64 0, .bool false]) (ok := (fun k_ => some k_ ≠ (v151 : Value).ownBlock)) (okp := (fun k_ => some k_ ≠ (v151 : Value).ownBlock)) ?hr ?hp (fun _ hk => hk) ((show ∀ k_, w52.heap.size ≤ k_ → (fun k_ => some k_ ≠ (v151 : Value).ownBlock) k_ from fun k_ hk => Kd.fresh' (Kd.N_lt (by (with_reducible repeat (first | apply Kd.N_alloc | apply Kd.N_drewN | apply Kd.N_drew)); exact HO152.out)) k_ hk) _ (Nat.le_refl _)) (Below.refl _ _) (Nat.le_refl _) (by simp) ?_; (case hd => rfl); (case hg => rfl); (case hr => first | (go_simp; done) | (go_simp; rfl)); (case hp => exact (Reps.c4 (show Kd.FK k39 _ _ (⟨0, y154, 0, false⟩ : S39) [.int .i64 0, .slice Ao54 y154.length co54, .int .i64 0, .bool false] from (k39_mkF _ _ (⟨0, y154, 0, false⟩ : S39) (Kd.R_reads' (Kd.R_mono (ok' := (fun k_ => some k_ ≠ (v151 : Value).ownBlock)) (Kd.R_apart' (HO156.out) (Kd.N_typed HO152.out) (by decide)) (fun k_ hk => hk.2))).2.1 (Kd.R_F (Kd.R_mono (ok' := (fun k_ => some k_ ≠ (v151 : Value).ownBlock)) (Kd.R_apart' (HO156.out) (Kd.N_typed HO152.out) (by decide)) (fun k_ hk => hk.2))))) (Reps.none _ _))); intro v158 w55 ho56 hb hg_ hnew_; clear hg_ hnew_; (first | rw [← Ny157.out] at ho56 | (simp only [Int.reduceToNat] at ho56; rw [← Ny157.out] at ho56)); have n0_ := Aside0.mk (Kd.N_elder' (by (with_reducible repeat (first | apply Kd.N_alloc | apply Kd.N_drewN | apply Kd.N_drew)); exact HO152.out) (Kd.N_base ho56) hb); have n1_ := Aside0.mk (Kd.N_lower ho56 (below_size (by repeat (first | (with_reducible first | exact HB.out | apply below_alloc | apply pw_below_drewN | apply below_drew1) | exact HB.out)))); have n2_ := Aside0.mk (below_step (by repeat (first | (with_reducible first | exact HB.out | apply below_alloc | apply pw_below_drewN | apply below_drew1) | exact HB.out)) hb); clear HO152; clear HB; clear HO156; have HO152 := n0_; have HO159 := n1_; have HB := n2_; clear n0_ n1_ n2_; clear hb ho56; obtain ⟨Ao57, co57, eo57⟩ := Kd.N_slice HO159.out; subst eo57) | ((with_reducible refine gate_callee (f := 9) rfl ?_); refine goesL_ (some 13) rfl rfl Try.func9 (by kernel_rfl) rfl #[.slice Ao57 y157.length co57, .int .i64 3] rfl (by (try simp only [List.map_toArray, List.map_cons, List.map_nil]); first | done | rfl | (simp only [List.length_drop, List.length_take]; rfl)) ?_; (with_reducible refine (chunk_Insert.calls _ _ y157 3 t160 t163 _ ?side1 ?side2 A2.out).mono ?_); (case side1 => repeat (first | exact (Kd.N_reads' HO159.out).2.2 | (with_reducible refine Kd.C_alloc ?_ _) | (with_reducible refine Kd.C_drewN ?_ _) | (with_reducible refine Kd.C_drew ?_))); (case side2 => exact (Kd.N_reads' HO159.out).2.1); rintro e w58 ⟨v161, rfl, ho0, hb⟩; refine ⟨_, rfl, ?_⟩; have n0_ := Aside0.mk (Kd.N_elder' (by (with_reducible repeat (first | apply Kd.N_alloc | apply Kd.N_drewN | apply Kd.N_drew)); exact HO152.out) (Kd.N_base ho0) hb); have n1_ := Aside0.mk (Kd.N_elder' (by (with_reducible repeat (first | apply Kd.N_alloc | apply Kd.N_drewN | apply Kd.N_drew)); exact HO159.out) (Kd.N_base ho0) hb); have n2_ := Aside0.mk (Kd.N_lower (Kd.N_mono (ok' := fun k_ => some k_ ≠ (v151 : Value).ownBlock ∧ some k_ ≠ (.slice Ao57 y157.length co57 : Value).ownBlock) ho0 (fun k_ hk_ => ⟨(Kd.fresh' (Kd.N_lt (by (with_reducible repeat (first | apply Kd.N_alloc | apply Kd.N_drewN | apply Kd.N_drew)); exact HO152.out)) k_ hk_), (Kd.fresh' (Kd.N_lt (by (with_reducible repeat (first | apply Kd.N_alloc | apply Kd.N_drewN | apply Kd.N_drew)); exact HO159.out)) k_ hk_)⟩)) (below_size (by repeat (first | (with_reducible first | exact HB.out | apply below_alloc | apply pw_below_drewN | apply below_drew1) | exact HB.out)))); have n3_ := Aside0.mk (below_step (by repeat (first | (with_reducible first | exact HB.out | apply below_alloc | apply pw_below_drewN | apply below_drew1) | exact HB.out)) hb); clear HO152; clear HO159; clear HB; have HO152 := n0_; have HO159 := n1_; have HO162 := n2_; have HB := n3_; clear n0_ n1_ n2_ n3_; (try clear hb); (try clear hb2); (try clear hk); (try clear hi); (try clear ho0)) | ((with_reducible refine gate_dst (N := 20) rfl ?_); (try (refine gate_guard (by rfl) ?_; dsimp only)); refine Kd.R_lit (Kd.int .i64) _ 3 ?hg (N := 20) ?hd (xs := ([5] : List Int)) (inner := [.int .i64 5]) (ok := fun _ => True) (okp := fun _ => True) ?hr ?hp (fun _ hk => hk) trivial (Below.refl _ _) (Nat.le_refl _) (by simp) ?_; (case hd => rfl); (case hg => rfl); (case hr => first | (go_simp; done) | (go_simp; rfl)); (case hp => exact (Reps.one (show Kd.M (Kd.int .i64) _ _ _ 5 [.int .i64 5] from rfl) (Reps.none _ _))); intro v165 w59 ho60 hb hg_ hnew_; clear hg_ hnew_; (first | rw [← Ny164.out] at ho60 | (simp only [Int.reduceToNat] at ho60; rw [← Ny164.out] at ho60)); have n0_ := Aside0.mk (Kd.N_elder' (by (with_reducible repeat (first | apply Kd.N_alloc | apply Kd.N_drewN | apply Kd.N_drew)); exact HO152.out) (Kd.R_base ho60) hb); have n1_ := Aside0.mk (Kd.N_elder' (by (with_reducible repeat (first | apply Kd.N_alloc | apply Kd.N_drewN | apply Kd.N_drew)); exact HO159.out) (Kd.R_base ho60) hb); have n2_ := Aside0.mk (Kd.N_elder' (by (with_reducible repeat (first | apply Kd.N_alloc | apply Kd.N_drewN | apply Kd.N_drew)); exact HO162.out) (Kd.R_base ho60) hb); have n3_ := Aside0.mk (Kd.R_lower ho60 (below_size (by repeat (first | (with_reducible first | exact HB.out | apply below_alloc | apply pw_below_drewN | apply below_drew1) | exact HB.out)))); have n4_ := Aside0.mk (below_step (by repeat (first | (with_reducible first | exact HB.out | apply below_alloc | apply pw_below_drewN | apply below_drew1) | exact HB.out)) hb); clear HO152; clear HO159; clear HO162; clear HB; have HO152 := n0_; have HO159 := n1_; have HO162 := n2_; have HO166 := n3_; have HB := n4_; clear n0_ n1_ n2_ n3_ n4_; clear hb ho60; obtain ⟨Ao61, co61, eo61⟩ := Kd.R_slice HO166.out; subst eo61) | ((with_reducible refine gate_dst (N := 22) rfl ?_); (try (refine gate_guard (by rfl) ?_; dsimp only)); refine Kd.N_lit k39 _ 39 ?hg (N' := 22) ?hd (xs := ([(⟨0, y164, 0, false⟩ : S39)] : List (S39))) (inner := [.int .i64 0, .slice Ao61 y164.length co61, .int .i64 0, .bool false]) (ok := (fun k_ => some k_ ≠ (v151 : Value).ownBlock ∧ some k_ ≠ (.slice Ao57 y157.length co57 : Value).ownBlock ∧ some k_ ≠ (v161 : Value).ownBlock)) (okp := (fun k_ => some k_ ≠ (v151 : Value).ownBlock ∧ some k_ ≠ (.slice Ao57 y157.length co57 : Value).ownBlock ∧ some k_ ≠ (v161 : Value).ownBlock)) ?hr ?hp (fun _ hk => hk) ((show ∀ k_, w59.heap.size ≤ k_ → (fun k_ => some k_ ≠ (v151 : Value).ownBlock ∧ some k_ ≠ (.slice Ao57 y157.length co57 : Value).ownBlock ∧ some k_ ≠ (v161 : Value).ownBlock) k_ from fun k_ hk => ⟨Kd.fresh' (Kd.N_lt (by (with_reducible repeat (first | apply Kd.N_alloc | apply Kd.N_drewN | apply Kd.N_drew)); exact HO152.out)) k_ hk, Kd.fresh' (Kd.N_lt (by (with_reducible repeat (first | apply Kd.N_alloc | apply Kd.N_drewN | apply Kd.N_drew)); exact HO159.out)) k_ hk, Kd.fresh' (Kd.N_lt (by (with_reducible repeat (first | apply Kd.N_alloc | apply Kd.N_drewN | apply Kd.N_drew)); exact HO162.out)) k_ hk⟩) _ (Nat.le_refl _)) (Below.refl _ _) (Nat.le_refl _) (by simp) ?_; (case hd => rfl); (case hg => rfl); (case hr => first | (go_simp; done) | (go_simp; rfl)); (case hp => exact (Reps.c4 (show Kd.FK k39 _ _ (⟨0, y164, 0, false⟩ : S39) [.int .i64 0, .slice Ao61 y164.length co61, .int .i64 0, .bool false] from (k39_mkF _ _ (⟨0, y164, 0, false⟩ : S39) (Kd.R_reads' (Kd.R_mono (ok' := (fun k_ => some k_ ≠ (v151 : Value).ownBlock ∧ some k_ ≠ (.slice Ao57 y157.length co57 : Value).ownBlock ∧ some k_ ≠ (v161 : Value).ownBlock)) (Kd.R_apart' (Kd.R_apart' (Kd.R_apart' (HO166.out) (Kd.N_typed HO152.out) (by decide)) (Kd.N_typed HO159.out) (by decide)) (Kd.N_typed HO162.out) (by decide)) (fun k_ hk => ⟨hk.1.1.2, ⟨hk.1.2, hk.2⟩⟩))).2.1 (Kd.R_F (Kd.R_mono (ok' := (fun k_ => some k_ ≠ (v151 : Value).ownBlock ∧ some k_ ≠ (.slice Ao57 y157.length co57 : Value).ownBlock ∧ some k_ ≠ (v161 : Value).ownBlock)) (Kd.R_apart' (Kd.R_apart' (Kd.R_apart' (HO166.out) (Kd.N_typed HO152.out) (by decide)) (Kd.N_typed HO159.out) (by decide)) (Kd.N_typed HO162.out) (by decide)) (fun k_ hk => ⟨hk.1.1.2, ⟨hk.1.2, hk.2⟩⟩))))) (Reps.none _ _))); intro v168 w62 ho63 hb hg_ hnew_; clear hg_ hnew_; (first | rw [← Ny167.out] at ho63 | (simp only [Int.reduceToNat] at ho63; rw [← Ny167.out] at ho63)); have n0_ := Aside0.mk (Kd.N_elder' (by (with_reducible repeat (first | apply Kd.N_alloc | apply Kd.N_drewN | apply Kd.N_drew)); exact HO152.out) (Kd.N_base ho63) hb); have n1_ := Aside0.mk (Kd.N_elder' (by (with_reducible repeat (first | apply Kd.N_alloc | apply Kd.N_drewN | apply Kd.N_drew)); exact HO159.out) (Kd.N_base ho63) hb); have n2_ := Aside0.mk (Kd.N_elder' (by (with_reducible repeat (first | apply Kd.N_alloc | apply Kd.N_drewN | apply Kd.N_drew)); exact HO162.out) (Kd.N_base ho63) hb); have n3_ := Aside0.mk (Kd.N_lower ho63 (below_size (by repeat (first | (with_reducible first | exact HB.out | apply below_alloc | apply pw_below_drewN | apply below_drew1) | exact HB.out)))); have n4_ := Aside0.mk (below_step (by repeat (first | (with_reducible first | exact HB.out | apply below_alloc | apply pw_below_drewN | apply below_drew1) | exact HB.out)) hb); clear HO152; clear HO159; clear HO162; clear HB; clear HO166; have HO152 := n0_; have HO159 := n1_; have HO162 := n2_; have HO169 := n3_; have HB := n4_; clear n0_ n1_ n2_ n3_ n4_; clear hb ho63; obtain ⟨Ao64, co64, eo64⟩ := Kd.N_slice HO152.out; subst eo64; obtain ⟨Ao65, co65, eo65⟩ := Kd.N_slice HO169.out; subst eo65) | (go_at_call 19; (with_reducible refine (cobwebref10_Same.calls k _ _ t150 _ _ y167 false _ ?side1 ?side2 ?side3 ?side4 A4.out).mono ?_); (case side1 => repeat (first | exact (Kd.N_reads' HO152.out).2.2 | (with_reducible refine Kd.C_alloc ?_ _) | (with_reducible refine Kd.C_drewN ?_ _) | (with_reducible refine Kd.C_drew ?_))); (case side2 => exact (Kd.N_reads' HO152.out).2.1); (case side3 => repeat (first | exact (Kd.N_reads' HO169.out).2.2 | (with_reducible refine Kd.C_alloc ?_ _) | (with_reducible refine Kd.C_drewN ?_ _) | (with_reducible refine Kd.C_drew ?_))); (case side4 => exact (Kd.N_reads' HO169.out).2.1); rintro e w66 ⟨rfl, hb⟩; have n0_ := Aside0.mk (Kd.N_below (by (with_reducible repeat (first | apply Kd.N_alloc | apply Kd.N_drewN | apply Kd.N_drew)); exact HO152.out) hb); have n1_ := Aside0.mk (Kd.N_below (by (with_reducible repeat (first | apply Kd.N_alloc | apply Kd.N_drewN | apply Kd.N_drew)); exact HO159.out) hb); have n2_ := Aside0.mk (Kd.N_below (by (with_reducible repeat (first | apply Kd.N_alloc | apply Kd.N_drewN | apply Kd.N_drew)); exact HO162.out) hb); have n3_ := Aside0.mk (Kd.N_below (by (with_reducible repeat (first | apply Kd.N_alloc | apply Kd.N_drewN | apply Kd.N_drew)); exact HO169.out) hb); have n4_ := Aside0.mk (below_step (by repeat (first | (with_reducible first | exact HB.out | apply below_alloc | apply pw_below_drewN | apply below_drew1) | exact HB.out)) hb); clear HO152; clear HO159; clear HO162; clear HO169; clear HB; have HO152 := n0_; have HO159 := n1_; have HO162 := n2_; have HO169 := n3_; have HB := n4_; clear n0_ n1_ n2_ n3_ n4_; (try clear hb); (try clear hb2); (try clear hk); (try clear hi)))
   go_ret
   exact ⟨by first | rfl | (simp [errW_none, errW_some] <;> rfl) | (simp [*, errW_none, errW_some] <;> rfl), by repeat (first | (with_reducible first | exact HB.out | apply below_alloc | apply pw_below_drewN | apply below_drew1) | exact HB.out)⟩
 ·rw [if_neg c3] at H
  have c3b0 : (t153 == 0) = false := beq_eq_false_iff_ne.mpr c3
  have c3b1 : (t153 != 0) = true := bne_iff_ne.mpr c3
  obtain rfl := Option.some.inj H
  go_enter Try.func8, Try.ntmps8
  go_wp2_with (first | ((with_reducible refine gate_callee (f := 9) rfl ?_); refine goesL_ (some 6) rfl rfl Try.func9 (by kernel_rfl) rfl #[.slice none 0 0, .int .i64 5] rfl (by (try simp only [List.map_toArray, List.map_cons, List.map_nil]); first | done | rfl | (simp only [List.length_drop, List.length_take]; rfl)) ?_; (refine (chunk_Insert.calls _ _ ([] : List (S39)) 5 t150 t153 _ ?side1 ?side2 A1.out).mono ?_); (case side1 => exact Kd.C_nil _ _); (case side2 => exact Nat.le_refl _); rintro e w67 ⟨v151, rfl, ho0, hb⟩; refine ⟨_, rfl, ?_⟩; have n0_ := Aside0.mk (Kd.N_lower (Kd.N_mono (ok' := fun k_ => True) ho0 (fun k_ hk_ => trivial)) (below_size (by repeat (first | (with_reducible first | exact HB.out | apply below_alloc | apply pw_below_drewN | apply below_drew1) | exact HB.out)))); have n1_ := Aside0.mk (below_step (by repeat (first | (with_reducible first | exact HB.out | apply below_alloc | apply pw_below_drewN | apply below_drew1) | exact HB.out)) hb); clear HB; have HO152 := n0_; have HB := n1_; clear n0_ n1_; (try clear hb); (try clear hb2); (try clear hk); (try clear hi); (try clear ho0)) | ((with_reducible refine gate_dst (N := 10) rfl ?_); (try (refine gate_guard (by rfl) ?_; dsimp only)); refine Kd.R_lit (Kd.int .i64) _ 3 ?hg (N := 10) ?hd (xs := ([1, 2, 4, 5] : List Int)) (inner := [.int .i64 1, .int .i64 2, .int .i64 4, .int .i64 5]) (ok := fun _ => True) (okp := fun _ => True) ?hr ?hp (fun _ hk => hk) trivial (Below.refl _ _) (Nat.le_refl _) (by simp) ?_; (case hd => rfl); (case hg => rfl); (case hr => first | (go_simp; done) | (go_simp; rfl)); (case hp => exact (Reps.one (show Kd.M (Kd.int .i64) _ _ _ 1 [.int .i64 1] from rfl) (Reps.one (show Kd.M (Kd.int .i64) _ _ _ 2 [.int .i64 2] from rfl) (Reps.one (show Kd.M (Kd.int .i64) _ _ _ 4 [.int .i64 4] from rfl) (Reps.one (show Kd.M (Kd.int .i64) _ _ _ 5 [.int .i64 5] from rfl) (Reps.none _ _)))))); intro v155 w68 ho69 hb hg_ hnew_; clear hg_ hnew_; (first | rw [← Ny154.out] at ho69 | (simp only [Int.reduceToNat] at ho69; rw [← Ny154.out] at ho69)); have n0_ := Aside0.mk (Kd.N_elder' (by (with_reducible repeat (first | apply Kd.N_alloc | apply Kd.N_drewN | apply Kd.N_drew)); exact HO152.out) (Kd.R_base ho69) hb); have n1_ := Aside0.mk (Kd.R_lower ho69 (below_size (by repeat (first | (with_reducible first | exact HB.out | apply below_alloc | apply pw_below_drewN | apply below_drew1) | exact HB.out)))); have n2_ := Aside0.mk (below_step (by repeat (first | (with_reducible first | exact HB.out | apply below_alloc | apply pw_below_drewN | apply below_drew1) | exact HB.out)) hb); clear HO152; clear HB; have HO152 := n0_; have HO156 := n1_; have HB := n2_; clear n0_ n1_ n2_; clear hb ho69; obtain ⟨Ao70, co70, eo70⟩ := Kd.R_slice HO156.out; subst eo70) | ((with_reducible refine gate_dst (N := 12) rfl ?_); (try (refine gate_guard (by rfl) ?_; dsimp only)); refine Kd.N_lit k39 _ 39 ?hg (N' := 12) ?hd (xs := ([(⟨0, y154, 0, false⟩ : S39)] : List (S39))) (inner := [.int .i64 0, .slice Ao70 y154.length co70, .int .i64 0, .bool false]) (ok := (fun k_ => some k_ ≠ (v151 : Value).ownBlock)) (okp := (fun k_ => some k_ ≠ (v151 : Value).ownBlock)) ?hr ?hp (fun _ hk => hk) ((show ∀ k_, w68.heap.size ≤ k_ → (fun k_ => some k_ ≠ (v151 : Value).ownBlock) k_ from fun k_ hk => Kd.fresh' (Kd.N_lt (by (with_reducible repeat (first | apply Kd.N_alloc | apply Kd.N_drewN | apply Kd.N_drew)); exact HO152.out)) k_ hk) _ (Nat.le_refl _)) (Below.refl _ _) (Nat.le_refl _) (by simp) ?_; (case hd => rfl); (case hg => rfl); (case hr => first | (go_simp; done) | (go_simp; rfl)); (case hp => exact (Reps.c4 (show Kd.FK k39 _ _ (⟨0, y154, 0, false⟩ : S39) [.int .i64 0, .slice Ao70 y154.length co70, .int .i64 0, .bool false] from (k39_mkF _ _ (⟨0, y154, 0, false⟩ : S39) (Kd.R_reads' (Kd.R_mono (ok' := (fun k_ => some k_ ≠ (v151 : Value).ownBlock)) (Kd.R_apart' (HO156.out) (Kd.N_typed HO152.out) (by decide)) (fun k_ hk => hk.2))).2.1 (Kd.R_F (Kd.R_mono (ok' := (fun k_ => some k_ ≠ (v151 : Value).ownBlock)) (Kd.R_apart' (HO156.out) (Kd.N_typed HO152.out) (by decide)) (fun k_ hk => hk.2))))) (Reps.none _ _))); intro v158 w71 ho72 hb hg_ hnew_; clear hg_ hnew_; (first | rw [← Ny157.out] at ho72 | (simp only [Int.reduceToNat] at ho72; rw [← Ny157.out] at ho72)); have n0_ := Aside0.mk (Kd.N_elder' (by (with_reducible repeat (first | apply Kd.N_alloc | apply Kd.N_drewN | apply Kd.N_drew)); exact HO152.out) (Kd.N_base ho72) hb); have n1_ := Aside0.mk (Kd.N_lower ho72 (below_size (by repeat (first | (with_reducible first | exact HB.out | apply below_alloc | apply pw_below_drewN | apply below_drew1) | exact HB.out)))); have n2_ := Aside0.mk (below_step (by repeat (first | (with_reducible first | exact HB.out | apply below_alloc | apply pw_below_drewN | apply below_drew1) | exact HB.out)) hb); clear HO152; clear HB; clear HO156; have HO152 := n0_; have HO159 := n1_; have HB := n2_; clear n0_ n1_ n2_; clear hb ho72; obtain ⟨Ao73, co73, eo73⟩ := Kd.N_slice HO159.out; subst eo73) | ((with_reducible refine gate_callee (f := 9) rfl ?_); refine goesL_ (some 13) rfl rfl Try.func9 (by kernel_rfl) rfl #[.slice Ao73 y157.length co73, .int .i64 3] rfl (by (try simp only [List.map_toArray, List.map_cons, List.map_nil]); first | done | rfl | (simp only [List.length_drop, List.length_take]; rfl)) ?_; (with_reducible refine (chunk_Insert.calls _ _ y157 3 t160 t163 _ ?side1 ?side2 A2.out).mono ?_); (case side1 => repeat (first | exact (Kd.N_reads' HO159.out).2.2 | (with_reducible refine Kd.C_alloc ?_ _) | (with_reducible refine Kd.C_drewN ?_ _) | (with_reducible refine Kd.C_drew ?_))); (case side2 => exact (Kd.N_reads' HO159.out).2.1); rintro e w74 ⟨v161, rfl, ho0, hb⟩; refine ⟨_, rfl, ?_⟩; have n0_ := Aside0.mk (Kd.N_elder' (by (with_reducible repeat (first | apply Kd.N_alloc | apply Kd.N_drewN | apply Kd.N_drew)); exact HO152.out) (Kd.N_base ho0) hb); have n1_ := Aside0.mk (Kd.N_elder' (by (with_reducible repeat (first | apply Kd.N_alloc | apply Kd.N_drewN | apply Kd.N_drew)); exact HO159.out) (Kd.N_base ho0) hb); have n2_ := Aside0.mk (Kd.N_lower (Kd.N_mono (ok' := fun k_ => some k_ ≠ (v151 : Value).ownBlock ∧ some k_ ≠ (.slice Ao73 y157.length co73 : Value).ownBlock) ho0 (fun k_ hk_ => ⟨(Kd.fresh' (Kd.N_lt (by (with_reducible repeat (first | apply Kd.N_alloc | apply Kd.N_drewN | apply Kd.N_drew)); exact HO152.out)) k_ hk_), (Kd.fresh' (Kd.N_lt (by (with_reducible repeat (first | apply Kd.N_alloc | apply Kd.N_drewN | apply Kd.N_drew)); exact HO159.out)) k_ hk_)⟩)) (below_size (by repeat (first | (with_reducible first | exact HB.out | apply below_alloc | apply pw_below_drewN | apply below_drew1) | exact HB.out)))); have n3_ := Aside0.mk (below_step (by repeat (first | (with_reducible first | exact HB.out | apply below_alloc | apply pw_below_drewN | apply below_drew1) | exact HB.out)) hb); clear HO152; clear HO159; clear HB; have HO152 := n0_; have HO159 := n1_; have HO162 := n2_; have HB := n3_; clear n0_ n1_ n2_ n3_; (try clear hb); (try clear hb2); (try clear hk); (try clear hi); (try clear ho0)))
  go_ret
  exact ⟨by first | rfl | (simp [errW_none, errW_some] <;> rfl) | (simp [*, errW_none, errW_some] <;> rfl), by repeat (first | (with_reducible first | exact HB.out | apply below_alloc | apply pw_below_drewN | apply below_drew1) | exact HB.out)⟩
end Go.Proofs.Ytfbegchhgigjeaa.PC
end
section
namespace Go.Proofs.Ytfbegchhgigjeaa.PC
open Go.RowKit Go.Proofs.YtfbegchhgigjeaaW.PrintWords Go.Proofs.YtfbegchhgigjeaaW.PrintLast Go.Proofs.YtfbegchhgigjeaaW.PrintMore
attribute [local go_sem] max2_int min2_int max_two min_two max_three min_three max_four min_four   -- for this text's walks alone
set_option linter.unusedVariables false
set_option linter.unusedSimpArgs false
def cobweblaw10_small.l0 : Nat → List (S39) → Int → Option (Bool)
 | 0, _, _ => none
 | k + 1, x0, x3 => if x3 < (x0.length : Int) then (if 0 ≤ x3 then (if (((rd_T39 x0 x3).f1).length : Int) > 20 then (some false) else (cobweblaw10_small.l0 k x0 (wrap64 (x3 + 1)))) else (none)) else (some true)
def cobweblaw10_small.f (k : Nat) (l0 : List (S39)) : Option (Bool) := if (l0.length : Int) > 40 then (some false) else (cobweblaw10_small.l0 k l0 0)
theorem cobweblaw10_small.mono_l : ∀ k, (∀ y0 y1, LeO (cobweblaw10_small.l0 k y0 y1) (cobweblaw10_small.l0 (k + 1) y0 y1))
 | 0 => fun _ _ r h => by simp [cobweblaw10_small.l0] at h
 | k + 1 => by
  have ih0 := cobweblaw10_small.mono_l k
  ·intro y0 y1
   unfold cobweblaw10_small.l0
   repeat' first
   | (with_reducible exact ih0 _ _)
   | (with_reducible exact LeO.refl _)
   | (with_reducible exact LeO.none _)
   | (with_reducible refine LeO.ite ?_ ?_)
   | (with_reducible refine LeO.bind ?_ (fun _ => ?_))
   | exact ih0 _ _
   | exact LeO.none _
   | refine LeO.ite ?_ ?_
   | refine LeO.bind ?_ (fun _ => ?_)
theorem cobweblaw10_small.mono : ∀ a0 k, LeO (cobweblaw10_small.f k a0) (cobweblaw10_small.f (k + 1) a0) := by
 intro a0 k
 have ih0 := cobweblaw10_small.mono_l k
 unfold cobweblaw10_small.f
 repeat' first
   | (with_reducible exact ih0 _ _)
   | (with_reducible exact LeO.refl _)
   | (with_reducible exact LeO.none _)
   | (with_reducible refine LeO.ite ?_ ?_)
   | (with_reducible refine LeO.bind ?_ (fun _ => ?_))
   | exact ih0 _ _
   | exact LeO.none _
   | refine LeO.ite ?_ ?_
   | refine LeO.bind ?_ (fun _ => ?_)
set_option maxHeartbeats 8000000 in
set_option maxRecDepth 100000 in
theorem cobweblaw10_small.calls (k : Nat) (A0 : Option Addr) (c0 : Nat) (l0 : List (S39)) (r : Bool) (w : World) (hr0 : Kd.C k39 w A0 l0.length l0) (hc0 : l0.length ≤ c0) (h : cobweblaw10_small.f k l0 = some r) :
  Calls Try.prog 14 #[.slice A0 l0.length c0] w fun e w' => e = .returned (.bool r) ∧ Drawn0 w w' := by
 have HR0 := Aside0.mk hr0
 have HC0 := Aside0.mk hc0
 clear hr0 hc0
 have H : (if (l0.length : Int) > 40 then (some false) else (cobweblaw10_small.l0 k l0 0)) = some r := h
 clear h
 by_cases c2 : (l0.length : Int) > 40
 ·rw [if_pos c2] at H
  have c2b0 : decide (40 < (l0.length : Int)) = true := decide_eq_true c2
  have c2b1 : decide (40 < l0.length) = true := decide_eq_true (by omega)
  clear c2
  obtain rfl := Option.some.inj H
  go_enter Try.func14, Try.ntmps14
  go_wp2
  go_ret
  exact ⟨by first | rfl | (simp; done) | (simp [*]; done), by repeat (first | exact Drawn0.refl _ | apply Drawn0.step)⟩
 ·rw [if_neg c2] at H
  have c2b0 : decide (40 < (l0.length : Int)) = false := decide_eq_false c2
  have c2b1 : decide (40 < l0.length) = false := decide_eq_false (by omega)
  clear c2
  have H' := Aside0.mk H
  clear H
  go_enter Try.func14, Try.ntmps14
  go_wp2
  go_loopg [3] k (fun kq v3 w' => ∃ (x3_1 : Int), v3 = .int .i64 x3_1 ∧ Aside0 (cobweblaw10_small.l0 kq l0 x3_1 = some r) ∧ Aside0 (kq ≤ k) ∧ Drawn0 w w')
  case atStart => exact ⟨(0), (by first | rfl | (simp; done) | (simp [*]; done)), H', ⟨Nat.le_refl _⟩, by repeat (first | exact Drawn0.refl _ | apply Drawn0.step)⟩
  case round =>
   clear H'
   try clear c1
   try clear c2
   try clear c2b0
   try clear c2b1
   try clear p2
   obtain ⟨x3_1, rfl, HA, HK1, ⟨m1, rfl⟩⟩ := hrel
   cases gk with
   | zero => exact absurd HA.out (by simp [cobweblaw10_small.l0])
   | succ k1 =>
    have H := HA.out
    clear HA
    simp only [cobweblaw10_small.l0] at H
    by_cases c3 : x3_1 < (l0.length : Int)
    ·rw [if_pos c3] at H
     have c3b0 : decide (x3_1 < (l0.length : Int)) = true := decide_eq_true c3
     clear c3
     by_cases c4 : 0 ≤ x3_1
     ·rw [if_pos c4] at H
      have c4b0 : decide (0 ≤ x3_1) = true := decide_eq_true c4
      clear c4
      by_cases c5 : (((rd_T39 l0 x3_1).f1).length : Int) > 20
      ·rw [if_pos c5] at H
       have c5b0 : decide (20 < (((rd_T39 l0 x3_1).f1).length : Int)) = true := decide_eq_true c5
       have c5b1 : decide (20 < ((rd_T39 l0 x3_1).f1).length) = true := decide_eq_true (by omega)
       clear c5
       obtain rfl := Option.some.inj H
       have p208 : 0 ≤ (x3_1 : Int) := of_decide_eq_true (by first | (with_reducible assumption) | assumption)
       have q208 : x3_1 < (l0.length : Int) := of_decide_eq_true (by first | (with_reducible assumption) | assumption)
       obtain ⟨ad208, A208_1, c208_1, e208, hx208_0, hx208_1, hx208_2, hx208_3, hl208_1, hi208_1⟩ := at_T39 HR0.out x3_1 p208 q208
       cases e208
       have HR208_1 := Aside0.mk hi208_1
       have HC208_1 := Aside0.mk hl208_1
       clear hi208_1 hl208_1
       replace p208 := eq_true p208
       replace q208 := eq_true q208
       go_wp2
       go_ret
       exact ⟨by first | rfl | (simp; done) | (simp [*]; done), by repeat (first | exact Drawn0.refl _ | apply Drawn0.step)⟩
      ·rw [if_neg c5] at H
       have c5b0 : decide (20 < (((rd_T39 l0 x3_1).f1).length : Int)) = false := decide_eq_false c5
       have c5b1 : decide (20 < ((rd_T39 l0 x3_1).f1).length) = false := decide_eq_false (by omega)
       clear c5
       have H' := Aside0.mk H
       clear H
       have p208 : 0 ≤ (x3_1 : Int) := of_decide_eq_true (by first | (with_reducible assumption) | assumption)
       have q208 : x3_1 < (l0.length : Int) := of_decide_eq_true (by first | (with_reducible assumption) | assumption)
       obtain ⟨ad208, A208_1, c208_1, e208, hx208_0, hx208_1, hx208_2, hx208_3, hl208_1, hi208_1⟩ := at_T39 HR0.out x3_1 p208 q208
       cases e208
       have HR208_1 := Aside0.mk hi208_1
       have HC208_1 := Aside0.mk hl208_1
       clear hi208_1 hl208_1
       replace p208 := eq_true p208
       replace q208 := eq_true q208
       go_wp2
       go_roundg k1
       case measure => have := HK1.out; omega
       case rel => exact ⟨(wrap64 (x3_1 + 1)), (by first | rfl | (simp; done) | (simp [*]; done)), H', ⟨by have := HK1.out; omega⟩, by repeat (first | exact Drawn0.refl _ | apply Drawn0.step)⟩
     ·rw [if_neg c4] at H
      exact absurd H (by simp)
    ·rw [if_neg c3] at H
     have c3b0 : decide (x3_1 < (l0.length : Int)) = false := decide_eq_false c3
     clear c3
     obtain rfl := Option.some.inj H
     go_wp2
     go_ret
     exact ⟨by first | rfl | (simp; done) | (simp [*]; done), by repeat (first | exact Drawn0.refl _ | apply Drawn0.step)⟩
end Go.Proofs.Ytfbegchhgigjeaa.PC
end
section
namespace Go.Proofs.Ytfbegchhgigjeaa.PC
open Go.RowKit Go.Proofs.YtfbegchhgigjeaaW.PrintWords Go.Proofs.YtfbegchhgigjeaaW.PrintLast Go.Proofs.YtfbegchhgigjeaaW.PrintMore
attribute [local go_sem] max2_int min2_int max_two min_two max_three min_three max_four min_four   -- for this text's walks alone
set_option linter.unusedVariables false
set_option linter.unusedSimpArgs false
def cobweblaw10_copied.l0 : Nat → List (S39) → List (S39) → Int → Option ((List (S39)))
 | 0, _, _, _ => none
 | k + 1, x0, x3, x4 => if x4 < (x0.length : Int) then (if 0 ≤ x4 then ((some (([] : List Int) : List Int)).bind fun y211 => (if y211.length + ((rd_T39 x0 x4).f1).length < 17592186044416 then (if x3.length < 2932031007402 then (cobweblaw10_copied.l0 k x0 (x3 ++ [(⟨(rd_T39 x0 x4).f0, (y211 ++ ((rd_T39 x0 x4).f1)), (rd_T39 x0 x4).f2, (rd_T39 x0 x4).f3⟩ : S39)]) (wrap64 (x4 + 1))) else (none)) else (none))) else (none)) else (some x3)
def cobweblaw10_copied.f (k : Nat) (l0 : List (S39)) : Option ((List (S39))) := cobweblaw10_copied.l0 k l0 ([] : List (S39)) 0
theorem cobweblaw10_copied.mono_l : ∀ k, (∀ y0 y1 y2, LeO (cobweblaw10_copied.l0 k y0 y1 y2) (cobweblaw10_copied.l0 (k + 1) y0 y1 y2))
 | 0 => fun _ _ _ r h => by simp [cobweblaw10_copied.l0] at h
 | k + 1 => by
  have ih0 := cobweblaw10_copied.mono_l k
  ·intro y0 y1 y2
   unfold cobweblaw10_copied.l0
   repeat' first
   | (with_reducible exact ih0 _ _ _)
   | (with_reducible exact LeO.refl _)
   | (with_reducible exact LeO.none _)
   | (with_reducible refine LeO.ite ?_ ?_)
   | (with_reducible refine LeO.bind ?_ (fun _ => ?_))
   | exact ih0 _ _ _
   | exact LeO.none _
   | refine LeO.ite ?_ ?_
   | refine LeO.bind ?_ (fun _ => ?_)
theorem cobweblaw10_copied.mono : ∀ a0 k, LeO (cobweblaw10_copied.f k a0) (cobweblaw10_copied.f (k + 1) a0) := by
 intro a0 k
 have ih0 := cobweblaw10_copied.mono_l k
 unfold cobweblaw10_copied.f
 repeat' first
   | (with_reducible exact ih0 _ _ _)
   | (with_reducible exact LeO.refl _)
   | (with_reducible exact LeO.none _)
   | (with_reducible refine LeO.ite ?_ ?_)
   | (with_reducible refine LeO.bind ?_ (fun _ => ?_))
   | exact ih0 _ _ _
   | exact LeO.none _
   | refine LeO.ite ?_ ?_
   | refine LeO.bind ?_ (fun _ => ?_)
set_option maxHeartbeats 8000000 in
set_option maxRecDepth 100000 in
theorem cobweblaw10_copied.calls (k : Nat) (A0 : Option Addr) (c0 : Nat) (l0 : List (S39)) (r : List (S39)) (w : World) (hr0 : Kd.C k39 w A0 l0.length l0) (hc0 : l0.length ≤ c0) (h : cobweblaw10_copied.f k l0 = some r) :
  Calls Try.prog 15 #[.slice A0 l0.length c0] w fun e w' => ∃ v0_ : Value, e = .returned (v0_) ∧ Kd.S k39 39 w' w.heap.size (fun _ => True) v0_ r ∧ Below w.heap.size w w' := by
 have hu39 := Try.underlying39
 have HR0 := Aside0.mk hr0
 have HC0 := Aside0.mk hc0
 clear hr0 hc0
 have HB := Aside0.mk (Below.refl w.heap.size w)
 have H : (cobweblaw10_copied.l0 k l0 ([] : List (S39)) 0) = some r := h
 clear h
 have H' := Aside0.mk H
 clear H
 go_enter Try.func15, Try.ntmps15
 go_wp2
 go_loopg [3, 4] k (fun kq v3 v4 w' => ∃ (x3_1 : List (S39)) (x4_1 : Int), v4 = .int .i64 x4_1 ∧ Aside0 (cobweblaw10_copied.l0 kq l0 x3_1 x4_1 = some r) ∧ Aside0 (kq ≤ k) ∧ Aside0 (Kd.S k39 39 w' w.heap.size (fun _ => True) v3 x3_1) ∧ Aside0 (Below w.heap.size w w'))
 case atStart => exact ⟨(([] : List (S39))), (0), (by first | rfl | (simp; done) | (simp [*]; done)), H', ⟨Nat.le_refl _⟩, ⟨by first | exact Kd.S_nil _ _ _ _ _ | exact Kd.N_nil _ _ _ _ _ | exact Kd.V_nil _ _ _ _ _ | exact Kd.Q_nil _ _ _ _ _ | exact Kd.R_nil _ _ _ _ _⟩, ⟨by repeat (first | (with_reducible first | exact HB.out | apply below_alloc | apply pw_below_drewN | apply below_drew1) | exact HB.out)⟩⟩
 case round =>
  clear H'
  try clear c1
  obtain ⟨x3_1, x4_1, rfl, HA, HK1, HO_3, HB⟩ := hrel
  cases gk with
  | zero => exact absurd HA.out (by simp [cobweblaw10_copied.l0])
  | succ k1 =>
   have H := HA.out
   clear HA
   simp only [cobweblaw10_copied.l0] at H
   by_cases c2 : x4_1 < (l0.length : Int)
   ·rw [if_pos c2] at H
    have c2b0 : decide (x4_1 < (l0.length : Int)) = true := decide_eq_true c2
    clear c2
    by_cases c3 : 0 ≤ x4_1
    ·rw [if_pos c3] at H
     have c3b0 : decide (0 ≤ x4_1) = true := decide_eq_true c3
     clear c3
     obtain ⟨y211, hy211⟩ : ∃ y_ : List Int, y_ = (([] : List Int)) := ⟨_, rfl⟩
     replace H : (if y211.length + ((rd_T39 l0 x4_1).f1).length < 17592186044416 then (if x3_1.length < 2932031007402 then (cobweblaw10_copied.l0 k1 l0 (x3_1 ++ [(⟨(rd_T39 l0 x4_1).f0, (y211 ++ ((rd_T39 l0 x4_1).f1)), (rd_T39 l0 x4_1).f2, (rd_T39 l0 x4_1).f3⟩ : S39)]) (wrap64 (x4_1 + 1))) else (none)) else (none)) = some r := by first | (rw [hy211]; with_reducible exact H) | (have H2_ := (Option.bind_some _ _).symm.trans H; rw [hy211]; with_reducible exact H2_) | (have H2_ := (Option.bind_some _ _).symm.trans H; with_reducible exact H2_) | with_reducible exact H | (rw [hy211]; exact H) | exact H
     have Ny211 := Aside0.mk hy211
     clear hy211
     by_cases c4 : y211.length + ((rd_T39 l0 x4_1).f1).length < 17592186044416
     ·rw [if_pos c4] at H
      have LMc4 := Aside0.mk c4
      clear c4
      obtain ⟨y214, hy214⟩ : ∃ y_ : List Int, y_ = (y211 ++ ((rd_T39 l0 x4_1).f1)) := ⟨_, rfl⟩
      replace H : (if x3_1.length < 2932031007402 then (cobweblaw10_copied.l0 k1 l0 (x3_1 ++ [(⟨(rd_T39 l0 x4_1).f0, y214, (rd_T39 l0 x4_1).f2, (rd_T39 l0 x4_1).f3⟩ : S39)]) (wrap64 (x4_1 + 1))) else (none)) = some r := by first | (rw [hy214]; with_reducible exact H) | (have H2_ := (Option.bind_some _ _).symm.trans H; rw [hy214]; with_reducible exact H2_) | (have H2_ := (Option.bind_some _ _).symm.trans H; with_reducible exact H2_) | with_reducible exact H | (rw [hy214]; exact H) | exact H
      have Ny214 := Aside0.mk hy214
      clear hy214
      by_cases c5 : x3_1.length < 2932031007402
      ·rw [if_pos c5] at H
       have LMc5 := Aside0.mk c5
       clear c5
       obtain ⟨y217, hy217⟩ : ∃ y_ : List (S39), y_ = (x3_1 ++ [(⟨(rd_T39 l0 x4_1).f0, y214, (rd_T39 l0 x4_1).f2, (rd_T39 l0 x4_1).f3⟩ : S39)]) := ⟨_, rfl⟩
       replace H : (cobweblaw10_copied.l0 k1 l0 y217 (wrap64 (x4_1 + 1))) = some r := by first | (rw [hy217]; with_reducible exact H) | (have H2_ := (Option.bind_some _ _).symm.trans H; rw [hy217]; with_reducible exact H2_) | (have H2_ := (Option.bind_some _ _).symm.trans H; with_reducible exact H2_) | with_reducible exact H | (rw [hy217]; exact H) | exact H
       have Ny217 := Aside0.mk hy217
       clear hy217
       have H' := Aside0.mk H
       clear H
       have p209 : 0 ≤ (x4_1 : Int) := of_decide_eq_true (by first | (with_reducible assumption) | assumption)
       have q209 : x4_1 < (l0.length : Int) := of_decide_eq_true (by first | (with_reducible assumption) | assumption)
       obtain ⟨ad209, A209_1, c209_1, e209, hx209_0, hx209_1, hx209_2, hx209_3, hl209_1, hi209_1⟩ := at_T39 HR0.out x4_1 p209 q209
       cases e209
       replace hx209_0 := (HB.out.cell (World.block_lt_of_cell? w _ hx209_0)).trans hx209_0
       replace hx209_1 := (HB.out.cell (World.block_lt_of_cell? w _ hx209_1)).trans hx209_1
       replace hx209_2 := (HB.out.cell (World.block_lt_of_cell? w _ hx209_2)).trans hx209_2
       replace hx209_3 := (HB.out.cell (World.block_lt_of_cell? w _ hx209_3)).trans hx209_3
       have HR209_1 := Aside0.mk hi209_1
       have HC209_1 := Aside0.mk hl209_1
       clear hi209_1 hl209_1
       replace p209 := eq_true p209
       replace q209 := eq_true q209
       go_wp2_with (first | ((with_reducible refine gate_dst (N := 5) rfl ?_); refine box_event ?hg (N := 5) ?hd (cs := #[.int .i64 0, .slice none 0 0, .int .i64 0, .bool false]) (t := 39) ?hr ?_; (case hd => rfl); (case hg => rfl); (case hr => first | (go_simp; done) | (go_simp; rfl)); intro gb210 hg w6 hbox hb; have n0_ := Aside0.mk (Kd.S_below (Kd.S_elderB (by (with_reducible repeat (first | apply Kd.S_alloc | apply Kd.S_drewN | apply Kd.S_drew)); exact HO_3.out) gb210 (Nat.le_of_eq hg.symm)) hb); have n1_ := Aside0.mk (below_step (by repeat (first | (with_reducible first | exact HB.out | apply below_alloc | apply pw_below_drewN | apply below_drew1) | exact HB.out)) hb); have n2_ := Aside0.mk (hbox); have n3_ := Aside0.mk ((by rw [hg]; exact (below_size (by repeat (first | (with_reducible first | exact HB.out | apply below_alloc | apply pw_below_drewN | apply below_drew1) | exact HB.out))) : w.heap.size ≤ gb210)); have n4_ := Aside0.mk ((by rw [hg]; exact (below_size (by repeat (first | (with_reducible first | exact HB.out | apply below_alloc | apply pw_below_drewN | apply below_drew1) | exact HB.out))) : w.heap.size ≤ gb210)); clear HO_3; clear HB; have HO_3 := n0_; have HB := n1_; have BK210 := n2_; have GW210 := n3_; have GE210 := n4_; clear n0_ n1_ n2_ n3_ n4_; clear hb hbox hg; have hcz7_0 : w6.cell? ⟨gb210, 0, none⟩ = some (.int .i64 0) := (blk_cell BK210.out 0).trans rfl; have hcz7_1 : w6.cell? ⟨gb210, 1, none⟩ = some (.slice none 0 0) := (blk_cell BK210.out 1).trans rfl; have hcz7_2 : w6.cell? ⟨gb210, 2, none⟩ = some (.int .i64 0) := (blk_cell BK210.out 2).trans rfl; have hcz7_3 : w6.cell? ⟨gb210, 3, none⟩ = some (.bool false) := (blk_cell BK210.out 3).trans rfl; have hfz7_0 := blk_frozen BK210.out 0; have hfz7_1 := blk_frozen BK210.out 1; have hfz7_2 := blk_frozen BK210.out 2; have hfz7_3 := blk_frozen BK210.out 3) | ((with_reducible refine gate_dst (N := 16) rfl ?_); refine Kd.R_lit (Kd.int .i64) _ 3 ?hg (N := 16) ?hd (xs := ([] : List Int)) (inner := []) (ok := fun _ => True) (okp := fun _ => True) ?hr ?hp (fun _ hk => hk) trivial (Below.refl _ _) (Nat.le_refl _) (by simp) ?_; (case hd => rfl); (case hg => rfl); (case hr => first | (go_simp; done) | (go_simp; rfl)); (case hp => exact (Reps.none _ _)); intro v212 w8 ho9 hb hg_ hnew_; clear hg_ hnew_; (first | rw [← Ny211.out] at ho9 | (simp only [Int.reduceToNat] at ho9; rw [← Ny211.out] at ho9)); have n0_ := Aside0.mk (Kd.S_elder' (by (with_reducible repeat (first | apply Kd.S_alloc | apply Kd.S_drewN | apply Kd.S_drew)); exact (Kd.S_mono (Kd.S_far (p := ⟨gb210, 3, none⟩) (Kd.S_far (p := ⟨gb210, 2, none⟩) (Kd.S_far (p := ⟨gb210, 1, none⟩) (Kd.S_far (p := ⟨gb210, 0, none⟩) (Kd.S_mono HO_3.out (fun k_ hk => (⟨hk, hk.2⟩ : _ ∧ k_ ≠ gb210))) (fun _ hk => hk.2) (.int .i64 ((rd_T39 l0 x4_1).f0))) (fun _ hk => hk.2) (.slice A209_1 ((rd_T39 l0 x4_1).f1).length c209_1)) (fun _ hk => hk.2) (.int .i64 ((rd_T39 l0 x4_1).f2))) (fun _ hk => hk.2) (.bool ((rd_T39 l0 x4_1).f3))) (fun _ h_ => h_.1))) (Kd.R_base ho9) hb); have n1_ := Aside0.mk (Kd.R_lower ho9 (below_size (by repeat (first | (with_reducible first | exact HB.out | apply below_alloc | apply pw_below_drewN | apply below_drew1 | refine below_set ?_ GE210.out) | exact HB.out)))); have n2_ := Aside0.mk (blk_below (g := gb210) (o := .cells #[.int .i64 ((rd_T39 l0 x4_1).f0), .slice A209_1 ((rd_T39 l0 x4_1).f1).length c209_1, .int .i64 ((rd_T39 l0 x4_1).f2), .bool ((rd_T39 l0 x4_1).f3)] 39 (0, 0)) (by (with_reducible repeat (first | refine blk_drewN ?_ _ | refine blk_drew ?_ | refine blk_alloc ?_ _)); refine blk_put (cs := #[.int .i64 ((rd_T39 l0 x4_1).f0), .slice A209_1 ((rd_T39 l0 x4_1).f1).length c209_1, .int .i64 ((rd_T39 l0 x4_1).f2), .bool false]) ?_ 3 _ rfl; (with_reducible repeat (first | refine blk_drewN ?_ _ | refine blk_drew ?_ | refine blk_alloc ?_ _)); refine blk_put (cs := #[.int .i64 ((rd_T39 l0 x4_1).f0), .slice A209_1 ((rd_T39 l0 x4_1).f1).length c209_1, .int .i64 0, .bool false]) ?_ 2 _ rfl; (with_reducible repeat (first | refine blk_drewN ?_ _ | refine blk_drew ?_ | refine blk_alloc ?_ _)); refine blk_put (cs := #[.int .i64 ((rd_T39 l0 x4_1).f0), .slice none 0 0, .int .i64 0, .bool false]) ?_ 1 _ rfl; (with_reducible repeat (first | refine blk_drewN ?_ _ | refine blk_drew ?_ | refine blk_alloc ?_ _)); refine blk_put (cs := #[.int .i64 0, .slice none 0 0, .int .i64 0, .bool false]) ?_ 0 _ rfl; (with_reducible repeat (first | refine blk_drewN ?_ _ | refine blk_drew ?_ | refine blk_alloc ?_ _)); exact BK210.out) hb); have n3_ := Aside0.mk (below_step (by repeat (first | (with_reducible first | exact HB.out | apply below_alloc | apply pw_below_drewN | apply below_drew1 | refine below_set ?_ GE210.out) | exact HB.out)) hb); clear HO_3; clear BK210; clear HB; have HO_3 := n0_; have HO213 := n1_; have BK210 := n2_; have HB := n3_; clear n0_ n1_ n2_ n3_; clear hb ho9; have hcz10_0 : w8.cell? ⟨gb210, 0, none⟩ = some (.int .i64 ((rd_T39 l0 x4_1).f0)) := (blk_cell BK210.out 0).trans rfl; have hcz10_1 : w8.cell? ⟨gb210, 1, none⟩ = some (.slice A209_1 ((rd_T39 l0 x4_1).f1).length c209_1) := (blk_cell BK210.out 1).trans rfl; have hcz10_2 : w8.cell? ⟨gb210, 2, none⟩ = some (.int .i64 ((rd_T39 l0 x4_1).f2)) := (blk_cell BK210.out 2).trans rfl; have hcz10_3 : w8.cell? ⟨gb210, 3, none⟩ = some (.bool ((rd_T39 l0 x4_1).f3)) := (blk_cell BK210.out 3).trans rfl; have hfz10_0 := blk_frozen BK210.out 0; have hfz10_1 := blk_frozen BK210.out 1; have hfz10_2 := blk_frozen BK210.out 2; have hfz10_3 := blk_frozen BK210.out 3) | ((with_reducible refine gate_builtin (b := .append) (xs := #[.tmp 16, .tmp 18]) rfl ?_); at_builtin; refine Kd.R_append_rows (Kd.int .i64) (w0 := w) w.heap.size rfl (.tmp 16) (.tmp 18) 22 3 (.int .i64 0) 8 rfl Try.underlying22 info3 rfl (by decide) (by omega) v212 y211 ((rd_T39 l0 x4_1).f1) _ _ _ (fun _ => True) (fun _ => False) rfl rfl ?aO ?aR (fun _ _ h => h) (fun _ h => h.elim) ?aF ?aB ?aS ?aL ?_; (case aR => repeat (first | exact (Kd.C_below HR209_1.out HB.out) | (with_reducible refine Kd.C_alloc ?_ _) | (with_reducible refine Kd.C_drewN ?_ _) | (with_reducible refine Kd.C_drew ?_))); (case aB => exact (by repeat (first | (with_reducible first | exact HB.out | apply below_alloc | apply pw_below_drewN | apply below_drew1 | refine below_set ?_ GE210.out) | exact HB.out))); (case aF => exact (fun _ _ => trivial)); (case aO => exact (by (with_reducible repeat (first | apply Kd.R_alloc | apply Kd.R_drewN | apply Kd.R_drew)); exact HO213.out)); (case aS => exact (below_size (by repeat (first | (with_reducible first | exact HB.out | apply below_alloc | apply pw_below_drewN | apply below_drew1 | refine below_set ?_ GE210.out) | exact HB.out)))); (case aL => have := LMc4.out; omega); intro v215 w11 ho hb hg hat; rw [← Ny214.out] at ho; have n0_ := Aside0.mk (Kd.S_after (ok := (fun k_ => k_ ≠ gb210)) (by (with_reducible repeat (first | apply Kd.S_alloc | apply Kd.S_drewN | apply Kd.S_drew)); exact Kd.S_mono HO_3.out (fun _ hk => ⟨hk.1.2, hk.2⟩)) hg hat); have n1_ := Aside0.mk (blk_grown (g := gb210) (o := .cells #[.int .i64 ((rd_T39 l0 x4_1).f0), .slice A209_1 ((rd_T39 l0 x4_1).f1).length c209_1, .int .i64 ((rd_T39 l0 x4_1).f2), .bool ((rd_T39 l0 x4_1).f3)] 39 (0, 0)) (by (with_reducible repeat (first | refine blk_drewN ?_ _ | refine blk_drew ?_ | refine blk_alloc ?_ _)); exact BK210.out) hg (Kd.R_ne HO213.out BK210.out (by decide))); have n2_ := Aside0.mk (hb); have n3_ := Aside0.mk (ho); clear HO_3; clear BK210; clear HB; clear HO213; have HO_3 := n0_; have BK210 := n1_; have HB := n2_; have HO216 := n3_; clear n0_ n1_ n2_ n3_; clear ho hb hg hat; obtain ⟨Ao12, co12, eo12⟩ := Kd.R_slice HO216.out; subst eo12; have hcz13_0 : w11.cell? ⟨gb210, 0, none⟩ = some (.int .i64 ((rd_T39 l0 x4_1).f0)) := (blk_cell BK210.out 0).trans rfl; have hcz13_1 : w11.cell? ⟨gb210, 1, none⟩ = some (.slice A209_1 ((rd_T39 l0 x4_1).f1).length c209_1) := (blk_cell BK210.out 1).trans rfl; have hcz13_2 : w11.cell? ⟨gb210, 2, none⟩ = some (.int .i64 ((rd_T39 l0 x4_1).f2)) := (blk_cell BK210.out 2).trans rfl; have hcz13_3 : w11.cell? ⟨gb210, 3, none⟩ = some (.bool ((rd_T39 l0 x4_1).f3)) := (blk_cell BK210.out 3).trans rfl; have hfz13_0 := blk_frozen BK210.out 0; have hfz13_1 := blk_frozen BK210.out 1; have hfz13_2 := blk_frozen BK210.out 2; have hfz13_3 := blk_frozen BK210.out 3) | ((with_reducible refine gate_store (t := 22) (p := 20) rfl ?_); refine store_event (t := 22) (p := 20) (v := ?vo_w14) (w1 := (w11.setCell ⟨gb210, 1, none⟩ (.slice Ao12 y214.length co12))) ?hg ?ho ?hn ?hr ?_; (case ho => rfl); (case hg => rfl); (case hn => rfl); (case hr => first | (go_simp; done) | (go_simp; rfl)); intro w14 hw; have n0_ : Aside0 (Kd.S k39 39 w14 w.heap.size (fun k_ => some k_ ≠ (.slice Ao12 y214.length co12 : Value).ownBlock ∧ k_ ≠ gb210) u3 x3_1) := ⟨(by rw [hw]; exact (by (with_reducible repeat (first | apply Kd.S_alloc | apply Kd.S_drewN | apply Kd.S_drew)); exact Kd.S_mono (Kd.S_far (p := ⟨gb210, 1, none⟩) (Kd.S_mono HO_3.out (fun k_ hk => (⟨hk, hk.1⟩ : _ ∧ k_ ≠ gb210))) (fun _ hk => hk.2) (.slice Ao12 y214.length co12)) (fun _ hk => ⟨hk.1.2, hk.1.1⟩)))⟩; have n1_ : Aside0 (Kd.R (Kd.int .i64) 3 w14 w.heap.size (fun _ => True) (.slice Ao12 y214.length co12) y214) := ⟨(by rw [hw]; exact (by (with_reducible repeat (first | apply Kd.R_alloc | apply Kd.R_drewN | apply Kd.R_drew)); exact Kd.R_mono (Kd.R_far (p := ⟨gb210, 1, none⟩) (Kd.R_types HO216.out BK210.out (by decide)) (fun _ hk => hk.2) (.slice Ao12 y214.length co12)) (fun _ hk => trivial)))⟩; have n2_ : Aside0 (w14.heap[gb210]? = some (.cells #[.int .i64 ((rd_T39 l0 x4_1).f0), .slice Ao12 y214.length co12, .int .i64 ((rd_T39 l0 x4_1).f2), .bool ((rd_T39 l0 x4_1).f3)] 39 (0, 0))) := ⟨(by rw [hw]; exact (by (with_reducible repeat (first | refine blk_drewN ?_ _ | refine blk_drew ?_ | refine blk_alloc ?_ _)); refine blk_put (cs := #[.int .i64 ((rd_T39 l0 x4_1).f0), .slice A209_1 ((rd_T39 l0 x4_1).f1).length c209_1, .int .i64 ((rd_T39 l0 x4_1).f2), .bool ((rd_T39 l0 x4_1).f3)]) ?_ 1 _ rfl; (with_reducible repeat (first | refine blk_drewN ?_ _ | refine blk_drew ?_ | refine blk_alloc ?_ _)); exact BK210.out))⟩; have n3_ : Aside0 (Below w.heap.size w w14) := ⟨(by rw [hw]; exact (by repeat (first | (with_reducible first | exact HB.out | apply below_alloc | apply pw_below_drewN | apply below_drew1 | refine below_set ?_ GE210.out) | exact HB.out)))⟩; clear hw; clear HO_3; clear HO216; clear BK210; clear HB; have HO_3 := n0_; have HO216 := n1_; have BK210 := n2_; have HB := n3_; clear n0_ n1_ n2_ n3_; have hcz15_0 : w14.cell? ⟨gb210, 0, none⟩ = some (.int .i64 ((rd_T39 l0 x4_1).f0)) := (blk_cell BK210.out 0).trans rfl; have hcz15_1 : w14.cell? ⟨gb210, 1, none⟩ = some (.slice Ao12 y214.length co12) := (blk_cell BK210.out 1).trans rfl; have hcz15_2 : w14.cell? ⟨gb210, 2, none⟩ = some (.int .i64 ((rd_T39 l0 x4_1).f2)) := (blk_cell BK210.out 2).trans rfl; have hcz15_3 : w14.cell? ⟨gb210, 3, none⟩ = some (.bool ((rd_T39 l0 x4_1).f3)) := (blk_cell BK210.out 3).trans rfl; have hfz15_0 := blk_frozen BK210.out 0; have hfz15_1 := blk_frozen BK210.out 1; have hfz15_2 := blk_frozen BK210.out 2; have hfz15_3 := blk_frozen BK210.out 3) | ((with_reducible refine gate_builtin (b := .append) (xs := #[.tmp 21, .tmp 23]) rfl ?_); at_builtin; refine Kd.S_append k39 (w0 := w) w.heap.size rfl (.tmp 21) (.tmp 23) 24 39 (.agg #[(.int .i64 0), (.slice none 0 0), (.int .i64 0), (.bool false)]) 48 rfl Try.underlying24 info39 rfl (by decide) (by omega) u3 x3_1 (⟨(rd_T39 l0 x4_1).f0, y214, (rd_T39 l0 x4_1).f2, (rd_T39 l0 x4_1).f3⟩ : S39) [.int .i64 ((rd_T39 l0 x4_1).f0), .slice Ao12 y214.length co12, .int .i64 ((rd_T39 l0 x4_1).f2), .bool ((rd_T39 l0 x4_1).f3)] (fun k_ => k_ ≠ gb210) (fun k_ => some k_ = (.slice Ao12 y214.length co12 : Value).ownBlock) rfl rfl ?aP (fun k_ hk_ => ((Kd.R_mono (ok' := fun k_ => ((fun k_ => k_ ≠ gb210)) k_ ∧ some k_ ≠ (u3 : Value).ownBlock) (Kd.R_types (Kd.R_apart' (HO216.out) (Kd.S_typed HO_3.out) (by decide)) BK210.out (by decide)) (fun k_ hk => ⟨hk.2, hk.1.2⟩))).1 k_ hk_.symm) ?aF ?aO ?aB ?aS ?aL ?_; (case aP => exact k39_mkM _ _ _ (⟨(rd_T39 l0 x4_1).f0, y214, (rd_T39 l0 x4_1).f2, (rd_T39 l0 x4_1).f3⟩ : S39) (Kd.R_mono (Kd.R_tight rfl (Kd.R_mono (ok' := fun k_ => ((fun k_ => k_ ≠ gb210)) k_ ∧ some k_ ≠ (u3 : Value).ownBlock) (Kd.R_types (Kd.R_apart' (HO216.out) (Kd.S_typed HO_3.out) (by decide)) BK210.out (by decide)) (fun k_ hk => ⟨hk.2, hk.1.2⟩))) (fun _ h_ => h_))); (case aB => exact (by repeat (first | (with_reducible first | exact HB.out | apply below_alloc | apply pw_below_drewN | apply below_drew1 | refine below_set ?_ GE210.out) | exact HB.out))); (case aF => exact (fun k_ hk => Kd.freshB (g := gb210) (o := .cells #[.int .i64 ((rd_T39 l0 x4_1).f0), .slice Ao12 y214.length co12, .int .i64 ((rd_T39 l0 x4_1).f2), .bool ((rd_T39 l0 x4_1).f3)] 39 (0, 0)) (by (with_reducible repeat (first | refine blk_drewN ?_ _ | refine blk_drew ?_ | refine blk_alloc ?_ _)); exact BK210.out) k_ hk)); (case aO => exact (by (with_reducible repeat (first | apply Kd.S_alloc | apply Kd.S_drewN | apply Kd.S_drew)); exact Kd.S_mono HO_3.out (fun k_ hk => ⟨hk.2, fun e_ => hk.1 e_⟩))); (case aS => exact (below_size (by repeat (first | (with_reducible first | exact HB.out | apply below_alloc | apply pw_below_drewN | apply below_drew1 | refine below_set ?_ GE210.out) | exact HB.out)))); (case aL => have := LMc5.out; omega); intro v218 w16 ho hb hg hat; rw [← Ny217.out] at ho; have n0_ := Aside0.mk (blk_grown (g := gb210) (o := .cells #[.int .i64 ((rd_T39 l0 x4_1).f0), .slice Ao12 y214.length co12, .int .i64 ((rd_T39 l0 x4_1).f2), .bool ((rd_T39 l0 x4_1).f3)] 39 (0, 0)) (by (with_reducible repeat (first | refine blk_drewN ?_ _ | refine blk_drew ?_ | refine blk_alloc ?_ _)); exact BK210.out) hg (Kd.S_away HO_3.out (fun _ hk => hk.2))); have n1_ := Aside0.mk (hb); have n2_ := Aside0.mk (ho); clear BK210; clear HB; clear HO_3; clear HO216; have BK210 := n0_; have HB := n1_; have HO219 := n2_; clear n0_ n1_ n2_; clear ho hb hg hat))
       go_roundg k1
       case measure => have := HK1.out; omega
       case rel => exact ⟨(y217), (wrap64 (x4_1 + 1)), (by first | rfl | (simp; done) | (simp [*]; done)), H', ⟨by have := HK1.out; omega⟩, ⟨by (with_reducible repeat (first | apply Kd.S_alloc | apply Kd.S_drewN | apply Kd.S_drew)); exact Kd.S_mono HO219.out (fun _ hk => trivial)⟩, ⟨by repeat (first | (with_reducible first | exact HB.out | apply below_alloc | apply pw_below_drewN | apply below_drew1 | refine below_set ?_ GE210.out) | exact HB.out)⟩⟩
      ·rw [if_neg c5] at H
       exact absurd H (by simp)
     ·rw [if_neg c4] at H
      exact absurd H (by simp)
    ·rw [if_neg c3] at H
     exact absurd H (by simp)
   ·rw [if_neg c2] at H
    have c2b0 : decide (x4_1 < (l0.length : Int)) = false := decide_eq_false c2
    clear c2
    obtain rfl := Option.some.inj H
    go_wp2
    go_ret
    exact ⟨_, by first | rfl | (simp [errW_none, errW_some] <;> rfl) | (simp [*, errW_none, errW_some] <;> rfl), by (with_reducible repeat (first | apply Kd.S_alloc | apply Kd.S_drewN | apply Kd.S_drew)); exact HO_3.out, by repeat (first | (with_reducible first | exact HB.out | apply below_alloc | apply pw_below_drewN | apply below_drew1) | exact HB.out)⟩
end Go.Proofs.Ytfbegchhgigjeaa.PC
end
