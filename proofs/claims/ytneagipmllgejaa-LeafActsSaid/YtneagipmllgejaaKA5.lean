/- A part of the proof: lemmas that the row uses, laid together by a program of this session's (pack.py) out of its texts and of what the kit's printer wrote for this seat. -/
import Derived.Lib.Walk
import Derived.Lib.SliceRun
import Derived.Lib.JoinLaws
import Derived.Lib.AppendZeros
import Derived.Lib.Overlaps
import Derived.Laws.Externs
import Derived.Laws.IdiomCopy
import Derived.Lib.AppendZerosOnto
import Derived.Laws.NewBlocks
import Derived.Deep.RegionLaw
import Derived.Shelf.Spec.SlicesInsert
import Derived.Test.YtneagipmllgejaaKA0
import Derived.Test.YtneagipmllgejaaKA1
import Derived.Test.YtneagipmllgejaaKA2
import Derived.Test.YtneagipmllgejaaKA3
import Derived.Test.YtneagipmllgejaaKA4
section
namespace Go.Proofs.Ytneagipmllgejaa.PL
open Go.Shelf Go.RowKit Go.Lib Go.Proofs.YtneagipmllgejaaW.PrintWords Go.Proofs.YtneagipmllgejaaW.PrintLast Go.Proofs.YtneagipmllgejaaW.PrintMore Go.Proofs.YtneagipmllgejaaH
set_option linter.unusedVariables false
set_option linter.unusedSimpArgs false
theorem splice_shift {α : Type} {l cs l1 l2 : List α} {n i : Nat} {x : α} (hi : i ≤ n) (hc : cs.length = n) (hl : l.take n = cs) (hn : n + 1 ≤ l.length)
    (h1 : l1 = l.take (i + 1) ++ cs.drop i ++ l.drop (i + 1 + (cs.drop i).length)) (h2 : l2 = l1.take i ++ [x] ++ l1.drop (i + [x].length)) : l2.take (n + 1) = cs.take i ++ x :: cs.drop i := by
  have hA : (l.take (i + 1)).length = i + 1 := by rw [List.length_take]; omega
  have e1 : l1.take i = cs.take i := by
    rw [h1, List.append_assoc, List.take_append_of_le_length (by omega), List.take_take, Nat.min_eq_left (by omega), ← hl, List.take_take, Nat.min_eq_left hi]
  have e2 : l1.drop (i + 1) = cs.drop i ++ l.drop (i + 1 + (cs.drop i).length) := by
    rw [h1, List.append_assoc]
    exact List.drop_left' hA
  rw [h2, e1]
  simp only [List.length_singleton, e2]
  have hL : (cs.take i ++ x :: cs.drop i).length = n + 1 := by simp; omega
  rw [show cs.take i ++ [x] ++ (cs.drop i ++ l.drop (i + 1 + (cs.drop i).length)) = (cs.take i ++ x :: cs.drop i) ++ l.drop (i + 1 + (cs.drop i).length) by simp]
  rw [← hL, List.take_left]
theorem splice_grow {α : Type} {cs l l1 l2 Z : List α} {n i : Nat} {x : α} (hi : i ≤ n) (hc : cs.length = n) (h0 : l = cs.take i ++ Z) (hz : n + 1 - i ≤ Z.length) (h1 : l1 = l.take i ++ [x] ++ l.drop (i + [x].length)) (h2 : l2 = l1.take (i + 1) ++ cs.drop i ++ l1.drop (i + 1 + (cs.drop i).length)) : l2.take (n + 1) = cs.take i ++ x :: cs.drop i := by
  have hA : (cs.take i).length = i := by rw [List.length_take]; omega
  have e1 : l.take i = cs.take i := by rw [h0, List.take_append_of_le_length (by omega), List.take_of_length_le (by omega)]
  have hB : (l.take i ++ [x]).length = i + 1 := by rw [e1]; simp; omega
  have e2 : l1.take (i + 1) = cs.take i ++ [x] := by rw [h1, ← hB, List.take_left, e1]
  have hL : (cs.take i ++ x :: cs.drop i).length = n + 1 := by simp; omega
  rw [h2, e2, show cs.take i ++ [x] ++ cs.drop i ++ l1.drop (i + 1 + (cs.drop i).length) = (cs.take i ++ x :: cs.drop i) ++ l1.drop (i + 1 + (cs.drop i).length) by simp, ← hL, List.take_left]
theorem sizeEI : ∀ w, (Go.sizeOf 3).run Try.prog w = .ok 1 w := fun w => by kernel_rfl
set_option maxHeartbeats 4000000 in
set_option maxRecDepth 100000 in
theorem insI_shift (b off n c i vb voff m vc : Nat) (cs vs : List Value) (w : World) (hi : i < n) (hm : 0 < m) (hroom : n + m ≤ c) (hc63 : c ≤ 9223372036854775807) (hvb : vb ≠ b)
    (hcl : cs.length = n) (hvl : vs.length = m)
    (hcs : ∀ j v, cs[j]? = some v → w.cell? ⟨b, off + j, none⟩ = some v) (hsp : ∀ j, j < n + m → (w.cell? ⟨b, off + j, none⟩).isSome = true) (hfz : ∀ j, j < n + m → w.frozen? ⟨b, off + j, none⟩ = false)
    (hvs : ∀ j v, vs[j]? = some v → w.cell? ⟨vb, voff + j, none⟩ = some v) (h1c : ∀ v ∈ cs, v.oneCell' = true) (h1v : ∀ v ∈ vs, v.oneCell' = true)
    (tA tB : TypeId) (kA kB : Nat) (hsa : w.shape? vb = some (tA, kA)) (hsb : w.shape? b = some (tB, kB)) (hkB : kB ≠ 0) (hfa : w.frozen? ⟨vb, voff, none⟩ = false) (hfe : w.frozen? ⟨vb, kA, none⟩ = false) :
    Calls Try.prog 40 #[.slice (some ⟨b, off, none⟩) n c, .int .i64 i, .slice (some ⟨vb, voff, none⟩) m vc] w fun e w' =>
      e = .returned (.slice (some ⟨b, off, none⟩) (n + m) c) ∧ w' = (w.drew.setCells b (off + (i + m)) (cs.drop i)).setCells b (off + i) vs := by
  have u22 := run_underlying Try.underlying24
  have hz1 : ¬ ((m : Int) = 0) := by omega
  have hz2 : ¬ ((i : Int) = (n : Int)) := by omega
  have hsz : (Try.prog.info? 3).map (·.size) = some 1 := by
    obtain ⟨i0, hi0, h0, h1, h2⟩ := info_parts info3
    rw [hi0]; simp [h1]
  have hov : ∀ lb cb, (callFunc 69 #[.slice (some ⟨vb, voff, none⟩) m vc, .slice (some ⟨b, off + (i + m), none⟩) lb cb]).run Try.prog w = .ok (.value (.bool false)) w := fun lb cb => by
    rw [run_callFunc_extern Try.func69 (by kernel_rfl) (by kernel_rfl) (by kernel_rfl) (e := Extern.SlicesOverlaps.overlaps #[24, 24] #[4]) (by kernel_rfl),
      Lib.run_overlaps_apart w 24 4 3 Try.underlying24 1 (sizeEI) ⟨vb, voff, none⟩ ⟨b, off + (i + m), none⟩ m vc lb cb hvb tA tB kA kB hsa hsb hkB hfa hfe]
    rfl
  have hdl : (cs.drop i).length = n - i := by rw [List.length_drop, hcl]
  have hw1 : IntKind.i64.wrap ((i : Int) + (m : Int)) = (i : Int) + (m : Int) := by rw [IntKind.wrap_i64]; omega
  have hb1 : (0 : Int) ≤ (i : Int) + (m : Int) := by omega
  have hin : i ≤ n := by omega
  have htn : ((i : Int) + (m : Int)).toNat = i + m := by omega
  have hb2 : ¬ (c = i + m) := by omega
  have hb3 : (i : Int) ≤ (n : Int) + (m : Int) := by omega
  have hb4 : ¬ (c = i) := by omega
  have hcp1 : ∀ ty dc sc, (Builtin.copy_ #[24, 24] ty #[.slice (some ⟨b, off + (i + m), none⟩) (n + m - (i + m)) dc, .slice (some ⟨b, off + i, none⟩) (n + m - i) sc]).run Try.prog w.drew = .ok (goInt (cs.drop i).length) (w.drew.setCells b (off + (i + m)) (cs.drop i)) := fun ty dc sc =>
    run_copy_cells w.drew _ _ ty 3 b (off + (i + m)) (n + m - (i + m)) dc ⟨b, off + i, none⟩ (n + m - i) sc (cs.drop i) Try.underlying24 hsz (by rw [hdl]; simp only [Nat.min_def]; split <;> omega)
      (fun j v hj => by rw [Addr.add_lit, Nat.add_assoc]; exact hcs (i + j) v (by rwa [List.getElem?_drop] at hj))
      (fun j hj => by rw [Nat.add_assoc]; exact hsp _ (by omega)) (fun j hj => by rw [Nat.add_assoc]; exact hfz _ (by omega)) (fun v hv => h1c v (List.mem_of_mem_drop hv))
  obtain ⟨W1, hW1⟩ : ∃ W1, W1 = w.drew.setCells b (off + (i + m)) (cs.drop i) := ⟨_, rfl⟩
  have hsp1 : ∀ k, k < n + m → (W1.cell? ⟨b, off + k, none⟩).isSome = true := fun k hk => by
    rw [hW1]
    exact isSome_setCells b _ _ _ (fun j hj => by rw [Nat.add_assoc]; exact hsp _ (by omega)) _ (hsp k hk)
  have hcp2 : ∀ (W : World), (∀ x, W.cell? x = W1.cell? x) → (∀ x, W.frozen? x = W1.frozen? x) → ∀ ty dc, (Builtin.copy_ #[24, 24] ty #[.slice (some ⟨b, off + i, none⟩) (n + m - i) dc, .slice (some ⟨vb, voff, none⟩) m vc]).run Try.prog W = .ok (goInt vs.length) (W.setCells b (off + i) vs) := fun W hWc hWf ty dc =>
    run_copy_cells W _ _ ty 3 b (off + i) (n + m - i) dc ⟨vb, voff, none⟩ m vc vs Try.underlying24 hsz (by rw [hvl]; simp only [Nat.min_def]; split <;> omega)
      (fun j v hj => by
        rw [Addr.add_lit, hWc, hW1, World.cell?_setCells_out b _ _ _ _ (fun h _ => absurd h hvb)]
        exact hvs j v hj)
      (fun j hj => by rw [hWc, Nat.add_assoc]; exact hsp1 _ (by omega)) (fun j hj => by rw [hWf, hW1, World.frozen?_setCells, Nat.add_assoc]; exact hfz _ (by omega)) h1v
  rw [← hW1] at hcp1
  go_enter Try.func40, Try.ntmps40
  go_wp2_with (simp only [hov])
  go_region_law (refine step_copy_runI rfl _ _ 24 24 rfl _ _ (by simp [Act.eval, Act.put]) (by simp [Act.eval, Act.put]) (hcp1 _ _ _) ?_)
  go_wp2_with (at_builtin; refine wpList_copy_runI _ rfl _ _ 24 24 rfl _ _ rfl rfl (hcp2 _ (fun _ => rfl) (fun _ => rfl) _ _) ?_)
  go_ret
  first | exact ⟨rfl, rfl⟩ | exact ⟨rfl, by rw [hW1]⟩
set_option maxHeartbeats 4000000 in
set_option maxRecDepth 100000 in
theorem insI_grow (b off n c i vb voff m vc : Nat) (cs vs : List Value) (w : World) (hi : i < n) (hm : 0 < m) (hnc : n ≤ c) (hroom : c < n + m) (hbig : (n + m) * 8 ≤ 140737488355328)
    (hcl : cs.length = n) (hvl : vs.length = m)
    (hcs : ∀ j v, cs[j]? = some v → w.cell? ⟨b, off + j, none⟩ = some v)
    (hvs : ∀ j v, vs[j]? = some v → w.cell? ⟨vb, voff + j, none⟩ = some v) (h1c : ∀ v ∈ cs, v.oneCell' = true) (h1v : ∀ v ∈ vs, v.oneCell' = true) :
    Calls Try.prog 40 #[.slice (some ⟨b, off, none⟩) n c, .int .i64 i, .slice (some ⟨vb, voff, none⟩) m vc] w fun e w' =>
      e = .returned (.slice (some ⟨w.heap.size, 0, none⟩) (n + m) (grownCap w (n + m) c 3)) ∧
      w' = (((w.alloc (.cells ((cs.take i).toArray ++ Builtin.zeroCells (Value.int .i64 0).cells (n + m - i) ++ Builtin.zeroCells (Value.int .i64 0).cells (grownCap w (n + m) c 3 - (n + m))) 3)).drew.setCells w.heap.size i vs).drew).setCells w.heap.size (i + m) (cs.drop i) := by
  have u22 := run_underlying Try.underlying24
  obtain ⟨i0, hi0, hz0, hzs, hzb⟩ := info_parts info3
  have hz1 : ¬ ((m : Int) = 0) := by omega
  have hz2 : ¬ ((i : Int) = (n : Int)) := by omega
  have hz3 : (c : Int) < (n : Int) + (m : Int) := by omega
  have hsz : (Try.prog.info? 3).map (·.size) = some 1 := by rw [hi0]; simp [hzs]
  have hbw : b < w.heap.size := block_lt_of_cell (hcs 0 _ (List.getElem?_eq_getElem (by omega)))
  have hvw : vb < w.heap.size := block_lt_of_cell (hvs 0 _ (List.getElem?_eq_getElem (by omega)))
  have hkk : (n : Int) + (m : Int) - (i : Int) = ((n + m - i : Nat) : Int) := by omega
  have hik : i + (n + m - i) = n + m := by omega
  have hold : (Builtin.firstCells i0.size i (.slice (some ⟨b, off, none⟩) i c)).run Try.prog w.drew = .ok (cs.take i).toArray w.drew := by
    rw [hzs]
    exact run_firstCells_some w.drew 1 i ⟨b, off, none⟩ i c (cs.take i) (by rw [List.length_take]; omega) (fun j v hj => by
      rw [Addr.add_lit]
      rw [List.getElem?_take] at hj
      split at hj
      · exact hcs j v hj
      · cases hj)
  have hrz : ∀ ty, (Builtin.append_ #[24, 3] ty #[.slice (some ⟨b, off, none⟩) i c, .int .i64 ((n : Int) + (m : Int) - (i : Int))]).run Try.prog w =
      .ok (.slice (some ⟨w.heap.size, 0, none⟩) (n + m) (grownCap w (n + m) c 3)) (w.drew.alloc (.cells ((cs.take i).toArray ++ Builtin.zeroCells (Value.int .i64 0).cells (n + m - i) ++ Builtin.zeroCells (Value.int .i64 0).cells (grownCap w (n + m) c 3 - (n + m))) 3)) := fun ty => by
    have h := Lib.run_append_grow_zeros w 24 3 ty 3 i0 _ .i64 .i64 Try.underlying24 Try.underlying3 hi0 hz0 (some ⟨b, off, none⟩) i c (cs.take i) hold (n + m - i) (by omega) (by omega) (by omega) (by omega) (by rw [hzb]; omega) (by rw [hzb, hik]; exact growslice_fits hroom hbig)
    rw [hik] at h
    rw [hkk]
    exact h
  obtain ⟨G, hG⟩ : ∃ G, G = grownCap w (n + m) c 3 := ⟨_, rfl⟩
  obtain ⟨ROW, hROW⟩ : ∃ ROW : Array Value, ROW = (cs.take i).toArray ++ Builtin.zeroCells (Value.int .i64 0).cells (n + m - i) ++ Builtin.zeroCells (Value.int .i64 0).cells (G - (n + m)) := ⟨_, rfl⟩
  rw [← hG] at hrz ⊢
  rw [← hROW] at hrz ⊢
  have hRl : n + m ≤ ROW.size := by
    rw [hROW]
    simp [Builtin.zeroCells, Value.cells]
    omega
  obtain ⟨W1, hW1⟩ : ∃ W1, W1 = w.drew.alloc (.cells ROW 3) := ⟨_, rfl⟩
  rw [← hW1] at hrz
  have hN : ∀ j, j < n + m → (W1.cell? ⟨w.heap.size, j, none⟩).isSome = true := fun j hj => by
    rw [hW1, World.cell?_alloc_at (w := w.drew) ROW _ w.heap.size j rfl, Array.getElem?_eq_getElem (by omega)]; rfl
  have hNf : ∀ j, W1.frozen? ⟨w.heap.size, j, none⟩ = false := fun j => by rw [hW1]; exact World.frozen?_alloc_at (w := w.drew) ROW _ w.heap.size j rfl
  have hOb : ∀ j v, w.cell? ⟨b, j, none⟩ = some v → W1.cell? ⟨b, j, none⟩ = some v := fun j v h => by rw [hW1, World.cell?_alloc_past (w := w.drew) _ b j hbw]; exact h
  have hOv : ∀ j v, w.cell? ⟨vb, j, none⟩ = some v → W1.cell? ⟨vb, j, none⟩ = some v := fun j v h => by rw [hW1, World.cell?_alloc_past (w := w.drew) _ vb j hvw]; exact h
  have hcpA : ∀ (W : World), (∀ x, W.cell? x = W1.cell? x) → (∀ x, W.frozen? x = W1.frozen? x) → ∀ ty dc, (Builtin.copy_ #[24, 24] ty #[.slice (some ⟨w.heap.size, i, none⟩) (n + m - i) dc, .slice (some ⟨vb, voff, none⟩) m vc]).run Try.prog W = .ok (goInt vs.length) (W.setCells w.heap.size i vs) := fun W hWc hWf ty dc =>
    run_copy_cells W _ _ ty 3 w.heap.size i (n + m - i) dc ⟨vb, voff, none⟩ m vc vs Try.underlying24 hsz (by rw [hvl]; simp only [Nat.min_def]; split <;> omega)
      (fun j v hj => by rw [Addr.add_lit, hWc]; exact hOv _ v (hvs j v hj))
      (fun j hj => by rw [hWc]; exact hN _ (by omega)) (fun j hj => by rw [hWf]; exact hNf _) h1v
  have hGn : n + m ≤ G := by rw [hG]; exact grownCap_ge w _ _ _
  have hG63 : G ≤ 9223372036854775807 := by
    have := grownCap_le_maxLen w (n + m) c 3 (by unfold maxLen; omega)
    rw [← hG] at this
    unfold maxLen at this
    omega
  have hGi : ¬ (G = i) := by omega
  have hGim : ¬ (G = i + m) := by omega
  have hci : ¬ (c = i) := by omega
  have hbN : b ≠ w.heap.size := by omega
  have hdl : (cs.drop i).length = n - i := by rw [List.length_drop, hcl]
  have hcpB : ∀ (W : World), (∀ x, W.cell? x = (W1.setCells w.heap.size i vs).cell? x) → (∀ x, W.frozen? x = (W1.setCells w.heap.size i vs).frozen? x) → ∀ ty dc sc, (Builtin.copy_ #[24, 24] ty #[.slice (some ⟨w.heap.size, i + m, none⟩) (n + m - (i + m)) dc, .slice (some ⟨b, off + i, none⟩) (n - i) sc]).run Try.prog W = .ok (goInt (cs.drop i).length) (W.setCells w.heap.size (i + m) (cs.drop i)) := fun W hWc hWf ty dc sc =>
    run_copy_cells W _ _ ty 3 w.heap.size (i + m) (n + m - (i + m)) dc ⟨b, off + i, none⟩ (n - i) sc (cs.drop i) Try.underlying24 hsz (by rw [hdl]; simp only [Nat.min_def]; split <;> omega)
      (fun j v hj => by
        rw [Addr.add_lit, hWc, World.cell?_setCells_out _ _ _ _ _ (fun h _ => absurd h hbN), Nat.add_assoc]
        exact hOb _ v (hcs (i + j) v (by rwa [List.getElem?_drop] at hj)))
      (fun j hj => by rw [hWc]; exact isSome_setCells _ _ _ _ (fun t ht => hN _ (by omega)) _ (hN _ (by omega)))
      (fun j hj => by rw [hWf, World.frozen?_setCells]; exact hNf _) (fun v hv => h1c v (List.mem_of_mem_drop hv))
  subst hW1
  have hE1 : ∀ x, ((w.alloc (.cells ROW 3)).drew).cell? x = (w.drew.alloc (.cells ROW 3)).cell? x := fun x => rfl
  have hE2 : ∀ x, ((w.alloc (.cells ROW 3)).drew).frozen? x = (w.drew.alloc (.cells ROW 3)).frozen? x := fun x => rfl
  have hF1 : ∀ x, (((w.alloc (.cells ROW 3)).drew.setCells w.heap.size i vs).drew).cell? x = ((w.drew.alloc (.cells ROW 3)).setCells w.heap.size i vs).cell? x := fun x => rfl
  have hF2 : ∀ x, (((w.alloc (.cells ROW 3)).drew.setCells w.heap.size i vs).drew).frozen? x = ((w.drew.alloc (.cells ROW 3)).setCells w.heap.size i vs).frozen? x := fun x => rfl
  have hw1 : IntKind.i64.wrap ((i : Int) + (m : Int)) = (i : Int) + (m : Int) := by rw [IntKind.wrap_i64]; omega
  have hb1 : (0 : Int) ≤ (i : Int) + (m : Int) := by omega
  have hin : i ≤ n := by omega
  have htn : ((i : Int) + (m : Int)).toNat = i + m := by omega
  have hb3 : (i : Int) ≤ (n : Int) := by omega
  clear hkk hik hold hROW hG hRl
  go_enter Try.func40, Try.ntmps40
  go_wp2_with (first
    | (at_builtin; refine Lib.wpList_append_run _ rfl _ _ _ _ rfl _ _ rfl rfl _ _ (hrz _) ?_)
    | (at_builtin; refine wpList_copy_runI _ rfl _ _ 24 24 rfl _ _ rfl rfl (hcpA _ hE1 hE2 _ _) ?_)
    | (at_builtin; refine wpList_copy_runI _ rfl _ _ 24 24 rfl _ _ rfl rfl (hcpB _ (fun _ => rfl) (fun _ => rfl) _ _ _) ?_))
  go_region_law (refine step_copy_runI rfl _ _ 24 24 rfl (.slice (some ⟨w.heap.size, i + m, none⟩) (n + m - (i + m)) (G - (i + m))) (.slice (some ⟨b, off + i, none⟩) (n - i) (c - i)) (by simp [Act.eval, Act.put]) (by simp [Act.eval, Act.put]) (hcpB _ hF1 hF2 3 (G - (i + m)) (c - i)) ?_)
  go_wp2
  go_ret
  exact ⟨rfl, rfl⟩
set_option maxHeartbeats 1000000 in
set_option maxRecDepth 100000 in
/-- slices.Insert of one value into a row of one's own. -/
theorem insI_own (base : Nat) (ok : Nat → Prop) (v : Value) (xs : List Int) (i : Nat) (x : Int) (vb : Nat) (w0 w : World) (HO : (Kd.int .i64).R 3 w base ok v xs) (hB : Below base w0 w) (hi : i ≤ xs.length)
    (hx : w.heap[vb]? = some (.cells #[.int .i64 x] 3 (0, 0))) (hne : some vb ≠ v.ownBlock) (hbase : base ≤ w.heap.size) (hlim : xs.length ≤ 1000000) :
    Calls Try.prog 40 #[v, .int .i64 i, .slice (some ⟨vb, 0, none⟩) 1 1] w fun e w' => ∃ v1, e = .returned v1 ∧ (Kd.int .i64).R 3 w' base (fun _ => True) v1 (xs.take i ++ x :: xs.drop i) ∧ Below base w0 w' ∧ w.grownBy w' v.ownBlock ∧ (v1.ownBlock = v.ownBlock ∨ ∃ b, v1.ownBlock = some b ∧ w.heap.size ≤ b) := by
  have hown := Kd.own_of_R HO
  have hvx : w.cell? ⟨vb, 0, none⟩ = some (.int .i64 x) := (blk_cell hx 0).trans rfl
  have hvs : ∀ j v, [Value.int .i64 x][j]? = some v → w.cell? ⟨vb, 0 + j, none⟩ = some v := by
    intro j v hj
    cases j with
    | zero => simp at hj; subst hj; exact hvx
    | succ j => simp at hj
  by_cases hin : i = xs.length
  · -- at the end
    subst hin
    have hRD : ReadsOf (Value.int .i64) (0 : Int) w (some ⟨vb, 0, none⟩) 1 [x] := ⟨rfl, by omega, fun _ => ⟨_, rfl, fun j hj => by
      obtain rfl : j = 0 := by omega
      exact hvx⟩⟩
    have HRD := Lib.hid hRD
    have HOW := Lib.hid hown
    have HBB := Lib.hid hB
    obtain ⟨A, c, rfl⟩ := own_slice hown
    have hAc : xs.length ≤ c := own_le hown
    have hc63 : c ≤ 9223372036854775807 := by
      rcases hown.2 with ⟨he, _⟩ | ⟨g, cap, cur, he, _, _, _, hm, _⟩
      · injection he with _ _ h3; omega
      · injection he with _ _ h3; unfold maxLen at hm; omega
    have hdr : ∀ W : World, ∃ A' : Option Addr, (Instr.slice 24 (.slice A xs.length c) (some (.int .i64 (xs.length : Int))) none none).run Try.prog W = .ok (.slice A' (xs.length - xs.length) (c - xs.length)) W := fun W => by
      obtain ⟨i0, hi0, _, hs0, _⟩ := info_parts info3
      obtain ⟨A', h1, _⟩ := print_cut_of (P := Try.prog) (Value.int .i64) (0 : Int) 24 3 .i64 Try.underlying24 hi0 hs0 A xs.length c xs.length (Nat.le_refl _)
      exact ⟨A', h1 W⟩
    obtain ⟨A', hcut⟩ := hdr w
    clear hdr hvs hvx hRD hown hB HO
    go_enter Try.func40, Try.ntmps40
    go_wp2_with (at_builtin; refine print_append_row_of (w0 := w0) (Value.int .i64) (0 : Int) base rfl _ _ 24 3 (.int .i64 0) 8 rfl Try.underlying24 info3 rfl (by decide) (fun _ => rfl) _ xs [x] (some ⟨vb, 0, none⟩) _ _ rfl rfl HOW.out HRD.out HBB.out hbase (by omega) ?_; intro v1 w1 hown1 hb1 hg1 hn1; have HN1 := Lib.hid hn1; clear hn1; have HO1 := Lib.hid hown1; have HB1 := Lib.hid hb1; have HG1 := Lib.hid hg1; clear hown1 hb1 hg1)
    go_ret
    refine ⟨_, rfl, Kd.R_of_own ?_ (fun _ _ => trivial), HB1.out, HG1.out, HN1.out⟩
    rw [List.take_length, List.drop_length]
    exact HO1.out
  · have hlt : i < xs.length := by omega
    rcases hown.2 with ⟨_, h0⟩ | ⟨g, cap, cur, rfl, hg, hh, hnc, hcm, hcs, htk⟩
    · omega
    simp only [Nat.mul_one] at hcs htk
    unfold maxLen at hcm
    have hcl : (encs (Value.int .i64) xs).length = xs.length := encs_length xs
    have h1c : ∀ u ∈ encs (Value.int .i64) xs, u.oneCell' = true := by
      intro u hu; simp only [encs, List.mem_map] at hu; obtain ⟨q, _, rfl⟩ := hu; rfl
    have h1v : ∀ u ∈ [Value.int .i64 x], u.oneCell' = true := by intro u hu; simp at hu; subst hu; rfl
    have hvg : vb ≠ g := fun e => hne (by rw [e]; rfl)
    have hcc : ∀ j u, (encs (Value.int .i64) xs)[j]? = some u → w.cell? ⟨g, 0 + j, none⟩ = some u := by
      intro j u hj
      rw [Nat.zero_add, blk_cell hh]
      have h2 : cur.toList[j]? = some u := by
        rw [← htk] at hj
        rw [List.getElem?_take] at hj
        split at hj
        · exact hj
        · cases hj
      rw [← Array.getElem?_toList]
      exact h2
    by_cases hroom : xs.length + 1 ≤ cap
    · refine (insI_shift g 0 xs.length cap i vb 0 1 1 (encs (Value.int .i64) xs) [.int .i64 x] w hlt (by omega) hroom (by omega) hvg hcl rfl hcc (fun j hj => ?_) (fun j hj => ?_) hvs h1c h1v 3 3 1 cap ?_ ?_ (by omega) ?_ ?_).mono ?_
      · rw [Nat.zero_add, blk_cell hh, Array.getElem?_eq_getElem (by omega)]; rfl
      · exact blk_frozen hh _
      · simp [World.shape?, hx]
      · simp [World.shape?, hh, hcs]
      · exact blk_frozen hx _
      · exact blk_frozen hx _
      rintro e w' ⟨rfl, rfl⟩
      simp only [Nat.zero_add]
      obtain ⟨cur1, a1, a2, a3⟩ := setCells_row ((encs (Value.int .i64) xs).drop i) (i + 1) w.drew cur (blk_drew hh) (by rw [List.length_drop, hcl]; omega)
      obtain ⟨cur2, b1, b2, b3⟩ := setCells_row [Value.int .i64 x] i _ cur1 a1 (by simp; omega)
      obtain ⟨s1, s2, s3, s4⟩ := setCells_same g ((encs (Value.int .i64) xs).drop i) (i + 1) w.drew
      obtain ⟨t1, t2, t3, t4⟩ := setCells_same g [Value.int .i64 x] i (w.drew.setCells g (i + 1) ((encs (Value.int .i64) xs).drop i))
      have hgb : w.grownBy ((w.drew.setCells g (i + 1) ((encs (Value.int .i64) xs).drop i)).setCells g i [Value.int .i64 x]) (some g) :=
        ⟨t1.trans s1, t2.trans s2, t3.trans s3, by rw [t4, s4]; exact Nat.le_refl _, fun k hk hne => by
          rw [setCells_far _ _ k (fun e => hne (by rw [e])), setCells_far _ _ k (fun e => hne (by rw [e]))]; rfl⟩
      refine ⟨_, rfl, Kd.R_of_own (enc := Value.int .i64) ⟨?_, .inr ⟨g, cap, cur2, ?_, hg, b1, ?_, ?_, ?_, ?_⟩⟩ (fun _ _ => trivial), hB.grown hgb hbase (fun k e => by cases e; exact hg), hgb, .inl rfl⟩
      · rw [encs_length]; omega
      · congr 1; simp; omega
      · simp; omega
      · unfold maxLen; omega
      · rw [b2, a2]; omega
      · have := splice_shift (l := cur.toList) (cs := encs (Value.int .i64) xs) (n := xs.length) (i := i) (x := Value.int .i64 x) (by omega) hcl htk (by have : cur.toList.length = cur.size := Array.length_toList; omega) a3 b3
        have hle : (xs.take i ++ x :: xs.drop i).length * 1 = xs.length + 1 := by simp; omega
        rw [hle, this]
        simp [encs, List.map_take, List.map_drop]
    · refine (insI_grow g 0 xs.length cap i vb 0 1 1 (encs (Value.int .i64) xs) [.int .i64 x] w hlt (by omega) hnc (by omega) (by omega) hcl rfl hcc hvs h1c h1v).mono ?_
      rintro e w' ⟨rfl, rfl⟩
      generalize hG : grownCap w (xs.length + 1) cap 3 = G
      have hGn : xs.length + 1 ≤ G := by rw [← hG]; exact grownCap_ge w _ _ _
      have hG63 : G ≤ maxLen := by rw [← hG]; exact grownCap_le_maxLen w (xs.length + 1) cap 3 (by unfold maxLen; omega)
      generalize hR : ((encs (Value.int .i64) xs).take i).toArray ++ Builtin.zeroCells (Value.int .i64 0).cells (xs.length + 1 - i) ++ Builtin.zeroCells (Value.int .i64 0).cells (G - (xs.length + 1)) = ROW
      have hRs : ROW.size = G := by
        rw [← hR]
        simp [Builtin.zeroCells, Value.cells, hcl]
        omega
      have hRl : ROW.toList = (encs (Value.int .i64) xs).take i ++ ((Builtin.zeroCells (Value.int .i64 0).cells (xs.length + 1 - i)).toList ++ (Builtin.zeroCells (Value.int .i64 0).cells (G - (xs.length + 1))).toList) := by rw [← hR]; simp
      have h0 : ((w.alloc (.cells ROW 3)).drew).heap[w.heap.size]? = some (.cells ROW 3 (0, 0)) := heap_alloc_new w _
      obtain ⟨cur1, a1, a2, a3⟩ := setCells_row [Value.int .i64 x] i _ ROW h0 (by simp; omega)
      obtain ⟨cur2, b1, b2, b3⟩ := setCells_row (g := w.heap.size) ((encs (Value.int .i64) xs).drop i) (i + 1) (((w.alloc (.cells ROW 3)).drew.setCells w.heap.size i [Value.int .i64 x]).drew) cur1 a1 (by rw [List.length_drop, hcl]; omega)
      obtain ⟨s1, s2, s3, s4⟩ := setCells_same w.heap.size [Value.int .i64 x] i ((w.alloc (.cells ROW 3)).drew)
      obtain ⟨t1, t2, t3, t4⟩ := setCells_same w.heap.size ((encs (Value.int .i64) xs).drop i) (i + 1) (((w.alloc (.cells ROW 3)).drew.setCells w.heap.size i [Value.int .i64 x]).drew)
      have hgb : ∀ row, w.grownBy ((((w.alloc (.cells ROW 3)).drew.setCells w.heap.size i [Value.int .i64 x]).drew).setCells w.heap.size (i + 1) ((encs (Value.int .i64) xs).drop i)) row := fun row =>
        ⟨t1.trans s1, t2.trans s2, t3.trans s3, by rw [t4]; show w.heap.size ≤ (World.setCells _ _ _ _).heap.size; rw [s4]; simp, fun k hk hne => by
          rw [setCells_far _ _ k (by omega)]
          show (World.setCells _ _ _ _).heap[k]? = _
          rw [setCells_far _ _ k (by omega)]
          exact Below.heap_alloc w _ k hk⟩
      refine ⟨_, rfl, Kd.R_of_own (enc := Value.int .i64) ⟨?_, .inr ⟨w.heap.size, G, cur2, ?_, hbase, b1, ?_, hG63, ?_, ?_⟩⟩ (fun _ _ => trivial), hB.grown (hgb none) hbase (fun k e => by cases e), hgb _, .inr ⟨_, rfl, Nat.le_refl _⟩⟩
      · rw [encs_length]; omega
      · congr 1; simp; omega
      · simp; omega
      · rw [b2, a2, hRs]; omega
      · have := splice_grow (l := ROW.toList) (cs := encs (Value.int .i64) xs) (n := xs.length) (i := i) (x := Value.int .i64 x) (by omega) hcl hRl (by first | (simp [Builtin.zeroCells, Value.cells]; done) | (simp [Builtin.zeroCells, Value.cells]; omega)) a3 b3
        have hle : (xs.take i ++ x :: xs.drop i).length * 1 = xs.length + 1 := by simp; omega
        rw [hle, this]
        simp [encs, List.map_take, List.map_drop]
theorem sizeES : ∀ w, (Go.sizeOf 9).run Try.prog w = .ok 1 w := fun w => by kernel_rfl
set_option maxHeartbeats 4000000 in
set_option maxRecDepth 100000 in
theorem insS_shift (b off n c i vb voff m vc : Nat) (cs vs : List Value) (w : World) (hi : i < n) (hm : 0 < m) (hroom : n + m ≤ c) (hc63 : c ≤ 9223372036854775807) (hvb : vb ≠ b)
    (hcl : cs.length = n) (hvl : vs.length = m)
    (hcs : ∀ j v, cs[j]? = some v → w.cell? ⟨b, off + j, none⟩ = some v) (hsp : ∀ j, j < n + m → (w.cell? ⟨b, off + j, none⟩).isSome = true) (hfz : ∀ j, j < n + m → w.frozen? ⟨b, off + j, none⟩ = false)
    (hvs : ∀ j v, vs[j]? = some v → w.cell? ⟨vb, voff + j, none⟩ = some v) (h1c : ∀ v ∈ cs, v.oneCell' = true) (h1v : ∀ v ∈ vs, v.oneCell' = true)
    (tA tB : TypeId) (kA kB : Nat) (hsa : w.shape? vb = some (tA, kA)) (hsb : w.shape? b = some (tB, kB)) (hkB : kB ≠ 0) (hfa : w.frozen? ⟨vb, voff, none⟩ = false) (hfe : w.frozen? ⟨vb, kA, none⟩ = false) :
    Calls Try.prog 36 #[.slice (some ⟨b, off, none⟩) n c, .int .i64 i, .slice (some ⟨vb, voff, none⟩) m vc] w fun e w' =>
      e = .returned (.slice (some ⟨b, off, none⟩) (n + m) c) ∧ w' = (w.drew.setCells b (off + (i + m)) (cs.drop i)).setCells b (off + i) vs := by
  have u22 := run_underlying Try.underlying22
  have hz1 : ¬ ((m : Int) = 0) := by omega
  have hz2 : ¬ ((i : Int) = (n : Int)) := by omega
  have hsz : (Try.prog.info? 9).map (·.size) = some 1 := by
    obtain ⟨i0, hi0, h0, h1, h2⟩ := info_parts info9
    rw [hi0]; simp [h1]
  have hov : ∀ lb cb, (callFunc 66 #[.slice (some ⟨vb, voff, none⟩) m vc, .slice (some ⟨b, off + (i + m), none⟩) lb cb]).run Try.prog w = .ok (.value (.bool false)) w := fun lb cb => by
    rw [run_callFunc_extern Try.func66 (by kernel_rfl) (by kernel_rfl) (by kernel_rfl) (e := Extern.SlicesOverlaps.overlaps #[22, 22] #[4]) (by kernel_rfl),
      Lib.run_overlaps_apart w 22 4 9 Try.underlying22 1 (sizeES) ⟨vb, voff, none⟩ ⟨b, off + (i + m), none⟩ m vc lb cb hvb tA tB kA kB hsa hsb hkB hfa hfe]
    rfl
  have hdl : (cs.drop i).length = n - i := by rw [List.length_drop, hcl]
  have hw1 : IntKind.i64.wrap ((i : Int) + (m : Int)) = (i : Int) + (m : Int) := by rw [IntKind.wrap_i64]; omega
  have hb1 : (0 : Int) ≤ (i : Int) + (m : Int) := by omega
  have hin : i ≤ n := by omega
  have htn : ((i : Int) + (m : Int)).toNat = i + m := by omega
  have hb2 : ¬ (c = i + m) := by omega
  have hb3 : (i : Int) ≤ (n : Int) + (m : Int) := by omega
  have hb4 : ¬ (c = i) := by omega
  have hcp1 : ∀ ty dc sc, (Builtin.copy_ #[22, 22] ty #[.slice (some ⟨b, off + (i + m), none⟩) (n + m - (i + m)) dc, .slice (some ⟨b, off + i, none⟩) (n + m - i) sc]).run Try.prog w.drew = .ok (goInt (cs.drop i).length) (w.drew.setCells b (off + (i + m)) (cs.drop i)) := fun ty dc sc =>
    run_copy_cells w.drew _ _ ty 9 b (off + (i + m)) (n + m - (i + m)) dc ⟨b, off + i, none⟩ (n + m - i) sc (cs.drop i) Try.underlying22 hsz (by rw [hdl]; simp only [Nat.min_def]; split <;> omega)
      (fun j v hj => by rw [Addr.add_lit, Nat.add_assoc]; exact hcs (i + j) v (by rwa [List.getElem?_drop] at hj))
      (fun j hj => by rw [Nat.add_assoc]; exact hsp _ (by omega)) (fun j hj => by rw [Nat.add_assoc]; exact hfz _ (by omega)) (fun v hv => h1c v (List.mem_of_mem_drop hv))
  obtain ⟨W1, hW1⟩ : ∃ W1, W1 = w.drew.setCells b (off + (i + m)) (cs.drop i) := ⟨_, rfl⟩
  have hsp1 : ∀ k, k < n + m → (W1.cell? ⟨b, off + k, none⟩).isSome = true := fun k hk => by
    rw [hW1]
    exact isSome_setCells b _ _ _ (fun j hj => by rw [Nat.add_assoc]; exact hsp _ (by omega)) _ (hsp k hk)
  have hcp2 : ∀ (W : World), (∀ x, W.cell? x = W1.cell? x) → (∀ x, W.frozen? x = W1.frozen? x) → ∀ ty dc, (Builtin.copy_ #[22, 22] ty #[.slice (some ⟨b, off + i, none⟩) (n + m - i) dc, .slice (some ⟨vb, voff, none⟩) m vc]).run Try.prog W = .ok (goInt vs.length) (W.setCells b (off + i) vs) := fun W hWc hWf ty dc =>
    run_copy_cells W _ _ ty 9 b (off + i) (n + m - i) dc ⟨vb, voff, none⟩ m vc vs Try.underlying22 hsz (by rw [hvl]; simp only [Nat.min_def]; split <;> omega)
      (fun j v hj => by
        rw [Addr.add_lit, hWc, hW1, World.cell?_setCells_out b _ _ _ _ (fun h _ => absurd h hvb)]
        exact hvs j v hj)
      (fun j hj => by rw [hWc, Nat.add_assoc]; exact hsp1 _ (by omega)) (fun j hj => by rw [hWf, hW1, World.frozen?_setCells, Nat.add_assoc]; exact hfz _ (by omega)) h1v
  rw [← hW1] at hcp1
  go_enter Try.func36, Try.ntmps36
  go_wp2_with (simp only [hov])
  go_region_law (refine step_copy_runI rfl _ _ 22 22 rfl _ _ (by simp [Act.eval, Act.put]) (by simp [Act.eval, Act.put]) (hcp1 _ _ _) ?_)
  go_wp2_with (at_builtin; refine wpList_copy_runI _ rfl _ _ 22 22 rfl _ _ rfl rfl (hcp2 _ (fun _ => rfl) (fun _ => rfl) _ _) ?_)
  go_ret
  first | exact ⟨rfl, rfl⟩ | exact ⟨rfl, by rw [hW1]⟩
set_option maxHeartbeats 4000000 in
set_option maxRecDepth 100000 in
theorem insS_grow (b off n c i vb voff m vc : Nat) (cs vs : List Value) (w : World) (hi : i < n) (hm : 0 < m) (hnc : n ≤ c) (hroom : c < n + m) (hbig : (n + m) * 16 ≤ 140737488355328)
    (hcl : cs.length = n) (hvl : vs.length = m)
    (hcs : ∀ j v, cs[j]? = some v → w.cell? ⟨b, off + j, none⟩ = some v)
    (hvs : ∀ j v, vs[j]? = some v → w.cell? ⟨vb, voff + j, none⟩ = some v) (h1c : ∀ v ∈ cs, v.oneCell' = true) (h1v : ∀ v ∈ vs, v.oneCell' = true) :
    Calls Try.prog 36 #[.slice (some ⟨b, off, none⟩) n c, .int .i64 i, .slice (some ⟨vb, voff, none⟩) m vc] w fun e w' =>
      e = .returned (.slice (some ⟨w.heap.size, 0, none⟩) (n + m) (grownCap w (n + m) c 9)) ∧
      w' = (((w.alloc (.cells ((cs.take i).toArray ++ Builtin.zeroCells (Value.string ⟨#[]⟩).cells (n + m - i) ++ Builtin.zeroCells (Value.string ⟨#[]⟩).cells (grownCap w (n + m) c 9 - (n + m))) 9)).drew.setCells w.heap.size i vs).drew).setCells w.heap.size (i + m) (cs.drop i) := by
  have u22 := run_underlying Try.underlying22
  obtain ⟨i0, hi0, hz0, hzs, hzb⟩ := info_parts info9
  have hz1 : ¬ ((m : Int) = 0) := by omega
  have hz2 : ¬ ((i : Int) = (n : Int)) := by omega
  have hz3 : (c : Int) < (n : Int) + (m : Int) := by omega
  have hsz : (Try.prog.info? 9).map (·.size) = some 1 := by rw [hi0]; simp [hzs]
  have hbw : b < w.heap.size := block_lt_of_cell (hcs 0 _ (List.getElem?_eq_getElem (by omega)))
  have hvw : vb < w.heap.size := block_lt_of_cell (hvs 0 _ (List.getElem?_eq_getElem (by omega)))
  have hkk : (n : Int) + (m : Int) - (i : Int) = ((n + m - i : Nat) : Int) := by omega
  have hik : i + (n + m - i) = n + m := by omega
  have hold : (Builtin.firstCells i0.size i (.slice (some ⟨b, off, none⟩) i c)).run Try.prog w.drew = .ok (cs.take i).toArray w.drew := by
    rw [hzs]
    exact run_firstCells_some w.drew 1 i ⟨b, off, none⟩ i c (cs.take i) (by rw [List.length_take]; omega) (fun j v hj => by
      rw [Addr.add_lit]
      rw [List.getElem?_take] at hj
      split at hj
      · exact hcs j v hj
      · cases hj)
  have hrz : ∀ ty, (Builtin.append_ #[22, 3] ty #[.slice (some ⟨b, off, none⟩) i c, .int .i64 ((n : Int) + (m : Int) - (i : Int))]).run Try.prog w =
      .ok (.slice (some ⟨w.heap.size, 0, none⟩) (n + m) (grownCap w (n + m) c 9)) (w.drew.alloc (.cells ((cs.take i).toArray ++ Builtin.zeroCells (Value.string ⟨#[]⟩).cells (n + m - i) ++ Builtin.zeroCells (Value.string ⟨#[]⟩).cells (grownCap w (n + m) c 9 - (n + m))) 9)) := fun ty => by
    have h := Lib.run_append_grow_zeros w 22 3 ty 9 i0 _ .i64 .i64 Try.underlying22 Try.underlying3 hi0 hz0 (some ⟨b, off, none⟩) i c (cs.take i) hold (n + m - i) (by omega) (by omega) (by omega) (by omega) (by rw [hzb]; omega) (by rw [hzb, hik]; exact growslice_fits hroom hbig)
    rw [hik] at h
    rw [hkk]
    exact h
  obtain ⟨G, hG⟩ : ∃ G, G = grownCap w (n + m) c 9 := ⟨_, rfl⟩
  obtain ⟨ROW, hROW⟩ : ∃ ROW : Array Value, ROW = (cs.take i).toArray ++ Builtin.zeroCells (Value.string ⟨#[]⟩).cells (n + m - i) ++ Builtin.zeroCells (Value.string ⟨#[]⟩).cells (G - (n + m)) := ⟨_, rfl⟩
  rw [← hG] at hrz ⊢
  rw [← hROW] at hrz ⊢
  have hRl : n + m ≤ ROW.size := by
    rw [hROW]
    simp [Builtin.zeroCells, Value.cells]
    omega
  obtain ⟨W1, hW1⟩ : ∃ W1, W1 = w.drew.alloc (.cells ROW 9) := ⟨_, rfl⟩
  rw [← hW1] at hrz
  have hN : ∀ j, j < n + m → (W1.cell? ⟨w.heap.size, j, none⟩).isSome = true := fun j hj => by
    rw [hW1, World.cell?_alloc_at (w := w.drew) ROW _ w.heap.size j rfl, Array.getElem?_eq_getElem (by omega)]; rfl
  have hNf : ∀ j, W1.frozen? ⟨w.heap.size, j, none⟩ = false := fun j => by rw [hW1]; exact World.frozen?_alloc_at (w := w.drew) ROW _ w.heap.size j rfl
  have hOb : ∀ j v, w.cell? ⟨b, j, none⟩ = some v → W1.cell? ⟨b, j, none⟩ = some v := fun j v h => by rw [hW1, World.cell?_alloc_past (w := w.drew) _ b j hbw]; exact h
  have hOv : ∀ j v, w.cell? ⟨vb, j, none⟩ = some v → W1.cell? ⟨vb, j, none⟩ = some v := fun j v h => by rw [hW1, World.cell?_alloc_past (w := w.drew) _ vb j hvw]; exact h
  have hcpA : ∀ (W : World), (∀ x, W.cell? x = W1.cell? x) → (∀ x, W.frozen? x = W1.frozen? x) → ∀ ty dc, (Builtin.copy_ #[22, 22] ty #[.slice (some ⟨w.heap.size, i, none⟩) (n + m - i) dc, .slice (some ⟨vb, voff, none⟩) m vc]).run Try.prog W = .ok (goInt vs.length) (W.setCells w.heap.size i vs) := fun W hWc hWf ty dc =>
    run_copy_cells W _ _ ty 9 w.heap.size i (n + m - i) dc ⟨vb, voff, none⟩ m vc vs Try.underlying22 hsz (by rw [hvl]; simp only [Nat.min_def]; split <;> omega)
      (fun j v hj => by rw [Addr.add_lit, hWc]; exact hOv _ v (hvs j v hj))
      (fun j hj => by rw [hWc]; exact hN _ (by omega)) (fun j hj => by rw [hWf]; exact hNf _) h1v
  have hGn : n + m ≤ G := by rw [hG]; exact grownCap_ge w _ _ _
  have hG63 : G ≤ 9223372036854775807 := by
    have := grownCap_le_maxLen w (n + m) c 9 (by unfold maxLen; omega)
    rw [← hG] at this
    unfold maxLen at this
    omega
  have hGi : ¬ (G = i) := by omega
  have hGim : ¬ (G = i + m) := by omega
  have hci : ¬ (c = i) := by omega
  have hbN : b ≠ w.heap.size := by omega
  have hdl : (cs.drop i).length = n - i := by rw [List.length_drop, hcl]
  have hcpB : ∀ (W : World), (∀ x, W.cell? x = (W1.setCells w.heap.size i vs).cell? x) → (∀ x, W.frozen? x = (W1.setCells w.heap.size i vs).frozen? x) → ∀ ty dc sc, (Builtin.copy_ #[22, 22] ty #[.slice (some ⟨w.heap.size, i + m, none⟩) (n + m - (i + m)) dc, .slice (some ⟨b, off + i, none⟩) (n - i) sc]).run Try.prog W = .ok (goInt (cs.drop i).length) (W.setCells w.heap.size (i + m) (cs.drop i)) := fun W hWc hWf ty dc sc =>
    run_copy_cells W _ _ ty 9 w.heap.size (i + m) (n + m - (i + m)) dc ⟨b, off + i, none⟩ (n - i) sc (cs.drop i) Try.underlying22 hsz (by rw [hdl]; simp only [Nat.min_def]; split <;> omega)
      (fun j v hj => by
        rw [Addr.add_lit, hWc, World.cell?_setCells_out _ _ _ _ _ (fun h _ => absurd h hbN), Nat.add_assoc]
        exact hOb _ v (hcs (i + j) v (by rwa [List.getElem?_drop] at hj)))
      (fun j hj => by rw [hWc]; exact isSome_setCells _ _ _ _ (fun t ht => hN _ (by omega)) _ (hN _ (by omega)))
      (fun j hj => by rw [hWf, World.frozen?_setCells]; exact hNf _) (fun v hv => h1c v (List.mem_of_mem_drop hv))
  subst hW1
  have hE1 : ∀ x, ((w.alloc (.cells ROW 9)).drew).cell? x = (w.drew.alloc (.cells ROW 9)).cell? x := fun x => rfl
  have hE2 : ∀ x, ((w.alloc (.cells ROW 9)).drew).frozen? x = (w.drew.alloc (.cells ROW 9)).frozen? x := fun x => rfl
  have hF1 : ∀ x, (((w.alloc (.cells ROW 9)).drew.setCells w.heap.size i vs).drew).cell? x = ((w.drew.alloc (.cells ROW 9)).setCells w.heap.size i vs).cell? x := fun x => rfl
  have hF2 : ∀ x, (((w.alloc (.cells ROW 9)).drew.setCells w.heap.size i vs).drew).frozen? x = ((w.drew.alloc (.cells ROW 9)).setCells w.heap.size i vs).frozen? x := fun x => rfl
  have hw1 : IntKind.i64.wrap ((i : Int) + (m : Int)) = (i : Int) + (m : Int) := by rw [IntKind.wrap_i64]; omega
  have hb1 : (0 : Int) ≤ (i : Int) + (m : Int) := by omega
  have hin : i ≤ n := by omega
  have htn : ((i : Int) + (m : Int)).toNat = i + m := by omega
  have hb3 : (i : Int) ≤ (n : Int) := by omega
  clear hkk hik hold hROW hG hRl
  go_enter Try.func36, Try.ntmps36
  go_wp2_with (first
    | (at_builtin; refine Lib.wpList_append_run _ rfl _ _ _ _ rfl _ _ rfl rfl _ _ (hrz _) ?_)
    | (at_builtin; refine wpList_copy_runI _ rfl _ _ 22 22 rfl _ _ rfl rfl (hcpA _ hE1 hE2 _ _) ?_)
    | (at_builtin; refine wpList_copy_runI _ rfl _ _ 22 22 rfl _ _ rfl rfl (hcpB _ (fun _ => rfl) (fun _ => rfl) _ _ _) ?_))
  go_region_law (refine step_copy_runI rfl _ _ 22 22 rfl (.slice (some ⟨w.heap.size, i + m, none⟩) (n + m - (i + m)) (G - (i + m))) (.slice (some ⟨b, off + i, none⟩) (n - i) (c - i)) (by simp [Act.eval, Act.put]) (by simp [Act.eval, Act.put]) (hcpB _ hF1 hF2 3 (G - (i + m)) (c - i)) ?_)
  go_wp2
  go_ret
  exact ⟨rfl, rfl⟩
set_option maxHeartbeats 1000000 in
set_option maxRecDepth 100000 in
/-- slices.Insert of one value into a row of one's own. -/
theorem insS_own (base : Nat) (ok : Nat → Prop) (v : Value) (xs : List ByteArray) (i : Nat) (x : ByteArray) (vb : Nat) (w0 w : World) (HO : Kd.string.R 9 w base ok v xs) (hB : Below base w0 w) (hi : i ≤ xs.length)
    (hx : w.heap[vb]? = some (.cells #[.string x] 9 (0, 0))) (hne : some vb ≠ v.ownBlock) (hbase : base ≤ w.heap.size) (hlim : xs.length ≤ 1000000) :
    Calls Try.prog 36 #[v, .int .i64 i, .slice (some ⟨vb, 0, none⟩) 1 1] w fun e w' => ∃ v1, e = .returned v1 ∧ Kd.string.R 9 w' base (fun _ => True) v1 (xs.take i ++ x :: xs.drop i) ∧ Below base w0 w' ∧ w.grownBy w' v.ownBlock ∧ (v1.ownBlock = v.ownBlock ∨ ∃ b, v1.ownBlock = some b ∧ w.heap.size ≤ b) := by
  have hown := Kd.own_of_R HO
  have hvx : w.cell? ⟨vb, 0, none⟩ = some (.string x) := (blk_cell hx 0).trans rfl
  have hvs : ∀ j v, [Value.string x][j]? = some v → w.cell? ⟨vb, 0 + j, none⟩ = some v := by
    intro j v hj
    cases j with
    | zero => simp at hj; subst hj; exact hvx
    | succ j => simp at hj
  by_cases hin : i = xs.length
  · -- at the end
    subst hin
    have hRD : ReadsOf Value.string (⟨#[]⟩ : ByteArray) w (some ⟨vb, 0, none⟩) 1 [x] := ⟨rfl, by omega, fun _ => ⟨_, rfl, fun j hj => by
      obtain rfl : j = 0 := by omega
      exact hvx⟩⟩
    have HRD := Lib.hid hRD
    have HOW := Lib.hid hown
    have HBB := Lib.hid hB
    obtain ⟨A, c, rfl⟩ := own_slice hown
    have hAc : xs.length ≤ c := own_le hown
    have hc63 : c ≤ 9223372036854775807 := by
      rcases hown.2 with ⟨he, _⟩ | ⟨g, cap, cur, he, _, _, _, hm, _⟩
      · injection he with _ _ h3; omega
      · injection he with _ _ h3; unfold maxLen at hm; omega
    have hdr : ∀ W : World, ∃ A' : Option Addr, (Instr.slice 22 (.slice A xs.length c) (some (.int .i64 (xs.length : Int))) none none).run Try.prog W = .ok (.slice A' (xs.length - xs.length) (c - xs.length)) W := fun W => by
      obtain ⟨i0, hi0, _, hs0, _⟩ := info_parts info9
      obtain ⟨A', h1, _⟩ := print_cut_of (P := Try.prog) Value.string (⟨#[]⟩ : ByteArray) 22 9 .i64 Try.underlying22 hi0 hs0 A xs.length c xs.length (Nat.le_refl _)
      exact ⟨A', h1 W⟩
    obtain ⟨A', hcut⟩ := hdr w
    clear hdr hvs hvx hRD hown hB HO
    go_enter Try.func36, Try.ntmps36
    go_wp2_with (at_builtin; refine print_append_row_of (w0 := w0) Value.string (⟨#[]⟩ : ByteArray) base rfl _ _ 22 9 (.string ⟨#[]⟩) 16 rfl Try.underlying22 info9 rfl (by decide) (fun _ => rfl) _ xs [x] (some ⟨vb, 0, none⟩) _ _ rfl rfl HOW.out HRD.out HBB.out hbase (by omega) ?_; intro v1 w1 hown1 hb1 hg1 hn1; have HN1 := Lib.hid hn1; clear hn1; have HO1 := Lib.hid hown1; have HB1 := Lib.hid hb1; have HG1 := Lib.hid hg1; clear hown1 hb1 hg1)
    go_ret
    refine ⟨_, rfl, Kd.R_of_own ?_ (fun _ _ => trivial), HB1.out, HG1.out, HN1.out⟩
    rw [List.take_length, List.drop_length]
    exact HO1.out
  · have hlt : i < xs.length := by omega
    rcases hown.2 with ⟨_, h0⟩ | ⟨g, cap, cur, rfl, hg, hh, hnc, hcm, hcs, htk⟩
    · omega
    simp only [Nat.mul_one] at hcs htk
    unfold maxLen at hcm
    have hcl : (encs Value.string xs).length = xs.length := encs_length xs
    have h1c : ∀ u ∈ encs Value.string xs, u.oneCell' = true := by
      intro u hu; simp only [encs, List.mem_map] at hu; obtain ⟨q, _, rfl⟩ := hu; rfl
    have h1v : ∀ u ∈ [Value.string x], u.oneCell' = true := by intro u hu; simp at hu; subst hu; rfl
    have hvg : vb ≠ g := fun e => hne (by rw [e]; rfl)
    have hcc : ∀ j u, (encs Value.string xs)[j]? = some u → w.cell? ⟨g, 0 + j, none⟩ = some u := by
      intro j u hj
      rw [Nat.zero_add, blk_cell hh]
      have h2 : cur.toList[j]? = some u := by
        rw [← htk] at hj
        rw [List.getElem?_take] at hj
        split at hj
        · exact hj
        · cases hj
      rw [← Array.getElem?_toList]
      exact h2
    by_cases hroom : xs.length + 1 ≤ cap
    · refine (insS_shift g 0 xs.length cap i vb 0 1 1 (encs Value.string xs) [.string x] w hlt (by omega) hroom (by omega) hvg hcl rfl hcc (fun j hj => ?_) (fun j hj => ?_) hvs h1c h1v 9 9 1 cap ?_ ?_ (by omega) ?_ ?_).mono ?_
      · rw [Nat.zero_add, blk_cell hh, Array.getElem?_eq_getElem (by omega)]; rfl
      · exact blk_frozen hh _
      · simp [World.shape?, hx]
      · simp [World.shape?, hh, hcs]
      · exact blk_frozen hx _
      · exact blk_frozen hx _
      rintro e w' ⟨rfl, rfl⟩
      simp only [Nat.zero_add]
      obtain ⟨cur1, a1, a2, a3⟩ := setCells_row ((encs Value.string xs).drop i) (i + 1) w.drew cur (blk_drew hh) (by rw [List.length_drop, hcl]; omega)
      obtain ⟨cur2, b1, b2, b3⟩ := setCells_row [Value.string x] i _ cur1 a1 (by simp; omega)
      obtain ⟨s1, s2, s3, s4⟩ := setCells_same g ((encs Value.string xs).drop i) (i + 1) w.drew
      obtain ⟨t1, t2, t3, t4⟩ := setCells_same g [Value.string x] i (w.drew.setCells g (i + 1) ((encs Value.string xs).drop i))
      have hgb : w.grownBy ((w.drew.setCells g (i + 1) ((encs Value.string xs).drop i)).setCells g i [Value.string x]) (some g) :=
        ⟨t1.trans s1, t2.trans s2, t3.trans s3, by rw [t4, s4]; exact Nat.le_refl _, fun k hk hne => by
          rw [setCells_far _ _ k (fun e => hne (by rw [e])), setCells_far _ _ k (fun e => hne (by rw [e]))]; rfl⟩
      refine ⟨_, rfl, Kd.R_of_own (enc := Value.string) ⟨?_, .inr ⟨g, cap, cur2, ?_, hg, b1, ?_, ?_, ?_, ?_⟩⟩ (fun _ _ => trivial), hB.grown hgb hbase (fun k e => by cases e; exact hg), hgb, .inl rfl⟩
      · rw [encs_length]; omega
      · congr 1; simp; omega
      · simp; omega
      · unfold maxLen; omega
      · rw [b2, a2]; omega
      · have := splice_shift (l := cur.toList) (cs := encs Value.string xs) (n := xs.length) (i := i) (x := Value.string x) (by omega) hcl htk (by have : cur.toList.length = cur.size := Array.length_toList; omega) a3 b3
        have hle : (xs.take i ++ x :: xs.drop i).length * 1 = xs.length + 1 := by simp; omega
        rw [hle, this]
        simp [encs, List.map_take, List.map_drop]
    · refine (insS_grow g 0 xs.length cap i vb 0 1 1 (encs Value.string xs) [.string x] w hlt (by omega) hnc (by omega) (by omega) hcl rfl hcc hvs h1c h1v).mono ?_
      rintro e w' ⟨rfl, rfl⟩
      generalize hG : grownCap w (xs.length + 1) cap 9 = G
      have hGn : xs.length + 1 ≤ G := by rw [← hG]; exact grownCap_ge w _ _ _
      have hG63 : G ≤ maxLen := by rw [← hG]; exact grownCap_le_maxLen w (xs.length + 1) cap 9 (by unfold maxLen; omega)
      generalize hR : ((encs Value.string xs).take i).toArray ++ Builtin.zeroCells (Value.string ⟨#[]⟩).cells (xs.length + 1 - i) ++ Builtin.zeroCells (Value.string ⟨#[]⟩).cells (G - (xs.length + 1)) = ROW
      have hRs : ROW.size = G := by
        rw [← hR]
        simp [Builtin.zeroCells, Value.cells, hcl]
        omega
      have hRl : ROW.toList = (encs Value.string xs).take i ++ ((Builtin.zeroCells (Value.string ⟨#[]⟩).cells (xs.length + 1 - i)).toList ++ (Builtin.zeroCells (Value.string ⟨#[]⟩).cells (G - (xs.length + 1))).toList) := by rw [← hR]; simp
      have h0 : ((w.alloc (.cells ROW 9)).drew).heap[w.heap.size]? = some (.cells ROW 9 (0, 0)) := heap_alloc_new w _
      obtain ⟨cur1, a1, a2, a3⟩ := setCells_row [Value.string x] i _ ROW h0 (by simp; omega)
      obtain ⟨cur2, b1, b2, b3⟩ := setCells_row (g := w.heap.size) ((encs Value.string xs).drop i) (i + 1) (((w.alloc (.cells ROW 9)).drew.setCells w.heap.size i [Value.string x]).drew) cur1 a1 (by rw [List.length_drop, hcl]; omega)
      obtain ⟨s1, s2, s3, s4⟩ := setCells_same w.heap.size [Value.string x] i ((w.alloc (.cells ROW 9)).drew)
      obtain ⟨t1, t2, t3, t4⟩ := setCells_same w.heap.size ((encs Value.string xs).drop i) (i + 1) (((w.alloc (.cells ROW 9)).drew.setCells w.heap.size i [Value.string x]).drew)
      have hgb : ∀ row, w.grownBy ((((w.alloc (.cells ROW 9)).drew.setCells w.heap.size i [Value.string x]).drew).setCells w.heap.size (i + 1) ((encs Value.string xs).drop i)) row := fun row =>
        ⟨t1.trans s1, t2.trans s2, t3.trans s3, by rw [t4]; show w.heap.size ≤ (World.setCells _ _ _ _).heap.size; rw [s4]; simp, fun k hk hne => by
          rw [setCells_far _ _ k (by omega)]
          show (World.setCells _ _ _ _).heap[k]? = _
          rw [setCells_far _ _ k (by omega)]
          exact Below.heap_alloc w _ k hk⟩
      refine ⟨_, rfl, Kd.R_of_own (enc := Value.string) ⟨?_, .inr ⟨w.heap.size, G, cur2, ?_, hbase, b1, ?_, hG63, ?_, ?_⟩⟩ (fun _ _ => trivial), hB.grown (hgb none) hbase (fun k e => by cases e), hgb _, .inr ⟨_, rfl, Nat.le_refl _⟩⟩
      · rw [encs_length]; omega
      · congr 1; simp; omega
      · simp; omega
      · rw [b2, a2, hRs]; omega
      · have := splice_grow (l := ROW.toList) (cs := encs Value.string xs) (n := xs.length) (i := i) (x := Value.string x) (by omega) hcl hRl (by first | (simp [Builtin.zeroCells, Value.cells]; done) | (simp [Builtin.zeroCells, Value.cells]; omega)) a3 b3
        have hle : (xs.take i ++ x :: xs.drop i).length * 1 = xs.length + 1 := by simp; omega
        rw [hle, this]
        simp [encs, List.map_take, List.map_drop]
end Go.Proofs.Ytneagipmllgejaa.PL
end
