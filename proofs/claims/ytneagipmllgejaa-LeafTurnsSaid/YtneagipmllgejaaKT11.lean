/- A part of the proof: lemmas that the row uses, laid together by a program of this session's (pack.py) out of its texts and of what the kit's printer wrote for this seat. -/
import Derived.Shelf.SlicesE.Delete
import Derived.Lib.OwnBridge
import Derived.Outline
import Derived.RegionTactic
import Derived.Deep.RegionWith
import Derived.Test.YtneagipmllgejaaKT0
import Derived.Test.YtneagipmllgejaaKT1
import Derived.Test.YtneagipmllgejaaKT2
import Derived.Test.YtneagipmllgejaaKT3
import Derived.Test.YtneagipmllgejaaKT4
import Derived.Test.YtneagipmllgejaaKT5
import Derived.Test.YtneagipmllgejaaKT6
import Derived.Test.YtneagipmllgejaaKT7
import Derived.Test.YtneagipmllgejaaKT8
import Derived.Test.YtneagipmllgejaaKT9
import Derived.Test.YtneagipmllgejaaKT10
section
set_option linter.unusedVariables false
set_option linter.unusedSimpArgs false
namespace Go.Proofs.Ytneagipmllgejaa.PL
open Go.Shelf Go.RowKit Go.Lib Go.Sort Go.Proofs.YtneagipmllgejaaW.PrintWords Go.Proofs.YtneagipmllgejaaW.PrintLast Go.Proofs.YtneagipmllgejaaW.PrintMore Go.Proofs.YtneagipmllgejaaH
/-- A list without its element i. -/
def cutAt {α : Type} (i : Nat) (l : List α) : List α := l.take i ++ l.drop (i + 1)
theorem cutAt_len {α : Type} {i : Nat} {l : List α} (h : i < l.length) : (cutAt i l).length + 1 = l.length := by unfold cutAt; simp; omega
def l45_ren : Go.Shelf.Ren := ⟨fun | 45 => 45 | n => n, fun | 22 => 22 | 23 => 9 | 3 => 3 | 4 => 4 | 0 => 0 | n => n, fun | n => n⟩
theorem l45 : SlLaysE.n45 Try.prog l45_ren := {
  mixed := by kernel_rfl
  f45 := ⟨Try.f45.name, by decide, Try.func45.trans (congrArg some (by kernel_rfl))⟩
  t0 := Try.underlying0
  a0 := Try.isAgg0
  z0 := Try.sizeOf0
  v0 := Try.zeroValue0
  t3 := Try.underlying3
  a3 := Try.isAgg3
  z3 := Try.sizeOf3
  v3 := Try.zeroValue3
  t4 := Try.underlying4
  a4 := Try.isAgg4
  z4 := Try.sizeOf4
  v4 := Try.zeroValue4
  t22 := Try.underlying22
  a22 := Try.isAgg22
  z22 := Try.sizeOf22
  v22 := Try.zeroValue22
  a23 := Try.isAgg9
  z23 := Try.sizeOf9 }
def l46_ren : Go.Shelf.Ren := ⟨fun | 45 => 46 | n => n, fun | 22 => 24 | 23 => 3 | 3 => 3 | 4 => 4 | 0 => 0 | n => n, fun | n => n⟩
theorem l46 : SlLaysE.n45 Try.prog l46_ren := {
  mixed := by kernel_rfl
  f45 := ⟨Try.f46.name, by decide, Try.func46.trans (congrArg some (by kernel_rfl))⟩
  t0 := Try.underlying0
  a0 := Try.isAgg0
  z0 := Try.sizeOf0
  v0 := Try.zeroValue0
  t3 := Try.underlying3
  a3 := Try.isAgg3
  z3 := Try.sizeOf3
  v3 := Try.zeroValue3
  t4 := Try.underlying4
  a4 := Try.isAgg4
  z4 := Try.sizeOf4
  v4 := Try.zeroValue4
  t22 := Try.underlying24
  a22 := Try.isAgg24
  z22 := Try.sizeOf24
  v22 := Try.zeroValue24
  a23 := Try.isAgg3
  z23 := Try.sizeOf3 }
theorem grown_putS {w : World} {g q : Nat} {d : Array ByteArray} : w.grownBy (putRow (Value.string) (Sort.ahead w q) g 0 d) (some g) :=
  ⟨rfl, rfl, rfl, by simp [putRow, mapBlock, Sort.ahead], fun k hk hne => by simp [putRow, mapBlock, Sort.ahead, Array.getElem?_modify, show g ≠ k from fun e => hne (by rw [e])]⟩
set_option maxRecDepth 100000 in
/-- One element is taken out of a row of one's own. -/
theorem delS_at {base : Nat} {ok : Nat → Prop} {v : Value} {xs : List ByteArray} {i : Nat} {w0 w : World} (HO : (Kd.string).R 9 w base ok v xs) (hB : Below base w0 w) (hi : i < xs.length) {p q : Int} (hp : p = (i : Int)) (hq : q = ((i + 1 : Nat) : Int)) :
    Calls Try.prog 45 #[v, .int .i64 p, .int .i64 q] w fun e w' => ∃ v1, e = .returned v1 ∧ (Kd.string).R 9 w' base (fun _ => True) v1 (cutAt i xs) ∧ Below base w0 w' ∧ w.grownBy w' v.ownBlock ∧ (v1.ownBlock = v.ownBlock ∨ ∃ b, v1.ownBlock = some b ∧ w.heap.size ≤ b) := by
  subst hp
  subst hq
  have hown := Kd.own_of_R HO
  have hv : v ≠ .slice none 0 0 := fun e => by
    subst e
    rcases hown.2 with ⟨_, hz⟩ | ⟨g, cap, cur, e0, _⟩
    · have : xs.length = 0 := hz
      omega
    · cases e0
  obtain ⟨g, cap, rfl, hbg, hlt, hn, hm, _, hH⟩ := holds_of_ownsRow (enc := Value.string) hown hv
  obtain ⟨i0, hi0, hz1⟩ : ∃ i0, Try.prog.info? (l45_ren.t 23) = some i0 ∧ i0.size = 1 := by
    have h := info9
    cases h2 : Try.prog.info? 9 with
    | none => rw [h2] at h; cases h
    | some i0 => rw [h2] at h; simp at h; exact ⟨i0, h2, h.2.1⟩
  have hcon := AnyE.slices_Delete l45 (Value.string) (fun _ => rfl) (⟨#[]⟩ : ByteArray) Try.zeroValue9 i0 hi0 hz1 g 0 cap i (i + 1) xs.toArray w hH (by simpa using hn) (by unfold maxLen at hm; omega) (by omega) (by simp; omega)
  change Calls Try.prog 45 _ _ _ at hcon
  rw [List.size_toArray] at hcon
  refine hcon.mono ?_
  rintro e w1 ⟨rfl, q, rfl⟩
  have hl : (xs.take i ++ xs.drop (i + 1)).length = xs.length - 1 := by simp; omega
  have hrow := ownsRow_putRow (q := q) (k := xs.length - 1) (ys := xs.take i ++ xs.drop (i + 1) ++ List.replicate (i + 1 - i) (⟨#[]⟩ : ByteArray)) hown (by simp; omega) (by omega)
  rw [List.take_left' hl] at hrow
  have e1 : xs.length - (i + 1 - i) = (xs.take i ++ xs.drop (i + 1)).length := by rw [hl]; omega
  show ∃ v1, _ ∧ _ ∧ _ ∧ _ ∧ _
  unfold cutAt
  refine ⟨_, rfl, ?_, below_putRow hB hbg, grown_putS, .inl rfl⟩
  rw [e1]
  rw [← hl] at hrow
  exact Kd.R_of_own (h1 := fun _ => rfl) hrow (fun _ _ => trivial)
theorem grown_putI {w : World} {g q : Nat} {d : Array Int} : w.grownBy (putRow (Value.int .i64) (Sort.ahead w q) g 0 d) (some g) :=
  ⟨rfl, rfl, rfl, by simp [putRow, mapBlock, Sort.ahead], fun k hk hne => by simp [putRow, mapBlock, Sort.ahead, Array.getElem?_modify, show g ≠ k from fun e => hne (by rw [e])]⟩
set_option maxRecDepth 100000 in
/-- One element is taken out of a row of one's own. -/
theorem delI_at {base : Nat} {ok : Nat → Prop} {v : Value} {xs : List Int} {i : Nat} {w0 w : World} (HO : (Kd.int .i64).R 3 w base ok v xs) (hB : Below base w0 w) (hi : i < xs.length) {p q : Int} (hp : p = (i : Int)) (hq : q = ((i + 1 : Nat) : Int)) :
    Calls Try.prog 46 #[v, .int .i64 p, .int .i64 q] w fun e w' => ∃ v1, e = .returned v1 ∧ (Kd.int .i64).R 3 w' base (fun _ => True) v1 (cutAt i xs) ∧ Below base w0 w' ∧ w.grownBy w' v.ownBlock ∧ (v1.ownBlock = v.ownBlock ∨ ∃ b, v1.ownBlock = some b ∧ w.heap.size ≤ b) := by
  subst hp
  subst hq
  have hown := Kd.own_of_R HO
  have hv : v ≠ .slice none 0 0 := fun e => by
    subst e
    rcases hown.2 with ⟨_, hz⟩ | ⟨g, cap, cur, e0, _⟩
    · have : xs.length = 0 := hz
      omega
    · cases e0
  obtain ⟨g, cap, rfl, hbg, hlt, hn, hm, _, hH⟩ := holds_of_ownsRow (enc := Value.int .i64) hown hv
  obtain ⟨i0, hi0, hz1⟩ : ∃ i0, Try.prog.info? (l46_ren.t 23) = some i0 ∧ i0.size = 1 := by
    have h := info3
    cases h2 : Try.prog.info? 3 with
    | none => rw [h2] at h; cases h
    | some i0 => rw [h2] at h; simp at h; exact ⟨i0, h2, h.2.1⟩
  have hcon := AnyE.slices_Delete l46 (Value.int .i64) (fun _ => rfl) (0 : Int) Try.zeroValue3 i0 hi0 hz1 g 0 cap i (i + 1) xs.toArray w hH (by simpa using hn) (by unfold maxLen at hm; omega) (by omega) (by simp; omega)
  change Calls Try.prog 46 _ _ _ at hcon
  rw [List.size_toArray] at hcon
  refine hcon.mono ?_
  rintro e w1 ⟨rfl, q, rfl⟩
  have hl : (xs.take i ++ xs.drop (i + 1)).length = xs.length - 1 := by simp; omega
  have hrow := ownsRow_putRow (q := q) (k := xs.length - 1) (ys := xs.take i ++ xs.drop (i + 1) ++ List.replicate (i + 1 - i) (0 : Int)) hown (by simp; omega) (by omega)
  rw [List.take_left' hl] at hrow
  have e1 : xs.length - (i + 1 - i) = (xs.take i ++ xs.drop (i + 1)).length := by rw [hl]; omega
  show ∃ v1, _ ∧ _ ∧ _ ∧ _ ∧ _
  unfold cutAt
  refine ⟨_, rfl, ?_, below_putRow hB hbg, grown_putI, .inl rfl⟩
  rw [e1]
  rw [← hl] at hrow
  exact Kd.R_of_own (h1 := fun _ => rfl) hrow (fun _ _ => trivial)
end Go.Proofs.Ytneagipmllgejaa.PL
end
section
namespace Go.Proofs.Ytneagipmllgejaa.PL
open Go.RowKit Go.Proofs.YtneagipmllgejaaW.PrintWords Go.Proofs.YtneagipmllgejaaW.PrintLast Go.Proofs.YtneagipmllgejaaW.PrintMore Go.Proofs.YtneagipmllgejaaH
set_option linter.unusedVariables false
set_option linter.unusedSimpArgs false
def cutS (s : ByteArray) (es : List ByteArray) : List ByteArray := cutAt (loS s es) es
theorem St.fin0 {w W : World} {g3 g4 g6 : Nat} {u0 u1 u3 v0 v1 v3 : Value} {a : List ByteArray} {b : List Int} {no : Int} {es : List ByteArray} {gone : Bool} {x0 x1 : Value} (h : St w W g3 g4 g6 u0 u1 u3 v0 v1 v3 a b no es gone) :
    Kd.N k28 28 ((((W.setCell ⟨g6, 0, none⟩ x0).setCell ⟨g6, 1, none⟩ x1).alloc (.cells #[.int .i64 no, .slice none 0 0, .bool true] 28 (0, 0))).drew) w.heap.size (fun k_ => w.heap.size ≤ k_ ∧ some k_ ≠ v0.ownBlock ∧ some k_ ≠ v1.ownBlock) (.slice (some ⟨W.heap.size, 0, none⟩) 1 1) [⟨no, [], true⟩] := by
  obtain ⟨_, _, _, h3, _, hz⟩ := h.out x0 x1 (.cells #[.int .i64 no, .slice none 0 0, .bool true] 28 (0, 0))
  refine Kd.N_drew (N_one28 ⟨no, [], true⟩ (A1 := none) (c1 := 0) (by rw [← hz]; exact heap_alloc_new _ _) h.below.size ⟨h.below.size, fun e => ?_, fun e => ?_⟩ (Nat.le_refl _) (Kd.F_nil _ _ _))
  · have := Kd.R_lt h.r0 _ e.symm; omega
  · have := Kd.R_lt h.r1 _ e.symm; omega
set_option maxHeartbeats 2000000 in
set_option maxRecDepth 100000 in
theorem rem_wrong (B0 : Option Addr) (d0 : Nat) (a : List ByteArray) (B1 : Option Addr) (d1 : Nat) (b : List Int) (no : Int) (B3 : Option Addr) (d3 : Nat) (es : List ByteArray) (gone : Bool) (s : ByteArray) (w : World) (H : PreL B0 d0 a B1 d1 b no B3 d3 es gone s w) (hk : okL a b no es gone s = false) :
    Calls Try.prog 18 #[.agg #[.slice B0 a.length d0, .slice B1 b.length d1], .agg #[.int .i64 no, .slice B3 es.length d3, .bool gone], .string s] w (InsPost w [] [] [] 100) := by
  have HR0 := Lib.hid H.r0
  have HC0 := Lib.hid H.c0
  have HR1 := Lib.hid H.r1
  have HC1 := Lib.hid H.c1
  have HR3 := Lib.hid H.r3
  have HC3 := Lib.hid H.c3
  have hla := H.la
  have hlb := H.lb
  have hle := H.le
  have hu26 := Try.underlying26
  have hu28 := Try.underlying28

  have HOWN := Lib.hid (show leaf_own.f (a.length + es.length + 10) a b no es gone s = some ([], [], 0, [], false, 100) by rw [own_spec a b no es gone s (by omega) (by omega) (by omega) (by omega), hk]; rfl)
  have HBS := Lib.hid (show slices_BinarySearch_string_string.f (([] : List ByteArray).length + 1) [] s = some ((loS s [] : Int), fndS s []) from search_spec [] s rfl (by simp) (by simp))
  clear H hk
  go_enter Try.func18, Try.ntmps18
  go_wp2_with (first | ((with_reducible refine gate_dst (N := 3) rfl ?_); refine alloc_event ?hg (N := 3) ?hd (fun g => .pointer (some ⟨g, 0, none⟩)) (.cells #[.slice B0 a.length d0, .slice B1 b.length d1] 26 (0, 0)) ?hr ?_; (case hd => rfl); (case hg => rfl); (case hr => first | (go_simp; done) | (go_simp; rfl)); intro g3 hg w1 hbox hb; have HG3 := Lib.hid (show w.heap.size ≤ g3 by omega); have HX3_1 := Lib.hid hbox; have HB1 := Lib.hid (hb); clear hg hbox hb) | ((with_reducible refine gate_dst (N := 4) rfl ?_); refine alloc_event ?hg (N := 4) ?hd (fun g => .pointer (some ⟨g, 0, none⟩)) (.cells #[.int .i64 no, .slice B3 es.length d3, .bool gone] 28 (0, 0)) ?hr ?_; (case hd => rfl); (case hg => rfl); (case hr => first | (go_simp; done) | (go_simp; rfl)); intro g4 hg w2 hbox hb; have HG4 := Lib.hid (show w.heap.size ≤ g4 by rw [hg]; exact HB1.out.size); have HX4_2 := Lib.hid hbox; have HX3_2 := Lib.hid (blk_below HX3_1.out hb); have HN3_4 := Lib.hid (show g3 ≠ g4 by have := blk_lt HX3_1.out; omega); have HB2 := Lib.hid (below_then HB1.out HB1.out.size hb); clear hg hbox hb) | ((with_reducible refine gate_dst (N := 6) rfl ?_); refine alloc_event ?hg (N := 6) ?hd (fun g => .pointer (some ⟨g, 0, none⟩)) (.cells #[.slice none 0 0, .slice none 0 0] 26 (0, 0)) ?hr ?_; (case hd => rfl); (case hg => rfl); (case hr => first | (go_simp; done) | (go_simp; rfl)); intro g6 hg w3 hbox hb; have HG6 := Lib.hid (show w.heap.size ≤ g6 by rw [hg]; exact HB2.out.size); have HX6_3 := Lib.hid hbox; have HX3_3 := Lib.hid (blk_below HX3_2.out hb); have HN3_6 := Lib.hid (show g3 ≠ g6 by have := blk_lt HX3_2.out; omega); have HX4_3 := Lib.hid (blk_below HX4_2.out hb); have HN4_6 := Lib.hid (show g4 ≠ g6 by have := blk_lt HX4_2.out; omega); have HB3 := Lib.hid (below_then HB2.out HB2.out.size hb); clear hg hbox hb; have q30 : w3.cell? ⟨g3, 0, none⟩ = some (.slice B0 a.length d0) := (blk_cell HX3_3.out 0).trans rfl; have q31 : w3.cell? ⟨g3, 1, none⟩ = some (.slice B1 b.length d1) := (blk_cell HX3_3.out 1).trans rfl; have q40 : w3.cell? ⟨g4, 0, none⟩ = some (.int .i64 no) := (blk_cell HX4_3.out 0).trans rfl; have q41 : w3.cell? ⟨g4, 1, none⟩ = some (.slice B3 es.length d3) := (blk_cell HX4_3.out 1).trans rfl; have q42 : w3.cell? ⟨g4, 2, none⟩ = some (.bool gone) := (blk_cell HX4_3.out 2).trans rfl) | (go_at_call 34; refine (leaf_own.calls (a.length + es.length + 10) _ d0 a _ d1 b no _ d3 es gone s (([] : List ByteArray)) (([] : List Int)) (0) (([] : List ByteArray)) (false) (100) _ (Kd.C_below HR0.out HB3.out) HC0.out (Kd.C_below HR1.out HB3.out) HC1.out (Kd.C_below HR3.out HB3.out) HC3.out HOWN.out).mono ?_; rintro e w4 ⟨v0, v1, v3, rfl, h0, h1, h3, hb⟩; obtain ⟨A0, c0, rfl⟩ := Kd.R_slice h0; obtain ⟨A1, c1, rfl⟩ := Kd.R_slice h1; obtain ⟨A3, c3, rfl⟩ := Kd.R_slice h3; have H0_4 := Lib.hid (Kd.R_lower h0 HB3.out.size); have H1_4 := Lib.hid (Kd.R_lower h1 HB3.out.size); have H3_4 := Lib.hid (Kd.R_lower h3 HB3.out.size); have HX3_4 := Lib.hid (blk_below HX3_3.out hb); have HX4_4 := Lib.hid (blk_below HX4_3.out hb); have HX6_4 := Lib.hid (blk_below HX6_3.out hb); have HB4 := Lib.hid (below_then HB3.out HB3.out.size hb); clear h0 h1 h3 hb q30 q31 q40 q41 q42) | ((with_reducible refine gate_store (t := 26) (p := 3) rfl ?_); refine store_row rfl rfl rfl g3 _ 26 [.slice A0 (([] : List ByteArray)).length c0, .slice A1 (([] : List Int)).length c1] rfl (.agg #[.slice A0 (([] : List ByteArray)).length c0, .slice A1 (([] : List Int)).length c1]) ?haA ?hbA HX3_4.out rfl (by kernel_rfl) (two26 A0 (([] : List ByteArray)).length c0 A1 (([] : List Int)).length c1) ?_; (case haA => rfl); (case hbA => first | rfl | simp [Value.cells]); intro w5 hbox hg hz; have HX3_5 := Lib.hid hbox; have HX4_5 := Lib.hid (blk_grown HX4_4.out hg (fun e_ => HN3_4.out (by injection e_ with e_; exact e_.symm))); have HX6_5 := Lib.hid (blk_grown HX6_4.out hg (fun e_ => HN3_6.out (by injection e_ with e_; exact e_.symm))); have H0_5 := Lib.hid (Kd.R_grown1 H0_4.out rfl hg (Kd.R_ne H0_4.out HX3_4.out (by decide))); have H1_5 := Lib.hid (Kd.R_grown1 H1_4.out rfl hg (Kd.R_ne H1_4.out HX3_4.out (by decide))); have H3_5 := Lib.hid (Kd.R_grown1 H3_4.out rfl hg (Kd.R_ne H3_4.out HX3_4.out (by decide))); have HB5 := Lib.hid (below_own HB4.out hg HG3.out HB4.out.size); clear hbox hg hz) | ((with_reducible refine gate_store (t := 28) (p := 4) rfl ?_); refine store_row rfl rfl rfl g4 _ 28 [.int .i64 (0), .slice A3 (([] : List ByteArray)).length c3, .bool false] rfl (.agg #[.int .i64 (0), .slice A3 (([] : List ByteArray)).length c3, .bool false]) ?haB ?hbB HX4_5.out rfl (by kernel_rfl) (three28 (0) A3 (([] : List ByteArray)).length c3 false) ?_; (case haB => rfl); (case hbB => first | rfl | simp [Value.cells]); intro w6 hbox hg hz; have HS6 := Lib.hid (St.first HB5.out HX3_5.out HX4_5.out HX6_5.out H0_5.out H1_5.out H3_5.out HN3_4.out HN3_6.out HN4_6.out HG3.out HG4.out HG6.out hbox hg); clear hbox hg hz; refine Hold.go ?_))
  clear HX3_1 HX3_2 HX4_2 HX3_3 HX4_3 HX6_3 HX3_4 HX4_4 HX6_4 HX3_5 HX4_5 HX6_5 H0_4 H1_4 H3_4 H0_5 H1_5 H3_5 HB1 HB2 HB3 HB4 HB5 HN3_4 HN3_6 HN4_6 HG3 HG4 HG6 HOWN
  obtain ⟨q30, q31, q40, q41, q42⟩ := HS6.out.cells
  refine Hold.of ?_
  go_wp2_with (first | (go_at_call 35; refine (slices_BinarySearch_string_string.calls ((([] : List ByteArray)).length + 1) A3 c3 (([] : List ByteArray)) s (loS s (([] : List ByteArray)) : Int) (fndS s (([] : List ByteArray))) _ (Kd.R_reads' HS6.out.r3).2.2 (Kd.R_reads' HS6.out.r3).2.1 HBS.out).mono ?_; rintro e w7 ⟨rfl, hd⟩; have HS7 := Lib.hid (HS6.out.step hd.below); clear hd; refine Hold.go ?_))
  clear q30 q31 q40 q41 q42
  have HE0 := HS7.out.x6
  have HE := Lib.hid HE0
  clear HE0
  refine Hold.of ?_
  go_wp2_with (first | ((with_reducible refine gate_store (t := 26) (p := 6) rfl ?_); refine store_row rfl rfl rfl g6 _ 26 [.slice none 0 0, .slice none 0 0] rfl (.agg #[.slice none 0 0, .slice none 0 0]) ?haC ?hbC HE.out rfl (by kernel_rfl) (two26 none 0 0 none 0 0) ?_; (case haC => rfl); (case hbC => first | rfl | simp [Value.cells]); intro w8 hbox hg hz; have HX8 := Lib.hid hbox; have HB8 := Lib.hid (below_own HS7.out.below hg HS7.out.b6 HS7.out.below.size); clear hbox hg hz))
  refine bodyPost_ret (results_list (rs := [.cell 6 26, .tmp 7, .tmp 8]) rfl (by simp) (.cell g6 26 #[.slice none 0 0, .slice none 0 0] (0, 0) _ rfl HX8.out Try.underlying26 rfl (by kernel_rfl) (.tmp (.tmp .nil)))) rfl ?_
  exact ⟨_, _, _, rfl, Kd.R_nil _ _ _ _ _, Kd.R_nil _ _ _ _ _, Kd.N_nil _ _ _ _ _, HB8.out⟩
set_option maxHeartbeats 2000000 in
set_option maxRecDepth 100000 in
theorem rem_none (B0 : Option Addr) (d0 : Nat) (a : List ByteArray) (B1 : Option Addr) (d1 : Nat) (b : List Int) (no : Int) (B3 : Option Addr) (d3 : Nat) (es : List ByteArray) (gone : Bool) (s : ByteArray) (w : World) (H : PreL B0 d0 a B1 d1 b no B3 d3 es gone s w) (hk : okL a b no es gone s = true) (hf : fndS s es = false) :
    Calls Try.prog 18 #[.agg #[.slice B0 a.length d0, .slice B1 b.length d1], .agg #[.int .i64 no, .slice B3 es.length d3, .bool gone], .string s] w (InsPost w [] [] [] 101) := by
  have HR0 := Lib.hid H.r0
  have HC0 := Lib.hid H.c0
  have HR1 := Lib.hid H.r1
  have HC1 := Lib.hid H.c1
  have HR3 := Lib.hid H.r3
  have HC3 := Lib.hid H.c3
  have hla := H.la
  have hlb := H.lb
  have hle := H.le
  have hu26 := Try.underlying26
  have hu28 := Try.underlying28

  have HOWN := Lib.hid (show leaf_own.f (a.length + es.length + 10) a b no es gone s = some (a, b, no, es, gone, 0) by rw [own_spec a b no es gone s (by omega) (by omega) (by omega) (by omega), hk]; rfl)
  have HRI := Lib.hid ((leafB_iff.1 (okL_iff.1 hk).1).2.2)
  have hl4 := (leafB_iff.1 (okL_iff.1 hk).1).2.1
  have HBS := Lib.hid (show slices_BinarySearch_string_string.f (es.length + 1) es s = some ((loS s es : Int), fndS s es) from search_spec es s HRI.out (by omega) (by omega))
  clear H hk
  go_enter Try.func18, Try.ntmps18
  go_wp2_with (first | ((with_reducible refine gate_dst (N := 3) rfl ?_); refine alloc_event ?hg (N := 3) ?hd (fun g => .pointer (some ⟨g, 0, none⟩)) (.cells #[.slice B0 a.length d0, .slice B1 b.length d1] 26 (0, 0)) ?hr ?_; (case hd => rfl); (case hg => rfl); (case hr => first | (go_simp; done) | (go_simp; rfl)); intro g3 hg w1 hbox hb; have HG3 := Lib.hid (show w.heap.size ≤ g3 by omega); have HX3_1 := Lib.hid hbox; have HB1 := Lib.hid (hb); clear hg hbox hb) | ((with_reducible refine gate_dst (N := 4) rfl ?_); refine alloc_event ?hg (N := 4) ?hd (fun g => .pointer (some ⟨g, 0, none⟩)) (.cells #[.int .i64 no, .slice B3 es.length d3, .bool gone] 28 (0, 0)) ?hr ?_; (case hd => rfl); (case hg => rfl); (case hr => first | (go_simp; done) | (go_simp; rfl)); intro g4 hg w2 hbox hb; have HG4 := Lib.hid (show w.heap.size ≤ g4 by rw [hg]; exact HB1.out.size); have HX4_2 := Lib.hid hbox; have HX3_2 := Lib.hid (blk_below HX3_1.out hb); have HN3_4 := Lib.hid (show g3 ≠ g4 by have := blk_lt HX3_1.out; omega); have HB2 := Lib.hid (below_then HB1.out HB1.out.size hb); clear hg hbox hb) | ((with_reducible refine gate_dst (N := 6) rfl ?_); refine alloc_event ?hg (N := 6) ?hd (fun g => .pointer (some ⟨g, 0, none⟩)) (.cells #[.slice none 0 0, .slice none 0 0] 26 (0, 0)) ?hr ?_; (case hd => rfl); (case hg => rfl); (case hr => first | (go_simp; done) | (go_simp; rfl)); intro g6 hg w3 hbox hb; have HG6 := Lib.hid (show w.heap.size ≤ g6 by rw [hg]; exact HB2.out.size); have HX6_3 := Lib.hid hbox; have HX3_3 := Lib.hid (blk_below HX3_2.out hb); have HN3_6 := Lib.hid (show g3 ≠ g6 by have := blk_lt HX3_2.out; omega); have HX4_3 := Lib.hid (blk_below HX4_2.out hb); have HN4_6 := Lib.hid (show g4 ≠ g6 by have := blk_lt HX4_2.out; omega); have HB3 := Lib.hid (below_then HB2.out HB2.out.size hb); clear hg hbox hb; have q30 : w3.cell? ⟨g3, 0, none⟩ = some (.slice B0 a.length d0) := (blk_cell HX3_3.out 0).trans rfl; have q31 : w3.cell? ⟨g3, 1, none⟩ = some (.slice B1 b.length d1) := (blk_cell HX3_3.out 1).trans rfl; have q40 : w3.cell? ⟨g4, 0, none⟩ = some (.int .i64 no) := (blk_cell HX4_3.out 0).trans rfl; have q41 : w3.cell? ⟨g4, 1, none⟩ = some (.slice B3 es.length d3) := (blk_cell HX4_3.out 1).trans rfl; have q42 : w3.cell? ⟨g4, 2, none⟩ = some (.bool gone) := (blk_cell HX4_3.out 2).trans rfl) | (go_at_call 34; refine (leaf_own.calls (a.length + es.length + 10) _ d0 a _ d1 b no _ d3 es gone s (a) (b) (no) (es) (gone) (0) _ (Kd.C_below HR0.out HB3.out) HC0.out (Kd.C_below HR1.out HB3.out) HC1.out (Kd.C_below HR3.out HB3.out) HC3.out HOWN.out).mono ?_; rintro e w4 ⟨v0, v1, v3, rfl, h0, h1, h3, hb⟩; obtain ⟨A0, c0, rfl⟩ := Kd.R_slice h0; obtain ⟨A1, c1, rfl⟩ := Kd.R_slice h1; obtain ⟨A3, c3, rfl⟩ := Kd.R_slice h3; have H0_4 := Lib.hid (Kd.R_lower h0 HB3.out.size); have H1_4 := Lib.hid (Kd.R_lower h1 HB3.out.size); have H3_4 := Lib.hid (Kd.R_lower h3 HB3.out.size); have HX3_4 := Lib.hid (blk_below HX3_3.out hb); have HX4_4 := Lib.hid (blk_below HX4_3.out hb); have HX6_4 := Lib.hid (blk_below HX6_3.out hb); have HB4 := Lib.hid (below_then HB3.out HB3.out.size hb); clear h0 h1 h3 hb q30 q31 q40 q41 q42) | ((with_reducible refine gate_store (t := 26) (p := 3) rfl ?_); refine store_row rfl rfl rfl g3 _ 26 [.slice A0 (a).length c0, .slice A1 (b).length c1] rfl (.agg #[.slice A0 (a).length c0, .slice A1 (b).length c1]) ?haA ?hbA HX3_4.out rfl (by kernel_rfl) (two26 A0 (a).length c0 A1 (b).length c1) ?_; (case haA => rfl); (case hbA => first | rfl | simp [Value.cells]); intro w5 hbox hg hz; have HX3_5 := Lib.hid hbox; have HX4_5 := Lib.hid (blk_grown HX4_4.out hg (fun e_ => HN3_4.out (by injection e_ with e_; exact e_.symm))); have HX6_5 := Lib.hid (blk_grown HX6_4.out hg (fun e_ => HN3_6.out (by injection e_ with e_; exact e_.symm))); have H0_5 := Lib.hid (Kd.R_grown1 H0_4.out rfl hg (Kd.R_ne H0_4.out HX3_4.out (by decide))); have H1_5 := Lib.hid (Kd.R_grown1 H1_4.out rfl hg (Kd.R_ne H1_4.out HX3_4.out (by decide))); have H3_5 := Lib.hid (Kd.R_grown1 H3_4.out rfl hg (Kd.R_ne H3_4.out HX3_4.out (by decide))); have HB5 := Lib.hid (below_own HB4.out hg HG3.out HB4.out.size); clear hbox hg hz) | ((with_reducible refine gate_store (t := 28) (p := 4) rfl ?_); refine store_row rfl rfl rfl g4 _ 28 [.int .i64 (no), .slice A3 (es).length c3, .bool gone] rfl (.agg #[.int .i64 (no), .slice A3 (es).length c3, .bool gone]) ?haB ?hbB HX4_5.out rfl (by kernel_rfl) (three28 (no) A3 (es).length c3 gone) ?_; (case haB => rfl); (case hbB => first | rfl | simp [Value.cells]); intro w6 hbox hg hz; have HS6 := Lib.hid (St.first HB5.out HX3_5.out HX4_5.out HX6_5.out H0_5.out H1_5.out H3_5.out HN3_4.out HN3_6.out HN4_6.out HG3.out HG4.out HG6.out hbox hg); clear hbox hg hz; refine Hold.go ?_))
  clear HX3_1 HX3_2 HX4_2 HX3_3 HX4_3 HX6_3 HX3_4 HX4_4 HX6_4 HX3_5 HX4_5 HX6_5 H0_4 H1_4 H3_4 H0_5 H1_5 H3_5 HB1 HB2 HB3 HB4 HB5 HN3_4 HN3_6 HN4_6 HG3 HG4 HG6 HOWN
  obtain ⟨q30, q31, q40, q41, q42⟩ := HS6.out.cells
  refine Hold.of ?_
  go_wp2_with (first | (go_at_call 35; refine (slices_BinarySearch_string_string.calls ((es).length + 1) A3 c3 (es) s (loS s (es) : Int) (fndS s (es)) _ (Kd.R_reads' HS6.out.r3).2.2 (Kd.R_reads' HS6.out.r3).2.1 HBS.out).mono ?_; rintro e w7 ⟨rfl, hd⟩; have HS7 := Lib.hid (HS6.out.step hd.below); clear hd; refine Hold.go ?_))
  clear q30 q31 q40 q41 q42
  have HE := Lib.hid HS7.out.x6
  refine Hold.of ?_
  go_wp2_with (first | ((with_reducible refine gate_store (t := 26) (p := 6) rfl ?_); refine store_row rfl rfl rfl g6 _ 26 [.slice none 0 0, .slice none 0 0] rfl (.agg #[.slice none 0 0, .slice none 0 0]) ?haC ?hbC HE.out rfl (by kernel_rfl) (two26 none 0 0 none 0 0) ?_; (case haC => rfl); (case hbC => first | rfl | simp [Value.cells]); intro w8 hbox hg hz; have HX8 := Lib.hid hbox; have HB8 := Lib.hid (below_own HS7.out.below hg HS7.out.b6 HS7.out.below.size); clear hbox hg hz))
  refine bodyPost_ret (results_list (rs := [.cell 6 26, .tmp 7, .tmp 8]) rfl (by simp) (.cell g6 26 #[.slice none 0 0, .slice none 0 0] (0, 0) _ rfl HX8.out Try.underlying26 rfl (by kernel_rfl) (.tmp (.tmp .nil)))) rfl ?_
  exact ⟨_, _, _, rfl, Kd.R_nil _ _ _ _ _, Kd.R_nil _ _ _ _ _, Kd.N_nil _ _ _ _ _, HB8.out⟩
set_option maxHeartbeats 2000000 in
set_option maxRecDepth 100000 in
theorem rem_some (B0 : Option Addr) (d0 : Nat) (a : List ByteArray) (B1 : Option Addr) (d1 : Nat) (b : List Int) (no : Int) (B3 : Option Addr) (d3 : Nat) (es : List ByteArray) (gone : Bool) (s : ByteArray) (w : World) (H : PreL B0 d0 a B1 d1 b no B3 d3 es gone s w) (hk : okL a b no es gone s = true) (hf : fndS s es = true) (hlt : loS s es < es.length) (h4 : 0 < (cutS s es).length) :
    Calls Try.prog 18 #[.agg #[.slice B0 a.length d0, .slice B1 b.length d1], .agg #[.int .i64 no, .slice B3 es.length d3, .bool gone], .string s] w (InsPost w a b [⟨no, cutS s es, gone⟩] 0) := by
  have HR0 := Lib.hid H.r0
  have HC0 := Lib.hid H.c0
  have HR1 := Lib.hid H.r1
  have HC1 := Lib.hid H.c1
  have HR3 := Lib.hid H.r3
  have HC3 := Lib.hid H.c3
  have hla := H.la
  have hlb := H.lb
  have hle := H.le
  have hu26 := Try.underlying26
  have hu28 := Try.underlying28

  have HOWN := Lib.hid (show leaf_own.f (a.length + es.length + 10) a b no es gone s = some (a, b, no, es, gone, 0) by rw [own_spec a b no es gone s (by omega) (by omega) (by omega) (by omega), hk]; rfl)
  have HRI := Lib.hid ((leafB_iff.1 (okL_iff.1 hk).1).2.2)
  have hl4 := (leafB_iff.1 (okL_iff.1 hk).1).2.1
  have HBS := Lib.hid (show slices_BinarySearch_string_string.f (es.length + 1) es s = some ((loS s es : Int), fndS s es) from search_spec es s HRI.out (by omega) (by omega))
  clear H hk
  have H4 := Lib.hid h4
  clear h4
  go_enter Try.func18, Try.ntmps18
  go_wp2_with (first | ((with_reducible refine gate_dst (N := 3) rfl ?_); refine alloc_event ?hg (N := 3) ?hd (fun g => .pointer (some ⟨g, 0, none⟩)) (.cells #[.slice B0 a.length d0, .slice B1 b.length d1] 26 (0, 0)) ?hr ?_; (case hd => rfl); (case hg => rfl); (case hr => first | (go_simp; done) | (go_simp; rfl)); intro g3 hg w1 hbox hb; have HG3 := Lib.hid (show w.heap.size ≤ g3 by omega); have HX3_1 := Lib.hid hbox; have HB1 := Lib.hid (hb); clear hg hbox hb) | ((with_reducible refine gate_dst (N := 4) rfl ?_); refine alloc_event ?hg (N := 4) ?hd (fun g => .pointer (some ⟨g, 0, none⟩)) (.cells #[.int .i64 no, .slice B3 es.length d3, .bool gone] 28 (0, 0)) ?hr ?_; (case hd => rfl); (case hg => rfl); (case hr => first | (go_simp; done) | (go_simp; rfl)); intro g4 hg w2 hbox hb; have HG4 := Lib.hid (show w.heap.size ≤ g4 by rw [hg]; exact HB1.out.size); have HX4_2 := Lib.hid hbox; have HX3_2 := Lib.hid (blk_below HX3_1.out hb); have HN3_4 := Lib.hid (show g3 ≠ g4 by have := blk_lt HX3_1.out; omega); have HB2 := Lib.hid (below_then HB1.out HB1.out.size hb); clear hg hbox hb) | ((with_reducible refine gate_dst (N := 6) rfl ?_); refine alloc_event ?hg (N := 6) ?hd (fun g => .pointer (some ⟨g, 0, none⟩)) (.cells #[.slice none 0 0, .slice none 0 0] 26 (0, 0)) ?hr ?_; (case hd => rfl); (case hg => rfl); (case hr => first | (go_simp; done) | (go_simp; rfl)); intro g6 hg w3 hbox hb; have HG6 := Lib.hid (show w.heap.size ≤ g6 by rw [hg]; exact HB2.out.size); have HX6_3 := Lib.hid hbox; have HX3_3 := Lib.hid (blk_below HX3_2.out hb); have HN3_6 := Lib.hid (show g3 ≠ g6 by have := blk_lt HX3_2.out; omega); have HX4_3 := Lib.hid (blk_below HX4_2.out hb); have HN4_6 := Lib.hid (show g4 ≠ g6 by have := blk_lt HX4_2.out; omega); have HB3 := Lib.hid (below_then HB2.out HB2.out.size hb); clear hg hbox hb; have q30 : w3.cell? ⟨g3, 0, none⟩ = some (.slice B0 a.length d0) := (blk_cell HX3_3.out 0).trans rfl; have q31 : w3.cell? ⟨g3, 1, none⟩ = some (.slice B1 b.length d1) := (blk_cell HX3_3.out 1).trans rfl; have q40 : w3.cell? ⟨g4, 0, none⟩ = some (.int .i64 no) := (blk_cell HX4_3.out 0).trans rfl; have q41 : w3.cell? ⟨g4, 1, none⟩ = some (.slice B3 es.length d3) := (blk_cell HX4_3.out 1).trans rfl; have q42 : w3.cell? ⟨g4, 2, none⟩ = some (.bool gone) := (blk_cell HX4_3.out 2).trans rfl) | (go_at_call 34; refine (leaf_own.calls (a.length + es.length + 10) _ d0 a _ d1 b no _ d3 es gone s (a) (b) (no) (es) (gone) (0) _ (Kd.C_below HR0.out HB3.out) HC0.out (Kd.C_below HR1.out HB3.out) HC1.out (Kd.C_below HR3.out HB3.out) HC3.out HOWN.out).mono ?_; rintro e w4 ⟨v0, v1, v3, rfl, h0, h1, h3, hb⟩; obtain ⟨A0, c0, rfl⟩ := Kd.R_slice h0; obtain ⟨A1, c1, rfl⟩ := Kd.R_slice h1; obtain ⟨A3, c3, rfl⟩ := Kd.R_slice h3; have H0_4 := Lib.hid (Kd.R_lower h0 HB3.out.size); have H1_4 := Lib.hid (Kd.R_lower h1 HB3.out.size); have H3_4 := Lib.hid (Kd.R_lower h3 HB3.out.size); have HX3_4 := Lib.hid (blk_below HX3_3.out hb); have HX4_4 := Lib.hid (blk_below HX4_3.out hb); have HX6_4 := Lib.hid (blk_below HX6_3.out hb); have HB4 := Lib.hid (below_then HB3.out HB3.out.size hb); clear h0 h1 h3 hb q30 q31 q40 q41 q42) | ((with_reducible refine gate_store (t := 26) (p := 3) rfl ?_); refine store_row rfl rfl rfl g3 _ 26 [.slice A0 (a).length c0, .slice A1 (b).length c1] rfl (.agg #[.slice A0 (a).length c0, .slice A1 (b).length c1]) ?haA ?hbA HX3_4.out rfl (by kernel_rfl) (two26 A0 (a).length c0 A1 (b).length c1) ?_; (case haA => rfl); (case hbA => first | rfl | simp [Value.cells]); intro w5 hbox hg hz; have HX3_5 := Lib.hid hbox; have HX4_5 := Lib.hid (blk_grown HX4_4.out hg (fun e_ => HN3_4.out (by injection e_ with e_; exact e_.symm))); have HX6_5 := Lib.hid (blk_grown HX6_4.out hg (fun e_ => HN3_6.out (by injection e_ with e_; exact e_.symm))); have H0_5 := Lib.hid (Kd.R_grown1 H0_4.out rfl hg (Kd.R_ne H0_4.out HX3_4.out (by decide))); have H1_5 := Lib.hid (Kd.R_grown1 H1_4.out rfl hg (Kd.R_ne H1_4.out HX3_4.out (by decide))); have H3_5 := Lib.hid (Kd.R_grown1 H3_4.out rfl hg (Kd.R_ne H3_4.out HX3_4.out (by decide))); have HB5 := Lib.hid (below_own HB4.out hg HG3.out HB4.out.size); clear hbox hg hz) | ((with_reducible refine gate_store (t := 28) (p := 4) rfl ?_); refine store_row rfl rfl rfl g4 _ 28 [.int .i64 (no), .slice A3 (es).length c3, .bool gone] rfl (.agg #[.int .i64 (no), .slice A3 (es).length c3, .bool gone]) ?haB ?hbB HX4_5.out rfl (by kernel_rfl) (three28 (no) A3 (es).length c3 gone) ?_; (case haB => rfl); (case hbB => first | rfl | simp [Value.cells]); intro w6 hbox hg hz; have HS6 := Lib.hid (St.first HB5.out HX3_5.out HX4_5.out HX6_5.out H0_5.out H1_5.out H3_5.out HN3_4.out HN3_6.out HN4_6.out HG3.out HG4.out HG6.out hbox hg); clear hbox hg hz; refine Hold.go ?_))
  clear HX3_1 HX3_2 HX4_2 HX3_3 HX4_3 HX6_3 HX3_4 HX4_4 HX6_4 HX3_5 HX4_5 HX6_5 H0_4 H1_4 H3_4 H0_5 H1_5 H3_5 HB1 HB2 HB3 HB4 HB5 HN3_4 HN3_6 HN4_6 HG3 HG4 HG6 HOWN
  obtain ⟨q30, q31, q40, q41, q42⟩ := HS6.out.cells
  refine Hold.of ?_
  go_wp2_with (first | (go_at_call 35; refine (slices_BinarySearch_string_string.calls ((es).length + 1) A3 c3 (es) s (loS s (es) : Int) (fndS s (es)) _ (Kd.R_reads' HS6.out.r3).2.2 (Kd.R_reads' HS6.out.r3).2.1 HBS.out).mono ?_; rintro e w7 ⟨rfl, hd⟩; have HS7 := Lib.hid (HS6.out.step hd.below); clear hd; refine Hold.go ?_))
  clear q30 q31 q40 q41 q42
  obtain ⟨q30, q31, q40, q41, q42⟩ := HS7.out.cells
  refine Hold.of ?_
  go_wp2_with (first | (go_at_call 45; refine (delS_at (i := loS s es) HS7.out.r3 HS7.out.below hlt (by omega) (by omega)).mono ?_; rintro e w8 ⟨v8, rfl, hv, hb, hg, hn⟩; obtain ⟨A8, c8, rfl⟩ := Kd.R_slice hv; have HS8 := Lib.hid (St.grew3 HS7.out hv hb hg hn); clear hv hb hg hn q30 q31 q40 q41 q42) | ((with_reducible refine gate_store (t := 22) (p := 43) rfl ?_); refine store_cell rfl rfl rfl g4 1 _ 28 rfl (.slice A8 (cutAt (loS s es) es).length c8) ?haD ?hbD HS8.out.x4 (by simp) (by kernel_rfl) rfl ?_; (case haD => rfl); (case hbD => first | rfl | simp [Value.cells]); intro w10 hbox hg hz; have HS10 := Lib.hid (St.put3 HS8.out hbox hg); clear hbox hg hz; refine Hold.go ?_))
  have h4 := H4.out
  clear H4
  unfold cutS at h4
  show Hold _
  generalize hids : cutAt (loS s es) es = ids at *
  have HI := Lib.hid (show cutS s es = ids from hids)
  have hlb : decide ((0 : Int) < (ids.length : Int)) = true := decide_eq_true (by omega)
  have hlc : decide (0 < ids.length) = true := decide_eq_true h4
  clear HS6 HS7 HS8 HBS HRI hf hlt hids
  obtain ⟨q30, q31, q40, q41, q42⟩ := HS10.out.cells
  have q60 : w10.cell? ⟨g6, 0, none⟩ = some (.slice none 0 0) := (blk_cell HS10.out.x6 0).trans rfl
  have q61 : w10.cell? ⟨g6, 1, none⟩ = some (.slice none 0 0) := (blk_cell HS10.out.x6 1).trans rfl
  have f60 := blk_frozen HS10.out.x6 0
  have f61 := blk_frozen HS10.out.x6 1
  have b3 := blk_lt HS10.out.x3
  have b4 := blk_lt HS10.out.x4
  have b6 := blk_lt HS10.out.x6
  have n36 := HS10.out.n36
  have n46 := HS10.out.n46
  have n63 := n36.symm
  have n64 := n46.symm
  refine Hold.of ?_
  go_upto_region 9 with (fail)
  go_region
  all_goals go_wp2
  obtain ⟨hx, e0, e1, _, hb, _⟩ := HS10.out.out (.slice A0 a.length c0) (.slice A1 b.length c1) (.cells #[.int .i64 no, .slice A8 ids.length c8, .bool gone] 28 (0, 0))
  refine bodyPost_ret (results_list (rs := [.cell 6 26, .tmp 7, .tmp 8]) rfl (by simp) (.cell g6 26 #[.slice A0 a.length c0, .slice A1 b.length c1] (0, 0) _ rfl hx Try.underlying26 rfl (by kernel_rfl) (.tmp (.tmp .nil)))) rfl ?_
  rw [HI.out]
  exact ⟨_, _, _, rfl, e0, e1, St.fin1 HS10.out, hb⟩
set_option maxHeartbeats 2000000 in
set_option maxRecDepth 100000 in
theorem rem_last (B0 : Option Addr) (d0 : Nat) (a : List ByteArray) (B1 : Option Addr) (d1 : Nat) (b : List Int) (no : Int) (B3 : Option Addr) (d3 : Nat) (es : List ByteArray) (gone : Bool) (s : ByteArray) (w : World) (H : PreL B0 d0 a B1 d1 b no B3 d3 es gone s w) (hk : okL a b no es gone s = true) (hf : fndS s es = true) (hlt : loS s es < es.length) (h4 : (cutS s es).length = 0) (h5 : b.length = 1) :
    Calls Try.prog 18 #[.agg #[.slice B0 a.length d0, .slice B1 b.length d1], .agg #[.int .i64 no, .slice B3 es.length d3, .bool gone], .string s] w (InsPost w a b [⟨no, cutS s es, gone⟩] 0) := by
  have HR0 := Lib.hid H.r0
  have HC0 := Lib.hid H.c0
  have HR1 := Lib.hid H.r1
  have HC1 := Lib.hid H.c1
  have HR3 := Lib.hid H.r3
  have HC3 := Lib.hid H.c3
  have hla := H.la
  have hlb := H.lb
  have hle := H.le
  have hu26 := Try.underlying26
  have hu28 := Try.underlying28

  have HOWN := Lib.hid (show leaf_own.f (a.length + es.length + 10) a b no es gone s = some (a, b, no, es, gone, 0) by rw [own_spec a b no es gone s (by omega) (by omega) (by omega) (by omega), hk]; rfl)
  have HRI := Lib.hid ((leafB_iff.1 (okL_iff.1 hk).1).2.2)
  have hl4 := (leafB_iff.1 (okL_iff.1 hk).1).2.1
  have HBS := Lib.hid (show slices_BinarySearch_string_string.f (es.length + 1) es s = some ((loS s es : Int), fndS s es) from search_spec es s HRI.out (by omega) (by omega))
  clear H hk
  have H4 := Lib.hid h4
  clear h4
  have H5 := Lib.hid h5
  clear h5
  go_enter Try.func18, Try.ntmps18
  go_wp2_with (first | ((with_reducible refine gate_dst (N := 3) rfl ?_); refine alloc_event ?hg (N := 3) ?hd (fun g => .pointer (some ⟨g, 0, none⟩)) (.cells #[.slice B0 a.length d0, .slice B1 b.length d1] 26 (0, 0)) ?hr ?_; (case hd => rfl); (case hg => rfl); (case hr => first | (go_simp; done) | (go_simp; rfl)); intro g3 hg w1 hbox hb; have HG3 := Lib.hid (show w.heap.size ≤ g3 by omega); have HX3_1 := Lib.hid hbox; have HB1 := Lib.hid (hb); clear hg hbox hb) | ((with_reducible refine gate_dst (N := 4) rfl ?_); refine alloc_event ?hg (N := 4) ?hd (fun g => .pointer (some ⟨g, 0, none⟩)) (.cells #[.int .i64 no, .slice B3 es.length d3, .bool gone] 28 (0, 0)) ?hr ?_; (case hd => rfl); (case hg => rfl); (case hr => first | (go_simp; done) | (go_simp; rfl)); intro g4 hg w2 hbox hb; have HG4 := Lib.hid (show w.heap.size ≤ g4 by rw [hg]; exact HB1.out.size); have HX4_2 := Lib.hid hbox; have HX3_2 := Lib.hid (blk_below HX3_1.out hb); have HN3_4 := Lib.hid (show g3 ≠ g4 by have := blk_lt HX3_1.out; omega); have HB2 := Lib.hid (below_then HB1.out HB1.out.size hb); clear hg hbox hb) | ((with_reducible refine gate_dst (N := 6) rfl ?_); refine alloc_event ?hg (N := 6) ?hd (fun g => .pointer (some ⟨g, 0, none⟩)) (.cells #[.slice none 0 0, .slice none 0 0] 26 (0, 0)) ?hr ?_; (case hd => rfl); (case hg => rfl); (case hr => first | (go_simp; done) | (go_simp; rfl)); intro g6 hg w3 hbox hb; have HG6 := Lib.hid (show w.heap.size ≤ g6 by rw [hg]; exact HB2.out.size); have HX6_3 := Lib.hid hbox; have HX3_3 := Lib.hid (blk_below HX3_2.out hb); have HN3_6 := Lib.hid (show g3 ≠ g6 by have := blk_lt HX3_2.out; omega); have HX4_3 := Lib.hid (blk_below HX4_2.out hb); have HN4_6 := Lib.hid (show g4 ≠ g6 by have := blk_lt HX4_2.out; omega); have HB3 := Lib.hid (below_then HB2.out HB2.out.size hb); clear hg hbox hb; have q30 : w3.cell? ⟨g3, 0, none⟩ = some (.slice B0 a.length d0) := (blk_cell HX3_3.out 0).trans rfl; have q31 : w3.cell? ⟨g3, 1, none⟩ = some (.slice B1 b.length d1) := (blk_cell HX3_3.out 1).trans rfl; have q40 : w3.cell? ⟨g4, 0, none⟩ = some (.int .i64 no) := (blk_cell HX4_3.out 0).trans rfl; have q41 : w3.cell? ⟨g4, 1, none⟩ = some (.slice B3 es.length d3) := (blk_cell HX4_3.out 1).trans rfl; have q42 : w3.cell? ⟨g4, 2, none⟩ = some (.bool gone) := (blk_cell HX4_3.out 2).trans rfl) | (go_at_call 34; refine (leaf_own.calls (a.length + es.length + 10) _ d0 a _ d1 b no _ d3 es gone s (a) (b) (no) (es) (gone) (0) _ (Kd.C_below HR0.out HB3.out) HC0.out (Kd.C_below HR1.out HB3.out) HC1.out (Kd.C_below HR3.out HB3.out) HC3.out HOWN.out).mono ?_; rintro e w4 ⟨v0, v1, v3, rfl, h0, h1, h3, hb⟩; obtain ⟨A0, c0, rfl⟩ := Kd.R_slice h0; obtain ⟨A1, c1, rfl⟩ := Kd.R_slice h1; obtain ⟨A3, c3, rfl⟩ := Kd.R_slice h3; have H0_4 := Lib.hid (Kd.R_lower h0 HB3.out.size); have H1_4 := Lib.hid (Kd.R_lower h1 HB3.out.size); have H3_4 := Lib.hid (Kd.R_lower h3 HB3.out.size); have HX3_4 := Lib.hid (blk_below HX3_3.out hb); have HX4_4 := Lib.hid (blk_below HX4_3.out hb); have HX6_4 := Lib.hid (blk_below HX6_3.out hb); have HB4 := Lib.hid (below_then HB3.out HB3.out.size hb); clear h0 h1 h3 hb q30 q31 q40 q41 q42) | ((with_reducible refine gate_store (t := 26) (p := 3) rfl ?_); refine store_row rfl rfl rfl g3 _ 26 [.slice A0 (a).length c0, .slice A1 (b).length c1] rfl (.agg #[.slice A0 (a).length c0, .slice A1 (b).length c1]) ?haA ?hbA HX3_4.out rfl (by kernel_rfl) (two26 A0 (a).length c0 A1 (b).length c1) ?_; (case haA => rfl); (case hbA => first | rfl | simp [Value.cells]); intro w5 hbox hg hz; have HX3_5 := Lib.hid hbox; have HX4_5 := Lib.hid (blk_grown HX4_4.out hg (fun e_ => HN3_4.out (by injection e_ with e_; exact e_.symm))); have HX6_5 := Lib.hid (blk_grown HX6_4.out hg (fun e_ => HN3_6.out (by injection e_ with e_; exact e_.symm))); have H0_5 := Lib.hid (Kd.R_grown1 H0_4.out rfl hg (Kd.R_ne H0_4.out HX3_4.out (by decide))); have H1_5 := Lib.hid (Kd.R_grown1 H1_4.out rfl hg (Kd.R_ne H1_4.out HX3_4.out (by decide))); have H3_5 := Lib.hid (Kd.R_grown1 H3_4.out rfl hg (Kd.R_ne H3_4.out HX3_4.out (by decide))); have HB5 := Lib.hid (below_own HB4.out hg HG3.out HB4.out.size); clear hbox hg hz) | ((with_reducible refine gate_store (t := 28) (p := 4) rfl ?_); refine store_row rfl rfl rfl g4 _ 28 [.int .i64 (no), .slice A3 (es).length c3, .bool gone] rfl (.agg #[.int .i64 (no), .slice A3 (es).length c3, .bool gone]) ?haB ?hbB HX4_5.out rfl (by kernel_rfl) (three28 (no) A3 (es).length c3 gone) ?_; (case haB => rfl); (case hbB => first | rfl | simp [Value.cells]); intro w6 hbox hg hz; have HS6 := Lib.hid (St.first HB5.out HX3_5.out HX4_5.out HX6_5.out H0_5.out H1_5.out H3_5.out HN3_4.out HN3_6.out HN4_6.out HG3.out HG4.out HG6.out hbox hg); clear hbox hg hz; refine Hold.go ?_))
  clear HX3_1 HX3_2 HX4_2 HX3_3 HX4_3 HX6_3 HX3_4 HX4_4 HX6_4 HX3_5 HX4_5 HX6_5 H0_4 H1_4 H3_4 H0_5 H1_5 H3_5 HB1 HB2 HB3 HB4 HB5 HN3_4 HN3_6 HN4_6 HG3 HG4 HG6 HOWN
  obtain ⟨q30, q31, q40, q41, q42⟩ := HS6.out.cells
  refine Hold.of ?_
  go_wp2_with (first | (go_at_call 35; refine (slices_BinarySearch_string_string.calls ((es).length + 1) A3 c3 (es) s (loS s (es) : Int) (fndS s (es)) _ (Kd.R_reads' HS6.out.r3).2.2 (Kd.R_reads' HS6.out.r3).2.1 HBS.out).mono ?_; rintro e w7 ⟨rfl, hd⟩; have HS7 := Lib.hid (HS6.out.step hd.below); clear hd; refine Hold.go ?_))
  clear q30 q31 q40 q41 q42
  obtain ⟨q30, q31, q40, q41, q42⟩ := HS7.out.cells
  refine Hold.of ?_
  go_wp2_with (first | (go_at_call 45; refine (delS_at (i := loS s es) HS7.out.r3 HS7.out.below hlt (by omega) (by omega)).mono ?_; rintro e w8 ⟨v8, rfl, hv, hb, hg, hn⟩; obtain ⟨A8, c8, rfl⟩ := Kd.R_slice hv; have HS8 := Lib.hid (St.grew3 HS7.out hv hb hg hn); clear hv hb hg hn q30 q31 q40 q41 q42) | ((with_reducible refine gate_store (t := 22) (p := 43) rfl ?_); refine store_cell rfl rfl rfl g4 1 _ 28 rfl (.slice A8 (cutAt (loS s es) es).length c8) ?haD ?hbD HS8.out.x4 (by simp) (by kernel_rfl) rfl ?_; (case haD => rfl); (case hbD => first | rfl | simp [Value.cells]); intro w10 hbox hg hz; have HS10 := Lib.hid (St.put3 HS8.out hbox hg); clear hbox hg hz; refine Hold.go ?_))
  have h4 := H4.out
  clear H4
  unfold cutS at h4
  show Hold _
  generalize hids : cutAt (loS s es) es = ids at *
  have HI := Lib.hid (show cutS s es = ids from hids)
  have hlb : decide ((0 : Int) < (ids.length : Int)) = false := decide_eq_false (by omega)
  have hlc : decide (0 < ids.length) = false := decide_eq_false (by omega)
  have hld : ((b.length : Int) == 1) = true := beq_iff_eq.mpr (by have := H5.out; omega)
  clear h4
  clear HS6 HS7 HS8 HBS HRI hf hlt hids
  obtain ⟨q30, q31, q40, q41, q42⟩ := HS10.out.cells
  have q60 : w10.cell? ⟨g6, 0, none⟩ = some (.slice none 0 0) := (blk_cell HS10.out.x6 0).trans rfl
  have q61 : w10.cell? ⟨g6, 1, none⟩ = some (.slice none 0 0) := (blk_cell HS10.out.x6 1).trans rfl
  have f60 := blk_frozen HS10.out.x6 0
  have f61 := blk_frozen HS10.out.x6 1
  have b3 := blk_lt HS10.out.x3
  have b4 := blk_lt HS10.out.x4
  have b6 := blk_lt HS10.out.x6
  have n36 := HS10.out.n36
  have n46 := HS10.out.n46
  have n63 := n36.symm
  have n64 := n46.symm
  refine Hold.of ?_
  go_upto_region 9 with (fail)
  go_region
  all_goals go_wp2
  obtain ⟨hx, e0, e1, _, hb, _⟩ := HS10.out.out (.slice A0 a.length c0) (.slice A1 b.length c1) (.cells #[.int .i64 no, .slice A8 ids.length c8, .bool gone] 28 (0, 0))
  refine bodyPost_ret (results_list (rs := [.cell 6 26, .tmp 7, .tmp 8]) rfl (by simp) (.cell g6 26 #[.slice A0 a.length c0, .slice A1 b.length c1] (0, 0) _ rfl hx Try.underlying26 rfl (by kernel_rfl) (.tmp (.tmp .nil)))) rfl ?_
  rw [HI.out]
  exact ⟨_, _, _, rfl, e0, e1, St.fin1 HS10.out, hb⟩
attribute [local go_sem] max2_int min2_int max_two min_two
set_option maxHeartbeats 4000000 in
set_option maxRecDepth 100000 in
theorem rem_gone (B0 : Option Addr) (d0 : Nat) (a : List ByteArray) (B1 : Option Addr) (d1 : Nat) (b : List Int) (no : Int) (B3 : Option Addr) (d3 : Nat) (es : List ByteArray) (gone : Bool) (s : ByteArray) (w : World) (H : PreL B0 d0 a B1 d1 b no B3 d3 es gone s w) (hk : okL a b no es gone s = true) (hf : fndS s es = true) (hlt : loS s es < es.length) (h4 : (cutS s es).length = 0) (h5 : ¬ b.length = 1) :
    Calls Try.prog 18 #[.agg #[.slice B0 a.length d0, .slice B1 b.length d1], .agg #[.int .i64 no, .slice B3 es.length d3, .bool gone], .string s] w (InsPost w (cutAt (min (atS s a) (a.length - 1)) a) (cutAt (atS s a) b) [⟨no, [], true⟩] 0) := by
  have HR0 := Lib.hid H.r0
  have HC0 := Lib.hid H.c0
  have HR1 := Lib.hid H.r1
  have HC1 := Lib.hid H.c1
  have HR3 := Lib.hid H.r3
  have HC3 := Lib.hid H.c3
  have hla := H.la
  have hlb := H.lb
  have hle := H.le
  have hu26 := Try.underlying26
  have hu28 := Try.underlying28

  have HOWN := Lib.hid (show leaf_own.f (a.length + es.length + 10) a b no es gone s = some (a, b, no, es, gone, 0) by rw [own_spec a b no es gone s (by omega) (by omega) (by omega) (by omega), hk]; rfl)
  have HRI := Lib.hid ((leafB_iff.1 (okL_iff.1 hk).1).2.2)
  have hl4 := (leafB_iff.1 (okL_iff.1 hk).1).2.1
  have HBS := Lib.hid (show slices_BinarySearch_string_string.f (es.length + 1) es s = some ((loS s es : Int), fndS s es) from search_spec es s HRI.out (by omega) (by omega))
  have HRT := Lib.hid (okL_root hk)
  have HAT := Lib.hid (show leaf_at.f (a.length + 1) a b s = some (atS s a : Int) from at_spec a b s HRT.out.2.2 (by omega) (by omega))
  clear H hk
  have H4 := Lib.hid h4
  clear h4
  have H5 := Lib.hid h5
  clear h5
  go_enter Try.func18, Try.ntmps18
  go_wp2_with (first | ((with_reducible refine gate_dst (N := 3) rfl ?_); refine alloc_event ?hg (N := 3) ?hd (fun g => .pointer (some ⟨g, 0, none⟩)) (.cells #[.slice B0 a.length d0, .slice B1 b.length d1] 26 (0, 0)) ?hr ?_; (case hd => rfl); (case hg => rfl); (case hr => first | (go_simp; done) | (go_simp; rfl)); intro g3 hg w1 hbox hb; have HG3 := Lib.hid (show w.heap.size ≤ g3 by omega); have HX3_1 := Lib.hid hbox; have HB1 := Lib.hid (hb); clear hg hbox hb) | ((with_reducible refine gate_dst (N := 4) rfl ?_); refine alloc_event ?hg (N := 4) ?hd (fun g => .pointer (some ⟨g, 0, none⟩)) (.cells #[.int .i64 no, .slice B3 es.length d3, .bool gone] 28 (0, 0)) ?hr ?_; (case hd => rfl); (case hg => rfl); (case hr => first | (go_simp; done) | (go_simp; rfl)); intro g4 hg w2 hbox hb; have HG4 := Lib.hid (show w.heap.size ≤ g4 by rw [hg]; exact HB1.out.size); have HX4_2 := Lib.hid hbox; have HX3_2 := Lib.hid (blk_below HX3_1.out hb); have HN3_4 := Lib.hid (show g3 ≠ g4 by have := blk_lt HX3_1.out; omega); have HB2 := Lib.hid (below_then HB1.out HB1.out.size hb); clear hg hbox hb) | ((with_reducible refine gate_dst (N := 6) rfl ?_); refine alloc_event ?hg (N := 6) ?hd (fun g => .pointer (some ⟨g, 0, none⟩)) (.cells #[.slice none 0 0, .slice none 0 0] 26 (0, 0)) ?hr ?_; (case hd => rfl); (case hg => rfl); (case hr => first | (go_simp; done) | (go_simp; rfl)); intro g6 hg w3 hbox hb; have HG6 := Lib.hid (show w.heap.size ≤ g6 by rw [hg]; exact HB2.out.size); have HX6_3 := Lib.hid hbox; have HX3_3 := Lib.hid (blk_below HX3_2.out hb); have HN3_6 := Lib.hid (show g3 ≠ g6 by have := blk_lt HX3_2.out; omega); have HX4_3 := Lib.hid (blk_below HX4_2.out hb); have HN4_6 := Lib.hid (show g4 ≠ g6 by have := blk_lt HX4_2.out; omega); have HB3 := Lib.hid (below_then HB2.out HB2.out.size hb); clear hg hbox hb; have q30 : w3.cell? ⟨g3, 0, none⟩ = some (.slice B0 a.length d0) := (blk_cell HX3_3.out 0).trans rfl; have q31 : w3.cell? ⟨g3, 1, none⟩ = some (.slice B1 b.length d1) := (blk_cell HX3_3.out 1).trans rfl; have q40 : w3.cell? ⟨g4, 0, none⟩ = some (.int .i64 no) := (blk_cell HX4_3.out 0).trans rfl; have q41 : w3.cell? ⟨g4, 1, none⟩ = some (.slice B3 es.length d3) := (blk_cell HX4_3.out 1).trans rfl; have q42 : w3.cell? ⟨g4, 2, none⟩ = some (.bool gone) := (blk_cell HX4_3.out 2).trans rfl) | (go_at_call 34; refine (leaf_own.calls (a.length + es.length + 10) _ d0 a _ d1 b no _ d3 es gone s (a) (b) (no) (es) (gone) (0) _ (Kd.C_below HR0.out HB3.out) HC0.out (Kd.C_below HR1.out HB3.out) HC1.out (Kd.C_below HR3.out HB3.out) HC3.out HOWN.out).mono ?_; rintro e w4 ⟨v0, v1, v3, rfl, h0, h1, h3, hb⟩; obtain ⟨A0, c0, rfl⟩ := Kd.R_slice h0; obtain ⟨A1, c1, rfl⟩ := Kd.R_slice h1; obtain ⟨A3, c3, rfl⟩ := Kd.R_slice h3; have H0_4 := Lib.hid (Kd.R_lower h0 HB3.out.size); have H1_4 := Lib.hid (Kd.R_lower h1 HB3.out.size); have H3_4 := Lib.hid (Kd.R_lower h3 HB3.out.size); have HX3_4 := Lib.hid (blk_below HX3_3.out hb); have HX4_4 := Lib.hid (blk_below HX4_3.out hb); have HX6_4 := Lib.hid (blk_below HX6_3.out hb); have HB4 := Lib.hid (below_then HB3.out HB3.out.size hb); clear h0 h1 h3 hb q30 q31 q40 q41 q42) | ((with_reducible refine gate_store (t := 26) (p := 3) rfl ?_); refine store_row rfl rfl rfl g3 _ 26 [.slice A0 (a).length c0, .slice A1 (b).length c1] rfl (.agg #[.slice A0 (a).length c0, .slice A1 (b).length c1]) ?haA ?hbA HX3_4.out rfl (by kernel_rfl) (two26 A0 (a).length c0 A1 (b).length c1) ?_; (case haA => rfl); (case hbA => first | rfl | simp [Value.cells]); intro w5 hbox hg hz; have HX3_5 := Lib.hid hbox; have HX4_5 := Lib.hid (blk_grown HX4_4.out hg (fun e_ => HN3_4.out (by injection e_ with e_; exact e_.symm))); have HX6_5 := Lib.hid (blk_grown HX6_4.out hg (fun e_ => HN3_6.out (by injection e_ with e_; exact e_.symm))); have H0_5 := Lib.hid (Kd.R_grown1 H0_4.out rfl hg (Kd.R_ne H0_4.out HX3_4.out (by decide))); have H1_5 := Lib.hid (Kd.R_grown1 H1_4.out rfl hg (Kd.R_ne H1_4.out HX3_4.out (by decide))); have H3_5 := Lib.hid (Kd.R_grown1 H3_4.out rfl hg (Kd.R_ne H3_4.out HX3_4.out (by decide))); have HB5 := Lib.hid (below_own HB4.out hg HG3.out HB4.out.size); clear hbox hg hz) | ((with_reducible refine gate_store (t := 28) (p := 4) rfl ?_); refine store_row rfl rfl rfl g4 _ 28 [.int .i64 (no), .slice A3 (es).length c3, .bool gone] rfl (.agg #[.int .i64 (no), .slice A3 (es).length c3, .bool gone]) ?haB ?hbB HX4_5.out rfl (by kernel_rfl) (three28 (no) A3 (es).length c3 gone) ?_; (case haB => rfl); (case hbB => first | rfl | simp [Value.cells]); intro w6 hbox hg hz; have HS6 := Lib.hid (St.first HB5.out HX3_5.out HX4_5.out HX6_5.out H0_5.out H1_5.out H3_5.out HN3_4.out HN3_6.out HN4_6.out HG3.out HG4.out HG6.out hbox hg); clear hbox hg hz; refine Hold.go ?_))
  clear HX3_1 HX3_2 HX4_2 HX3_3 HX4_3 HX6_3 HX3_4 HX4_4 HX6_4 HX3_5 HX4_5 HX6_5 H0_4 H1_4 H3_4 H0_5 H1_5 H3_5 HB1 HB2 HB3 HB4 HB5 HN3_4 HN3_6 HN4_6 HG3 HG4 HG6 HOWN
  obtain ⟨q30, q31, q40, q41, q42⟩ := HS6.out.cells
  refine Hold.of ?_
  go_wp2_with (first | (go_at_call 35; refine (slices_BinarySearch_string_string.calls ((es).length + 1) A3 c3 (es) s (loS s (es) : Int) (fndS s (es)) _ (Kd.R_reads' HS6.out.r3).2.2 (Kd.R_reads' HS6.out.r3).2.1 HBS.out).mono ?_; rintro e w7 ⟨rfl, hd⟩; have HS7 := Lib.hid (HS6.out.step hd.below); clear hd; refine Hold.go ?_))
  clear q30 q31 q40 q41 q42
  obtain ⟨q30, q31, q40, q41, q42⟩ := HS7.out.cells
  refine Hold.of ?_
  go_wp2_with (first | (go_at_call 45; refine (delS_at (i := loS s es) HS7.out.r3 HS7.out.below hlt (by omega) (by omega)).mono ?_; rintro e w8 ⟨v8, rfl, hv, hb, hg, hn⟩; obtain ⟨A8, c8, rfl⟩ := Kd.R_slice hv; have HS8 := Lib.hid (St.grew3 HS7.out hv hb hg hn); clear hv hb hg hn q30 q31 q40 q41 q42) | ((with_reducible refine gate_store (t := 22) (p := 43) rfl ?_); refine store_cell rfl rfl rfl g4 1 _ 28 rfl (.slice A8 (cutAt (loS s es) es).length c8) ?haD ?hbD HS8.out.x4 (by simp) (by kernel_rfl) rfl ?_; (case haD => rfl); (case hbD => first | rfl | simp [Value.cells]); intro w10 hbox hg hz; have HS10 := Lib.hid (St.put3 HS8.out hbox hg); clear hbox hg hz; refine Hold.go ?_))
  have h4 := H4.out
  clear H4
  unfold cutS at h4
  show Hold _
  generalize hids : cutAt (loS s es) es = ids at *
  have HI := Lib.hid (show cutS s es = ids from hids)
  have hlb : decide ((0 : Int) < (ids.length : Int)) = false := decide_eq_false (by omega)
  have hlc : decide (0 < ids.length) = false := decide_eq_false (by omega)
  have hld : ((b.length : Int) == 1) = false := beq_eq_false_iff_ne.mpr (by have := H5.out; omega)
  have HKB := Lib.hid (show atS s a < b.length by have h1 := HRT.out.2.1; have h2 := atS_le s a; omega)
  have HKA := Lib.hid (show min (atS s a) (a.length - 1) < a.length by have h1 := HRT.out.2.1; have h2 := H5.out; omega)
  have hat1 := atS_le s a
  have hat2 : 1 ≤ a.length := by have h1 := HRT.out.2.1; have h2 := H5.out; omega
  clear h4 HS6 HS7 HS8 HBS HRI hf hlt hids HRT H5
  obtain ⟨q30, q31, q40, q41, q42⟩ := HS10.out.cells
  refine Hold.of ?_
  go_wp2_with (first | (go_at_call 38; refine (leaf_at.calls (a.length + 1) A0 c0 a A1 c1 b s (atS s a : Int) _ (Kd.R_reads' HS10.out.r0).2.2 (Kd.R_reads' HS10.out.r0).2.1 (Kd.R_reads' HS10.out.r1).2.2 (Kd.R_reads' HS10.out.r1).2.1 HAT.out).mono ?_; rintro e w11 ⟨rfl, hb⟩; have HS11 := Lib.hid (HS10.out.step hb); clear hb; clear q30 q31 q40 q41 q42; obtain ⟨q30, q31, q40, q41, q42⟩ := HS11.out.cells) | (go_at_call 46; refine (delI_at (i := atS s a) HS11.out.r1 HS11.out.below HKB.out (by omega) (by omega)).mono ?_; rintro e w12 ⟨v12, rfl, hv, hb, hg, hn⟩; obtain ⟨A12, c12, rfl⟩ := Kd.R_slice hv; have HS12 := Lib.hid (St.grew1 HS11.out hv hb hg); clear hv hb hg hn q30 q31 q40 q41 q42) | ((with_reducible refine gate_store (t := 24) (p := 66) rfl ?_); refine store_cell rfl rfl rfl g3 1 _ 26 rfl (.slice A12 (cutAt (atS s a) b).length c12) ?haE ?hbE HS12.out.x3 (by simp) (by kernel_rfl) rfl ?_; (case haE => rfl); (case hbE => first | rfl | simp [Value.cells]); intro w13 hbox hg hz; have HS13 := Lib.hid (St.put1 HS12.out hbox hg); clear hbox hg hz; obtain ⟨q30, q31, q40, q41, q42⟩ := HS13.out.cells) | (go_at_call 45; refine (delS_at (i := min (atS s a) (a.length - 1)) HS13.out.r0 HS13.out.below HKA.out (by omega) (by omega)).mono ?_; rintro e w14 ⟨v14, rfl, hv, hb, hg, hn⟩; obtain ⟨A14, c14, rfl⟩ := Kd.R_slice hv; have HS14 := Lib.hid (St.grew0 HS13.out hv hb hg hn); clear hv hb hg hn q30 q31 q40 q41 q42) | ((with_reducible refine gate_store (t := 22) (p := 79) rfl ?_); refine store_cell rfl rfl rfl g3 0 _ 26 rfl (.slice A14 (cutAt (min (atS s a) (a.length - 1)) a).length c14) ?haF ?hbF HS14.out.x3 (by simp) (by kernel_rfl) rfl ?_; (case haF => rfl); (case hbF => first | rfl | simp [Value.cells]); intro w15 hbox hg hz; have HS15 := Lib.hid (St.put0 HS14.out hbox hg); clear hbox hg hz; refine Hold.go ?_))
  all_goals (
    refine Hold.of ?_
    obtain ⟨q30, q31, q40, q41, q42⟩ := HS15.out.cells
    have q60 : w15.cell? ⟨g6, 0, none⟩ = some (.slice none 0 0) := (blk_cell HS15.out.x6 0).trans rfl
    have q61 : w15.cell? ⟨g6, 1, none⟩ = some (.slice none 0 0) := (blk_cell HS15.out.x6 1).trans rfl
    have f60 := blk_frozen HS15.out.x6 0
    have f61 := blk_frozen HS15.out.x6 1
    have b3 := blk_lt HS15.out.x3
    have b4 := blk_lt HS15.out.x4
    have b6 := blk_lt HS15.out.x6
    have n36 := HS15.out.n36
    have n46 := HS15.out.n46
    have n63 := n36.symm
    have n64 := n46.symm
    clear HS10 HS11 HS12 HS13 HS14
    go_upto_region 14 with (fail)
    go_region
    all_goals go_wp2
    obtain ⟨hx, e0, e1, _, hb, _⟩ := HS15.out.out (.slice A14 (cutAt (min (atS s a) (a.length - 1)) a).length c14) (.slice A12 (cutAt (atS s a) b).length c12) (.cells #[.int .i64 no, .slice none 0 0, .bool true] 28 (0, 0))
    refine bodyPost_ret (results_list (rs := [.cell 6 26, .tmp 7, .tmp 8]) rfl (by simp) (.cell g6 26 #[.slice A14 (cutAt (min (atS s a) (a.length - 1)) a).length c14, .slice A12 (cutAt (atS s a) b).length c12] (0, 0) _ rfl hx Try.underlying26 rfl (by kernel_rfl) (.tmp (.tmp .nil)))) rfl ?_
    exact ⟨_, _, _, rfl, e0, e1, St.fin0 HS15.out, hb⟩)
theorem fnd_lt {s : ByteArray} {es : List ByteArray} (h : fndS s es = true) : loS s es < es.length := by
  rcases Nat.lt_or_ge (loS s es) es.length with h1 | h1
  · exact h1
  · unfold fndS at h
    rw [List.drop_eq_nil_of_le h1] at h
    cases h
def leaf_Remove.f (a : List ByteArray) (b : List Int) (no : Int) (es : List ByteArray) (gone : Bool) (s : ByteArray) : Option (List ByteArray × List Int × List S28 × Int) :=
  if a.length ≤ 100000 ∧ b.length ≤ 100000 ∧ es.length ≤ 100000 then
    if okL a b no es gone s = false then some ([], [], [], 100)
    else if fndS s es = false then some ([], [], [], 101)
    else if 0 < (cutS s es).length then some (a, b, [⟨no, cutS s es, gone⟩], 0)
    else if b.length = 1 then some (a, b, [⟨no, cutS s es, gone⟩], 0)
    else some (cutAt (min (atS s a) (a.length - 1)) a, cutAt (atS s a) b, [⟨no, [], true⟩], 0)
  else none
theorem leaf_Remove.calls (A0_0 : Option Addr) (c0_0 : Nat) (l0_0 : List ByteArray) (A0_1 : Option Addr) (c0_1 : Nat) (l0_1 : List Int) (a1_0 : Int) (A1_1 : Option Addr) (c1_1 : Nat) (l1_1 : List ByteArray) (a1_2 : Bool) (a2 : ByteArray) (r1 : List ByteArray) (r2 : List Int) (r3 : List S28) (r4 : Int) (w : World) (hr0_0 : Kd.C Kd.string w A0_0 l0_0.length l0_0) (hc0_0 : l0_0.length ≤ c0_0) (hr0_1 : Kd.C (Kd.int .i64) w A0_1 l0_1.length l0_1) (hc0_1 : l0_1.length ≤ c0_1) (hr1_1 : Kd.C Kd.string w A1_1 l1_1.length l1_1) (hc1_1 : l1_1.length ≤ c1_1) (h : leaf_Remove.f l0_0 l0_1 a1_0 l1_1 a1_2 a2 = some (r1, r2, r3, r4)) :
    Calls Try.prog 18 #[.agg #[.slice A0_0 l0_0.length c0_0, .slice A0_1 l0_1.length c0_1], .agg #[.int .i64 a1_0, .slice A1_1 l1_1.length c1_1, .bool a1_2], .string a2] w fun e w' => ∃ v0_ v1_ v2_ : Value, e = .returned (.tuple #[.agg #[v0_, v1_], v2_, .int .i64 r4]) ∧ Kd.R Kd.string 9 w' w.heap.size (fun _ => True) v0_ r1 ∧ Kd.R (Kd.int .i64) 3 w' w.heap.size (fun _ => True) v1_ r2 ∧ Kd.N k28 28 w' w.heap.size (fun k_ => w.heap.size ≤ k_ ∧ some k_ ≠ v0_.ownBlock ∧ some k_ ≠ v1_.ownBlock) v2_ r3 ∧ Below w.heap.size w w' := by
  show Calls Try.prog 18 _ w (InsPost w r1 r2 r3 r4)
  unfold leaf_Remove.f at h
  split at h
  case isFalse => cases h
  rename_i hlim
  have HP : PreL A0_0 c0_0 l0_0 A0_1 c0_1 l0_1 a1_0 A1_1 c1_1 l1_1 a1_2 a2 w := ⟨hr0_0, hc0_0, hr0_1, hc0_1, hr1_1, hc1_1, hlim.1, hlim.2.1, hlim.2.2⟩
  split at h
  · rename_i h1
    cases h
    exact rem_wrong _ _ _ _ _ _ _ _ _ _ _ _ _ HP h1
  rename_i h1
  have h1' : okL l0_0 l0_1 a1_0 l1_1 a1_2 a2 = true := by simpa using h1
  split at h
  · rename_i h2
    cases h
    exact rem_none _ _ _ _ _ _ _ _ _ _ _ _ _ HP h1' h2
  rename_i h2
  have h2' : fndS a2 l1_1 = true := by simpa using h2
  have h3 := fnd_lt h2'
  split at h
  · rename_i h4
    cases h
    exact rem_some _ _ _ _ _ _ _ _ _ _ _ _ _ HP h1' h2' h3 h4
  rename_i h4
  split at h
  · rename_i h5
    cases h
    exact rem_last _ _ _ _ _ _ _ _ _ _ _ _ _ HP h1' h2' h3 (by omega) h5
  · rename_i h5
    cases h
    exact rem_gone _ _ _ _ _ _ _ _ _ _ _ _ _ HP h1' h2' h3 (by omega) h5
end Go.Proofs.Ytneagipmllgejaa.PL
end
section
set_option linter.unusedVariables false
set_option linter.unusedSimpArgs false
namespace Go.Proofs.Ytneagipmllgejaa.PL
open Go.RowKit Go.Proofs.YtneagipmllgejaaW.PrintWords Go.Proofs.YtneagipmllgejaaW.PrintLast Go.Proofs.YtneagipmllgejaaW.PrintMore Go.Proofs.YtneagipmllgejaaH
theorem ne_len {l : List ByteArray} (h : 0 < l.length) : l ≠ [] := fun e => by rw [e] at h; cases h
/-- An index after at most n entries: the root, and the table's leaf for each of its numbers. -/
structure Ind (P : ByteArray → Prop) (n : Nat) (a : List ByteArray) (b : List Int) (t : List (Int × S28)) : Prop where
  root : rootB a b = true
  len : b.length ≤ n + 1
  lf : ∀ i : Nat, i < b.length → ∃ c, lkp (rd b (i : Int)) t = some c ∧ c.f0 = rd b (i : Int) ∧ c.f2 = false ∧ c.f1.length ≤ 4 ∧ riseB c.f1 = true ∧ (∀ e ∈ c.f1, cntLe e a = i) ∧ (∀ e ∈ c.f1, P e) ∧ (1 < b.length → c.f1 ≠ [])
section
variable {P : ByteArray → Prop}
theorem Ind.more {n : Nat} {a : List ByteArray} {b : List Int} {t : List (Int × S28)} (h : Ind P n a b t) : Ind P (n + 1) a b t := ⟨h.root, by have := h.len; omega, h.lf⟩
theorem ind_start : Ind P 0 [] [1] [(1, ⟨1, [], false⟩)] := by
  refine ⟨by decide, by simp, fun i hi => ?_⟩
  · have : i = 0 := by simpa using hi
    subst this
    exact ⟨⟨1, [], false⟩, rfl, rfl, rfl, by simp, rfl, by simp, by simp, by simp⟩
theorem ind_small {n : Nat} {a : List ByteArray} {b : List Int} {t : List (Int × S28)} {s : ByteArray} {c : S28} {i : Nat} (h : Ind P n a b t) (hs : P s) (hi : i = atS s a) (hib : i < b.length)
    (hc0 : c.f0 = rd b (i : Int)) (hc2 : c.f2 = false) (hcr : riseB c.f1 = true) (hce : ∀ e ∈ c.f1, cntLe e a = i) (hcz : ∀ e ∈ c.f1, P e) (hf : fndS s c.f1 = false) (h4 : (insS s c.f1).length ≤ 4) :
    Ind P (n + 1) a b (layP t [⟨rd b (i : Int), insS s c.f1, c.f2⟩]) := by
  obtain ⟨hr1, hr2, hr3⟩ := rootB_iff.1 h.root
  have hnd := (seen_iff.1 hr1).1
  have hm : ∀ e ∈ insS s c.f1, cntLe e a = i ∧ P e := fun e he => by
    rcases mem_ins.1 he with rfl | he
    · exact ⟨by rw [cntLe_rise _ hr3]; exact hi.symm, hs⟩
    · exact ⟨hce e he, hcz e he⟩
  refine ⟨h.root, by have := h.len; omega, fun j hj => ?_⟩
  · show ∃ c', lkp (rd b (j : Int)) (putP (rd b (i : Int)) ⟨rd b (i : Int), insS s c.f1, c.f2⟩ t) = some c' ∧ _
    rw [lkp_putP]
    by_cases e : rd b (i : Int) = rd b (j : Int)
    · rw [if_pos e]
      obtain rfl := rd_inj hnd hib hj e
      exact ⟨_, rfl, rfl, hc2, h4, rise_insS hcr hf, fun e he => (hm e he).1, fun e he => (hm e he).2, fun _ => ne_len (by have := insS_len s c.f1; show 0 < (insS s c.f1).length; omega)⟩
    · rw [if_neg e]
      exact h.lf j hj
theorem ind_split {n : Nat} {a : List ByteArray} {b : List Int} {t : List (Int × S28)} {s : ByteArray} {c : S28} {i : Nat} {m : Int} (h : Ind P n a b t) (hs : P s) (hi : i = atS s a) (hib : i < b.length)
    (hc0 : c.f0 = rd b (i : Int)) (hc2 : c.f2 = false) (hcl : c.f1.length ≤ 4) (hcr : riseB c.f1 = true) (hce : ∀ e ∈ c.f1, cntLe e a = i) (hcz : ∀ e ∈ c.f1, P e) (hf : fndS s c.f1 = false) (h4 : ¬ (insS s c.f1).length ≤ 4) (hm1 : 1 ≤ m) (hm2 : m ∉ b) :
    Ind P (n + 1) (insAt i (rdOf ByteArray.empty (insS s c.f1) 3) a) (insAt (i + 1) m b) (layP t [⟨rd b (i : Int), (insS s c.f1).take 3, c.f2⟩, ⟨m, (insS s c.f1).drop 3, false⟩]) := by
  obtain ⟨hr1, hr2, hr3⟩ := rootB_iff.1 h.root
  obtain ⟨hnd, hpos⟩ := seen_iff.1 hr1
  have hm : ∀ e ∈ insS s c.f1, cntLe e a = i ∧ P e := fun e he => by
    rcases mem_ins.1 he with rfl | he
    · exact ⟨by rw [cntLe_rise _ hr3]; exact hi.symm, hs⟩
    · exact ⟨hce e he, hcz e he⟩
  have hil : (insS s c.f1).length = 5 := by have := insS_len s c.f1; omega
  have hri := rise_insS hcr hf
  generalize insS s c.f1 = ids at *
  have hxm : rdOf ByteArray.empty ids 3 ∈ ids := mem_str (i := 3) (by omega)
  have hzm : rdOf ByteArray.empty ids 0 ∈ ids := mem_str (i := 0) (by omega)
  have hzx : lessB (rdOf ByteArray.empty ids 0) (rdOf ByteArray.empty ids 3) = true := rise_rs hri (i := 0) (j := 3) (by omega) (by omega)
  have htk : ∀ e ∈ ids.take 3, lessB e (rdOf ByteArray.empty ids 3) = true := fun e he => by
    obtain ⟨j, h1, h2, rfl⟩ := mem_take_rs he
    exact rise_rs hri (j := 3) h1 (by omega)
  have hdr : ∀ e ∈ ids.drop 3, lessB e (rdOf ByteArray.empty ids 3) = false := fun e he => by
    obtain ⟨j, h1, h2, rfl⟩ := mem_drop_rs he
    rcases Nat.eq_or_lt_of_le h1 with h3 | h3
    · subst h3; exact less_irrefl _
    · exact less_asymm (rise_rs hri (i := 3) h3 h2)
  have hcx := (hm _ hxm).1
  have hcz2 := (hm _ hzm).1
  have hxz := (hm _ hxm).2
  generalize rdOf ByteArray.empty ids 3 = x at *
  generalize rdOf ByteArray.empty ids 0 = z at *
  have hia : i ≤ a.length := by rw [hi]; exact atS_le s a
  have hbl : (insAt (i + 1) m b).length = b.length + 1 := insAt_len (by omega)
  refine ⟨rootB_iff.2 ⟨seen_iff.2 ⟨nodup_ins hnd hm2, fun y hy => ⟨?_, by simp⟩⟩, ?_, ?_⟩, ?_, ?_⟩
  · rcases mem_ins.1 hy with rfl | hy
    · exact hm1
    · exact (hpos y hy).1
  · rw [hbl, insAt_len hia, hr2]
  · refine rise_ins hr3 (fun y hy => ?_) (fun y hy => ?_)
    · obtain ⟨j, h1, h2, rfl⟩ := mem_take_rs hy
      refine le_less (z := z) ?_ hzx
      cases h5 : lessB z (rdOf ByteArray.empty a (j : Int)) with
      | false => rfl
      | true => have := (at_iff hr3 h2).1 h5; rw [← cntLe_rise _ hr3] at this; omega
    · obtain ⟨j, h1, h2, rfl⟩ := mem_drop_rs hy
      exact (at_iff hr3 h2).2 (by rw [← cntLe_rise _ hr3]; omega)
  · rw [hbl]; have := h.len; omega
  · intro j hj
    rw [hbl] at hj
    rw [rd_ins (by omega)]
    show ∃ c', lkp _ (putP m ⟨m, ids.drop 3, false⟩ (putP (rd b (i : Int)) ⟨rd b (i : Int), ids.take 3, c.f2⟩ t)) = some c' ∧ _
    have old : ∀ j0 : Nat, j0 < b.length → j0 ≠ i → lkp (rd b (j0 : Int)) (putP m ⟨m, ids.drop 3, false⟩ (putP (rd b (i : Int)) ⟨rd b (i : Int), ids.take 3, c.f2⟩ t)) = lkp (rd b (j0 : Int)) t := fun j0 h0 h1 => by
      rw [lkp_putP, if_neg (fun e => hm2 (by rw [e]; exact mem_int h0)), lkp_putP, if_neg (fun e => h1 (rd_inj hnd hib h0 e).symm)]
    by_cases h1 : j < i + 1
    · rw [if_pos h1]
      by_cases h2 : j = i
      · subst h2
        rw [lkp_putP, if_neg (fun e => hm2 (by rw [e]; exact mem_int hib)), lkp_putP, if_pos rfl]
        refine ⟨_, rfl, rfl, hc2, by simp; omega, ?_, fun e he => ?_, fun e he => (hm e (List.mem_of_mem_take he)).2, fun _ => ne_len (by show 0 < (ids.take 3).length; simp; omega)⟩
        · exact riseB_pairwise.2 ((riseB_pairwise.1 hri).sublist (List.take_sublist _ _))
        · rw [cnt_ins, (hm e (List.mem_of_mem_take he)).1, htk e he]; rfl
      · rw [old j (by omega) h2]
        obtain ⟨d, g1, g2, g3, g4, g5, g6, g7, g9⟩ := h.lf j (by omega)
        refine ⟨d, g1, g2, g3, g4, g5, fun e he => ?_, g7, fun _ => g9 (by omega)⟩
        have g8 := g6 e he
        rw [cnt_ins, g8, less_of_cnt (a := a) (by omega)]
        rfl
    · rw [if_neg h1]
      by_cases h2 : j = i + 1
      · rw [if_pos h2]
        rw [lkp_putP, if_pos rfl]
        refine ⟨_, rfl, rfl, rfl, by simp; omega, ?_, fun e he => ?_, fun e he => (hm e (List.mem_of_mem_drop he)).2, fun _ => ne_len (by show 0 < (ids.drop 3).length; simp; omega)⟩
        · exact riseB_pairwise.2 ((riseB_pairwise.1 hri).sublist (List.drop_sublist _ _))
        · rw [cnt_ins, (hm e (List.mem_of_mem_drop he)).1, hdr e he]; simp; omega
      · rw [if_neg h2, old (j - 1) (by omega) (by omega)]
        obtain ⟨d, g1, g2, g3, g4, g5, g6, g7, g9⟩ := h.lf (j - 1) (by omega)
        refine ⟨d, g1, g2, g3, g4, g5, fun e he => ?_, g7, fun _ => g9 (by omega)⟩
        have g8 := g6 e he
        rw [cnt_ins, g8, not_less_of_cnt (a := a) (by omega)]
        simp
        omega
theorem ind_step (n : Nat) (a : List ByteArray) (b : List Int) (t : List (Int × S28)) (s : ByteArray) (hn : n < 1000) (hz : s.size ≤ 600) (hs : P s) (h : Ind P n a b t) :
    ∃ k no c r1 r2 r3 r4, leaf_Find.f k a b s = some no ∧ lkp no t = some c ∧ leaf_Insert.f a b c.f0 c.f1 c.f2 s = some (r1, r2, r3, r4) ∧ ((r4 = 31 ∧ Ind P (n + 1) a b t) ∨ (r4 = 0 ∧ Ind P (n + 1) r1 r2 (layP t r3))) := by
  obtain ⟨hr1, hr2, hr3⟩ := rootB_iff.1 h.root
  have hbl := h.len
  have hia := atS_le s a
  obtain ⟨c, g1, g2, g3, g4, g5, g6, g7, g9⟩ := h.lf (atS s a) (by omega)
  have hfd : findB a b s = rd b (atS s a : Int) := by unfold findB; rw [if_pos h.root]
  have hno : rd b (atS s a : Int) ≠ 0 := by
    have := ((seen_iff.1 hr1).2 _ (mem_int (show atS s a < b.length by omega))).1
    omega
  have hok : okL a b c.f0 c.f1 c.f2 s = true := okL_iff.2 ⟨leafB_iff.2 ⟨g3, g4, g5⟩, by rw [hfd, g2], by rw [g2]; exact hno⟩
  have hlim : a.length ≤ 100000 ∧ b.length ≤ 100000 ∧ c.f1.length ≤ 100000 := ⟨by omega, by omega, by omega⟩
  refine ⟨a.length + 1, rd b (atS s a : Int), c, ?_⟩
  have hF : leaf_Find.f (a.length + 1) a b s = some (rd b (atS s a : Int)) := by rw [find_spec a b s (by omega) (by omega) (by omega), hfd]
  by_cases hf : fndS s c.f1 = true
  · refine ⟨[], [], [], 31, hF, g1, ?_, .inl ⟨rfl, h.more⟩⟩
    unfold leaf_Insert.f
    rw [if_pos hlim, if_neg (by rw [hok]; simp), if_neg (by omega), if_pos hf]
  · have hf' : fndS s c.f1 = false := by simpa using hf
    by_cases h4 : (insS s c.f1).length ≤ 4
    · refine ⟨a, b, _, 0, hF, g1, ?_, .inr ⟨rfl, ind_small h hs rfl (by omega) g2 g3 g5 g6 g7 hf' h4⟩⟩
      unfold leaf_Insert.f
      rw [if_pos hlim, if_neg (by rw [hok]; simp), if_neg (by omega), if_neg hf, if_pos h4, g2]
    · obtain ⟨m, hm, hm1, hm2⟩ := fresh_some b
      refine ⟨_, _, _, 0, hF, g1, ?_, .inr ⟨rfl, ind_split h hs rfl (by omega) g2 g3 g4 g5 g6 g7 hf' h4 hm1 hm2⟩⟩
      unfold leaf_Insert.f
      rw [if_pos hlim, if_neg (by rw [hok]; simp), if_neg (by omega), if_neg hf, if_neg h4, hm, g2]
      rfl
theorem drop_lo {l : List ByteArray} {k : Nat} (h : k < l.length) : l.drop k = rdOf ByteArray.empty l (k : Int) :: l.drop (k + 1) := drop_str h
theorem fnd_at {s : ByteArray} {l : List ByteArray} (h : fndS s l = true) : rdOf ByteArray.empty l (loS s l : Int) = s := by
  have h1 := fnd_lt h
  unfold fndS at h
  rw [drop_lo h1] at h
  exact text_eq (of_decide_eq_true h)
theorem fnd_mem {s : ByteArray} {l : List ByteArray} (hr : riseB l = true) (h : s ∈ l) : fndS s l = true := by
  obtain ⟨j, hj, e⟩ := List.getElem_of_mem h
  have ej : rdOf ByteArray.empty l (j : Int) = s := by rw [← e]; simp [rdOf, List.getD_eq_getElem?_getD, List.getElem?_eq_getElem hj]
  have hlo : j = loS s l := AtP.eq ⟨by omega, fun m hm => by rw [← ej]; exact rise_rs hr hm hj, fun m h1 h2 => by
    rcases Nat.eq_or_lt_of_le h1 with h3 | h3
    · subst h3; rw [ej]; exact less_irrefl _
    · rw [← ej]; exact less_asymm (rise_rs hr h3 h2)⟩
  unfold fndS
  rw [← hlo, drop_lo hj, ej]
  exact decide_eq_true rfl
theorem cut_sub {α : Type} (k : Nat) (l : List α) : (cutAt k l).Sublist l := by
  unfold cutAt
  have h : (l.take k ++ l.drop (k + 1)).Sublist (l.take k ++ l.drop k) := (List.Sublist.refl _).append (by
    rw [← List.drop_drop]; exact List.drop_sublist _ _)
  rwa [List.take_append_drop] at h
theorem cut_mem {s : ByteArray} {l : List ByteArray} (hr : riseB l = true) (hf : fndS s l = true) {e : ByteArray} (he : e ∈ cutS s l) : e ∈ l ∧ e ≠ s := by
  have h1 := fnd_lt hf
  have h2 := fnd_at hf
  refine ⟨(cut_sub _ l).subset he, fun e2 => ?_⟩
  subst e2
  have hp : (l.take (loS e l) ++ e :: l.drop (loS e l + 1)).Pairwise (fun a b => lessB a b = true) := by
    have : l = l.take (loS e l) ++ e :: l.drop (loS e l + 1) := by
      conv => lhs; rw [← List.take_append_drop (loS e l) l, drop_lo h1, h2]
    rw [← this]
    exact riseB_pairwise.1 hr
  obtain ⟨a1, a2, a3⟩ := List.pairwise_append.1 hp
  rcases List.mem_append.1 he with h | h
  · have := a3 e h e (by simp); rw [less_irrefl] at this; cases this
  · have := (List.pairwise_cons.1 a2).1 e h; rw [less_irrefl] at this; cases this
theorem rd_cut {k : Nat} {l : List Int} (hk : k < l.length) (j : Nat) : rd (cutAt k l) (j : Int) = if j < k then rd l (j : Int) else rd l ((j + 1 : Nat) : Int) := by
  unfold cutAt
  simp only [rd, List.getD_eq_getElem?_getD, Int.toNat_natCast]
  by_cases h1 : j < k
  · rw [if_pos h1, List.getElem?_append_left (by simp; omega), List.getElem?_take, if_pos h1]
  · rw [if_neg h1, List.getElem?_append_right (by simp; omega), List.getElem?_drop]
    congr 2
    simp
    omega
theorem cnt_cut (e : ByteArray) {k : Nat} {a : List ByteArray} (hk : k < a.length) : cntLe e a = cntLe e (cutAt k a) + (if lessB e (rdOf ByteArray.empty a (k : Int)) = true then 0 else 1) := by
  have h : a = a.take k ++ rdOf ByteArray.empty a (k : Int) :: a.drop (k + 1) := by
    conv => lhs; rw [← List.take_append_drop k a, drop_lo hk]
  have h2 : cntLe e a = cntLe e (a.take k ++ rdOf ByteArray.empty a (k : Int) :: a.drop (k + 1)) := congrArg (cntLe e) h
  rw [h2]
  unfold cntLe cutAt
  rw [List.countP_append, List.countP_append, List.countP_cons]
  cases lessB e (rdOf ByteArray.empty a (k : Int)) <;> simp <;> omega
/-- Where a text is looked for and not found it is in no leaf. -/
theorem ind_absent {n : Nat} {a : List ByteArray} {b : List Int} {t : List (Int × S28)} {s : ByteArray} (h : Ind P n a b t) {c : S28} (hc : lkp (rd b (atS s a : Int)) t = some c) (hf : fndS s c.f1 = false) : Ind (fun e => P e ∧ e ≠ s) n a b t := by
  obtain ⟨hr1, hr2, hr3⟩ := rootB_iff.1 h.root
  refine ⟨h.root, h.len, fun j hj => ?_⟩
  obtain ⟨d, g1, g2, g3, g4, g5, g6, g7, g9⟩ := h.lf j hj
  refine ⟨d, g1, g2, g3, g4, g5, g6, fun e he => ⟨g7 e he, fun e2 => ?_⟩, g9⟩
  subst e2
  have hj2 := g6 e he
  rw [cntLe_rise _ hr3] at hj2
  subst hj2
  rw [hc] at g1
  cases g1
  rw [fnd_mem g5 he] at hf
  cases hf
theorem ind_keep {n : Nat} {a : List ByteArray} {b : List Int} {t : List (Int × S28)} {s : ByteArray} {c : S28} {i : Nat} (h : Ind P n a b t) (hi : i = atS s a) (hib : i < b.length) (hk : lkp (rd b (i : Int)) t = some c) (hf : fndS s c.f1 = true) (hn : 0 < (cutS s c.f1).length ∨ b.length = 1) :
    Ind (fun e => P e ∧ e ≠ s) n a b (putP (rd b (i : Int)) ⟨rd b (i : Int), cutS s c.f1, c.f2⟩ t) := by
  obtain ⟨hr1, hr2, hr3⟩ := rootB_iff.1 h.root
  have hnd := (seen_iff.1 hr1).1
  refine ⟨h.root, h.len, fun j hj => ?_⟩
  obtain ⟨d, g1, g2, g3, g4, g5, g6, g7, g9⟩ := h.lf j hj
  rw [lkp_putP]
  by_cases e : rd b (i : Int) = rd b (j : Int)
  · rw [if_pos e]
    obtain rfl := rd_inj hnd hib hj e
    rw [hk] at g1
    cases g1
    have hm := fun e he => cut_mem (e := e) g5 hf he
    refine ⟨_, rfl, rfl, g3, ?_, ?_, fun e he => g6 e (hm e he).1, fun e he => ⟨g7 e (hm e he).1, (hm e he).2⟩, fun hb => ?_⟩
    · have := (cut_sub (loS s c.f1) c.f1).length_le; show (cutS s c.f1).length ≤ 4; unfold cutS; omega
    · exact riseB_pairwise.2 ((riseB_pairwise.1 g5).sublist (cut_sub _ _))
    · rcases hn with hn | hn
      · exact ne_len hn
      · omega
  · rw [if_neg e]
    refine ⟨d, g1, g2, g3, g4, g5, g6, fun u hu => ⟨g7 u hu, fun e2 => e ?_⟩, g9⟩
    subst e2
    have := g6 u hu
    rw [cntLe_rise _ hr3] at this
    rw [hi, this]
theorem ind_gone {n : Nat} {a : List ByteArray} {b : List Int} {t : List (Int × S28)} {s : ByteArray} {i : Nat} {d0 : S28} (h : Ind P n a b t) (hi : i = atS s a) (hib : i < b.length) (h1 : ¬ b.length = 1) :
    Ind (fun e => P e ∧ e ≠ s) n (cutAt (min i (a.length - 1)) a) (cutAt i b) (putP (rd b (i : Int)) d0 t) := by
  obtain ⟨hr1, hr2, hr3⟩ := rootB_iff.1 h.root
  obtain ⟨hnd, hpos⟩ := seen_iff.1 hr1
  have hka : min i (a.length - 1) < a.length := by omega
  have la := cutAt_len hka
  have lb := cutAt_len hib
  have hlen := h.len
  refine ⟨rootB_iff.2 ⟨seen_iff.2 ⟨hnd.sublist (cut_sub _ _), fun x hx => ⟨(hpos x ((cut_sub _ _).subset hx)).1, by simp⟩⟩, by omega, riseB_pairwise.2 ((riseB_pairwise.1 hr3).sublist (cut_sub _ _))⟩, by omega, fun j hj => ?_⟩
  rw [rd_cut hib]
  have old : ∀ j0 : Nat, j0 < b.length → j0 ≠ i → lkp (rd b (j0 : Int)) (putP (rd b (i : Int)) d0 t) = lkp (rd b (j0 : Int)) t := fun j0 h0 h2 => by
    rw [lkp_putP, if_neg (fun e => h2 (rd_inj hnd hib h0 e).symm)]
  have key : ∀ j0 : Nat, j0 < b.length → j0 ≠ i → (∀ e : ByteArray, cntLe e a = j0 → cntLe e (cutAt (min i (a.length - 1)) a) = j) → ∃ c, lkp (rd b (j0 : Int)) (putP (rd b (i : Int)) d0 t) = some c ∧ c.f0 = rd b (j0 : Int) ∧ c.f2 = false ∧ c.f1.length ≤ 4 ∧ riseB c.f1 = true ∧ (∀ e ∈ c.f1, cntLe e (cutAt (min i (a.length - 1)) a) = j) ∧ (∀ e ∈ c.f1, P e ∧ e ≠ s) ∧ (1 < (cutAt i b).length → c.f1 ≠ []) := fun j0 h0 h2 h3 => by
    rw [old j0 h0 h2]
    obtain ⟨d, g1, g2, g3, g4, g5, g6, g7, g9⟩ := h.lf j0 h0
    refine ⟨d, g1, g2, g3, g4, g5, fun e he => h3 e (g6 e he), fun e he => ⟨g7 e he, fun e2 => h2 ?_⟩, fun _ => g9 (by omega)⟩
    subst e2
    have := g6 e he
    rw [cntLe_rise _ hr3] at this
    omega
  have hat : ∀ e : ByteArray, lessB e (rdOf ByteArray.empty a ((min i (a.length - 1) : Nat) : Int)) = true ↔ cntLe e a ≤ min i (a.length - 1) := fun e => by
    rw [at_iff hr3 hka, cntLe_rise _ hr3]
  by_cases h2 : j < i
  · rw [if_pos h2]
    refine key j (by omega) (by omega) (fun e he => ?_)
    have h3 := cnt_cut e hka
    rw [if_pos ((hat e).2 (by omega))] at h3
    omega
  · rw [if_neg h2]
    refine key (j + 1) (by omega) (by omega) (fun e he => ?_)
    have h3 := cnt_cut e hka
    rw [if_neg (fun h4 => by have := (hat e).1 h4; omega)] at h3
    omega
theorem ind_take (n : Nat) (a : List ByteArray) (b : List Int) (t : List (Int × S28)) (s : ByteArray) (hn : n < 1000) (h : Ind P n a b t) :
    ∃ k no c r1 r2 r3 r4, leaf_Find.f k a b s = some no ∧ lkp no t = some c ∧ leaf_Remove.f a b c.f0 c.f1 c.f2 s = some (r1, r2, r3, r4) ∧ ((r4 = 101 ∧ Ind (fun e => P e ∧ e ≠ s) n a b t) ∨ (r4 = 0 ∧ ∃ d, r3 = [d] ∧ Ind (fun e => P e ∧ e ≠ s) n r1 r2 (putP no d t))) := by
  obtain ⟨hr1, hr2, hr3⟩ := rootB_iff.1 h.root
  have hbl := h.len
  have hia := atS_le s a
  obtain ⟨c, g1, g2, g3, g4, g5, g6, g7, g9⟩ := h.lf (atS s a) (by omega)
  have hfd : findB a b s = rd b (atS s a : Int) := by unfold findB; rw [if_pos h.root]
  have hno : rd b (atS s a : Int) ≠ 0 := by
    have := ((seen_iff.1 hr1).2 _ (mem_int (show atS s a < b.length by omega))).1
    omega
  have hok : okL a b c.f0 c.f1 c.f2 s = true := okL_iff.2 ⟨leafB_iff.2 ⟨g3, g4, g5⟩, by rw [hfd, g2], by rw [g2]; exact hno⟩
  have hlim : a.length ≤ 100000 ∧ b.length ≤ 100000 ∧ c.f1.length ≤ 100000 := ⟨by omega, by omega, by omega⟩
  refine ⟨a.length + 1, rd b (atS s a : Int), c, ?_⟩
  have hF : leaf_Find.f (a.length + 1) a b s = some (rd b (atS s a : Int)) := by rw [find_spec a b s (by omega) (by omega) (by omega), hfd]
  by_cases hf : fndS s c.f1 = false
  · refine ⟨[], [], [], 101, hF, g1, ?_, .inl ⟨rfl, ind_absent h g1 hf⟩⟩
    unfold leaf_Remove.f
    rw [if_pos hlim, if_neg (by rw [hok]; simp), if_pos hf]
  · have hf' : fndS s c.f1 = true := by simpa using hf
    by_cases h4 : 0 < (cutS s c.f1).length
    · refine ⟨a, b, _, 0, hF, g1, ?_, .inr ⟨rfl, _, rfl, ind_keep h rfl (by omega) g1 hf' (.inl h4)⟩⟩
      unfold leaf_Remove.f
      rw [if_pos hlim, if_neg (by rw [hok]; simp), if_neg hf, if_pos h4, g2]
    · by_cases h5 : b.length = 1
      · refine ⟨a, b, _, 0, hF, g1, ?_, .inr ⟨rfl, _, rfl, ind_keep h rfl (by omega) g1 hf' (.inr h5)⟩⟩
        unfold leaf_Remove.f
        rw [if_pos hlim, if_neg (by rw [hok]; simp), if_neg hf, if_neg h4, if_pos h5, g2]
      · refine ⟨_, _, _, 0, hF, g1, ?_, .inr ⟨rfl, ⟨rd b (atS s a : Int), [], true⟩, rfl, ind_gone h rfl (by omega) h5⟩⟩
        unfold leaf_Remove.f
        rw [if_pos hlim, if_neg (by rw [hok]; simp), if_neg hf, if_neg h4, if_neg h5, g2]
/-- Nothing left: one leaf, empty. -/
theorem ind_end {n : Nat} {a : List ByteArray} {b : List Int} {t : List (Int × S28)} (h : Ind (fun _ => False) n a b t) : b.length = 1 ∧ a.length = 0 ∧ ∃ c, lkp (rd b 0) t = some c ∧ c.f1 = [] := by
  obtain ⟨hr1, hr2, hr3⟩ := rootB_iff.1 h.root
  obtain ⟨c, g1, g2, g3, g4, g5, g6, g7, g9⟩ := h.lf 0 (by omega)
  have hc : c.f1 = [] := List.eq_nil_iff_forall_not_mem.2 fun e he => g7 e he
  have hb : ¬ 1 < b.length := fun hb => g9 hb hc
  exact ⟨by omega, by omega, c, g1, hc⟩
theorem Ind.imp {P' : ByteArray → Prop} {n : Nat} {a : List ByteArray} {b : List Int} {t : List (Int × S28)} (h : Ind P n a b t) (hp : ∀ e, P e → P' e) : Ind P' n a b t :=
  ⟨h.root, h.len, fun i hi => by
    obtain ⟨d, g1, g2, g3, g4, g5, g6, g7, g9⟩ := h.lf i hi
    exact ⟨d, g1, g2, g3, g4, g5, g6, fun e he => hp e (g7 e he), g9⟩⟩
end
end Go.Proofs.Ytneagipmllgejaa.PL
end
section
set_option linter.unusedVariables false
set_option linter.unusedSimpArgs false
namespace Go.Proofs.Ytneagipmllgejaa.PL
open Go.RowKit Go.Proofs.YtneagipmllgejaaW.PrintWords Go.Proofs.YtneagipmllgejaaW.PrintLast Go.Proofs.YtneagipmllgejaaW.PrintMore Go.Proofs.YtneagipmllgejaaH
/-- What the plain law gives to the walk. -/
structure TurnPlain (es : List ByteArray) (Good Take : Nat → List ByteArray → List Int → List (Int × S28) → Prop) : Prop where
  start : Good 0 [] [1] [(1, ⟨1, [], false⟩)]
  step : ∀ n a b t s, n < 100 → s.size ≤ 100 → s ∈ es → Good n a b t → ∃ k no c r1 r2 r3 r4, leaf_Find.f k a b s = some no ∧ lkp no t = some c ∧ leaf_Insert.f a b c.f0 c.f1 c.f2 s = some (r1, r2, r3, r4) ∧ ((r4 = 31 ∧ Good (n + 1) a b t) ∨ (r4 = 0 ∧ Good (n + 1) r1 r2 (layP t r3)))
  turn : ∀ n a b t, n ≤ 100 → Good n a b t → Take 0 a b t
  take : ∀ i a b t, i < es.length → Take i a b t → ∃ k no c r1 r2 r3 r4, leaf_Find.f k a b (rdOf ByteArray.empty es (i : Int)) = some no ∧ lkp no t = some c ∧ leaf_Remove.f a b c.f0 c.f1 c.f2 (rdOf ByteArray.empty es (i : Int)) = some (r1, r2, r3, r4) ∧ ((r4 = 101 ∧ Take (i + 1) a b t) ∨ (r4 = 0 ∧ ∃ d, r3 = [d] ∧ Take (i + 1) r1 r2 (putP no d t)))
  fin : ∀ a b t, Take es.length a b t → b.length = 1 ∧ a.length = 0 ∧ ∃ c, lkp (rd b 0) t = some c ∧ c.f1 = []
theorem turns_plain (es : List ByteArray) : TurnPlain es (Ind fun e => e ∈ es) (fun i a b t => Ind (fun e => e ∈ es.drop i) 100 a b t) := by
  refine ⟨ind_start, fun n a b t s hn hz hs h => ind_step n a b t s (by omega) (by omega) hs h, fun n a b t hn h => ?_, fun i a b t hi h => ?_, fun a b t h => ?_⟩
  · exact ⟨h.root, by have := h.len; omega, by rw [List.drop_zero]; exact h.lf⟩
  · obtain ⟨k, no, c, r1, r2, r3, r4, h1, h2, h3, h4⟩ := ind_take 100 a b t (rdOf ByteArray.empty es (i : Int)) (by omega) h
    have hp : ∀ e, (e ∈ es.drop i ∧ e ≠ rdOf ByteArray.empty es (i : Int)) → e ∈ es.drop (i + 1) := fun e he => by
      have h5 := he.1
      rw [drop_str hi] at h5
      rcases List.mem_cons.1 h5 with h6 | h6
      · exact absurd h6 he.2
      · exact h6
    refine ⟨k, no, c, r1, r2, r3, r4, h1, h2, h3, ?_⟩
    rcases h4 with ⟨e, g⟩ | ⟨e, d, e2, g⟩
    · exact .inl ⟨e, g.imp hp⟩
    · exact .inr ⟨e, d, e2, g.imp hp⟩
  · exact ind_end (h.imp (fun e he => by rw [List.drop_length] at he; cases he))
theorem idx_ok (tu : Int) {i p n : Nat} (hi : i < n) (hp : p < 2) (hn : n ≤ 40) : ∃ j : Nat, j < n ∧ (wrap64 (wrap64 (↑i * (1 + ↑p)) + (wrap64 (tu.tmod ↑n + ↑n)).tmod ↑n)).tmod ↑n = (j : Int) := by
  have hn0 : (0 : Int) < (n : Int) := by omega
  have h1 : tu.tmod (n : Int) < n := Int.tmod_lt_of_pos _ hn0
  have h2 : (-tu).tmod (n : Int) < n := Int.tmod_lt_of_pos _ hn0
  rw [Int.neg_tmod] at h2
  have e1 : wrap64 (tu.tmod ↑n + ↑n) = tu.tmod ↑n + ↑n := w64 (by omega) (by omega)
  rw [e1]
  have h3 : 0 ≤ (tu.tmod ↑n + ↑n).tmod (n : Int) := Int.tmod_nonneg _ (by omega)
  have h4 : (tu.tmod ↑n + ↑n).tmod (n : Int) < n := Int.tmod_lt_of_pos _ hn0
  generalize (tu.tmod ↑n + ↑n).tmod (n : Int) = m at *
  have h5 : (0 : Int) ≤ (i : Int) * (1 + (p : Int)) ∧ (i : Int) * (1 + (p : Int)) ≤ 100 := by
    rcases (show p = 0 ∨ p = 1 by omega) with rfl | rfl
    · constructor <;> simp <;> omega
    · constructor <;> simp <;> omega
  generalize (i : Int) * (1 + (p : Int)) = q at *
  rw [w64 (x := q) (by omega) (by omega), w64 (x := q + m) (by omega) (by omega)]
  have h6 : 0 ≤ (q + m).tmod (n : Int) := Int.tmod_nonneg _ (by omega)
  have h7 : (q + m).tmod (n : Int) < n := Int.tmod_lt_of_pos _ hn0
  exact ⟨((q + m).tmod (n : Int)).toNat, by omega, by omega⟩
def turnT15 : Bool × List (List Nat × List Nat) := (true, [([], []), ([], []), ([], []), ([], []), ([2, 3], [2, 3]), ([1, 4], [1, 4]), ([], []), ([0, 5, 6, 4], [0, 5, 6]), ([7], [7]), ([8], [8]), ([8], [8]), ([8], [8]), ([], []), ([12, 9, 7, 0, 1, 2, 3, 4, 5, 6, 7, 8, 9, 12], [9, 12]), ([10, 13, 0, 1, 2, 3, 4, 5, 6, 7, 8, 9, 10, 12, 13], [10]), ([11, 14, 0, 1, 2, 3, 4, 5, 6, 7, 8, 9, 10, 11, 12, 13, 14], [11])])
def turnBits15 : List Nat := [0, 0, 0, 0, 12, 30, 0, 127, 255, 511, 511, 511, 0, 5119, 14335, 32767]
theorem turnTab15 : rtab .any (opsOf Try.f5 15) = turnT15 := by kernel_rfl
theorem turnWaits15 : waitsOk turnT15.2 turnBits15 = true := by kernel_rfl
def turnT23 : Bool × List (List Nat × List Nat) := (true, [([], []), ([], []), ([], []), ([1, 2], [1, 2]), ([3], [3]), ([4], [4]), ([], []), ([], []), ([6, 7], [6, 7]), ([8], [8]), ([0, 5, 9, 0, 1, 2, 3, 4, 5, 6, 7, 8, 9], [0, 5, 9])])
def turnBits23 : List Nat := [0, 0, 0, 6, 14, 30, 0, 0, 192, 448, 1023]
theorem turnTab23 : rtab .any (opsOf Try.f5 23) = turnT23 := by kernel_rfl
theorem turnWaits23 : waitsOk turnT23.2 turnBits23 = true := by kernel_rfl
def turnT27 : Bool × List (List Nat × List Nat) := (true, [([], []), ([], []), ([], []), ([1, 2], [1, 2]), ([3], [3]), ([0, 4], [0, 4]), ([5, 5, 0, 1, 2, 3, 4, 5], [5])])
def turnBits27 : List Nat := [0, 0, 0, 6, 14, 31, 63]
theorem turnTab27 : rtab .any (opsOf Try.f5 27) = turnT27 := by kernel_rfl
theorem turnWaits27 : waitsOk turnT27.2 turnBits27 = true := by kernel_rfl
def turnT28 : Bool × List (List Nat × List Nat) := (true, [([], []), ([], []), ([], []), ([1, 2], [1, 2]), ([], []), ([], []), ([4, 5], [4, 5]), ([6], [6]), ([0, 3, 7], [0, 3, 7]), ([8], [8]), ([9], [9]), ([9], [9]), ([9], [9]), ([], []), ([13, 10, 8, 0, 1, 2, 3, 4, 5, 6, 7, 8, 9, 10, 13], [10, 13]), ([11, 14, 0, 1, 2, 3, 4, 5, 6, 7, 8, 9, 10, 11, 13, 14], [11]), ([12, 15, 0, 1, 2, 3, 4, 5, 6, 7, 8, 9, 10, 11, 12, 13, 14, 15], [12])])
def turnBits28 : List Nat := [0, 0, 0, 6, 0, 0, 48, 112, 255, 511, 1023, 1023, 1023, 0, 10239, 28671, 65535]
theorem turnTab28 : rtab .any (opsOf Try.f5 28) = turnT28 := by kernel_rfl
theorem turnWaits28 : waitsOk turnT28.2 turnBits28 = true := by kernel_rfl
set_option maxHeartbeats 16000000 in
set_option maxRecDepth 100000 in
theorem turns_main (A : Option Addr) (c : Nat) (es : List ByteArray) (tu : Int) (w : World) (hr : Kd.C Kd.string w A es.length es) (hc : es.length ≤ c) (hl : es.length ≤ 40) (hz : 0 < es.length) (Good Take : Nat → List ByteArray → List Int → List (Int × S28) → Prop) (hG : TurnPlain es Good Take) :
    Calls Try.prog 5 #[.slice A es.length c, .int .i64 tu] w fun e w' => e = .returned (.bool true) ∧ Below w.heap.size w w' := by
  have HR := Lib.hid hr
  have HG := Lib.hid hG
  have hu26 := Try.underlying26
  have hu28 := Try.underlying28
  have hmm := @run_makeMap Try.prog
  have hfld := field28
  have hl1 : decide ((40 : Int) < (es.length : Int)) = false := decide_eq_false (by omega)
  have hl2 : decide (40 < es.length) = false := decide_eq_false (by omega)
  have hz1 : ((es.length : Int) == 0) = false := beq_eq_false_iff_ne.mpr (by omega)
  have hz2 : ((es.length : Int) != 0) = true := bne_iff_ne.mpr (by omega)
  have hz3 : (es.length == 0) = false := beq_eq_false_iff_ne.mpr (by omega)
  clear hr hG
  go_enter Try.func5, Try.ntmps5
  go_wp2_with (first | (go_at_call 9; refine (cobweblaw11_awake.calls 50 true _ (awake_true 50 (Nat.le_refl _))).mono ?_; rintro e w1 ⟨rfl, hb⟩; have HB1 := Lib.hid hb; clear hb) | (go_at_call 10; refine (leaf_Empty.calls [] [1] 1 [] false _ rfl).mono ?_; rintro e w2 ⟨v0, v1, v3, rfl, h0, h1, h3, hb⟩; obtain ⟨A0, c0, rfl⟩ := Kd.R_slice h0; obtain ⟨A1, c1, rfl⟩ := Kd.R_slice h1; obtain ⟨A3, c3, rfl⟩ := Kd.R_slice h3; have H0_2 := Lib.hid h0; have H1_2 := Lib.hid h1; have H3_2 := Lib.hid h3; have HB2 := Lib.hid (below_then HB1.out HB1.out.size hb); have HS1 := Lib.hid HB1.out.size; clear h0 h1 h3 hb) | ((with_reducible refine gate_dst (N := 5) rfl ?_); refine alloc_event ?hg (N := 5) ?hd (fun g => .pointer (some ⟨g, 0, none⟩)) (.cells #[.slice none 0 0, .slice none 0 0] 26 (0, 0)) ?hr ?_; (case hd => rfl); (case hg => rfl); (case hr => first | (go_simp; done) | (go_simp; rfl)); intro g7 hg w3 hbox hb; have HG7 := Lib.hid (show w.heap.size ≤ g7 by rw [hg]; exact HB2.out.size); have HE7 := Lib.hid (show w2.heap.size ≤ g7 by omega); have HX7_3 := Lib.hid hbox; have HB3 := Lib.hid (below_then HB2.out HB2.out.size hb); have HV3 := Lib.hid hb; clear hg hbox hb) | ((with_reducible refine gate_dst (N := 6) rfl ?_); refine alloc_event ?hg (N := 6) ?hd (fun g => .pointer (some ⟨g, 0, none⟩)) (.cells #[.int .i64 0, .slice none 0 0, .bool false] 28 (0, 0)) ?hr ?_; (case hd => rfl); (case hg => rfl); (case hr => first | (go_simp; done) | (go_simp; rfl)); intro g8 hg w4 hbox hb; have HG8 := Lib.hid (show w.heap.size ≤ g8 by rw [hg]; exact HB3.out.size); have HN78 := Lib.hid (show g7 ≠ g8 by have := blk_lt HX7_3.out; omega); have HX8_4 := Lib.hid hbox; have HX7_4 := Lib.hid (blk_below HX7_3.out hb); have HE8 := Lib.hid (show w2.heap.size ≤ g8 by rw [hg]; exact HV3.out.size); have HB4 := Lib.hid (below_then HB3.out HB3.out.size hb); have HV4 := Lib.hid (below_then HV3.out HV3.out.size hb); clear hg hbox hb) | ((with_reducible refine gate_store (t := 26) (p := 5) rfl ?_); refine store_row rfl rfl rfl g7 _ 26 [.slice A0 0 c0, .slice A1 1 c1] rfl (.agg #[.slice A0 0 c0, .slice A1 1 c1]) ?haA ?hbA HX7_4.out rfl (by kernel_rfl) (two26 A0 0 c0 A1 1 c1) ?_; (case haA => rfl); (case hbA => first | rfl | simp [Value.cells]); intro w5 hbox hg hz; have HX7_5 := Lib.hid hbox; have HX8_5 := Lib.hid (blk_grown HX8_4.out hg (fun e_ => HN78.out (Option.some.inj e_).symm)); have HB5 := Lib.hid (below_own HB4.out hg HG7.out HB4.out.size); have HV5 := Lib.hid (below_own HV4.out hg HE7.out HV4.out.size); clear hbox hg hz) | ((with_reducible refine gate_store (t := 28) (p := 6) rfl ?_); refine store_row rfl rfl rfl g8 _ 28 [.int .i64 1, .slice A3 0 c3, .bool false] rfl (.agg #[.int .i64 1, .slice A3 0 c3, .bool false]) ?haB ?hbB HX8_5.out rfl (by kernel_rfl) (one28 (.slice A3 0 c3) rfl 1 false) ?_; (case haB => rfl); (case hbB => first | rfl | simp [Value.cells]); intro w6 hbox hg hz; have HX8_6 := Lib.hid hbox; have HX7_6 := Lib.hid (blk_grown HX7_5.out hg (fun e_ => HN78.out (Option.some.inj e_))); have HB6 := Lib.hid (below_own HB5.out hg HG8.out HB5.out.size); have HV6 := Lib.hid (below_own HV5.out hg HE8.out HV5.out.size); clear hbox hg hz) | ((with_reducible refine gate_dst (N := 38) rfl ?_); refine alloc_event ?hg (N := 38) ?hd (fun g => .map (some g)) (.map #[] 0) ?hr ?_; (case hd => rfl); (case hg => rfl); (case hr => first | (go_simp; done) | (go_simp; rfl)); intro bm hg w7 hbox hb; have HGM := Lib.hid (show w.heap.size ≤ bm by rw [hg]; exact HB6.out.size); have HN7M := Lib.hid (show g7 ≠ bm by have := blk_lt HX7_6.out; omega); have HN8M := Lib.hid (show g8 ≠ bm by have := blk_lt HX8_6.out; omega); have HEM := Lib.hid (show w2.heap.size ≤ bm by rw [hg]; exact HV6.out.size); have HIM7 := Lib.hid (show IMap w7 bm [] from ⟨#[], 0, hbox, rfl⟩); have HX7_7 := Lib.hid (blk_below HX7_6.out hb); have HX8_7 := Lib.hid (blk_below HX8_6.out hb); have HB7 := Lib.hid (below_then HB6.out HB6.out.size hb); have HV7 := Lib.hid (below_then HV6.out HV6.out.size hb); clear hg hbox hb; have q80 : w7.cell? ⟨g8, 0, none⟩ = some (.int .i64 1) := (blk_cell HX8_7.out 0).trans rfl; have q81 : w7.cell? ⟨g8, 1, none⟩ = some (.slice A3 0 c3) := (blk_cell HX8_7.out 1).trans rfl; have q82 : w7.cell? ⟨g8, 2, none⟩ = some (.bool false) := (blk_cell HX8_7.out 2).trans rfl) | (refine wpList_insert_imap rfl _ _ _ 31 rfl 3 28 Try.underlying31 Try.underlying3 bm [] rfl HIM7.out 1 rfl (.agg #[.int .i64 1, .slice A3 0 c3, .bool false]) rfl ?_; intro w8 hm hg hz; have HIM8 := Lib.hid hm; have HX7_8 := Lib.hid (blk_grown HX7_7.out hg (fun e_ => HN7M.out (Option.some.inj e_))); have HB8 := Lib.hid (below_own HB7.out hg HGM.out HB7.out.size); have HV8 := Lib.hid (below_own HV7.out hg HEM.out HV7.out.size); clear hm hg hz q80 q81 q82; refine Hold.go ?_))
  have HS := Lib.hid (show Sp w w8 (fun k => k ≠ g7 ∧ k ≠ bm) g7 bm A0 c0 ([] : List ByteArray) A1 c1 ([1] : List Int) [((1 : Int), Value.agg #[.int .i64 1, .slice A3 0 c3, .bool false])] [((1 : Int), (⟨1, [], false⟩ : S28))] from by
    have hk : ∀ k, w1.heap.size ≤ k → k < w2.heap.size → k ≠ g7 ∧ k ≠ bm := fun k _ h => ⟨by have := HE7.out; omega, by have := HEM.out; omega⟩
    have e0 := freshS H0_2.out hk
    have e1 := freshN H1_2.out hk
    have e3 := freshS H3_2.out hk
    exact ⟨HX7_8.out, Kd.F_below e0.2 HV8.out, e0.1, Kd.F_below e1.2 HV8.out, e1.1, ⟨rfl, ⟨A3, c3, rfl, e3.1, Kd.F_below e3.2 HV8.out⟩, trivial⟩, HIM8.out, HB8.out, HG7.out, HGM.out, HN7M.out, fun k hk => hk.1, fun k hk => hk.2⟩)
  have H0 := Lib.hid HG.out.start
  clear HB1 HB2 HB3 HB4 HB5 HB6 HB7 HB8 HV3 HV4 HV5 HV6 HV7 HV8 HX7_3 HX7_4 HX7_5 HX7_6 HX7_7 HX7_8 HX8_4 HX8_5 HX8_6 HX8_7 H0_2 H1_2 H3_2 HIM7 HIM8 HE7 HE8 HEM HG7 HG8 HGM HN78 HN7M HN8M HS1
  generalize hvs : [((1 : Int), Value.agg #[.int .i64 1, .slice A3 0 c3, .bool false])] = vs0 at HS
  clear hvs
  refine Hold.of ?_
  go_wp2
  go_loopg [9] 2 (fun d v9 w' => ∃ (p n : Nat) (A0 : Option Addr) (c0 : Nat) (a : List ByteArray) (A1 : Option Addr) (c1 : Nat) (b : List Int) (vs : List (Int × Value)) (ps : List (Int × S28)), v9 = .int .i64 p ∧ p ≤ 2 ∧ Aside0 (d = 2 - p) ∧ Aside0 (n ≤ p * es.length ∧ Good n a b ps) ∧ Aside0 (Sp w w' (fun k => k ≠ g7 ∧ k ≠ bm) g7 bm A0 c0 a A1 c1 b vs ps))
  case atStart => exact ⟨0, 0, A0, c0, _, A1, c1, _, _, _, rfl, Nat.zero_le _, ⟨rfl⟩, ⟨Nat.zero_le _, H0.out⟩, ⟨HS.out⟩⟩
  case round =>
    clear HS H0
    obtain ⟨p, n, A0, c0, a, A1, c1, b, vs, ps, rfl, hp, HDp, HGo, HS⟩ := hrel
    by_cases hp2 : p < 2
    · go_wp2
      go_loopg [10] es.length (fun d v10 w' => ∃ (i n : Nat) (A0 : Option Addr) (c0 : Nat) (a : List ByteArray) (A1 : Option Addr) (c1 : Nat) (b : List Int) (vs : List (Int × Value)) (ps : List (Int × S28)), v10 = .int .i64 i ∧ i ≤ es.length ∧ Aside0 (d = es.length - i) ∧ Aside0 (n ≤ p * es.length + i ∧ Good n a b ps) ∧ Aside0 (Sp w w' (fun k => k ≠ g7 ∧ k ≠ bm) g7 bm A0 c0 a A1 c1 b vs ps))
      case atStart => exact ⟨0, n, A0, c0, _, A1, c1, _, _, _, rfl, Nat.zero_le _, ⟨rfl⟩, ⟨HGo.out⟩, ⟨HS.out⟩⟩
      case round =>
        clear HS HGo
        obtain ⟨i, n, A0, c0, a, A1, c1, b, vs, ps, rfl, hi, HD, HGo, HS⟩ := hrel
        by_cases hlt : i < es.length
        · obtain ⟨j, hj, ej⟩ := idx_ok tu hlt hp2 hl
          obtain ⟨ad, rfl, hse⟩ := Kd.at_string HR.out (j : Int) (by omega) (by omega)
          simp only [Int.toNat_natCast] at hse
          have hsm := mem_str (l := es) hj
          have HSE := Lib.hid hse
          have hse := (HS.out.below.cell (World.block_lt_of_cell? w _ hse)).trans hse
          generalize rdOf ByteArray.empty es (j : Int) = s at *
          have hj0 := eq_true (show (0 : Int) ≤ (j : Int) by omega)
          have hj1 := eq_true (show (j : Int) < (es.length : Int) by omega)
          by_cases hs : s.size ≤ 100
          · have hs1 : decide ((100 : Int) < (s.size : Int)) = false := decide_eq_false (by omega)
            have hs2 : decide (100 < s.size) = false := decide_eq_false (by omega)
            have HN := Lib.hid (show n ≤ p * es.length + i from HGo.out.1)
            have hn2 : n < 100 := by have h1 := HN.out; have h2 : p * es.length ≤ 1 * es.length := Nat.mul_le_mul_right _ (by omega); omega
            obtain ⟨k, no, lf, r1, r2, r3, r4, hfd, hk, hin, hr4⟩ := HG.out.step n a b ps s hn2 hs hsm HGo.out.2
            obtain ⟨v, hlk, A9, c9, rfl, hl9, hf9⟩ := HS.out.av.lkp_some hk
            have HFD := Lib.hid hfd
            have HK := Lib.hid hk
            have HIN := Lib.hid hin
            have HR4 := Lib.hid hr4
            have HLK := Lib.hid hlk
            have HL9 := Lib.hid hl9
            clear hfd hk hin hr4 hlk hl9 hf9 HG hn2 hsm HDp
            go_upto_region 15 with (fail)
            go_cut [12, 13, 14] (fun v11 v12 v13 wc => ∃ (g11 : Nat) (A0' : Option Addr) (c0' : Nat) (A1' : Option Addr) (c1' : Nat) (A2' : Option Addr) (c2' : Nat), v11 = .pointer (some ⟨g11, 0, none⟩) ∧ v12 = .slice A2' r3.length c2' ∧ v13 = .int .i64 r4 ∧ Aside0 (wc.heap[g11]? = some (.cells #[.slice A0' r1.length c0', .slice A1' r2.length c1'] 26 (0, 0))) ∧ Aside0 (Sp w wc (fun k => k ≠ g7 ∧ k ≠ bm) g7 bm A0 c0 a A1 c1 b vs ps) ∧ Aside0 (Rs wc (fun k => k ≠ g7 ∧ k ≠ bm) A0' c0' r1 A1' c1' r2 A2' c2' r3))
            case first =>
              clear hse
              refine start_ (n := 16) (S := (heldP g7 bm A0 c0 a.length A1 c1 b.length (ad.add j) s vs)) (ds := []) #[false, false, false, false, false, false, false, false, false, false, false, false, false, false, false, false] (by kernel_rfl) rfl rfl (heldS (HS.out.grow (below_drew1 (Below.refl _ _))) HSE.out) (fun hHeld => ?_); refine with_tabW turnTab15 turnWaits15 (fun HT_ HW_ => ?_)
              have n_ := Lib.hid (HS.out.grow (below_drew1 (Below.refl _ _))); clear HS; have HS := n_; clear n_
              generalize wr.drew = wa at HS hHeld ⊢
              refine take_ (i := 0) (N := some 73) (v := ?_) (a' := ?_) #[true, false, false, false, false, false, false, false, false, false, false, false, false, false, false, false] rfl rfl (take_ofW HT_.out HW_.out (by kernel_rfl)) (fun _ _ _ h => h) (Or.inl ⟨by rfl, ?_⟩) hHeld ?_ ?_
              rotate_left
              · rintro w' ⟨h0, h1, h2, h3⟩
                go_simp
                with_reducible rfl
              rotate_left
              · simp only [Act.put, List.setIfInBounds_toArray, List.set_cons_zero, List.set_cons_succ, i64_w, i32_w]
                rfl
              refine pure_ (i := 1) (N := some 74) (v := ?_) (a' := ?_) #[true, true, false, false, false, false, false, false, false, false, false, false, false, false, false, false] rfl rfl (any_of HT_.out (by kernel_rfl)) (fun _ _ _ h => h) (Or.inl ⟨by rfl, ?_⟩) ?_ ?_
              rotate_left
              · intro w'
                go_simp
                with_reducible rfl
              rotate_left
              · simp only [Act.put, List.setIfInBounds_toArray, List.set_cons_zero, List.set_cons_succ, i64_w, i32_w]
                rfl
              refine take_ (i := 2) (N := some 75) (v := ?_) (a' := ?_) #[true, true, true, false, false, false, false, false, false, false, false, false, false, false, false, false] rfl rfl (take_ofW HT_.out HW_.out (by kernel_rfl)) (fun _ _ _ h => h) (Or.inl ⟨by rfl, ?_⟩) hHeld ?_ ?_
              rotate_left
              · rintro w' ⟨h0, h1, h2, h3⟩
                go_simp
                with_reducible rfl
              rotate_left
              · simp only [Act.put, List.setIfInBounds_toArray, List.set_cons_zero, List.set_cons_succ, i64_w, i32_w]
                rfl
              refine pure_ (i := 3) (N := some 76) (v := ?_) (a' := ?_) #[true, true, true, true, false, false, false, false, false, false, false, false, false, false, false, false] rfl rfl (any_of HT_.out (by kernel_rfl)) (fun _ _ _ h => h) (Or.inl ⟨by rfl, ?_⟩) ?_ ?_
              rotate_left
              · intro w'
                go_simp
                with_reducible rfl
              rotate_left
              · simp only [Act.put, List.setIfInBounds_toArray, List.set_cons_zero, List.set_cons_succ, i64_w, i32_w]
                rfl
              refine pure_ (i := 6) (N := some 79) (v := ?_) (a' := ?_) #[true, true, true, true, false, false, true, false, false, false, false, false, false, false, false, false] rfl rfl (any_of HT_.out (by kernel_rfl)) (fun _ _ _ h => h) (Or.inl ⟨by rfl, ?_⟩) ?_ ?_
              rotate_left
              · intro w'
                go_simp
                with_reducible rfl
              rotate_left
              · simp only [Act.put, List.setIfInBounds_toArray, List.set_cons_zero, List.set_cons_succ, i64_w, i32_w]
                rfl
              refine two_ (i := 4) (j := 12) (Ni := (some 77)) (Nj := (some 12)) #[true, true, true, true, true, false, true, false, false, false, false, false, false, false, false, false] #[true, true, true, true, false, false, true, false, false, false, false, false, true, false, false, false] rfl rfl rfl rfl (two_of HT_.out (by kernel_rfl)) (by decide) (by decide) (fun K hK => ?_) (fun K hK => ?_)
              · refine goes_ Try.func12 (by kernel_rfl) rfl #[.agg #[.slice A0 a.length c0, .slice A1 b.length c1], .string s] (by rfl) rfl rfl (by (try simp only [List.map_toArray, List.map_cons, List.map_nil]); first | done | rfl) ?_
                with_reducible refine (leaf_Find.calls k _ _ a _ _ b s no _ (Kd.F_now HS.out.f0) HS.out.h0 (Kd.F_now HS.out.f1) HS.out.h1 HFD.out).mono ?_
                rintro e wb ⟨rfl, hb⟩
                refine ⟨_, rfl, ?_⟩
                have n_ := Lib.hid (HS.out.grow hb); clear HS; have HS := n_; clear n_
                clear hb
                refine hK.out _ _ (heldS HS.out HSE.out) (fun hHeld => ?_)
                clear hK K
                refine norm_ (a' := ?_) ?_ ?_
                rotate_left
                · show Act.put _ (some 77) _ = _
                  simp only [Act.put, List.setIfInBounds_toArray, List.set_cons_zero, List.set_cons_succ, i64_w, i32_w]
                  rfl
                refine take_ (i := 5) (N := (some 78)) (v := ?_) (a' := ?_) #[true, true, true, true, true, true, true, false, false, false, false, false, false, false, false, false] rfl rfl (take_ofW HT_.out HW_.out (by kernel_rfl)) (fun _ _ _ h => h) (Or.inl ⟨by rfl, ?_⟩) hHeld ?_ ?_
                rotate_left
                · rintro w' ⟨h0, h1, h2, h3⟩
                  have hlk := h3.run_lookup Try.underlying31 Try.underlying3 (zero28 w') no false
                  rw [HLK.out] at hlk
                  go_simp
                  with_reducible rfl
                rotate_left
                · simp only [Act.put, List.setIfInBounds_toArray, List.set_cons_zero, List.set_cons_succ, i64_w, i32_w]
                  rfl
                refine two_ (i := 7) (j := 12) (Ni := (some 80)) (Nj := (some 12)) #[true, true, true, true, true, true, true, true, false, false, false, false, false, false, false, false] #[true, true, true, true, true, true, true, false, false, false, false, false, true, false, false, false] rfl rfl rfl rfl (two_of HT_.out (by kernel_rfl)) (by decide) (by decide) (fun K hK => ?_) (fun K hK => ?_)
                · refine goes_ Try.func11 (by kernel_rfl) rfl #[.agg #[.slice A0 a.length c0, .slice A1 b.length c1], .agg #[.int .i64 lf.f0, .slice A9 lf.f1.length c9, .bool lf.f2], .string s] (by rfl) rfl rfl (by (try simp only [List.map_toArray, List.map_cons, List.map_nil]); first | done | rfl) ?_
                  with_reducible refine (leaf_Insert.calls _ c0 a _ c1 b lf.f0 _ c9 lf.f1 lf.f2 s r1 r2 r3 r4 _ (Kd.F_now HS.out.f0) HS.out.h0 (Kd.F_now HS.out.f1) HS.out.h1 (leaf_now HS.out.av HK.out HLK.out) HL9.out HIN.out).mono ?_
                  rintro e wb ⟨v0', v1', v2', rfl, hq0, hq1, hq2, hb⟩
                  refine ⟨_, rfl, ?_⟩
                  obtain ⟨A0', c0', rfl⟩ := Kd.R_slice hq0; obtain ⟨A1', c1', rfl⟩ := Kd.R_slice hq1; obtain ⟨A2', c2', rfl⟩ := Kd.N_slice hq2
                  have HQ := Lib.hid (Rs.fresh (ok' := fun k => k ≠ g7 ∧ k ≠ bm) hq0 hq1 hq2 (fun k hk => hk.1) (fun k hk => ⟨by have := HS.out.lt7; omega, by have := HS.out.ltm; omega⟩))
                  have n_ := Lib.hid (HS.out.grow hb); clear HS; have HS := n_; clear n_
                  clear hq0 hq1 hq2 hb
                  refine hK.out _ _ (heldS HS.out HSE.out) (fun hHeld => ?_)
                  clear hK K
                  refine norm_ (a' := ?_) ?_ ?_
                  rotate_left
                  · show Act.put _ (some 80) _ = _
                    simp only [Act.put, List.setIfInBounds_toArray, List.set_cons_zero, List.set_cons_succ, i64_w, i32_w]
                    rfl
                  refine pure_ (i := 8) (N := some 72) (v := ?_) (a' := ?_) #[true, true, true, true, true, true, true, true, true, false, false, false, false, false, false, false] rfl rfl (any_of HT_.out (by kernel_rfl)) (fun _ _ _ h => h) (Or.inl ⟨by rfl, ?_⟩) ?_ ?_
                  rotate_left
                  · intro w'
                    go_simp
                    with_reducible rfl
                  rotate_left
                  · simp only [Act.put, List.setIfInBounds_toArray, List.set_cons_zero, List.set_cons_succ, i64_w, i32_w]
                    rfl
                  refine pure_ (i := 9) (N := some 81) (v := ?_) (a' := ?_) #[true, true, true, true, true, true, true, true, true, true, false, false, false, false, false, false] rfl rfl (any_of HT_.out (by kernel_rfl)) (fun _ _ _ h => h) (Or.inl ⟨by rfl, ?_⟩) ?_ ?_
                  rotate_left
                  · intro w'
                    go_simp
                    with_reducible rfl
                  rotate_left
                  · simp only [Act.put, List.setIfInBounds_toArray, List.set_cons_zero, List.set_cons_succ, i64_w, i32_w]
                    rfl
                  refine pure_ (i := 10) (N := some 82) (v := ?_) (a' := ?_) #[true, true, true, true, true, true, true, true, true, true, true, false, false, false, false, false] rfl rfl (any_of HT_.out (by kernel_rfl)) (fun _ _ _ h => h) (Or.inl ⟨by rfl, ?_⟩) ?_ ?_
                  rotate_left
                  · intro w'
                    go_simp
                    with_reducible rfl
                  rotate_left
                  · simp only [Act.put, List.setIfInBounds_toArray, List.set_cons_zero, List.set_cons_succ, i64_w, i32_w]
                    rfl
                  refine pure_ (i := 11) (N := some 83) (v := ?_) (a' := ?_) #[true, true, true, true, true, true, true, true, true, true, true, true, false, false, false, false] rfl rfl (any_of HT_.out (by kernel_rfl)) (fun _ _ _ h => h) (Or.inl ⟨by rfl, ?_⟩) ?_ ?_
                  rotate_left
                  · intro w'
                    go_simp
                    with_reducible rfl
                  rotate_left
                  · simp only [Act.put, List.setIfInBounds_toArray, List.set_cons_zero, List.set_cons_succ, i64_w, i32_w]
                    rfl
                  refine one_ (i := 12) (N := (some 12)) #[true, true, true, true, true, true, true, true, true, true, true, true, true, false, false, false] rfl rfl (one_of HT_.out (by kernel_rfl)) (by decide) (fun K hK => ?_)
                  refine alloc_step (by rfl) (fun g => .pointer (some ⟨g, 0, none⟩)) (.cells #[.slice none 0 0, .slice none 0 0] 26 (0, 0)) ?hr ?_
                  (case hr => first | (go_simp; done) | (go_simp; rfl))
                  intro g11 hg wn hbox hb
                  have HQA := Lib.hid (Sp.alloc HS.out hg hb); obtain ⟨hs_, ha_, hb_, hc_⟩ := HQA.out; clear HQA HS; have HS := Lib.hid hs_; have HA1 := Lib.hid ha_; have HA2 := Lib.hid hb_; have HA3 := Lib.hid hc_; have HX := Lib.hid hbox; clear hs_ ha_ hb_ hc_
                  have n_ := Lib.hid (HQ.out.alloc hg hb); clear HQ; have HQ := n_; clear n_
                  clear hg hbox hb
                  refine hK.out _ _ (heldS HS.out HSE.out) (fun hHeld => ?_)
                  clear hK K
                  refine norm_ (a' := ?_) ?_ ?_
                  rotate_left
                  · show Act.put _ (some 12) _ = _
                    simp only [Act.put, List.setIfInBounds_toArray, List.set_cons_zero, List.set_cons_succ, i64_w, i32_w]
                    rfl
                  refine one_ (i := 13) (N := none) #[true, true, true, true, true, true, true, true, true, true, true, true, true, true, false, false] rfl rfl (one_of HT_.out (by kernel_rfl)) (by decide) (fun K hK => ?_)
                  refine store_step (by rfl) rfl rfl g11 _ 26 [.slice A0' r1.length c0', .slice A1' r2.length c1'] rfl (.agg #[.slice A0' r1.length c0', .slice A1' r2.length c1']) ?haS ?hbS HX.out rfl (by kernel_rfl) (two26 A0' r1.length c0' A1' r2.length c1') ?_
                  (case haS => rfl)
                  (case hbS => first | rfl | simp [Value.cells])
                  intro wn hbox hg hz
                  have n_ := Lib.hid (HS.out.far hg (fun k hk => hk.2) HA1.out HA2.out HA3.out); clear HS; have HS := n_; clear n_
                  have n_ := Lib.hid (HQ.out.far hg (fun k hk => hk.2)); clear HQ; have HQ := n_; clear n_
                  have n_ := Lib.hid hbox; clear HX; have HX := n_; clear n_ hbox hg hz
                  refine hK.out _ _ (heldS HS.out HSE.out) (fun hHeld => ?_)
                  clear hK K
                  refine pure_ (i := 14) (N := some 13) (v := ?_) (a' := ?_) #[true, true, true, true, true, true, true, true, true, true, true, true, true, true, true, false] rfl rfl (any_of HT_.out (by kernel_rfl)) (fun _ _ _ h => h) (Or.inl ⟨by rfl, ?_⟩) ?_ ?_
                  rotate_left
                  · intro w'
                    go_simp
                    with_reducible rfl
                  rotate_left
                  · simp only [Act.put, List.setIfInBounds_toArray, List.set_cons_zero, List.set_cons_succ, i64_w, i32_w]
                    rfl
                  refine pure_ (i := 15) (N := some 14) (v := ?_) (a' := ?_) #[true, true, true, true, true, true, true, true, true, true, true, true, true, true, true, true] rfl rfl (any_of HT_.out (by kernel_rfl)) (fun _ _ _ h => h) (Or.inl ⟨by rfl, ?_⟩) ?_ ?_
                  rotate_left
                  · intro w'
                    go_simp
                    with_reducible rfl
                  rotate_left
                  · simp only [Act.put, List.setIfInBounds_toArray, List.set_cons_zero, List.set_cons_succ, i64_w, i32_w]
                    rfl
                  refine done_ (done_of HT_.out (by kernel_rfl)) ?_
                  try go_wp2
                  go_meet
                  exact ⟨g11, A0', c0', A1', c1', A2', c2', rfl, rfl, rfl, ⟨HX.out⟩, ⟨HS.out.weak (fun k hk => hk.1) (fun k hk => hk.1) (fun k hk => hk.2)⟩, ⟨HQ.out.mono (fun k hk => hk.1)⟩⟩
                · refine alloc_step (by rfl) (fun g => .pointer (some ⟨g, 0, none⟩)) (.cells #[.slice none 0 0, .slice none 0 0] 26 (0, 0)) ?hr ?_
                  (case hr => first | (go_simp; done) | (go_simp; rfl))
                  intro g11 hg wn hbox hb
                  have HQA := Lib.hid (Sp.alloc HS.out hg hb); obtain ⟨hs_, ha_, hb_, hc_⟩ := HQA.out; clear HQA HS; have HS := Lib.hid hs_; have HA1 := Lib.hid ha_; have HA2 := Lib.hid hb_; have HA3 := Lib.hid hc_; have HX := Lib.hid hbox; clear hs_ ha_ hb_ hc_
                  clear hg hbox hb
                  refine hK.out _ _ (heldS HS.out HSE.out) (fun hHeld => ?_)
                  clear hK K
                  refine norm_ (a' := ?_) ?_ ?_
                  rotate_left
                  · show Act.put _ (some 12) _ = _
                    simp only [Act.put, List.setIfInBounds_toArray, List.set_cons_zero, List.set_cons_succ, i64_w, i32_w]
                    rfl
                  refine one_ (i := 7) (N := (some 80)) #[true, true, true, true, true, true, true, true, false, false, false, false, true, false, false, false] rfl rfl (one_of HT_.out (by kernel_rfl)) (by decide) (fun K hK => ?_)
                  refine goes_ Try.func11 (by kernel_rfl) rfl #[.agg #[.slice A0 a.length c0, .slice A1 b.length c1], .agg #[.int .i64 lf.f0, .slice A9 lf.f1.length c9, .bool lf.f2], .string s] (by rfl) rfl rfl (by (try simp only [List.map_toArray, List.map_cons, List.map_nil]); first | done | rfl) ?_
                  with_reducible refine (leaf_Insert.calls _ c0 a _ c1 b lf.f0 _ c9 lf.f1 lf.f2 s r1 r2 r3 r4 _ (Kd.F_now HS.out.f0) HS.out.h0 (Kd.F_now HS.out.f1) HS.out.h1 (leaf_now HS.out.av HK.out HLK.out) HL9.out HIN.out).mono ?_
                  rintro e wb ⟨v0', v1', v2', rfl, hq0, hq1, hq2, hb⟩
                  refine ⟨_, rfl, ?_⟩
                  obtain ⟨A0', c0', rfl⟩ := Kd.R_slice hq0; obtain ⟨A1', c1', rfl⟩ := Kd.R_slice hq1; obtain ⟨A2', c2', rfl⟩ := Kd.N_slice hq2
                  have HQ := Lib.hid (Rs.fresh (ok' := fun k => (k ≠ g7 ∧ k ≠ bm) ∧ k ≠ g11) hq0 hq1 hq2 (fun k hk => hk.1) (fun k hk => ⟨⟨by have := HS.out.lt7; omega, by have := HS.out.ltm; omega⟩, by have := blk_lt HX.out; omega⟩))
                  have n_ := Lib.hid (HS.out.grow hb); clear HS; have HS := n_; clear n_
                  have n_ := Lib.hid (blk_below HX.out hb); clear HX; have HX := n_; clear n_
                  clear hq0 hq1 hq2 hb
                  refine hK.out _ _ (heldS HS.out HSE.out) (fun hHeld => ?_)
                  clear hK K
                  refine norm_ (a' := ?_) ?_ ?_
                  rotate_left
                  · show Act.put _ (some 80) _ = _
                    simp only [Act.put, List.setIfInBounds_toArray, List.set_cons_zero, List.set_cons_succ, i64_w, i32_w]
                    rfl
                  refine pure_ (i := 8) (N := some 72) (v := ?_) (a' := ?_) #[true, true, true, true, true, true, true, true, true, false, false, false, true, false, false, false] rfl rfl (any_of HT_.out (by kernel_rfl)) (fun _ _ _ h => h) (Or.inl ⟨by rfl, ?_⟩) ?_ ?_
                  rotate_left
                  · intro w'
                    go_simp
                    with_reducible rfl
                  rotate_left
                  · simp only [Act.put, List.setIfInBounds_toArray, List.set_cons_zero, List.set_cons_succ, i64_w, i32_w]
                    rfl
                  refine pure_ (i := 9) (N := some 81) (v := ?_) (a' := ?_) #[true, true, true, true, true, true, true, true, true, true, false, false, true, false, false, false] rfl rfl (any_of HT_.out (by kernel_rfl)) (fun _ _ _ h => h) (Or.inl ⟨by rfl, ?_⟩) ?_ ?_
                  rotate_left
                  · intro w'
                    go_simp
                    with_reducible rfl
                  rotate_left
                  · simp only [Act.put, List.setIfInBounds_toArray, List.set_cons_zero, List.set_cons_succ, i64_w, i32_w]
                    rfl
                  refine pure_ (i := 10) (N := some 82) (v := ?_) (a' := ?_) #[true, true, true, true, true, true, true, true, true, true, true, false, true, false, false, false] rfl rfl (any_of HT_.out (by kernel_rfl)) (fun _ _ _ h => h) (Or.inl ⟨by rfl, ?_⟩) ?_ ?_
                  rotate_left
                  · intro w'
                    go_simp
                    with_reducible rfl
                  rotate_left
                  · simp only [Act.put, List.setIfInBounds_toArray, List.set_cons_zero, List.set_cons_succ, i64_w, i32_w]
                    rfl
                  refine pure_ (i := 11) (N := some 83) (v := ?_) (a' := ?_) #[true, true, true, true, true, true, true, true, true, true, true, true, true, false, false, false] rfl rfl (any_of HT_.out (by kernel_rfl)) (fun _ _ _ h => h) (Or.inl ⟨by rfl, ?_⟩) ?_ ?_
                  rotate_left
                  · intro w'
                    go_simp
                    with_reducible rfl
                  rotate_left
                  · simp only [Act.put, List.setIfInBounds_toArray, List.set_cons_zero, List.set_cons_succ, i64_w, i32_w]
                    rfl
                  refine one_ (i := 13) (N := none) #[true, true, true, true, true, true, true, true, true, true, true, true, true, true, false, false] rfl rfl (one_of HT_.out (by kernel_rfl)) (by decide) (fun K hK => ?_)
                  refine store_step (by rfl) rfl rfl g11 _ 26 [.slice A0' r1.length c0', .slice A1' r2.length c1'] rfl (.agg #[.slice A0' r1.length c0', .slice A1' r2.length c1']) ?haS ?hbS HX.out rfl (by kernel_rfl) (two26 A0' r1.length c0' A1' r2.length c1') ?_
                  (case haS => rfl)
                  (case hbS => first | rfl | simp [Value.cells])
                  intro wn hbox hg hz
                  have n_ := Lib.hid (HS.out.far hg (fun k hk => hk.2) HA1.out HA2.out HA3.out); clear HS; have HS := n_; clear n_
                  have n_ := Lib.hid (HQ.out.far hg (fun k hk => hk.2)); clear HQ; have HQ := n_; clear n_
                  have n_ := Lib.hid hbox; clear HX; have HX := n_; clear n_ hbox hg hz
                  refine hK.out _ _ (heldS HS.out HSE.out) (fun hHeld => ?_)
                  clear hK K
                  refine pure_ (i := 14) (N := some 13) (v := ?_) (a' := ?_) #[true, true, true, true, true, true, true, true, true, true, true, true, true, true, true, false] rfl rfl (any_of HT_.out (by kernel_rfl)) (fun _ _ _ h => h) (Or.inl ⟨by rfl, ?_⟩) ?_ ?_
                  rotate_left
                  · intro w'
                    go_simp
                    with_reducible rfl
                  rotate_left
                  · simp only [Act.put, List.setIfInBounds_toArray, List.set_cons_zero, List.set_cons_succ, i64_w, i32_w]
                    rfl
                  refine pure_ (i := 15) (N := some 14) (v := ?_) (a' := ?_) #[true, true, true, true, true, true, true, true, true, true, true, true, true, true, true, true] rfl rfl (any_of HT_.out (by kernel_rfl)) (fun _ _ _ h => h) (Or.inl ⟨by rfl, ?_⟩) ?_ ?_
                  rotate_left
                  · intro w'
                    go_simp
                    with_reducible rfl
                  rotate_left
                  · simp only [Act.put, List.setIfInBounds_toArray, List.set_cons_zero, List.set_cons_succ, i64_w, i32_w]
                    rfl
                  refine done_ (done_of HT_.out (by kernel_rfl)) ?_
                  try go_wp2
                  go_meet
                  exact ⟨g11, A0', c0', A1', c1', A2', c2', rfl, rfl, rfl, ⟨HX.out⟩, ⟨HS.out.weak (fun k hk => hk.1) (fun k hk => hk.1) (fun k hk => hk.2)⟩, ⟨HQ.out.mono (fun k hk => hk.1)⟩⟩
              · refine alloc_step (by rfl) (fun g => .pointer (some ⟨g, 0, none⟩)) (.cells #[.slice none 0 0, .slice none 0 0] 26 (0, 0)) ?hr ?_
                (case hr => first | (go_simp; done) | (go_simp; rfl))
                intro g11 hg wn hbox hb
                have HQA := Lib.hid (Sp.alloc HS.out hg hb); obtain ⟨hs_, ha_, hb_, hc_⟩ := HQA.out; clear HQA HS; have HS := Lib.hid hs_; have HA1 := Lib.hid ha_; have HA2 := Lib.hid hb_; have HA3 := Lib.hid hc_; have HX := Lib.hid hbox; clear hs_ ha_ hb_ hc_
                clear hg hbox hb
                refine hK.out _ _ (heldS HS.out HSE.out) (fun hHeld => ?_)
                clear hK K
                refine norm_ (a' := ?_) ?_ ?_
                rotate_left
                · show Act.put _ (some 12) _ = _
                  simp only [Act.put, List.setIfInBounds_toArray, List.set_cons_zero, List.set_cons_succ, i64_w, i32_w]
                  rfl
                refine one_ (i := 4) (N := (some 77)) #[true, true, true, true, true, false, true, false, false, false, false, false, true, false, false, false] rfl rfl (one_of HT_.out (by kernel_rfl)) (by decide) (fun K hK => ?_)
                refine goes_ Try.func12 (by kernel_rfl) rfl #[.agg #[.slice A0 a.length c0, .slice A1 b.length c1], .string s] (by rfl) rfl rfl (by (try simp only [List.map_toArray, List.map_cons, List.map_nil]); first | done | rfl) ?_
                with_reducible refine (leaf_Find.calls k _ _ a _ _ b s no _ (Kd.F_now HS.out.f0) HS.out.h0 (Kd.F_now HS.out.f1) HS.out.h1 HFD.out).mono ?_
                rintro e wb ⟨rfl, hb⟩
                refine ⟨_, rfl, ?_⟩
                have n_ := Lib.hid (HS.out.grow hb); clear HS; have HS := n_; clear n_
                have n_ := Lib.hid (blk_below HX.out hb); clear HX; have HX := n_; clear n_
                clear hb
                refine hK.out _ _ (heldS HS.out HSE.out) (fun hHeld => ?_)
                clear hK K
                refine norm_ (a' := ?_) ?_ ?_
                rotate_left
                · show Act.put _ (some 77) _ = _
                  simp only [Act.put, List.setIfInBounds_toArray, List.set_cons_zero, List.set_cons_succ, i64_w, i32_w]
                  rfl
                refine take_ (i := 5) (N := (some 78)) (v := ?_) (a' := ?_) #[true, true, true, true, true, true, true, false, false, false, false, false, true, false, false, false] rfl rfl (take_ofW HT_.out HW_.out (by kernel_rfl)) (fun _ _ _ h => h) (Or.inl ⟨by rfl, ?_⟩) hHeld ?_ ?_
                rotate_left
                · rintro w' ⟨h0, h1, h2, h3⟩
                  have hlk := h3.run_lookup Try.underlying31 Try.underlying3 (zero28 w') no false
                  rw [HLK.out] at hlk
                  go_simp
                  with_reducible rfl
                rotate_left
                · simp only [Act.put, List.setIfInBounds_toArray, List.set_cons_zero, List.set_cons_succ, i64_w, i32_w]
                  rfl
                refine one_ (i := 7) (N := (some 80)) #[true, true, true, true, true, true, true, true, false, false, false, false, true, false, false, false] rfl rfl (one_of HT_.out (by kernel_rfl)) (by decide) (fun K hK => ?_)
                refine goes_ Try.func11 (by kernel_rfl) rfl #[.agg #[.slice A0 a.length c0, .slice A1 b.length c1], .agg #[.int .i64 lf.f0, .slice A9 lf.f1.length c9, .bool lf.f2], .string s] (by rfl) rfl rfl (by (try simp only [List.map_toArray, List.map_cons, List.map_nil]); first | done | rfl) ?_
                with_reducible refine (leaf_Insert.calls _ c0 a _ c1 b lf.f0 _ c9 lf.f1 lf.f2 s r1 r2 r3 r4 _ (Kd.F_now HS.out.f0) HS.out.h0 (Kd.F_now HS.out.f1) HS.out.h1 (leaf_now HS.out.av HK.out HLK.out) HL9.out HIN.out).mono ?_
                rintro e wb ⟨v0', v1', v2', rfl, hq0, hq1, hq2, hb⟩
                refine ⟨_, rfl, ?_⟩
                obtain ⟨A0', c0', rfl⟩ := Kd.R_slice hq0; obtain ⟨A1', c1', rfl⟩ := Kd.R_slice hq1; obtain ⟨A2', c2', rfl⟩ := Kd.N_slice hq2
                have HQ := Lib.hid (Rs.fresh (ok' := fun k => (k ≠ g7 ∧ k ≠ bm) ∧ k ≠ g11) hq0 hq1 hq2 (fun k hk => hk.1) (fun k hk => ⟨⟨by have := HS.out.lt7; omega, by have := HS.out.ltm; omega⟩, by have := blk_lt HX.out; omega⟩))
                have n_ := Lib.hid (HS.out.grow hb); clear HS; have HS := n_; clear n_
                have n_ := Lib.hid (blk_below HX.out hb); clear HX; have HX := n_; clear n_
                clear hq0 hq1 hq2 hb
                refine hK.out _ _ (heldS HS.out HSE.out) (fun hHeld => ?_)
                clear hK K
                refine norm_ (a' := ?_) ?_ ?_
                rotate_left
                · show Act.put _ (some 80) _ = _
                  simp only [Act.put, List.setIfInBounds_toArray, List.set_cons_zero, List.set_cons_succ, i64_w, i32_w]
                  rfl
                refine pure_ (i := 8) (N := some 72) (v := ?_) (a' := ?_) #[true, true, true, true, true, true, true, true, true, false, false, false, true, false, false, false] rfl rfl (any_of HT_.out (by kernel_rfl)) (fun _ _ _ h => h) (Or.inl ⟨by rfl, ?_⟩) ?_ ?_
                rotate_left
                · intro w'
                  go_simp
                  with_reducible rfl
                rotate_left
                · simp only [Act.put, List.setIfInBounds_toArray, List.set_cons_zero, List.set_cons_succ, i64_w, i32_w]
                  rfl
                refine pure_ (i := 9) (N := some 81) (v := ?_) (a' := ?_) #[true, true, true, true, true, true, true, true, true, true, false, false, true, false, false, false] rfl rfl (any_of HT_.out (by kernel_rfl)) (fun _ _ _ h => h) (Or.inl ⟨by rfl, ?_⟩) ?_ ?_
                rotate_left
                · intro w'
                  go_simp
                  with_reducible rfl
                rotate_left
                · simp only [Act.put, List.setIfInBounds_toArray, List.set_cons_zero, List.set_cons_succ, i64_w, i32_w]
                  rfl
                refine pure_ (i := 10) (N := some 82) (v := ?_) (a' := ?_) #[true, true, true, true, true, true, true, true, true, true, true, false, true, false, false, false] rfl rfl (any_of HT_.out (by kernel_rfl)) (fun _ _ _ h => h) (Or.inl ⟨by rfl, ?_⟩) ?_ ?_
                rotate_left
                · intro w'
                  go_simp
                  with_reducible rfl
                rotate_left
                · simp only [Act.put, List.setIfInBounds_toArray, List.set_cons_zero, List.set_cons_succ, i64_w, i32_w]
                  rfl
                refine pure_ (i := 11) (N := some 83) (v := ?_) (a' := ?_) #[true, true, true, true, true, true, true, true, true, true, true, true, true, false, false, false] rfl rfl (any_of HT_.out (by kernel_rfl)) (fun _ _ _ h => h) (Or.inl ⟨by rfl, ?_⟩) ?_ ?_
                rotate_left
                · intro w'
                  go_simp
                  with_reducible rfl
                rotate_left
                · simp only [Act.put, List.setIfInBounds_toArray, List.set_cons_zero, List.set_cons_succ, i64_w, i32_w]
                  rfl
                refine one_ (i := 13) (N := none) #[true, true, true, true, true, true, true, true, true, true, true, true, true, true, false, false] rfl rfl (one_of HT_.out (by kernel_rfl)) (by decide) (fun K hK => ?_)
                refine store_step (by rfl) rfl rfl g11 _ 26 [.slice A0' r1.length c0', .slice A1' r2.length c1'] rfl (.agg #[.slice A0' r1.length c0', .slice A1' r2.length c1']) ?haS ?hbS HX.out rfl (by kernel_rfl) (two26 A0' r1.length c0' A1' r2.length c1') ?_
                (case haS => rfl)
                (case hbS => first | rfl | simp [Value.cells])
                intro wn hbox hg hz
                have n_ := Lib.hid (HS.out.far hg (fun k hk => hk.2) HA1.out HA2.out HA3.out); clear HS; have HS := n_; clear n_
                have n_ := Lib.hid (HQ.out.far hg (fun k hk => hk.2)); clear HQ; have HQ := n_; clear n_
                have n_ := Lib.hid hbox; clear HX; have HX := n_; clear n_ hbox hg hz
                refine hK.out _ _ (heldS HS.out HSE.out) (fun hHeld => ?_)
                clear hK K
                refine pure_ (i := 14) (N := some 13) (v := ?_) (a' := ?_) #[true, true, true, true, true, true, true, true, true, true, true, true, true, true, true, false] rfl rfl (any_of HT_.out (by kernel_rfl)) (fun _ _ _ h => h) (Or.inl ⟨by rfl, ?_⟩) ?_ ?_
                rotate_left
                · intro w'
                  go_simp
                  with_reducible rfl
                rotate_left
                · simp only [Act.put, List.setIfInBounds_toArray, List.set_cons_zero, List.set_cons_succ, i64_w, i32_w]
                  rfl
                refine pure_ (i := 15) (N := some 14) (v := ?_) (a' := ?_) #[true, true, true, true, true, true, true, true, true, true, true, true, true, true, true, true] rfl rfl (any_of HT_.out (by kernel_rfl)) (fun _ _ _ h => h) (Or.inl ⟨by rfl, ?_⟩) ?_ ?_
                rotate_left
                · intro w'
                  go_simp
                  with_reducible rfl
                rotate_left
                · simp only [Act.put, List.setIfInBounds_toArray, List.set_cons_zero, List.set_cons_succ, i64_w, i32_w]
                  rfl
                refine done_ (done_of HT_.out (by kernel_rfl)) ?_
                try go_wp2
                go_meet
                exact ⟨g11, A0', c0', A1', c1', A2', c2', rfl, rfl, rfl, ⟨HX.out⟩, ⟨HS.out.weak (fun k hk => hk.1) (fun k hk => hk.1) (fun k hk => hk.2)⟩, ⟨HQ.out.mono (fun k hk => hk.1)⟩⟩
            case rest =>
              clear HS HFD HK HIN HLK HL9 hj0 hj1 HSE hs1 hs2 hj ej
              obtain ⟨g11, A0', c0', A1', c1', A2', c2', rfl, rfl, rfl, HX, HS, HQ⟩ := hcut
              rcases HR4.out with ⟨e4, hgo⟩ | ⟨e4, hgo⟩
              · subst e4
                have HGo2 := Lib.hid hgo
                clear hgo HR4 HGo
                go_wp2
                go_roundg (es.length - (i + 1))
                case measure => have := HD.out; omega
                case rel => exact ⟨i + 1, n + 1, A0, c0, a, A1, c1, b, vs, ps, by go_num, by omega, ⟨rfl⟩, ⟨by have := HN.out; omega, HGo2.out⟩, ⟨HS.out⟩⟩
              · subst e4
                have HGo2 := Lib.hid hgo
                clear hgo HR4 HGo
                have q0 : wc.cell? ⟨g11, 0, none⟩ = some (.slice A0' r1.length c0') := (blk_cell HX.out 0).trans rfl
                have q1 : wc.cell? ⟨g11, 1, none⟩ = some (.slice A1' r2.length c1') := (blk_cell HX.out 1).trans rfl
                go_wp2_with (first | ((with_reducible refine gate_store (t := 26) (p := 5) rfl ?_); refine store_row rfl rfl rfl g7 _ 26 [.slice A0' r1.length c0', .slice A1' r2.length c1'] rfl (.agg #[.slice A0' r1.length c0', .slice A1' r2.length c1']) ?haA ?hbA HS.out.x7 rfl (by kernel_rfl) (two26 A0' r1.length c0' A1' r2.length c1') ?_; (case haA => rfl); (case hbA => first | rfl | simp [Value.cells]); intro w5 hbox hg hz; have n_ := Lib.hid (HS.out.root hbox hg HQ.out.f0 HQ.out.h0 HQ.out.f1 HQ.out.h1); clear HS; have HS := n_; clear n_; have n_ := Lib.hid (HQ.out.far hg (fun k hk => hk.1)); clear HQ; have HQ := n_; clear n_ hbox hg hz q0 q1 HX; refine Hold.go ?_))
                have HL := Lib.hid HQ.out.f2
                have HL2 := Lib.hid HQ.out.h2
                clear HQ
                refine Hold.of ?_
                go_wp2
                go_loopg [15] r3.length (fun d v15 w' => ∃ (j : Nat) (vs : List (Int × Value)) (qs : List (Int × S28)), v15 = .int .i64 j ∧ j ≤ r3.length ∧ Aside0 (d = r3.length - j) ∧ Aside0 (layP qs (r3.drop j) = layP ps r3) ∧ Aside0 (Sp w w' (fun k => k ≠ g7 ∧ k ≠ bm) g7 bm A0' c0' r1 A1' c1' r2 vs qs) ∧ Aside0 (Kd.F k28 w' (fun k => k ≠ g7 ∧ k ≠ bm) A2' r3.length r3))
                case atStart => exact ⟨0, vs, ps, rfl, Nat.zero_le _, ⟨rfl⟩, ⟨rfl⟩, ⟨HS.out⟩, ⟨HL.out⟩⟩
                case round =>
                  clear HS HL
                  obtain ⟨j, vs, qs, rfl, hj, HDj, HT, HS, HL⟩ := hrel
                  by_cases hjl : j < r3.length
                  · have hT := HT.out
                    rw [drop_28 hjl] at hT
                    obtain ⟨ad2, A9, c9, rfl, hx0, hx1, hx2, hl9, hf9⟩ := leaf_of HL.out j hjl
                    generalize rd_T28 r3 (j : Int) = lf at *
                    have HT2 := Lib.hid (show layP (putP lf.f0 lf qs) (r3.drop (j + 1)) = layP ps r3 from hT)
                    have HLV := Lib.hid (show LeafV wr.drew (fun k => k ≠ g7 ∧ k ≠ bm) lf (.agg #[.int .i64 lf.f0, .slice A9 lf.f1.length c9, .bool lf.f2]) from ⟨A9, c9, rfl, hl9, Kd.F_below hf9 (below_drew1 (Below.refl _ _))⟩)
                    have hj0 := eq_true (show (0 : Int) ≤ (j : Int) by omega)
                    have hj1 := eq_true (show (j : Int) < (r3.length : Int) by omega)
                    clear hT HT hl9 hf9
                    go_upto_region 23 with (fail)
                    refine start_ (n := 11) (S := (heldL ad2 j A9 c9 lf)) (ds := [10]) #[false, false, false, false, false, false, false, false, false, false, false] (by kernel_rfl) rfl rfl ⟨hx0, hx1, hx2⟩ (fun hHeld => ?_); refine with_tabW turnTab23 turnWaits23 (fun HT_ HW_ => ?_)
                    have n_ := Lib.hid (HS.out.grow (below_drew1 (Below.refl _ _))); clear HS; have HS := n_; clear n_
                    have n_ := Lib.hid (Kd.F_below HL.out (below_drew1 (Below.refl _ _))); clear HL; have HL := n_; clear n_ hx0 hx1 hx2
                    generalize wr.drew = wa at HS HL HLV hHeld ⊢
                    refine pure_ (i := 0) (N := some 95) (v := ?_) (a' := ?_) #[true, false, false, false, false, false, false, false, false, false, false] rfl rfl (any_of HT_.out (by kernel_rfl)) (fun _ _ _ h => h) (Or.inl ⟨by rfl, ?_⟩) ?_ ?_
                    rotate_left
                    · intro w'
                      go_simp
                      with_reducible rfl
                    rotate_left
                    · simp only [Act.put, List.setIfInBounds_toArray, List.set_cons_zero, List.set_cons_succ, i64_w, i32_w]
                      rfl
                    refine pure_ (i := 1) (N := some 96) (v := ?_) (a' := ?_) #[true, true, false, false, false, false, false, false, false, false, false] rfl rfl (any_of HT_.out (by kernel_rfl)) (fun _ _ _ h => h) (Or.inl ⟨by rfl, ?_⟩) ?_ ?_
                    rotate_left
                    · intro w'
                      go_simp
                      with_reducible rfl
                    rotate_left
                    · simp only [Act.put, List.setIfInBounds_toArray, List.set_cons_zero, List.set_cons_succ, i64_w, i32_w]
                      rfl
                    refine pure_ (i := 2) (N := some 97) (v := ?_) (a' := ?_) #[true, true, true, false, false, false, false, false, false, false, false] rfl rfl (any_of HT_.out (by kernel_rfl)) (fun _ _ _ h => h) (Or.inl ⟨by rfl, ?_⟩) ?_ ?_
                    rotate_left
                    · intro w'
                      go_simp
                      with_reducible rfl
                    rotate_left
                    · simp only [Act.put, List.setIfInBounds_toArray, List.set_cons_zero, List.set_cons_succ, i64_w, i32_w]
                      rfl
                    refine pure_ (i := 3) (N := some 98) (v := ?_) (a' := ?_) #[true, true, true, true, false, false, false, false, false, false, false] rfl rfl (any_of HT_.out (by kernel_rfl)) (fun _ _ _ h => h) (Or.inl ⟨by rfl, ?_⟩) ?_ ?_
                    rotate_left
                    · intro w'
                      go_simp
                      with_reducible rfl
                    rotate_left
                    · simp only [Act.put, List.setIfInBounds_toArray, List.set_cons_zero, List.set_cons_succ, i64_w, i32_w]
                      rfl
                    refine pure_ (i := 4) (N := some 99) (v := ?_) (a' := ?_) #[true, true, true, true, true, false, false, false, false, false, false] rfl rfl (any_of HT_.out (by kernel_rfl)) (fun _ _ _ h => h) (Or.inl ⟨by rfl, ?_⟩) ?_ ?_
                    rotate_left
                    · intro w'
                      go_simp
                      with_reducible rfl
                    rotate_left
                    · simp only [Act.put, List.setIfInBounds_toArray, List.set_cons_zero, List.set_cons_succ, i64_w, i32_w]
                      rfl
                    refine take_ (i := 5) (N := some 100) (v := ?_) (a' := ?_) #[true, true, true, true, true, true, false, false, false, false, false] rfl rfl (take_ofW HT_.out HW_.out (by kernel_rfl)) (fun _ _ _ h => h) (Or.inl ⟨by rfl, ?_⟩) hHeld ?_ ?_
                    rotate_left
                    · rintro w' ⟨h0, h1, h2⟩
                      go_simp
                      with_reducible rfl
                    rotate_left
                    · simp only [Act.put, List.setIfInBounds_toArray, List.set_cons_zero, List.set_cons_succ, i64_w, i32_w]
                      rfl
                    refine pure_ (i := 6) (N := some 101) (v := ?_) (a' := ?_) #[true, true, true, true, true, true, true, false, false, false, false] rfl rfl (any_of HT_.out (by kernel_rfl)) (fun _ _ _ h => h) (Or.inl ⟨by rfl, ?_⟩) ?_ ?_
                    rotate_left
                    · intro w'
                      go_simp
                      with_reducible rfl
                    rotate_left
                    · simp only [Act.put, List.setIfInBounds_toArray, List.set_cons_zero, List.set_cons_succ, i64_w, i32_w]
                      rfl
                    refine pure_ (i := 7) (N := some 102) (v := ?_) (a' := ?_) #[true, true, true, true, true, true, true, true, false, false, false] rfl rfl (any_of HT_.out (by kernel_rfl)) (fun _ _ _ h => h) (Or.inl ⟨by rfl, ?_⟩) ?_ ?_
                    rotate_left
                    · intro w'
                      go_simp
                      with_reducible rfl
                    rotate_left
                    · simp only [Act.put, List.setIfInBounds_toArray, List.set_cons_zero, List.set_cons_succ, i64_w, i32_w]
                      rfl
                    refine pure_ (i := 8) (N := some 103) (v := ?_) (a' := ?_) #[true, true, true, true, true, true, true, true, true, false, false] rfl rfl (any_of HT_.out (by kernel_rfl)) (fun _ _ _ h => h) (Or.inl ⟨by rfl, ?_⟩) ?_ ?_
                    rotate_left
                    · intro w'
                      go_simp
                      with_reducible rfl
                    rotate_left
                    · simp only [Act.put, List.setIfInBounds_toArray, List.set_cons_zero, List.set_cons_succ, i64_w, i32_w]
                      rfl
                    refine take_ (i := 9) (N := some 104) (v := ?_) (a' := ?_) #[true, true, true, true, true, true, true, true, true, true, false] rfl rfl (take_ofW HT_.out HW_.out (by kernel_rfl)) (fun _ _ _ h => h) (Or.inl ⟨by rfl, ?_⟩) hHeld ?_ ?_
                    rotate_left
                    · rintro w' ⟨h0, h1, h2⟩
                      go_simp
                      with_reducible rfl
                    rotate_left
                    · simp only [Act.put, List.setIfInBounds_toArray, List.set_cons_zero, List.set_cons_succ, i64_w, i32_w]
                      rfl
                    refine last_ (i := 10) (N := none) #[true, true, true, true, true, true, true, true, true, true, true] rfl rfl (one_of HT_.out (by kernel_rfl)) (by decide) (fun K hK => ?_)
                    refine update_step (by rfl) rfl _ _ _ 31 rfl 3 28 Try.underlying31 Try.underlying3 bm vs rfl HS.out.im lf.f0 rfl (.agg #[.int .i64 lf.f0, .slice A9 lf.f1.length c9, .bool lf.f2]) rfl ?_
                    intro wn hm hg hz
                    have n_ := Lib.hid (HS.out.put (k := lf.f0) HLV.out hm hg); clear HS; have HS := n_; clear n_
                    have n_ := Lib.hid (Kd.F_grown HL.out hg (fun k hk e => hk.2 (Option.some.inj e))); clear HL; have HL := n_; clear n_ hm hg hz
                    refine hK.out _ _ ?_
                    clear hK K
                    refine done_ (done_of HT_.out (by kernel_rfl)) ?_
                    go_wp2
                    go_roundg (r3.length - (j + 1))
                    case measure => have := HDj.out; omega
                    case rel => exact ⟨j + 1, _, _, inc_int hjl (Kd.F_max HL.out), by omega, ⟨rfl⟩, ⟨HT2.out⟩, ⟨HS.out⟩, ⟨HL.out⟩⟩
                  · have hje : j = r3.length := by omega
                    subst hje
                    have hT := HT.out
                    rw [List.drop_length] at hT
                    have hqs : qs = layP ps r3 := hT
                    subst hqs
                    clear hT HT
                    go_wp2
                    go_roundg (es.length - (i + 1))
                    case measure => have := HD.out; omega
                    case rel => exact ⟨i + 1, n + 1, A0', c0', r1, A1', c1', r2, vs, layP ps r3, by go_num, by omega, ⟨rfl⟩, ⟨by have := HN.out; omega, HGo2.out⟩, ⟨HS.out⟩⟩
          · have hs1 : decide ((100 : Int) < (s.size : Int)) = true := decide_eq_true (by omega)
            have hs2 : decide (100 < s.size) = true := decide_eq_true (by omega)
            go_wp2
            go_ret
            exact ⟨rfl, HS.out.below⟩
        · have hie : i = es.length := by omega
          subst hie
          go_wp2
          go_roundg (2 - (p + 1))
          case measure => have := HDp.out; omega
          case rel => exact ⟨p + 1, n, A0, c0, a, A1, c1, b, vs, ps, by go_num, by omega, ⟨rfl⟩, ⟨by have := HGo.out.1; rw [Nat.add_mul]; omega, HGo.out.2⟩, ⟨HS.out⟩⟩
    · have hpe : p = 2 := by omega
      subst hpe
      have H0 := Lib.hid (HG.out.turn n a b ps (by have := HGo.out.1; omega) HGo.out.2)
      clear HGo HDp
      go_wp2
      go_loopg [16] es.length (fun d v16 w' => ∃ (i : Nat) (A0 : Option Addr) (c0 : Nat) (a : List ByteArray) (A1 : Option Addr) (c1 : Nat) (b : List Int) (vs : List (Int × Value)) (ps : List (Int × S28)), v16 = .int .i64 i ∧ i ≤ es.length ∧ Aside0 (d = es.length - i) ∧ Aside0 (Take i a b ps) ∧ Aside0 (Sp w w' (fun k => k ≠ g7 ∧ k ≠ bm) g7 bm A0 c0 a A1 c1 b vs ps))
      case atStart => exact ⟨0, A0, c0, a, A1, c1, b, vs, ps, rfl, Nat.zero_le _, ⟨rfl⟩, ⟨H0.out⟩, ⟨HS.out⟩⟩
      case round =>
        clear HS H0
        obtain ⟨i, A0, c0, a, A1, c1, b, vs, ps, rfl, hi, HD, HGo, HS⟩ := hrel
        by_cases hlt : i < es.length
        · obtain ⟨ad, rfl, hse⟩ := Kd.at_string HR.out (i : Int) (by omega) (by omega)
          simp only [Int.toNat_natCast] at hse
          obtain ⟨k, no, lf, r1, r2, r3, r4, hfd, hk, hin, hr4⟩ := HG.out.take i a b ps hlt HGo.out
          have HSE := Lib.hid hse
          have hse := (HS.out.below.cell (World.block_lt_of_cell? w _ hse)).trans hse
          generalize rdOf ByteArray.empty es (i : Int) = s at *
          have hi0 := eq_true (show (0 : Int) ≤ (i : Int) by omega)
          have hi1 := eq_true (show (i : Int) < (es.length : Int) by omega)
          obtain ⟨v, hlk, A9, c9, rfl, hl9, hf9⟩ := HS.out.av.lkp_some hk
          have HFD := Lib.hid hfd
          have HK := Lib.hid hk
          have HIN := Lib.hid hin
          have HR4 := Lib.hid hr4
          have HLK := Lib.hid hlk
          have HL9 := Lib.hid hl9
          clear hfd hk hin hr4 hlk hl9 hf9 HG hse
          go_upto_region 27 with (fail)
          go_cut [17] (fun v17 wc => v17 = .int .i64 no ∧ Aside0 (Sp w wc (fun k => k ≠ g7 ∧ k ≠ bm) g7 bm A0 c0 a A1 c1 b vs ps))
          case first =>
            refine start_ (n := 7) (S := (heldP g7 bm A0 c0 a.length A1 c1 b.length (ad.add i) s vs)) (ds := []) #[false, false, false, false, false, false, false] (by kernel_rfl) rfl rfl (heldS (HS.out.grow (below_drew1 (Below.refl _ _))) HSE.out) (fun hHeld => ?_); refine with_tabW turnTab27 turnWaits27 (fun HT_ HW_ => ?_)
            have n_ := Lib.hid (HS.out.grow (below_drew1 (Below.refl _ _))); clear HS; have HS := n_; clear n_
            generalize wr.drew = wa at HS hHeld ⊢
            refine take_ (i := 0) (N := some 110) (v := ?_) (a' := ?_) #[true, false, false, false, false, false, false] rfl rfl (take_ofW HT_.out HW_.out (by kernel_rfl)) (fun _ _ _ h => h) (Or.inl ⟨by rfl, ?_⟩) hHeld ?_ ?_
            rotate_left
            · rintro w' ⟨h0, h1, h2, h3⟩
              go_simp
              with_reducible rfl
            rotate_left
            · simp only [Act.put, List.setIfInBounds_toArray, List.set_cons_zero, List.set_cons_succ, i64_w, i32_w]
              rfl
            refine pure_ (i := 1) (N := some 111) (v := ?_) (a' := ?_) #[true, true, false, false, false, false, false] rfl rfl (any_of HT_.out (by kernel_rfl)) (fun _ _ _ h => h) (Or.inl ⟨by rfl, ?_⟩) ?_ ?_
            rotate_left
            · intro w'
              go_simp
              with_reducible rfl
            rotate_left
            · simp only [Act.put, List.setIfInBounds_toArray, List.set_cons_zero, List.set_cons_succ, i64_w, i32_w]
              rfl
            refine pure_ (i := 2) (N := some 112) (v := ?_) (a' := ?_) #[true, true, true, false, false, false, false] rfl rfl (any_of HT_.out (by kernel_rfl)) (fun _ _ _ h => h) (Or.inl ⟨by rfl, ?_⟩) ?_ ?_
            rotate_left
            · intro w'
              go_simp
              with_reducible rfl
            rotate_left
            · simp only [Act.put, List.setIfInBounds_toArray, List.set_cons_zero, List.set_cons_succ, i64_w, i32_w]
              rfl
            refine pure_ (i := 3) (N := some 113) (v := ?_) (a' := ?_) #[true, true, true, true, false, false, false] rfl rfl (any_of HT_.out (by kernel_rfl)) (fun _ _ _ h => h) (Or.inl ⟨by rfl, ?_⟩) ?_ ?_
            rotate_left
            · intro w'
              go_simp
              with_reducible rfl
            rotate_left
            · simp only [Act.put, List.setIfInBounds_toArray, List.set_cons_zero, List.set_cons_succ, i64_w, i32_w]
              rfl
            refine take_ (i := 4) (N := some 114) (v := ?_) (a' := ?_) #[true, true, true, true, true, false, false] rfl rfl (take_ofW HT_.out HW_.out (by kernel_rfl)) (fun _ _ _ h => h) (Or.inl ⟨by rfl, ?_⟩) hHeld ?_ ?_
            rotate_left
            · rintro w' ⟨h0, h1, h2, h3⟩
              go_simp
              with_reducible rfl
            rotate_left
            · simp only [Act.put, List.setIfInBounds_toArray, List.set_cons_zero, List.set_cons_succ, i64_w, i32_w]
              rfl
            refine one_ (i := 5) (N := (some 115)) #[true, true, true, true, true, true, false] rfl rfl (one_of HT_.out (by kernel_rfl)) (by decide) (fun K hK => ?_)
            refine goes_ Try.func12 (by kernel_rfl) rfl #[.agg #[.slice A0 a.length c0, .slice A1 b.length c1], .string s] (by rfl) rfl rfl (by (try simp only [List.map_toArray, List.map_cons, List.map_nil]); first | done | rfl) ?_
            with_reducible refine (leaf_Find.calls k _ _ a _ _ b s no _ (Kd.F_now HS.out.f0) HS.out.h0 (Kd.F_now HS.out.f1) HS.out.h1 HFD.out).mono ?_
            rintro e wb ⟨rfl, hb⟩
            refine ⟨_, rfl, ?_⟩
            have n_ := Lib.hid (HS.out.grow hb); clear HS; have HS := n_; clear n_
            clear hb
            refine hK.out _ _ (heldS HS.out HSE.out) (fun hHeld => ?_)
            clear hK K
            refine norm_ (a' := ?_) ?_ ?_
            rotate_left
            · show Act.put _ (some 115) _ = _
              simp only [Act.put, List.setIfInBounds_toArray, List.set_cons_zero, List.set_cons_succ, i64_w, i32_w]
              rfl
            refine pure_ (i := 6) (N := some 17) (v := ?_) (a' := ?_) #[true, true, true, true, true, true, true] rfl rfl (any_of HT_.out (by kernel_rfl)) (fun _ _ _ h => h) (Or.inl ⟨by rfl, ?_⟩) ?_ ?_
            rotate_left
            · intro w'
              go_simp
              with_reducible rfl
            rotate_left
            · simp only [Act.put, List.setIfInBounds_toArray, List.set_cons_zero, List.set_cons_succ, i64_w, i32_w]
              rfl
            refine done_ (done_of HT_.out (by kernel_rfl)) ?_
            try go_wp2
            go_meet
            exact ⟨rfl, ⟨HS.out⟩⟩
          case rest =>
            clear HS
            obtain ⟨rfl, HS⟩ := hcut
            go_upto_region 28 with (fail)
            go_cut [18, 19, 20] (fun v11 v12 v13 wc => ∃ (g11 : Nat) (A0' : Option Addr) (c0' : Nat) (A1' : Option Addr) (c1' : Nat) (A2' : Option Addr) (c2' : Nat), v11 = .pointer (some ⟨g11, 0, none⟩) ∧ v12 = .slice A2' r3.length c2' ∧ v13 = .int .i64 r4 ∧ Aside0 (wc.heap[g11]? = some (.cells #[.slice A0' r1.length c0', .slice A1' r2.length c1'] 26 (0, 0))) ∧ Aside0 (Sp w wc (fun k => k ≠ g7 ∧ k ≠ bm) g7 bm A0 c0 a A1 c1 b vs ps) ∧ Aside0 (Rs wc (fun k => k ≠ g7 ∧ k ≠ bm) A0' c0' r1 A1' c1' r2 A2' c2' r3))
            case first =>
              refine start_ (n := 17) (S := (heldP g7 bm A0 c0 a.length A1 c1 b.length (ad.add i) s vs)) (ds := []) #[false, false, false, false, false, false, false, false, false, false, false, false, false, false, false, false, false] (by kernel_rfl) rfl rfl (heldS (HS.out.grow (below_drew1 (Below.refl _ _))) HSE.out) (fun hHeld => ?_); refine with_tabW turnTab28 turnWaits28 (fun HT_ HW_ => ?_)
              have n_ := Lib.hid (HS.out.grow (below_drew1 (Below.refl _ _))); clear HS; have HS := n_; clear n_
              generalize wr.drew = wa at HS hHeld ⊢
              refine take_ (i := 0) (N := some 117) (v := ?_) (a' := ?_) #[true, false, false, false, false, false, false, false, false, false, false, false, false, false, false, false, false] rfl rfl (take_ofW HT_.out HW_.out (by kernel_rfl)) (fun _ _ _ h => h) (Or.inl ⟨by rfl, ?_⟩) hHeld ?_ ?_
              rotate_left
              · rintro w' ⟨h0, h1, h2, h3⟩
                go_simp
                with_reducible rfl
              rotate_left
              · simp only [Act.put, List.setIfInBounds_toArray, List.set_cons_zero, List.set_cons_succ, i64_w, i32_w]
                rfl
              refine pure_ (i := 1) (N := some 118) (v := ?_) (a' := ?_) #[true, true, false, false, false, false, false, false, false, false, false, false, false, false, false, false, false] rfl rfl (any_of HT_.out (by kernel_rfl)) (fun _ _ _ h => h) (Or.inl ⟨by rfl, ?_⟩) ?_ ?_
              rotate_left
              · intro w'
                go_simp
                with_reducible rfl
              rotate_left
              · simp only [Act.put, List.setIfInBounds_toArray, List.set_cons_zero, List.set_cons_succ, i64_w, i32_w]
                rfl
              refine pure_ (i := 2) (N := some 119) (v := ?_) (a' := ?_) #[true, true, true, false, false, false, false, false, false, false, false, false, false, false, false, false, false] rfl rfl (any_of HT_.out (by kernel_rfl)) (fun _ _ _ h => h) (Or.inl ⟨by rfl, ?_⟩) ?_ ?_
              rotate_left
              · intro w'
                go_simp
                with_reducible rfl
              rotate_left
              · simp only [Act.put, List.setIfInBounds_toArray, List.set_cons_zero, List.set_cons_succ, i64_w, i32_w]
                rfl
              refine take_ (i := 3) (N := (some 120)) (v := ?_) (a' := ?_) #[true, true, true, true, false, false, false, false, false, false, false, false, false, false, false, false, false] rfl rfl (take_ofW HT_.out HW_.out (by kernel_rfl)) (fun _ _ _ h => h) (Or.inl ⟨by rfl, ?_⟩) hHeld ?_ ?_
              rotate_left
              · rintro w' ⟨h0, h1, h2, h3⟩
                have hlk := h3.run_lookup Try.underlying31 Try.underlying3 (zero28 w') no false
                rw [HLK.out] at hlk
                go_simp
                with_reducible rfl
              rotate_left
              · simp only [Act.put, List.setIfInBounds_toArray, List.set_cons_zero, List.set_cons_succ, i64_w, i32_w]
                rfl
              refine pure_ (i := 4) (N := some 121) (v := ?_) (a' := ?_) #[true, true, true, true, true, false, false, false, false, false, false, false, false, false, false, false, false] rfl rfl (any_of HT_.out (by kernel_rfl)) (fun _ _ _ h => h) (Or.inl ⟨by rfl, ?_⟩) ?_ ?_
              rotate_left
              · intro w'
                go_simp
                with_reducible rfl
              rotate_left
              · simp only [Act.put, List.setIfInBounds_toArray, List.set_cons_zero, List.set_cons_succ, i64_w, i32_w]
                rfl
              refine pure_ (i := 5) (N := some 122) (v := ?_) (a' := ?_) #[true, true, true, true, true, true, false, false, false, false, false, false, false, false, false, false, false] rfl rfl (any_of HT_.out (by kernel_rfl)) (fun _ _ _ h => h) (Or.inl ⟨by rfl, ?_⟩) ?_ ?_
              rotate_left
              · intro w'
                go_simp
                with_reducible rfl
              rotate_left
              · simp only [Act.put, List.setIfInBounds_toArray, List.set_cons_zero, List.set_cons_succ, i64_w, i32_w]
                rfl
              refine pure_ (i := 6) (N := some 123) (v := ?_) (a' := ?_) #[true, true, true, true, true, true, true, false, false, false, false, false, false, false, false, false, false] rfl rfl (any_of HT_.out (by kernel_rfl)) (fun _ _ _ h => h) (Or.inl ⟨by rfl, ?_⟩) ?_ ?_
              rotate_left
              · intro w'
                go_simp
                with_reducible rfl
              rotate_left
              · simp only [Act.put, List.setIfInBounds_toArray, List.set_cons_zero, List.set_cons_succ, i64_w, i32_w]
                rfl
              refine take_ (i := 7) (N := some 124) (v := ?_) (a' := ?_) #[true, true, true, true, true, true, true, true, false, false, false, false, false, false, false, false, false] rfl rfl (take_ofW HT_.out HW_.out (by kernel_rfl)) (fun _ _ _ h => h) (Or.inl ⟨by rfl, ?_⟩) hHeld ?_ ?_
              rotate_left
              · rintro w' ⟨h0, h1, h2, h3⟩
                go_simp
                with_reducible rfl
              rotate_left
              · simp only [Act.put, List.setIfInBounds_toArray, List.set_cons_zero, List.set_cons_succ, i64_w, i32_w]
                rfl
              refine two_ (i := 8) (j := 13) (Ni := (some 125)) (Nj := (some 18)) #[true, true, true, true, true, true, true, true, true, false, false, false, false, false, false, false, false] #[true, true, true, true, true, true, true, true, false, false, false, false, false, true, false, false, false] rfl rfl rfl rfl (two_of HT_.out (by kernel_rfl)) (by decide) (by decide) (fun K hK => ?_) (fun K hK => ?_)
              · refine goes_ Try.func18 (by kernel_rfl) rfl #[.agg #[.slice A0 a.length c0, .slice A1 b.length c1], .agg #[.int .i64 lf.f0, .slice A9 lf.f1.length c9, .bool lf.f2], .string s] (by rfl) rfl rfl (by (try simp only [List.map_toArray, List.map_cons, List.map_nil]); first | done | rfl) ?_
                with_reducible refine (leaf_Remove.calls _ c0 a _ c1 b lf.f0 _ c9 lf.f1 lf.f2 s r1 r2 r3 r4 _ (Kd.F_now HS.out.f0) HS.out.h0 (Kd.F_now HS.out.f1) HS.out.h1 (leaf_now HS.out.av HK.out HLK.out) HL9.out HIN.out).mono ?_
                rintro e wb ⟨v0', v1', v2', rfl, hq0, hq1, hq2, hb⟩
                refine ⟨_, rfl, ?_⟩
                obtain ⟨A0', c0', rfl⟩ := Kd.R_slice hq0; obtain ⟨A1', c1', rfl⟩ := Kd.R_slice hq1; obtain ⟨A2', c2', rfl⟩ := Kd.N_slice hq2
                have HQ := Lib.hid (Rs.fresh (ok' := fun k => k ≠ g7 ∧ k ≠ bm) hq0 hq1 hq2 (fun k hk => hk.1) (fun k hk => ⟨by have := HS.out.lt7; omega, by have := HS.out.ltm; omega⟩))
                have n_ := Lib.hid (HS.out.grow hb); clear HS; have HS := n_; clear n_
                clear hq0 hq1 hq2 hb
                refine hK.out _ _ (heldS HS.out HSE.out) (fun hHeld => ?_)
                clear hK K
                refine norm_ (a' := ?_) ?_ ?_
                rotate_left
                · show Act.put _ (some 125) _ = _
                  simp only [Act.put, List.setIfInBounds_toArray, List.set_cons_zero, List.set_cons_succ, i64_w, i32_w]
                  rfl
                refine pure_ (i := 9) (N := some 116) (v := ?_) (a' := ?_) #[true, true, true, true, true, true, true, true, true, true, false, false, false, false, false, false, false] rfl rfl (any_of HT_.out (by kernel_rfl)) (fun _ _ _ h => h) (Or.inl ⟨by rfl, ?_⟩) ?_ ?_
                rotate_left
                · intro w'
                  go_simp
                  with_reducible rfl
                rotate_left
                · simp only [Act.put, List.setIfInBounds_toArray, List.set_cons_zero, List.set_cons_succ, i64_w, i32_w]
                  rfl
                refine pure_ (i := 10) (N := some 126) (v := ?_) (a' := ?_) #[true, true, true, true, true, true, true, true, true, true, true, false, false, false, false, false, false] rfl rfl (any_of HT_.out (by kernel_rfl)) (fun _ _ _ h => h) (Or.inl ⟨by rfl, ?_⟩) ?_ ?_
                rotate_left
                · intro w'
                  go_simp
                  with_reducible rfl
                rotate_left
                · simp only [Act.put, List.setIfInBounds_toArray, List.set_cons_zero, List.set_cons_succ, i64_w, i32_w]
                  rfl
                refine pure_ (i := 11) (N := some 127) (v := ?_) (a' := ?_) #[true, true, true, true, true, true, true, true, true, true, true, true, false, false, false, false, false] rfl rfl (any_of HT_.out (by kernel_rfl)) (fun _ _ _ h => h) (Or.inl ⟨by rfl, ?_⟩) ?_ ?_
                rotate_left
                · intro w'
                  go_simp
                  with_reducible rfl
                rotate_left
                · simp only [Act.put, List.setIfInBounds_toArray, List.set_cons_zero, List.set_cons_succ, i64_w, i32_w]
                  rfl
                refine pure_ (i := 12) (N := some 128) (v := ?_) (a' := ?_) #[true, true, true, true, true, true, true, true, true, true, true, true, true, false, false, false, false] rfl rfl (any_of HT_.out (by kernel_rfl)) (fun _ _ _ h => h) (Or.inl ⟨by rfl, ?_⟩) ?_ ?_
                rotate_left
                · intro w'
                  go_simp
                  with_reducible rfl
                rotate_left
                · simp only [Act.put, List.setIfInBounds_toArray, List.set_cons_zero, List.set_cons_succ, i64_w, i32_w]
                  rfl
                refine one_ (i := 13) (N := (some 18)) #[true, true, true, true, true, true, true, true, true, true, true, true, true, true, false, false, false] rfl rfl (one_of HT_.out (by kernel_rfl)) (by decide) (fun K hK => ?_)
                refine alloc_step (by rfl) (fun g => .pointer (some ⟨g, 0, none⟩)) (.cells #[.slice none 0 0, .slice none 0 0] 26 (0, 0)) ?hr ?_
                (case hr => first | (go_simp; done) | (go_simp; rfl))
                intro g11 hg wn hbox hb
                have HQA := Lib.hid (Sp.alloc HS.out hg hb); obtain ⟨hs_, ha_, hb_, hc_⟩ := HQA.out; clear HQA HS; have HS := Lib.hid hs_; have HA1 := Lib.hid ha_; have HA2 := Lib.hid hb_; have HA3 := Lib.hid hc_; have HX := Lib.hid hbox; clear hs_ ha_ hb_ hc_
                have n_ := Lib.hid (HQ.out.alloc hg hb); clear HQ; have HQ := n_; clear n_
                clear hg hbox hb
                refine hK.out _ _ (heldS HS.out HSE.out) (fun hHeld => ?_)
                clear hK K
                refine norm_ (a' := ?_) ?_ ?_
                rotate_left
                · show Act.put _ (some 18) _ = _
                  simp only [Act.put, List.setIfInBounds_toArray, List.set_cons_zero, List.set_cons_succ, i64_w, i32_w]
                  rfl
                refine one_ (i := 14) (N := none) #[true, true, true, true, true, true, true, true, true, true, true, true, true, true, true, false, false] rfl rfl (one_of HT_.out (by kernel_rfl)) (by decide) (fun K hK => ?_)
                refine store_step (by rfl) rfl rfl g11 _ 26 [.slice A0' r1.length c0', .slice A1' r2.length c1'] rfl (.agg #[.slice A0' r1.length c0', .slice A1' r2.length c1']) ?haS ?hbS HX.out rfl (by kernel_rfl) (two26 A0' r1.length c0' A1' r2.length c1') ?_
                (case haS => rfl)
                (case hbS => first | rfl | simp [Value.cells])
                intro wn hbox hg hz
                have n_ := Lib.hid (HS.out.far hg (fun k hk => hk.2) HA1.out HA2.out HA3.out); clear HS; have HS := n_; clear n_
                have n_ := Lib.hid (HQ.out.far hg (fun k hk => hk.2)); clear HQ; have HQ := n_; clear n_
                have n_ := Lib.hid hbox; clear HX; have HX := n_; clear n_ hbox hg hz
                refine hK.out _ _ (heldS HS.out HSE.out) (fun hHeld => ?_)
                clear hK K
                refine pure_ (i := 15) (N := some 19) (v := ?_) (a' := ?_) #[true, true, true, true, true, true, true, true, true, true, true, true, true, true, true, true, false] rfl rfl (any_of HT_.out (by kernel_rfl)) (fun _ _ _ h => h) (Or.inl ⟨by rfl, ?_⟩) ?_ ?_
                rotate_left
                · intro w'
                  go_simp
                  with_reducible rfl
                rotate_left
                · simp only [Act.put, List.setIfInBounds_toArray, List.set_cons_zero, List.set_cons_succ, i64_w, i32_w]
                  rfl
                refine pure_ (i := 16) (N := some 20) (v := ?_) (a' := ?_) #[true, true, true, true, true, true, true, true, true, true, true, true, true, true, true, true, true] rfl rfl (any_of HT_.out (by kernel_rfl)) (fun _ _ _ h => h) (Or.inl ⟨by rfl, ?_⟩) ?_ ?_
                rotate_left
                · intro w'
                  go_simp
                  with_reducible rfl
                rotate_left
                · simp only [Act.put, List.setIfInBounds_toArray, List.set_cons_zero, List.set_cons_succ, i64_w, i32_w]
                  rfl
                refine done_ (done_of HT_.out (by kernel_rfl)) ?_
                try go_wp2
                go_meet
                exact ⟨g11, A0', c0', A1', c1', A2', c2', rfl, rfl, rfl, ⟨HX.out⟩, ⟨HS.out.weak (fun k hk => hk.1) (fun k hk => hk.1) (fun k hk => hk.2)⟩, ⟨HQ.out.mono (fun k hk => hk.1)⟩⟩
              · refine alloc_step (by rfl) (fun g => .pointer (some ⟨g, 0, none⟩)) (.cells #[.slice none 0 0, .slice none 0 0] 26 (0, 0)) ?hr ?_
                (case hr => first | (go_simp; done) | (go_simp; rfl))
                intro g11 hg wn hbox hb
                have HQA := Lib.hid (Sp.alloc HS.out hg hb); obtain ⟨hs_, ha_, hb_, hc_⟩ := HQA.out; clear HQA HS; have HS := Lib.hid hs_; have HA1 := Lib.hid ha_; have HA2 := Lib.hid hb_; have HA3 := Lib.hid hc_; have HX := Lib.hid hbox; clear hs_ ha_ hb_ hc_
                clear hg hbox hb
                refine hK.out _ _ (heldS HS.out HSE.out) (fun hHeld => ?_)
                clear hK K
                refine norm_ (a' := ?_) ?_ ?_
                rotate_left
                · show Act.put _ (some 18) _ = _
                  simp only [Act.put, List.setIfInBounds_toArray, List.set_cons_zero, List.set_cons_succ, i64_w, i32_w]
                  rfl
                refine one_ (i := 8) (N := (some 125)) #[true, true, true, true, true, true, true, true, true, false, false, false, false, true, false, false, false] rfl rfl (one_of HT_.out (by kernel_rfl)) (by decide) (fun K hK => ?_)
                refine goes_ Try.func18 (by kernel_rfl) rfl #[.agg #[.slice A0 a.length c0, .slice A1 b.length c1], .agg #[.int .i64 lf.f0, .slice A9 lf.f1.length c9, .bool lf.f2], .string s] (by rfl) rfl rfl (by (try simp only [List.map_toArray, List.map_cons, List.map_nil]); first | done | rfl) ?_
                with_reducible refine (leaf_Remove.calls _ c0 a _ c1 b lf.f0 _ c9 lf.f1 lf.f2 s r1 r2 r3 r4 _ (Kd.F_now HS.out.f0) HS.out.h0 (Kd.F_now HS.out.f1) HS.out.h1 (leaf_now HS.out.av HK.out HLK.out) HL9.out HIN.out).mono ?_
                rintro e wb ⟨v0', v1', v2', rfl, hq0, hq1, hq2, hb⟩
                refine ⟨_, rfl, ?_⟩
                obtain ⟨A0', c0', rfl⟩ := Kd.R_slice hq0; obtain ⟨A1', c1', rfl⟩ := Kd.R_slice hq1; obtain ⟨A2', c2', rfl⟩ := Kd.N_slice hq2
                have HQ := Lib.hid (Rs.fresh (ok' := fun k => (k ≠ g7 ∧ k ≠ bm) ∧ k ≠ g11) hq0 hq1 hq2 (fun k hk => hk.1) (fun k hk => ⟨⟨by have := HS.out.lt7; omega, by have := HS.out.ltm; omega⟩, by have := blk_lt HX.out; omega⟩))
                have n_ := Lib.hid (HS.out.grow hb); clear HS; have HS := n_; clear n_
                have n_ := Lib.hid (blk_below HX.out hb); clear HX; have HX := n_; clear n_
                clear hq0 hq1 hq2 hb
                refine hK.out _ _ (heldS HS.out HSE.out) (fun hHeld => ?_)
                clear hK K
                refine norm_ (a' := ?_) ?_ ?_
                rotate_left
                · show Act.put _ (some 125) _ = _
                  simp only [Act.put, List.setIfInBounds_toArray, List.set_cons_zero, List.set_cons_succ, i64_w, i32_w]
                  rfl
                refine pure_ (i := 9) (N := some 116) (v := ?_) (a' := ?_) #[true, true, true, true, true, true, true, true, true, true, false, false, false, true, false, false, false] rfl rfl (any_of HT_.out (by kernel_rfl)) (fun _ _ _ h => h) (Or.inl ⟨by rfl, ?_⟩) ?_ ?_
                rotate_left
                · intro w'
                  go_simp
                  with_reducible rfl
                rotate_left
                · simp only [Act.put, List.setIfInBounds_toArray, List.set_cons_zero, List.set_cons_succ, i64_w, i32_w]
                  rfl
                refine pure_ (i := 10) (N := some 126) (v := ?_) (a' := ?_) #[true, true, true, true, true, true, true, true, true, true, true, false, false, true, false, false, false] rfl rfl (any_of HT_.out (by kernel_rfl)) (fun _ _ _ h => h) (Or.inl ⟨by rfl, ?_⟩) ?_ ?_
                rotate_left
                · intro w'
                  go_simp
                  with_reducible rfl
                rotate_left
                · simp only [Act.put, List.setIfInBounds_toArray, List.set_cons_zero, List.set_cons_succ, i64_w, i32_w]
                  rfl
                refine pure_ (i := 11) (N := some 127) (v := ?_) (a' := ?_) #[true, true, true, true, true, true, true, true, true, true, true, true, false, true, false, false, false] rfl rfl (any_of HT_.out (by kernel_rfl)) (fun _ _ _ h => h) (Or.inl ⟨by rfl, ?_⟩) ?_ ?_
                rotate_left
                · intro w'
                  go_simp
                  with_reducible rfl
                rotate_left
                · simp only [Act.put, List.setIfInBounds_toArray, List.set_cons_zero, List.set_cons_succ, i64_w, i32_w]
                  rfl
                refine pure_ (i := 12) (N := some 128) (v := ?_) (a' := ?_) #[true, true, true, true, true, true, true, true, true, true, true, true, true, true, false, false, false] rfl rfl (any_of HT_.out (by kernel_rfl)) (fun _ _ _ h => h) (Or.inl ⟨by rfl, ?_⟩) ?_ ?_
                rotate_left
                · intro w'
                  go_simp
                  with_reducible rfl
                rotate_left
                · simp only [Act.put, List.setIfInBounds_toArray, List.set_cons_zero, List.set_cons_succ, i64_w, i32_w]
                  rfl
                refine one_ (i := 14) (N := none) #[true, true, true, true, true, true, true, true, true, true, true, true, true, true, true, false, false] rfl rfl (one_of HT_.out (by kernel_rfl)) (by decide) (fun K hK => ?_)
                refine store_step (by rfl) rfl rfl g11 _ 26 [.slice A0' r1.length c0', .slice A1' r2.length c1'] rfl (.agg #[.slice A0' r1.length c0', .slice A1' r2.length c1']) ?haS ?hbS HX.out rfl (by kernel_rfl) (two26 A0' r1.length c0' A1' r2.length c1') ?_
                (case haS => rfl)
                (case hbS => first | rfl | simp [Value.cells])
                intro wn hbox hg hz
                have n_ := Lib.hid (HS.out.far hg (fun k hk => hk.2) HA1.out HA2.out HA3.out); clear HS; have HS := n_; clear n_
                have n_ := Lib.hid (HQ.out.far hg (fun k hk => hk.2)); clear HQ; have HQ := n_; clear n_
                have n_ := Lib.hid hbox; clear HX; have HX := n_; clear n_ hbox hg hz
                refine hK.out _ _ (heldS HS.out HSE.out) (fun hHeld => ?_)
                clear hK K
                refine pure_ (i := 15) (N := some 19) (v := ?_) (a' := ?_) #[true, true, true, true, true, true, true, true, true, true, true, true, true, true, true, true, false] rfl rfl (any_of HT_.out (by kernel_rfl)) (fun _ _ _ h => h) (Or.inl ⟨by rfl, ?_⟩) ?_ ?_
                rotate_left
                · intro w'
                  go_simp
                  with_reducible rfl
                rotate_left
                · simp only [Act.put, List.setIfInBounds_toArray, List.set_cons_zero, List.set_cons_succ, i64_w, i32_w]
                  rfl
                refine pure_ (i := 16) (N := some 20) (v := ?_) (a' := ?_) #[true, true, true, true, true, true, true, true, true, true, true, true, true, true, true, true, true] rfl rfl (any_of HT_.out (by kernel_rfl)) (fun _ _ _ h => h) (Or.inl ⟨by rfl, ?_⟩) ?_ ?_
                rotate_left
                · intro w'
                  go_simp
                  with_reducible rfl
                rotate_left
                · simp only [Act.put, List.setIfInBounds_toArray, List.set_cons_zero, List.set_cons_succ, i64_w, i32_w]
                  rfl
                refine done_ (done_of HT_.out (by kernel_rfl)) ?_
                try go_wp2
                go_meet
                exact ⟨g11, A0', c0', A1', c1', A2', c2', rfl, rfl, rfl, ⟨HX.out⟩, ⟨HS.out.weak (fun k hk => hk.1) (fun k hk => hk.1) (fun k hk => hk.2)⟩, ⟨HQ.out.mono (fun k hk => hk.1)⟩⟩
            case rest =>
              clear HS HFD HK HIN HLK HL9 hi0 hi1 HSE
              obtain ⟨g11, A0', c0', A1', c1', A2', c2', rfl, rfl, rfl, HX, HS, HQ⟩ := hcut
              rcases HR4.out with ⟨e4, hgo⟩ | ⟨e4, d, e3, hgo⟩
              · subst e4
                have HGo2 := Lib.hid hgo
                clear hgo HR4 HGo
                go_wp2
                go_roundg (es.length - (i + 1))
                case measure => have := HD.out; omega
                case rel => exact ⟨i + 1, A0, c0, a, A1, c1, b, vs, ps, by go_num, by omega, ⟨rfl⟩, ⟨HGo2.out⟩, ⟨HS.out⟩⟩
              · subst e4
                subst e3
                have HGo2 := Lib.hid hgo
                clear hgo HR4 HGo
                have q0 : wc.cell? ⟨g11, 0, none⟩ = some (.slice A0' r1.length c0') := (blk_cell HX.out 0).trans rfl
                have q1 : wc.cell? ⟨g11, 1, none⟩ = some (.slice A1' r2.length c1') := (blk_cell HX.out 1).trans rfl
                go_wp2_with (first | ((with_reducible refine gate_store (t := 26) (p := 5) rfl ?_); refine store_row rfl rfl rfl g7 _ 26 [.slice A0' r1.length c0', .slice A1' r2.length c1'] rfl (.agg #[.slice A0' r1.length c0', .slice A1' r2.length c1']) ?haA ?hbA HS.out.x7 rfl (by kernel_rfl) (two26 A0' r1.length c0' A1' r2.length c1') ?_; (case haA => rfl); (case hbA => first | rfl | simp [Value.cells]); intro w5 hbox hg hz; have n_ := Lib.hid (HS.out.root hbox hg HQ.out.f0 HQ.out.h0 HQ.out.f1 HQ.out.h1); clear HS; have HS := n_; clear n_; have n_ := Lib.hid (HQ.out.far hg (fun k hk => hk.1)); clear HQ; have HQ := n_; clear n_ hbox hg hz q0 q1 HX; refine Hold.go ?_))
                obtain ⟨ad2, A7, c7, e7, hx0, hx1, hx2, hl7, hf7⟩ := leaf_of HQ.out.f2 0 (by simp)
                subst e7
                have hd : rd_T28 [d] ((0 : Nat) : Int) = d := rfl
                rw [hd] at hx0 hx1 hx2 hl7 hf7
                have HLV := Lib.hid (show LeafV w5 (fun k => k ≠ g7 ∧ k ≠ bm) d (.agg #[.int .i64 d.f0, .slice A7 d.f1.length c7, .bool d.f2]) from ⟨A7, c7, rfl, hl7, hf7⟩)
                have hz0 : (ad2.add (0 * 3)) = ad2 := by simp [Addr.add]
                have hz1 : ad2.add 0 = ad2 := by simp [Addr.add]
                rw [hz0] at hx0 hx1 hx2
                have hx0b : w5.cell? (ad2.add 0) = some (.int .i64 d.f0) := by rw [hz1]; exact hx0
                clear hz0 hz1
                clear hl7 hf7 hd HQ
                refine Hold.of ?_
                go_wp2_with (first | (at_mapUpdate; refine wpList_update_imap rfl _ _ _ 31 rfl 3 28 Try.underlying31 Try.underlying3 bm vs rfl HS.out.im no rfl (.agg #[.int .i64 d.f0, .slice A7 d.f1.length c7, .bool d.f2]) rfl ?_; intro w6 hm hg hz; have n_ := Lib.hid (HS.out.put (k := no) (c := d) HLV.out hm hg); clear HS; have HS := n_; clear n_ hm hg hz hx0 hx0b hx1 hx2))
                go_roundg (es.length - (i + 1))
                case measure => have := HD.out; omega
                case rel => exact ⟨i + 1, A0', c0', r1, A1', c1', r2, putP no (.agg #[.int .i64 d.f0, .slice A7 d.f1.length c7, .bool d.f2]) vs, putP no d ps, by go_num, by omega, ⟨rfl⟩, ⟨HGo2.out⟩, ⟨HS.out⟩⟩
        · have hie : i = es.length := by omega
          subst hie
          obtain ⟨hb1, ha1, lf, hk, hnil⟩ := HG.out.fin a b ps HGo.out
          have hlb : ((b.length : Int) == 1) = true := beq_iff_eq.mpr (by omega)
          have hla : ((a.length : Int) == 0) = true := beq_iff_eq.mpr (by omega)
          have hlf : ((lf.f1.length : Int) == 0) = true := beq_iff_eq.mpr (by rw [hnil]; rfl)
          have hb0 := eq_true (show (0 : Int) < (b.length : Int) by omega)
          obtain ⟨v, hlk, A9, c9, rfl, hl9, hf9⟩ := HS.out.av.lkp_some hk
          obtain ⟨ad5, e5, hx5⟩ := Kd.at_int (Kd.F_now HS.out.f1) 0 (by omega) (by omega)
          subst e5
          have HLK := Lib.hid hlk
          have q0 := HS.out.cell0
          have q1 := HS.out.cell1
          generalize rd b 0 = no at *
          simp only [Int.toNat_zero] at hx5
          have hz1 : ad5.add 0 = ad5 := by simp [Addr.add]
          have hx5b := hx5
          rw [hz1] at hx5b
          have hbn : 0 < b.length := by omega
          have hbd : decide (0 < b.length) = true := decide_eq_true hbn
          have hbe : decide ((0 : Int) < (b.length : Int)) = true := decide_eq_true (by omega)
          have hbm := eq_true hbn
          clear hz1 hbn
          clear hb1 ha1 hk hnil hlk hl9 hf9 HG HGo HD
          go_wp2_with (first | (at_lookup; refine gate_guard (by rfl) ?_; refine wpList_lookup_imap rfl _ _ 31 false rfl 3 28 Try.underlying31 Try.underlying3 (.agg #[.int .i64 0, .slice none 0 0, .bool false]) (zero28 _) bm vs rfl HS.out.im no rfl ?_; rw [HLK.out]))
          go_ret
          exact ⟨rfl, HS.out.below⟩
end Go.Proofs.Ytneagipmllgejaa.PL
end
