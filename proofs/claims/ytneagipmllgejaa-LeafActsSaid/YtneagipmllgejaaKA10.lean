/- A part of the proof: lemmas that the row uses, laid together by a program of this session's (pack.py) out of its texts and of what the kit's printer wrote for this seat. -/
import Derived.Shelf.SlicesE.Delete
import Derived.Lib.OwnBridge
import Derived.Outline
import Derived.RegionTactic
import Derived.Deep.RegionWith
import Derived.Test.YtneagipmllgejaaKA0
import Derived.Test.YtneagipmllgejaaKA1
import Derived.Test.YtneagipmllgejaaKA2
import Derived.Test.YtneagipmllgejaaKA3
import Derived.Test.YtneagipmllgejaaKA4
import Derived.Test.YtneagipmllgejaaKA5
import Derived.Test.YtneagipmllgejaaKA6
import Derived.Test.YtneagipmllgejaaKA7
import Derived.Test.YtneagipmllgejaaKA8
import Derived.Test.YtneagipmllgejaaKA9
section
set_option linter.unusedVariables false
set_option linter.unusedSimpArgs false
namespace Go.Proofs.Ytneagipmllgejaa.PL
open Go.Shelf Go.RowKit Go.Lib Go.Sort Go.Proofs.YtneagipmllgejaaW.PrintWords Go.Proofs.YtneagipmllgejaaW.PrintLast Go.Proofs.YtneagipmllgejaaW.PrintMore Go.Proofs.YtneagipmllgejaaH
/-- A list without its element i. -/
def cutAt {α : Type} (i : Nat) (l : List α) : List α := l.take i ++ l.drop (i + 1)
theorem cutAt_len {α : Type} {i : Nat} {l : List α} (h : i < l.length) : (cutAt i l).length + 1 = l.length := by unfold cutAt; simp; omega
def l45_ren : Go.Shelf.Ren := ⟨fun | 45 => 45 | n => n, fun | 22 => 22 | 23 => 9 | 3 => 3 | 4 => 4 | 0 => 0 | n => n, fun | n => n⟩
theorem l45 : SlLaysE.n45 Try.prog l45_ren := {
  mixed := by kernel_rfl
  f45 := ⟨Try.f45.name, by decide, Try.func45.trans (congrArg some (by kernel_rfl))⟩
  t0 := Try.underlying0
  a0 := Try.isAgg0
  z0 := Try.sizeOf0
  v0 := Try.zeroValue0
  t3 := Try.underlying3
  a3 := Try.isAgg3
  z3 := Try.sizeOf3
  v3 := Try.zeroValue3
  t4 := Try.underlying4
  a4 := Try.isAgg4
  z4 := Try.sizeOf4
  v4 := Try.zeroValue4
  t22 := Try.underlying22
  a22 := Try.isAgg22
  z22 := Try.sizeOf22
  v22 := Try.zeroValue22
  a23 := Try.isAgg9
  z23 := Try.sizeOf9 }
def l46_ren : Go.Shelf.Ren := ⟨fun | 45 => 46 | n => n, fun | 22 => 24 | 23 => 3 | 3 => 3 | 4 => 4 | 0 => 0 | n => n, fun | n => n⟩
theorem l46 : SlLaysE.n45 Try.prog l46_ren := {
  mixed := by kernel_rfl
  f45 := ⟨Try.f46.name, by decide, Try.func46.trans (congrArg some (by kernel_rfl))⟩
  t0 := Try.underlying0
  a0 := Try.isAgg0
  z0 := Try.sizeOf0
  v0 := Try.zeroValue0
  t3 := Try.underlying3
  a3 := Try.isAgg3
  z3 := Try.sizeOf3
  v3 := Try.zeroValue3
  t4 := Try.underlying4
  a4 := Try.isAgg4
  z4 := Try.sizeOf4
  v4 := Try.zeroValue4
  t22 := Try.underlying24
  a22 := Try.isAgg24
  z22 := Try.sizeOf24
  v22 := Try.zeroValue24
  a23 := Try.isAgg3
  z23 := Try.sizeOf3 }
theorem grown_putS {w : World} {g q : Nat} {d : Array ByteArray} : w.grownBy (putRow (Value.string) (Sort.ahead w q) g 0 d) (some g) :=
  ⟨rfl, rfl, rfl, by simp [putRow, mapBlock, Sort.ahead], fun k hk hne => by simp [putRow, mapBlock, Sort.ahead, Array.getElem?_modify, show g ≠ k from fun e => hne (by rw [e])]⟩
set_option maxRecDepth 100000 in
/-- One element is taken out of a row of one's own. -/
theorem delS_at {base : Nat} {ok : Nat → Prop} {v : Value} {xs : List ByteArray} {i : Nat} {w0 w : World} (HO : (Kd.string).R 9 w base ok v xs) (hB : Below base w0 w) (hi : i < xs.length) {p q : Int} (hp : p = (i : Int)) (hq : q = ((i + 1 : Nat) : Int)) :
    Calls Try.prog 45 #[v, .int .i64 p, .int .i64 q] w fun e w' => ∃ v1, e = .returned v1 ∧ (Kd.string).R 9 w' base (fun _ => True) v1 (cutAt i xs) ∧ Below base w0 w' ∧ w.grownBy w' v.ownBlock ∧ (v1.ownBlock = v.ownBlock ∨ ∃ b, v1.ownBlock = some b ∧ w.heap.size ≤ b) := by
  subst hp
  subst hq
  have hown := Kd.own_of_R HO
  have hv : v ≠ .slice none 0 0 := fun e => by
    subst e
    rcases hown.2 with ⟨_, hz⟩ | ⟨g, cap, cur, e0, _⟩
    · have : xs.length = 0 := hz
      omega
    · cases e0
  obtain ⟨g, cap, rfl, hbg, hlt, hn, hm, _, hH⟩ := holds_of_ownsRow (enc := Value.string) hown hv
  obtain ⟨i0, hi0, hz1⟩ : ∃ i0, Try.prog.info? (l45_ren.t 23) = some i0 ∧ i0.size = 1 := by
    have h := info9
    cases h2 : Try.prog.info? 9 with
    | none => rw [h2] at h; cases h
    | some i0 => rw [h2] at h; simp at h; exact ⟨i0, h2, h.2.1⟩
  have hcon := AnyE.slices_Delete l45 (Value.string) (fun _ => rfl) (⟨#[]⟩ : ByteArray) Try.zeroValue9 i0 hi0 hz1 g 0 cap i (i + 1) xs.toArray w hH (by simpa using hn) (by unfold maxLen at hm; omega) (by omega) (by simp; omega)
  change Calls Try.prog 45 _ _ _ at hcon
  rw [List.size_toArray] at hcon
  refine hcon.mono ?_
  rintro e w1 ⟨rfl, q, rfl⟩
  have hl : (xs.take i ++ xs.drop (i + 1)).length = xs.length - 1 := by simp; omega
  have hrow := ownsRow_putRow (q := q) (k := xs.length - 1) (ys := xs.take i ++ xs.drop (i + 1) ++ List.replicate (i + 1 - i) (⟨#[]⟩ : ByteArray)) hown (by simp; omega) (by omega)
  rw [List.take_left' hl] at hrow
  have e1 : xs.length - (i + 1 - i) = (xs.take i ++ xs.drop (i + 1)).length := by rw [hl]; omega
  show ∃ v1, _ ∧ _ ∧ _ ∧ _ ∧ _
  unfold cutAt
  refine ⟨_, rfl, ?_, below_putRow hB hbg, grown_putS, .inl rfl⟩
  rw [e1]
  rw [← hl] at hrow
  exact Kd.R_of_own (h1 := fun _ => rfl) hrow (fun _ _ => trivial)
theorem grown_putI {w : World} {g q : Nat} {d : Array Int} : w.grownBy (putRow (Value.int .i64) (Sort.ahead w q) g 0 d) (some g) :=
  ⟨rfl, rfl, rfl, by simp [putRow, mapBlock, Sort.ahead], fun k hk hne => by simp [putRow, mapBlock, Sort.ahead, Array.getElem?_modify, show g ≠ k from fun e => hne (by rw [e])]⟩
set_option maxRecDepth 100000 in
/-- One element is taken out of a row of one's own. -/
theorem delI_at {base : Nat} {ok : Nat → Prop} {v : Value} {xs : List Int} {i : Nat} {w0 w : World} (HO : (Kd.int .i64).R 3 w base ok v xs) (hB : Below base w0 w) (hi : i < xs.length) {p q : Int} (hp : p = (i : Int)) (hq : q = ((i + 1 : Nat) : Int)) :
    Calls Try.prog 46 #[v, .int .i64 p, .int .i64 q] w fun e w' => ∃ v1, e = .returned v1 ∧ (Kd.int .i64).R 3 w' base (fun _ => True) v1 (cutAt i xs) ∧ Below base w0 w' ∧ w.grownBy w' v.ownBlock ∧ (v1.ownBlock = v.ownBlock ∨ ∃ b, v1.ownBlock = some b ∧ w.heap.size ≤ b) := by
  subst hp
  subst hq
  have hown := Kd.own_of_R HO
  have hv : v ≠ .slice none 0 0 := fun e => by
    subst e
    rcases hown.2 with ⟨_, hz⟩ | ⟨g, cap, cur, e0, _⟩
    · have : xs.length = 0 := hz
      omega
    · cases e0
  obtain ⟨g, cap, rfl, hbg, hlt, hn, hm, _, hH⟩ := holds_of_ownsRow (enc := Value.int .i64) hown hv
  obtain ⟨i0, hi0, hz1⟩ : ∃ i0, Try.prog.info? (l46_ren.t 23) = some i0 ∧ i0.size = 1 := by
    have h := info3
    cases h2 : Try.prog.info? 3 with
    | none => rw [h2] at h; cases h
    | some i0 => rw [h2] at h; simp at h; exact ⟨i0, h2, h.2.1⟩
  have hcon := AnyE.slices_Delete l46 (Value.int .i64) (fun _ => rfl) (0 : Int) Try.zeroValue3 i0 hi0 hz1 g 0 cap i (i + 1) xs.toArray w hH (by simpa using hn) (by unfold maxLen at hm; omega) (by omega) (by simp; omega)
  change Calls Try.prog 46 _ _ _ at hcon
  rw [List.size_toArray] at hcon
  refine hcon.mono ?_
  rintro e w1 ⟨rfl, q, rfl⟩
  have hl : (xs.take i ++ xs.drop (i + 1)).length = xs.length - 1 := by simp; omega
  have hrow := ownsRow_putRow (q := q) (k := xs.length - 1) (ys := xs.take i ++ xs.drop (i + 1) ++ List.replicate (i + 1 - i) (0 : Int)) hown (by simp; omega) (by omega)
  rw [List.take_left' hl] at hrow
  have e1 : xs.length - (i + 1 - i) = (xs.take i ++ xs.drop (i + 1)).length := by rw [hl]; omega
  show ∃ v1, _ ∧ _ ∧ _ ∧ _ ∧ _
  unfold cutAt
  refine ⟨_, rfl, ?_, below_putRow hB hbg, grown_putI, .inl rfl⟩
  rw [e1]
  rw [← hl] at hrow
  exact Kd.R_of_own (h1 := fun _ => rfl) hrow (fun _ _ => trivial)
end Go.Proofs.Ytneagipmllgejaa.PL
end
section
namespace Go.Proofs.Ytneagipmllgejaa.PL
open Go.RowKit Go.Proofs.YtneagipmllgejaaW.PrintWords Go.Proofs.YtneagipmllgejaaW.PrintLast Go.Proofs.YtneagipmllgejaaW.PrintMore Go.Proofs.YtneagipmllgejaaH
set_option linter.unusedVariables false
set_option linter.unusedSimpArgs false
def cutS (s : ByteArray) (es : List ByteArray) : List ByteArray := cutAt (loS s es) es
theorem St.fin0 {w W : World} {g3 g4 g6 : Nat} {u0 u1 u3 v0 v1 v3 : Value} {a : List ByteArray} {b : List Int} {no : Int} {es : List ByteArray} {gone : Bool} {x0 x1 : Value} (h : St w W g3 g4 g6 u0 u1 u3 v0 v1 v3 a b no es gone) :
    Kd.N k28 28 ((((W.setCell ⟨g6, 0, none⟩ x0).setCell ⟨g6, 1, none⟩ x1).alloc (.cells #[.int .i64 no, .slice none 0 0, .bool true] 28 (0, 0))).drew) w.heap.size (fun k_ => w.heap.size ≤ k_ ∧ some k_ ≠ v0.ownBlock ∧ some k_ ≠ v1.ownBlock) (.slice (some ⟨W.heap.size, 0, none⟩) 1 1) [⟨no, [], true⟩] := by
  obtain ⟨_, _, _, h3, _, hz⟩ := h.out x0 x1 (.cells #[.int .i64 no, .slice none 0 0, .bool true] 28 (0, 0))
  refine Kd.N_drew (N_one28 ⟨no, [], true⟩ (A1 := none) (c1 := 0) (by rw [← hz]; exact heap_alloc_new _ _) h.below.size ⟨h.below.size, fun e => ?_, fun e => ?_⟩ (Nat.le_refl _) (Kd.F_nil _ _ _))
  · have := Kd.R_lt h.r0 _ e.symm; omega
  · have := Kd.R_lt h.r1 _ e.symm; omega
set_option maxHeartbeats 2000000 in
set_option maxRecDepth 100000 in
theorem rem_wrong (B0 : Option Addr) (d0 : Nat) (a : List ByteArray) (B1 : Option Addr) (d1 : Nat) (b : List Int) (no : Int) (B3 : Option Addr) (d3 : Nat) (es : List ByteArray) (gone : Bool) (s : ByteArray) (w : World) (H : PreL B0 d0 a B1 d1 b no B3 d3 es gone s w) (hk : okL a b no es gone s = false) :
    Calls Try.prog 18 #[.agg #[.slice B0 a.length d0, .slice B1 b.length d1], .agg #[.int .i64 no, .slice B3 es.length d3, .bool gone], .string s] w (InsPost w [] [] [] 100) := by
  have HR0 := Lib.hid H.r0
  have HC0 := Lib.hid H.c0
  have HR1 := Lib.hid H.r1
  have HC1 := Lib.hid H.c1
  have HR3 := Lib.hid H.r3
  have HC3 := Lib.hid H.c3
  have hla := H.la
  have hlb := H.lb
  have hle := H.le
  have hu26 := Try.underlying26
  have hu28 := Try.underlying28

  have HOWN := Lib.hid (show leaf_own.f (a.length + es.length + 10) a b no es gone s = some ([], [], 0, [], false, 100) by rw [own_spec a b no es gone s (by omega) (by omega) (by omega) (by omega), hk]; rfl)
  have HBS := Lib.hid (show slices_BinarySearch_string_string.f (([] : List ByteArray).length + 1) [] s = some ((loS s [] : Int), fndS s []) from search_spec [] s rfl (by simp) (by simp))
  clear H hk
  go_enter Try.func18, Try.ntmps18
  go_wp2_with (first | ((with_reducible refine gate_dst (N := 3) rfl ?_); refine alloc_event ?hg (N := 3) ?hd (fun g => .pointer (some ⟨g, 0, none⟩)) (.cells #[.slice B0 a.length d0, .slice B1 b.length d1] 26 (0, 0)) ?hr ?_; (case hd => rfl); (case hg => rfl); (case hr => first | (go_simp; done) | (go_simp; rfl)); intro g3 hg w1 hbox hb; have HG3 := Lib.hid (show w.heap.size ≤ g3 by omega); have HX3_1 := Lib.hid hbox; have HB1 := Lib.hid (hb); clear hg hbox hb) | ((with_reducible refine gate_dst (N := 4) rfl ?_); refine alloc_event ?hg (N := 4) ?hd (fun g => .pointer (some ⟨g, 0, none⟩)) (.cells #[.int .i64 no, .slice B3 es.length d3, .bool gone] 28 (0, 0)) ?hr ?_; (case hd => rfl); (case hg => rfl); (case hr => first | (go_simp; done) | (go_simp; rfl)); intro g4 hg w2 hbox hb; have HG4 := Lib.hid (show w.heap.size ≤ g4 by rw [hg]; exact HB1.out.size); have HX4_2 := Lib.hid hbox; have HX3_2 := Lib.hid (blk_below HX3_1.out hb); have HN3_4 := Lib.hid (show g3 ≠ g4 by have := blk_lt HX3_1.out; omega); have HB2 := Lib.hid (below_then HB1.out HB1.out.size hb); clear hg hbox hb) | ((with_reducible refine gate_dst (N := 6) rfl ?_); refine alloc_event ?hg (N := 6) ?hd (fun g => .pointer (some ⟨g, 0, none⟩)) (.cells #[.slice none 0 0, .slice none 0 0] 26 (0, 0)) ?hr ?_; (case hd => rfl); (case hg => rfl); (case hr => first | (go_simp; done) | (go_simp; rfl)); intro g6 hg w3 hbox hb; have HG6 := Lib.hid (show w.heap.size ≤ g6 by rw [hg]; exact HB2.out.size); have HX6_3 := Lib.hid hbox; have HX3_3 := Lib.hid (blk_below HX3_2.out hb); have HN3_6 := Lib.hid (show g3 ≠ g6 by have := blk_lt HX3_2.out; omega); have HX4_3 := Lib.hid (blk_below HX4_2.out hb); have HN4_6 := Lib.hid (show g4 ≠ g6 by have := blk_lt HX4_2.out; omega); have HB3 := Lib.hid (below_then HB2.out HB2.out.size hb); clear hg hbox hb; have q30 : w3.cell? ⟨g3, 0, none⟩ = some (.slice B0 a.length d0) := (blk_cell HX3_3.out 0).trans rfl; have q31 : w3.cell? ⟨g3, 1, none⟩ = some (.slice B1 b.length d1) := (blk_cell HX3_3.out 1).trans rfl; have q40 : w3.cell? ⟨g4, 0, none⟩ = some (.int .i64 no) := (blk_cell HX4_3.out 0).trans rfl; have q41 : w3.cell? ⟨g4, 1, none⟩ = some (.slice B3 es.length d3) := (blk_cell HX4_3.out 1).trans rfl; have q42 : w3.cell? ⟨g4, 2, none⟩ = some (.bool gone) := (blk_cell HX4_3.out 2).trans rfl) | (go_at_call 34; refine (leaf_own.calls (a.length + es.length + 10) _ d0 a _ d1 b no _ d3 es gone s (([] : List ByteArray)) (([] : List Int)) (0) (([] : List ByteArray)) (false) (100) _ (Kd.C_below HR0.out HB3.out) HC0.out (Kd.C_below HR1.out HB3.out) HC1.out (Kd.C_below HR3.out HB3.out) HC3.out HOWN.out).mono ?_; rintro e w4 ⟨v0, v1, v3, rfl, h0, h1, h3, hb⟩; obtain ⟨A0, c0, rfl⟩ := Kd.R_slice h0; obtain ⟨A1, c1, rfl⟩ := Kd.R_slice h1; obtain ⟨A3, c3, rfl⟩ := Kd.R_slice h3; have H0_4 := Lib.hid (Kd.R_lower h0 HB3.out.size); have H1_4 := Lib.hid (Kd.R_lower h1 HB3.out.size); have H3_4 := Lib.hid (Kd.R_lower h3 HB3.out.size); have HX3_4 := Lib.hid (blk_below HX3_3.out hb); have HX4_4 := Lib.hid (blk_below HX4_3.out hb); have HX6_4 := Lib.hid (blk_below HX6_3.out hb); have HB4 := Lib.hid (below_then HB3.out HB3.out.size hb); clear h0 h1 h3 hb q30 q31 q40 q41 q42) | ((with_reducible refine gate_store (t := 26) (p := 3) rfl ?_); refine store_row rfl rfl rfl g3 _ 26 [.slice A0 (([] : List ByteArray)).length c0, .slice A1 (([] : List Int)).length c1] rfl (.agg #[.slice A0 (([] : List ByteArray)).length c0, .slice A1 (([] : List Int)).length c1]) ?haA ?hbA HX3_4.out rfl (by kernel_rfl) (two26 A0 (([] : List ByteArray)).length c0 A1 (([] : List Int)).length c1) ?_; (case haA => rfl); (case hbA => first | rfl | simp [Value.cells]); intro w5 hbox hg hz; have HX3_5 := Lib.hid hbox; have HX4_5 := Lib.hid (blk_grown HX4_4.out hg (fun e_ => HN3_4.out (by injection e_ with e_; exact e_.symm))); have HX6_5 := Lib.hid (blk_grown HX6_4.out hg (fun e_ => HN3_6.out (by injection e_ with e_; exact e_.symm))); have H0_5 := Lib.hid (Kd.R_grown1 H0_4.out rfl hg (Kd.R_ne H0_4.out HX3_4.out (by decide))); have H1_5 := Lib.hid (Kd.R_grown1 H1_4.out rfl hg (Kd.R_ne H1_4.out HX3_4.out (by decide))); have H3_5 := Lib.hid (Kd.R_grown1 H3_4.out rfl hg (Kd.R_ne H3_4.out HX3_4.out (by decide))); have HB5 := Lib.hid (below_own HB4.out hg HG3.out HB4.out.size); clear hbox hg hz) | ((with_reducible refine gate_store (t := 28) (p := 4) rfl ?_); refine store_row rfl rfl rfl g4 _ 28 [.int .i64 (0), .slice A3 (([] : List ByteArray)).length c3, .bool false] rfl (.agg #[.int .i64 (0), .slice A3 (([] : List ByteArray)).length c3, .bool false]) ?haB ?hbB HX4_5.out rfl (by kernel_rfl) (three28 (0) A3 (([] : List ByteArray)).length c3 false) ?_; (case haB => rfl); (case hbB => first | rfl | simp [Value.cells]); intro w6 hbox hg hz; have HS6 := Lib.hid (St.first HB5.out HX3_5.out HX4_5.out HX6_5.out H0_5.out H1_5.out H3_5.out HN3_4.out HN3_6.out HN4_6.out HG3.out HG4.out HG6.out hbox hg); clear hbox hg hz; refine Hold.go ?_))
  clear HX3_1 HX3_2 HX4_2 HX3_3 HX4_3 HX6_3 HX3_4 HX4_4 HX6_4 HX3_5 HX4_5 HX6_5 H0_4 H1_4 H3_4 H0_5 H1_5 H3_5 HB1 HB2 HB3 HB4 HB5 HN3_4 HN3_6 HN4_6 HG3 HG4 HG6 HOWN
  obtain ⟨q30, q31, q40, q41, q42⟩ := HS6.out.cells
  refine Hold.of ?_
  go_wp2_with (first | (go_at_call 35; refine (slices_BinarySearch_string_string.calls ((([] : List ByteArray)).length + 1) A3 c3 (([] : List ByteArray)) s (loS s (([] : List ByteArray)) : Int) (fndS s (([] : List ByteArray))) _ (Kd.R_reads' HS6.out.r3).2.2 (Kd.R_reads' HS6.out.r3).2.1 HBS.out).mono ?_; rintro e w7 ⟨rfl, hd⟩; have HS7 := Lib.hid (HS6.out.step hd.below); clear hd; refine Hold.go ?_))
  clear q30 q31 q40 q41 q42
  have HE0 := HS7.out.x6
  have HE := Lib.hid HE0
  clear HE0
  refine Hold.of ?_
  go_wp2_with (first | ((with_reducible refine gate_store (t := 26) (p := 6) rfl ?_); refine store_row rfl rfl rfl g6 _ 26 [.slice none 0 0, .slice none 0 0] rfl (.agg #[.slice none 0 0, .slice none 0 0]) ?haC ?hbC HE.out rfl (by kernel_rfl) (two26 none 0 0 none 0 0) ?_; (case haC => rfl); (case hbC => first | rfl | simp [Value.cells]); intro w8 hbox hg hz; have HX8 := Lib.hid hbox; have HB8 := Lib.hid (below_own HS7.out.below hg HS7.out.b6 HS7.out.below.size); clear hbox hg hz))
  refine bodyPost_ret (results_list (rs := [.cell 6 26, .tmp 7, .tmp 8]) rfl (by simp) (.cell g6 26 #[.slice none 0 0, .slice none 0 0] (0, 0) _ rfl HX8.out Try.underlying26 rfl (by kernel_rfl) (.tmp (.tmp .nil)))) rfl ?_
  exact ⟨_, _, _, rfl, Kd.R_nil _ _ _ _ _, Kd.R_nil _ _ _ _ _, Kd.N_nil _ _ _ _ _, HB8.out⟩
set_option maxHeartbeats 2000000 in
set_option maxRecDepth 100000 in
theorem rem_none (B0 : Option Addr) (d0 : Nat) (a : List ByteArray) (B1 : Option Addr) (d1 : Nat) (b : List Int) (no : Int) (B3 : Option Addr) (d3 : Nat) (es : List ByteArray) (gone : Bool) (s : ByteArray) (w : World) (H : PreL B0 d0 a B1 d1 b no B3 d3 es gone s w) (hk : okL a b no es gone s = true) (hf : fndS s es = false) :
    Calls Try.prog 18 #[.agg #[.slice B0 a.length d0, .slice B1 b.length d1], .agg #[.int .i64 no, .slice B3 es.length d3, .bool gone], .string s] w (InsPost w [] [] [] 101) := by
  have HR0 := Lib.hid H.r0
  have HC0 := Lib.hid H.c0
  have HR1 := Lib.hid H.r1
  have HC1 := Lib.hid H.c1
  have HR3 := Lib.hid H.r3
  have HC3 := Lib.hid H.c3
  have hla := H.la
  have hlb := H.lb
  have hle := H.le
  have hu26 := Try.underlying26
  have hu28 := Try.underlying28

  have HOWN := Lib.hid (show leaf_own.f (a.length + es.length + 10) a b no es gone s = some (a, b, no, es, gone, 0) by rw [own_spec a b no es gone s (by omega) (by omega) (by omega) (by omega), hk]; rfl)
  have HRI := Lib.hid ((leafB_iff.1 (okL_iff.1 hk).1).2.2)
  have hl4 := (leafB_iff.1 (okL_iff.1 hk).1).2.1
  have HBS := Lib.hid (show slices_BinarySearch_string_string.f (es.length + 1) es s = some ((loS s es : Int), fndS s es) from search_spec es s HRI.out (by omega) (by omega))
  clear H hk
  go_enter Try.func18, Try.ntmps18
  go_wp2_with (first | ((with_reducible refine gate_dst (N := 3) rfl ?_); refine alloc_event ?hg (N := 3) ?hd (fun g => .pointer (some ⟨g, 0, none⟩)) (.cells #[.slice B0 a.length d0, .slice B1 b.length d1] 26 (0, 0)) ?hr ?_; (case hd => rfl); (case hg => rfl); (case hr => first | (go_simp; done) | (go_simp; rfl)); intro g3 hg w1 hbox hb; have HG3 := Lib.hid (show w.heap.size ≤ g3 by omega); have HX3_1 := Lib.hid hbox; have HB1 := Lib.hid (hb); clear hg hbox hb) | ((with_reducible refine gate_dst (N := 4) rfl ?_); refine alloc_event ?hg (N := 4) ?hd (fun g => .pointer (some ⟨g, 0, none⟩)) (.cells #[.int .i64 no, .slice B3 es.length d3, .bool gone] 28 (0, 0)) ?hr ?_; (case hd => rfl); (case hg => rfl); (case hr => first | (go_simp; done) | (go_simp; rfl)); intro g4 hg w2 hbox hb; have HG4 := Lib.hid (show w.heap.size ≤ g4 by rw [hg]; exact HB1.out.size); have HX4_2 := Lib.hid hbox; have HX3_2 := Lib.hid (blk_below HX3_1.out hb); have HN3_4 := Lib.hid (show g3 ≠ g4 by have := blk_lt HX3_1.out; omega); have HB2 := Lib.hid (below_then HB1.out HB1.out.size hb); clear hg hbox hb) | ((with_reducible refine gate_dst (N := 6) rfl ?_); refine alloc_event ?hg (N := 6) ?hd (fun g => .pointer (some ⟨g, 0, none⟩)) (.cells #[.slice none 0 0, .slice none 0 0] 26 (0, 0)) ?hr ?_; (case hd => rfl); (case hg => rfl); (case hr => first | (go_simp; done) | (go_simp; rfl)); intro g6 hg w3 hbox hb; have HG6 := Lib.hid (show w.heap.size ≤ g6 by rw [hg]; exact HB2.out.size); have HX6_3 := Lib.hid hbox; have HX3_3 := Lib.hid (blk_below HX3_2.out hb); have HN3_6 := Lib.hid (show g3 ≠ g6 by have := blk_lt HX3_2.out; omega); have HX4_3 := Lib.hid (blk_below HX4_2.out hb); have HN4_6 := Lib.hid (show g4 ≠ g6 by have := blk_lt HX4_2.out; omega); have HB3 := Lib.hid (below_then HB2.out HB2.out.size hb); clear hg hbox hb; have q30 : w3.cell? ⟨g3, 0, none⟩ = some (.slice B0 a.length d0) := (blk_cell HX3_3.out 0).trans rfl; have q31 : w3.cell? ⟨g3, 1, none⟩ = some (.slice B1 b.length d1) := (blk_cell HX3_3.out 1).trans rfl; have q40 : w3.cell? ⟨g4, 0, none⟩ = some (.int .i64 no) := (blk_cell HX4_3.out 0).trans rfl; have q41 : w3.cell? ⟨g4, 1, none⟩ = some (.slice B3 es.length d3) := (blk_cell HX4_3.out 1).trans rfl; have q42 : w3.cell? ⟨g4, 2, none⟩ = some (.bool gone) := (blk_cell HX4_3.out 2).trans rfl) | (go_at_call 34; refine (leaf_own.calls (a.length + es.length + 10) _ d0 a _ d1 b no _ d3 es gone s (a) (b) (no) (es) (gone) (0) _ (Kd.C_below HR0.out HB3.out) HC0.out (Kd.C_below HR1.out HB3.out) HC1.out (Kd.C_below HR3.out HB3.out) HC3.out HOWN.out).mono ?_; rintro e w4 ⟨v0, v1, v3, rfl, h0, h1, h3, hb⟩; obtain ⟨A0, c0, rfl⟩ := Kd.R_slice h0; obtain ⟨A1, c1, rfl⟩ := Kd.R_slice h1; obtain ⟨A3, c3, rfl⟩ := Kd.R_slice h3; have H0_4 := Lib.hid (Kd.R_lower h0 HB3.out.size); have H1_4 := Lib.hid (Kd.R_lower h1 HB3.out.size); have H3_4 := Lib.hid (Kd.R_lower h3 HB3.out.size); have HX3_4 := Lib.hid (blk_below HX3_3.out hb); have HX4_4 := Lib.hid (blk_below HX4_3.out hb); have HX6_4 := Lib.hid (blk_below HX6_3.out hb); have HB4 := Lib.hid (below_then HB3.out HB3.out.size hb); clear h0 h1 h3 hb q30 q31 q40 q41 q42) | ((with_reducible refine gate_store (t := 26) (p := 3) rfl ?_); refine store_row rfl rfl rfl g3 _ 26 [.slice A0 (a).length c0, .slice A1 (b).length c1] rfl (.agg #[.slice A0 (a).length c0, .slice A1 (b).length c1]) ?haA ?hbA HX3_4.out rfl (by kernel_rfl) (two26 A0 (a).length c0 A1 (b).length c1) ?_; (case haA => rfl); (case hbA => first | rfl | simp [Value.cells]); intro w5 hbox hg hz; have HX3_5 := Lib.hid hbox; have HX4_5 := Lib.hid (blk_grown HX4_4.out hg (fun e_ => HN3_4.out (by injection e_ with e_; exact e_.symm))); have HX6_5 := Lib.hid (blk_grown HX6_4.out hg (fun e_ => HN3_6.out (by injection e_ with e_; exact e_.symm))); have H0_5 := Lib.hid (Kd.R_grown1 H0_4.out rfl hg (Kd.R_ne H0_4.out HX3_4.out (by decide))); have H1_5 := Lib.hid (Kd.R_grown1 H1_4.out rfl hg (Kd.R_ne H1_4.out HX3_4.out (by decide))); have H3_5 := Lib.hid (Kd.R_grown1 H3_4.out rfl hg (Kd.R_ne H3_4.out HX3_4.out (by decide))); have HB5 := Lib.hid (below_own HB4.out hg HG3.out HB4.out.size); clear hbox hg hz) | ((with_reducible refine gate_store (t := 28) (p := 4) rfl ?_); refine store_row rfl rfl rfl g4 _ 28 [.int .i64 (no), .slice A3 (es).length c3, .bool gone] rfl (.agg #[.int .i64 (no), .slice A3 (es).length c3, .bool gone]) ?haB ?hbB HX4_5.out rfl (by kernel_rfl) (three28 (no) A3 (es).length c3 gone) ?_; (case haB => rfl); (case hbB => first | rfl | simp [Value.cells]); intro w6 hbox hg hz; have HS6 := Lib.hid (St.first HB5.out HX3_5.out HX4_5.out HX6_5.out H0_5.out H1_5.out H3_5.out HN3_4.out HN3_6.out HN4_6.out HG3.out HG4.out HG6.out hbox hg); clear hbox hg hz; refine Hold.go ?_))
  clear HX3_1 HX3_2 HX4_2 HX3_3 HX4_3 HX6_3 HX3_4 HX4_4 HX6_4 HX3_5 HX4_5 HX6_5 H0_4 H1_4 H3_4 H0_5 H1_5 H3_5 HB1 HB2 HB3 HB4 HB5 HN3_4 HN3_6 HN4_6 HG3 HG4 HG6 HOWN
  obtain ⟨q30, q31, q40, q41, q42⟩ := HS6.out.cells
  refine Hold.of ?_
  go_wp2_with (first | (go_at_call 35; refine (slices_BinarySearch_string_string.calls ((es).length + 1) A3 c3 (es) s (loS s (es) : Int) (fndS s (es)) _ (Kd.R_reads' HS6.out.r3).2.2 (Kd.R_reads' HS6.out.r3).2.1 HBS.out).mono ?_; rintro e w7 ⟨rfl, hd⟩; have HS7 := Lib.hid (HS6.out.step hd.below); clear hd; refine Hold.go ?_))
  clear q30 q31 q40 q41 q42
  have HE := Lib.hid HS7.out.x6
  refine Hold.of ?_
  go_wp2_with (first | ((with_reducible refine gate_store (t := 26) (p := 6) rfl ?_); refine store_row rfl rfl rfl g6 _ 26 [.slice none 0 0, .slice none 0 0] rfl (.agg #[.slice none 0 0, .slice none 0 0]) ?haC ?hbC HE.out rfl (by kernel_rfl) (two26 none 0 0 none 0 0) ?_; (case haC => rfl); (case hbC => first | rfl | simp [Value.cells]); intro w8 hbox hg hz; have HX8 := Lib.hid hbox; have HB8 := Lib.hid (below_own HS7.out.below hg HS7.out.b6 HS7.out.below.size); clear hbox hg hz))
  refine bodyPost_ret (results_list (rs := [.cell 6 26, .tmp 7, .tmp 8]) rfl (by simp) (.cell g6 26 #[.slice none 0 0, .slice none 0 0] (0, 0) _ rfl HX8.out Try.underlying26 rfl (by kernel_rfl) (.tmp (.tmp .nil)))) rfl ?_
  exact ⟨_, _, _, rfl, Kd.R_nil _ _ _ _ _, Kd.R_nil _ _ _ _ _, Kd.N_nil _ _ _ _ _, HB8.out⟩
set_option maxHeartbeats 2000000 in
set_option maxRecDepth 100000 in
theorem rem_some (B0 : Option Addr) (d0 : Nat) (a : List ByteArray) (B1 : Option Addr) (d1 : Nat) (b : List Int) (no : Int) (B3 : Option Addr) (d3 : Nat) (es : List ByteArray) (gone : Bool) (s : ByteArray) (w : World) (H : PreL B0 d0 a B1 d1 b no B3 d3 es gone s w) (hk : okL a b no es gone s = true) (hf : fndS s es = true) (hlt : loS s es < es.length) (h4 : 0 < (cutS s es).length) :
    Calls Try.prog 18 #[.agg #[.slice B0 a.length d0, .slice B1 b.length d1], .agg #[.int .i64 no, .slice B3 es.length d3, .bool gone], .string s] w (InsPost w a b [⟨no, cutS s es, gone⟩] 0) := by
  have HR0 := Lib.hid H.r0
  have HC0 := Lib.hid H.c0
  have HR1 := Lib.hid H.r1
  have HC1 := Lib.hid H.c1
  have HR3 := Lib.hid H.r3
  have HC3 := Lib.hid H.c3
  have hla := H.la
  have hlb := H.lb
  have hle := H.le
  have hu26 := Try.underlying26
  have hu28 := Try.underlying28

  have HOWN := Lib.hid (show leaf_own.f (a.length + es.length + 10) a b no es gone s = some (a, b, no, es, gone, 0) by rw [own_spec a b no es gone s (by omega) (by omega) (by omega) (by omega), hk]; rfl)
  have HRI := Lib.hid ((leafB_iff.1 (okL_iff.1 hk).1).2.2)
  have hl4 := (leafB_iff.1 (okL_iff.1 hk).1).2.1
  have HBS := Lib.hid (show slices_BinarySearch_string_string.f (es.length + 1) es s = some ((loS s es : Int), fndS s es) from search_spec es s HRI.out (by omega) (by omega))
  clear H hk
  have H4 := Lib.hid h4
  clear h4
  go_enter Try.func18, Try.ntmps18
  go_wp2_with (first | ((with_reducible refine gate_dst (N := 3) rfl ?_); refine alloc_event ?hg (N := 3) ?hd (fun g => .pointer (some ⟨g, 0, none⟩)) (.cells #[.slice B0 a.length d0, .slice B1 b.length d1] 26 (0, 0)) ?hr ?_; (case hd => rfl); (case hg => rfl); (case hr => first | (go_simp; done) | (go_simp; rfl)); intro g3 hg w1 hbox hb; have HG3 := Lib.hid (show w.heap.size ≤ g3 by omega); have HX3_1 := Lib.hid hbox; have HB1 := Lib.hid (hb); clear hg hbox hb) | ((with_reducible refine gate_dst (N := 4) rfl ?_); refine alloc_event ?hg (N := 4) ?hd (fun g => .pointer (some ⟨g, 0, none⟩)) (.cells #[.int .i64 no, .slice B3 es.length d3, .bool gone] 28 (0, 0)) ?hr ?_; (case hd => rfl); (case hg => rfl); (case hr => first | (go_simp; done) | (go_simp; rfl)); intro g4 hg w2 hbox hb; have HG4 := Lib.hid (show w.heap.size ≤ g4 by rw [hg]; exact HB1.out.size); have HX4_2 := Lib.hid hbox; have HX3_2 := Lib.hid (blk_below HX3_1.out hb); have HN3_4 := Lib.hid (show g3 ≠ g4 by have := blk_lt HX3_1.out; omega); have HB2 := Lib.hid (below_then HB1.out HB1.out.size hb); clear hg hbox hb) | ((with_reducible refine gate_dst (N := 6) rfl ?_); refine alloc_event ?hg (N := 6) ?hd (fun g => .pointer (some ⟨g, 0, none⟩)) (.cells #[.slice none 0 0, .slice none 0 0] 26 (0, 0)) ?hr ?_; (case hd => rfl); (case hg => rfl); (case hr => first | (go_simp; done) | (go_simp; rfl)); intro g6 hg w3 hbox hb; have HG6 := Lib.hid (show w.heap.size ≤ g6 by rw [hg]; exact HB2.out.size); have HX6_3 := Lib.hid hbox; have HX3_3 := Lib.hid (blk_below HX3_2.out hb); have HN3_6 := Lib.hid (show g3 ≠ g6 by have := blk_lt HX3_2.out; omega); have HX4_3 := Lib.hid (blk_below HX4_2.out hb); have HN4_6 := Lib.hid (show g4 ≠ g6 by have := blk_lt HX4_2.out; omega); have HB3 := Lib.hid (below_then HB2.out HB2.out.size hb); clear hg hbox hb; have q30 : w3.cell? ⟨g3, 0, none⟩ = some (.slice B0 a.length d0) := (blk_cell HX3_3.out 0).trans rfl; have q31 : w3.cell? ⟨g3, 1, none⟩ = some (.slice B1 b.length d1) := (blk_cell HX3_3.out 1).trans rfl; have q40 : w3.cell? ⟨g4, 0, none⟩ = some (.int .i64 no) := (blk_cell HX4_3.out 0).trans rfl; have q41 : w3.cell? ⟨g4, 1, none⟩ = some (.slice B3 es.length d3) := (blk_cell HX4_3.out 1).trans rfl; have q42 : w3.cell? ⟨g4, 2, none⟩ = some (.bool gone) := (blk_cell HX4_3.out 2).trans rfl) | (go_at_call 34; refine (leaf_own.calls (a.length + es.length + 10) _ d0 a _ d1 b no _ d3 es gone s (a) (b) (no) (es) (gone) (0) _ (Kd.C_below HR0.out HB3.out) HC0.out (Kd.C_below HR1.out HB3.out) HC1.out (Kd.C_below HR3.out HB3.out) HC3.out HOWN.out).mono ?_; rintro e w4 ⟨v0, v1, v3, rfl, h0, h1, h3, hb⟩; obtain ⟨A0, c0, rfl⟩ := Kd.R_slice h0; obtain ⟨A1, c1, rfl⟩ := Kd.R_slice h1; obtain ⟨A3, c3, rfl⟩ := Kd.R_slice h3; have H0_4 := Lib.hid (Kd.R_lower h0 HB3.out.size); have H1_4 := Lib.hid (Kd.R_lower h1 HB3.out.size); have H3_4 := Lib.hid (Kd.R_lower h3 HB3.out.size); have HX3_4 := Lib.hid (blk_below HX3_3.out hb); have HX4_4 := Lib.hid (blk_below HX4_3.out hb); have HX6_4 := Lib.hid (blk_below HX6_3.out hb); have HB4 := Lib.hid (below_then HB3.out HB3.out.size hb); clear h0 h1 h3 hb q30 q31 q40 q41 q42) | ((with_reducible refine gate_store (t := 26) (p := 3) rfl ?_); refine store_row rfl rfl rfl g3 _ 26 [.slice A0 (a).length c0, .slice A1 (b).length c1] rfl (.agg #[.slice A0 (a).length c0, .slice A1 (b).length c1]) ?haA ?hbA HX3_4.out rfl (by kernel_rfl) (two26 A0 (a).length c0 A1 (b).length c1) ?_; (case haA => rfl); (case hbA => first | rfl | simp [Value.cells]); intro w5 hbox hg hz; have HX3_5 := Lib.hid hbox; have HX4_5 := Lib.hid (blk_grown HX4_4.out hg (fun e_ => HN3_4.out (by injection e_ with e_; exact e_.symm))); have HX6_5 := Lib.hid (blk_grown HX6_4.out hg (fun e_ => HN3_6.out (by injection e_ with e_; exact e_.symm))); have H0_5 := Lib.hid (Kd.R_grown1 H0_4.out rfl hg (Kd.R_ne H0_4.out HX3_4.out (by decide))); have H1_5 := Lib.hid (Kd.R_grown1 H1_4.out rfl hg (Kd.R_ne H1_4.out HX3_4.out (by decide))); have H3_5 := Lib.hid (Kd.R_grown1 H3_4.out rfl hg (Kd.R_ne H3_4.out HX3_4.out (by decide))); have HB5 := Lib.hid (below_own HB4.out hg HG3.out HB4.out.size); clear hbox hg hz) | ((with_reducible refine gate_store (t := 28) (p := 4) rfl ?_); refine store_row rfl rfl rfl g4 _ 28 [.int .i64 (no), .slice A3 (es).length c3, .bool gone] rfl (.agg #[.int .i64 (no), .slice A3 (es).length c3, .bool gone]) ?haB ?hbB HX4_5.out rfl (by kernel_rfl) (three28 (no) A3 (es).length c3 gone) ?_; (case haB => rfl); (case hbB => first | rfl | simp [Value.cells]); intro w6 hbox hg hz; have HS6 := Lib.hid (St.first HB5.out HX3_5.out HX4_5.out HX6_5.out H0_5.out H1_5.out H3_5.out HN3_4.out HN3_6.out HN4_6.out HG3.out HG4.out HG6.out hbox hg); clear hbox hg hz; refine Hold.go ?_))
  clear HX3_1 HX3_2 HX4_2 HX3_3 HX4_3 HX6_3 HX3_4 HX4_4 HX6_4 HX3_5 HX4_5 HX6_5 H0_4 H1_4 H3_4 H0_5 H1_5 H3_5 HB1 HB2 HB3 HB4 HB5 HN3_4 HN3_6 HN4_6 HG3 HG4 HG6 HOWN
  obtain ⟨q30, q31, q40, q41, q42⟩ := HS6.out.cells
  refine Hold.of ?_
  go_wp2_with (first | (go_at_call 35; refine (slices_BinarySearch_string_string.calls ((es).length + 1) A3 c3 (es) s (loS s (es) : Int) (fndS s (es)) _ (Kd.R_reads' HS6.out.r3).2.2 (Kd.R_reads' HS6.out.r3).2.1 HBS.out).mono ?_; rintro e w7 ⟨rfl, hd⟩; have HS7 := Lib.hid (HS6.out.step hd.below); clear hd; refine Hold.go ?_))
  clear q30 q31 q40 q41 q42
  obtain ⟨q30, q31, q40, q41, q42⟩ := HS7.out.cells
  refine Hold.of ?_
  go_wp2_with (first | (go_at_call 45; refine (delS_at (i := loS s es) HS7.out.r3 HS7.out.below hlt (by omega) (by omega)).mono ?_; rintro e w8 ⟨v8, rfl, hv, hb, hg, hn⟩; obtain ⟨A8, c8, rfl⟩ := Kd.R_slice hv; have HS8 := Lib.hid (St.grew3 HS7.out hv hb hg hn); clear hv hb hg hn q30 q31 q40 q41 q42) | ((with_reducible refine gate_store (t := 22) (p := 43) rfl ?_); refine store_cell rfl rfl rfl g4 1 _ 28 rfl (.slice A8 (cutAt (loS s es) es).length c8) ?haD ?hbD HS8.out.x4 (by simp) (by kernel_rfl) rfl ?_; (case haD => rfl); (case hbD => first | rfl | simp [Value.cells]); intro w10 hbox hg hz; have HS10 := Lib.hid (St.put3 HS8.out hbox hg); clear hbox hg hz; refine Hold.go ?_))
  have h4 := H4.out
  clear H4
  unfold cutS at h4
  show Hold _
  generalize hids : cutAt (loS s es) es = ids at *
  have HI := Lib.hid (show cutS s es = ids from hids)
  have hlb : decide ((0 : Int) < (ids.length : Int)) = true := decide_eq_true (by omega)
  have hlc : decide (0 < ids.length) = true := decide_eq_true h4
  clear HS6 HS7 HS8 HBS HRI hf hlt hids
  obtain ⟨q30, q31, q40, q41, q42⟩ := HS10.out.cells
  have q60 : w10.cell? ⟨g6, 0, none⟩ = some (.slice none 0 0) := (blk_cell HS10.out.x6 0).trans rfl
  have q61 : w10.cell? ⟨g6, 1, none⟩ = some (.slice none 0 0) := (blk_cell HS10.out.x6 1).trans rfl
  have f60 := blk_frozen HS10.out.x6 0
  have f61 := blk_frozen HS10.out.x6 1
  have b3 := blk_lt HS10.out.x3
  have b4 := blk_lt HS10.out.x4
  have b6 := blk_lt HS10.out.x6
  have n36 := HS10.out.n36
  have n46 := HS10.out.n46
  have n63 := n36.symm
  have n64 := n46.symm
  refine Hold.of ?_
  go_upto_region 9 with (fail)
  go_region
  all_goals go_wp2
  obtain ⟨hx, e0, e1, _, hb, _⟩ := HS10.out.out (.slice A0 a.length c0) (.slice A1 b.length c1) (.cells #[.int .i64 no, .slice A8 ids.length c8, .bool gone] 28 (0, 0))
  refine bodyPost_ret (results_list (rs := [.cell 6 26, .tmp 7, .tmp 8]) rfl (by simp) (.cell g6 26 #[.slice A0 a.length c0, .slice A1 b.length c1] (0, 0) _ rfl hx Try.underlying26 rfl (by kernel_rfl) (.tmp (.tmp .nil)))) rfl ?_
  rw [HI.out]
  exact ⟨_, _, _, rfl, e0, e1, St.fin1 HS10.out, hb⟩
set_option maxHeartbeats 2000000 in
set_option maxRecDepth 100000 in
theorem rem_last (B0 : Option Addr) (d0 : Nat) (a : List ByteArray) (B1 : Option Addr) (d1 : Nat) (b : List Int) (no : Int) (B3 : Option Addr) (d3 : Nat) (es : List ByteArray) (gone : Bool) (s : ByteArray) (w : World) (H : PreL B0 d0 a B1 d1 b no B3 d3 es gone s w) (hk : okL a b no es gone s = true) (hf : fndS s es = true) (hlt : loS s es < es.length) (h4 : (cutS s es).length = 0) (h5 : b.length = 1) :
    Calls Try.prog 18 #[.agg #[.slice B0 a.length d0, .slice B1 b.length d1], .agg #[.int .i64 no, .slice B3 es.length d3, .bool gone], .string s] w (InsPost w a b [⟨no, cutS s es, gone⟩] 0) := by
  have HR0 := Lib.hid H.r0
  have HC0 := Lib.hid H.c0
  have HR1 := Lib.hid H.r1
  have HC1 := Lib.hid H.c1
  have HR3 := Lib.hid H.r3
  have HC3 := Lib.hid H.c3
  have hla := H.la
  have hlb := H.lb
  have hle := H.le
  have hu26 := Try.underlying26
  have hu28 := Try.underlying28

  have HOWN := Lib.hid (show leaf_own.f (a.length + es.length + 10) a b no es gone s = some (a, b, no, es, gone, 0) by rw [own_spec a b no es gone s (by omega) (by omega) (by omega) (by omega), hk]; rfl)
  have HRI := Lib.hid ((leafB_iff.1 (okL_iff.1 hk).1).2.2)
  have hl4 := (leafB_iff.1 (okL_iff.1 hk).1).2.1
  have HBS := Lib.hid (show slices_BinarySearch_string_string.f (es.length + 1) es s = some ((loS s es : Int), fndS s es) from search_spec es s HRI.out (by omega) (by omega))
  clear H hk
  have H4 := Lib.hid h4
  clear h4
  have H5 := Lib.hid h5
  clear h5
  go_enter Try.func18, Try.ntmps18
  go_wp2_with (first | ((with_reducible refine gate_dst (N := 3) rfl ?_); refine alloc_event ?hg (N := 3) ?hd (fun g => .pointer (some ⟨g, 0, none⟩)) (.cells #[.slice B0 a.length d0, .slice B1 b.length d1] 26 (0, 0)) ?hr ?_; (case hd => rfl); (case hg => rfl); (case hr => first | (go_simp; done) | (go_simp; rfl)); intro g3 hg w1 hbox hb; have HG3 := Lib.hid (show w.heap.size ≤ g3 by omega); have HX3_1 := Lib.hid hbox; have HB1 := Lib.hid (hb); clear hg hbox hb) | ((with_reducible refine gate_dst (N := 4) rfl ?_); refine alloc_event ?hg (N := 4) ?hd (fun g => .pointer (some ⟨g, 0, none⟩)) (.cells #[.int .i64 no, .slice B3 es.length d3, .bool gone] 28 (0, 0)) ?hr ?_; (case hd => rfl); (case hg => rfl); (case hr => first | (go_simp; done) | (go_simp; rfl)); intro g4 hg w2 hbox hb; have HG4 := Lib.hid (show w.heap.size ≤ g4 by rw [hg]; exact HB1.out.size); have HX4_2 := Lib.hid hbox; have HX3_2 := Lib.hid (blk_below HX3_1.out hb); have HN3_4 := Lib.hid (show g3 ≠ g4 by have := blk_lt HX3_1.out; omega); have HB2 := Lib.hid (below_then HB1.out HB1.out.size hb); clear hg hbox hb) | ((with_reducible refine gate_dst (N := 6) rfl ?_); refine alloc_event ?hg (N := 6) ?hd (fun g => .pointer (some ⟨g, 0, none⟩)) (.cells #[.slice none 0 0, .slice none 0 0] 26 (0, 0)) ?hr ?_; (case hd => rfl); (case hg => rfl); (case hr => first | (go_simp; done) | (go_simp; rfl)); intro g6 hg w3 hbox hb; have HG6 := Lib.hid (show w.heap.size ≤ g6 by rw [hg]; exact HB2.out.size); have HX6_3 := Lib.hid hbox; have HX3_3 := Lib.hid (blk_below HX3_2.out hb); have HN3_6 := Lib.hid (show g3 ≠ g6 by have := blk_lt HX3_2.out; omega); have HX4_3 := Lib.hid (blk_below HX4_2.out hb); have HN4_6 := Lib.hid (show g4 ≠ g6 by have := blk_lt HX4_2.out; omega); have HB3 := Lib.hid (below_then HB2.out HB2.out.size hb); clear hg hbox hb; have q30 : w3.cell? ⟨g3, 0, none⟩ = some (.slice B0 a.length d0) := (blk_cell HX3_3.out 0).trans rfl; have q31 : w3.cell? ⟨g3, 1, none⟩ = some (.slice B1 b.length d1) := (blk_cell HX3_3.out 1).trans rfl; have q40 : w3.cell? ⟨g4, 0, none⟩ = some (.int .i64 no) := (blk_cell HX4_3.out 0).trans rfl; have q41 : w3.cell? ⟨g4, 1, none⟩ = some (.slice B3 es.length d3) := (blk_cell HX4_3.out 1).trans rfl; have q42 : w3.cell? ⟨g4, 2, none⟩ = some (.bool gone) := (blk_cell HX4_3.out 2).trans rfl) | (go_at_call 34; refine (leaf_own.calls (a.length + es.length + 10) _ d0 a _ d1 b no _ d3 es gone s (a) (b) (no) (es) (gone) (0) _ (Kd.C_below HR0.out HB3.out) HC0.out (Kd.C_below HR1.out HB3.out) HC1.out (Kd.C_below HR3.out HB3.out) HC3.out HOWN.out).mono ?_; rintro e w4 ⟨v0, v1, v3, rfl, h0, h1, h3, hb⟩; obtain ⟨A0, c0, rfl⟩ := Kd.R_slice h0; obtain ⟨A1, c1, rfl⟩ := Kd.R_slice h1; obtain ⟨A3, c3, rfl⟩ := Kd.R_slice h3; have H0_4 := Lib.hid (Kd.R_lower h0 HB3.out.size); have H1_4 := Lib.hid (Kd.R_lower h1 HB3.out.size); have H3_4 := Lib.hid (Kd.R_lower h3 HB3.out.size); have HX3_4 := Lib.hid (blk_below HX3_3.out hb); have HX4_4 := Lib.hid (blk_below HX4_3.out hb); have HX6_4 := Lib.hid (blk_below HX6_3.out hb); have HB4 := Lib.hid (below_then HB3.out HB3.out.size hb); clear h0 h1 h3 hb q30 q31 q40 q41 q42) | ((with_reducible refine gate_store (t := 26) (p := 3) rfl ?_); refine store_row rfl rfl rfl g3 _ 26 [.slice A0 (a).length c0, .slice A1 (b).length c1] rfl (.agg #[.slice A0 (a).length c0, .slice A1 (b).length c1]) ?haA ?hbA HX3_4.out rfl (by kernel_rfl) (two26 A0 (a).length c0 A1 (b).length c1) ?_; (case haA => rfl); (case hbA => first | rfl | simp [Value.cells]); intro w5 hbox hg hz; have HX3_5 := Lib.hid hbox; have HX4_5 := Lib.hid (blk_grown HX4_4.out hg (fun e_ => HN3_4.out (by injection e_ with e_; exact e_.symm))); have HX6_5 := Lib.hid (blk_grown HX6_4.out hg (fun e_ => HN3_6.out (by injection e_ with e_; exact e_.symm))); have H0_5 := Lib.hid (Kd.R_grown1 H0_4.out rfl hg (Kd.R_ne H0_4.out HX3_4.out (by decide))); have H1_5 := Lib.hid (Kd.R_grown1 H1_4.out rfl hg (Kd.R_ne H1_4.out HX3_4.out (by decide))); have H3_5 := Lib.hid (Kd.R_grown1 H3_4.out rfl hg (Kd.R_ne H3_4.out HX3_4.out (by decide))); have HB5 := Lib.hid (below_own HB4.out hg HG3.out HB4.out.size); clear hbox hg hz) | ((with_reducible refine gate_store (t := 28) (p := 4) rfl ?_); refine store_row rfl rfl rfl g4 _ 28 [.int .i64 (no), .slice A3 (es).length c3, .bool gone] rfl (.agg #[.int .i64 (no), .slice A3 (es).length c3, .bool gone]) ?haB ?hbB HX4_5.out rfl (by kernel_rfl) (three28 (no) A3 (es).length c3 gone) ?_; (case haB => rfl); (case hbB => first | rfl | simp [Value.cells]); intro w6 hbox hg hz; have HS6 := Lib.hid (St.first HB5.out HX3_5.out HX4_5.out HX6_5.out H0_5.out H1_5.out H3_5.out HN3_4.out HN3_6.out HN4_6.out HG3.out HG4.out HG6.out hbox hg); clear hbox hg hz; refine Hold.go ?_))
  clear HX3_1 HX3_2 HX4_2 HX3_3 HX4_3 HX6_3 HX3_4 HX4_4 HX6_4 HX3_5 HX4_5 HX6_5 H0_4 H1_4 H3_4 H0_5 H1_5 H3_5 HB1 HB2 HB3 HB4 HB5 HN3_4 HN3_6 HN4_6 HG3 HG4 HG6 HOWN
  obtain ⟨q30, q31, q40, q41, q42⟩ := HS6.out.cells
  refine Hold.of ?_
  go_wp2_with (first | (go_at_call 35; refine (slices_BinarySearch_string_string.calls ((es).length + 1) A3 c3 (es) s (loS s (es) : Int) (fndS s (es)) _ (Kd.R_reads' HS6.out.r3).2.2 (Kd.R_reads' HS6.out.r3).2.1 HBS.out).mono ?_; rintro e w7 ⟨rfl, hd⟩; have HS7 := Lib.hid (HS6.out.step hd.below); clear hd; refine Hold.go ?_))
  clear q30 q31 q40 q41 q42
  obtain ⟨q30, q31, q40, q41, q42⟩ := HS7.out.cells
  refine Hold.of ?_
  go_wp2_with (first | (go_at_call 45; refine (delS_at (i := loS s es) HS7.out.r3 HS7.out.below hlt (by omega) (by omega)).mono ?_; rintro e w8 ⟨v8, rfl, hv, hb, hg, hn⟩; obtain ⟨A8, c8, rfl⟩ := Kd.R_slice hv; have HS8 := Lib.hid (St.grew3 HS7.out hv hb hg hn); clear hv hb hg hn q30 q31 q40 q41 q42) | ((with_reducible refine gate_store (t := 22) (p := 43) rfl ?_); refine store_cell rfl rfl rfl g4 1 _ 28 rfl (.slice A8 (cutAt (loS s es) es).length c8) ?haD ?hbD HS8.out.x4 (by simp) (by kernel_rfl) rfl ?_; (case haD => rfl); (case hbD => first | rfl | simp [Value.cells]); intro w10 hbox hg hz; have HS10 := Lib.hid (St.put3 HS8.out hbox hg); clear hbox hg hz; refine Hold.go ?_))
  have h4 := H4.out
  clear H4
  unfold cutS at h4
  show Hold _
  generalize hids : cutAt (loS s es) es = ids at *
  have HI := Lib.hid (show cutS s es = ids from hids)
  have hlb : decide ((0 : Int) < (ids.length : Int)) = false := decide_eq_false (by omega)
  have hlc : decide (0 < ids.length) = false := decide_eq_false (by omega)
  have hld : ((b.length : Int) == 1) = true := beq_iff_eq.mpr (by have := H5.out; omega)
  clear h4
  clear HS6 HS7 HS8 HBS HRI hf hlt hids
  obtain ⟨q30, q31, q40, q41, q42⟩ := HS10.out.cells
  have q60 : w10.cell? ⟨g6, 0, none⟩ = some (.slice none 0 0) := (blk_cell HS10.out.x6 0).trans rfl
  have q61 : w10.cell? ⟨g6, 1, none⟩ = some (.slice none 0 0) := (blk_cell HS10.out.x6 1).trans rfl
  have f60 := blk_frozen HS10.out.x6 0
  have f61 := blk_frozen HS10.out.x6 1
  have b3 := blk_lt HS10.out.x3
  have b4 := blk_lt HS10.out.x4
  have b6 := blk_lt HS10.out.x6
  have n36 := HS10.out.n36
  have n46 := HS10.out.n46
  have n63 := n36.symm
  have n64 := n46.symm
  refine Hold.of ?_
  go_upto_region 9 with (fail)
  go_region
  all_goals go_wp2
  obtain ⟨hx, e0, e1, _, hb, _⟩ := HS10.out.out (.slice A0 a.length c0) (.slice A1 b.length c1) (.cells #[.int .i64 no, .slice A8 ids.length c8, .bool gone] 28 (0, 0))
  refine bodyPost_ret (results_list (rs := [.cell 6 26, .tmp 7, .tmp 8]) rfl (by simp) (.cell g6 26 #[.slice A0 a.length c0, .slice A1 b.length c1] (0, 0) _ rfl hx Try.underlying26 rfl (by kernel_rfl) (.tmp (.tmp .nil)))) rfl ?_
  rw [HI.out]
  exact ⟨_, _, _, rfl, e0, e1, St.fin1 HS10.out, hb⟩
attribute [local go_sem] max2_int min2_int max_two min_two
set_option maxHeartbeats 4000000 in
set_option maxRecDepth 100000 in
theorem rem_gone (B0 : Option Addr) (d0 : Nat) (a : List ByteArray) (B1 : Option Addr) (d1 : Nat) (b : List Int) (no : Int) (B3 : Option Addr) (d3 : Nat) (es : List ByteArray) (gone : Bool) (s : ByteArray) (w : World) (H : PreL B0 d0 a B1 d1 b no B3 d3 es gone s w) (hk : okL a b no es gone s = true) (hf : fndS s es = true) (hlt : loS s es < es.length) (h4 : (cutS s es).length = 0) (h5 : ¬ b.length = 1) :
    Calls Try.prog 18 #[.agg #[.slice B0 a.length d0, .slice B1 b.length d1], .agg #[.int .i64 no, .slice B3 es.length d3, .bool gone], .string s] w (InsPost w (cutAt (min (atS s a) (a.length - 1)) a) (cutAt (atS s a) b) [⟨no, [], true⟩] 0) := by
  have HR0 := Lib.hid H.r0
  have HC0 := Lib.hid H.c0
  have HR1 := Lib.hid H.r1
  have HC1 := Lib.hid H.c1
  have HR3 := Lib.hid H.r3
  have HC3 := Lib.hid H.c3
  have hla := H.la
  have hlb := H.lb
  have hle := H.le
  have hu26 := Try.underlying26
  have hu28 := Try.underlying28

  have HOWN := Lib.hid (show leaf_own.f (a.length + es.length + 10) a b no es gone s = some (a, b, no, es, gone, 0) by rw [own_spec a b no es gone s (by omega) (by omega) (by omega) (by omega), hk]; rfl)
  have HRI := Lib.hid ((leafB_iff.1 (okL_iff.1 hk).1).2.2)
  have hl4 := (leafB_iff.1 (okL_iff.1 hk).1).2.1
  have HBS := Lib.hid (show slices_BinarySearch_string_string.f (es.length + 1) es s = some ((loS s es : Int), fndS s es) from search_spec es s HRI.out (by omega) (by omega))
  have HRT := Lib.hid (okL_root hk)
  have HAT := Lib.hid (show leaf_at.f (a.length + 1) a b s = some (atS s a : Int) from at_spec a b s HRT.out.2.2 (by omega) (by omega))
  clear H hk
  have H4 := Lib.hid h4
  clear h4
  have H5 := Lib.hid h5
  clear h5
  go_enter Try.func18, Try.ntmps18
  go_wp2_with (first | ((with_reducible refine gate_dst (N := 3) rfl ?_); refine alloc_event ?hg (N := 3) ?hd (fun g => .pointer (some ⟨g, 0, none⟩)) (.cells #[.slice B0 a.length d0, .slice B1 b.length d1] 26 (0, 0)) ?hr ?_; (case hd => rfl); (case hg => rfl); (case hr => first | (go_simp; done) | (go_simp; rfl)); intro g3 hg w1 hbox hb; have HG3 := Lib.hid (show w.heap.size ≤ g3 by omega); have HX3_1 := Lib.hid hbox; have HB1 := Lib.hid (hb); clear hg hbox hb) | ((with_reducible refine gate_dst (N := 4) rfl ?_); refine alloc_event ?hg (N := 4) ?hd (fun g => .pointer (some ⟨g, 0, none⟩)) (.cells #[.int .i64 no, .slice B3 es.length d3, .bool gone] 28 (0, 0)) ?hr ?_; (case hd => rfl); (case hg => rfl); (case hr => first | (go_simp; done) | (go_simp; rfl)); intro g4 hg w2 hbox hb; have HG4 := Lib.hid (show w.heap.size ≤ g4 by rw [hg]; exact HB1.out.size); have HX4_2 := Lib.hid hbox; have HX3_2 := Lib.hid (blk_below HX3_1.out hb); have HN3_4 := Lib.hid (show g3 ≠ g4 by have := blk_lt HX3_1.out; omega); have HB2 := Lib.hid (below_then HB1.out HB1.out.size hb); clear hg hbox hb) | ((with_reducible refine gate_dst (N := 6) rfl ?_); refine alloc_event ?hg (N := 6) ?hd (fun g => .pointer (some ⟨g, 0, none⟩)) (.cells #[.slice none 0 0, .slice none 0 0] 26 (0, 0)) ?hr ?_; (case hd => rfl); (case hg => rfl); (case hr => first | (go_simp; done) | (go_simp; rfl)); intro g6 hg w3 hbox hb; have HG6 := Lib.hid (show w.heap.size ≤ g6 by rw [hg]; exact HB2.out.size); have HX6_3 := Lib.hid hbox; have HX3_3 := Lib.hid (blk_below HX3_2.out hb); have HN3_6 := Lib.hid (show g3 ≠ g6 by have := blk_lt HX3_2.out; omega); have HX4_3 := Lib.hid (blk_below HX4_2.out hb); have HN4_6 := Lib.hid (show g4 ≠ g6 by have := blk_lt HX4_2.out; omega); have HB3 := Lib.hid (below_then HB2.out HB2.out.size hb); clear hg hbox hb; have q30 : w3.cell? ⟨g3, 0, none⟩ = some (.slice B0 a.length d0) := (blk_cell HX3_3.out 0).trans rfl; have q31 : w3.cell? ⟨g3, 1, none⟩ = some (.slice B1 b.length d1) := (blk_cell HX3_3.out 1).trans rfl; have q40 : w3.cell? ⟨g4, 0, none⟩ = some (.int .i64 no) := (blk_cell HX4_3.out 0).trans rfl; have q41 : w3.cell? ⟨g4, 1, none⟩ = some (.slice B3 es.length d3) := (blk_cell HX4_3.out 1).trans rfl; have q42 : w3.cell? ⟨g4, 2, none⟩ = some (.bool gone) := (blk_cell HX4_3.out 2).trans rfl) | (go_at_call 34; refine (leaf_own.calls (a.length + es.length + 10) _ d0 a _ d1 b no _ d3 es gone s (a) (b) (no) (es) (gone) (0) _ (Kd.C_below HR0.out HB3.out) HC0.out (Kd.C_below HR1.out HB3.out) HC1.out (Kd.C_below HR3.out HB3.out) HC3.out HOWN.out).mono ?_; rintro e w4 ⟨v0, v1, v3, rfl, h0, h1, h3, hb⟩; obtain ⟨A0, c0, rfl⟩ := Kd.R_slice h0; obtain ⟨A1, c1, rfl⟩ := Kd.R_slice h1; obtain ⟨A3, c3, rfl⟩ := Kd.R_slice h3; have H0_4 := Lib.hid (Kd.R_lower h0 HB3.out.size); have H1_4 := Lib.hid (Kd.R_lower h1 HB3.out.size); have H3_4 := Lib.hid (Kd.R_lower h3 HB3.out.size); have HX3_4 := Lib.hid (blk_below HX3_3.out hb); have HX4_4 := Lib.hid (blk_below HX4_3.out hb); have HX6_4 := Lib.hid (blk_below HX6_3.out hb); have HB4 := Lib.hid (below_then HB3.out HB3.out.size hb); clear h0 h1 h3 hb q30 q31 q40 q41 q42) | ((with_reducible refine gate_store (t := 26) (p := 3) rfl ?_); refine store_row rfl rfl rfl g3 _ 26 [.slice A0 (a).length c0, .slice A1 (b).length c1] rfl (.agg #[.slice A0 (a).length c0, .slice A1 (b).length c1]) ?haA ?hbA HX3_4.out rfl (by kernel_rfl) (two26 A0 (a).length c0 A1 (b).length c1) ?_; (case haA => rfl); (case hbA => first | rfl | simp [Value.cells]); intro w5 hbox hg hz; have HX3_5 := Lib.hid hbox; have HX4_5 := Lib.hid (blk_grown HX4_4.out hg (fun e_ => HN3_4.out (by injection e_ with e_; exact e_.symm))); have HX6_5 := Lib.hid (blk_grown HX6_4.out hg (fun e_ => HN3_6.out (by injection e_ with e_; exact e_.symm))); have H0_5 := Lib.hid (Kd.R_grown1 H0_4.out rfl hg (Kd.R_ne H0_4.out HX3_4.out (by decide))); have H1_5 := Lib.hid (Kd.R_grown1 H1_4.out rfl hg (Kd.R_ne H1_4.out HX3_4.out (by decide))); have H3_5 := Lib.hid (Kd.R_grown1 H3_4.out rfl hg (Kd.R_ne H3_4.out HX3_4.out (by decide))); have HB5 := Lib.hid (below_own HB4.out hg HG3.out HB4.out.size); clear hbox hg hz) | ((with_reducible refine gate_store (t := 28) (p := 4) rfl ?_); refine store_row rfl rfl rfl g4 _ 28 [.int .i64 (no), .slice A3 (es).length c3, .bool gone] rfl (.agg #[.int .i64 (no), .slice A3 (es).length c3, .bool gone]) ?haB ?hbB HX4_5.out rfl (by kernel_rfl) (three28 (no) A3 (es).length c3 gone) ?_; (case haB => rfl); (case hbB => first | rfl | simp [Value.cells]); intro w6 hbox hg hz; have HS6 := Lib.hid (St.first HB5.out HX3_5.out HX4_5.out HX6_5.out H0_5.out H1_5.out H3_5.out HN3_4.out HN3_6.out HN4_6.out HG3.out HG4.out HG6.out hbox hg); clear hbox hg hz; refine Hold.go ?_))
  clear HX3_1 HX3_2 HX4_2 HX3_3 HX4_3 HX6_3 HX3_4 HX4_4 HX6_4 HX3_5 HX4_5 HX6_5 H0_4 H1_4 H3_4 H0_5 H1_5 H3_5 HB1 HB2 HB3 HB4 HB5 HN3_4 HN3_6 HN4_6 HG3 HG4 HG6 HOWN
  obtain ⟨q30, q31, q40, q41, q42⟩ := HS6.out.cells
  refine Hold.of ?_
  go_wp2_with (first | (go_at_call 35; refine (slices_BinarySearch_string_string.calls ((es).length + 1) A3 c3 (es) s (loS s (es) : Int) (fndS s (es)) _ (Kd.R_reads' HS6.out.r3).2.2 (Kd.R_reads' HS6.out.r3).2.1 HBS.out).mono ?_; rintro e w7 ⟨rfl, hd⟩; have HS7 := Lib.hid (HS6.out.step hd.below); clear hd; refine Hold.go ?_))
  clear q30 q31 q40 q41 q42
  obtain ⟨q30, q31, q40, q41, q42⟩ := HS7.out.cells
  refine Hold.of ?_
  go_wp2_with (first | (go_at_call 45; refine (delS_at (i := loS s es) HS7.out.r3 HS7.out.below hlt (by omega) (by omega)).mono ?_; rintro e w8 ⟨v8, rfl, hv, hb, hg, hn⟩; obtain ⟨A8, c8, rfl⟩ := Kd.R_slice hv; have HS8 := Lib.hid (St.grew3 HS7.out hv hb hg hn); clear hv hb hg hn q30 q31 q40 q41 q42) | ((with_reducible refine gate_store (t := 22) (p := 43) rfl ?_); refine store_cell rfl rfl rfl g4 1 _ 28 rfl (.slice A8 (cutAt (loS s es) es).length c8) ?haD ?hbD HS8.out.x4 (by simp) (by kernel_rfl) rfl ?_; (case haD => rfl); (case hbD => first | rfl | simp [Value.cells]); intro w10 hbox hg hz; have HS10 := Lib.hid (St.put3 HS8.out hbox hg); clear hbox hg hz; refine Hold.go ?_))
  have h4 := H4.out
  clear H4
  unfold cutS at h4
  show Hold _
  generalize hids : cutAt (loS s es) es = ids at *
  have HI := Lib.hid (show cutS s es = ids from hids)
  have hlb : decide ((0 : Int) < (ids.length : Int)) = false := decide_eq_false (by omega)
  have hlc : decide (0 < ids.length) = false := decide_eq_false (by omega)
  have hld : ((b.length : Int) == 1) = false := beq_eq_false_iff_ne.mpr (by have := H5.out; omega)
  have HKB := Lib.hid (show atS s a < b.length by have h1 := HRT.out.2.1; have h2 := atS_le s a; omega)
  have HKA := Lib.hid (show min (atS s a) (a.length - 1) < a.length by have h1 := HRT.out.2.1; have h2 := H5.out; omega)
  have hat1 := atS_le s a
  have hat2 : 1 ≤ a.length := by have h1 := HRT.out.2.1; have h2 := H5.out; omega
  clear h4 HS6 HS7 HS8 HBS HRI hf hlt hids HRT H5
  obtain ⟨q30, q31, q40, q41, q42⟩ := HS10.out.cells
  refine Hold.of ?_
  go_wp2_with (first | (go_at_call 38; refine (leaf_at.calls (a.length + 1) A0 c0 a A1 c1 b s (atS s a : Int) _ (Kd.R_reads' HS10.out.r0).2.2 (Kd.R_reads' HS10.out.r0).2.1 (Kd.R_reads' HS10.out.r1).2.2 (Kd.R_reads' HS10.out.r1).2.1 HAT.out).mono ?_; rintro e w11 ⟨rfl, hb⟩; have HS11 := Lib.hid (HS10.out.step hb); clear hb; clear q30 q31 q40 q41 q42; obtain ⟨q30, q31, q40, q41, q42⟩ := HS11.out.cells) | (go_at_call 46; refine (delI_at (i := atS s a) HS11.out.r1 HS11.out.below HKB.out (by omega) (by omega)).mono ?_; rintro e w12 ⟨v12, rfl, hv, hb, hg, hn⟩; obtain ⟨A12, c12, rfl⟩ := Kd.R_slice hv; have HS12 := Lib.hid (St.grew1 HS11.out hv hb hg); clear hv hb hg hn q30 q31 q40 q41 q42) | ((with_reducible refine gate_store (t := 24) (p := 66) rfl ?_); refine store_cell rfl rfl rfl g3 1 _ 26 rfl (.slice A12 (cutAt (atS s a) b).length c12) ?haE ?hbE HS12.out.x3 (by simp) (by kernel_rfl) rfl ?_; (case haE => rfl); (case hbE => first | rfl | simp [Value.cells]); intro w13 hbox hg hz; have HS13 := Lib.hid (St.put1 HS12.out hbox hg); clear hbox hg hz; obtain ⟨q30, q31, q40, q41, q42⟩ := HS13.out.cells) | (go_at_call 45; refine (delS_at (i := min (atS s a) (a.length - 1)) HS13.out.r0 HS13.out.below HKA.out (by omega) (by omega)).mono ?_; rintro e w14 ⟨v14, rfl, hv, hb, hg, hn⟩; obtain ⟨A14, c14, rfl⟩ := Kd.R_slice hv; have HS14 := Lib.hid (St.grew0 HS13.out hv hb hg hn); clear hv hb hg hn q30 q31 q40 q41 q42) | ((with_reducible refine gate_store (t := 22) (p := 79) rfl ?_); refine store_cell rfl rfl rfl g3 0 _ 26 rfl (.slice A14 (cutAt (min (atS s a) (a.length - 1)) a).length c14) ?haF ?hbF HS14.out.x3 (by simp) (by kernel_rfl) rfl ?_; (case haF => rfl); (case hbF => first | rfl | simp [Value.cells]); intro w15 hbox hg hz; have HS15 := Lib.hid (St.put0 HS14.out hbox hg); clear hbox hg hz; refine Hold.go ?_))
  all_goals (
    refine Hold.of ?_
    obtain ⟨q30, q31, q40, q41, q42⟩ := HS15.out.cells
    have q60 : w15.cell? ⟨g6, 0, none⟩ = some (.slice none 0 0) := (blk_cell HS15.out.x6 0).trans rfl
    have q61 : w15.cell? ⟨g6, 1, none⟩ = some (.slice none 0 0) := (blk_cell HS15.out.x6 1).trans rfl
    have f60 := blk_frozen HS15.out.x6 0
    have f61 := blk_frozen HS15.out.x6 1
    have b3 := blk_lt HS15.out.x3
    have b4 := blk_lt HS15.out.x4
    have b6 := blk_lt HS15.out.x6
    have n36 := HS15.out.n36
    have n46 := HS15.out.n46
    have n63 := n36.symm
    have n64 := n46.symm
    clear HS10 HS11 HS12 HS13 HS14
    go_upto_region 14 with (fail)
    go_region
    all_goals go_wp2
    obtain ⟨hx, e0, e1, _, hb, _⟩ := HS15.out.out (.slice A14 (cutAt (min (atS s a) (a.length - 1)) a).length c14) (.slice A12 (cutAt (atS s a) b).length c12) (.cells #[.int .i64 no, .slice none 0 0, .bool true] 28 (0, 0))
    refine bodyPost_ret (results_list (rs := [.cell 6 26, .tmp 7, .tmp 8]) rfl (by simp) (.cell g6 26 #[.slice A14 (cutAt (min (atS s a) (a.length - 1)) a).length c14, .slice A12 (cutAt (atS s a) b).length c12] (0, 0) _ rfl hx Try.underlying26 rfl (by kernel_rfl) (.tmp (.tmp .nil)))) rfl ?_
    exact ⟨_, _, _, rfl, e0, e1, St.fin0 HS15.out, hb⟩)
theorem fnd_lt {s : ByteArray} {es : List ByteArray} (h : fndS s es = true) : loS s es < es.length := by
  rcases Nat.lt_or_ge (loS s es) es.length with h1 | h1
  · exact h1
  · unfold fndS at h
    rw [List.drop_eq_nil_of_le h1] at h
    cases h
def leaf_Remove.f (a : List ByteArray) (b : List Int) (no : Int) (es : List ByteArray) (gone : Bool) (s : ByteArray) : Option (List ByteArray × List Int × List S28 × Int) :=
  if a.length ≤ 100000 ∧ b.length ≤ 100000 ∧ es.length ≤ 100000 then
    if okL a b no es gone s = false then some ([], [], [], 100)
    else if fndS s es = false then some ([], [], [], 101)
    else if 0 < (cutS s es).length then some (a, b, [⟨no, cutS s es, gone⟩], 0)
    else if b.length = 1 then some (a, b, [⟨no, cutS s es, gone⟩], 0)
    else some (cutAt (min (atS s a) (a.length - 1)) a, cutAt (atS s a) b, [⟨no, [], true⟩], 0)
  else none
theorem leaf_Remove.calls (A0_0 : Option Addr) (c0_0 : Nat) (l0_0 : List ByteArray) (A0_1 : Option Addr) (c0_1 : Nat) (l0_1 : List Int) (a1_0 : Int) (A1_1 : Option Addr) (c1_1 : Nat) (l1_1 : List ByteArray) (a1_2 : Bool) (a2 : ByteArray) (r1 : List ByteArray) (r2 : List Int) (r3 : List S28) (r4 : Int) (w : World) (hr0_0 : Kd.C Kd.string w A0_0 l0_0.length l0_0) (hc0_0 : l0_0.length ≤ c0_0) (hr0_1 : Kd.C (Kd.int .i64) w A0_1 l0_1.length l0_1) (hc0_1 : l0_1.length ≤ c0_1) (hr1_1 : Kd.C Kd.string w A1_1 l1_1.length l1_1) (hc1_1 : l1_1.length ≤ c1_1) (h : leaf_Remove.f l0_0 l0_1 a1_0 l1_1 a1_2 a2 = some (r1, r2, r3, r4)) :
    Calls Try.prog 18 #[.agg #[.slice A0_0 l0_0.length c0_0, .slice A0_1 l0_1.length c0_1], .agg #[.int .i64 a1_0, .slice A1_1 l1_1.length c1_1, .bool a1_2], .string a2] w fun e w' => ∃ v0_ v1_ v2_ : Value, e = .returned (.tuple #[.agg #[v0_, v1_], v2_, .int .i64 r4]) ∧ Kd.R Kd.string 9 w' w.heap.size (fun _ => True) v0_ r1 ∧ Kd.R (Kd.int .i64) 3 w' w.heap.size (fun _ => True) v1_ r2 ∧ Kd.N k28 28 w' w.heap.size (fun k_ => w.heap.size ≤ k_ ∧ some k_ ≠ v0_.ownBlock ∧ some k_ ≠ v1_.ownBlock) v2_ r3 ∧ Below w.heap.size w w' := by
  show Calls Try.prog 18 _ w (InsPost w r1 r2 r3 r4)
  unfold leaf_Remove.f at h
  split at h
  case isFalse => cases h
  rename_i hlim
  have HP : PreL A0_0 c0_0 l0_0 A0_1 c0_1 l0_1 a1_0 A1_1 c1_1 l1_1 a1_2 a2 w := ⟨hr0_0, hc0_0, hr0_1, hc0_1, hr1_1, hc1_1, hlim.1, hlim.2.1, hlim.2.2⟩
  split at h
  · rename_i h1
    cases h
    exact rem_wrong _ _ _ _ _ _ _ _ _ _ _ _ _ HP h1
  rename_i h1
  have h1' : okL l0_0 l0_1 a1_0 l1_1 a1_2 a2 = true := by simpa using h1
  split at h
  · rename_i h2
    cases h
    exact rem_none _ _ _ _ _ _ _ _ _ _ _ _ _ HP h1' h2
  rename_i h2
  have h2' : fndS a2 l1_1 = true := by simpa using h2
  have h3 := fnd_lt h2'
  split at h
  · rename_i h4
    cases h
    exact rem_some _ _ _ _ _ _ _ _ _ _ _ _ _ HP h1' h2' h3 h4
  rename_i h4
  split at h
  · rename_i h5
    cases h
    exact rem_last _ _ _ _ _ _ _ _ _ _ _ _ _ HP h1' h2' h3 (by omega) h5
  · rename_i h5
    cases h
    exact rem_gone _ _ _ _ _ _ _ _ _ _ _ _ _ HP h1' h2' h3 (by omega) h5
end Go.Proofs.Ytneagipmllgejaa.PL
end
section
set_option linter.unusedVariables false
set_option linter.unusedSimpArgs false
namespace Go.Proofs.Ytneagipmllgejaa.PL
open Go.RowKit Go.Proofs.YtneagipmllgejaaW.PrintWords Go.Proofs.YtneagipmllgejaaW.PrintLast Go.Proofs.YtneagipmllgejaaW.PrintMore Go.Proofs.YtneagipmllgejaaH
theorem ne_len {l : List ByteArray} (h : 0 < l.length) : l ≠ [] := fun e => by rw [e] at h; cases h
/-- An index after at most n entries: the root, and the table's leaf for each of its numbers. -/
structure Ind (P : ByteArray → Prop) (n : Nat) (a : List ByteArray) (b : List Int) (t : List (Int × S28)) : Prop where
  root : rootB a b = true
  len : b.length ≤ n + 1
  lf : ∀ i : Nat, i < b.length → ∃ c, lkp (rd b (i : Int)) t = some c ∧ c.f0 = rd b (i : Int) ∧ c.f2 = false ∧ c.f1.length ≤ 4 ∧ riseB c.f1 = true ∧ (∀ e ∈ c.f1, cntLe e a = i) ∧ (∀ e ∈ c.f1, P e) ∧ (1 < b.length → c.f1 ≠ [])
section
variable {P : ByteArray → Prop}
theorem Ind.more {n : Nat} {a : List ByteArray} {b : List Int} {t : List (Int × S28)} (h : Ind P n a b t) : Ind P (n + 1) a b t := ⟨h.root, by have := h.len; omega, h.lf⟩
theorem ind_start : Ind P 0 [] [1] [(1, ⟨1, [], false⟩)] := by
  refine ⟨by decide, by simp, fun i hi => ?_⟩
  · have : i = 0 := by simpa using hi
    subst this
    exact ⟨⟨1, [], false⟩, rfl, rfl, rfl, by simp, rfl, by simp, by simp, by simp⟩
theorem ind_small {n : Nat} {a : List ByteArray} {b : List Int} {t : List (Int × S28)} {s : ByteArray} {c : S28} {i : Nat} (h : Ind P n a b t) (hs : P s) (hi : i = atS s a) (hib : i < b.length)
    (hc0 : c.f0 = rd b (i : Int)) (hc2 : c.f2 = false) (hcr : riseB c.f1 = true) (hce : ∀ e ∈ c.f1, cntLe e a = i) (hcz : ∀ e ∈ c.f1, P e) (hf : fndS s c.f1 = false) (h4 : (insS s c.f1).length ≤ 4) :
    Ind P (n + 1) a b (layP t [⟨rd b (i : Int), insS s c.f1, c.f2⟩]) := by
  obtain ⟨hr1, hr2, hr3⟩ := rootB_iff.1 h.root
  have hnd := (seen_iff.1 hr1).1
  have hm : ∀ e ∈ insS s c.f1, cntLe e a = i ∧ P e := fun e he => by
    rcases mem_ins.1 he with rfl | he
    · exact ⟨by rw [cntLe_rise _ hr3]; exact hi.symm, hs⟩
    · exact ⟨hce e he, hcz e he⟩
  refine ⟨h.root, by have := h.len; omega, fun j hj => ?_⟩
  · show ∃ c', lkp (rd b (j : Int)) (putP (rd b (i : Int)) ⟨rd b (i : Int), insS s c.f1, c.f2⟩ t) = some c' ∧ _
    rw [lkp_putP]
    by_cases e : rd b (i : Int) = rd b (j : Int)
    · rw [if_pos e]
      obtain rfl := rd_inj hnd hib hj e
      exact ⟨_, rfl, rfl, hc2, h4, rise_insS hcr hf, fun e he => (hm e he).1, fun e he => (hm e he).2, fun _ => ne_len (by have := insS_len s c.f1; show 0 < (insS s c.f1).length; omega)⟩
    · rw [if_neg e]
      exact h.lf j hj
theorem ind_split {n : Nat} {a : List ByteArray} {b : List Int} {t : List (Int × S28)} {s : ByteArray} {c : S28} {i : Nat} {m : Int} (h : Ind P n a b t) (hs : P s) (hi : i = atS s a) (hib : i < b.length)
    (hc0 : c.f0 = rd b (i : Int)) (hc2 : c.f2 = false) (hcl : c.f1.length ≤ 4) (hcr : riseB c.f1 = true) (hce : ∀ e ∈ c.f1, cntLe e a = i) (hcz : ∀ e ∈ c.f1, P e) (hf : fndS s c.f1 = false) (h4 : ¬ (insS s c.f1).length ≤ 4) (hm1 : 1 ≤ m) (hm2 : m ∉ b) :
    Ind P (n + 1) (insAt i (rdOf ByteArray.empty (insS s c.f1) 3) a) (insAt (i + 1) m b) (layP t [⟨rd b (i : Int), (insS s c.f1).take 3, c.f2⟩, ⟨m, (insS s c.f1).drop 3, false⟩]) := by
  obtain ⟨hr1, hr2, hr3⟩ := rootB_iff.1 h.root
  obtain ⟨hnd, hpos⟩ := seen_iff.1 hr1
  have hm : ∀ e ∈ insS s c.f1, cntLe e a = i ∧ P e := fun e he => by
    rcases mem_ins.1 he with rfl | he
    · exact ⟨by rw [cntLe_rise _ hr3]; exact hi.symm, hs⟩
    · exact ⟨hce e he, hcz e he⟩
  have hil : (insS s c.f1).length = 5 := by have := insS_len s c.f1; omega
  have hri := rise_insS hcr hf
  generalize insS s c.f1 = ids at *
  have hxm : rdOf ByteArray.empty ids 3 ∈ ids := mem_str (i := 3) (by omega)
  have hzm : rdOf ByteArray.empty ids 0 ∈ ids := mem_str (i := 0) (by omega)
  have hzx : lessB (rdOf ByteArray.empty ids 0) (rdOf ByteArray.empty ids 3) = true := rise_rs hri (i := 0) (j := 3) (by omega) (by omega)
  have htk : ∀ e ∈ ids.take 3, lessB e (rdOf ByteArray.empty ids 3) = true := fun e he => by
    obtain ⟨j, h1, h2, rfl⟩ := mem_take_rs he
    exact rise_rs hri (j := 3) h1 (by omega)
  have hdr : ∀ e ∈ ids.drop 3, lessB e (rdOf ByteArray.empty ids 3) = false := fun e he => by
    obtain ⟨j, h1, h2, rfl⟩ := mem_drop_rs he
    rcases Nat.eq_or_lt_of_le h1 with h3 | h3
    · subst h3; exact less_irrefl _
    · exact less_asymm (rise_rs hri (i := 3) h3 h2)
  have hcx := (hm _ hxm).1
  have hcz2 := (hm _ hzm).1
  have hxz := (hm _ hxm).2
  generalize rdOf ByteArray.empty ids 3 = x at *
  generalize rdOf ByteArray.empty ids 0 = z at *
  have hia : i ≤ a.length := by rw [hi]; exact atS_le s a
  have hbl : (insAt (i + 1) m b).length = b.length + 1 := insAt_len (by omega)
  refine ⟨rootB_iff.2 ⟨seen_iff.2 ⟨nodup_ins hnd hm2, fun y hy => ⟨?_, by simp⟩⟩, ?_, ?_⟩, ?_, ?_⟩
  · rcases mem_ins.1 hy with rfl | hy
    · exact hm1
    · exact (hpos y hy).1
  · rw [hbl, insAt_len hia, hr2]
  · refine rise_ins hr3 (fun y hy => ?_) (fun y hy => ?_)
    · obtain ⟨j, h1, h2, rfl⟩ := mem_take_rs hy
      refine le_less (z := z) ?_ hzx
      cases h5 : lessB z (rdOf ByteArray.empty a (j : Int)) with
      | false => rfl
      | true => have := (at_iff hr3 h2).1 h5; rw [← cntLe_rise _ hr3] at this; omega
    · obtain ⟨j, h1, h2, rfl⟩ := mem_drop_rs hy
      exact (at_iff hr3 h2).2 (by rw [← cntLe_rise _ hr3]; omega)
  · rw [hbl]; have := h.len; omega
  · intro j hj
    rw [hbl] at hj
    rw [rd_ins (by omega)]
    show ∃ c', lkp _ (putP m ⟨m, ids.drop 3, false⟩ (putP (rd b (i : Int)) ⟨rd b (i : Int), ids.take 3, c.f2⟩ t)) = some c' ∧ _
    have old : ∀ j0 : Nat, j0 < b.length → j0 ≠ i → lkp (rd b (j0 : Int)) (putP m ⟨m, ids.drop 3, false⟩ (putP (rd b (i : Int)) ⟨rd b (i : Int), ids.take 3, c.f2⟩ t)) = lkp (rd b (j0 : Int)) t := fun j0 h0 h1 => by
      rw [lkp_putP, if_neg (fun e => hm2 (by rw [e]; exact mem_int h0)), lkp_putP, if_neg (fun e => h1 (rd_inj hnd hib h0 e).symm)]
    by_cases h1 : j < i + 1
    · rw [if_pos h1]
      by_cases h2 : j = i
      · subst h2
        rw [lkp_putP, if_neg (fun e => hm2 (by rw [e]; exact mem_int hib)), lkp_putP, if_pos rfl]
        refine ⟨_, rfl, rfl, hc2, by simp; omega, ?_, fun e he => ?_, fun e he => (hm e (List.mem_of_mem_take he)).2, fun _ => ne_len (by show 0 < (ids.take 3).length; simp; omega)⟩
        · exact riseB_pairwise.2 ((riseB_pairwise.1 hri).sublist (List.take_sublist _ _))
        · rw [cnt_ins, (hm e (List.mem_of_mem_take he)).1, htk e he]; rfl
      · rw [old j (by omega) h2]
        obtain ⟨d, g1, g2, g3, g4, g5, g6, g7, g9⟩ := h.lf j (by omega)
        refine ⟨d, g1, g2, g3, g4, g5, fun e he => ?_, g7, fun _ => g9 (by omega)⟩
        have g8 := g6 e he
        rw [cnt_ins, g8, less_of_cnt (a := a) (by omega)]
        rfl
    · rw [if_neg h1]
      by_cases h2 : j = i + 1
      · rw [if_pos h2]
        rw [lkp_putP, if_pos rfl]
        refine ⟨_, rfl, rfl, rfl, by simp; omega, ?_, fun e he => ?_, fun e he => (hm e (List.mem_of_mem_drop he)).2, fun _ => ne_len (by show 0 < (ids.drop 3).length; simp; omega)⟩
        · exact riseB_pairwise.2 ((riseB_pairwise.1 hri).sublist (List.drop_sublist _ _))
        · rw [cnt_ins, (hm e (List.mem_of_mem_drop he)).1, hdr e he]; simp; omega
      · rw [if_neg h2, old (j - 1) (by omega) (by omega)]
        obtain ⟨d, g1, g2, g3, g4, g5, g6, g7, g9⟩ := h.lf (j - 1) (by omega)
        refine ⟨d, g1, g2, g3, g4, g5, fun e he => ?_, g7, fun _ => g9 (by omega)⟩
        have g8 := g6 e he
        rw [cnt_ins, g8, not_less_of_cnt (a := a) (by omega)]
        simp
        omega
theorem drop_lo {l : List ByteArray} {k : Nat} (h : k < l.length) : l.drop k = rdOf ByteArray.empty l (k : Int) :: l.drop (k + 1) := drop_str h
theorem fnd_at {s : ByteArray} {l : List ByteArray} (h : fndS s l = true) : rdOf ByteArray.empty l (loS s l : Int) = s := by
  have h1 := fnd_lt h
  unfold fndS at h
  rw [drop_lo h1] at h
  exact text_eq (of_decide_eq_true h)
theorem fnd_mem {s : ByteArray} {l : List ByteArray} (hr : riseB l = true) (h : s ∈ l) : fndS s l = true := by
  obtain ⟨j, hj, e⟩ := List.getElem_of_mem h
  have ej : rdOf ByteArray.empty l (j : Int) = s := by rw [← e]; simp [rdOf, List.getD_eq_getElem?_getD, List.getElem?_eq_getElem hj]
  have hlo : j = loS s l := AtP.eq ⟨by omega, fun m hm => by rw [← ej]; exact rise_rs hr hm hj, fun m h1 h2 => by
    rcases Nat.eq_or_lt_of_le h1 with h3 | h3
    · subst h3; rw [ej]; exact less_irrefl _
    · rw [← ej]; exact less_asymm (rise_rs hr h3 h2)⟩
  unfold fndS
  rw [← hlo, drop_lo hj, ej]
  exact decide_eq_true rfl
theorem cut_sub {α : Type} (k : Nat) (l : List α) : (cutAt k l).Sublist l := by
  unfold cutAt
  have h : (l.take k ++ l.drop (k + 1)).Sublist (l.take k ++ l.drop k) := (List.Sublist.refl _).append (by
    rw [← List.drop_drop]; exact List.drop_sublist _ _)
  rwa [List.take_append_drop] at h
theorem cut_mem {s : ByteArray} {l : List ByteArray} (hr : riseB l = true) (hf : fndS s l = true) {e : ByteArray} (he : e ∈ cutS s l) : e ∈ l ∧ e ≠ s := by
  have h1 := fnd_lt hf
  have h2 := fnd_at hf
  refine ⟨(cut_sub _ l).subset he, fun e2 => ?_⟩
  subst e2
  have hp : (l.take (loS e l) ++ e :: l.drop (loS e l + 1)).Pairwise (fun a b => lessB a b = true) := by
    have : l = l.take (loS e l) ++ e :: l.drop (loS e l + 1) := by
      conv => lhs; rw [← List.take_append_drop (loS e l) l, drop_lo h1, h2]
    rw [← this]
    exact riseB_pairwise.1 hr
  obtain ⟨a1, a2, a3⟩ := List.pairwise_append.1 hp
  rcases List.mem_append.1 he with h | h
  · have := a3 e h e (by simp); rw [less_irrefl] at this; cases this
  · have := (List.pairwise_cons.1 a2).1 e h; rw [less_irrefl] at this; cases this
theorem rd_cut {k : Nat} {l : List Int} (hk : k < l.length) (j : Nat) : rd (cutAt k l) (j : Int) = if j < k then rd l (j : Int) else rd l ((j + 1 : Nat) : Int) := by
  unfold cutAt
  simp only [rd, List.getD_eq_getElem?_getD, Int.toNat_natCast]
  by_cases h1 : j < k
  · rw [if_pos h1, List.getElem?_append_left (by simp; omega), List.getElem?_take, if_pos h1]
  · rw [if_neg h1, List.getElem?_append_right (by simp; omega), List.getElem?_drop]
    congr 2
    simp
    omega
theorem cnt_cut (e : ByteArray) {k : Nat} {a : List ByteArray} (hk : k < a.length) : cntLe e a = cntLe e (cutAt k a) + (if lessB e (rdOf ByteArray.empty a (k : Int)) = true then 0 else 1) := by
  have h : a = a.take k ++ rdOf ByteArray.empty a (k : Int) :: a.drop (k + 1) := by
    conv => lhs; rw [← List.take_append_drop k a, drop_lo hk]
  have h2 : cntLe e a = cntLe e (a.take k ++ rdOf ByteArray.empty a (k : Int) :: a.drop (k + 1)) := congrArg (cntLe e) h
  rw [h2]
  unfold cntLe cutAt
  rw [List.countP_append, List.countP_append, List.countP_cons]
  cases lessB e (rdOf ByteArray.empty a (k : Int)) <;> simp <;> omega
theorem ind_keep {n : Nat} {a : List ByteArray} {b : List Int} {t : List (Int × S28)} {s : ByteArray} {c : S28} {i : Nat} (h : Ind P n a b t) (hi : i = atS s a) (hib : i < b.length) (hk : lkp (rd b (i : Int)) t = some c) (hf : fndS s c.f1 = true) (hn : 0 < (cutS s c.f1).length ∨ b.length = 1) :
    Ind (fun e => P e ∧ e ≠ s) n a b (putP (rd b (i : Int)) ⟨rd b (i : Int), cutS s c.f1, c.f2⟩ t) := by
  obtain ⟨hr1, hr2, hr3⟩ := rootB_iff.1 h.root
  have hnd := (seen_iff.1 hr1).1
  refine ⟨h.root, h.len, fun j hj => ?_⟩
  obtain ⟨d, g1, g2, g3, g4, g5, g6, g7, g9⟩ := h.lf j hj
  rw [lkp_putP]
  by_cases e : rd b (i : Int) = rd b (j : Int)
  · rw [if_pos e]
    obtain rfl := rd_inj hnd hib hj e
    rw [hk] at g1
    cases g1
    have hm := fun e he => cut_mem (e := e) g5 hf he
    refine ⟨_, rfl, rfl, g3, ?_, ?_, fun e he => g6 e (hm e he).1, fun e he => ⟨g7 e (hm e he).1, (hm e he).2⟩, fun hb => ?_⟩
    · have := (cut_sub (loS s c.f1) c.f1).length_le; show (cutS s c.f1).length ≤ 4; unfold cutS; omega
    · exact riseB_pairwise.2 ((riseB_pairwise.1 g5).sublist (cut_sub _ _))
    · rcases hn with hn | hn
      · exact ne_len hn
      · omega
  · rw [if_neg e]
    refine ⟨d, g1, g2, g3, g4, g5, g6, fun u hu => ⟨g7 u hu, fun e2 => e ?_⟩, g9⟩
    subst e2
    have := g6 u hu
    rw [cntLe_rise _ hr3] at this
    rw [hi, this]
theorem ind_gone {n : Nat} {a : List ByteArray} {b : List Int} {t : List (Int × S28)} {s : ByteArray} {i : Nat} {d0 : S28} (h : Ind P n a b t) (hi : i = atS s a) (hib : i < b.length) (h1 : ¬ b.length = 1) :
    Ind (fun e => P e ∧ e ≠ s) n (cutAt (min i (a.length - 1)) a) (cutAt i b) (putP (rd b (i : Int)) d0 t) := by
  obtain ⟨hr1, hr2, hr3⟩ := rootB_iff.1 h.root
  obtain ⟨hnd, hpos⟩ := seen_iff.1 hr1
  have hka : min i (a.length - 1) < a.length := by omega
  have la := cutAt_len hka
  have lb := cutAt_len hib
  have hlen := h.len
  refine ⟨rootB_iff.2 ⟨seen_iff.2 ⟨hnd.sublist (cut_sub _ _), fun x hx => ⟨(hpos x ((cut_sub _ _).subset hx)).1, by simp⟩⟩, by omega, riseB_pairwise.2 ((riseB_pairwise.1 hr3).sublist (cut_sub _ _))⟩, by omega, fun j hj => ?_⟩
  rw [rd_cut hib]
  have old : ∀ j0 : Nat, j0 < b.length → j0 ≠ i → lkp (rd b (j0 : Int)) (putP (rd b (i : Int)) d0 t) = lkp (rd b (j0 : Int)) t := fun j0 h0 h2 => by
    rw [lkp_putP, if_neg (fun e => h2 (rd_inj hnd hib h0 e).symm)]
  have key : ∀ j0 : Nat, j0 < b.length → j0 ≠ i → (∀ e : ByteArray, cntLe e a = j0 → cntLe e (cutAt (min i (a.length - 1)) a) = j) → ∃ c, lkp (rd b (j0 : Int)) (putP (rd b (i : Int)) d0 t) = some c ∧ c.f0 = rd b (j0 : Int) ∧ c.f2 = false ∧ c.f1.length ≤ 4 ∧ riseB c.f1 = true ∧ (∀ e ∈ c.f1, cntLe e (cutAt (min i (a.length - 1)) a) = j) ∧ (∀ e ∈ c.f1, P e ∧ e ≠ s) ∧ (1 < (cutAt i b).length → c.f1 ≠ []) := fun j0 h0 h2 h3 => by
    rw [old j0 h0 h2]
    obtain ⟨d, g1, g2, g3, g4, g5, g6, g7, g9⟩ := h.lf j0 h0
    refine ⟨d, g1, g2, g3, g4, g5, fun e he => h3 e (g6 e he), fun e he => ⟨g7 e he, fun e2 => h2 ?_⟩, fun _ => g9 (by omega)⟩
    subst e2
    have := g6 e he
    rw [cntLe_rise _ hr3] at this
    omega
  have hat : ∀ e : ByteArray, lessB e (rdOf ByteArray.empty a ((min i (a.length - 1) : Nat) : Int)) = true ↔ cntLe e a ≤ min i (a.length - 1) := fun e => by
    rw [at_iff hr3 hka, cntLe_rise _ hr3]
  by_cases h2 : j < i
  · rw [if_pos h2]
    refine key j (by omega) (by omega) (fun e he => ?_)
    have h3 := cnt_cut e hka
    rw [if_pos ((hat e).2 (by omega))] at h3
    omega
  · rw [if_neg h2]
    refine key (j + 1) (by omega) (by omega) (fun e he => ?_)
    have h3 := cnt_cut e hka
    rw [if_neg (fun h4 => by have := (hat e).1 h4; omega)] at h3
    omega
theorem Ind.imp {P' : ByteArray → Prop} {n : Nat} {a : List ByteArray} {b : List Int} {t : List (Int × S28)} (h : Ind P n a b t) (hp : ∀ e, P e → P' e) : Ind P' n a b t :=
  ⟨h.root, h.len, fun i hi => by
    obtain ⟨d, g1, g2, g3, g4, g5, g6, g7, g9⟩ := h.lf i hi
    exact ⟨d, g1, g2, g3, g4, g5, g6, fun e he => hp e (g7 e he), g9⟩⟩
end
end Go.Proofs.Ytneagipmllgejaa.PL
end
section
namespace Go.Proofs.Ytneagipmllgejaa.PL
open Go.RowKit Go.Proofs.YtneagipmllgejaaW.PrintWords Go.Proofs.YtneagipmllgejaaW.PrintLast Go.Proofs.YtneagipmllgejaaW.PrintMore
attribute [local go_sem] max2_int min2_int max_two min_two max_three min_three max_four min_four   -- for this text's walks alone
set_option linter.unusedVariables false
set_option linter.unusedSimpArgs false
def cobwebref11_has.l0 : Nat → List ByteArray → ByteArray → Int → Option (Int)
 | 0, _, _, _ => none
 | k + 1, x0, x1, x5 => if x5 < (x0.length : Int) then (if 0 ≤ x5 then (if (rdOf ByteArray.empty x0 x5).toList = x1.toList then (some x5) else (cobwebref11_has.l0 k x0 x1 (wrap64 (x5 + 1)))) else (none)) else (some (-1))
def cobwebref11_has.f (k : Nat) (l0 : List ByteArray) (a1 : ByteArray) : Option (Int) := cobwebref11_has.l0 k l0 a1 0
theorem cobwebref11_has.mono_l : ∀ k, (∀ y0 y1 y2, LeO (cobwebref11_has.l0 k y0 y1 y2) (cobwebref11_has.l0 (k + 1) y0 y1 y2))
 | 0 => fun _ _ _ r h => by simp [cobwebref11_has.l0] at h
 | k + 1 => by
  have ih0 := cobwebref11_has.mono_l k
  ·intro y0 y1 y2
   unfold cobwebref11_has.l0
   repeat' first
   | (with_reducible exact ih0 _ _ _)
   | (with_reducible exact LeO.refl _)
   | (with_reducible exact LeO.none _)
   | (with_reducible refine LeO.ite ?_ ?_)
   | (with_reducible refine LeO.bind ?_ (fun _ => ?_))
   | exact ih0 _ _ _
   | exact LeO.none _
   | refine LeO.ite ?_ ?_
   | refine LeO.bind ?_ (fun _ => ?_)
theorem cobwebref11_has.mono : ∀ a0 a1 k, LeO (cobwebref11_has.f k a0 a1) (cobwebref11_has.f (k + 1) a0 a1) := by
 intro a0 a1 k
 have ih0 := cobwebref11_has.mono_l k
 unfold cobwebref11_has.f
 repeat' first
   | (with_reducible exact ih0 _ _ _)
   | (with_reducible exact LeO.refl _)
   | (with_reducible exact LeO.none _)
   | (with_reducible refine LeO.ite ?_ ?_)
   | (with_reducible refine LeO.bind ?_ (fun _ => ?_))
   | exact ih0 _ _ _
   | exact LeO.none _
   | refine LeO.ite ?_ ?_
   | refine LeO.bind ?_ (fun _ => ?_)
end Go.Proofs.Ytneagipmllgejaa.PL
end
section
set_option linter.unusedVariables false
set_option linter.unusedSimpArgs false
namespace Go.Proofs.Ytneagipmllgejaa.PL
open Go.RowKit Go.Proofs.YtneagipmllgejaaW.PrintWords Go.Proofs.YtneagipmllgejaaW.PrintLast
theorem cmp_lo {l : List ByteArray} {s : ByteArray} (hr : riseB l = true) {i : Nat} (hi : i < l.length) : (i < loS s l ∧ ordB (rdOf ByteArray.empty l (i : Int)) s < 0) ∨ (i = loS s l ∧ fndS s l = true ∧ ordB (rdOf ByteArray.empty l (i : Int)) s = 0) ∨ (loS s l ≤ i ∧ (fndS s l = true → loS s l < i) ∧ 0 < ordB (rdOf ByteArray.empty l (i : Int)) s) := by
  have h1 := lo_iff hr (s := s) hi
  have h2 := at_iff hr (s := s) hi
  by_cases h : i < loS s l
  · exact .inl ⟨h, ord_lt.2 (h1.2 h)⟩
  · have h3 : ¬ ordB (rdOf ByteArray.empty l (i : Int)) s < 0 := fun h4 => h (h1.1 (ord_lt.1 h4))
    by_cases h4 : lessB s (rdOf ByteArray.empty l (i : Int)) = true
    · have h5 := h2.1 h4
      have h6 : 0 < ordB (rdOf ByteArray.empty l (i : Int)) s := by
        rcases Int.lt_or_le 0 (ordB (rdOf ByteArray.empty l (i : Int)) s) with h7 | h7
        · exact h7
        · rw [ord_le.1 h7] at h4; cases h4
      unfold atS at h5
      refine .inr (.inr ⟨by omega, fun hf => ?_, h6⟩)
      rw [if_pos hf] at h5
      omega
    · have h5 : lessB s (rdOf ByteArray.empty l (i : Int)) = false := by simpa using h4
      have h6 := ord_le.2 h5
      have h7 : ¬ atS s l ≤ i := fun h8 => h4 (h2.2 h8)
      unfold atS at h7
      by_cases hf : fndS s l = true
      · rw [if_pos hf] at h7
        exact .inr (.inl ⟨by omega, hf, by omega⟩)
      · rw [if_neg hf] at h7
        omega
end Go.Proofs.Ytneagipmllgejaa.PL
end
section
namespace Go.Proofs.Ytneagipmllgejaa.PL
open Go.RowKit Go.Proofs.YtneagipmllgejaaW.PrintWords Go.Proofs.YtneagipmllgejaaW.PrintLast Go.Proofs.YtneagipmllgejaaW.PrintMore
attribute [local go_sem] max2_int min2_int max_two min_two max_three min_three max_four min_four   -- for this text's walks alone
set_option linter.unusedVariables false
set_option linter.unusedSimpArgs false
mutual
def cobweblaw11_turned.l0 : Nat → List ByteArray → ByteArray → List ByteArray → Bool → Int → Option (List ByteArray)
 | 0, _, _, _, _, _ => none
 | k + 1, x0, x1, x5, x6, x7 => if x7 < (x0.length : Int) then (if 0 ≤ x7 then ((cobwebref02_Order.f k (rdOf ByteArray.empty x0 x7) x1).bind fun t462 => (if t462 ≥ 0 then (cobweblaw11_turned.j1 k x0 x1 x5 x6 x7 t462 (!x6)) else (cobweblaw11_turned.j1 k x0 x1 x5 x6 x7 t462 false))) else (none)) else (if x6 = true then (some x5) else (if x5.length < 8796093022208 then (some (x5 ++ [x1])) else (none)))
def cobweblaw11_turned.j1 : Nat → List ByteArray → ByteArray → List ByteArray → Bool → Int → Int → Bool → Option (List ByteArray)
 | 0, _, _, _, _, _, _, _ => none
 | k + 1, x0, x1, x5, x6, x7, x8, x26 => if x26 = true then (if x8 > 0 then (if x5.length < 8796093022208 then ((some (x5 ++ [x1] : List ByteArray)).bind fun y463 => (if x8 = 0 then (cobweblaw11_turned.l0 k x0 x1 y463 true (wrap64 (x7 + 1))) else (if 0 ≤ x7 then (if x7 < (x0.length : Int) then (if y463.length < 8796093022208 then (cobweblaw11_turned.l0 k x0 x1 (y463 ++ [rdOf ByteArray.empty x0 x7]) true (wrap64 (x7 + 1))) else (none)) else (none)) else (none)))) else (none)) else (if x8 = 0 then (cobweblaw11_turned.l0 k x0 x1 x5 true (wrap64 (x7 + 1))) else (if 0 ≤ x7 then (if x7 < (x0.length : Int) then (if x5.length < 8796093022208 then (cobweblaw11_turned.l0 k x0 x1 (x5 ++ [rdOf ByteArray.empty x0 x7]) true (wrap64 (x7 + 1))) else (none)) else (none)) else (none)))) else (if x8 = 0 then (cobweblaw11_turned.l0 k x0 x1 x5 x6 (wrap64 (x7 + 1))) else (if 0 ≤ x7 then (if x7 < (x0.length : Int) then (if x5.length < 8796093022208 then (cobweblaw11_turned.l0 k x0 x1 (x5 ++ [rdOf ByteArray.empty x0 x7]) x6 (wrap64 (x7 + 1))) else (none)) else (none)) else (none)))
end
def cobweblaw11_turned.f (k : Nat) (l0 : List ByteArray) (a1 : ByteArray) : Option (List ByteArray) := cobweblaw11_turned.l0 k l0 a1 ([] : List ByteArray) false 0
theorem cobweblaw11_turned.mono_l : ∀ k, (∀ y0 y1 y2 y3 y4, LeO (cobweblaw11_turned.l0 k y0 y1 y2 y3 y4) (cobweblaw11_turned.l0 (k + 1) y0 y1 y2 y3 y4)) ∧ (∀ y0 y1 y2 y3 y4 y5 y6, LeO (cobweblaw11_turned.j1 k y0 y1 y2 y3 y4 y5 y6) (cobweblaw11_turned.j1 (k + 1) y0 y1 y2 y3 y4 y5 y6))
 | 0 => ⟨fun _ _ _ _ _ r h => by simp [cobweblaw11_turned.l0] at h, fun _ _ _ _ _ _ _ r h => by simp [cobweblaw11_turned.j1] at h⟩
 | k + 1 => by
  obtain ⟨ih0, ih1⟩ := cobweblaw11_turned.mono_l k
  refine ⟨?_, ?_⟩
  ·intro y0 y1 y2 y3 y4
   unfold cobweblaw11_turned.l0
   repeat' first
   | (with_reducible exact ih0 _ _ _ _ _)
   | (with_reducible exact ih1 _ _ _ _ _ _ _)
   | (with_reducible exact cobwebref02_Order.mono _ _ _)
   | (with_reducible exact LeO.refl _)
   | (with_reducible exact LeO.none _)
   | (with_reducible refine LeO.ite ?_ ?_)
   | (with_reducible refine LeO.bind ?_ (fun _ => ?_))
   | exact ih0 _ _ _ _ _
   | exact ih1 _ _ _ _ _ _ _
   | exact cobwebref02_Order.mono _ _ _
   | exact LeO.none _
   | refine LeO.ite ?_ ?_
   | refine LeO.bind ?_ (fun _ => ?_)
  ·intro y0 y1 y2 y3 y4 y5 y6
   unfold cobweblaw11_turned.j1
   repeat' first
   | (with_reducible exact ih0 _ _ _ _ _)
   | (with_reducible exact ih1 _ _ _ _ _ _ _)
   | (with_reducible exact cobwebref02_Order.mono _ _ _)
   | (with_reducible exact LeO.refl _)
   | (with_reducible exact LeO.none _)
   | (with_reducible refine LeO.ite ?_ ?_)
   | (with_reducible refine LeO.bind ?_ (fun _ => ?_))
   | exact ih0 _ _ _ _ _
   | exact ih1 _ _ _ _ _ _ _
   | exact cobwebref02_Order.mono _ _ _
   | exact LeO.none _
   | refine LeO.ite ?_ ?_
   | refine LeO.bind ?_ (fun _ => ?_)
theorem cobweblaw11_turned.mono : ∀ a0 a1 k, LeO (cobweblaw11_turned.f k a0 a1) (cobweblaw11_turned.f (k + 1) a0 a1) := by
 intro a0 a1 k
 obtain ⟨ih0, ih1⟩ := cobweblaw11_turned.mono_l k
 unfold cobweblaw11_turned.f
 repeat' first
   | (with_reducible exact ih0 _ _ _ _ _)
   | (with_reducible exact ih1 _ _ _ _ _ _ _)
   | (with_reducible exact cobwebref02_Order.mono _ _ _)
   | (with_reducible exact LeO.refl _)
   | (with_reducible exact LeO.none _)
   | (with_reducible refine LeO.ite ?_ ?_)
   | (with_reducible refine LeO.bind ?_ (fun _ => ?_))
   | exact ih0 _ _ _ _ _
   | exact ih1 _ _ _ _ _ _ _
   | exact cobwebref02_Order.mono _ _ _
   | exact LeO.none _
   | refine LeO.ite ?_ ?_
   | refine LeO.bind ?_ (fun _ => ?_)
set_option maxHeartbeats 8000000 in
set_option maxRecDepth 100000 in
theorem cobweblaw11_turned.calls (k : Nat) (A0 : Option Addr) (c0 : Nat) (l0 : List ByteArray) (a1 : ByteArray) (r : List ByteArray) (w : World) (hr0 : Kd.C Kd.string w A0 l0.length l0) (hc0 : l0.length ≤ c0) (h : cobweblaw11_turned.f k l0 a1 = some r) :
  Calls Try.prog 27 #[.slice A0 l0.length c0, .string a1] w fun e w' => ∃ v0_ : Value, e = .returned (v0_) ∧ Kd.R Kd.string 9 w' w.heap.size (fun _ => True) v0_ r ∧ Below w.heap.size w w' := by
 have HR0 := Aside0.mk hr0
 have HC0 := Aside0.mk hc0
 clear hr0 hc0
 have HB := Aside0.mk (Below.refl w.heap.size w)
 have H : (cobweblaw11_turned.l0 k l0 a1 ([] : List ByteArray) false 0) = some r := h
 clear h
 have H' := Aside0.mk H
 clear H
 go_enter Try.func27, Try.ntmps27
 go_wp2
 go_loopg [5, 6, 7] k (fun kq v5 v6 v7 w' => ∃ (x5_1 : List ByteArray) (x6_1 : Bool) (x7_1 : Int), v6 = .bool x6_1 ∧ v7 = .int .i64 x7_1 ∧ Aside0 (cobweblaw11_turned.l0 kq l0 a1 x5_1 x6_1 x7_1 = some r) ∧ Aside0 (kq ≤ k) ∧ Aside0 (Kd.R Kd.string 9 w' w.heap.size (fun _ => True) v5 x5_1) ∧ Aside0 (Below w.heap.size w w'))
 case atStart => exact ⟨(([] : List ByteArray)), (false), (0), (by first | rfl | (simp; done) | (simp [*]; done)), (by first | rfl | (simp; done) | (simp [*]; done)), H', ⟨Nat.le_refl _⟩, ⟨by first | exact Kd.R_nil _ _ _ _ _ | exact Kd.N_nil _ _ _ _ _ | exact Kd.V_nil _ _ _ _ _ | exact Kd.Q_nil _ _ _ _ _ | exact Kd.S_nil _ _ _ _ _⟩, ⟨by repeat (first | (with_reducible first | exact HB.out | apply below_alloc | apply pw_below_drewN | apply below_drew1) | exact HB.out)⟩⟩
 case round =>
  clear H'
  try clear c2
  try clear p2
  obtain ⟨x5_1, x6_1, x7_1, rfl, rfl, HA, HK1, HO_5, HB⟩ := hrel
  cases gk with
  | zero => exact absurd HA.out (by simp [cobweblaw11_turned.l0])
  | succ k1 =>
   have H := HA.out
   clear HA
   simp only [cobweblaw11_turned.l0] at H
   by_cases c3 : x7_1 < (l0.length : Int)
   ·rw [if_pos c3] at H
    have c3b0 : decide (x7_1 < (l0.length : Int)) = true := decide_eq_true c3
    clear c3
    by_cases c4 : 0 ≤ x7_1
    ·rw [if_pos c4] at H
     have c4b0 : decide (0 ≤ x7_1) = true := decide_eq_true c4
     clear c4
     replace H := Option.bind_eq_some_iff.mp H
     obtain ⟨t462, A50, H⟩ := H
     replace H : (if t462 ≥ 0 then (cobweblaw11_turned.j1 k1 l0 a1 x5_1 x6_1 x7_1 t462 (!x6_1)) else (cobweblaw11_turned.j1 k1 l0 a1 x5_1 x6_1 x7_1 t462 false)) = some r := H
     have A5 := Aside0.mk A50
     clear A50
     have HC6 := Aside0.mk H
     clear H
     have p461 : 0 ≤ (x7_1 : Int) := of_decide_eq_true (by first | (with_reducible assumption) | assumption)
     have q461 : x7_1 < (l0.length : Int) := of_decide_eq_true (by first | (with_reducible assumption) | assumption)
     obtain ⟨ad461, e461, hx461_0⟩ := Kd.at_string HR0.out x7_1 p461 q461
     cases e461
     replace hx461_0 := (HB.out.cell (World.block_lt_of_cell? w _ hx461_0)).trans hx461_0
     replace p461 := eq_true p461
     replace q461 := eq_true q461
     go_upto_region 7 with (first | ((with_reducible refine gate_callee (f := 14) rfl ?_); refine goesL_ (some 20) rfl rfl Try.func14 (by kernel_rfl) rfl #[.string (rdOf ByteArray.empty l0 x7_1), .string a1] rfl (by (try simp only [List.map_toArray, List.map_cons, List.map_nil]); first | done | rfl | (simp only [List.length_drop, List.length_take]; rfl)) ?_; (with_reducible refine (cobwebref02_Order.calls k1 (rdOf ByteArray.empty l0 x7_1) a1 t462 _ A5.out).mono ?_); rintro e w' ⟨rfl, ⟨nd, rfl⟩⟩; refine ⟨_, rfl, ?_⟩))
     (try simp only [Act.put, List.setIfInBounds_toArray, List.set_cons_zero, List.set_cons_succ])
     go_cut [26] (fun v26 wc => ∃ (kq : Nat) (x26_5 : Bool), v26 = .bool x26_5 ∧ Aside0 (cobweblaw11_turned.j1 kq l0 a1 x5_1 x6_1 x7_1 t462 x26_5 = some r) ∧ Aside0 (kq ≤ k1) ∧ Aside0 (Kd.R Kd.string 9 wc w.heap.size (fun _ => True) u5 x5_1) ∧ Aside0 (Below w.heap.size w wc))
     case first =>
      have H := HC6.out
      clear HC6
      by_cases c7 : t462 ≥ 0
      ·rw [if_pos c7] at H
       have c7b0 : decide (0 ≤ t462) = true := decide_eq_true c7
       clear c7
       (first | rw [c7b0] | (simp only [i64_w, i32_w]; rw [c7b0]) | skip)
       have H' := Aside0.mk H
       clear H
       go_wp2
       go_meet
       case rel => exact ⟨_, (!x6_1), (by first | rfl | (simp; done) | (simp [*]; done)), H', ⟨by have := HK1.out; first | omega | exact Nat.le_refl _⟩, ⟨by (with_reducible repeat (first | apply Kd.R_alloc | apply Kd.R_drewN | apply Kd.R_drew)); exact HO_5.out⟩, ⟨by repeat (first | (with_reducible first | exact HB.out | apply below_alloc | apply pw_below_drewN | apply below_drew1) | exact HB.out)⟩⟩
      ·rw [if_neg c7] at H
       have c7b0 : decide (0 ≤ t462) = false := decide_eq_false c7
       clear c7
       (first | rw [c7b0] | (simp only [i64_w, i32_w]; rw [c7b0]) | skip)
       have H' := Aside0.mk H
       clear H
       go_wp2
       go_meet
       case rel => exact ⟨_, (false), (by first | rfl | (simp; done) | (simp [*]; done)), H', ⟨by have := HK1.out; first | omega | exact Nat.le_refl _⟩, ⟨by (with_reducible repeat (first | apply Kd.R_alloc | apply Kd.R_drewN | apply Kd.R_drew)); exact HO_5.out⟩, ⟨by repeat (first | (with_reducible first | exact HB.out | apply below_alloc | apply pw_below_drewN | apply below_drew1) | exact HB.out)⟩⟩
     case rest =>
      clear HC6
      try clear c1
      try clear c2
      try clear p2
      try clear c3
      try clear c3b0
      try clear c4
      try clear c4b0
      try clear p4
      try clear q4
      try clear hx4
      try clear c7
      try clear c7b0
      try clear hx461_0
      try clear p2
      try clear p461
      try clear q461
      obtain ⟨kq, x26_5, rfl, HA, HJ5, HO_5, HB⟩ := hcut
      cases kq with
      | zero => exact absurd HA.out (by simp [cobweblaw11_turned.j1])
      | succ kj5 =>
       have H := HA.out
       clear HA
       simp only [cobweblaw11_turned.j1] at H
       by_cases c8 : x26_5 = true
       ·subst c8
        have H1 : (if t462 > 0 then (if x5_1.length < 8796093022208 then ((some (x5_1 ++ [a1] : List ByteArray)).bind fun y463 => (if t462 = 0 then (cobweblaw11_turned.l0 kj5 l0 a1 y463 true (wrap64 (x7_1 + 1))) else (if 0 ≤ x7_1 then (if x7_1 < (l0.length : Int) then (if y463.length < 8796093022208 then (cobweblaw11_turned.l0 kj5 l0 a1 (y463 ++ [rdOf ByteArray.empty l0 x7_1]) true (wrap64 (x7_1 + 1))) else (none)) else (none)) else (none)))) else (none)) else (if t462 = 0 then (cobweblaw11_turned.l0 kj5 l0 a1 x5_1 true (wrap64 (x7_1 + 1))) else (if 0 ≤ x7_1 then (if x7_1 < (l0.length : Int) then (if x5_1.length < 8796093022208 then (cobweblaw11_turned.l0 kj5 l0 a1 (x5_1 ++ [rdOf ByteArray.empty l0 x7_1]) true (wrap64 (x7_1 + 1))) else (none)) else (none)) else (none)))) = some r := by rw [if_pos rfl] at H; exact H
        clear H
        have H := H1
        clear H1
        by_cases c9 : t462 > 0
        ·rw [if_pos c9] at H
         have c9b0 : decide (0 < t462) = true := decide_eq_true c9
         clear c9
         by_cases c10 : x5_1.length < 8796093022208
         ·rw [if_pos c10] at H
          have LMc10 := Aside0.mk c10
          clear c10
          obtain ⟨y463, hy463⟩ : ∃ y_ : List ByteArray, y_ = (x5_1 ++ [a1]) := ⟨_, rfl⟩
          replace H : (if t462 = 0 then (cobweblaw11_turned.l0 kj5 l0 a1 y463 true (wrap64 (x7_1 + 1))) else (if 0 ≤ x7_1 then (if x7_1 < (l0.length : Int) then (if y463.length < 8796093022208 then (cobweblaw11_turned.l0 kj5 l0 a1 (y463 ++ [rdOf ByteArray.empty l0 x7_1]) true (wrap64 (x7_1 + 1))) else (none)) else (none)) else (none))) = some r := by first | (rw [hy463]; with_reducible exact H) | (have H2_ := (Option.bind_some _ _).symm.trans H; rw [hy463]; with_reducible exact H2_) | (have H2_ := (Option.bind_some _ _).symm.trans H; with_reducible exact H2_) | with_reducible exact H | (rw [hy463]; exact H) | exact H
          have Ny463 := Aside0.mk hy463
          clear hy463
          by_cases c11 : t462 = 0
          ·rw [if_pos c11] at H
           have c11b0 : (t462 == 0) = true := beq_iff_eq.mpr c11
           have c11b1 : (t462 != 0) = false := bne_eq_false_iff_eq.mpr c11
           clear c11
           have H' := Aside0.mk H
           clear H
           go_wp2_with (first | ((with_reducible refine gate_builtin (b := .append) (xs := #[.tmp 29, .tmp 31]) rfl ?_); at_builtin; refine Kd.R_append Kd.string (w0 := w) w.heap.size rfl (.tmp 29) (.tmp 31) 22 9 (.string ⟨#[]⟩) 16 rfl Try.underlying22 info9 rfl (by decide) (by omega) u5 x5_1 a1 [.string a1] (fun _ => True) (fun _ => False) rfl rfl ?aP (fun _ hk => hk.elim) ?aF ?aO ?aB ?aS ?aL ?_; (case aP => exact rfl); (case aB => exact (by repeat (first | (with_reducible first | exact HB.out | apply below_alloc | apply pw_below_drewN | apply below_drew1) | exact HB.out))); (case aF => exact (fun _ _ => trivial)); (case aO => exact (by (with_reducible repeat (first | apply Kd.R_alloc | apply Kd.R_drewN | apply Kd.R_drew)); exact HO_5.out)); (case aS => exact (below_size (by repeat (first | (with_reducible first | exact HB.out | apply below_alloc | apply pw_below_drewN | apply below_drew1) | exact HB.out)))); (case aL => have := LMc10.out; omega); intro v464 w12 ho hb hg hat; rw [← Ny463.out] at ho; have n0_ := Aside0.mk (hb); have n1_ := Aside0.mk (ho); clear HB; clear HO_5; have HB := n0_; have HO465 := n1_; clear n0_ n1_; clear ho hb hg hat))
           go_roundg kj5
           case measure => have := HK1.out; have := HJ5.out; omega
           case rel => exact ⟨(y463), (true), (wrap64 (x7_1 + 1)), (by first | rfl | (simp; done) | (simp [*]; done)), (by first | rfl | (simp; done) | (simp [*]; done)), H', ⟨by have := HK1.out; have := HJ5.out; omega⟩, ⟨by (with_reducible repeat (first | apply Kd.R_alloc | apply Kd.R_drewN | apply Kd.R_drew)); exact HO465.out⟩, ⟨by repeat (first | (with_reducible first | exact HB.out | apply below_alloc | apply pw_below_drewN | apply below_drew1) | exact HB.out)⟩⟩
          ·rw [if_neg c11] at H
           have c11b0 : (t462 == 0) = false := beq_eq_false_iff_ne.mpr c11
           have c11b1 : (t462 != 0) = true := bne_iff_ne.mpr c11
           by_cases c13 : 0 ≤ x7_1
           ·rw [if_pos c13] at H
            have c13b0 : decide (0 ≤ x7_1) = true := decide_eq_true c13
            clear c13
            by_cases c14 : x7_1 < (l0.length : Int)
            ·rw [if_pos c14] at H
             have c14b0 : decide (x7_1 < (l0.length : Int)) = true := decide_eq_true c14
             clear c14
             by_cases c15 : y463.length < 8796093022208
             ·rw [if_pos c15] at H
              have LMc15 := Aside0.mk c15
              clear c15
              obtain ⟨y467, hy467⟩ : ∃ y_ : List ByteArray, y_ = (y463 ++ [rdOf ByteArray.empty l0 x7_1]) := ⟨_, rfl⟩
              replace H : (cobweblaw11_turned.l0 kj5 l0 a1 y467 true (wrap64 (x7_1 + 1))) = some r := by first | (rw [hy467]; with_reducible exact H) | (have H2_ := (Option.bind_some _ _).symm.trans H; rw [hy467]; with_reducible exact H2_) | (have H2_ := (Option.bind_some _ _).symm.trans H; with_reducible exact H2_) | with_reducible exact H | (rw [hy467]; exact H) | exact H
              have Ny467 := Aside0.mk hy467
              clear hy467
              have H' := Aside0.mk H
              clear H
              go_wp2_with (first | ((with_reducible refine gate_builtin (b := .append) (xs := #[.tmp 29, .tmp 31]) rfl ?_); at_builtin; refine Kd.R_append Kd.string (w0 := w) w.heap.size rfl (.tmp 29) (.tmp 31) 22 9 (.string ⟨#[]⟩) 16 rfl Try.underlying22 info9 rfl (by decide) (by omega) u5 x5_1 a1 [.string a1] (fun _ => True) (fun _ => False) rfl rfl ?aP (fun _ hk => hk.elim) ?aF ?aO ?aB ?aS ?aL ?_; (case aP => exact rfl); (case aB => exact (by repeat (first | (with_reducible first | exact HB.out | apply below_alloc | apply pw_below_drewN | apply below_drew1) | exact HB.out))); (case aF => exact (fun _ _ => trivial)); (case aO => exact (by (with_reducible repeat (first | apply Kd.R_alloc | apply Kd.R_drewN | apply Kd.R_drew)); exact HO_5.out)); (case aS => exact (below_size (by repeat (first | (with_reducible first | exact HB.out | apply below_alloc | apply pw_below_drewN | apply below_drew1) | exact HB.out)))); (case aL => have := LMc10.out; omega); intro v464 w16 ho hb hg hat; rw [← Ny463.out] at ho; have n0_ := Aside0.mk (hb); have n1_ := Aside0.mk (ho); clear HB; clear HO_5; have HB := n0_; have HO465 := n1_; clear n0_ n1_; clear ho hb hg hat; have p466 : 0 ≤ (x7_1 : Int) := of_decide_eq_true (by first | (with_reducible assumption) | assumption); have q466 : x7_1 < (l0.length : Int) := of_decide_eq_true (by first | (with_reducible assumption) | assumption); obtain ⟨ad466, e466, hx466_0⟩ := Kd.at_string HR0.out x7_1 p466 q466; obtain rfl : ad461 = ad466 := (by injection e466); replace hx466_0 := (HB.out.cell (World.block_lt_of_cell? w _ hx466_0)).trans hx466_0; replace p466 := eq_true p466; replace q466 := eq_true q466) | ((with_reducible refine gate_builtin (b := .append) (xs := #[.tmp 35, .tmp 40]) rfl ?_); at_builtin; refine Kd.R_append Kd.string (w0 := w) w.heap.size rfl (.tmp 35) (.tmp 40) 22 9 (.string ⟨#[]⟩) 16 rfl Try.underlying22 info9 rfl (by decide) (by omega) v464 y463 (rdOf ByteArray.empty l0 x7_1) [.string (rdOf ByteArray.empty l0 x7_1)] (fun _ => True) (fun _ => False) rfl rfl ?aP (fun _ hk => hk.elim) ?aF ?aO ?aB ?aS ?aL ?_; (case aP => exact rfl); (case aB => exact (by repeat (first | (with_reducible first | exact HB.out | apply below_alloc | apply pw_below_drewN | apply below_drew1) | exact HB.out))); (case aF => exact (fun _ _ => trivial)); (case aO => exact (by (with_reducible repeat (first | apply Kd.R_alloc | apply Kd.R_drewN | apply Kd.R_drew)); exact HO465.out)); (case aS => exact (below_size (by repeat (first | (with_reducible first | exact HB.out | apply below_alloc | apply pw_below_drewN | apply below_drew1) | exact HB.out)))); (case aL => have := LMc15.out; omega); intro v468 w17 ho hb hg hat; rw [← Ny467.out] at ho; have n0_ := Aside0.mk (hb); have n1_ := Aside0.mk (ho); clear HB; clear HO465; have HB := n0_; have HO469 := n1_; clear n0_ n1_; clear ho hb hg hat))
              go_roundg kj5
              case measure => have := HK1.out; have := HJ5.out; omega
              case rel => exact ⟨(y467), (true), (wrap64 (x7_1 + 1)), (by first | rfl | (simp; done) | (simp [*]; done)), (by first | rfl | (simp; done) | (simp [*]; done)), H', ⟨by have := HK1.out; have := HJ5.out; omega⟩, ⟨by (with_reducible repeat (first | apply Kd.R_alloc | apply Kd.R_drewN | apply Kd.R_drew)); exact HO469.out⟩, ⟨by repeat (first | (with_reducible first | exact HB.out | apply below_alloc | apply pw_below_drewN | apply below_drew1) | exact HB.out)⟩⟩
             ·rw [if_neg c15] at H
              exact absurd H (by simp)
            ·rw [if_neg c14] at H
             exact absurd H (by simp)
           ·rw [if_neg c13] at H
            exact absurd H (by simp)
         ·rw [if_neg c10] at H
          exact absurd H (by simp)
        ·rw [if_neg c9] at H
         have c9b0 : decide (0 < t462) = false := decide_eq_false c9
         clear c9
         by_cases c18 : t462 = 0
         ·rw [if_pos c18] at H
          have c18b0 : (t462 == 0) = true := beq_iff_eq.mpr c18
          have c18b1 : (t462 != 0) = false := bne_eq_false_iff_eq.mpr c18
          clear c18
          have H' := Aside0.mk H
          clear H
          go_wp2
          go_roundg kj5
          case measure => have := HK1.out; have := HJ5.out; omega
          case rel => exact ⟨(x5_1), (true), (wrap64 (x7_1 + 1)), (by first | rfl | (simp; done) | (simp [*]; done)), (by first | rfl | (simp; done) | (simp [*]; done)), H', ⟨by have := HK1.out; have := HJ5.out; omega⟩, ⟨by (with_reducible repeat (first | apply Kd.R_alloc | apply Kd.R_drewN | apply Kd.R_drew)); exact HO_5.out⟩, ⟨by repeat (first | (with_reducible first | exact HB.out | apply below_alloc | apply pw_below_drewN | apply below_drew1) | exact HB.out)⟩⟩
         ·rw [if_neg c18] at H
          have c18b0 : (t462 == 0) = false := beq_eq_false_iff_ne.mpr c18
          have c18b1 : (t462 != 0) = true := bne_iff_ne.mpr c18
          by_cases c19 : 0 ≤ x7_1
          ·rw [if_pos c19] at H
           have c19b0 : decide (0 ≤ x7_1) = true := decide_eq_true c19
           clear c19
           by_cases c20 : x7_1 < (l0.length : Int)
           ·rw [if_pos c20] at H
            have c20b0 : decide (x7_1 < (l0.length : Int)) = true := decide_eq_true c20
            clear c20
            by_cases c21 : x5_1.length < 8796093022208
            ·rw [if_pos c21] at H
             have LMc21 := Aside0.mk c21
             clear c21
             obtain ⟨y471, hy471⟩ : ∃ y_ : List ByteArray, y_ = (x5_1 ++ [rdOf ByteArray.empty l0 x7_1]) := ⟨_, rfl⟩
             replace H : (cobweblaw11_turned.l0 kj5 l0 a1 y471 true (wrap64 (x7_1 + 1))) = some r := by first | (rw [hy471]; with_reducible exact H) | (have H2_ := (Option.bind_some _ _).symm.trans H; rw [hy471]; with_reducible exact H2_) | (have H2_ := (Option.bind_some _ _).symm.trans H; with_reducible exact H2_) | with_reducible exact H | (rw [hy471]; exact H) | exact H
             have Ny471 := Aside0.mk hy471
             clear hy471
             have H' := Aside0.mk H
             clear H
             have p470 : 0 ≤ (x7_1 : Int) := of_decide_eq_true (by first | (with_reducible assumption) | assumption)
             have q470 : x7_1 < (l0.length : Int) := of_decide_eq_true (by first | (with_reducible assumption) | assumption)
             obtain ⟨ad470, e470, hx470_0⟩ := Kd.at_string HR0.out x7_1 p470 q470
             obtain rfl : ad461 = ad470 := (by injection e470)
             replace hx470_0 := (HB.out.cell (World.block_lt_of_cell? w _ hx470_0)).trans hx470_0
             replace p470 := eq_true p470
             replace q470 := eq_true q470
             go_wp2_with (first | ((with_reducible refine gate_builtin (b := .append) (xs := #[.tmp 35, .tmp 40]) rfl ?_); at_builtin; refine Kd.R_append Kd.string (w0 := w) w.heap.size rfl (.tmp 35) (.tmp 40) 22 9 (.string ⟨#[]⟩) 16 rfl Try.underlying22 info9 rfl (by decide) (by omega) u5 x5_1 (rdOf ByteArray.empty l0 x7_1) [.string (rdOf ByteArray.empty l0 x7_1)] (fun _ => True) (fun _ => False) rfl rfl ?aP (fun _ hk => hk.elim) ?aF ?aO ?aB ?aS ?aL ?_; (case aP => exact rfl); (case aB => exact (by repeat (first | (with_reducible first | exact HB.out | apply below_alloc | apply pw_below_drewN | apply below_drew1) | exact HB.out))); (case aF => exact (fun _ _ => trivial)); (case aO => exact (by (with_reducible repeat (first | apply Kd.R_alloc | apply Kd.R_drewN | apply Kd.R_drew)); exact HO_5.out)); (case aS => exact (below_size (by repeat (first | (with_reducible first | exact HB.out | apply below_alloc | apply pw_below_drewN | apply below_drew1) | exact HB.out)))); (case aL => have := LMc21.out; omega); intro v472 w22 ho hb hg hat; rw [← Ny471.out] at ho; have n0_ := Aside0.mk (hb); have n1_ := Aside0.mk (ho); clear HB; clear HO_5; have HB := n0_; have HO473 := n1_; clear n0_ n1_; clear ho hb hg hat))
             go_roundg kj5
             case measure => have := HK1.out; have := HJ5.out; omega
             case rel => exact ⟨(y471), (true), (wrap64 (x7_1 + 1)), (by first | rfl | (simp; done) | (simp [*]; done)), (by first | rfl | (simp; done) | (simp [*]; done)), H', ⟨by have := HK1.out; have := HJ5.out; omega⟩, ⟨by (with_reducible repeat (first | apply Kd.R_alloc | apply Kd.R_drewN | apply Kd.R_drew)); exact HO473.out⟩, ⟨by repeat (first | (with_reducible first | exact HB.out | apply below_alloc | apply pw_below_drewN | apply below_drew1) | exact HB.out)⟩⟩
            ·rw [if_neg c21] at H
             exact absurd H (by simp)
           ·rw [if_neg c20] at H
            exact absurd H (by simp)
          ·rw [if_neg c19] at H
           exact absurd H (by simp)
       ·replace c8 := Bool.eq_false_iff.mpr c8
        subst c8
        have H1 : (if t462 = 0 then (cobweblaw11_turned.l0 kj5 l0 a1 x5_1 x6_1 (wrap64 (x7_1 + 1))) else (if 0 ≤ x7_1 then (if x7_1 < (l0.length : Int) then (if x5_1.length < 8796093022208 then (cobweblaw11_turned.l0 kj5 l0 a1 (x5_1 ++ [rdOf ByteArray.empty l0 x7_1]) x6_1 (wrap64 (x7_1 + 1))) else (none)) else (none)) else (none))) = some r := by rw [if_neg (show ¬ (false = true) by decide)] at H; exact H
        clear H
        have H := H1
        clear H1
        by_cases c23 : t462 = 0
        ·rw [if_pos c23] at H
         have c23b0 : (t462 == 0) = true := beq_iff_eq.mpr c23
         have c23b1 : (t462 != 0) = false := bne_eq_false_iff_eq.mpr c23
         clear c23
         have H' := Aside0.mk H
         clear H
         go_wp2
         go_roundg kj5
         case measure => have := HK1.out; have := HJ5.out; omega
         case rel => exact ⟨(x5_1), (x6_1), (wrap64 (x7_1 + 1)), (by first | rfl | (simp; done) | (simp [*]; done)), (by first | rfl | (simp; done) | (simp [*]; done)), H', ⟨by have := HK1.out; have := HJ5.out; omega⟩, ⟨by (with_reducible repeat (first | apply Kd.R_alloc | apply Kd.R_drewN | apply Kd.R_drew)); exact HO_5.out⟩, ⟨by repeat (first | (with_reducible first | exact HB.out | apply below_alloc | apply pw_below_drewN | apply below_drew1) | exact HB.out)⟩⟩
        ·rw [if_neg c23] at H
         have c23b0 : (t462 == 0) = false := beq_eq_false_iff_ne.mpr c23
         have c23b1 : (t462 != 0) = true := bne_iff_ne.mpr c23
         by_cases c24 : 0 ≤ x7_1
         ·rw [if_pos c24] at H
          have c24b0 : decide (0 ≤ x7_1) = true := decide_eq_true c24
          clear c24
          by_cases c25 : x7_1 < (l0.length : Int)
          ·rw [if_pos c25] at H
           have c25b0 : decide (x7_1 < (l0.length : Int)) = true := decide_eq_true c25
           clear c25
           by_cases c26 : x5_1.length < 8796093022208
           ·rw [if_pos c26] at H
            have LMc26 := Aside0.mk c26
            clear c26
            obtain ⟨y475, hy475⟩ : ∃ y_ : List ByteArray, y_ = (x5_1 ++ [rdOf ByteArray.empty l0 x7_1]) := ⟨_, rfl⟩
            replace H : (cobweblaw11_turned.l0 kj5 l0 a1 y475 x6_1 (wrap64 (x7_1 + 1))) = some r := by first | (rw [hy475]; with_reducible exact H) | (have H2_ := (Option.bind_some _ _).symm.trans H; rw [hy475]; with_reducible exact H2_) | (have H2_ := (Option.bind_some _ _).symm.trans H; with_reducible exact H2_) | with_reducible exact H | (rw [hy475]; exact H) | exact H
            have Ny475 := Aside0.mk hy475
            clear hy475
            have H' := Aside0.mk H
            clear H
            have p474 : 0 ≤ (x7_1 : Int) := of_decide_eq_true (by first | (with_reducible assumption) | assumption)
            have q474 : x7_1 < (l0.length : Int) := of_decide_eq_true (by first | (with_reducible assumption) | assumption)
            obtain ⟨ad474, e474, hx474_0⟩ := Kd.at_string HR0.out x7_1 p474 q474
            obtain rfl : ad461 = ad474 := (by injection e474)
            replace hx474_0 := (HB.out.cell (World.block_lt_of_cell? w _ hx474_0)).trans hx474_0
            replace p474 := eq_true p474
            replace q474 := eq_true q474
            go_wp2_with (first | ((with_reducible refine gate_builtin (b := .append) (xs := #[.tmp 35, .tmp 40]) rfl ?_); at_builtin; refine Kd.R_append Kd.string (w0 := w) w.heap.size rfl (.tmp 35) (.tmp 40) 22 9 (.string ⟨#[]⟩) 16 rfl Try.underlying22 info9 rfl (by decide) (by omega) u5 x5_1 (rdOf ByteArray.empty l0 x7_1) [.string (rdOf ByteArray.empty l0 x7_1)] (fun _ => True) (fun _ => False) rfl rfl ?aP (fun _ hk => hk.elim) ?aF ?aO ?aB ?aS ?aL ?_; (case aP => exact rfl); (case aB => exact (by repeat (first | (with_reducible first | exact HB.out | apply below_alloc | apply pw_below_drewN | apply below_drew1) | exact HB.out))); (case aF => exact (fun _ _ => trivial)); (case aO => exact (by (with_reducible repeat (first | apply Kd.R_alloc | apply Kd.R_drewN | apply Kd.R_drew)); exact HO_5.out)); (case aS => exact (below_size (by repeat (first | (with_reducible first | exact HB.out | apply below_alloc | apply pw_below_drewN | apply below_drew1) | exact HB.out)))); (case aL => have := LMc26.out; omega); intro v476 w27 ho hb hg hat; rw [← Ny475.out] at ho; have n0_ := Aside0.mk (hb); have n1_ := Aside0.mk (ho); clear HB; clear HO_5; have HB := n0_; have HO477 := n1_; clear n0_ n1_; clear ho hb hg hat))
            go_roundg kj5
            case measure => have := HK1.out; have := HJ5.out; omega
            case rel => exact ⟨(y475), (x6_1), (wrap64 (x7_1 + 1)), (by first | rfl | (simp; done) | (simp [*]; done)), (by first | rfl | (simp; done) | (simp [*]; done)), H', ⟨by have := HK1.out; have := HJ5.out; omega⟩, ⟨by (with_reducible repeat (first | apply Kd.R_alloc | apply Kd.R_drewN | apply Kd.R_drew)); exact HO477.out⟩, ⟨by repeat (first | (with_reducible first | exact HB.out | apply below_alloc | apply pw_below_drewN | apply below_drew1) | exact HB.out)⟩⟩
           ·rw [if_neg c26] at H
            exact absurd H (by simp)
          ·rw [if_neg c25] at H
           exact absurd H (by simp)
         ·rw [if_neg c24] at H
          exact absurd H (by simp)
    ·rw [if_neg c4] at H
     exact absurd H (by simp)
   ·rw [if_neg c3] at H
    have c3b0 : decide (x7_1 < (l0.length : Int)) = false := decide_eq_false c3
    clear c3
    by_cases c28 : x6_1 = true
    ·subst c28
     have H1 : (some x5_1) = some r := by rw [if_pos rfl] at H; exact H
     clear H
     have H := H1
     clear H1
     obtain rfl := Option.some.inj H
     go_wp2
     go_ret
     exact ⟨_, by first | rfl | (simp [errW_none, errW_some] <;> rfl) | (simp [*, errW_none, errW_some] <;> rfl), by (with_reducible repeat (first | apply Kd.R_alloc | apply Kd.R_drewN | apply Kd.R_drew)); exact HO_5.out, by repeat (first | (with_reducible first | exact HB.out | apply below_alloc | apply pw_below_drewN | apply below_drew1) | exact HB.out)⟩
    ·replace c28 := Bool.eq_false_iff.mpr c28
     subst c28
     have H1 : (if x5_1.length < 8796093022208 then (some (x5_1 ++ [a1])) else (none)) = some r := by rw [if_neg (show ¬ (false = true) by decide)] at H; exact H
     clear H
     have H := H1
     clear H1
     by_cases c29 : x5_1.length < 8796093022208
     ·rw [if_pos c29] at H
      have LMc29 := Aside0.mk c29
      clear c29
      obtain ⟨y458, hy458⟩ : ∃ y_ : List ByteArray, y_ = (x5_1 ++ [a1]) := ⟨_, rfl⟩
      replace H : (some y458) = some r := by first | (rw [hy458]; with_reducible exact H) | (have H2_ := (Option.bind_some _ _).symm.trans H; rw [hy458]; with_reducible exact H2_) | (have H2_ := (Option.bind_some _ _).symm.trans H; with_reducible exact H2_) | with_reducible exact H | (rw [hy458]; exact H) | exact H
      have Ny458 := Aside0.mk hy458
      clear hy458
      obtain rfl := Option.some.inj H
      go_wp2_with (first | ((with_reducible refine gate_builtin (b := .append) (xs := #[.tmp 44, .tmp 46]) rfl ?_); at_builtin; refine Kd.R_append Kd.string (w0 := w) w.heap.size rfl (.tmp 44) (.tmp 46) 22 9 (.string ⟨#[]⟩) 16 rfl Try.underlying22 info9 rfl (by decide) (by omega) u5 x5_1 a1 [.string a1] (fun _ => True) (fun _ => False) rfl rfl ?aP (fun _ hk => hk.elim) ?aF ?aO ?aB ?aS ?aL ?_; (case aP => exact rfl); (case aB => exact (by repeat (first | (with_reducible first | exact HB.out | apply below_alloc | apply pw_below_drewN | apply below_drew1) | exact HB.out))); (case aF => exact (fun _ _ => trivial)); (case aO => exact (by (with_reducible repeat (first | apply Kd.R_alloc | apply Kd.R_drewN | apply Kd.R_drew)); exact HO_5.out)); (case aS => exact (below_size (by repeat (first | (with_reducible first | exact HB.out | apply below_alloc | apply pw_below_drewN | apply below_drew1) | exact HB.out)))); (case aL => have := LMc29.out; omega); intro v459 w30 ho hb hg hat; rw [← Ny458.out] at ho; have n0_ := Aside0.mk (hb); have n1_ := Aside0.mk (ho); clear HB; clear HO_5; have HB := n0_; have HO460 := n1_; clear n0_ n1_; clear ho hb hg hat))
      go_ret
      exact ⟨_, by first | rfl | (simp [errW_none, errW_some] <;> rfl) | (simp [*, errW_none, errW_some] <;> rfl), by (with_reducible repeat (first | apply Kd.R_alloc | apply Kd.R_drewN | apply Kd.R_drew)); exact HO460.out, by repeat (first | (with_reducible first | exact HB.out | apply below_alloc | apply pw_below_drewN | apply below_drew1) | exact HB.out)⟩
     ·rw [if_neg c29] at H
      exact absurd H (by simp)
end Go.Proofs.Ytneagipmllgejaa.PL
end
section
set_option linter.unusedVariables false
set_option linter.unusedSimpArgs false
namespace Go.Proofs.Ytneagipmllgejaa.PL
open Go.RowKit Go.Proofs.YtneagipmllgejaaW.PrintWords Go.Proofs.YtneagipmllgejaaW.PrintLast Go.Proofs.YtneagipmllgejaaW.PrintMore Go.Proofs.YtneagipmllgejaaH
/-- All entries, leaf by leaf. -/
def flatL (ls : List S28) : List ByteArray := ls.flatMap (fun c => c.f1)
/-- The leaves behind a change at place i. -/
def newL (ls : List S28) (i : Nat) (ch : List S28) : List S28 := ls.take i ++ ch.filter (fun c => !c.f2) ++ ls.drop (i + 1)
theorem flat_app (l1 l2 : List S28) : flatL (l1 ++ l2) = flatL l1 ++ flatL l2 := by simp [flatL]
theorem mem_flat {e : ByteArray} {ls : List S28} : e ∈ flatL ls ↔ ∃ c ∈ ls, e ∈ c.f1 := by simp [flatL]
/-- Two lists that rise and have the same texts are the same. -/
theorem rise_ext : ∀ {l1 l2 : List ByteArray}, riseB l1 = true → riseB l2 = true → (∀ e, e ∈ l1 ↔ e ∈ l2) → l1 = l2
  | [], [], _, _, _ => rfl
  | [], y :: l2, _, _, h => by have := (h y).2 (by simp); cases this
  | x :: l1, [], _, _, h => by have := (h x).1 (by simp); cases this
  | x :: l1, y :: l2, h1, h2, h => by
    have p1 := List.pairwise_cons.1 (riseB_pairwise.1 h1)
    have p2 := List.pairwise_cons.1 (riseB_pairwise.1 h2)
    have e : x = y := by
      rcases List.mem_cons.1 ((h x).1 (by simp)) with e | e
      · exact e
      · rcases List.mem_cons.1 ((h y).2 (by simp)) with e2 | e2
        · exact e2.symm
        · have h3 := p2.1 x e
          have h4 := p1.1 y e2
          rw [less_asymm h3] at h4
          cases h4
    subst e
    have irr : ∀ {l : List ByteArray}, (∀ a ∈ l, lessB x a = true) → x ∉ l := fun hl hm => by
      have := hl x hm
      rw [less_irrefl] at this
      cases this
    congr 1
    refine rise_ext (riseB_tail h1) (riseB_tail h2) fun e => ⟨fun he => ?_, fun he => ?_⟩
    · rcases List.mem_cons.1 ((h e).1 (List.mem_cons_of_mem _ he)) with e2 | e2
      · subst e2; exact absurd he (irr p1.1)
      · exact e2
    · rcases List.mem_cons.1 ((h e).2 (List.mem_cons_of_mem _ he)) with e2 | e2
      · subst e2; exact absurd he (irr p2.1)
      · exact e2
theorem mem_cut_iff {s e : ByteArray} {l : List ByteArray} (hr : riseB l = true) (hf : fndS s l = true) : e ∈ cutS s l ↔ e ∈ l ∧ e ≠ s := by
  refine ⟨fun h => cut_mem hr hf h, fun ⟨h, hne⟩ => ?_⟩
  have h1 := fnd_lt hf
  have h2 := fnd_at hf
  have h3 : l = l.take (loS s l) ++ l.drop (loS s l) := (List.take_append_drop _ _).symm
  rw [drop_lo h1, h2] at h3
  rw [h3] at h
  unfold cutS cutAt
  rcases List.mem_append.1 h with h4 | h4
  · exact List.mem_append_left _ h4
  · rcases List.mem_cons.1 h4 with h5 | h5
    · exact absurd h5 hne
    · exact List.mem_append_right _ h5
/-- A root and its leaves, as a list. -/
structure IndL (n : Nat) (a : List ByteArray) (b : List Int) (ls : List S28) (all : List ByteArray) : Prop where
  t : ∃ t, Ind (fun _ => True) n a b t ∧ ls.length = b.length ∧ ∀ i : Nat, i < b.length → lkp (rd b (i : Int)) t = ls[i]?
  rise : riseB all = true
  len : all.length ≤ n
  mem : ∀ e, e ∈ all ↔ e ∈ flatL ls
theorem indl_start : IndL 0 [] [1] [⟨1, [], false⟩] [] :=
  ⟨⟨_, ind_start, rfl, fun i hi => by obtain rfl : i = 0 := by simpa using hi
                                      rfl⟩, rfl, Nat.le_refl _, fun e => by simp [flatL]⟩
/-- What leaf i is. -/
theorem IndL.lf {n : Nat} {a : List ByteArray} {b : List Int} {ls : List S28} {all : List ByteArray} (h : IndL n a b ls all) {i : Nat} (hi : i < ls.length) : (ls[i]).f0 = rd b (i : Int) ∧ (ls[i]).f2 = false ∧ (ls[i]).f1.length ≤ 4 ∧ riseB (ls[i]).f1 = true ∧ (∀ e ∈ (ls[i]).f1, cntLe e a = i) := by
  obtain ⟨t, h1, h2, h3⟩ := h.t
  obtain ⟨c, g1, g2, g3, g4, g5, g6, _⟩ := h1.lf i (by omega)
  rw [h3 i (by omega), List.getElem?_eq_getElem hi] at g1
  obtain rfl := Option.some.inj g1
  exact ⟨g2, g3, g4, g5, g6⟩
/-- All entries rise. -/
theorem rise_flat (a : List ByteArray) : ∀ (ls : List S28) (k : Nat), (∀ i (hi : i < ls.length), riseB (ls[i]).f1 = true ∧ ∀ e ∈ (ls[i]).f1, cntLe e a = k + i) → (flatL ls).Pairwise (fun x y => lessB x y = true)
  | [], _, _ => List.Pairwise.nil
  | c :: r, k, h => by
    show (c.f1 ++ flatL r).Pairwise _
    have hc := h 0 (by simp)
    simp only [List.getElem_cons_zero] at hc
    refine List.pairwise_append.2 ⟨riseB_pairwise.1 hc.1, rise_flat a r (k + 1) (fun i hi => ?_), fun x hx y hy => ?_⟩
    · have := h (i + 1) (by simp; omega)
      simp only [List.getElem_cons_succ] at this
      exact ⟨this.1, fun e he => by rw [this.2 e he]; omega⟩
    · obtain ⟨d, hd, hyd⟩ := mem_flat.1 hy
      obtain ⟨i, hi, rfl⟩ := List.getElem_of_mem hd
      have := h (i + 1) (by simp; omega)
      simp only [List.getElem_cons_succ] at this
      have h1 := hc.2 x hx
      have h2 := this.2 y hyd
      exact less_of_cnt (a := a) (by omega)
theorem IndL.flat {n : Nat} {a : List ByteArray} {b : List Int} {ls : List S28} {all : List ByteArray} (h : IndL n a b ls all) : flatL ls = all := by
  refine rise_ext (riseB_pairwise.2 (rise_flat a ls 0 fun i hi => ?_)) h.rise (fun e => (h.mem e).symm)
  obtain ⟨_, _, _, h4, h5⟩ := h.lf hi
  exact ⟨h4, fun e he => by rw [h5 e he]; omega⟩
theorem goR_true (a : List ByteArray) (b : List Int) (hr : riseB a = true) : ∀ (ls : List S28) (k : Nat), (∀ i (hi : i < ls.length), (ls[i]).f0 = rd b ((k + i : Nat) : Int) ∧ (ls[i]).f2 = false ∧ (ls[i]).f1.length ≤ 4 ∧ riseB (ls[i]).f1 = true ∧ (∀ e ∈ (ls[i]).f1, cntLe e a = k + i)) → goR a b k ls = true
  | [], _, _ => rfl
  | c :: r, k, h => by
    have hc := h 0 (by simp)
    simp only [List.getElem_cons_zero] at hc
    obtain ⟨h0, h1, h2, h3, h4⟩ := hc
    simp only [goR]
    rw [if_pos (leafB_iff.2 ⟨h1, h2, h3⟩), if_pos (by rw [h0]; rfl), if_neg ?_]
    · refine goR_true a b hr r (k + 1) (fun i hi => ?_)
      have := h (i + 1) (by simp; omega)
      simp only [List.getElem_cons_succ] at this
      rw [show k + 1 + i = k + (i + 1) by omega]
      exact this
    · rw [List.any_eq_true]
      rintro ⟨e, he, h5⟩
      have := h4 e he
      rw [cntLe_rise _ hr] at this
      rw [this] at h5
      simp at h5
theorem IndL.right {n : Nat} {a : List ByteArray} {b : List Int} {ls : List S28} {all : List ByteArray} (h : IndL n a b ls all) : rightB a b ls = true := by
  obtain ⟨t, h1, h2, h3⟩ := h.t
  unfold rightB
  rw [if_pos h1.root, if_pos h2]
  refine goR_true a b (rootB_iff.1 h1.root).2.2 ls 0 fun i hi => ?_
  have := h.lf hi
  rw [Nat.zero_add]
  exact this
/-- A leaf changed at its place. -/
theorem get_new1 {ls : List S28} {i : Nat} (hi : i < ls.length) {c : S28} (hc : c.f2 = false) (j : Nat) : (newL ls i [c])[j]? = if j = i then some c else ls[j]? := by
  unfold newL
  simp only [List.filter_cons, hc, Bool.not_false, if_true, List.filter_nil]
  have h1 : (ls.take i).length = i := by simp; omega
  by_cases h2 : j < i
  · rw [if_neg (by omega), List.append_assoc, List.getElem?_append_left (by omega), List.getElem?_take_of_lt h2]
  · rw [List.append_assoc, List.getElem?_append_right (by omega), h1]
    by_cases h3 : j = i
    · rw [if_pos h3, h3, Nat.sub_self]; rfl
    · rw [if_neg h3, List.getElem?_append_right (by simp; omega), List.getElem?_drop]
      congr 1
      simp
      omega
theorem get_new2 {ls : List S28} {i : Nat} (hi : i < ls.length) {c d : S28} (hc : c.f2 = false) (hd : d.f2 = false) (j : Nat) : (newL ls i [c, d])[j]? = if j < i then ls[j]? else if j = i then some c else if j = i + 1 then some d else ls[j - 1]? := by
  unfold newL
  simp only [List.filter_cons, hc, hd, Bool.not_false, if_true, List.filter_nil]
  have h1 : (ls.take i).length = i := by simp; omega
  by_cases h2 : j < i
  · rw [if_pos h2, List.append_assoc, List.getElem?_append_left (by omega), List.getElem?_take_of_lt h2]
  · rw [if_neg h2, List.append_assoc, List.getElem?_append_right (by omega), h1]
    by_cases h3 : j = i
    · rw [if_pos h3, h3, Nat.sub_self]; rfl
    · rw [if_neg h3]
      by_cases h4 : j = i + 1
      · rw [if_pos h4, h4, show i + 1 - i = 1 by omega]; rfl
      · rw [if_neg h4, List.getElem?_append_right (by simp; omega), List.getElem?_drop]
        congr 1
        simp
        omega
theorem get_new0 {ls : List S28} {i : Nat} (hi : i < ls.length) {c : S28} (hc : c.f2 = true) (j : Nat) : (newL ls i [c])[j]? = if j < i then ls[j]? else ls[j + 1]? := by
  unfold newL
  simp only [List.filter_cons, hc, Bool.not_true, List.filter_nil]
  have h1 : (ls.take i).length = i := by simp; omega
  by_cases h2 : j < i
  · rw [if_pos h2, List.append_assoc, List.getElem?_append_left (by omega), List.getElem?_take_of_lt h2]
  · rw [if_neg h2, List.append_assoc, List.getElem?_append_right (by omega), h1]
    simp only [Bool.false_eq_true, if_false, List.nil_append, List.getElem?_drop]
    congr 1
    omega
theorem flat_new {e : ByteArray} (ls : List S28) (i : Nat) (ch : List S28) : e ∈ flatL (newL ls i ch) ↔ e ∈ flatL (ls.take i) ∨ e ∈ flatL (ch.filter fun c => !c.f2) ∨ e ∈ flatL (ls.drop (i + 1)) := by
  unfold newL
  rw [flat_app, flat_app, List.mem_append, List.mem_append, or_assoc]
theorem flat_old {e : ByteArray} {ls : List S28} {i : Nat} (hi : i < ls.length) : e ∈ flatL ls ↔ e ∈ flatL (ls.take i) ∨ e ∈ (ls[i]).f1 ∨ e ∈ flatL (ls.drop (i + 1)) := by
  conv => lhs; rw [← List.take_append_drop i ls, List.drop_eq_getElem_cons hi]
  rw [flat_app, List.mem_append]
  show _ ∨ e ∈ (ls[i]).f1 ++ flatL (ls.drop (i + 1)) ↔ _
  rw [List.mem_append]
theorem take_rs {l : List ByteArray} {i : Nat} (h : i < l.length) : l.take (i + 1) = l.take i ++ [rdOf ByteArray.empty l (i : Int)] := by
  rw [List.take_succ_eq_append_getElem h]
  congr 2
  simp [rdOf, List.getD_eq_getElem?_getD, List.getElem?_eq_getElem h]
/-- The list ahead of the place. -/
theorem turned_a (l : List ByteArray) (s : ByteArray) (hr : riseB l = true) (hl : l.length ≤ 1000) (hz : ∀ e ∈ l, e.size ≤ 1000) (hs : s.size ≤ 1000) : ∀ (d k i : Nat), i + d = l.length → 2 * d + 2010 ≤ k → loS s l + (if fndS s l = true then 1 else 0) ≤ i → ∀ out : List ByteArray, out.length ≤ 2000 + i → cobweblaw11_turned.l0 k l s out true (i : Int) = some (out ++ l.drop i) := by
  intro d
  induction d with
  | zero =>
    intro k i hi hk _ out _
    obtain ⟨k, rfl⟩ : ∃ q, k = q + 1 := ⟨k - 1, by omega⟩
    simp only [cobweblaw11_turned.l0]
    rw [if_neg (by omega), if_pos trivial, List.drop_eq_nil_of_le (by omega), List.append_nil]
  | succ d ih =>
    intro k i hi hk hlo out hout
    obtain ⟨k, rfl⟩ : ∃ q, k = q + 2 := ⟨k - 2, by omega⟩
    have hlt : i < l.length := by omega
    have hc : 0 < ordB (rdOf ByteArray.empty l (i : Int)) s := by
      rcases cmp_lo (s := s) hr hlt with ⟨h1, _⟩ | ⟨h1, h2, _⟩ | ⟨_, _, h3⟩
      · omega
      · rw [if_pos h2] at hlo; omega
      · exact h3
    simp only [cobweblaw11_turned.l0, cobweblaw11_turned.j1]
    rw [if_pos (by omega), if_pos (by omega), order_spec _ _ (rd_size hz _) hs (by omega)]
    simp only [Option.bind_some]
    rw [if_pos (by omega), if_neg (by decide), if_neg (by omega), if_pos (by omega), if_pos (by omega), if_pos (by omega), w64 (x := (i : Int) + 1) (by omega) (by omega), show (i : Int) + 1 = ((i + 1 : Nat) : Int) by omega,
      ih k (i + 1) (by omega) (by omega) (by omega) _ (by simp; omega), List.append_assoc, List.singleton_append, ← drop_lo hlt]
theorem turned_b (l : List ByteArray) (s : ByteArray) (hr : riseB l = true) (hl : l.length ≤ 1000) (hz : ∀ e ∈ l, e.size ≤ 1000) (hs : s.size ≤ 1000) : ∀ (d k i : Nat), i + d = l.length → 2 * d + 2010 ≤ k → i ≤ loS s l → cobweblaw11_turned.l0 k l s (l.take i) false (i : Int) = some (if fndS s l = true then cutS s l else insS s l) := by
  intro d
  induction d with
  | zero =>
    intro k i hi hk hlo
    obtain ⟨k, rfl⟩ : ∃ q, k = q + 1 := ⟨k - 1, by omega⟩
    have h1 := loS_le s l
    have hf : fndS s l = false := by
      cases hf : fndS s l with
      | false => rfl
      | true => have := fnd_lt hf; omega
    simp only [cobweblaw11_turned.l0]
    rw [if_neg (by omega), if_neg (by decide), if_pos (by simp; omega), if_neg (by rw [hf]; decide)]
    unfold insS insAt
    rw [show loS s l = i by omega, List.drop_eq_nil_of_le (by omega)]
  | succ d ih =>
    intro k i hi hk hlo
    obtain ⟨k, rfl⟩ : ∃ q, k = q + 2 := ⟨k - 2, by omega⟩
    have hlt : i < l.length := by omega
    have htl : (l.take i).length = i := by simp; omega
    simp only [cobweblaw11_turned.l0, cobweblaw11_turned.j1]
    rw [if_pos (by omega), if_pos (by omega), order_spec _ _ (rd_size hz _) hs (by omega)]
    simp only [Option.bind_some]
    rcases cmp_lo (s := s) hr hlt with ⟨h1, h2⟩ | ⟨h1, h2, h3⟩ | ⟨h1, h2, h3⟩
    · rw [if_neg (by omega), if_neg (by decide), if_neg (by omega), if_pos (by omega), if_pos (by omega), if_pos (by omega), w64 (x := (i : Int) + 1) (by omega) (by omega), show (i : Int) + 1 = ((i + 1 : Nat) : Int) by omega, ← take_rs hlt]
      exact ih k (i + 1) (by omega) (by omega) (by omega)
    · rw [if_pos (by omega), Bool.not_false, if_pos rfl, if_neg (by omega), if_pos h3, w64 (x := (i : Int) + 1) (by omega) (by omega), show (i : Int) + 1 = ((i + 1 : Nat) : Int) by omega,
        turned_a l s hr hl hz hs d k (i + 1) (by omega) (by omega) (by rw [if_pos h2]; omega) _ (by omega), if_pos h2]
      unfold cutS cutAt
      rw [h1]
    · have hf : fndS s l = false := by
        cases hf : fndS s l with
        | false => rfl
        | true => have := h2 hf; omega
      rw [if_pos (by omega), Bool.not_false, if_pos rfl, if_pos h3, if_pos (by omega), if_neg (by omega), if_pos (by omega), if_pos (by omega), if_pos (by simp; omega), w64 (x := (i : Int) + 1) (by omega) (by omega), show (i : Int) + 1 = ((i + 1 : Nat) : Int) by omega,
        turned_a l s hr hl hz hs d k (i + 1) (by omega) (by omega) (by rw [hf]; simp; omega) _ (by simp; omega), if_neg (by rw [hf]; decide)]
      unfold insS insAt
      rw [show loS s l = i by omega, List.append_assoc, List.append_assoc, List.singleton_append, List.singleton_append, ← drop_lo hlt]
theorem turned_spec (l : List ByteArray) (s : ByteArray) (hr : riseB l = true) (hl : l.length ≤ 1000) (hz : ∀ e ∈ l, e.size ≤ 1000) (hs : s.size ≤ 1000) {k : Nat} (hk : 5000 ≤ k) : cobweblaw11_turned.f k l s = some (if fndS s l = true then cutS s l else insS s l) := by
  have := turned_b l s hr hl hz hs l.length k 0 (by omega) (by omega) (by omega)
  unfold cobweblaw11_turned.f
  simpa using this
theorem fnd_iff {s : ByteArray} {l : List ByteArray} (hr : riseB l = true) : fndS s l = true ↔ s ∈ l := by
  refine ⟨fun h => ?_, fun h => fnd_mem hr h⟩
  have := mem_str (l := l) (fnd_lt h)
  rwa [fnd_at h] at this
theorem flat_one {e : ByteArray} {c : S28} (hc : c.f2 = false) : e ∈ flatL ([c].filter fun c => !c.f2) ↔ e ∈ c.f1 := by simp [flatL, hc]
theorem flat_two {e : ByteArray} {c d : S28} (hc : c.f2 = false) (hd : d.f2 = false) : e ∈ flatL ([c, d].filter fun c => !c.f2) ↔ e ∈ c.f1 ∨ e ∈ d.f1 := by simp [flatL, hc, hd]
theorem flat_zero {e : ByteArray} {c : S28} (hc : c.f2 = true) : e ∈ flatL ([c].filter fun c => !c.f2) ↔ False := by simp [flatL, hc]
theorem newL_len1 {ls : List S28} {i : Nat} (hi : i < ls.length) {c : S28} (hc : c.f2 = false) : (newL ls i [c]).length = ls.length := by
  unfold newL
  simp [List.filter_cons, hc]
  omega
theorem newL_len2 {ls : List S28} {i : Nat} (hi : i < ls.length) {c d : S28} (hc : c.f2 = false) (hd : d.f2 = false) : (newL ls i [c, d]).length = ls.length + 1 := by
  unfold newL
  simp [List.filter_cons, hc, hd]
  omega
theorem newL_len0 {ls : List S28} {i : Nat} (hi : i < ls.length) {c : S28} (hc : c.f2 = true) : (newL ls i [c]).length + 1 = ls.length := by
  unfold newL
  simp [List.filter_cons, hc]
  omega
/-- What one act leaves. -/
structure ActOK (n : Nat) (ls : List S28) (i : Nat) (no : Int) (all : List ByteArray) (s : ByteArray) (r1 : List ByteArray) (r2 : List Int) (r3 : List S28) : Prop where
  len : 1 ≤ r3.length ∧ r3.length ≤ 2
  no : (rd_T28 r3 0).f0 = no
  next : IndL (n + 1) r1 r2 (newL ls i r3) (if fndS s all = true then cutS s all else insS s all)
theorem indl_step {n : Nat} {a : List ByteArray} {b : List Int} {ls : List S28} {all : List ByteArray} (h : IndL n a b ls all) (s : ByteArray) (hn : n < 1000) (hz : s.size ≤ 600) :
    ∃ i c, i < ls.length ∧ rd_T28 ls (i : Int) = c ∧ leaf_Find.f (a.length + 1) a b s = some c.f0 ∧ (∀ j : Nat, j < ls.length → (rd_T28 ls (j : Int)).f0 = c.f0 → j = i) ∧
      ∃ r1 r2 r3 r4, leaf_Insert.f a b c.f0 c.f1 c.f2 s = some (r1, r2, r3, r4) ∧ ((r4 = 0 ∧ ActOK n ls i c.f0 all s r1 r2 r3) ∨ (r4 = 31 ∧ ∃ q1 q2 q3, leaf_Remove.f a b c.f0 c.f1 c.f2 s = some (q1, q2, q3, 0) ∧ ActOK n ls i c.f0 all s q1 q2 q3)) := by
  obtain ⟨t, h1, h2, h3⟩ := h.t
  obtain ⟨hr1, hr2, hr3⟩ := rootB_iff.1 h1.root
  obtain ⟨hnd, hpos⟩ := seen_iff.1 hr1
  have hbl := h1.len
  have hia := atS_le s a
  obtain ⟨i, hi⟩ : ∃ i, i = atS s a := ⟨_, rfl⟩
  have hib : i < b.length := by omega
  have hil : i < ls.length := by omega
  obtain ⟨c, g1, g2, g3, g4, g5, g6, _, g9⟩ := h1.lf i hib
  have hci : ls[i]? = some c := by rw [← h3 i hib, g1]
  have hcg : ls[i] = c := by rw [List.getElem?_eq_getElem hil] at hci; exact Option.some.inj hci
  have hrd : ∀ (j : Nat) (hj : j < ls.length), rd_T28 ls (j : Int) = ls[j] := fun j hj => by simp [rd_T28, List.getD_eq_getElem?_getD, List.getElem?_eq_getElem hj]
  have hfd : findB a b s = rd b (i : Int) := by unfold findB; rw [if_pos h1.root, hi]
  have hF : leaf_Find.f (a.length + 1) a b s = some (rd b (i : Int)) := by rw [find_spec a b s (by omega) (by omega) (by omega), hfd]
  have hno : rd b (i : Int) ≠ 0 := by
    have := (hpos _ (mem_int hib)).1
    omega
  have hok : okL a b c.f0 c.f1 c.f2 s = true := okL_iff.2 ⟨leafB_iff.2 ⟨g3, g4, g5⟩, by rw [hfd, g2], by rw [g2]; exact hno⟩
  have hlim : a.length ≤ 100000 ∧ b.length ≤ 100000 ∧ c.f1.length ≤ 100000 := ⟨by omega, by omega, by omega⟩
  refine ⟨i, c, hil, by rw [hrd i hil, hcg], by rw [hF, g2], fun j hj hje => ?_, ?_⟩
  · have h4 := (h.lf hj).1
    rw [hrd j hj, h4, g2] at hje
    exact rd_inj hnd (by omega) hib hje
  have hin : s ∈ all ↔ s ∈ c.f1 := by
    rw [h.mem, mem_flat]
    refine ⟨fun ⟨d, hd, hsd⟩ => ?_, fun hs => ⟨c, by rw [← hcg]; exact List.getElem_mem hil, hs⟩⟩
    obtain ⟨j, hj, rfl⟩ := List.getElem_of_mem hd
    have h4 := (h.lf hj).2.2.2.2 s hsd
    rw [cntLe_rise _ hr3] at h4
    have : j = i := by omega
    subst this
    rwa [hcg] at hsd
  have hfe : fndS s all = fndS s c.f1 := by rw [Bool.eq_iff_iff, fnd_iff h.rise, fnd_iff g5, hin]
  have hlk : ∀ (d : S28) (j : Nat), j < b.length → lkp (rd b (j : Int)) (putP (rd b (i : Int)) d t) = if j = i then some d else ls[j]? := fun d j hj => by
    rw [lkp_putP]
    by_cases e : j = i
    · rw [if_pos (by rw [e]), if_pos e]
    · rw [if_neg (fun e2 => e (rd_inj hnd hib hj e2).symm), if_neg e, h3 j hj]
  by_cases hf : fndS s c.f1 = true
  · -- it is there: taken out
    refine ⟨[], [], [], 31, ?_, .inr ⟨rfl, ?_⟩⟩
    · unfold leaf_Insert.f
      rw [if_pos hlim, if_neg (by rw [hok]; decide), if_neg (by omega), if_pos hf]
    have hcl : (cutS s all).length + 1 = all.length := cutAt_len (fnd_lt (by rw [hfe]; exact hf))
    have hcr : riseB (cutS s all) = true := riseB_pairwise.2 ((riseB_pairwise.1 h.rise).sublist (cut_sub _ _))
    have hal := h.len
    by_cases h4 : 0 < (cutS s c.f1).length ∨ b.length = 1
    · refine ⟨a, b, [⟨rd b (i : Int), cutS s c.f1, c.f2⟩], ?_, ⟨⟨by simp, by simp⟩, ?_, ?_⟩⟩
      · unfold leaf_Remove.f
        rw [if_pos hlim, if_neg (by rw [hok]; decide), if_neg (by rw [hf]; decide)]
        by_cases h5 : 0 < (cutS s c.f1).length
        · rw [if_pos h5, g2]
        · rw [if_neg h5, if_pos (h4.resolve_left h5), g2]
      · rw [g2]; rfl
      · have hk := (ind_keep h1 hi hib g1 hf h4).imp (P' := fun _ => True) (fun _ _ => trivial)
        rw [if_pos (by rw [hfe]; exact hf)]
        refine ⟨⟨_, hk.more, by rw [newL_len1 (c := ⟨rd b (i : Int), cutS s c.f1, c.f2⟩) hil g3]; exact h2, fun j hj => ?_⟩, hcr, by omega, fun e => ?_⟩
        · rw [hlk _ j hj, get_new1 (c := ⟨rd b (i : Int), cutS s c.f1, c.f2⟩) hil g3]
        · rw [mem_cut_iff h.rise (by rw [hfe]; exact hf), h.mem, flat_new, flat_one (c := ⟨rd b (i : Int), cutS s c.f1, c.f2⟩) g3, flat_old hil, hcg]
          show _ ↔ _ ∨ e ∈ cutS s c.f1 ∨ _
          rw [mem_cut_iff g5 hf]
          have far : ∀ k (hk : k < ls.length), k ≠ i → e ∈ (ls[k]).f1 → e ≠ s := fun k hkl hne he e2 => by
            subst e2
            have h5 := (h.lf hkl).2.2.2.2 e he
            rw [cntLe_rise _ hr3] at h5
            omega
          constructor
          · rintro ⟨h5 | h5 | h5, h6⟩
            · exact .inl h5
            · exact .inr (.inl ⟨h5, h6⟩)
            · exact .inr (.inr h5)
          · rintro (h5 | h5 | h5)
            · refine ⟨.inl h5, ?_⟩
              obtain ⟨d, hd, he⟩ := mem_flat.1 h5
              obtain ⟨k, hk, rfl⟩ := List.getElem_of_mem hd
              rw [List.getElem_take] at he
              simp only [List.length_take] at hk
              exact far k (by omega) (by omega) he
            · exact ⟨.inr (.inl h5.1), h5.2⟩
            · refine ⟨.inr (.inr h5), ?_⟩
              obtain ⟨d, hd, he⟩ := mem_flat.1 h5
              obtain ⟨k, hk, rfl⟩ := List.getElem_of_mem hd
              rw [List.getElem_drop] at he
              simp only [List.length_drop] at hk
              exact far (i + 1 + k) (by omega) (by omega) he
    · have h5 : ¬ 0 < (cutS s c.f1).length := fun h5 => h4 (.inl h5)
      have h6 : ¬ b.length = 1 := fun h6 => h4 (.inr h6)
      refine ⟨cutAt (min i (a.length - 1)) a, cutAt i b, [⟨rd b (i : Int), [], true⟩], ?_, ⟨⟨by simp, by simp⟩, ?_, ?_⟩⟩
      · unfold leaf_Remove.f
        rw [if_pos hlim, if_neg (by rw [hok]; decide), if_neg (by rw [hf]; decide), if_neg h5, if_neg h6, g2, hi]
      · rw [g2]; rfl
      · have hk := (ind_gone (d0 := ⟨rd b (i : Int), [], true⟩) h1 hi hib h6).imp (P' := fun _ => True) (fun _ _ => trivial)
        have hlb := cutAt_len hib
        have hnl := newL_len0 (c := ⟨rd b (i : Int), [], true⟩) hil rfl
        rw [if_pos (by rw [hfe]; exact hf)]
        refine ⟨⟨_, hk.more, by omega, fun j hj => ?_⟩, hcr, by omega, fun e => ?_⟩
        · rw [get_new0 (c := ⟨rd b (i : Int), [], true⟩) hil rfl, rd_cut hib]
          by_cases h7 : j < i
          · rw [if_pos h7, if_pos h7, hlk _ j (by omega), if_neg (by omega)]
          · rw [if_neg h7, if_neg h7, hlk _ (j + 1) (by omega), if_neg (by omega)]
        · rw [mem_cut_iff h.rise (by rw [hfe]; exact hf), h.mem, flat_new, flat_zero (c := ⟨rd b (i : Int), [], true⟩) rfl, flat_old hil, hcg]
          have hce : ∀ e ∈ c.f1, e = s := fun e he => by
            by_cases e2 : e = s
            · exact e2
            · have h7 := (mem_cut_iff g5 hf).2 ⟨he, e2⟩
              exact absurd (List.length_pos_of_mem h7) h5
          have far : ∀ k (hk : k < ls.length), k ≠ i → e ∈ (ls[k]).f1 → e ≠ s := fun k hkl hne he e2 => by
            subst e2
            have h5 := (h.lf hkl).2.2.2.2 e he
            rw [cntLe_rise _ hr3] at h5
            omega
          constructor
          · rintro ⟨h7 | h7 | h7, h8⟩
            · exact .inl h7
            · exact absurd (hce e h7) h8
            · exact .inr (.inr h7)
          · rintro (h7 | h7 | h7)
            · refine ⟨.inl h7, ?_⟩
              obtain ⟨d, hd, he⟩ := mem_flat.1 h7
              obtain ⟨k, hk, rfl⟩ := List.getElem_of_mem hd
              rw [List.getElem_take] at he
              simp only [List.length_take] at hk
              exact far k (by omega) (by omega) he
            · exact h7.elim
            · refine ⟨.inr (.inr h7), ?_⟩
              obtain ⟨d, hd, he⟩ := mem_flat.1 h7
              obtain ⟨k, hk, rfl⟩ := List.getElem_of_mem hd
              rw [List.getElem_drop] at he
              simp only [List.length_drop] at hk
              exact far (i + 1 + k) (by omega) (by omega) he
  · have hf' : fndS s c.f1 = false := by simpa using hf
    have hfa : fndS s all = false := by rw [hfe]; exact hf'
    have hir : riseB (insS s all) = true := rise_insS h.rise hfa
    have hal := h.len
    have hil2 := insS_len s all
    by_cases h4 : (insS s c.f1).length ≤ 4
    · refine ⟨a, b, [⟨rd b (i : Int), insS s c.f1, c.f2⟩], 0, ?_, .inl ⟨rfl, ⟨by simp, by simp⟩, by rw [g2]; rfl, ?_⟩⟩
      · unfold leaf_Insert.f
        rw [if_pos hlim, if_neg (by rw [hok]; decide), if_neg (by omega), if_neg hf, if_pos h4, g2]
      · have hk := ind_small (P := fun _ => True) h1 (s := s) trivial hi hib g2 g3 g5 g6 (fun _ _ => trivial) hf' h4
        rw [if_neg (by rw [hfa]; decide)]
        refine ⟨⟨_, hk, by rw [newL_len1 (c := ⟨rd b (i : Int), insS s c.f1, c.f2⟩) hil g3]; exact h2, fun j hj => ?_⟩, hir, by omega, fun e => ?_⟩
        · show lkp (rd b (j : Int)) (putP (rd b (i : Int)) _ t) = _
          rw [hlk _ j hj, get_new1 (c := ⟨rd b (i : Int), insS s c.f1, c.f2⟩) hil g3]
        · rw [flat_new, flat_one (c := ⟨rd b (i : Int), insS s c.f1, c.f2⟩) g3]
          show e ∈ insAt (loS s all) s all ↔ _ ∨ e ∈ insAt (loS s c.f1) s c.f1 ∨ _
          rw [mem_ins, mem_ins, h.mem, flat_old hil, hcg]
          constructor
          · rintro (h5 | h5 | h5 | h5)
            · exact .inr (.inl (.inl h5))
            · exact .inl h5
            · exact .inr (.inl (.inr h5))
            · exact .inr (.inr h5)
          · rintro (h5 | (h5 | h5) | h5)
            · exact .inr (.inl h5)
            · exact .inl h5
            · exact .inr (.inr (.inl h5))
            · exact .inr (.inr (.inr h5))
    · obtain ⟨m, hm, hm1, hm2⟩ := fresh_some b
      refine ⟨insAt i (rdOf ByteArray.empty (insS s c.f1) 3) a, insAt (i + 1) m b, [⟨rd b (i : Int), (insS s c.f1).take 3, c.f2⟩, ⟨m, (insS s c.f1).drop 3, false⟩], 0, ?_, .inl ⟨rfl, ⟨by simp, by simp⟩, by rw [g2]; rfl, ?_⟩⟩
      · unfold leaf_Insert.f
        rw [if_pos hlim, if_neg (by rw [hok]; decide), if_neg (by omega), if_neg hf, if_neg h4, hm, g2, hi]
        rfl
      · have hk := ind_split (P := fun _ => True) h1 (s := s) trivial hi hib g2 g3 g4 g5 g6 (fun _ _ => trivial) hf' h4 hm1 hm2
        rw [if_neg (by rw [hfa]; decide)]
        have hbl2 : (insAt (i + 1) m b).length = b.length + 1 := insAt_len (by omega)
        have hmn : ∀ j : Nat, j < b.length → rd b (j : Int) ≠ m := fun j hj e => hm2 (by rw [← e]; exact mem_int hj)
        refine ⟨⟨_, hk, by rw [newL_len2 (c := ⟨rd b (i : Int), (insS s c.f1).take 3, c.f2⟩) (d := ⟨m, (insS s c.f1).drop 3, false⟩) hil g3 rfl, hbl2, h2], fun j hj => ?_⟩, hir, by omega, fun e => ?_⟩
        · rw [hbl2] at hj
          show lkp _ (putP m _ (putP (rd b (i : Int)) _ t)) = _
          rw [get_new2 (c := ⟨rd b (i : Int), (insS s c.f1).take 3, c.f2⟩) (d := ⟨m, (insS s c.f1).drop 3, false⟩) hil g3 rfl, rd_ins (by omega)]
          by_cases h5 : j < i
          · rw [if_pos h5, if_pos (by omega), lkp_putP, if_neg (fun e => hmn j (by omega) e.symm), hlk _ j (by omega), if_neg (by omega)]
          · rw [if_neg h5]
            by_cases h6 : j = i
            · rw [if_pos h6, if_pos (by omega), lkp_putP, if_neg (fun e => hmn j (by omega) e.symm), hlk _ j (by omega), if_pos h6]
            · rw [if_neg h6, if_neg (by omega)]
              by_cases h7 : j = i + 1
              · rw [if_pos h7, if_pos h7, lkp_putP, if_pos rfl]
              · rw [if_neg h7, if_neg h7, lkp_putP, if_neg (fun e => hmn (j - 1) (by omega) e.symm), hlk _ (j - 1) (by omega), if_neg (by omega)]
        · rw [flat_new, flat_two (c := ⟨rd b (i : Int), (insS s c.f1).take 3, c.f2⟩) (d := ⟨m, (insS s c.f1).drop 3, false⟩) g3 rfl]
          show e ∈ insAt (loS s all) s all ↔ _ ∨ (e ∈ (insS s c.f1).take 3 ∨ e ∈ (insS s c.f1).drop 3) ∨ _
          rw [← List.mem_append, List.take_append_drop]
          show e ∈ insAt (loS s all) s all ↔ _ ∨ e ∈ insAt (loS s c.f1) s c.f1 ∨ _
          rw [mem_ins, mem_ins, h.mem, flat_old hil, hcg]
          constructor
          · rintro (h5 | h5 | h5 | h5)
            · exact .inr (.inl (.inl h5))
            · exact .inl h5
            · exact .inr (.inl (.inr h5))
            · exact .inr (.inr h5)
          · rintro (h5 | (h5 | h5) | h5)
            · exact .inr (.inl h5)
            · exact .inl h5
            · exact .inr (.inr (.inl h5))
            · exact .inr (.inr (.inr h5))
end Go.Proofs.Ytneagipmllgejaa.PL
end
section
set_option linter.unusedVariables false
set_option linter.unusedSimpArgs false
namespace Go.Proofs.Ytneagipmllgejaa.PL
open Go.RowKit Go.Proofs.YtneagipmllgejaaW.PrintWords Go.Proofs.YtneagipmllgejaaW.PrintLast Go.Proofs.YtneagipmllgejaaW.PrintMore Go.Proofs.YtneagipmllgejaaH
/-- A leaf's cells, as they are read wherever W0's blocks of ok are. -/
def Vl (W0 : World) (ok : Nat → Prop) : Kd S28 where
  sz := 3
  E := []
  K := fun _ x cs => Kd.FK k28 W0 ok x cs
  M := fun _ _ _ x cs => Kd.FK k28 W0 ok x cs
  K_len := fun h => by obtain ⟨A1, c1, rfl, _⟩ := k28_openF h; rfl
  K_one := fun h => by obtain ⟨A1, c1, rfl, _⟩ := k28_openF h; exact one28 _ rfl _ _
  K_below := fun _ h => h
  K_of_M := fun h => h
  M_mono := fun _ h => h
  M_bound := fun h => h
  M_move := fun _ h => h
  M_lower := fun _ h => h
/-- A row of leaves that is read, so told. -/
theorem vl_reads {W0 W : World} {ok : Nat → Prop} {A : Option Addr} {xs : List S28} (h : Kd.F k28 W0 ok A xs.length xs) (hA : ∀ k, ok k → k < W0.heap.size → W.heap[k]? = W0.heap[k]?) : ReadsRow (Kd.FK k28 W0 ok) 3 W A xs.length xs := by
  refine ⟨rfl, Kd.F_max h, fun hp => ?_⟩
  obtain ⟨ad, _, e, _⟩ := Kd.F_get h z28 0 (Int.le_refl _) (by omega)
  subst e
  refine ⟨ad, rfl, fun j p hj => ?_⟩
  have hjl : j < xs.length := (List.getElem?_eq_some_iff.1 hj).1
  obtain ⟨ad', c, e, hl, hK, hc, hin⟩ := Kd.F_get h z28 (j : Int) (by omega) (by omega)
  cases e
  simp only [Int.toNat_natCast] at hK hc
  have ep : xs.getD j z28 = p := by rw [List.getD_eq_getElem?_getD, hj]; rfl
  rw [ep] at hK
  refine ⟨c, hl, hK, fun i u hu => ?_⟩
  have h1 : W0.cell? (ad.add (j * 3 + i)) = some u := hc i u hu
  have h2 := World.block_lt_of_cell? W0 _ h1
  have hb : (ad.add (j * 3 + i)).block = ad.block := by unfold Addr.add; split <;> rfl
  have h3 := hA ad.block (hin (by decide)) (by rw [← hb]; exact h2)
  rw [← h1]
  exact World.cell?_of_block (by rw [hb]; exact h3)
/-- A row of leaves of one's own is one that is read. -/
theorem vl_F {W0 W : World} {ok ok' : Nat → Prop} {base : Nat} {okr : Nat → Prop} {A : Option Addr} {n c : Nat} {xs : List S28} (hr : (Vl W0 ok).R 28 W base okr (.slice A n c) xs) (hA : ∀ k, ok k → k < W0.heap.size → W.heap[k]? = W0.heap[k]?) (h1 : ∀ k, ok k → k < W0.heap.size → ok' k) (h2 : ∀ k, (Value.slice A n c).ownBlock = some k → ok' k) : n = xs.length ∧ n ≤ c ∧ Kd.F k28 W ok' A xs.length xs := by
  obtain ⟨e1, e2, _⟩ := Kd.R_reads' hr
  refine ⟨e1, e2, fun W' hW => ?_⟩
  have hr2 := Kd.R_reok (ok := fun k => (Value.slice A n c).ownBlock = some k) rfl hr (fun k hk => hk)
  have hr3 := Kd.R_step hr2 (w1 := W') (fun k hk hlt => hW k (h2 k hk) hlt)
  obtain ⟨_, _, h3⟩ := Kd.R_reads' hr3
  refine ⟨h3.1, h3.2.1, fun hp => ?_⟩
  obtain ⟨ad, e, hc⟩ := h3.2.2 hp
  refine ⟨ad, e, fun j p hj => ?_⟩
  obtain ⟨cs, hl, hK, hcell⟩ := hc j p hj
  exact ⟨cs, hl, hK W' (fun k hk hlt => (hW k (h1 k hk hlt) (heap_lt (hA k hk hlt) hlt)).trans (hA k hk hlt)), hcell⟩
/-- The law's state in world W: w is the world at its start, g3 the root's box. -/
structure La (w W : World) (ok : Nat → Prop) (g3 : Nat) (A0 : Option Addr) (c0 : Nat) (a : List ByteArray) (A1 : Option Addr) (c1 : Nat) (b : List Int) (A5 : Option Addr) (c5 : Nat) (ls : List S28) (A6 : Option Addr) (c6 : Nat) (al : List ByteArray) : Prop where
  x3 : W.heap[g3]? = some (.cells #[.slice A0 a.length c0, .slice A1 b.length c1] 26 (0, 0))
  f0 : Kd.F Kd.string W ok A0 a.length a
  h0 : a.length ≤ c0
  f1 : Kd.F (Kd.int .i64) W ok A1 b.length b
  h1 : b.length ≤ c1
  fl : Kd.F k28 W ok A5 ls.length ls
  hl : ls.length ≤ c5
  fa : Kd.F Kd.string W ok A6 al.length al
  ha : al.length ≤ c6
  below : Below w.heap.size w W
  b3 : w.heap.size ≤ g3
  k3 : ∀ k, ok k → k ≠ g3
namespace La
variable {w W W1 : World} {ok ok' : Nat → Prop} {g3 g : Nat} {A0 A1 A5 A6 : Option Addr} {c0 c1 c5 c6 : Nat} {a al : List ByteArray} {b : List Int} {ls : List S28}
theorem cells (h : La w W ok g3 A0 c0 a A1 c1 b A5 c5 ls A6 c6 al) : W.cell? ⟨g3, 0, none⟩ = some (.slice A0 a.length c0) ∧ W.cell? ⟨g3, 1, none⟩ = some (.slice A1 b.length c1) := ⟨(blk_cell h.x3 0).trans rfl, (blk_cell h.x3 1).trans rfl⟩
theorem grow (h : La w W ok g3 A0 c0 a A1 c1 b A5 c5 ls A6 c6 al) (hb : Below W.heap.size W W1) : La w W1 ok g3 A0 c0 a A1 c1 b A5 c5 ls A6 c6 al :=
  { h with
    x3 := blk_below h.x3 hb
    f0 := Kd.F_below h.f0 hb
    f1 := Kd.F_below h.f1 hb
    fl := Kd.F_below h.fl hb
    fa := Kd.F_below h.fa hb
    below := below_then h.below h.below.size hb }
theorem far (h : La w W ok g3 A0 c0 a A1 c1 b A5 c5 ls A6 c6 al) (hg : W.grownBy W1 (some g)) (hok : ∀ k, ok k → k ≠ g) (h3 : g3 ≠ g) (hw : w.heap.size ≤ g) : La w W1 ok g3 A0 c0 a A1 c1 b A5 c5 ls A6 c6 al :=
  { h with
    x3 := blk_grown h.x3 hg (fun e => h3 (Option.some.inj e))
    f0 := Kd.F_grown h.f0 hg (fun k hk e => hok k hk (Option.some.inj e))
    f1 := Kd.F_grown h.f1 hg (fun k hk e => hok k hk (Option.some.inj e))
    fl := Kd.F_grown h.fl hg (fun k hk e => hok k hk (Option.some.inj e))
    fa := Kd.F_grown h.fa hg (fun k hk e => hok k hk (Option.some.inj e))
    below := below_own h.below hg hw h.below.size }
theorem weak (h : La w W ok g3 A0 c0 a A1 c1 b A5 c5 ls A6 c6 al) (hok : ∀ k, ok k → ok' k) (h3 : ∀ k, ok' k → k ≠ g3) : La w W ok' g3 A0 c0 a A1 c1 b A5 c5 ls A6 c6 al :=
  { h with
    f0 := Kd.F_mono h.f0 hok
    f1 := Kd.F_mono h.f1 hok
    fl := Kd.F_mono h.fl hok
    fa := Kd.F_mono h.fa hok
    k3 := h3 }
theorem bound (h : La w W ok g3 A0 c0 a A1 c1 b A5 c5 ls A6 c6 al) : La w W (fun k => ok k ∧ k < W.heap.size) g3 A0 c0 a A1 c1 b A5 c5 ls A6 c6 al :=
  { h with
    f0 := Kd.F_bound h.f0
    f1 := Kd.F_bound h.f1
    fl := Kd.F_bound h.fl
    fa := Kd.F_bound h.fa
    k3 := fun k hk => h.k3 k hk.1 }
/-- A new box. -/
theorem alloc (h : La w W ok g3 A0 c0 a A1 c1 b A5 c5 ls A6 c6 al) (hg : g = W.heap.size) (hb : Below W.heap.size W W1) : La w W1 (fun k => ok k ∧ k ≠ g) g3 A0 c0 a A1 c1 b A5 c5 ls A6 c6 al ∧ g3 ≠ g ∧ w.heap.size ≤ g := by
  have h1 := blk_lt h.x3
  refine ⟨((h.bound).weak (fun k hk => ⟨hk.1, by have := hk.2; omega⟩) (fun k hk => h.k3 k hk.1)).grow hb, by omega, by have := h.below.size; omega⟩
/-- The box gets another root; the list, another one; nothing else is known of. -/
theorem next {A0' A1' A5' : Option Addr} {c0' c1' c5' : Nat} {a' : List ByteArray} {b' : List Int} {ls' : List S28} (h : La w W ok g3 A0 c0 a A1 c1 b A5 c5 ls A6 c6 al) (hx : W1.heap[g3]? = some (.cells #[.slice A0' a'.length c0', .slice A1' b'.length c1'] 26 (0, 0))) (hm : ∀ k, ok k → k < W.heap.size → W1.heap[k]? = W.heap[k]?) (hb : Below w.heap.size w W1)
    (f0 : Kd.F Kd.string W1 ok A0' a'.length a') (h0 : a'.length ≤ c0') (f1 : Kd.F (Kd.int .i64) W1 ok A1' b'.length b') (h1 : b'.length ≤ c1') (fl : Kd.F k28 W1 ok A5' ls'.length ls') (hl : ls'.length ≤ c5') : La w W1 ok g3 A0' c0' a' A1' c1' b' A5' c5' ls' A6 c6 al where
  x3 := hx
  f0 := f0
  h0 := h0
  f1 := f1
  h1 := h1
  fl := fl
  hl := hl
  fa := Kd.F_step h.fa hm
  ha := h.ha
  below := hb
  b3 := h.b3
  k3 := h.k3
end La
theorem takeL_run (A : Option Addr) (c n : Nat) (i : Nat) (hi : i ≤ n) (hc : n ≤ c) {j : Int} (hj : j = (i : Int)) : ∀ W : World, (Instr.slice 32 (.slice A n c) none (some (.int .i64 j)) none).run Try.prog W = .ok (.slice A i c) W := by
  subst hj
  intro W
  obtain ⟨i0, hi0, _, hsz, _⟩ := info_parts info28
  have hel : Try.prog.elem 32 = 28 := by simp [Program.elem, Try.underlying32]
  have hu : Try.prog.underlying 32 = some (.slice (Try.prog.elem 32)) := by rw [hel]; exact Try.underlying32
  have ha : (A.map fun x => x.add 0) = A := by cases A <;> simp [Addr.add]
  rw [run_slice_h W 32 A n c hu .i64 (i : Int) (by omega) (by omega), hel]
  simp [sizeOf, typeInfo, hi0, hsz, sliced, Result.andThen, ha]
theorem dropL_run (A : Option Addr) (c n : Nat) (i : Nat) (hi : i ≤ n) (hc : n ≤ c) {j : Int} (hj : j = (i : Int)) : ∀ W : World, (Instr.slice 32 (.slice A n c) (some (.int .i64 j)) none none).run Try.prog W = .ok (.slice (if c = i then A else A.map (·.add (i * 3))) (n - i) (c - i)) W := by
  subst hj
  intro W
  obtain ⟨i0, hi0, _, hsz, _⟩ := info_parts info28
  have hel : Try.prog.elem 32 = 28 := by simp [Program.elem, Try.underlying32]
  have hu : Try.prog.underlying 32 = some (.slice (Try.prog.elem 32)) := by rw [hel]; exact Try.underlying32
  rw [run_slice_l W 32 A n c hu .i64 (i : Int) (by omega) (by omega), hel]
  simp [sizeOf, typeInfo, hi0, hsz, sliced, Result.andThen]
def GoodA (n : Nat) (a : List ByteArray) (b : List Int) (ls : List S28) (al : List ByteArray) : Prop := IndL n a b ls al ∧ ∀ e ∈ al, e.size ≤ 50
structure ActPlain (n : Nat) (a : List ByteArray) (b : List Int) (ls : List S28) (al : List ByteArray) (s : ByteArray) (i : Nat) (c : S28) (r1 : List ByteArray) (r2 : List Int) (r3 : List S28) (r4 : Int) (p1 : List ByteArray) (p2 : List Int) (p3 : List S28) (al' : List ByteArray) : Prop where
  lt : i < ls.length
  rd : rd_T28 ls (i : Int) = c
  find : leaf_Find.f (a.length + 1) a b s = some c.f0
  uniq : ∀ j : Nat, j < ls.length → (rd_T28 ls (j : Int)).f0 = c.f0 → j = i
  ins : leaf_Insert.f a b c.f0 c.f1 c.f2 s = some (r1, r2, r3, r4)
  way : (r4 = 0 ∧ r1 = p1 ∧ r2 = p2 ∧ r3 = p3) ∨ (r4 = 31 ∧ leaf_Remove.f a b c.f0 c.f1 c.f2 s = some (p1, p2, p3, 0))
  len : 1 ≤ p3.length ∧ p3.length ≤ 2
  no : (rd_T28 p3 0).f0 = c.f0
  turn : cobweblaw11_turned.f 5000 al s = some al'
  next : GoodA (n + 1) p1 p2 (newL ls i p3) al'
  right : leaf_Right.f p1 p2 (newL ls i p3) = some true
  flat : flatL (newL ls i p3) = al'
  texts : cobwebref11_Texts.f (al'.length + 1) al' al' = some true
  small : ls.length ≤ 1000 ∧ al'.length ≤ 1000 ∧ (newL ls i p3).length ≤ 1000
theorem act_plain {n : Nat} {a : List ByteArray} {b : List Int} {ls : List S28} {al : List ByteArray} (h : GoodA n a b ls al) (s : ByteArray) (hn : n < 150) (hs : s.size ≤ 50) : ∃ i c r1 r2 r3 r4 p1 p2 p3 al', ActPlain n a b ls al s i c r1 r2 r3 r4 p1 p2 p3 al' := by
  obtain ⟨h, hz⟩ := h
  obtain ⟨i, c, h1, h2, h3, h4, r1, r2, r3, r4, h5, h6⟩ := indl_step h s (by omega) (by omega)
  have hal := h.len
  have hlen : ls.length ≤ 151 := by obtain ⟨t, t1, t2, _⟩ := h.t; have := t1.len; omega
  have hturn : cobweblaw11_turned.f 5000 al s = some (if fndS s al = true then cutS s al else insS s al) := turned_spec al s h.rise (by omega) (fun e he => by have := hz e he; omega) (by omega) (Nat.le_refl _)
  have hz' : ∀ e ∈ (if fndS s al = true then cutS s al else insS s al), e.size ≤ 50 := fun e he => by
    by_cases hf : fndS s al = true
    · rw [if_pos hf] at he
      exact hz e ((mem_cut_iff h.rise hf).1 he).1
    · rw [if_neg hf] at he
      rcases mem_ins.1 (show e ∈ insAt (loS s al) s al from he) with e2 | e2
      · rw [e2]; exact hs
      · exact hz e e2
  have main : ∀ (p1 : List ByteArray) (p2 : List Int) (p3 : List S28), ActOK n ls i c.f0 al s p1 p2 p3 → ((r4 = 0 ∧ r1 = p1 ∧ r2 = p2 ∧ r3 = p3) ∨ (r4 = 31 ∧ leaf_Remove.f a b c.f0 c.f1 c.f2 s = some (p1, p2, p3, 0))) → ActPlain n a b ls al s i c r1 r2 r3 r4 p1 p2 p3 (if fndS s al = true then cutS s al else insS s al) := fun p1 p2 p3 ho hw => by
    have hx := ho.next
    have hl := hx.len
    obtain ⟨t, t1, t2, _⟩ := hx.t
    have t3 := t1.len
    have t4 := (rootB_iff.1 t1.root).2.1
    have hlf : ∀ d ∈ newL ls i p3, d.f1.length ≤ 100000 := fun d hd => by
      obtain ⟨j, hj, rfl⟩ := List.getElem_of_mem hd
      have := (hx.lf hj).2.2.1
      omega
    refine ⟨h1, h2, h3, h4, h5, hw, ho.len, ho.no, hturn, ⟨hx, hz'⟩, ?_, hx.flat, ?_, by omega, by omega, by omega⟩
    · unfold leaf_Right.f
      rw [if_pos ⟨by omega, by omega, hlf⟩, hx.right]
    · unfold cobwebref11_Texts.f
      rw [if_pos rfl]
      exact texts_self _ (by omega) _ _ 0 (by omega) (Nat.lt_succ_self _)
  rcases h6 with ⟨e, ho⟩ | ⟨e, q1, q2, q3, hr, ho⟩
  · exact ⟨i, c, r1, r2, r3, r4, r1, r2, r3, _, main _ _ _ ho (.inl ⟨e, rfl, rfl, rfl⟩)⟩
  · exact ⟨i, c, r1, r2, r3, r4, q1, q2, q3, _, main _ _ _ ho (.inr ⟨e, hr⟩)⟩
theorem good_start : GoodA 0 [] [1] [⟨1, [], false⟩] [] := ⟨indl_start, fun e he => by cases he⟩
end Go.Proofs.Ytneagipmllgejaa.PL
end
section
set_option linter.unusedVariables false
set_option linter.unusedSimpArgs false
namespace Go.Proofs.Ytneagipmllgejaa.PL
open Go.RowKit Go.Proofs.YtneagipmllgejaaW.PrintWords Go.Proofs.YtneagipmllgejaaW.PrintLast Go.Proofs.YtneagipmllgejaaW.PrintMore Go.Proofs.YtneagipmllgejaaH
theorem heldL_below {ad : Addr} {j : Nat} {A9 : Option Addr} {c9 : Nat} {lf : S28} {W W1 : World} (h : heldL ad j A9 c9 lf W) (hb : Below W.heap.size W W1) : heldL ad j A9 c9 lf W1 := ⟨pw_cell_below hb h.1, pw_cell_below hb h.2.1, pw_cell_below hb h.2.2⟩
theorem pick_step {q : Int} {i0 k : Nat} (h : q = if i0 < k then (i0 : Int) else -1) (hne : k ≠ i0) : q = if i0 < k + 1 then (i0 : Int) else -1 := by
  by_cases h3 : i0 < k
  · rw [if_pos h3] at h; rw [if_pos (by omega)]; exact h
  · rw [if_neg h3] at h; rw [if_neg (by omega)]; exact h
theorem flat_take_le (ls : List S28) (j : Nat) : (flatL (ls.take j)).length ≤ (flatL ls).length := by
  conv => rhs; rw [← List.take_append_drop j ls, flat_app, List.length_append]
  omega
theorem flat_bound {lq : List S28} {j : Nat} {al' : List ByteArray} (h : flatL lq = al') (hb : al'.length ≤ 1000) : (flatL (lq.take j)).length ≤ 1000 := by
  have h1 := flat_take_le lq j
  rw [h] at h1
  omega
theorem flat_take_succ {ls : List S28} {j : Nat} (hj : j < ls.length) : flatL (ls.take (j + 1)) = flatL (ls.take j) ++ (rd_T28 ls (j : Int)).f1 := by
  rw [List.take_succ_eq_append_getElem hj, flat_app]
  have e : rd_T28 ls (j : Int) = ls[j] := by simp [rd_T28, List.getD_eq_getElem?_getD, List.getElem?_eq_getElem hj]
  rw [e]
  simp [flatL]
theorem filt_take_succ {ls : List S28} {j : Nat} (hj : j < ls.length) : (ls.take (j + 1)).filter (fun c => !c.f2) = (ls.take j).filter (fun c => !c.f2) ++ (if (rd_T28 ls (j : Int)).f2 = true then [] else [rd_T28 ls (j : Int)]) := by
  rw [List.take_succ_eq_append_getElem hj, List.filter_append]
  have e : rd_T28 ls (j : Int) = ls[j] := by simp [rd_T28, List.getD_eq_getElem?_getD, List.getElem?_eq_getElem hj]
  rw [e]
  cases h : (ls[j]).f2 <;> simp [h]
def act21T : Bool × List (List Nat × List Nat) := (true, [([], []), ([], []), ([], []), ([1, 2], [1, 2]), ([3], [3]), ([], []), ([0, 4, 5], [0, 4, 5]), ([6], [6]), ([7], [7]), ([7], [7]), ([7], [7]), ([], []), ([11, 8, 6, 0, 1, 2, 3, 4, 5, 6, 7, 8, 11], [8, 11]), ([9, 12, 0, 1, 2, 3, 4, 5, 6, 7, 8, 9, 11, 12], [9]), ([10, 13, 0, 1, 2, 3, 4, 5, 6, 7, 8, 9, 10, 11, 12, 13], [10])])
def act21B : List Nat := [0, 0, 0, 6, 14, 0, 63, 127, 255, 255, 255, 0, 2559, 7167, 16383]
theorem act21Tab : rtab .any (opsOf Try.f7 21) = act21T := by kernel_rfl
theorem act21Waits : waitsOk act21T.2 act21B = true := by kernel_rfl
def act23T : Bool × List (List Nat × List Nat) := (true, [([], []), ([], []), ([], []), ([1, 2], [1, 2]), ([3], [3]), ([], []), ([0, 4, 5], [0, 4, 5]), ([6], [6]), ([7], [7]), ([7], [7]), ([7], [7]), ([8, 6, 0, 1, 2, 3, 4, 5, 6, 7, 8], [8]), ([9, 11, 0, 1, 2, 3, 4, 5, 6, 7, 8, 9, 11], [9]), ([10, 12, 0, 1, 2, 3, 4, 5, 6, 7, 8, 9, 10, 11, 12], [10])])
def act23B : List Nat := [0, 0, 0, 6, 14, 0, 63, 127, 255, 255, 255, 511, 3071, 8191]
theorem act23Tab : rtab .any (opsOf Try.f7 23) = act23T := by kernel_rfl
theorem act23Waits : waitsOk act23T.2 act23B = true := by kernel_rfl
def act33T : Bool × List (List Nat × List Nat) := (true, [([], []), ([], []), ([], []), ([], []), ([3], [3]), ([2, 4], [2, 4]), ([1, 5], [1, 5]), ([0, 6, 0], [0]), ([6, 7, 0, 1, 2, 3, 4, 5, 6, 7], [2, 6])])
def act33B : List Nat := [0, 0, 0, 0, 8, 28, 62, 127, 255]
theorem act33Tab : rtab .any (opsOf Try.f7 33) = act33T := by kernel_rfl
theorem act33Waits : waitsOk act33T.2 act33B = true := by kernel_rfl
set_option maxHeartbeats 16000000 in
set_option maxRecDepth 100000 in
theorem acts_main (A : Option Addr) (c : Nat) (es : List ByteArray) (w : World) (hr : Kd.C Kd.string w A es.length es) (hc : es.length ≤ c) (hl : es.length ≤ 150) :
    Calls Try.prog 7 #[.slice A es.length c] w fun e w' => e = .returned (.bool true) ∧ Below w.heap.size w w' := by
  have HR := Lib.hid hr
  have hu26 := Try.underlying26
  have hu28 := Try.underlying28
  have hl1 : decide ((150 : Int) < (es.length : Int)) = false := decide_eq_false (by omega)
  have hl2 : decide (150 < es.length) = false := decide_eq_false (by omega)
  clear hr
  go_enter Try.func7, Try.ntmps7
  go_wp2_with (first | (go_at_call 9; refine (cobweblaw11_awake.calls 50 true _ (awake_true 50 (Nat.le_refl _))).mono ?_; rintro e w1 ⟨rfl, hb⟩; have HB1 := Lib.hid hb; clear hb) | (go_at_call 10; refine (leaf_Empty.calls [] [1] 1 [] false _ rfl).mono ?_; rintro e w2 ⟨v0, v1, v3, rfl, h0, h1, h3, hb⟩; obtain ⟨A0, c0, rfl⟩ := Kd.R_slice h0; obtain ⟨A1, c1, rfl⟩ := Kd.R_slice h1; obtain ⟨A3, c3, rfl⟩ := Kd.R_slice h3; have H0_2 := Lib.hid h0; have H1_2 := Lib.hid h1; have H3_2 := Lib.hid h3; have HB2 := Lib.hid (below_then HB1.out HB1.out.size hb); have HS1 := Lib.hid HB1.out.size; clear h0 h1 h3 hb) | ((with_reducible refine gate_dst (N := 3) rfl ?_); refine alloc_event ?hg (N := 3) ?hd (fun g => .pointer (some ⟨g, 0, none⟩)) (.cells #[.slice none 0 0, .slice none 0 0] 26 (0, 0)) ?hr ?_; (case hd => rfl); (case hg => rfl); (case hr => first | (go_simp; done) | (go_simp; rfl)); intro g7 hg w3 hbox hb; have HG7 := Lib.hid (show w.heap.size ≤ g7 by rw [hg]; exact HB2.out.size); have HE7 := Lib.hid (show w2.heap.size ≤ g7 by omega); have HX7_3 := Lib.hid hbox; have HB3 := Lib.hid (below_then HB2.out HB2.out.size hb); have HV3 := Lib.hid hb; clear hg hbox hb) | ((with_reducible refine gate_dst (N := 4) rfl ?_); refine alloc_event ?hg (N := 4) ?hd (fun g => .pointer (some ⟨g, 0, none⟩)) (.cells #[.int .i64 0, .slice none 0 0, .bool false] 28 (0, 0)) ?hr ?_; (case hd => rfl); (case hg => rfl); (case hr => first | (go_simp; done) | (go_simp; rfl)); intro g8 hg w4 hbox hb; have HG8 := Lib.hid (show w.heap.size ≤ g8 by rw [hg]; exact HB3.out.size); have HN78 := Lib.hid (show g7 ≠ g8 by have := blk_lt HX7_3.out; omega); have HX8_4 := Lib.hid hbox; have HX7_4 := Lib.hid (blk_below HX7_3.out hb); have HE8 := Lib.hid (show w2.heap.size ≤ g8 by rw [hg]; exact HV3.out.size); have HB4 := Lib.hid (below_then HB3.out HB3.out.size hb); have HV4 := Lib.hid (below_then HV3.out HV3.out.size hb); clear hg hbox hb) | ((with_reducible refine gate_store (t := 26) (p := 3) rfl ?_); refine store_row rfl rfl rfl g7 _ 26 [.slice A0 0 c0, .slice A1 1 c1] rfl (.agg #[.slice A0 0 c0, .slice A1 1 c1]) ?haA ?hbA HX7_4.out rfl (by kernel_rfl) (two26 A0 0 c0 A1 1 c1) ?_; (case haA => rfl); (case hbA => first | rfl | simp [Value.cells]); intro w5 hbox hg hz; have HX7_5 := Lib.hid hbox; have HX8_5 := Lib.hid (blk_grown HX8_4.out hg (fun e_ => HN78.out (Option.some.inj e_).symm)); have HB5 := Lib.hid (below_own HB4.out hg HG7.out HB4.out.size); have HV5 := Lib.hid (below_own HV4.out hg HE7.out HV4.out.size); clear hbox hg hz) | ((with_reducible refine gate_store (t := 28) (p := 4) rfl ?_); refine store_row rfl rfl rfl g8 _ 28 [.int .i64 1, .slice A3 0 c3, .bool false] rfl (.agg #[.int .i64 1, .slice A3 0 c3, .bool false]) ?haB ?hbB HX8_5.out rfl (by kernel_rfl) (one28 (.slice A3 0 c3) rfl 1 false) ?_; (case haB => rfl); (case hbB => first | rfl | simp [Value.cells]); intro w6 hbox hg hz; have HX8_6 := Lib.hid hbox; have HX7_6 := Lib.hid (blk_grown HX7_5.out hg (fun e_ => HN78.out (Option.some.inj e_))); have HB6 := Lib.hid (below_own HB5.out hg HG8.out HB5.out.size); have HV6 := Lib.hid (below_own HV5.out hg HE8.out HV5.out.size); clear hbox hg hz; have q80 : w6.cell? ⟨g8, 0, none⟩ = some (.int .i64 1) := (blk_cell HX8_6.out 0).trans rfl; have q81 : w6.cell? ⟨g8, 1, none⟩ = some (.slice A3 0 c3) := (blk_cell HX8_6.out 1).trans rfl; have q82 : w6.cell? ⟨g8, 2, none⟩ = some (.bool false) := (blk_cell HX8_6.out 2).trans rfl) | ((with_reducible refine gate_dst (N := 32) rfl ?_); refine alloc_event ?hg (N := 32) ?hd (fun g => .slice (some ⟨g, 0, none⟩) 1 1) (.cells #[.int .i64 1, .slice A3 0 c3, .bool false] 28 (0, 0)) ?hr ?_; (case hd => rfl); (case hg => rfl); (case hr => first | (go_simp; done) | (go_simp; rfl)); intro bm hg w7 hbox hb; have HGM := Lib.hid (show w.heap.size ≤ bm by rw [hg]; exact HB6.out.size); have HN7M := Lib.hid (show g7 ≠ bm by have := blk_lt HX7_6.out; omega); have HEM := Lib.hid (show w2.heap.size ≤ bm by rw [hg]; exact HV6.out.size); have HBM := Lib.hid hbox; have HX7_7 := Lib.hid (blk_below HX7_6.out hb); have HB7 := Lib.hid (below_then HB6.out HB6.out.size hb); have HV7 := Lib.hid (below_then HV6.out HV6.out.size hb); clear hg hbox hb q80 q81 q82; refine Hold.go ?_))
  have HS := Lib.hid (show La w w7 (fun k => k ≠ g7) g7 A0 c0 ([] : List ByteArray) A1 c1 ([1] : List Int) (some ⟨bm, 0, none⟩) 1 ([⟨1, [], false⟩] : List S28) none 0 ([] : List ByteArray) from by
    have hk : ∀ k, w1.heap.size ≤ k → k < w2.heap.size → k ≠ g7 := fun k _ h => by have := HE7.out; omega
    have hk2 : ∀ k, w1.heap.size ≤ k → k < w2.heap.size → k ≠ g7 ∧ k ≠ bm := fun k _ h => ⟨by have := HE7.out; omega, by have := HEM.out; omega⟩
    have e0 := freshS H0_2.out hk
    have e1 := freshN H1_2.out hk
    have e3 := freshS H3_2.out hk2
    have eL := Kd.N_F (N_one28 (base := w.heap.size) (ok := fun k => k ≠ g7) (⟨1, [], false⟩ : S28) (A1 := A3) (c1 := c3) HBM.out HGM.out (fun e => HN7M.out e.symm) e3.1 (Kd.F_below e3.2 HV7.out))
    exact ⟨HX7_7.out, Kd.F_below e0.2 HV7.out, e0.1, Kd.F_below e1.2 HV7.out, e1.1, eL, Nat.le_refl _, Kd.F_nil _ _ _, Nat.le_refl _, HB7.out, HG7.out, fun k hk => hk⟩)
  clear HB1 HB2 HB3 HB4 HB5 HB6 HB7 HV3 HV4 HV5 HV6 HV7 HX7_3 HX7_4 HX7_5 HX7_6 HX7_7 HX8_4 HX8_5 HX8_6 HBM H0_2 H1_2 H3_2 HE7 HE8 HEM HG7 HG8 HGM HN78 HN7M HS1
  refine Hold.of ?_
  go_wp2
  go_loopg [5, 6, 7] es.length (fun d v5 v6 v7 w' => ∃ (i : Nat) (A0 : Option Addr) (c0 : Nat) (a : List ByteArray) (A1 : Option Addr) (c1 : Nat) (b : List Int) (A5 : Option Addr) (c5 : Nat) (ls : List S28) (A6 : Option Addr) (c6 : Nat) (al : List ByteArray), v5 = .slice A5 ls.length c5 ∧ v6 = .slice A6 al.length c6 ∧ v7 = .int .i64 i ∧ i ≤ es.length ∧ Aside0 (d = es.length - i) ∧ Aside0 (GoodA i a b ls al) ∧ Aside0 (La w w' (fun k => k ≠ g7) g7 A0 c0 a A1 c1 b A5 c5 ls A6 c6 al))
  case atStart => exact ⟨0, A0, c0, [], A1, c1, [1], some ⟨bm, 0, none⟩, 1, [⟨1, [], false⟩], none, 0, [], rfl, rfl, rfl, Nat.zero_le _, ⟨rfl⟩, ⟨good_start⟩, ⟨HS.out⟩⟩
  case round =>
    clear HS
    obtain ⟨i, A0, c0, a, A1, c1, b, A5, c5, ls, A6, c6, al, rfl, rfl, rfl, hi, HD, HGo, HS⟩ := hrel
    by_cases hlt : i < es.length
    · obtain ⟨ad, rfl, hse⟩ := Kd.at_string HR.out (i : Int) (by omega) (by omega)
      simp only [Int.toNat_natCast] at hse
      have hse := (HS.out.below.cell (World.block_lt_of_cell? w _ hse)).trans hse
      generalize rdOf ByteArray.empty es (i : Int) = s at *
      have hj0 := eq_true (show (0 : Int) ≤ (i : Int) by omega)
      have hj1 := eq_true (show (i : Int) < (es.length : Int) by omega)
      have hj2 : decide ((i : Int) < (es.length : Int)) = true := decide_eq_true (by omega)
      have hj3 : decide (i < es.length) = true := decide_eq_true hlt
      have hj4 := eq_true hlt
      by_cases hs : s.size ≤ 50
      · have hs1 : decide ((50 : Int) < (s.size : Int)) = false := decide_eq_false (by omega)
        have hs2 : decide (50 < s.size) = false := decide_eq_false (by omega)
        obtain ⟨i0, lf, r1, r2, r3, r4, p1, p2, p3, al', hp⟩ := act_plain HGo.out s (by omega) hs
        have HP := Lib.hid hp
        have hilt := hp.lt
        have hls : ls.length ≤ 1000 := hp.small.1
        clear hp
        obtain ⟨q0, q1⟩ := HS.out.cells
        go_wp2_with (first | (go_at_call 12; refine (leaf_Find.calls (a.length + 1) _ c0 a _ c1 b s lf.f0 _ (Kd.F_now HS.out.f0) HS.out.h0 (Kd.F_now HS.out.f1) HS.out.h1 HP.out.find).mono ?_; rintro e wb ⟨rfl, hb⟩; have n_ := Lib.hid (HS.out.grow hb); clear HS; have HS := n_; clear n_; clear hb q0 q1 hse hj0 hj1 hj2 hj3 hj4; refine Hold.go ?_))
        refine Hold.of ?_
        go_wp2
        go_loopg [9, 11] ls.length (fun d v9 v11 w' => ∃ (k : Nat) (q : Int), v9 = .int .i64 q ∧ v11 = .int .i64 k ∧ k ≤ ls.length ∧ Aside0 (d = ls.length - k) ∧ Aside0 (q = if i0 < k then (i0 : Int) else -1) ∧ Aside0 (La w w' (fun k => k ≠ g7) g7 A0 c0 a A1 c1 b A5 c5 ls A6 c6 al))
        case atStart => exact ⟨0, -1, rfl, rfl, Nat.zero_le _, ⟨rfl⟩, ⟨by rw [if_neg (by omega)]⟩, ⟨HS.out⟩⟩
        case round =>
          clear HS
          obtain ⟨k, q, rfl, rfl, hk, HDk, HQ, HS⟩ := hrel
          by_cases hkl : k < ls.length
          · obtain ⟨ad2, A7, c7, e7, hx0, hx1, hx2, _, _⟩ := leaf_of HS.out.fl k hkl
            subst e7
            have hk0 := eq_true (show (0 : Int) ≤ (k : Int) by omega)
            have hk1 := eq_true (show (k : Int) < (ls.length : Int) by omega)
            have hk2 : decide ((k : Int) < (ls.length : Int)) = true := decide_eq_true (by omega)
            have hk3 : decide (k < ls.length) = true := decide_eq_true hkl
            have hk4 := eq_true hkl
            clear hx1 hx2
            by_cases he : (rd_T28 ls (k : Int)).f0 = lf.f0
            · have hki := HP.out.uniq k hkl he
              rw [he] at hx0
              have HKI := Lib.hid hki
              clear he hki
              go_wp2
              go_roundg (ls.length - (k + 1))
              case measure => have := HDk.out; omega
              case rel => exact ⟨k + 1, (k : Int), rfl, by go_num, by omega, ⟨rfl⟩, ⟨by have := HKI.out; rw [if_pos (by omega)]; omega⟩, ⟨HS.out⟩⟩
            · have hki : k ≠ i0 := fun e => he (by rw [e, HP.out.rd])
              have he1 : ((rd_T28 ls (k : Int)).f0 == lf.f0) = false := beq_eq_false_iff_ne.mpr he
              have HKI := Lib.hid hki
              generalize (rd_T28 ls (k : Int)).f0 = y at *
              clear hki
              go_wp2
              go_roundg (ls.length - (k + 1))
              case measure => have := HDk.out; omega
              case rel => exact ⟨k + 1, q, rfl, by go_num, by omega, ⟨rfl⟩, ⟨pick_step HQ.out HKI.out⟩, ⟨HS.out⟩⟩
          · have hke : k = ls.length := by omega
            subst hke
            have hqi : q = (i0 : Int) := by have := HQ.out; rw [if_pos hilt] at this; exact this
            subst hqi
            clear HDk HQ hkl hk
            have hn1 : decide ((i0 : Int) < 0) = false := decide_eq_false (by omega)
            go_upto_region 21 with (fail)
            obtain ⟨ad2, A9, c9, e9, hx0, hx1, hx2, hl9, hf9⟩ := leaf_of HS.out.fl i0 hilt
            subst e9
            rw [HP.out.rd] at hx0 hx1 hx2 hl9 hf9
            have hib := Kd.F_get HS.out.fl z28 (i0 : Int) (by omega) (by omega)
            have HX9 := Lib.hid (show heldL ad2 i0 A9 c9 lf _ from ⟨hx0, hx1, hx2⟩)
            have HL9 := Lib.hid hl9
            have HF9 := Lib.hid hf9
            have hi0 := eq_true (show (0 : Int) ≤ (i0 : Int) by omega)
            have hi1 := eq_true (show (i0 : Int) < (ls.length : Int) by omega)
            have hi3 := eq_true hilt
            clear hx0 hx1 hx2 hl9 hf9 hib
            generalize hwz : wr = wz at *
            clear hwz
            go_cut [12, 13, 14] (fun v12 v13 v14 wc => ∃ (g12 : Nat) (A0' : Option Addr) (c0' : Nat) (A1' : Option Addr) (c1' : Nat) (A2' : Option Addr) (c2' : Nat), v12 = .pointer (some ⟨g12, 0, none⟩) ∧ v13 = .slice A2' r3.length c2' ∧ v14 = .int .i64 r4 ∧ Aside0 (wc.heap[g12]? = some (.cells #[.slice A0' r1.length c0', .slice A1' r2.length c1'] 26 (0, 0))) ∧ Aside0 (La w wc (fun k => k ≠ g7 ∧ k ≠ g12) g7 A0 c0 a A1 c1 b (some ad2) c5 ls A6 c6 al) ∧ Aside0 (Rs wc (fun k => k ≠ g7 ∧ k ≠ g12) A0' c0' r1 A1' c1' r2 A2' c2' r3) ∧ Aside0 (g7 ≠ g12 ∧ w.heap.size ≤ g12))
            case first =>
              refine start_ (n := 15) (S := (fun W_ => W_.cell? ⟨g7, 0, none⟩ = some (.slice A0 a.length c0) ∧ W_.cell? ⟨g7, 1, none⟩ = some (.slice A1 b.length c1) ∧ heldL ad2 i0 A9 c9 lf W_)) (ds := []) #[false, false, false, false, false, false, false, false, false, false, false, false, false, false, false] (by kernel_rfl) rfl rfl ⟨(HS.out.grow (below_drew1 (Below.refl _ _))).cells.1, (HS.out.grow (below_drew1 (Below.refl _ _))).cells.2, heldL_below HX9.out (below_drew1 (Below.refl _ _))⟩ (fun hHeld => ?_); refine with_tabW act21Tab act21Waits (fun HT_ HW_ => ?_)
              have HM := Lib.hid (below_drew1 (Below.refl wz.heap.size wz))
              generalize World.drew _ = wa at HM hHeld ⊢
              refine pure_ (i := 1) (N := some 67) (v := ?_) (a' := ?_) #[false, true, false, false, false, false, false, false, false, false, false, false, false, false, false] rfl rfl (any_of HT_.out (by kernel_rfl)) (fun _ _ _ h => h) (Or.inl ⟨by rfl, ?_⟩) ?_ ?_
              rotate_left
              · intro w'
                go_simp
                with_reducible rfl
              rotate_left
              · simp only [Act.put, List.setIfInBounds_toArray, List.set_cons_zero, List.set_cons_succ, i64_w, i32_w]
                rfl
              refine pure_ (i := 2) (N := some 68) (v := ?_) (a' := ?_) #[false, true, true, false, false, false, false, false, false, false, false, false, false, false, false] rfl rfl (any_of HT_.out (by kernel_rfl)) (fun _ _ _ h => h) (Or.inl ⟨by rfl, ?_⟩) ?_ ?_
              rotate_left
              · intro w'
                go_simp
                with_reducible rfl
              rotate_left
              · simp only [Act.put, List.setIfInBounds_toArray, List.set_cons_zero, List.set_cons_succ, i64_w, i32_w]
                rfl
              refine pure_ (i := 3) (N := some 69) (v := ?_) (a' := ?_) #[false, true, true, true, false, false, false, false, false, false, false, false, false, false, false] rfl rfl (any_of HT_.out (by kernel_rfl)) (fun _ _ _ h => h) (Or.inl ⟨by rfl, ?_⟩) ?_ ?_
              rotate_left
              · intro w'
                go_simp
                with_reducible rfl
              rotate_left
              · simp only [Act.put, List.setIfInBounds_toArray, List.set_cons_zero, List.set_cons_succ, i64_w, i32_w]
                rfl
              refine pure_ (i := 5) (N := some 71) (v := ?_) (a' := ?_) #[false, true, true, true, false, true, false, false, false, false, false, false, false, false, false] rfl rfl (any_of HT_.out (by kernel_rfl)) (fun _ _ _ h => h) (Or.inl ⟨by rfl, ?_⟩) ?_ ?_
              rotate_left
              · intro w'
                go_simp
                with_reducible rfl
              rotate_left
              · simp only [Act.put, List.setIfInBounds_toArray, List.set_cons_zero, List.set_cons_succ, i64_w, i32_w]
                rfl
              refine take_ (i := 0) (N := some 66) (v := ?_) (a' := ?_) #[true, true, true, true, false, true, false, false, false, false, false, false, false, false, false] rfl rfl (take_ofW HT_.out HW_.out (by kernel_rfl)) (fun _ _ _ h => h) (Or.inl ⟨by rfl, ?_⟩) hHeld ?_ ?_
              rotate_left
              · rintro w' ⟨h0, h1, h2, h3, h4⟩
                go_simp
                with_reducible rfl
              rotate_left
              · simp only [Act.put, List.setIfInBounds_toArray, List.set_cons_zero, List.set_cons_succ, i64_w, i32_w]
                rfl
              refine take_ (i := 4) (N := some 70) (v := ?_) (a' := ?_) #[true, true, true, true, true, true, false, false, false, false, false, false, false, false, false] rfl rfl (take_ofW HT_.out HW_.out (by kernel_rfl)) (fun _ _ _ h => h) (Or.inl ⟨by rfl, ?_⟩) hHeld ?_ ?_
              rotate_left
              · rintro w' ⟨h0, h1, h2, h3, h4⟩
                go_simp
                with_reducible rfl
              rotate_left
              · simp only [Act.put, List.setIfInBounds_toArray, List.set_cons_zero, List.set_cons_succ, i64_w, i32_w]
                rfl
              refine two_ (i := 6) (j := 11) (Ni := (some 72)) (Nj := (some 12)) #[true, true, true, true, true, true, true, false, false, false, false, false, false, false, false] #[true, true, true, true, true, true, false, false, false, false, false, true, false, false, false] rfl rfl rfl rfl (two_of HT_.out (by kernel_rfl)) (by decide) (by decide) (fun K hK => ?_) (fun K hK => ?_)
              · refine goes_ Try.func11 (by kernel_rfl) rfl #[.agg #[.slice A0 a.length c0, .slice A1 b.length c1], .agg #[.int .i64 lf.f0, .slice A9 lf.f1.length c9, .bool lf.f2], .string s] (by rfl) rfl rfl (by (try simp only [List.map_toArray, List.map_cons, List.map_nil]); first | done | rfl) ?_
                with_reducible refine (leaf_Insert.calls _ c0 a _ c1 b lf.f0 _ c9 lf.f1 lf.f2 s r1 r2 r3 r4 _ (Kd.F_now (HS.out.grow HM.out).f0) HS.out.h0 (Kd.F_now (HS.out.grow HM.out).f1) HS.out.h1 (Kd.F_now (Kd.F_below HF9.out HM.out)) HL9.out HP.out.ins).mono ?_
                rintro e wb ⟨v0', v1', v2', rfl, hq0, hq1, hq2, hb⟩
                refine ⟨_, rfl, ?_⟩
                obtain ⟨A0', c0', rfl⟩ := Kd.R_slice hq0; obtain ⟨A1', c1', rfl⟩ := Kd.R_slice hq1; obtain ⟨A2', c2', rfl⟩ := Kd.N_slice hq2
                have HQ := Lib.hid (Rs.fresh (ok' := (fun k => k ≠ g7)) hq0 hq1 hq2 (fun k hk => hk.1) (fun k hk => by have h1 := blk_lt HS.out.x3; have h2 := HM.out.size; omega))
                have n_ := Lib.hid (below_then HM.out HM.out.size hb); clear HM; have HM := n_; clear n_
                clear hq0 hq1 hq2 hb
                refine hK.out _ _ ⟨(HS.out.grow HM.out).cells.1, (HS.out.grow HM.out).cells.2, heldL_below HX9.out HM.out⟩ (fun hHeld => ?_)
                clear hK K
                refine norm_ (a' := ?_) ?_ ?_
                rotate_left
                · show Act.put _ (some 72) _ = _
                  simp only [Act.put, List.setIfInBounds_toArray, List.set_cons_zero, List.set_cons_succ, i64_w, i32_w]
                  rfl
                refine pure_ (i := 7) (N := some 65) (v := ?_) (a' := ?_) #[true, true, true, true, true, true, true, true, false, false, false, false, false, false, false] rfl rfl (any_of HT_.out (by kernel_rfl)) (fun _ _ _ h => h) (Or.inl ⟨by rfl, ?_⟩) ?_ ?_
                rotate_left
                · intro w'
                  go_simp
                  with_reducible rfl
                rotate_left
                · simp only [Act.put, List.setIfInBounds_toArray, List.set_cons_zero, List.set_cons_succ, i64_w, i32_w]
                  rfl
                refine pure_ (i := 8) (N := some 73) (v := ?_) (a' := ?_) #[true, true, true, true, true, true, true, true, true, false, false, false, false, false, false] rfl rfl (any_of HT_.out (by kernel_rfl)) (fun _ _ _ h => h) (Or.inl ⟨by rfl, ?_⟩) ?_ ?_
                rotate_left
                · intro w'
                  go_simp
                  with_reducible rfl
                rotate_left
                · simp only [Act.put, List.setIfInBounds_toArray, List.set_cons_zero, List.set_cons_succ, i64_w, i32_w]
                  rfl
                refine pure_ (i := 9) (N := some 74) (v := ?_) (a' := ?_) #[true, true, true, true, true, true, true, true, true, true, false, false, false, false, false] rfl rfl (any_of HT_.out (by kernel_rfl)) (fun _ _ _ h => h) (Or.inl ⟨by rfl, ?_⟩) ?_ ?_
                rotate_left
                · intro w'
                  go_simp
                  with_reducible rfl
                rotate_left
                · simp only [Act.put, List.setIfInBounds_toArray, List.set_cons_zero, List.set_cons_succ, i64_w, i32_w]
                  rfl
                refine pure_ (i := 10) (N := some 75) (v := ?_) (a' := ?_) #[true, true, true, true, true, true, true, true, true, true, true, false, false, false, false] rfl rfl (any_of HT_.out (by kernel_rfl)) (fun _ _ _ h => h) (Or.inl ⟨by rfl, ?_⟩) ?_ ?_
                rotate_left
                · intro w'
                  go_simp
                  with_reducible rfl
                rotate_left
                · simp only [Act.put, List.setIfInBounds_toArray, List.set_cons_zero, List.set_cons_succ, i64_w, i32_w]
                  rfl
                refine one_ (i := 11) (N := (some 12)) #[true, true, true, true, true, true, true, true, true, true, true, true, false, false, false] rfl rfl (one_of HT_.out (by kernel_rfl)) (by decide) (fun K hK => ?_)
                refine alloc_step (by rfl) (fun g => .pointer (some ⟨g, 0, none⟩)) (.cells #[.slice none 0 0, .slice none 0 0] 26 (0, 0)) ?hr ?_
                (case hr => first | (go_simp; done) | (go_simp; rfl))
                intro g12 hg wn hbox hb
                have HX := Lib.hid hbox
                have HW := Lib.hid (show wz.heap.size ≤ g12 by rw [hg]; exact HM.out.size)
                have n_ := Lib.hid (HQ.out.alloc hg hb); clear HQ; have HQ := n_; clear n_
                have n_ := Lib.hid (below_then HM.out HM.out.size hb); clear HM; have HM := n_; clear n_
                clear hg hbox hb
                refine hK.out _ _ ⟨(HS.out.grow HM.out).cells.1, (HS.out.grow HM.out).cells.2, heldL_below HX9.out HM.out⟩ (fun hHeld => ?_)
                clear hK K
                refine norm_ (a' := ?_) ?_ ?_
                rotate_left
                · show Act.put _ (some 12) _ = _
                  simp only [Act.put, List.setIfInBounds_toArray, List.set_cons_zero, List.set_cons_succ, i64_w, i32_w]
                  rfl
                refine one_ (i := 12) (N := none) #[true, true, true, true, true, true, true, true, true, true, true, true, true, false, false] rfl rfl (one_of HT_.out (by kernel_rfl)) (by decide) (fun K hK => ?_)
                refine store_step (by rfl) rfl rfl g12 _ 26 [.slice A0' r1.length c0', .slice A1' r2.length c1'] rfl (.agg #[.slice A0' r1.length c0', .slice A1' r2.length c1']) ?haS ?hbS HX.out rfl (by kernel_rfl) (two26 A0' r1.length c0' A1' r2.length c1') ?_
                (case haS => rfl)
                (case hbS => first | rfl | simp [Value.cells])
                intro wn hbox hg hz
                have n_ := Lib.hid (HQ.out.far hg (fun k hk => hk.2)); clear HQ; have HQ := n_; clear n_
                have n_ := Lib.hid hbox; clear HX; have HX := n_; clear n_
                have n_ := Lib.hid (below_own HM.out hg HW.out HM.out.size); clear HM; have HM := n_; clear n_
                clear hbox hg hz
                refine hK.out _ _ ⟨(HS.out.grow HM.out).cells.1, (HS.out.grow HM.out).cells.2, heldL_below HX9.out HM.out⟩ (fun hHeld => ?_)
                clear hK K
                refine pure_ (i := 13) (N := some 13) (v := ?_) (a' := ?_) #[true, true, true, true, true, true, true, true, true, true, true, true, true, true, false] rfl rfl (any_of HT_.out (by kernel_rfl)) (fun _ _ _ h => h) (Or.inl ⟨by rfl, ?_⟩) ?_ ?_
                rotate_left
                · intro w'
                  go_simp
                  with_reducible rfl
                rotate_left
                · simp only [Act.put, List.setIfInBounds_toArray, List.set_cons_zero, List.set_cons_succ, i64_w, i32_w]
                  rfl
                refine pure_ (i := 14) (N := some 14) (v := ?_) (a' := ?_) #[true, true, true, true, true, true, true, true, true, true, true, true, true, true, true] rfl rfl (any_of HT_.out (by kernel_rfl)) (fun _ _ _ h => h) (Or.inl ⟨by rfl, ?_⟩) ?_ ?_
                rotate_left
                · intro w'
                  go_simp
                  with_reducible rfl
                rotate_left
                · simp only [Act.put, List.setIfInBounds_toArray, List.set_cons_zero, List.set_cons_succ, i64_w, i32_w]
                  rfl
                refine done_ (done_of HT_.out (by kernel_rfl)) ?_
                try go_wp2
                go_meet
                exact ⟨g12, A0', c0', A1', c1', A2', c2', rfl, rfl, rfl, ⟨HX.out⟩, ⟨((HS.out.bound).weak (ok' := (fun k => k ≠ g7 ∧ k ≠ g12)) (fun k hk => ⟨hk.1, by have h1 := hk.2; have h2 := HW.out; omega⟩) (fun k hk => hk.1)).grow HM.out⟩, ⟨HQ.out⟩, ⟨by have h1 := blk_lt HS.out.x3; have h2 := HW.out; have h3 := HS.out.below.size; refine ⟨?_, ?_⟩ <;> omega⟩⟩
              · refine alloc_step (by rfl) (fun g => .pointer (some ⟨g, 0, none⟩)) (.cells #[.slice none 0 0, .slice none 0 0] 26 (0, 0)) ?hr ?_
                (case hr => first | (go_simp; done) | (go_simp; rfl))
                intro g12 hg wn hbox hb
                have HX := Lib.hid hbox
                have HW := Lib.hid (show wz.heap.size ≤ g12 by rw [hg]; exact HM.out.size)
                have n_ := Lib.hid (below_then HM.out HM.out.size hb); clear HM; have HM := n_; clear n_
                clear hg hbox hb
                refine hK.out _ _ ⟨(HS.out.grow HM.out).cells.1, (HS.out.grow HM.out).cells.2, heldL_below HX9.out HM.out⟩ (fun hHeld => ?_)
                clear hK K
                refine norm_ (a' := ?_) ?_ ?_
                rotate_left
                · show Act.put _ (some 12) _ = _
                  simp only [Act.put, List.setIfInBounds_toArray, List.set_cons_zero, List.set_cons_succ, i64_w, i32_w]
                  rfl
                refine one_ (i := 6) (N := (some 72)) #[true, true, true, true, true, true, true, false, false, false, false, true, false, false, false] rfl rfl (one_of HT_.out (by kernel_rfl)) (by decide) (fun K hK => ?_)
                refine goes_ Try.func11 (by kernel_rfl) rfl #[.agg #[.slice A0 a.length c0, .slice A1 b.length c1], .agg #[.int .i64 lf.f0, .slice A9 lf.f1.length c9, .bool lf.f2], .string s] (by rfl) rfl rfl (by (try simp only [List.map_toArray, List.map_cons, List.map_nil]); first | done | rfl) ?_
                with_reducible refine (leaf_Insert.calls _ c0 a _ c1 b lf.f0 _ c9 lf.f1 lf.f2 s r1 r2 r3 r4 _ (Kd.F_now (HS.out.grow HM.out).f0) HS.out.h0 (Kd.F_now (HS.out.grow HM.out).f1) HS.out.h1 (Kd.F_now (Kd.F_below HF9.out HM.out)) HL9.out HP.out.ins).mono ?_
                rintro e wb ⟨v0', v1', v2', rfl, hq0, hq1, hq2, hb⟩
                refine ⟨_, rfl, ?_⟩
                obtain ⟨A0', c0', rfl⟩ := Kd.R_slice hq0; obtain ⟨A1', c1', rfl⟩ := Kd.R_slice hq1; obtain ⟨A2', c2', rfl⟩ := Kd.N_slice hq2
                have HQ := Lib.hid (Rs.fresh (ok' := (fun k => k ≠ g7 ∧ k ≠ g12)) hq0 hq1 hq2 (fun k hk => hk.1) (fun k hk => ⟨by have h1 := blk_lt HS.out.x3; have h2 := HM.out.size; omega, by have := blk_lt HX.out; omega⟩)); have n_ := Lib.hid (blk_below HX.out hb); clear HX; have HX := n_; clear n_
                have n_ := Lib.hid (below_then HM.out HM.out.size hb); clear HM; have HM := n_; clear n_
                clear hq0 hq1 hq2 hb
                refine hK.out _ _ ⟨(HS.out.grow HM.out).cells.1, (HS.out.grow HM.out).cells.2, heldL_below HX9.out HM.out⟩ (fun hHeld => ?_)
                clear hK K
                refine norm_ (a' := ?_) ?_ ?_
                rotate_left
                · show Act.put _ (some 72) _ = _
                  simp only [Act.put, List.setIfInBounds_toArray, List.set_cons_zero, List.set_cons_succ, i64_w, i32_w]
                  rfl
                refine pure_ (i := 7) (N := some 65) (v := ?_) (a' := ?_) #[true, true, true, true, true, true, true, true, false, false, false, true, false, false, false] rfl rfl (any_of HT_.out (by kernel_rfl)) (fun _ _ _ h => h) (Or.inl ⟨by rfl, ?_⟩) ?_ ?_
                rotate_left
                · intro w'
                  go_simp
                  with_reducible rfl
                rotate_left
                · simp only [Act.put, List.setIfInBounds_toArray, List.set_cons_zero, List.set_cons_succ, i64_w, i32_w]
                  rfl
                refine pure_ (i := 8) (N := some 73) (v := ?_) (a' := ?_) #[true, true, true, true, true, true, true, true, true, false, false, true, false, false, false] rfl rfl (any_of HT_.out (by kernel_rfl)) (fun _ _ _ h => h) (Or.inl ⟨by rfl, ?_⟩) ?_ ?_
                rotate_left
                · intro w'
                  go_simp
                  with_reducible rfl
                rotate_left
                · simp only [Act.put, List.setIfInBounds_toArray, List.set_cons_zero, List.set_cons_succ, i64_w, i32_w]
                  rfl
                refine pure_ (i := 9) (N := some 74) (v := ?_) (a' := ?_) #[true, true, true, true, true, true, true, true, true, true, false, true, false, false, false] rfl rfl (any_of HT_.out (by kernel_rfl)) (fun _ _ _ h => h) (Or.inl ⟨by rfl, ?_⟩) ?_ ?_
                rotate_left
                · intro w'
                  go_simp
                  with_reducible rfl
                rotate_left
                · simp only [Act.put, List.setIfInBounds_toArray, List.set_cons_zero, List.set_cons_succ, i64_w, i32_w]
                  rfl
                refine pure_ (i := 10) (N := some 75) (v := ?_) (a' := ?_) #[true, true, true, true, true, true, true, true, true, true, true, true, false, false, false] rfl rfl (any_of HT_.out (by kernel_rfl)) (fun _ _ _ h => h) (Or.inl ⟨by rfl, ?_⟩) ?_ ?_
                rotate_left
                · intro w'
                  go_simp
                  with_reducible rfl
                rotate_left
                · simp only [Act.put, List.setIfInBounds_toArray, List.set_cons_zero, List.set_cons_succ, i64_w, i32_w]
                  rfl
                refine one_ (i := 12) (N := none) #[true, true, true, true, true, true, true, true, true, true, true, true, true, false, false] rfl rfl (one_of HT_.out (by kernel_rfl)) (by decide) (fun K hK => ?_)
                refine store_step (by rfl) rfl rfl g12 _ 26 [.slice A0' r1.length c0', .slice A1' r2.length c1'] rfl (.agg #[.slice A0' r1.length c0', .slice A1' r2.length c1']) ?haS ?hbS HX.out rfl (by kernel_rfl) (two26 A0' r1.length c0' A1' r2.length c1') ?_
                (case haS => rfl)
                (case hbS => first | rfl | simp [Value.cells])
                intro wn hbox hg hz
                have n_ := Lib.hid (HQ.out.far hg (fun k hk => hk.2)); clear HQ; have HQ := n_; clear n_
                have n_ := Lib.hid hbox; clear HX; have HX := n_; clear n_
                have n_ := Lib.hid (below_own HM.out hg HW.out HM.out.size); clear HM; have HM := n_; clear n_
                clear hbox hg hz
                refine hK.out _ _ ⟨(HS.out.grow HM.out).cells.1, (HS.out.grow HM.out).cells.2, heldL_below HX9.out HM.out⟩ (fun hHeld => ?_)
                clear hK K
                refine pure_ (i := 13) (N := some 13) (v := ?_) (a' := ?_) #[true, true, true, true, true, true, true, true, true, true, true, true, true, true, false] rfl rfl (any_of HT_.out (by kernel_rfl)) (fun _ _ _ h => h) (Or.inl ⟨by rfl, ?_⟩) ?_ ?_
                rotate_left
                · intro w'
                  go_simp
                  with_reducible rfl
                rotate_left
                · simp only [Act.put, List.setIfInBounds_toArray, List.set_cons_zero, List.set_cons_succ, i64_w, i32_w]
                  rfl
                refine pure_ (i := 14) (N := some 14) (v := ?_) (a' := ?_) #[true, true, true, true, true, true, true, true, true, true, true, true, true, true, true] rfl rfl (any_of HT_.out (by kernel_rfl)) (fun _ _ _ h => h) (Or.inl ⟨by rfl, ?_⟩) ?_ ?_
                rotate_left
                · intro w'
                  go_simp
                  with_reducible rfl
                rotate_left
                · simp only [Act.put, List.setIfInBounds_toArray, List.set_cons_zero, List.set_cons_succ, i64_w, i32_w]
                  rfl
                refine done_ (done_of HT_.out (by kernel_rfl)) ?_
                try go_wp2
                go_meet
                exact ⟨g12, A0', c0', A1', c1', A2', c2', rfl, rfl, rfl, ⟨HX.out⟩, ⟨((HS.out.bound).weak (ok' := (fun k => k ≠ g7 ∧ k ≠ g12)) (fun k hk => ⟨hk.1, by have h1 := hk.2; have h2 := HW.out; omega⟩) (fun k hk => hk.1)).grow HM.out⟩, ⟨HQ.out⟩, ⟨by have h1 := blk_lt HS.out.x3; have h2 := HW.out; have h3 := HS.out.below.size; refine ⟨?_, ?_⟩ <;> omega⟩⟩
            case rest =>
              clear HS HX9 HF9
              obtain ⟨g12, A0', c0', A1', c1', A2', c2', rfl, rfl, rfl, HX, HS, HQ, HG12⟩ := hcut
              clear HL9
              obtain ⟨ad3, A9, c9, e9, hx0, hx1, hx2, hl9, hf9⟩ := leaf_of HS.out.fl i0 hilt
              cases e9
              rw [HP.out.rd] at hx0 hx1 hx2 hl9 hf9
              generalize hwz : wc = wz at *
              clear hwz
              have HX9 := Lib.hid (show heldL ad2 i0 A9 c9 lf wz from ⟨hx0, hx1, hx2⟩)
              have HL9 := Lib.hid hl9
              have HF9 := Lib.hid hf9
              clear hx0 hx1 hx2 hl9 hf9
              go_upto_if 77 with (fail)
              go_cut [13, 14] (fun v13 v14 W0 => ∃ (P0 : Option Addr) (pc0 : Nat) (P1 : Option Addr) (pc1 : Nat) (P2 : Option Addr) (pc2 : Nat), v13 = .slice P2 p3.length pc2 ∧ v14 = .int .i64 0 ∧ Aside0 (W0.heap[g12]? = some (.cells #[.slice P0 p1.length pc0, .slice P1 p2.length pc1] 26 (0, 0))) ∧ Aside0 (La w W0 (fun k => k ≠ g7 ∧ k ≠ g12) g7 A0 c0 a A1 c1 b (some ad2) c5 ls A6 c6 al) ∧ Aside0 (Rs W0 (fun k => k ≠ g7 ∧ k ≠ g12) P0 pc0 p1 P1 pc1 p2 P2 pc2 p3))
              case first =>
                rcases HP.out.way with ⟨e4, e1, e2, e3⟩ | ⟨e4, hrm⟩
                · subst e4 e1 e2 e3
                  go_wp2
                  go_meet
                  exact ⟨A0', c0', A1', c1', A2', c2', rfl, rfl, ⟨HX.out⟩, ⟨HS.out⟩, ⟨HQ.out⟩⟩
                · subst e4
                  have HRM := Lib.hid hrm
                  clear hrm
                  go_upto_region 23 with (fail)
                  refine start_ (n := 14) (S := (fun W_ => W_.cell? ⟨g7, 0, none⟩ = some (.slice A0 a.length c0) ∧ W_.cell? ⟨g7, 1, none⟩ = some (.slice A1 b.length c1) ∧ heldL ad2 i0 A9 c9 lf W_)) (ds := [11]) #[false, false, false, false, false, false, false, false, false, false, false, false, false, false] (by kernel_rfl) rfl rfl ⟨(HS.out.grow (below_drew1 (Below.refl _ _))).cells.1, (HS.out.grow (below_drew1 (Below.refl _ _))).cells.2, heldL_below HX9.out (below_drew1 (Below.refl _ _))⟩ (fun hHeld => ?_); refine with_tabW act23Tab act23Waits (fun HT_ HW_ => ?_)
                  have HM := Lib.hid (below_drew1 (Below.refl wz.heap.size wz))
                  generalize World.drew _ = wa at HM hHeld ⊢
                  refine pure_ (i := 1) (N := some 80) (v := ?_) (a' := ?_) #[false, true, false, false, false, false, false, false, false, false, false, false, false, false] rfl rfl (any_of HT_.out (by kernel_rfl)) (fun _ _ _ h => h) (Or.inl ⟨by rfl, ?_⟩) ?_ ?_
                  rotate_left
                  · intro w'
                    go_simp
                    with_reducible rfl
                  rotate_left
                  · simp only [Act.put, List.setIfInBounds_toArray, List.set_cons_zero, List.set_cons_succ, i64_w, i32_w]
                    rfl
                  refine pure_ (i := 2) (N := some 81) (v := ?_) (a' := ?_) #[false, true, true, false, false, false, false, false, false, false, false, false, false, false] rfl rfl (any_of HT_.out (by kernel_rfl)) (fun _ _ _ h => h) (Or.inl ⟨by rfl, ?_⟩) ?_ ?_
                  rotate_left
                  · intro w'
                    go_simp
                    with_reducible rfl
                  rotate_left
                  · simp only [Act.put, List.setIfInBounds_toArray, List.set_cons_zero, List.set_cons_succ, i64_w, i32_w]
                    rfl
                  refine pure_ (i := 3) (N := some 82) (v := ?_) (a' := ?_) #[false, true, true, true, false, false, false, false, false, false, false, false, false, false] rfl rfl (any_of HT_.out (by kernel_rfl)) (fun _ _ _ h => h) (Or.inl ⟨by rfl, ?_⟩) ?_ ?_
                  rotate_left
                  · intro w'
                    go_simp
                    with_reducible rfl
                  rotate_left
                  · simp only [Act.put, List.setIfInBounds_toArray, List.set_cons_zero, List.set_cons_succ, i64_w, i32_w]
                    rfl
                  refine pure_ (i := 5) (N := some 84) (v := ?_) (a' := ?_) #[false, true, true, true, false, true, false, false, false, false, false, false, false, false] rfl rfl (any_of HT_.out (by kernel_rfl)) (fun _ _ _ h => h) (Or.inl ⟨by rfl, ?_⟩) ?_ ?_
                  rotate_left
                  · intro w'
                    go_simp
                    with_reducible rfl
                  rotate_left
                  · simp only [Act.put, List.setIfInBounds_toArray, List.set_cons_zero, List.set_cons_succ, i64_w, i32_w]
                    rfl
                  refine take_ (i := 0) (N := some 79) (v := ?_) (a' := ?_) #[true, true, true, true, false, true, false, false, false, false, false, false, false, false] rfl rfl (take_ofW HT_.out HW_.out (by kernel_rfl)) (fun _ _ _ h => h) (Or.inl ⟨by rfl, ?_⟩) hHeld ?_ ?_
                  rotate_left
                  · rintro w' ⟨h0, h1, h2, h3, h4⟩
                    go_simp
                    with_reducible rfl
                  rotate_left
                  · simp only [Act.put, List.setIfInBounds_toArray, List.set_cons_zero, List.set_cons_succ, i64_w, i32_w]
                    rfl
                  refine take_ (i := 4) (N := some 83) (v := ?_) (a' := ?_) #[true, true, true, true, true, true, false, false, false, false, false, false, false, false] rfl rfl (take_ofW HT_.out HW_.out (by kernel_rfl)) (fun _ _ _ h => h) (Or.inl ⟨by rfl, ?_⟩) hHeld ?_ ?_
                  rotate_left
                  · rintro w' ⟨h0, h1, h2, h3, h4⟩
                    go_simp
                    with_reducible rfl
                  rotate_left
                  · simp only [Act.put, List.setIfInBounds_toArray, List.set_cons_zero, List.set_cons_succ, i64_w, i32_w]
                    rfl
                  refine one_ (i := 6) (N := (some 85)) #[true, true, true, true, true, true, true, false, false, false, false, false, false, false] rfl rfl (one_of HT_.out (by kernel_rfl)) (by decide) (fun K hK => ?_)
                  refine goes_ Try.func18 (by kernel_rfl) rfl #[.agg #[.slice A0 a.length c0, .slice A1 b.length c1], .agg #[.int .i64 lf.f0, .slice A9 lf.f1.length c9, .bool lf.f2], .string s] (by rfl) rfl rfl (by (try simp only [List.map_toArray, List.map_cons, List.map_nil]); first | done | rfl) ?_
                  with_reducible refine (leaf_Remove.calls _ c0 a _ c1 b lf.f0 _ c9 lf.f1 lf.f2 s p1 p2 p3 0 _ (Kd.F_now (HS.out.grow HM.out).f0) HS.out.h0 (Kd.F_now (HS.out.grow HM.out).f1) HS.out.h1 (Kd.F_now (Kd.F_below HF9.out HM.out)) HL9.out HRM.out).mono ?_
                  rintro e wb ⟨v0', v1', v2', rfl, hq0, hq1, hq2, hb⟩
                  refine ⟨_, rfl, ?_⟩
                  obtain ⟨P0, pc0, rfl⟩ := Kd.R_slice hq0; obtain ⟨P1, pc1, rfl⟩ := Kd.R_slice hq1; obtain ⟨P2, pc2, rfl⟩ := Kd.N_slice hq2
                  have HQ2 := Lib.hid (Rs.fresh (ok' := (fun k => k ≠ g7 ∧ k ≠ g12)) hq0 hq1 hq2 (fun k hk => hk.1) (fun k hk => ⟨by have h1 := blk_lt HS.out.x3; have h2 := HM.out.size; omega, by have h1 := blk_lt HX.out; have h2 := HM.out.size; omega⟩))
                  have n_ := Lib.hid (below_then HM.out HM.out.size hb); clear HM; have HM := n_; clear n_
                  clear hq0 hq1 hq2 hb
                  refine hK.out _ _ ⟨(HS.out.grow HM.out).cells.1, (HS.out.grow HM.out).cells.2, heldL_below HX9.out HM.out⟩ (fun hHeld => ?_)
                  clear hK K
                  refine norm_ (a' := ?_) ?_ ?_
                  rotate_left
                  · show Act.put _ (some 85) _ = _
                    simp only [Act.put, List.setIfInBounds_toArray, List.set_cons_zero, List.set_cons_succ, i64_w, i32_w]
                    rfl
                  refine pure_ (i := 7) (N := some 78) (v := ?_) (a' := ?_) #[true, true, true, true, true, true, true, true, false, false, false, false, false, false] rfl rfl (any_of HT_.out (by kernel_rfl)) (fun _ _ _ h => h) (Or.inl ⟨by rfl, ?_⟩) ?_ ?_
                  rotate_left
                  · intro w'
                    go_simp
                    with_reducible rfl
                  rotate_left
                  · simp only [Act.put, List.setIfInBounds_toArray, List.set_cons_zero, List.set_cons_succ, i64_w, i32_w]
                    rfl
                  refine pure_ (i := 8) (N := some 86) (v := ?_) (a' := ?_) #[true, true, true, true, true, true, true, true, true, false, false, false, false, false] rfl rfl (any_of HT_.out (by kernel_rfl)) (fun _ _ _ h => h) (Or.inl ⟨by rfl, ?_⟩) ?_ ?_
                  rotate_left
                  · intro w'
                    go_simp
                    with_reducible rfl
                  rotate_left
                  · simp only [Act.put, List.setIfInBounds_toArray, List.set_cons_zero, List.set_cons_succ, i64_w, i32_w]
                    rfl
                  refine pure_ (i := 9) (N := some 87) (v := ?_) (a' := ?_) #[true, true, true, true, true, true, true, true, true, true, false, false, false, false] rfl rfl (any_of HT_.out (by kernel_rfl)) (fun _ _ _ h => h) (Or.inl ⟨by rfl, ?_⟩) ?_ ?_
                  rotate_left
                  · intro w'
                    go_simp
                    with_reducible rfl
                  rotate_left
                  · simp only [Act.put, List.setIfInBounds_toArray, List.set_cons_zero, List.set_cons_succ, i64_w, i32_w]
                    rfl
                  refine pure_ (i := 10) (N := some 88) (v := ?_) (a' := ?_) #[true, true, true, true, true, true, true, true, true, true, true, false, false, false] rfl rfl (any_of HT_.out (by kernel_rfl)) (fun _ _ _ h => h) (Or.inl ⟨by rfl, ?_⟩) ?_ ?_
                  rotate_left
                  · intro w'
                    go_simp
                    with_reducible rfl
                  rotate_left
                  · simp only [Act.put, List.setIfInBounds_toArray, List.set_cons_zero, List.set_cons_succ, i64_w, i32_w]
                    rfl
                  refine last_ (i := 11) (N := none) #[true, true, true, true, true, true, true, true, true, true, true, true, false, false] rfl rfl (one_of HT_.out (by kernel_rfl)) (by decide) (fun K hK => ?_)
                  have HXm := Lib.hid (blk_below HX.out HM.out)
                  refine store_step (by rfl) rfl rfl g12 _ 26 [.slice P0 p1.length pc0, .slice P1 p2.length pc1] rfl (.agg #[.slice P0 p1.length pc0, .slice P1 p2.length pc1]) ?haS ?hbS HXm.out rfl (by kernel_rfl) (two26 P0 p1.length pc0 P1 p2.length pc1) ?_
                  (case haS => rfl)
                  (case hbS => first | rfl | simp [Value.cells])
                  intro wn hbox hg hz
                  have n_ := Lib.hid (HQ2.out.far hg (fun k hk => hk.2)); clear HQ2; have HQ2 := n_; clear n_
                  have HX2 := Lib.hid hbox
                  have HS2 := Lib.hid ((HS.out.grow HM.out).far hg (fun k hk => hk.2) HG12.out.1 HG12.out.2)
                  clear hbox hz hg
                  refine hK.out _ _ ?_
                  clear hK K
                  refine pure_ (i := 12) (N := some 13) (v := ?_) (a' := ?_) #[true, true, true, true, true, true, true, true, true, true, true, true, true, false] rfl rfl (any_of HT_.out (by kernel_rfl)) (fun _ _ _ h => h) (Or.inl ⟨by rfl, ?_⟩) ?_ ?_
                  rotate_left
                  · intro w'
                    go_simp
                    with_reducible rfl
                  rotate_left
                  · simp only [Act.put, List.setIfInBounds_toArray, List.set_cons_zero, List.set_cons_succ, i64_w, i32_w]
                    rfl
                  refine pure_ (i := 13) (N := some 14) (v := ?_) (a' := ?_) #[true, true, true, true, true, true, true, true, true, true, true, true, true, true] rfl rfl (any_of HT_.out (by kernel_rfl)) (fun _ _ _ h => h) (Or.inl ⟨by rfl, ?_⟩) ?_ ?_
                  rotate_left
                  · intro w'
                    go_simp
                    with_reducible rfl
                  rotate_left
                  · simp only [Act.put, List.setIfInBounds_toArray, List.set_cons_zero, List.set_cons_succ, i64_w, i32_w]
                    rfl
                  refine done_ (done_of HT_.out (by kernel_rfl)) ?_
                  try go_wp2
                  go_meet
                  exact ⟨P0, pc0, P1, pc1, P2, pc2, rfl, rfl, ⟨HX2.out⟩, ⟨HS2.out⟩, ⟨HQ2.out⟩⟩
              case rest =>
                clear HS HQ HX HX9 HL9 HF9 hi0 hi1 hi3
                obtain ⟨P0, pc0, P1, pc1, P2, pc2, rfl, rfl, HX2, HS2, HQ2⟩ := hcut
                generalize hW0 : wc = W0 at *
                clear hW0
                have hp := HP.out.len
                obtain ⟨ad4, A7, c7, e7, hx0, _, _, _, _⟩ := leaf_of HQ2.out.f2 0 (by omega)
                subst e7
                have hno : (rd_T28 p3 ((0 : Nat) : Int)).f0 = lf.f0 := HP.out.no
                rw [hno] at hx0
                have hz0 : ad4.add (0 * 3) = ad4 := by simp [Addr.add]
                have hz1 : ad4.add 0 = ad4 := by simp [Addr.add]
                rw [hz0] at hx0
                have hx0b : W0.cell? (ad4.add 0) = some (.int .i64 lf.f0) := by rw [hz1]; exact hx0
                have hp1 : decide ((p3.length : Int) < 1) = false := decide_eq_false (by omega)
                have hp2 : decide (p3.length < 1) = false := decide_eq_false (by omega)
                have hp3 : decide ((2 : Int) < (p3.length : Int)) = false := decide_eq_false (by omega)
                have hp4 : decide (2 < p3.length) = false := decide_eq_false (by omega)
                have hp5 := eq_true (show (0 : Int) < (p3.length : Int) by omega)
                have hp6 := eq_true (show 0 < p3.length by omega)
                have hp7 : decide ((0 : Int) < (p3.length : Int)) = true := decide_eq_true (by omega)
                have hp8 : decide (0 < p3.length) = true := decide_eq_true (by omega)
                have HPL := Lib.hid hp
                have htl : (ls.take i0).length = i0 := by rw [List.length_take]; omega
                have htk0 := vl_reads (W := W0) (Kd.F_take (m := i0) HS2.out.fl (by omega)) (fun k _ _ => rfl)
                rw [htl] at htk0
                have HTK := Lib.hid htk0
                have HTL := Lib.hid htl
                have htk := takeL_run (some ad2) c5 ls.length i0 (by omega) HS2.out.hl rfl
                have HB0 := Lib.hid (Below.refl W0.heap.size W0)
                have HT0 := Lib.hid (show [] ++ ls.take i0 = ls.take i0 ++ (p3.take 0).filter (fun c => !c.f2) by simp)
                clear htl htk0 hno hz0 hz1 hp
                go_wp2_with (first | ((with_reducible refine gate_builtin (b := .append) (xs := #[.tmp 109, .tmp 112]) rfl ?_); at_builtin; refine Kd.R_append_rows (Vl W0 (fun k => k ≠ g7 ∧ k ≠ g12)) (w0 := W0) W0.heap.size rfl (.tmp 109) (.tmp 112) 32 28 (.agg #[(.int .i64 0), (.slice none 0 0), (.bool false)]) 40 rfl Try.underlying32 info28 rfl (show 0 < 3 by decide) (by omega) (.slice none 0 0) ([] : List S28) (ls.take i0) (some ad2) i0 c5 (fun _ => True) (fun _ => False) rfl rfl (Kd.R_nil _ _ _ _ (fun _ => True)) HTK.out (fun _ _ h => h) (fun _ h => h.elim) (fun _ _ => trivial) HB0.out HB0.out.size (by simp; omega) ?_; intro v_ w1 ho hb hg hat; rw [HT0.out] at ho; generalize hnow : ls.take i0 ++ (p3.take 0).filter (fun c => !c.f2) = now at ho; obtain ⟨A15, c15, rfl⟩ := Kd.R_slice ho; have HN := Lib.hid ho; have HNOW := Lib.hid hnow.symm; have n_ := Lib.hid hb; clear HB0; have HB0 := n_; clear n_ ho hb hg hat hnow hx0 hx0b htk hp1 hp2 hp3 hp4 hp5 hp6 hp7 hp8; refine Hold.go ?_))
                refine Hold.of ?_
                go_wp2
                go_loopg [15, 16] p3.length (fun d v15 v16 w' => ∃ (j : Nat) (A15 : Option Addr) (c15 : Nat) (now : List S28), v15 = .slice A15 now.length c15 ∧ v16 = .int .i64 j ∧ j ≤ p3.length ∧ Aside0 (d = p3.length - j) ∧ Aside0 (now = ls.take i0 ++ (p3.take j).filter (fun c => !c.f2)) ∧ Aside0 (Below W0.heap.size W0 w' ∧ (Vl W0 (fun k => k ≠ g7 ∧ k ≠ g12)).R 28 w' W0.heap.size (fun _ => True) (.slice A15 now.length c15) now))
                case atStart => exact ⟨0, A15, c15, now, rfl, rfl, Nat.zero_le _, ⟨rfl⟩, ⟨HNOW.out⟩, ⟨HB0.out, HN.out⟩⟩
                case round =>
                  clear HN HNOW HB0
                  obtain ⟨j, A15, c15, now, rfl, rfl, hj, HDj, HNOW, HBN⟩ := hrel
                  have HB0 := Lib.hid HBN.out.1
                  have HN := Lib.hid HBN.out.2
                  clear HBN
                  have HNL := Lib.hid (show now.length ≤ 1010 by rw [HNOW.out, List.length_append]; have h1 := List.length_filter_le (fun c : S28 => !c.f2) (p3.take j); have h2 := HPL.out; simp only [List.length_take] at h1 ⊢; omega)
                  by_cases hjl : j < p3.length
                  · obtain ⟨ad5, A8, c8, e8, hy0, hy1, hy2, hl8, hf8⟩ := leaf_of HQ2.out.f2 j hjl
                    cases e8
                    have hz0 := pw_cell_below HB0.out hy0
                    have hz1 := pw_cell_below HB0.out hy1
                    have hz2 := pw_cell_below HB0.out hy2
                    have HSU := Lib.hid (filt_take_succ hjl)
                    have hj0 := eq_true (show (0 : Int) ≤ (j : Int) by omega)
                    have hj1 := eq_true (show (j : Int) < (p3.length : Int) by omega)
                    have hj2 : decide ((j : Int) < (p3.length : Int)) = true := decide_eq_true (by omega)
                    have hj3 : decide (j < p3.length) = true := decide_eq_true hjl
                    have hj4 := eq_true hjl
                    have hfk := k28_mkF W0 (fun k => k ≠ g7 ∧ k ≠ g12) (rd_T28 p3 (j : Int)) hl8 hf8
                    have HFK := Lib.hid hfk
                    clear hy0 hy1 hy2 hl8 hf8 hfk
                    have hp2 : p3.length ≤ 2 := HPL.out.2
                    generalize rd_T28 p3 (j : Int) = dj at *
                    cases hg2 : dj.f2 with
                    | true =>
                      rw [hg2] at hz2
                      have HG2 := Lib.hid hg2
                      clear hg2
                      go_wp2
                      go_roundg (p3.length - (j + 1))
                      case measure => have := HDj.out; omega
                      case rel => exact ⟨j + 1, A15, c15, now, rfl, by go_num, by omega, ⟨rfl⟩, ⟨by rw [HSU.out, HG2.out, if_pos rfl, List.append_nil]; exact HNOW.out⟩, ⟨HB0.out, HN.out⟩⟩
                    | false =>
                      rw [hg2] at hz2
                      have HG2 := Lib.hid hg2
                      have HFJ := Lib.hid (show Kd.FK k28 W0 (fun k => k ≠ g7 ∧ k ≠ g12) dj [.int .i64 dj.f0, .slice A8 dj.f1.length c8, .bool false] by have := HFK.out; rwa [hg2] at this)
                      clear hg2 HFK
                      go_wp2_with (first | ((with_reducible refine gate_builtin (b := .append) (xs := #[.tmp 126, .tmp 131]) rfl ?_); at_builtin; refine Kd.R_append (Vl W0 (fun k => k ≠ g7 ∧ k ≠ g12)) (w0 := W0) W0.heap.size rfl (.tmp 126) (.tmp 131) 32 28 (.agg #[(.int .i64 0), (.slice none 0 0), (.bool false)]) 40 rfl Try.underlying32 info28 rfl (show 0 < 3 by decide) (by omega) (.slice A15 now.length c15) now dj [.int .i64 dj.f0, .slice A8 dj.f1.length c8, .bool false] (fun _ => True) (fun _ => False) rfl rfl HFJ.out (fun _ hk => hk.elim) (fun _ _ => trivial) HN.out HB0.out HB0.out.size (by have := HNL.out; omega) ?_; intro v_ w1 ho hb hg hat; generalize hnew : now ++ [dj] = nw at ho; have HNW := Lib.hid hnew; obtain ⟨A16, c16, rfl⟩ := Kd.R_slice ho; have n_ := Lib.hid ho; clear HN; have HN := n_; clear n_; have n_ := Lib.hid hb; clear HB0; have HB0 := n_; clear n_ ho hb hg hat hnew hz0 hz1 hz2))
                      go_roundg (p3.length - (j + 1))
                      case measure => have := HDj.out; omega
                      case rel => exact ⟨j + 1, A16, c16, nw, rfl, by go_num, by omega, ⟨rfl⟩, ⟨by rw [HSU.out, HG2.out, if_neg (by decide), ← List.append_assoc, ← HNOW.out]; exact HNW.out.symm⟩, ⟨HB0.out, HN.out⟩⟩
                  · have hje : j = p3.length := by omega
                    subst hje
                    obtain ⟨lq, hlq⟩ : ∃ lq, lq = newL ls i0 p3 := ⟨_, rfl⟩
                    have HLQ := Lib.hid hlq
                    have HNEW := Lib.hid (show now ++ ls.drop (i0 + 1) = lq by rw [HNOW.out, hlq, List.take_length]; rfl)
                    clear hlq
                    have hdk := dropL_run (some ad2) c5 ls.length (i0 + 1) (by omega) HS2.out.hl (j := (i0 : Int) + 1) (by omega)
                    obtain ⟨AD, hAD⟩ : ∃ AD, AD = (if c5 = i0 + 1 then some ad2 else (some ad2).map (·.add ((i0 + 1) * 3))) := ⟨_, rfl⟩
                    rw [← hAD] at hdk
                    have HDR : ∀ wa, Below W0.heap.size W0 wa → ReadsRow (Kd.FK k28 W0 (fun k => k ≠ g7 ∧ k ≠ g12)) 3 wa AD (ls.length - (i0 + 1)) (ls.drop (i0 + 1)) := fun wa hwa => by
                      have h1 := vl_reads (W := wa) (Kd.F_cut (m := i0 + 1) HS2.out.fl (by omega) HS2.out.hl) (fun k _ hlt => hwa.block k hlt)
                      rw [List.length_drop] at h1
                      rw [hAD]
                      exact h1
                    clear hAD HDj hj hjl
                    have hw1 : wrap64 ((i0 : Int) + 1) = (i0 : Int) + 1 := w64 (by omega) (by omega)
                    go_upto_region 33 with (fail)
                    go_cut [5] (fun v5 wc => ∃ (A5' : Option Addr) (c5' : Nat), v5 = .slice A5' lq.length c5' ∧ Aside0 (La w wc (fun k => k ≠ g7) g7 P0 pc0 p1 P1 pc1 p2 A5' c5' lq A6 c6 al))
                    case first =>
                      refine start_ (n := 9) (S := (fun W_ => W_.cell? ⟨g12, 0, none⟩ = some (.slice P0 p1.length pc0) ∧ W_.cell? ⟨g12, 1, none⟩ = some (.slice P1 p2.length pc1))) (ds := []) #[false, false, false, false, false, false, false, false, false] (by kernel_rfl) rfl rfl ⟨(blk_cell (blk_drew (blk_below HX2.out HB0.out)) 0).trans rfl, (blk_cell (blk_drew (blk_below HX2.out HB0.out)) 1).trans rfl⟩ (fun hHeld => ?_); refine with_tabW act33Tab act33Waits (fun HT_ HW_ => ?_)
                      have n_ := Lib.hid (Kd.R_drew HN.out); clear HN; have HN := n_; clear n_
                      have n_ := Lib.hid (below_drew1 HB0.out); clear HB0; have HB0 := n_; clear n_
                      generalize World.drew _ = wa at HB0 HN hHeld ⊢
                      refine pure_ (i := 1) (N := some 134) (v := ?_) (a' := ?_) #[false, true, false, false, false, false, false, false, false] rfl rfl (any_of HT_.out (by kernel_rfl)) (fun _ _ _ h => h) (Or.inl ⟨by rfl, ?_⟩) ?_ ?_
                      rotate_left
                      · intro w'
                        go_simp
                        with_reducible rfl
                      rotate_left
                      · simp only [Act.put, List.setIfInBounds_toArray, List.set_cons_zero, List.set_cons_succ, i64_w, i32_w]
                        rfl
                      refine pure_ (i := 2) (N := some 135) (v := ?_) (a' := ?_) #[false, true, true, false, false, false, false, false, false] rfl rfl (any_of HT_.out (by kernel_rfl)) (fun _ _ _ h => h) (Or.inl ⟨by rfl, ?_⟩) ?_ ?_
                      rotate_left
                      · intro w'
                        go_simp
                        with_reducible rfl
                      rotate_left
                      · simp only [Act.put, List.setIfInBounds_toArray, List.set_cons_zero, List.set_cons_succ, i64_w, i32_w]
                        rfl
                      refine pure_ (i := 3) (N := some 136) (v := ?_) (a' := ?_) #[false, true, true, true, false, false, false, false, false] rfl rfl (any_of HT_.out (by kernel_rfl)) (fun _ _ _ h => h) (Or.inl ⟨by rfl, ?_⟩) ?_ ?_
                      rotate_left
                      · intro w'
                        go_simp
                        with_reducible rfl
                      rotate_left
                      · simp only [Act.put, List.setIfInBounds_toArray, List.set_cons_zero, List.set_cons_succ, i64_w, i32_w]
                        rfl
                      refine pure_ (i := 4) (N := some 137) (v := ?_) (a' := ?_) #[false, true, true, true, true, false, false, false, false] rfl rfl (any_of HT_.out (by kernel_rfl)) (fun _ _ _ h => h) (Or.inl ⟨by rfl, ?_⟩) ?_ ?_
                      rotate_left
                      · intro w'
                        go_simp
                        with_reducible rfl
                      rotate_left
                      · simp only [Act.put, List.setIfInBounds_toArray, List.set_cons_zero, List.set_cons_succ, i64_w, i32_w]
                        rfl
                      refine pure_ (i := 5) (N := some 138) (v := ?_) (a' := ?_) #[false, true, true, true, true, true, false, false, false] rfl rfl (any_of HT_.out (by kernel_rfl)) (fun _ _ _ h => h) (Or.inl ⟨by rfl, ?_⟩) ?_ ?_
                      rotate_left
                      · intro w'
                        go_simp
                        with_reducible rfl
                      rotate_left
                      · simp only [Act.put, List.setIfInBounds_toArray, List.set_cons_zero, List.set_cons_succ, i64_w, i32_w]
                        rfl
                      refine take_ (i := 0) (N := some 133) (v := ?_) (a' := ?_) #[true, true, true, true, true, true, false, false, false] rfl rfl (take_ofW HT_.out HW_.out (by kernel_rfl)) (fun _ _ _ h => h) (Or.inl ⟨by rfl, ?_⟩) hHeld ?_ ?_
                      rotate_left
                      · rintro w' ⟨h0, h1⟩
                        go_simp
                        with_reducible rfl
                      rotate_left
                      · simp only [Act.put, List.setIfInBounds_toArray, List.set_cons_zero, List.set_cons_succ, i64_w, i32_w]
                        rfl
                      refine one_ (i := 6) (N := (some 139)) #[true, true, true, true, true, true, true, false, false] rfl rfl (one_of HT_.out (by kernel_rfl)) (by decide) (fun K hK => ?_)
                      refine Kd.R_append_rows_step (Vl W0 (fun k => k ≠ g7 ∧ k ≠ g12)) (w0 := W0) W0.heap.size (by rfl) (.tmp 134) (.tmp 138) 32 28 (.agg #[(.int .i64 0), (.slice none 0 0), (.bool false)]) 40 rfl Try.underlying32 info28 rfl (show 0 < 3 by decide) (by omega) (.slice A15 now.length c15) now (ls.drop (i0 + 1)) AD (ls.length - (i0 + 1)) (c5 - (i0 + 1)) (fun _ => True) (fun _ => False) rfl rfl HN.out (HDR wa HB0.out) (fun _ _ h => h) (fun _ h => h.elim) (fun _ _ => trivial) HB0.out HB0.out.size (by have h1 := HNL.out; have h2 := HP.out.small; omega) ?_
                      intro v_ wb ho hb hg hat
                      rw [HNEW.out] at ho
                      obtain ⟨A5', c5', rfl⟩ := Kd.R_slice ho
                      have HO := Lib.hid ho
                      have n_ := Lib.hid hb; clear HB0; have HB0 := n_; clear n_
                      clear ho hb hg hat
                      refine hK.out _ _ ⟨(blk_cell (blk_below HX2.out HB0.out) 0).trans rfl, (blk_cell (blk_below HX2.out HB0.out) 1).trans rfl⟩ (fun hHeld => ?_)
                      clear hK K
                      refine norm_ (a' := ?_) ?_ ?_
                      rotate_left
                      · show Act.put _ (some 139) _ = _
                        simp only [Act.put, List.setIfInBounds_toArray, List.set_cons_zero, List.set_cons_succ, i64_w, i32_w]
                        rfl
                      refine one_ (i := 7) (N := none) #[true, true, true, true, true, true, true, true, false] rfl rfl (one_of HT_.out (by kernel_rfl)) (by decide) (fun K hK => ?_)
                      have HX7 := Lib.hid (blk_below HS2.out.x3 HB0.out)
                      refine store_step (by rfl) rfl rfl g7 _ 26 [.slice P0 p1.length pc0, .slice P1 p2.length pc1] rfl (.agg #[.slice P0 p1.length pc0, .slice P1 p2.length pc1]) ?haS ?hbS HX7.out rfl (by kernel_rfl) (two26 P0 p1.length pc0 P1 p2.length pc1) ?_
                      (case haS => rfl)
                      (case hbS => first | rfl | simp [Value.cells])
                      intro wn hbox hg hz
                      have HAG := Lib.hid (show ∀ k, (k ≠ g7 ∧ k ≠ g12) → k < W0.heap.size → wn.heap[k]? = W0.heap[k]? from fun k hk hlt => (hg.block k (by have := HB0.out.size; omega) (fun e => hk.1 (Option.some.inj e))).trans (HB0.out.block k hlt))
                      have HBN := Lib.hid (below_own (below_then HS2.out.below HS2.out.below.size HB0.out) hg HS2.out.b3 (by have := HB0.out.size; have := HS2.out.below.size; omega))
                      have hne := Kd.R_ne HO.out HX7.out (by decide)
                      have hvf := vl_F (ok' := (fun k => k ≠ g7)) (Kd.R_grown1 HO.out rfl hg hne) HAG.out (fun k hk _ => hk.1) (fun k hk e => hne (by rw [hk, e]))
                      have HZ := Lib.hid (show La w wn (fun k => k ≠ g7) g7 P0 pc0 p1 P1 pc1 p2 A5' c5' lq A6 c6 al from ⟨hbox, Kd.F_mono (Kd.F_step HQ2.out.f0 HAG.out) (fun k hk => hk.1), HQ2.out.h0, Kd.F_mono (Kd.F_step HQ2.out.f1 HAG.out) (fun k hk => hk.1), HQ2.out.h1, hvf.2.2, hvf.2.1, Kd.F_mono (Kd.F_step HS2.out.fa HAG.out) (fun k hk => hk.1), HS2.out.ha, HBN.out, HS2.out.b3, fun k hk => hk⟩)
                      have HX3 := Lib.hid ((hg.block g12 (blk_lt (blk_below HX2.out HB0.out)) (fun e => HG12.out.1 (Option.some.inj e).symm)).trans (blk_below HX2.out HB0.out))
                      clear hbox hg hz hne hvf
                      refine hK.out _ _ ⟨(blk_cell HX3.out 0).trans rfl, (blk_cell HX3.out 1).trans rfl⟩ (fun hHeld => ?_)
                      clear hK K
                      refine pure_ (i := 8) (N := some 5) (v := ?_) (a' := ?_) #[true, true, true, true, true, true, true, true, true] rfl rfl (any_of HT_.out (by kernel_rfl)) (fun _ _ _ h => h) (Or.inl ⟨by rfl, ?_⟩) ?_ ?_
                      rotate_left
                      · intro w'
                        go_simp
                        with_reducible rfl
                      rotate_left
                      · simp only [Act.put, List.setIfInBounds_toArray, List.set_cons_zero, List.set_cons_succ, i64_w, i32_w]
                        rfl
                      refine done_ (done_of HT_.out (by kernel_rfl)) ?_
                      try go_wp2
                      go_meet
                      exact ⟨A5', c5', rfl, ⟨HZ.out⟩⟩
                    case rest =>
                      clear HN HB0 HX2 HS2 HQ2 HDR HNEW HNOW HNL hdk hw1
                      obtain ⟨A5', c5', rfl, HS⟩ := hcut
                      have hlql : lq.length ≤ 1000 := by rw [HLQ.out]; exact HP.out.small.2.2
                      go_wp2_with (first | (go_at_call 27; refine (cobweblaw11_turned.calls 5000 A6 c6 al s al' _ (Kd.F_now HS.out.fa) HS.out.ha HP.out.turn).mono ?_; rintro e wb ⟨v_, rfl, hv, hb⟩; obtain ⟨A6', c6', rfl⟩ := Kd.R_slice hv; have e6 := freshS (ok' := fun k => k ≠ g7) hv (fun k hk _ => by have := blk_lt HS.out.x3; omega); have n_ := Lib.hid (show La w wb (fun k => k ≠ g7) g7 P0 pc0 p1 P1 pc1 p2 A5' c5' lq A6' c6' al' from { HS.out.grow hb with fa := e6.2, ha := e6.1 }); clear HS; have HS := n_; clear n_ e6 hv hb; refine Hold.go ?_))
                      refine Hold.of ?_
                      go_wp2
                      go_loopg [17, 18] lq.length (fun d v17 v18 w' => ∃ (j : Nat) (A17 : Option Addr) (c17 : Nat) (out : List ByteArray), v17 = .slice A17 out.length c17 ∧ v18 = .int .i64 j ∧ j ≤ lq.length ∧ Aside0 (d = lq.length - j) ∧ Aside0 (out = flatL (lq.take j)) ∧ Aside0 (Below wb.heap.size wb w' ∧ Kd.R Kd.string 9 w' wb.heap.size (fun _ => True) (.slice A17 out.length c17) out))
                      case atStart => exact ⟨0, none, 0, [], rfl, rfl, Nat.zero_le _, ⟨rfl⟩, ⟨rfl⟩, ⟨Below.refl _ _, Kd.R_nil _ _ _ _ _⟩⟩
                      case round =>
                        obtain ⟨j, A17, c17, out, rfl, rfl, hj, HDj, HOUT, HBN⟩ := hrel
                        have HB0 := Lib.hid HBN.out.1
                        have HN := Lib.hid HBN.out.2
                        clear HBN
                        by_cases hjl : j < lq.length
                        · obtain ⟨ad5, A8, c8, e8, hy0, hy1, hy2, hl8, hf8⟩ := leaf_of HS.out.fl j hjl
                          subst e8
                          have hz1 := pw_cell_below HB0.out hy1
                          have HSU := Lib.hid (flat_take_succ hjl)
                          have HLE := Lib.hid (flat_bound (j := j + 1) (show flatL lq = al' by rw [HLQ.out]; exact HP.out.flat) HP.out.small.2.1)
                          have hj0 := eq_true (show (0 : Int) ≤ (j : Int) by omega)
                          have hj1 := eq_true (show (j : Int) < (lq.length : Int) by omega)
                          have hj2 : decide ((j : Int) < (lq.length : Int)) = true := decide_eq_true (by omega)
                          have hj3 : decide (j < lq.length) = true := decide_eq_true hjl
                          have hj4 := eq_true hjl
                          have HF8 := Lib.hid (Kd.C_below (Kd.F_now hf8) HB0.out)
                          clear hy0 hy1 hy2 hl8 hf8
                          generalize rd_T28 lq (j : Int) = dj at *
                          go_wp2_with (first | ((with_reducible refine gate_builtin (b := .append) (xs := #[.tmp 149, .tmp 154]) rfl ?_); at_builtin; refine Kd.R_append_rows Kd.string (w0 := wb) wb.heap.size rfl (.tmp 149) (.tmp 154) 22 9 (.string ⟨#[]⟩) 16 rfl Try.underlying22 info9 rfl (by decide) (by omega) (.slice A17 out.length c17) out dj.f1 A8 dj.f1.length c8 (fun _ => True) (fun _ => False) rfl rfl HN.out HF8.out (fun _ _ h => h) (fun _ h => h.elim) (fun _ _ => trivial) HB0.out HB0.out.size (by have h1 := HLE.out; rw [HSU.out, ← HOUT.out, List.length_append] at h1; omega) ?_; intro v_ w1 ho hb hg hat; generalize hnew : out ++ dj.f1 = nw at ho; have HNW := Lib.hid hnew; obtain ⟨A18, c18, rfl⟩ := Kd.R_slice ho; have n_ := Lib.hid ho; clear HN; have HN := n_; clear n_; have n_ := Lib.hid hb; clear HB0; have HB0 := n_; clear n_ ho hb hg hat hnew hz1))
                          go_roundg (lq.length - (j + 1))
                          case measure => have := HDj.out; omega
                          case rel => exact ⟨j + 1, A18, c18, nw, rfl, by go_num, by omega, ⟨rfl⟩, ⟨by rw [HSU.out, ← HOUT.out]; exact HNW.out.symm⟩, ⟨HB0.out, HN.out⟩⟩
                        · have hje : j = lq.length := by omega
                          subst hje
                          have hout : out = al' := by rw [HOUT.out, List.take_length, HLQ.out]; exact HP.out.flat
                          subst hout
                          have HRT := Lib.hid (show leaf_Right.f p1 p2 lq = some true by rw [HLQ.out]; exact HP.out.right)
                          have n_ := Lib.hid (HS.out.grow HB0.out)
                          clear HS
                          have HS := n_
                          clear n_
                          obtain ⟨q0, q1⟩ := HS.out.cells
                          have HC17 := Lib.hid (Kd.R_reads' HN.out)
                          clear HN HB0 HDj hj hjl
                          go_wp2_with (first | (go_at_call 24; refine (leaf_Right.calls _ pc0 p1 _ pc1 p2 _ c5' lq true _ (Kd.F_now HS.out.f0) HS.out.h0 (Kd.F_now HS.out.f1) HS.out.h1 (Kd.F_now HS.out.fl) HS.out.hl HRT.out).mono ?_; rintro e wx ⟨rfl, hb⟩; have HC18 := Lib.hid (Kd.C_below HC17.out.2.2 hb); have n_ := Lib.hid (HS.out.grow hb); clear HS; have HS := n_; clear n_ hb q0 q1) | (go_at_call 15; refine (cobwebref11_Texts.calls (out.length + 1) _ c17 out _ c6' out true _ HC18.out HC17.out.2.1 (Kd.F_now HS.out.fa) HS.out.ha HP.out.texts).mono ?_; rintro e wy ⟨rfl, hd⟩; have n_ := Lib.hid (HS.out.grow hd.below); clear HS; have HS := n_; clear n_ hd))
                          go_roundg (es.length - (i + 1))
                          case measure => have := HD.out; omega
                          case rel => exact ⟨i + 1, P0, pc0, p1, P1, pc1, p2, A5', c5', lq, A6', c6', out, rfl, rfl, by go_num, by omega, ⟨rfl⟩, ⟨by have := HP.out.next; rw [← HLQ.out] at this; exact this⟩, ⟨HS.out⟩⟩

      · have hs1 : decide ((50 : Int) < (s.size : Int)) = true := decide_eq_true (by omega)
        have hs2 : decide (50 < s.size) = true := decide_eq_true (by omega)
        go_wp2
        go_ret
        exact ⟨rfl, HS.out.below⟩
    · have hie : i = es.length := by omega
      subst hie
      go_wp2
      go_ret
      exact ⟨rfl, HS.out.below⟩
end Go.Proofs.Ytneagipmllgejaa.PL
end
