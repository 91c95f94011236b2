/- A part of the proof: lemmas that the row uses, laid together by a program of this session's (pack.py) out of its texts and of what the kit's printer wrote for this seat. -/
import Derived.Shelf.SlicesE.Delete
import Derived.Lib.OwnBridge
import Derived.Outline
import Derived.RegionTactic
import Derived.Deep.RegionWith
import Derived.Test.YtneagipmllgejaaKH0
import Derived.Test.YtneagipmllgejaaKH1
import Derived.Test.YtneagipmllgejaaKH2
import Derived.Test.YtneagipmllgejaaKH3
import Derived.Test.YtneagipmllgejaaKH4
import Derived.Test.YtneagipmllgejaaKH5
import Derived.Test.YtneagipmllgejaaKH6
import Derived.Test.YtneagipmllgejaaKH7
import Derived.Test.YtneagipmllgejaaKH8
import Derived.Test.YtneagipmllgejaaKH9
section
set_option linter.unusedVariables false
set_option linter.unusedSimpArgs false
namespace Go.Proofs.Ytneagipmllgejaa.PL
open Go.Shelf Go.RowKit Go.Lib Go.Sort Go.Proofs.YtneagipmllgejaaW.PrintWords Go.Proofs.YtneagipmllgejaaW.PrintLast Go.Proofs.YtneagipmllgejaaW.PrintMore Go.Proofs.YtneagipmllgejaaH
/-- A list without its element i. -/
def cutAt {α : Type} (i : Nat) (l : List α) : List α := l.take i ++ l.drop (i + 1)
def l45_ren : Go.Shelf.Ren := ⟨fun | 45 => 45 | n => n, fun | 22 => 22 | 23 => 9 | 3 => 3 | 4 => 4 | 0 => 0 | n => n, fun | n => n⟩
theorem l45 : SlLaysE.n45 Try.prog l45_ren := {
  mixed := by kernel_rfl
  f45 := ⟨Try.f45.name, by decide, Try.func45.trans (congrArg some (by kernel_rfl))⟩
  t0 := Try.underlying0
  a0 := Try.isAgg0
  z0 := Try.sizeOf0
  v0 := Try.zeroValue0
  t3 := Try.underlying3
  a3 := Try.isAgg3
  z3 := Try.sizeOf3
  v3 := Try.zeroValue3
  t4 := Try.underlying4
  a4 := Try.isAgg4
  z4 := Try.sizeOf4
  v4 := Try.zeroValue4
  t22 := Try.underlying22
  a22 := Try.isAgg22
  z22 := Try.sizeOf22
  v22 := Try.zeroValue22
  a23 := Try.isAgg9
  z23 := Try.sizeOf9 }
def l46_ren : Go.Shelf.Ren := ⟨fun | 45 => 46 | n => n, fun | 22 => 24 | 23 => 3 | 3 => 3 | 4 => 4 | 0 => 0 | n => n, fun | n => n⟩
theorem l46 : SlLaysE.n45 Try.prog l46_ren := {
  mixed := by kernel_rfl
  f45 := ⟨Try.f46.name, by decide, Try.func46.trans (congrArg some (by kernel_rfl))⟩
  t0 := Try.underlying0
  a0 := Try.isAgg0
  z0 := Try.sizeOf0
  v0 := Try.zeroValue0
  t3 := Try.underlying3
  a3 := Try.isAgg3
  z3 := Try.sizeOf3
  v3 := Try.zeroValue3
  t4 := Try.underlying4
  a4 := Try.isAgg4
  z4 := Try.sizeOf4
  v4 := Try.zeroValue4
  t22 := Try.underlying24
  a22 := Try.isAgg24
  z22 := Try.sizeOf24
  v22 := Try.zeroValue24
  a23 := Try.isAgg3
  z23 := Try.sizeOf3 }
theorem grown_putS {w : World} {g q : Nat} {d : Array ByteArray} : w.grownBy (putRow (Value.string) (Sort.ahead w q) g 0 d) (some g) :=
  ⟨rfl, rfl, rfl, by simp [putRow, mapBlock, Sort.ahead], fun k hk hne => by simp [putRow, mapBlock, Sort.ahead, Array.getElem?_modify, show g ≠ k from fun e => hne (by rw [e])]⟩
set_option maxRecDepth 100000 in
/-- One element is taken out of a row of one's own. -/
theorem delS_at {base : Nat} {ok : Nat → Prop} {v : Value} {xs : List ByteArray} {i : Nat} {w0 w : World} (HO : (Kd.string).R 9 w base ok v xs) (hB : Below base w0 w) (hi : i < xs.length) {p q : Int} (hp : p = (i : Int)) (hq : q = ((i + 1 : Nat) : Int)) :
    Calls Try.prog 45 #[v, .int .i64 p, .int .i64 q] w fun e w' => ∃ v1, e = .returned v1 ∧ (Kd.string).R 9 w' base (fun _ => True) v1 (cutAt i xs) ∧ Below base w0 w' ∧ w.grownBy w' v.ownBlock ∧ (v1.ownBlock = v.ownBlock ∨ ∃ b, v1.ownBlock = some b ∧ w.heap.size ≤ b) := by
  subst hp
  subst hq
  have hown := Kd.own_of_R HO
  have hv : v ≠ .slice none 0 0 := fun e => by
    subst e
    rcases hown.2 with ⟨_, hz⟩ | ⟨g, cap, cur, e0, _⟩
    · have : xs.length = 0 := hz
      omega
    · cases e0
  obtain ⟨g, cap, rfl, hbg, hlt, hn, hm, _, hH⟩ := holds_of_ownsRow (enc := Value.string) hown hv
  obtain ⟨i0, hi0, hz1⟩ : ∃ i0, Try.prog.info? (l45_ren.t 23) = some i0 ∧ i0.size = 1 := by
    have h := info9
    cases h2 : Try.prog.info? 9 with
    | none => rw [h2] at h; cases h
    | some i0 => rw [h2] at h; simp at h; exact ⟨i0, h2, h.2.1⟩
  have hcon := AnyE.slices_Delete l45 (Value.string) (fun _ => rfl) (⟨#[]⟩ : ByteArray) Try.zeroValue9 i0 hi0 hz1 g 0 cap i (i + 1) xs.toArray w hH (by simpa using hn) (by unfold maxLen at hm; omega) (by omega) (by simp; omega)
  change Calls Try.prog 45 _ _ _ at hcon
  rw [List.size_toArray] at hcon
  refine hcon.mono ?_
  rintro e w1 ⟨rfl, q, rfl⟩
  have hl : (xs.take i ++ xs.drop (i + 1)).length = xs.length - 1 := by simp; omega
  have hrow := ownsRow_putRow (q := q) (k := xs.length - 1) (ys := xs.take i ++ xs.drop (i + 1) ++ List.replicate (i + 1 - i) (⟨#[]⟩ : ByteArray)) hown (by simp; omega) (by omega)
  rw [List.take_left' hl] at hrow
  have e1 : xs.length - (i + 1 - i) = (xs.take i ++ xs.drop (i + 1)).length := by rw [hl]; omega
  show ∃ v1, _ ∧ _ ∧ _ ∧ _ ∧ _
  unfold cutAt
  refine ⟨_, rfl, ?_, below_putRow hB hbg, grown_putS, .inl rfl⟩
  rw [e1]
  rw [← hl] at hrow
  exact Kd.R_of_own (h1 := fun _ => rfl) hrow (fun _ _ => trivial)
theorem grown_putI {w : World} {g q : Nat} {d : Array Int} : w.grownBy (putRow (Value.int .i64) (Sort.ahead w q) g 0 d) (some g) :=
  ⟨rfl, rfl, rfl, by simp [putRow, mapBlock, Sort.ahead], fun k hk hne => by simp [putRow, mapBlock, Sort.ahead, Array.getElem?_modify, show g ≠ k from fun e => hne (by rw [e])]⟩
set_option maxRecDepth 100000 in
/-- One element is taken out of a row of one's own. -/
theorem delI_at {base : Nat} {ok : Nat → Prop} {v : Value} {xs : List Int} {i : Nat} {w0 w : World} (HO : (Kd.int .i64).R 3 w base ok v xs) (hB : Below base w0 w) (hi : i < xs.length) {p q : Int} (hp : p = (i : Int)) (hq : q = ((i + 1 : Nat) : Int)) :
    Calls Try.prog 46 #[v, .int .i64 p, .int .i64 q] w fun e w' => ∃ v1, e = .returned v1 ∧ (Kd.int .i64).R 3 w' base (fun _ => True) v1 (cutAt i xs) ∧ Below base w0 w' ∧ w.grownBy w' v.ownBlock ∧ (v1.ownBlock = v.ownBlock ∨ ∃ b, v1.ownBlock = some b ∧ w.heap.size ≤ b) := by
  subst hp
  subst hq
  have hown := Kd.own_of_R HO
  have hv : v ≠ .slice none 0 0 := fun e => by
    subst e
    rcases hown.2 with ⟨_, hz⟩ | ⟨g, cap, cur, e0, _⟩
    · have : xs.length = 0 := hz
      omega
    · cases e0
  obtain ⟨g, cap, rfl, hbg, hlt, hn, hm, _, hH⟩ := holds_of_ownsRow (enc := Value.int .i64) hown hv
  obtain ⟨i0, hi0, hz1⟩ : ∃ i0, Try.prog.info? (l46_ren.t 23) = some i0 ∧ i0.size = 1 := by
    have h := info3
    cases h2 : Try.prog.info? 3 with
    | none => rw [h2] at h; cases h
    | some i0 => rw [h2] at h; simp at h; exact ⟨i0, h2, h.2.1⟩
  have hcon := AnyE.slices_Delete l46 (Value.int .i64) (fun _ => rfl) (0 : Int) Try.zeroValue3 i0 hi0 hz1 g 0 cap i (i + 1) xs.toArray w hH (by simpa using hn) (by unfold maxLen at hm; omega) (by omega) (by simp; omega)
  change Calls Try.prog 46 _ _ _ at hcon
  rw [List.size_toArray] at hcon
  refine hcon.mono ?_
  rintro e w1 ⟨rfl, q, rfl⟩
  have hl : (xs.take i ++ xs.drop (i + 1)).length = xs.length - 1 := by simp; omega
  have hrow := ownsRow_putRow (q := q) (k := xs.length - 1) (ys := xs.take i ++ xs.drop (i + 1) ++ List.replicate (i + 1 - i) (0 : Int)) hown (by simp; omega) (by omega)
  rw [List.take_left' hl] at hrow
  have e1 : xs.length - (i + 1 - i) = (xs.take i ++ xs.drop (i + 1)).length := by rw [hl]; omega
  show ∃ v1, _ ∧ _ ∧ _ ∧ _ ∧ _
  unfold cutAt
  refine ⟨_, rfl, ?_, below_putRow hB hbg, grown_putI, .inl rfl⟩
  rw [e1]
  rw [← hl] at hrow
  exact Kd.R_of_own (h1 := fun _ => rfl) hrow (fun _ _ => trivial)
end Go.Proofs.Ytneagipmllgejaa.PL
end
section
namespace Go.Proofs.Ytneagipmllgejaa.PL
open Go.RowKit Go.Proofs.YtneagipmllgejaaW.PrintWords Go.Proofs.YtneagipmllgejaaW.PrintLast Go.Proofs.YtneagipmllgejaaW.PrintMore Go.Proofs.YtneagipmllgejaaH
set_option linter.unusedVariables false
set_option linter.unusedSimpArgs false
def cutS (s : ByteArray) (es : List ByteArray) : List ByteArray := cutAt (loS s es) es
theorem St.fin0 {w W : World} {g3 g4 g6 : Nat} {u0 u1 u3 v0 v1 v3 : Value} {a : List ByteArray} {b : List Int} {no : Int} {es : List ByteArray} {gone : Bool} {x0 x1 : Value} (h : St w W g3 g4 g6 u0 u1 u3 v0 v1 v3 a b no es gone) :
    Kd.N k28 28 ((((W.setCell ⟨g6, 0, none⟩ x0).setCell ⟨g6, 1, none⟩ x1).alloc (.cells #[.int .i64 no, .slice none 0 0, .bool true] 28 (0, 0))).drew) w.heap.size (fun k_ => w.heap.size ≤ k_ ∧ some k_ ≠ v0.ownBlock ∧ some k_ ≠ v1.ownBlock) (.slice (some ⟨W.heap.size, 0, none⟩) 1 1) [⟨no, [], true⟩] := by
  obtain ⟨_, _, _, h3, _, hz⟩ := h.out x0 x1 (.cells #[.int .i64 no, .slice none 0 0, .bool true] 28 (0, 0))
  refine Kd.N_drew (N_one28 ⟨no, [], true⟩ (A1 := none) (c1 := 0) (by rw [← hz]; exact heap_alloc_new _ _) h.below.size ⟨h.below.size, fun e => ?_, fun e => ?_⟩ (Nat.le_refl _) (Kd.F_nil _ _ _))
  · have := Kd.R_lt h.r0 _ e.symm; omega
  · have := Kd.R_lt h.r1 _ e.symm; omega
set_option maxHeartbeats 2000000 in
set_option maxRecDepth 100000 in
theorem rem_wrong (B0 : Option Addr) (d0 : Nat) (a : List ByteArray) (B1 : Option Addr) (d1 : Nat) (b : List Int) (no : Int) (B3 : Option Addr) (d3 : Nat) (es : List ByteArray) (gone : Bool) (s : ByteArray) (w : World) (H : PreL B0 d0 a B1 d1 b no B3 d3 es gone s w) (hk : okL a b no es gone s = false) :
    Calls Try.prog 18 #[.agg #[.slice B0 a.length d0, .slice B1 b.length d1], .agg #[.int .i64 no, .slice B3 es.length d3, .bool gone], .string s] w (InsPost w [] [] [] 100) := by
  have HR0 := Lib.hid H.r0
  have HC0 := Lib.hid H.c0
  have HR1 := Lib.hid H.r1
  have HC1 := Lib.hid H.c1
  have HR3 := Lib.hid H.r3
  have HC3 := Lib.hid H.c3
  have hla := H.la
  have hlb := H.lb
  have hle := H.le
  have hu26 := Try.underlying26
  have hu28 := Try.underlying28

  have HOWN := Lib.hid (show leaf_own.f (a.length + es.length + 10) a b no es gone s = some ([], [], 0, [], false, 100) by rw [own_spec a b no es gone s (by omega) (by omega) (by omega) (by omega), hk]; rfl)
  have HBS := Lib.hid (show slices_BinarySearch_string_string.f (([] : List ByteArray).length + 1) [] s = some ((loS s [] : Int), fndS s []) from search_spec [] s rfl (by simp) (by simp))
  clear H hk
  go_enter Try.func18, Try.ntmps18
  go_wp2_with (first | ((with_reducible refine gate_dst (N := 3) rfl ?_); refine alloc_event ?hg (N := 3) ?hd (fun g => .pointer (some ⟨g, 0, none⟩)) (.cells #[.slice B0 a.length d0, .slice B1 b.length d1] 26 (0, 0)) ?hr ?_; (case hd => rfl); (case hg => rfl); (case hr => first | (go_simp; done) | (go_simp; rfl)); intro g3 hg w1 hbox hb; have HG3 := Lib.hid (show w.heap.size ≤ g3 by omega); have HX3_1 := Lib.hid hbox; have HB1 := Lib.hid (hb); clear hg hbox hb) | ((with_reducible refine gate_dst (N := 4) rfl ?_); refine alloc_event ?hg (N := 4) ?hd (fun g => .pointer (some ⟨g, 0, none⟩)) (.cells #[.int .i64 no, .slice B3 es.length d3, .bool gone] 28 (0, 0)) ?hr ?_; (case hd => rfl); (case hg => rfl); (case hr => first | (go_simp; done) | (go_simp; rfl)); intro g4 hg w2 hbox hb; have HG4 := Lib.hid (show w.heap.size ≤ g4 by rw [hg]; exact HB1.out.size); have HX4_2 := Lib.hid hbox; have HX3_2 := Lib.hid (blk_below HX3_1.out hb); have HN3_4 := Lib.hid (show g3 ≠ g4 by have := blk_lt HX3_1.out; omega); have HB2 := Lib.hid (below_then HB1.out HB1.out.size hb); clear hg hbox hb) | ((with_reducible refine gate_dst (N := 6) rfl ?_); refine alloc_event ?hg (N := 6) ?hd (fun g => .pointer (some ⟨g, 0, none⟩)) (.cells #[.slice none 0 0, .slice none 0 0] 26 (0, 0)) ?hr ?_; (case hd => rfl); (case hg => rfl); (case hr => first | (go_simp; done) | (go_simp; rfl)); intro g6 hg w3 hbox hb; have HG6 := Lib.hid (show w.heap.size ≤ g6 by rw [hg]; exact HB2.out.size); have HX6_3 := Lib.hid hbox; have HX3_3 := Lib.hid (blk_below HX3_2.out hb); have HN3_6 := Lib.hid (show g3 ≠ g6 by have := blk_lt HX3_2.out; omega); have HX4_3 := Lib.hid (blk_below HX4_2.out hb); have HN4_6 := Lib.hid (show g4 ≠ g6 by have := blk_lt HX4_2.out; omega); have HB3 := Lib.hid (below_then HB2.out HB2.out.size hb); clear hg hbox hb; have q30 : w3.cell? ⟨g3, 0, none⟩ = some (.slice B0 a.length d0) := (blk_cell HX3_3.out 0).trans rfl; have q31 : w3.cell? ⟨g3, 1, none⟩ = some (.slice B1 b.length d1) := (blk_cell HX3_3.out 1).trans rfl; have q40 : w3.cell? ⟨g4, 0, none⟩ = some (.int .i64 no) := (blk_cell HX4_3.out 0).trans rfl; have q41 : w3.cell? ⟨g4, 1, none⟩ = some (.slice B3 es.length d3) := (blk_cell HX4_3.out 1).trans rfl; have q42 : w3.cell? ⟨g4, 2, none⟩ = some (.bool gone) := (blk_cell HX4_3.out 2).trans rfl) | (go_at_call 34; refine (leaf_own.calls (a.length + es.length + 10) _ d0 a _ d1 b no _ d3 es gone s (([] : List ByteArray)) (([] : List Int)) (0) (([] : List ByteArray)) (false) (100) _ (Kd.C_below HR0.out HB3.out) HC0.out (Kd.C_below HR1.out HB3.out) HC1.out (Kd.C_below HR3.out HB3.out) HC3.out HOWN.out).mono ?_; rintro e w4 ⟨v0, v1, v3, rfl, h0, h1, h3, hb⟩; obtain ⟨A0, c0, rfl⟩ := Kd.R_slice h0; obtain ⟨A1, c1, rfl⟩ := Kd.R_slice h1; obtain ⟨A3, c3, rfl⟩ := Kd.R_slice h3; have H0_4 := Lib.hid (Kd.R_lower h0 HB3.out.size); have H1_4 := Lib.hid (Kd.R_lower h1 HB3.out.size); have H3_4 := Lib.hid (Kd.R_lower h3 HB3.out.size); have HX3_4 := Lib.hid (blk_below HX3_3.out hb); have HX4_4 := Lib.hid (blk_below HX4_3.out hb); have HX6_4 := Lib.hid (blk_below HX6_3.out hb); have HB4 := Lib.hid (below_then HB3.out HB3.out.size hb); clear h0 h1 h3 hb q30 q31 q40 q41 q42) | ((with_reducible refine gate_store (t := 26) (p := 3) rfl ?_); refine store_row rfl rfl rfl g3 _ 26 [.slice A0 (([] : List ByteArray)).length c0, .slice A1 (([] : List Int)).length c1] rfl (.agg #[.slice A0 (([] : List ByteArray)).length c0, .slice A1 (([] : List Int)).length c1]) ?haA ?hbA HX3_4.out rfl (by kernel_rfl) (two26 A0 (([] : List ByteArray)).length c0 A1 (([] : List Int)).length c1) ?_; (case haA => rfl); (case hbA => first | rfl | simp [Value.cells]); intro w5 hbox hg hz; have HX3_5 := Lib.hid hbox; have HX4_5 := Lib.hid (blk_grown HX4_4.out hg (fun e_ => HN3_4.out (by injection e_ with e_; exact e_.symm))); have HX6_5 := Lib.hid (blk_grown HX6_4.out hg (fun e_ => HN3_6.out (by injection e_ with e_; exact e_.symm))); have H0_5 := Lib.hid (Kd.R_grown1 H0_4.out rfl hg (Kd.R_ne H0_4.out HX3_4.out (by decide))); have H1_5 := Lib.hid (Kd.R_grown1 H1_4.out rfl hg (Kd.R_ne H1_4.out HX3_4.out (by decide))); have H3_5 := Lib.hid (Kd.R_grown1 H3_4.out rfl hg (Kd.R_ne H3_4.out HX3_4.out (by decide))); have HB5 := Lib.hid (below_own HB4.out hg HG3.out HB4.out.size); clear hbox hg hz) | ((with_reducible refine gate_store (t := 28) (p := 4) rfl ?_); refine store_row rfl rfl rfl g4 _ 28 [.int .i64 (0), .slice A3 (([] : List ByteArray)).length c3, .bool false] rfl (.agg #[.int .i64 (0), .slice A3 (([] : List ByteArray)).length c3, .bool false]) ?haB ?hbB HX4_5.out rfl (by kernel_rfl) (three28 (0) A3 (([] : List ByteArray)).length c3 false) ?_; (case haB => rfl); (case hbB => first | rfl | simp [Value.cells]); intro w6 hbox hg hz; have HS6 := Lib.hid (St.first HB5.out HX3_5.out HX4_5.out HX6_5.out H0_5.out H1_5.out H3_5.out HN3_4.out HN3_6.out HN4_6.out HG3.out HG4.out HG6.out hbox hg); clear hbox hg hz; refine Hold.go ?_))
  clear HX3_1 HX3_2 HX4_2 HX3_3 HX4_3 HX6_3 HX3_4 HX4_4 HX6_4 HX3_5 HX4_5 HX6_5 H0_4 H1_4 H3_4 H0_5 H1_5 H3_5 HB1 HB2 HB3 HB4 HB5 HN3_4 HN3_6 HN4_6 HG3 HG4 HG6 HOWN
  obtain ⟨q30, q31, q40, q41, q42⟩ := HS6.out.cells
  refine Hold.of ?_
  go_wp2_with (first | (go_at_call 35; refine (slices_BinarySearch_string_string.calls ((([] : List ByteArray)).length + 1) A3 c3 (([] : List ByteArray)) s (loS s (([] : List ByteArray)) : Int) (fndS s (([] : List ByteArray))) _ (Kd.R_reads' HS6.out.r3).2.2 (Kd.R_reads' HS6.out.r3).2.1 HBS.out).mono ?_; rintro e w7 ⟨rfl, hd⟩; have HS7 := Lib.hid (HS6.out.step hd.below); clear hd; refine Hold.go ?_))
  clear q30 q31 q40 q41 q42
  have HE0 := HS7.out.x6
  have HE := Lib.hid HE0
  clear HE0
  refine Hold.of ?_
  go_wp2_with (first | ((with_reducible refine gate_store (t := 26) (p := 6) rfl ?_); refine store_row rfl rfl rfl g6 _ 26 [.slice none 0 0, .slice none 0 0] rfl (.agg #[.slice none 0 0, .slice none 0 0]) ?haC ?hbC HE.out rfl (by kernel_rfl) (two26 none 0 0 none 0 0) ?_; (case haC => rfl); (case hbC => first | rfl | simp [Value.cells]); intro w8 hbox hg hz; have HX8 := Lib.hid hbox; have HB8 := Lib.hid (below_own HS7.out.below hg HS7.out.b6 HS7.out.below.size); clear hbox hg hz))
  refine bodyPost_ret (results_list (rs := [.cell 6 26, .tmp 7, .tmp 8]) rfl (by simp) (.cell g6 26 #[.slice none 0 0, .slice none 0 0] (0, 0) _ rfl HX8.out Try.underlying26 rfl (by kernel_rfl) (.tmp (.tmp .nil)))) rfl ?_
  exact ⟨_, _, _, rfl, Kd.R_nil _ _ _ _ _, Kd.R_nil _ _ _ _ _, Kd.N_nil _ _ _ _ _, HB8.out⟩
set_option maxHeartbeats 2000000 in
set_option maxRecDepth 100000 in
theorem rem_none (B0 : Option Addr) (d0 : Nat) (a : List ByteArray) (B1 : Option Addr) (d1 : Nat) (b : List Int) (no : Int) (B3 : Option Addr) (d3 : Nat) (es : List ByteArray) (gone : Bool) (s : ByteArray) (w : World) (H : PreL B0 d0 a B1 d1 b no B3 d3 es gone s w) (hk : okL a b no es gone s = true) (hf : fndS s es = false) :
    Calls Try.prog 18 #[.agg #[.slice B0 a.length d0, .slice B1 b.length d1], .agg #[.int .i64 no, .slice B3 es.length d3, .bool gone], .string s] w (InsPost w [] [] [] 101) := by
  have HR0 := Lib.hid H.r0
  have HC0 := Lib.hid H.c0
  have HR1 := Lib.hid H.r1
  have HC1 := Lib.hid H.c1
  have HR3 := Lib.hid H.r3
  have HC3 := Lib.hid H.c3
  have hla := H.la
  have hlb := H.lb
  have hle := H.le
  have hu26 := Try.underlying26
  have hu28 := Try.underlying28

  have HOWN := Lib.hid (show leaf_own.f (a.length + es.length + 10) a b no es gone s = some (a, b, no, es, gone, 0) by rw [own_spec a b no es gone s (by omega) (by omega) (by omega) (by omega), hk]; rfl)
  have HRI := Lib.hid ((leafB_iff.1 (okL_iff.1 hk).1).2.2)
  have hl4 := (leafB_iff.1 (okL_iff.1 hk).1).2.1
  have HBS := Lib.hid (show slices_BinarySearch_string_string.f (es.length + 1) es s = some ((loS s es : Int), fndS s es) from search_spec es s HRI.out (by omega) (by omega))
  clear H hk
  go_enter Try.func18, Try.ntmps18
  go_wp2_with (first | ((with_reducible refine gate_dst (N := 3) rfl ?_); refine alloc_event ?hg (N := 3) ?hd (fun g => .pointer (some ⟨g, 0, none⟩)) (.cells #[.slice B0 a.length d0, .slice B1 b.length d1] 26 (0, 0)) ?hr ?_; (case hd => rfl); (case hg => rfl); (case hr => first | (go_simp; done) | (go_simp; rfl)); intro g3 hg w1 hbox hb; have HG3 := Lib.hid (show w.heap.size ≤ g3 by omega); have HX3_1 := Lib.hid hbox; have HB1 := Lib.hid (hb); clear hg hbox hb) | ((with_reducible refine gate_dst (N := 4) rfl ?_); refine alloc_event ?hg (N := 4) ?hd (fun g => .pointer (some ⟨g, 0, none⟩)) (.cells #[.int .i64 no, .slice B3 es.length d3, .bool gone] 28 (0, 0)) ?hr ?_; (case hd => rfl); (case hg => rfl); (case hr => first | (go_simp; done) | (go_simp; rfl)); intro g4 hg w2 hbox hb; have HG4 := Lib.hid (show w.heap.size ≤ g4 by rw [hg]; exact HB1.out.size); have HX4_2 := Lib.hid hbox; have HX3_2 := Lib.hid (blk_below HX3_1.out hb); have HN3_4 := Lib.hid (show g3 ≠ g4 by have := blk_lt HX3_1.out; omega); have HB2 := Lib.hid (below_then HB1.out HB1.out.size hb); clear hg hbox hb) | ((with_reducible refine gate_dst (N := 6) rfl ?_); refine alloc_event ?hg (N := 6) ?hd (fun g => .pointer (some ⟨g, 0, none⟩)) (.cells #[.slice none 0 0, .slice none 0 0] 26 (0, 0)) ?hr ?_; (case hd => rfl); (case hg => rfl); (case hr => first | (go_simp; done) | (go_simp; rfl)); intro g6 hg w3 hbox hb; have HG6 := Lib.hid (show w.heap.size ≤ g6 by rw [hg]; exact HB2.out.size); have HX6_3 := Lib.hid hbox; have HX3_3 := Lib.hid (blk_below HX3_2.out hb); have HN3_6 := Lib.hid (show g3 ≠ g6 by have := blk_lt HX3_2.out; omega); have HX4_3 := Lib.hid (blk_below HX4_2.out hb); have HN4_6 := Lib.hid (show g4 ≠ g6 by have := blk_lt HX4_2.out; omega); have HB3 := Lib.hid (below_then HB2.out HB2.out.size hb); clear hg hbox hb; have q30 : w3.cell? ⟨g3, 0, none⟩ = some (.slice B0 a.length d0) := (blk_cell HX3_3.out 0).trans rfl; have q31 : w3.cell? ⟨g3, 1, none⟩ = some (.slice B1 b.length d1) := (blk_cell HX3_3.out 1).trans rfl; have q40 : w3.cell? ⟨g4, 0, none⟩ = some (.int .i64 no) := (blk_cell HX4_3.out 0).trans rfl; have q41 : w3.cell? ⟨g4, 1, none⟩ = some (.slice B3 es.length d3) := (blk_cell HX4_3.out 1).trans rfl; have q42 : w3.cell? ⟨g4, 2, none⟩ = some (.bool gone) := (blk_cell HX4_3.out 2).trans rfl) | (go_at_call 34; refine (leaf_own.calls (a.length + es.length + 10) _ d0 a _ d1 b no _ d3 es gone s (a) (b) (no) (es) (gone) (0) _ (Kd.C_below HR0.out HB3.out) HC0.out (Kd.C_below HR1.out HB3.out) HC1.out (Kd.C_below HR3.out HB3.out) HC3.out HOWN.out).mono ?_; rintro e w4 ⟨v0, v1, v3, rfl, h0, h1, h3, hb⟩; obtain ⟨A0, c0, rfl⟩ := Kd.R_slice h0; obtain ⟨A1, c1, rfl⟩ := Kd.R_slice h1; obtain ⟨A3, c3, rfl⟩ := Kd.R_slice h3; have H0_4 := Lib.hid (Kd.R_lower h0 HB3.out.size); have H1_4 := Lib.hid (Kd.R_lower h1 HB3.out.size); have H3_4 := Lib.hid (Kd.R_lower h3 HB3.out.size); have HX3_4 := Lib.hid (blk_below HX3_3.out hb); have HX4_4 := Lib.hid (blk_below HX4_3.out hb); have HX6_4 := Lib.hid (blk_below HX6_3.out hb); have HB4 := Lib.hid (below_then HB3.out HB3.out.size hb); clear h0 h1 h3 hb q30 q31 q40 q41 q42) | ((with_reducible refine gate_store (t := 26) (p := 3) rfl ?_); refine store_row rfl rfl rfl g3 _ 26 [.slice A0 (a).length c0, .slice A1 (b).length c1] rfl (.agg #[.slice A0 (a).length c0, .slice A1 (b).length c1]) ?haA ?hbA HX3_4.out rfl (by kernel_rfl) (two26 A0 (a).length c0 A1 (b).length c1) ?_; (case haA => rfl); (case hbA => first | rfl | simp [Value.cells]); intro w5 hbox hg hz; have HX3_5 := Lib.hid hbox; have HX4_5 := Lib.hid (blk_grown HX4_4.out hg (fun e_ => HN3_4.out (by injection e_ with e_; exact e_.symm))); have HX6_5 := Lib.hid (blk_grown HX6_4.out hg (fun e_ => HN3_6.out (by injection e_ with e_; exact e_.symm))); have H0_5 := Lib.hid (Kd.R_grown1 H0_4.out rfl hg (Kd.R_ne H0_4.out HX3_4.out (by decide))); have H1_5 := Lib.hid (Kd.R_grown1 H1_4.out rfl hg (Kd.R_ne H1_4.out HX3_4.out (by decide))); have H3_5 := Lib.hid (Kd.R_grown1 H3_4.out rfl hg (Kd.R_ne H3_4.out HX3_4.out (by decide))); have HB5 := Lib.hid (below_own HB4.out hg HG3.out HB4.out.size); clear hbox hg hz) | ((with_reducible refine gate_store (t := 28) (p := 4) rfl ?_); refine store_row rfl rfl rfl g4 _ 28 [.int .i64 (no), .slice A3 (es).length c3, .bool gone] rfl (.agg #[.int .i64 (no), .slice A3 (es).length c3, .bool gone]) ?haB ?hbB HX4_5.out rfl (by kernel_rfl) (three28 (no) A3 (es).length c3 gone) ?_; (case haB => rfl); (case hbB => first | rfl | simp [Value.cells]); intro w6 hbox hg hz; have HS6 := Lib.hid (St.first HB5.out HX3_5.out HX4_5.out HX6_5.out H0_5.out H1_5.out H3_5.out HN3_4.out HN3_6.out HN4_6.out HG3.out HG4.out HG6.out hbox hg); clear hbox hg hz; refine Hold.go ?_))
  clear HX3_1 HX3_2 HX4_2 HX3_3 HX4_3 HX6_3 HX3_4 HX4_4 HX6_4 HX3_5 HX4_5 HX6_5 H0_4 H1_4 H3_4 H0_5 H1_5 H3_5 HB1 HB2 HB3 HB4 HB5 HN3_4 HN3_6 HN4_6 HG3 HG4 HG6 HOWN
  obtain ⟨q30, q31, q40, q41, q42⟩ := HS6.out.cells
  refine Hold.of ?_
  go_wp2_with (first | (go_at_call 35; refine (slices_BinarySearch_string_string.calls ((es).length + 1) A3 c3 (es) s (loS s (es) : Int) (fndS s (es)) _ (Kd.R_reads' HS6.out.r3).2.2 (Kd.R_reads' HS6.out.r3).2.1 HBS.out).mono ?_; rintro e w7 ⟨rfl, hd⟩; have HS7 := Lib.hid (HS6.out.step hd.below); clear hd; refine Hold.go ?_))
  clear q30 q31 q40 q41 q42
  have HE := Lib.hid HS7.out.x6
  refine Hold.of ?_
  go_wp2_with (first | ((with_reducible refine gate_store (t := 26) (p := 6) rfl ?_); refine store_row rfl rfl rfl g6 _ 26 [.slice none 0 0, .slice none 0 0] rfl (.agg #[.slice none 0 0, .slice none 0 0]) ?haC ?hbC HE.out rfl (by kernel_rfl) (two26 none 0 0 none 0 0) ?_; (case haC => rfl); (case hbC => first | rfl | simp [Value.cells]); intro w8 hbox hg hz; have HX8 := Lib.hid hbox; have HB8 := Lib.hid (below_own HS7.out.below hg HS7.out.b6 HS7.out.below.size); clear hbox hg hz))
  refine bodyPost_ret (results_list (rs := [.cell 6 26, .tmp 7, .tmp 8]) rfl (by simp) (.cell g6 26 #[.slice none 0 0, .slice none 0 0] (0, 0) _ rfl HX8.out Try.underlying26 rfl (by kernel_rfl) (.tmp (.tmp .nil)))) rfl ?_
  exact ⟨_, _, _, rfl, Kd.R_nil _ _ _ _ _, Kd.R_nil _ _ _ _ _, Kd.N_nil _ _ _ _ _, HB8.out⟩
set_option maxHeartbeats 2000000 in
set_option maxRecDepth 100000 in
theorem rem_some (B0 : Option Addr) (d0 : Nat) (a : List ByteArray) (B1 : Option Addr) (d1 : Nat) (b : List Int) (no : Int) (B3 : Option Addr) (d3 : Nat) (es : List ByteArray) (gone : Bool) (s : ByteArray) (w : World) (H : PreL B0 d0 a B1 d1 b no B3 d3 es gone s w) (hk : okL a b no es gone s = true) (hf : fndS s es = true) (hlt : loS s es < es.length) (h4 : 0 < (cutS s es).length) :
    Calls Try.prog 18 #[.agg #[.slice B0 a.length d0, .slice B1 b.length d1], .agg #[.int .i64 no, .slice B3 es.length d3, .bool gone], .string s] w (InsPost w a b [⟨no, cutS s es, gone⟩] 0) := by
  have HR0 := Lib.hid H.r0
  have HC0 := Lib.hid H.c0
  have HR1 := Lib.hid H.r1
  have HC1 := Lib.hid H.c1
  have HR3 := Lib.hid H.r3
  have HC3 := Lib.hid H.c3
  have hla := H.la
  have hlb := H.lb
  have hle := H.le
  have hu26 := Try.underlying26
  have hu28 := Try.underlying28

  have HOWN := Lib.hid (show leaf_own.f (a.length + es.length + 10) a b no es gone s = some (a, b, no, es, gone, 0) by rw [own_spec a b no es gone s (by omega) (by omega) (by omega) (by omega), hk]; rfl)
  have HRI := Lib.hid ((leafB_iff.1 (okL_iff.1 hk).1).2.2)
  have hl4 := (leafB_iff.1 (okL_iff.1 hk).1).2.1
  have HBS := Lib.hid (show slices_BinarySearch_string_string.f (es.length + 1) es s = some ((loS s es : Int), fndS s es) from search_spec es s HRI.out (by omega) (by omega))
  clear H hk
  have H4 := Lib.hid h4
  clear h4
  go_enter Try.func18, Try.ntmps18
  go_wp2_with (first | ((with_reducible refine gate_dst (N := 3) rfl ?_); refine alloc_event ?hg (N := 3) ?hd (fun g => .pointer (some ⟨g, 0, none⟩)) (.cells #[.slice B0 a.length d0, .slice B1 b.length d1] 26 (0, 0)) ?hr ?_; (case hd => rfl); (case hg => rfl); (case hr => first | (go_simp; done) | (go_simp; rfl)); intro g3 hg w1 hbox hb; have HG3 := Lib.hid (show w.heap.size ≤ g3 by omega); have HX3_1 := Lib.hid hbox; have HB1 := Lib.hid (hb); clear hg hbox hb) | ((with_reducible refine gate_dst (N := 4) rfl ?_); refine alloc_event ?hg (N := 4) ?hd (fun g => .pointer (some ⟨g, 0, none⟩)) (.cells #[.int .i64 no, .slice B3 es.length d3, .bool gone] 28 (0, 0)) ?hr ?_; (case hd => rfl); (case hg => rfl); (case hr => first | (go_simp; done) | (go_simp; rfl)); intro g4 hg w2 hbox hb; have HG4 := Lib.hid (show w.heap.size ≤ g4 by rw [hg]; exact HB1.out.size); have HX4_2 := Lib.hid hbox; have HX3_2 := Lib.hid (blk_below HX3_1.out hb); have HN3_4 := Lib.hid (show g3 ≠ g4 by have := blk_lt HX3_1.out; omega); have HB2 := Lib.hid (below_then HB1.out HB1.out.size hb); clear hg hbox hb) | ((with_reducible refine gate_dst (N := 6) rfl ?_); refine alloc_event ?hg (N := 6) ?hd (fun g => .pointer (some ⟨g, 0, none⟩)) (.cells #[.slice none 0 0, .slice none 0 0] 26 (0, 0)) ?hr ?_; (case hd => rfl); (case hg => rfl); (case hr => first | (go_simp; done) | (go_simp; rfl)); intro g6 hg w3 hbox hb; have HG6 := Lib.hid (show w.heap.size ≤ g6 by rw [hg]; exact HB2.out.size); have HX6_3 := Lib.hid hbox; have HX3_3 := Lib.hid (blk_below HX3_2.out hb); have HN3_6 := Lib.hid (show g3 ≠ g6 by have := blk_lt HX3_2.out; omega); have HX4_3 := Lib.hid (blk_below HX4_2.out hb); have HN4_6 := Lib.hid (show g4 ≠ g6 by have := blk_lt HX4_2.out; omega); have HB3 := Lib.hid (below_then HB2.out HB2.out.size hb); clear hg hbox hb; have q30 : w3.cell? ⟨g3, 0, none⟩ = some (.slice B0 a.length d0) := (blk_cell HX3_3.out 0).trans rfl; have q31 : w3.cell? ⟨g3, 1, none⟩ = some (.slice B1 b.length d1) := (blk_cell HX3_3.out 1).trans rfl; have q40 : w3.cell? ⟨g4, 0, none⟩ = some (.int .i64 no) := (blk_cell HX4_3.out 0).trans rfl; have q41 : w3.cell? ⟨g4, 1, none⟩ = some (.slice B3 es.length d3) := (blk_cell HX4_3.out 1).trans rfl; have q42 : w3.cell? ⟨g4, 2, none⟩ = some (.bool gone) := (blk_cell HX4_3.out 2).trans rfl) | (go_at_call 34; refine (leaf_own.calls (a.length + es.length + 10) _ d0 a _ d1 b no _ d3 es gone s (a) (b) (no) (es) (gone) (0) _ (Kd.C_below HR0.out HB3.out) HC0.out (Kd.C_below HR1.out HB3.out) HC1.out (Kd.C_below HR3.out HB3.out) HC3.out HOWN.out).mono ?_; rintro e w4 ⟨v0, v1, v3, rfl, h0, h1, h3, hb⟩; obtain ⟨A0, c0, rfl⟩ := Kd.R_slice h0; obtain ⟨A1, c1, rfl⟩ := Kd.R_slice h1; obtain ⟨A3, c3, rfl⟩ := Kd.R_slice h3; have H0_4 := Lib.hid (Kd.R_lower h0 HB3.out.size); have H1_4 := Lib.hid (Kd.R_lower h1 HB3.out.size); have H3_4 := Lib.hid (Kd.R_lower h3 HB3.out.size); have HX3_4 := Lib.hid (blk_below HX3_3.out hb); have HX4_4 := Lib.hid (blk_below HX4_3.out hb); have HX6_4 := Lib.hid (blk_below HX6_3.out hb); have HB4 := Lib.hid (below_then HB3.out HB3.out.size hb); clear h0 h1 h3 hb q30 q31 q40 q41 q42) | ((with_reducible refine gate_store (t := 26) (p := 3) rfl ?_); refine store_row rfl rfl rfl g3 _ 26 [.slice A0 (a).length c0, .slice A1 (b).length c1] rfl (.agg #[.slice A0 (a).length c0, .slice A1 (b).length c1]) ?haA ?hbA HX3_4.out rfl (by kernel_rfl) (two26 A0 (a).length c0 A1 (b).length c1) ?_; (case haA => rfl); (case hbA => first | rfl | simp [Value.cells]); intro w5 hbox hg hz; have HX3_5 := Lib.hid hbox; have HX4_5 := Lib.hid (blk_grown HX4_4.out hg (fun e_ => HN3_4.out (by injection e_ with e_; exact e_.symm))); have HX6_5 := Lib.hid (blk_grown HX6_4.out hg (fun e_ => HN3_6.out (by injection e_ with e_; exact e_.symm))); have H0_5 := Lib.hid (Kd.R_grown1 H0_4.out rfl hg (Kd.R_ne H0_4.out HX3_4.out (by decide))); have H1_5 := Lib.hid (Kd.R_grown1 H1_4.out rfl hg (Kd.R_ne H1_4.out HX3_4.out (by decide))); have H3_5 := Lib.hid (Kd.R_grown1 H3_4.out rfl hg (Kd.R_ne H3_4.out HX3_4.out (by decide))); have HB5 := Lib.hid (below_own HB4.out hg HG3.out HB4.out.size); clear hbox hg hz) | ((with_reducible refine gate_store (t := 28) (p := 4) rfl ?_); refine store_row rfl rfl rfl g4 _ 28 [.int .i64 (no), .slice A3 (es).length c3, .bool gone] rfl (.agg #[.int .i64 (no), .slice A3 (es).length c3, .bool gone]) ?haB ?hbB HX4_5.out rfl (by kernel_rfl) (three28 (no) A3 (es).length c3 gone) ?_; (case haB => rfl); (case hbB => first | rfl | simp [Value.cells]); intro w6 hbox hg hz; have HS6 := Lib.hid (St.first HB5.out HX3_5.out HX4_5.out HX6_5.out H0_5.out H1_5.out H3_5.out HN3_4.out HN3_6.out HN4_6.out HG3.out HG4.out HG6.out hbox hg); clear hbox hg hz; refine Hold.go ?_))
  clear HX3_1 HX3_2 HX4_2 HX3_3 HX4_3 HX6_3 HX3_4 HX4_4 HX6_4 HX3_5 HX4_5 HX6_5 H0_4 H1_4 H3_4 H0_5 H1_5 H3_5 HB1 HB2 HB3 HB4 HB5 HN3_4 HN3_6 HN4_6 HG3 HG4 HG6 HOWN
  obtain ⟨q30, q31, q40, q41, q42⟩ := HS6.out.cells
  refine Hold.of ?_
  go_wp2_with (first | (go_at_call 35; refine (slices_BinarySearch_string_string.calls ((es).length + 1) A3 c3 (es) s (loS s (es) : Int) (fndS s (es)) _ (Kd.R_reads' HS6.out.r3).2.2 (Kd.R_reads' HS6.out.r3).2.1 HBS.out).mono ?_; rintro e w7 ⟨rfl, hd⟩; have HS7 := Lib.hid (HS6.out.step hd.below); clear hd; refine Hold.go ?_))
  clear q30 q31 q40 q41 q42
  obtain ⟨q30, q31, q40, q41, q42⟩ := HS7.out.cells
  refine Hold.of ?_
  go_wp2_with (first | (go_at_call 45; refine (delS_at (i := loS s es) HS7.out.r3 HS7.out.below hlt (by omega) (by omega)).mono ?_; rintro e w8 ⟨v8, rfl, hv, hb, hg, hn⟩; obtain ⟨A8, c8, rfl⟩ := Kd.R_slice hv; have HS8 := Lib.hid (St.grew3 HS7.out hv hb hg hn); clear hv hb hg hn q30 q31 q40 q41 q42) | ((with_reducible refine gate_store (t := 22) (p := 43) rfl ?_); refine store_cell rfl rfl rfl g4 1 _ 28 rfl (.slice A8 (cutAt (loS s es) es).length c8) ?haD ?hbD HS8.out.x4 (by simp) (by kernel_rfl) rfl ?_; (case haD => rfl); (case hbD => first | rfl | simp [Value.cells]); intro w10 hbox hg hz; have HS10 := Lib.hid (St.put3 HS8.out hbox hg); clear hbox hg hz; refine Hold.go ?_))
  have h4 := H4.out
  clear H4
  unfold cutS at h4
  show Hold _
  generalize hids : cutAt (loS s es) es = ids at *
  have HI := Lib.hid (show cutS s es = ids from hids)
  have hlb : decide ((0 : Int) < (ids.length : Int)) = true := decide_eq_true (by omega)
  have hlc : decide (0 < ids.length) = true := decide_eq_true h4
  clear HS6 HS7 HS8 HBS HRI hf hlt hids
  obtain ⟨q30, q31, q40, q41, q42⟩ := HS10.out.cells
  have q60 : w10.cell? ⟨g6, 0, none⟩ = some (.slice none 0 0) := (blk_cell HS10.out.x6 0).trans rfl
  have q61 : w10.cell? ⟨g6, 1, none⟩ = some (.slice none 0 0) := (blk_cell HS10.out.x6 1).trans rfl
  have f60 := blk_frozen HS10.out.x6 0
  have f61 := blk_frozen HS10.out.x6 1
  have b3 := blk_lt HS10.out.x3
  have b4 := blk_lt HS10.out.x4
  have b6 := blk_lt HS10.out.x6
  have n36 := HS10.out.n36
  have n46 := HS10.out.n46
  have n63 := n36.symm
  have n64 := n46.symm
  refine Hold.of ?_
  go_upto_region 9 with (fail)
  go_region
  all_goals go_wp2
  obtain ⟨hx, e0, e1, _, hb, _⟩ := HS10.out.out (.slice A0 a.length c0) (.slice A1 b.length c1) (.cells #[.int .i64 no, .slice A8 ids.length c8, .bool gone] 28 (0, 0))
  refine bodyPost_ret (results_list (rs := [.cell 6 26, .tmp 7, .tmp 8]) rfl (by simp) (.cell g6 26 #[.slice A0 a.length c0, .slice A1 b.length c1] (0, 0) _ rfl hx Try.underlying26 rfl (by kernel_rfl) (.tmp (.tmp .nil)))) rfl ?_
  rw [HI.out]
  exact ⟨_, _, _, rfl, e0, e1, St.fin1 HS10.out, hb⟩
set_option maxHeartbeats 2000000 in
set_option maxRecDepth 100000 in
theorem rem_last (B0 : Option Addr) (d0 : Nat) (a : List ByteArray) (B1 : Option Addr) (d1 : Nat) (b : List Int) (no : Int) (B3 : Option Addr) (d3 : Nat) (es : List ByteArray) (gone : Bool) (s : ByteArray) (w : World) (H : PreL B0 d0 a B1 d1 b no B3 d3 es gone s w) (hk : okL a b no es gone s = true) (hf : fndS s es = true) (hlt : loS s es < es.length) (h4 : (cutS s es).length = 0) (h5 : b.length = 1) :
    Calls Try.prog 18 #[.agg #[.slice B0 a.length d0, .slice B1 b.length d1], .agg #[.int .i64 no, .slice B3 es.length d3, .bool gone], .string s] w (InsPost w a b [⟨no, cutS s es, gone⟩] 0) := by
  have HR0 := Lib.hid H.r0
  have HC0 := Lib.hid H.c0
  have HR1 := Lib.hid H.r1
  have HC1 := Lib.hid H.c1
  have HR3 := Lib.hid H.r3
  have HC3 := Lib.hid H.c3
  have hla := H.la
  have hlb := H.lb
  have hle := H.le
  have hu26 := Try.underlying26
  have hu28 := Try.underlying28

  have HOWN := Lib.hid (show leaf_own.f (a.length + es.length + 10) a b no es gone s = some (a, b, no, es, gone, 0) by rw [own_spec a b no es gone s (by omega) (by omega) (by omega) (by omega), hk]; rfl)
  have HRI := Lib.hid ((leafB_iff.1 (okL_iff.1 hk).1).2.2)
  have hl4 := (leafB_iff.1 (okL_iff.1 hk).1).2.1
  have HBS := Lib.hid (show slices_BinarySearch_string_string.f (es.length + 1) es s = some ((loS s es : Int), fndS s es) from search_spec es s HRI.out (by omega) (by omega))
  clear H hk
  have H4 := Lib.hid h4
  clear h4
  have H5 := Lib.hid h5
  clear h5
  go_enter Try.func18, Try.ntmps18
  go_wp2_with (first | ((with_reducible refine gate_dst (N := 3) rfl ?_); refine alloc_event ?hg (N := 3) ?hd (fun g => .pointer (some ⟨g, 0, none⟩)) (.cells #[.slice B0 a.length d0, .slice B1 b.length d1] 26 (0, 0)) ?hr ?_; (case hd => rfl); (case hg => rfl); (case hr => first | (go_simp; done) | (go_simp; rfl)); intro g3 hg w1 hbox hb; have HG3 := Lib.hid (show w.heap.size ≤ g3 by omega); have HX3_1 := Lib.hid hbox; have HB1 := Lib.hid (hb); clear hg hbox hb) | ((with_reducible refine gate_dst (N := 4) rfl ?_); refine alloc_event ?hg (N := 4) ?hd (fun g => .pointer (some ⟨g, 0, none⟩)) (.cells #[.int .i64 no, .slice B3 es.length d3, .bool gone] 28 (0, 0)) ?hr ?_; (case hd => rfl); (case hg => rfl); (case hr => first | (go_simp; done) | (go_simp; rfl)); intro g4 hg w2 hbox hb; have HG4 := Lib.hid (show w.heap.size ≤ g4 by rw [hg]; exact HB1.out.size); have HX4_2 := Lib.hid hbox; have HX3_2 := Lib.hid (blk_below HX3_1.out hb); have HN3_4 := Lib.hid (show g3 ≠ g4 by have := blk_lt HX3_1.out; omega); have HB2 := Lib.hid (below_then HB1.out HB1.out.size hb); clear hg hbox hb) | ((with_reducible refine gate_dst (N := 6) rfl ?_); refine alloc_event ?hg (N := 6) ?hd (fun g => .pointer (some ⟨g, 0, none⟩)) (.cells #[.slice none 0 0, .slice none 0 0] 26 (0, 0)) ?hr ?_; (case hd => rfl); (case hg => rfl); (case hr => first | (go_simp; done) | (go_simp; rfl)); intro g6 hg w3 hbox hb; have HG6 := Lib.hid (show w.heap.size ≤ g6 by rw [hg]; exact HB2.out.size); have HX6_3 := Lib.hid hbox; have HX3_3 := Lib.hid (blk_below HX3_2.out hb); have HN3_6 := Lib.hid (show g3 ≠ g6 by have := blk_lt HX3_2.out; omega); have HX4_3 := Lib.hid (blk_below HX4_2.out hb); have HN4_6 := Lib.hid (show g4 ≠ g6 by have := blk_lt HX4_2.out; omega); have HB3 := Lib.hid (below_then HB2.out HB2.out.size hb); clear hg hbox hb; have q30 : w3.cell? ⟨g3, 0, none⟩ = some (.slice B0 a.length d0) := (blk_cell HX3_3.out 0).trans rfl; have q31 : w3.cell? ⟨g3, 1, none⟩ = some (.slice B1 b.length d1) := (blk_cell HX3_3.out 1).trans rfl; have q40 : w3.cell? ⟨g4, 0, none⟩ = some (.int .i64 no) := (blk_cell HX4_3.out 0).trans rfl; have q41 : w3.cell? ⟨g4, 1, none⟩ = some (.slice B3 es.length d3) := (blk_cell HX4_3.out 1).trans rfl; have q42 : w3.cell? ⟨g4, 2, none⟩ = some (.bool gone) := (blk_cell HX4_3.out 2).trans rfl) | (go_at_call 34; refine (leaf_own.calls (a.length + es.length + 10) _ d0 a _ d1 b no _ d3 es gone s (a) (b) (no) (es) (gone) (0) _ (Kd.C_below HR0.out HB3.out) HC0.out (Kd.C_below HR1.out HB3.out) HC1.out (Kd.C_below HR3.out HB3.out) HC3.out HOWN.out).mono ?_; rintro e w4 ⟨v0, v1, v3, rfl, h0, h1, h3, hb⟩; obtain ⟨A0, c0, rfl⟩ := Kd.R_slice h0; obtain ⟨A1, c1, rfl⟩ := Kd.R_slice h1; obtain ⟨A3, c3, rfl⟩ := Kd.R_slice h3; have H0_4 := Lib.hid (Kd.R_lower h0 HB3.out.size); have H1_4 := Lib.hid (Kd.R_lower h1 HB3.out.size); have H3_4 := Lib.hid (Kd.R_lower h3 HB3.out.size); have HX3_4 := Lib.hid (blk_below HX3_3.out hb); have HX4_4 := Lib.hid (blk_below HX4_3.out hb); have HX6_4 := Lib.hid (blk_below HX6_3.out hb); have HB4 := Lib.hid (below_then HB3.out HB3.out.size hb); clear h0 h1 h3 hb q30 q31 q40 q41 q42) | ((with_reducible refine gate_store (t := 26) (p := 3) rfl ?_); refine store_row rfl rfl rfl g3 _ 26 [.slice A0 (a).length c0, .slice A1 (b).length c1] rfl (.agg #[.slice A0 (a).length c0, .slice A1 (b).length c1]) ?haA ?hbA HX3_4.out rfl (by kernel_rfl) (two26 A0 (a).length c0 A1 (b).length c1) ?_; (case haA => rfl); (case hbA => first | rfl | simp [Value.cells]); intro w5 hbox hg hz; have HX3_5 := Lib.hid hbox; have HX4_5 := Lib.hid (blk_grown HX4_4.out hg (fun e_ => HN3_4.out (by injection e_ with e_; exact e_.symm))); have HX6_5 := Lib.hid (blk_grown HX6_4.out hg (fun e_ => HN3_6.out (by injection e_ with e_; exact e_.symm))); have H0_5 := Lib.hid (Kd.R_grown1 H0_4.out rfl hg (Kd.R_ne H0_4.out HX3_4.out (by decide))); have H1_5 := Lib.hid (Kd.R_grown1 H1_4.out rfl hg (Kd.R_ne H1_4.out HX3_4.out (by decide))); have H3_5 := Lib.hid (Kd.R_grown1 H3_4.out rfl hg (Kd.R_ne H3_4.out HX3_4.out (by decide))); have HB5 := Lib.hid (below_own HB4.out hg HG3.out HB4.out.size); clear hbox hg hz) | ((with_reducible refine gate_store (t := 28) (p := 4) rfl ?_); refine store_row rfl rfl rfl g4 _ 28 [.int .i64 (no), .slice A3 (es).length c3, .bool gone] rfl (.agg #[.int .i64 (no), .slice A3 (es).length c3, .bool gone]) ?haB ?hbB HX4_5.out rfl (by kernel_rfl) (three28 (no) A3 (es).length c3 gone) ?_; (case haB => rfl); (case hbB => first | rfl | simp [Value.cells]); intro w6 hbox hg hz; have HS6 := Lib.hid (St.first HB5.out HX3_5.out HX4_5.out HX6_5.out H0_5.out H1_5.out H3_5.out HN3_4.out HN3_6.out HN4_6.out HG3.out HG4.out HG6.out hbox hg); clear hbox hg hz; refine Hold.go ?_))
  clear HX3_1 HX3_2 HX4_2 HX3_3 HX4_3 HX6_3 HX3_4 HX4_4 HX6_4 HX3_5 HX4_5 HX6_5 H0_4 H1_4 H3_4 H0_5 H1_5 H3_5 HB1 HB2 HB3 HB4 HB5 HN3_4 HN3_6 HN4_6 HG3 HG4 HG6 HOWN
  obtain ⟨q30, q31, q40, q41, q42⟩ := HS6.out.cells
  refine Hold.of ?_
  go_wp2_with (first | (go_at_call 35; refine (slices_BinarySearch_string_string.calls ((es).length + 1) A3 c3 (es) s (loS s (es) : Int) (fndS s (es)) _ (Kd.R_reads' HS6.out.r3).2.2 (Kd.R_reads' HS6.out.r3).2.1 HBS.out).mono ?_; rintro e w7 ⟨rfl, hd⟩; have HS7 := Lib.hid (HS6.out.step hd.below); clear hd; refine Hold.go ?_))
  clear q30 q31 q40 q41 q42
  obtain ⟨q30, q31, q40, q41, q42⟩ := HS7.out.cells
  refine Hold.of ?_
  go_wp2_with (first | (go_at_call 45; refine (delS_at (i := loS s es) HS7.out.r3 HS7.out.below hlt (by omega) (by omega)).mono ?_; rintro e w8 ⟨v8, rfl, hv, hb, hg, hn⟩; obtain ⟨A8, c8, rfl⟩ := Kd.R_slice hv; have HS8 := Lib.hid (St.grew3 HS7.out hv hb hg hn); clear hv hb hg hn q30 q31 q40 q41 q42) | ((with_reducible refine gate_store (t := 22) (p := 43) rfl ?_); refine store_cell rfl rfl rfl g4 1 _ 28 rfl (.slice A8 (cutAt (loS s es) es).length c8) ?haD ?hbD HS8.out.x4 (by simp) (by kernel_rfl) rfl ?_; (case haD => rfl); (case hbD => first | rfl | simp [Value.cells]); intro w10 hbox hg hz; have HS10 := Lib.hid (St.put3 HS8.out hbox hg); clear hbox hg hz; refine Hold.go ?_))
  have h4 := H4.out
  clear H4
  unfold cutS at h4
  show Hold _
  generalize hids : cutAt (loS s es) es = ids at *
  have HI := Lib.hid (show cutS s es = ids from hids)
  have hlb : decide ((0 : Int) < (ids.length : Int)) = false := decide_eq_false (by omega)
  have hlc : decide (0 < ids.length) = false := decide_eq_false (by omega)
  have hld : ((b.length : Int) == 1) = true := beq_iff_eq.mpr (by have := H5.out; omega)
  clear h4
  clear HS6 HS7 HS8 HBS HRI hf hlt hids
  obtain ⟨q30, q31, q40, q41, q42⟩ := HS10.out.cells
  have q60 : w10.cell? ⟨g6, 0, none⟩ = some (.slice none 0 0) := (blk_cell HS10.out.x6 0).trans rfl
  have q61 : w10.cell? ⟨g6, 1, none⟩ = some (.slice none 0 0) := (blk_cell HS10.out.x6 1).trans rfl
  have f60 := blk_frozen HS10.out.x6 0
  have f61 := blk_frozen HS10.out.x6 1
  have b3 := blk_lt HS10.out.x3
  have b4 := blk_lt HS10.out.x4
  have b6 := blk_lt HS10.out.x6
  have n36 := HS10.out.n36
  have n46 := HS10.out.n46
  have n63 := n36.symm
  have n64 := n46.symm
  refine Hold.of ?_
  go_upto_region 9 with (fail)
  go_region
  all_goals go_wp2
  obtain ⟨hx, e0, e1, _, hb, _⟩ := HS10.out.out (.slice A0 a.length c0) (.slice A1 b.length c1) (.cells #[.int .i64 no, .slice A8 ids.length c8, .bool gone] 28 (0, 0))
  refine bodyPost_ret (results_list (rs := [.cell 6 26, .tmp 7, .tmp 8]) rfl (by simp) (.cell g6 26 #[.slice A0 a.length c0, .slice A1 b.length c1] (0, 0) _ rfl hx Try.underlying26 rfl (by kernel_rfl) (.tmp (.tmp .nil)))) rfl ?_
  rw [HI.out]
  exact ⟨_, _, _, rfl, e0, e1, St.fin1 HS10.out, hb⟩
attribute [local go_sem] max2_int min2_int max_two min_two
set_option maxHeartbeats 4000000 in
set_option maxRecDepth 100000 in
theorem rem_gone (B0 : Option Addr) (d0 : Nat) (a : List ByteArray) (B1 : Option Addr) (d1 : Nat) (b : List Int) (no : Int) (B3 : Option Addr) (d3 : Nat) (es : List ByteArray) (gone : Bool) (s : ByteArray) (w : World) (H : PreL B0 d0 a B1 d1 b no B3 d3 es gone s w) (hk : okL a b no es gone s = true) (hf : fndS s es = true) (hlt : loS s es < es.length) (h4 : (cutS s es).length = 0) (h5 : ¬ b.length = 1) :
    Calls Try.prog 18 #[.agg #[.slice B0 a.length d0, .slice B1 b.length d1], .agg #[.int .i64 no, .slice B3 es.length d3, .bool gone], .string s] w (InsPost w (cutAt (min (atS s a) (a.length - 1)) a) (cutAt (atS s a) b) [⟨no, [], true⟩] 0) := by
  have HR0 := Lib.hid H.r0
  have HC0 := Lib.hid H.c0
  have HR1 := Lib.hid H.r1
  have HC1 := Lib.hid H.c1
  have HR3 := Lib.hid H.r3
  have HC3 := Lib.hid H.c3
  have hla := H.la
  have hlb := H.lb
  have hle := H.le
  have hu26 := Try.underlying26
  have hu28 := Try.underlying28

  have HOWN := Lib.hid (show leaf_own.f (a.length + es.length + 10) a b no es gone s = some (a, b, no, es, gone, 0) by rw [own_spec a b no es gone s (by omega) (by omega) (by omega) (by omega), hk]; rfl)
  have HRI := Lib.hid ((leafB_iff.1 (okL_iff.1 hk).1).2.2)
  have hl4 := (leafB_iff.1 (okL_iff.1 hk).1).2.1
  have HBS := Lib.hid (show slices_BinarySearch_string_string.f (es.length + 1) es s = some ((loS s es : Int), fndS s es) from search_spec es s HRI.out (by omega) (by omega))
  have HRT := Lib.hid (okL_root hk)
  have HAT := Lib.hid (show leaf_at.f (a.length + 1) a b s = some (atS s a : Int) from at_spec a b s HRT.out.2.2 (by omega) (by omega))
  clear H hk
  have H4 := Lib.hid h4
  clear h4
  have H5 := Lib.hid h5
  clear h5
  go_enter Try.func18, Try.ntmps18
  go_wp2_with (first | ((with_reducible refine gate_dst (N := 3) rfl ?_); refine alloc_event ?hg (N := 3) ?hd (fun g => .pointer (some ⟨g, 0, none⟩)) (.cells #[.slice B0 a.length d0, .slice B1 b.length d1] 26 (0, 0)) ?hr ?_; (case hd => rfl); (case hg => rfl); (case hr => first | (go_simp; done) | (go_simp; rfl)); intro g3 hg w1 hbox hb; have HG3 := Lib.hid (show w.heap.size ≤ g3 by omega); have HX3_1 := Lib.hid hbox; have HB1 := Lib.hid (hb); clear hg hbox hb) | ((with_reducible refine gate_dst (N := 4) rfl ?_); refine alloc_event ?hg (N := 4) ?hd (fun g => .pointer (some ⟨g, 0, none⟩)) (.cells #[.int .i64 no, .slice B3 es.length d3, .bool gone] 28 (0, 0)) ?hr ?_; (case hd => rfl); (case hg => rfl); (case hr => first | (go_simp; done) | (go_simp; rfl)); intro g4 hg w2 hbox hb; have HG4 := Lib.hid (show w.heap.size ≤ g4 by rw [hg]; exact HB1.out.size); have HX4_2 := Lib.hid hbox; have HX3_2 := Lib.hid (blk_below HX3_1.out hb); have HN3_4 := Lib.hid (show g3 ≠ g4 by have := blk_lt HX3_1.out; omega); have HB2 := Lib.hid (below_then HB1.out HB1.out.size hb); clear hg hbox hb) | ((with_reducible refine gate_dst (N := 6) rfl ?_); refine alloc_event ?hg (N := 6) ?hd (fun g => .pointer (some ⟨g, 0, none⟩)) (.cells #[.slice none 0 0, .slice none 0 0] 26 (0, 0)) ?hr ?_; (case hd => rfl); (case hg => rfl); (case hr => first | (go_simp; done) | (go_simp; rfl)); intro g6 hg w3 hbox hb; have HG6 := Lib.hid (show w.heap.size ≤ g6 by rw [hg]; exact HB2.out.size); have HX6_3 := Lib.hid hbox; have HX3_3 := Lib.hid (blk_below HX3_2.out hb); have HN3_6 := Lib.hid (show g3 ≠ g6 by have := blk_lt HX3_2.out; omega); have HX4_3 := Lib.hid (blk_below HX4_2.out hb); have HN4_6 := Lib.hid (show g4 ≠ g6 by have := blk_lt HX4_2.out; omega); have HB3 := Lib.hid (below_then HB2.out HB2.out.size hb); clear hg hbox hb; have q30 : w3.cell? ⟨g3, 0, none⟩ = some (.slice B0 a.length d0) := (blk_cell HX3_3.out 0).trans rfl; have q31 : w3.cell? ⟨g3, 1, none⟩ = some (.slice B1 b.length d1) := (blk_cell HX3_3.out 1).trans rfl; have q40 : w3.cell? ⟨g4, 0, none⟩ = some (.int .i64 no) := (blk_cell HX4_3.out 0).trans rfl; have q41 : w3.cell? ⟨g4, 1, none⟩ = some (.slice B3 es.length d3) := (blk_cell HX4_3.out 1).trans rfl; have q42 : w3.cell? ⟨g4, 2, none⟩ = some (.bool gone) := (blk_cell HX4_3.out 2).trans rfl) | (go_at_call 34; refine (leaf_own.calls (a.length + es.length + 10) _ d0 a _ d1 b no _ d3 es gone s (a) (b) (no) (es) (gone) (0) _ (Kd.C_below HR0.out HB3.out) HC0.out (Kd.C_below HR1.out HB3.out) HC1.out (Kd.C_below HR3.out HB3.out) HC3.out HOWN.out).mono ?_; rintro e w4 ⟨v0, v1, v3, rfl, h0, h1, h3, hb⟩; obtain ⟨A0, c0, rfl⟩ := Kd.R_slice h0; obtain ⟨A1, c1, rfl⟩ := Kd.R_slice h1; obtain ⟨A3, c3, rfl⟩ := Kd.R_slice h3; have H0_4 := Lib.hid (Kd.R_lower h0 HB3.out.size); have H1_4 := Lib.hid (Kd.R_lower h1 HB3.out.size); have H3_4 := Lib.hid (Kd.R_lower h3 HB3.out.size); have HX3_4 := Lib.hid (blk_below HX3_3.out hb); have HX4_4 := Lib.hid (blk_below HX4_3.out hb); have HX6_4 := Lib.hid (blk_below HX6_3.out hb); have HB4 := Lib.hid (below_then HB3.out HB3.out.size hb); clear h0 h1 h3 hb q30 q31 q40 q41 q42) | ((with_reducible refine gate_store (t := 26) (p := 3) rfl ?_); refine store_row rfl rfl rfl g3 _ 26 [.slice A0 (a).length c0, .slice A1 (b).length c1] rfl (.agg #[.slice A0 (a).length c0, .slice A1 (b).length c1]) ?haA ?hbA HX3_4.out rfl (by kernel_rfl) (two26 A0 (a).length c0 A1 (b).length c1) ?_; (case haA => rfl); (case hbA => first | rfl | simp [Value.cells]); intro w5 hbox hg hz; have HX3_5 := Lib.hid hbox; have HX4_5 := Lib.hid (blk_grown HX4_4.out hg (fun e_ => HN3_4.out (by injection e_ with e_; exact e_.symm))); have HX6_5 := Lib.hid (blk_grown HX6_4.out hg (fun e_ => HN3_6.out (by injection e_ with e_; exact e_.symm))); have H0_5 := Lib.hid (Kd.R_grown1 H0_4.out rfl hg (Kd.R_ne H0_4.out HX3_4.out (by decide))); have H1_5 := Lib.hid (Kd.R_grown1 H1_4.out rfl hg (Kd.R_ne H1_4.out HX3_4.out (by decide))); have H3_5 := Lib.hid (Kd.R_grown1 H3_4.out rfl hg (Kd.R_ne H3_4.out HX3_4.out (by decide))); have HB5 := Lib.hid (below_own HB4.out hg HG3.out HB4.out.size); clear hbox hg hz) | ((with_reducible refine gate_store (t := 28) (p := 4) rfl ?_); refine store_row rfl rfl rfl g4 _ 28 [.int .i64 (no), .slice A3 (es).length c3, .bool gone] rfl (.agg #[.int .i64 (no), .slice A3 (es).length c3, .bool gone]) ?haB ?hbB HX4_5.out rfl (by kernel_rfl) (three28 (no) A3 (es).length c3 gone) ?_; (case haB => rfl); (case hbB => first | rfl | simp [Value.cells]); intro w6 hbox hg hz; have HS6 := Lib.hid (St.first HB5.out HX3_5.out HX4_5.out HX6_5.out H0_5.out H1_5.out H3_5.out HN3_4.out HN3_6.out HN4_6.out HG3.out HG4.out HG6.out hbox hg); clear hbox hg hz; refine Hold.go ?_))
  clear HX3_1 HX3_2 HX4_2 HX3_3 HX4_3 HX6_3 HX3_4 HX4_4 HX6_4 HX3_5 HX4_5 HX6_5 H0_4 H1_4 H3_4 H0_5 H1_5 H3_5 HB1 HB2 HB3 HB4 HB5 HN3_4 HN3_6 HN4_6 HG3 HG4 HG6 HOWN
  obtain ⟨q30, q31, q40, q41, q42⟩ := HS6.out.cells
  refine Hold.of ?_
  go_wp2_with (first | (go_at_call 35; refine (slices_BinarySearch_string_string.calls ((es).length + 1) A3 c3 (es) s (loS s (es) : Int) (fndS s (es)) _ (Kd.R_reads' HS6.out.r3).2.2 (Kd.R_reads' HS6.out.r3).2.1 HBS.out).mono ?_; rintro e w7 ⟨rfl, hd⟩; have HS7 := Lib.hid (HS6.out.step hd.below); clear hd; refine Hold.go ?_))
  clear q30 q31 q40 q41 q42
  obtain ⟨q30, q31, q40, q41, q42⟩ := HS7.out.cells
  refine Hold.of ?_
  go_wp2_with (first | (go_at_call 45; refine (delS_at (i := loS s es) HS7.out.r3 HS7.out.below hlt (by omega) (by omega)).mono ?_; rintro e w8 ⟨v8, rfl, hv, hb, hg, hn⟩; obtain ⟨A8, c8, rfl⟩ := Kd.R_slice hv; have HS8 := Lib.hid (St.grew3 HS7.out hv hb hg hn); clear hv hb hg hn q30 q31 q40 q41 q42) | ((with_reducible refine gate_store (t := 22) (p := 43) rfl ?_); refine store_cell rfl rfl rfl g4 1 _ 28 rfl (.slice A8 (cutAt (loS s es) es).length c8) ?haD ?hbD HS8.out.x4 (by simp) (by kernel_rfl) rfl ?_; (case haD => rfl); (case hbD => first | rfl | simp [Value.cells]); intro w10 hbox hg hz; have HS10 := Lib.hid (St.put3 HS8.out hbox hg); clear hbox hg hz; refine Hold.go ?_))
  have h4 := H4.out
  clear H4
  unfold cutS at h4
  show Hold _
  generalize hids : cutAt (loS s es) es = ids at *
  have HI := Lib.hid (show cutS s es = ids from hids)
  have hlb : decide ((0 : Int) < (ids.length : Int)) = false := decide_eq_false (by omega)
  have hlc : decide (0 < ids.length) = false := decide_eq_false (by omega)
  have hld : ((b.length : Int) == 1) = false := beq_eq_false_iff_ne.mpr (by have := H5.out; omega)
  have HKB := Lib.hid (show atS s a < b.length by have h1 := HRT.out.2.1; have h2 := atS_le s a; omega)
  have HKA := Lib.hid (show min (atS s a) (a.length - 1) < a.length by have h1 := HRT.out.2.1; have h2 := H5.out; omega)
  have hat1 := atS_le s a
  have hat2 : 1 ≤ a.length := by have h1 := HRT.out.2.1; have h2 := H5.out; omega
  clear h4 HS6 HS7 HS8 HBS HRI hf hlt hids HRT H5
  obtain ⟨q30, q31, q40, q41, q42⟩ := HS10.out.cells
  refine Hold.of ?_
  go_wp2_with (first | (go_at_call 38; refine (leaf_at.calls (a.length + 1) A0 c0 a A1 c1 b s (atS s a : Int) _ (Kd.R_reads' HS10.out.r0).2.2 (Kd.R_reads' HS10.out.r0).2.1 (Kd.R_reads' HS10.out.r1).2.2 (Kd.R_reads' HS10.out.r1).2.1 HAT.out).mono ?_; rintro e w11 ⟨rfl, hb⟩; have HS11 := Lib.hid (HS10.out.step hb); clear hb; clear q30 q31 q40 q41 q42; obtain ⟨q30, q31, q40, q41, q42⟩ := HS11.out.cells) | (go_at_call 46; refine (delI_at (i := atS s a) HS11.out.r1 HS11.out.below HKB.out (by omega) (by omega)).mono ?_; rintro e w12 ⟨v12, rfl, hv, hb, hg, hn⟩; obtain ⟨A12, c12, rfl⟩ := Kd.R_slice hv; have HS12 := Lib.hid (St.grew1 HS11.out hv hb hg); clear hv hb hg hn q30 q31 q40 q41 q42) | ((with_reducible refine gate_store (t := 24) (p := 66) rfl ?_); refine store_cell rfl rfl rfl g3 1 _ 26 rfl (.slice A12 (cutAt (atS s a) b).length c12) ?haE ?hbE HS12.out.x3 (by simp) (by kernel_rfl) rfl ?_; (case haE => rfl); (case hbE => first | rfl | simp [Value.cells]); intro w13 hbox hg hz; have HS13 := Lib.hid (St.put1 HS12.out hbox hg); clear hbox hg hz; obtain ⟨q30, q31, q40, q41, q42⟩ := HS13.out.cells) | (go_at_call 45; refine (delS_at (i := min (atS s a) (a.length - 1)) HS13.out.r0 HS13.out.below HKA.out (by omega) (by omega)).mono ?_; rintro e w14 ⟨v14, rfl, hv, hb, hg, hn⟩; obtain ⟨A14, c14, rfl⟩ := Kd.R_slice hv; have HS14 := Lib.hid (St.grew0 HS13.out hv hb hg hn); clear hv hb hg hn q30 q31 q40 q41 q42) | ((with_reducible refine gate_store (t := 22) (p := 79) rfl ?_); refine store_cell rfl rfl rfl g3 0 _ 26 rfl (.slice A14 (cutAt (min (atS s a) (a.length - 1)) a).length c14) ?haF ?hbF HS14.out.x3 (by simp) (by kernel_rfl) rfl ?_; (case haF => rfl); (case hbF => first | rfl | simp [Value.cells]); intro w15 hbox hg hz; have HS15 := Lib.hid (St.put0 HS14.out hbox hg); clear hbox hg hz; refine Hold.go ?_))
  all_goals (
    refine Hold.of ?_
    obtain ⟨q30, q31, q40, q41, q42⟩ := HS15.out.cells
    have q60 : w15.cell? ⟨g6, 0, none⟩ = some (.slice none 0 0) := (blk_cell HS15.out.x6 0).trans rfl
    have q61 : w15.cell? ⟨g6, 1, none⟩ = some (.slice none 0 0) := (blk_cell HS15.out.x6 1).trans rfl
    have f60 := blk_frozen HS15.out.x6 0
    have f61 := blk_frozen HS15.out.x6 1
    have b3 := blk_lt HS15.out.x3
    have b4 := blk_lt HS15.out.x4
    have b6 := blk_lt HS15.out.x6
    have n36 := HS15.out.n36
    have n46 := HS15.out.n46
    have n63 := n36.symm
    have n64 := n46.symm
    clear HS10 HS11 HS12 HS13 HS14
    go_upto_region 14 with (fail)
    go_region
    all_goals go_wp2
    obtain ⟨hx, e0, e1, _, hb, _⟩ := HS15.out.out (.slice A14 (cutAt (min (atS s a) (a.length - 1)) a).length c14) (.slice A12 (cutAt (atS s a) b).length c12) (.cells #[.int .i64 no, .slice none 0 0, .bool true] 28 (0, 0))
    refine bodyPost_ret (results_list (rs := [.cell 6 26, .tmp 7, .tmp 8]) rfl (by simp) (.cell g6 26 #[.slice A14 (cutAt (min (atS s a) (a.length - 1)) a).length c14, .slice A12 (cutAt (atS s a) b).length c12] (0, 0) _ rfl hx Try.underlying26 rfl (by kernel_rfl) (.tmp (.tmp .nil)))) rfl ?_
    exact ⟨_, _, _, rfl, e0, e1, St.fin0 HS15.out, hb⟩)
theorem fnd_lt {s : ByteArray} {es : List ByteArray} (h : fndS s es = true) : loS s es < es.length := by
  rcases Nat.lt_or_ge (loS s es) es.length with h1 | h1
  · exact h1
  · unfold fndS at h
    rw [List.drop_eq_nil_of_le h1] at h
    cases h
def leaf_Remove.f (a : List ByteArray) (b : List Int) (no : Int) (es : List ByteArray) (gone : Bool) (s : ByteArray) : Option (List ByteArray × List Int × List S28 × Int) :=
  if a.length ≤ 100000 ∧ b.length ≤ 100000 ∧ es.length ≤ 100000 then
    if okL a b no es gone s = false then some ([], [], [], 100)
    else if fndS s es = false then some ([], [], [], 101)
    else if 0 < (cutS s es).length then some (a, b, [⟨no, cutS s es, gone⟩], 0)
    else if b.length = 1 then some (a, b, [⟨no, cutS s es, gone⟩], 0)
    else some (cutAt (min (atS s a) (a.length - 1)) a, cutAt (atS s a) b, [⟨no, [], true⟩], 0)
  else none
theorem leaf_Remove.calls (A0_0 : Option Addr) (c0_0 : Nat) (l0_0 : List ByteArray) (A0_1 : Option Addr) (c0_1 : Nat) (l0_1 : List Int) (a1_0 : Int) (A1_1 : Option Addr) (c1_1 : Nat) (l1_1 : List ByteArray) (a1_2 : Bool) (a2 : ByteArray) (r1 : List ByteArray) (r2 : List Int) (r3 : List S28) (r4 : Int) (w : World) (hr0_0 : Kd.C Kd.string w A0_0 l0_0.length l0_0) (hc0_0 : l0_0.length ≤ c0_0) (hr0_1 : Kd.C (Kd.int .i64) w A0_1 l0_1.length l0_1) (hc0_1 : l0_1.length ≤ c0_1) (hr1_1 : Kd.C Kd.string w A1_1 l1_1.length l1_1) (hc1_1 : l1_1.length ≤ c1_1) (h : leaf_Remove.f l0_0 l0_1 a1_0 l1_1 a1_2 a2 = some (r1, r2, r3, r4)) :
    Calls Try.prog 18 #[.agg #[.slice A0_0 l0_0.length c0_0, .slice A0_1 l0_1.length c0_1], .agg #[.int .i64 a1_0, .slice A1_1 l1_1.length c1_1, .bool a1_2], .string a2] w fun e w' => ∃ v0_ v1_ v2_ : Value, e = .returned (.tuple #[.agg #[v0_, v1_], v2_, .int .i64 r4]) ∧ Kd.R Kd.string 9 w' w.heap.size (fun _ => True) v0_ r1 ∧ Kd.R (Kd.int .i64) 3 w' w.heap.size (fun _ => True) v1_ r2 ∧ Kd.N k28 28 w' w.heap.size (fun k_ => w.heap.size ≤ k_ ∧ some k_ ≠ v0_.ownBlock ∧ some k_ ≠ v1_.ownBlock) v2_ r3 ∧ Below w.heap.size w w' := by
  show Calls Try.prog 18 _ w (InsPost w r1 r2 r3 r4)
  unfold leaf_Remove.f at h
  split at h
  case isFalse => cases h
  rename_i hlim
  have HP : PreL A0_0 c0_0 l0_0 A0_1 c0_1 l0_1 a1_0 A1_1 c1_1 l1_1 a1_2 a2 w := ⟨hr0_0, hc0_0, hr0_1, hc0_1, hr1_1, hc1_1, hlim.1, hlim.2.1, hlim.2.2⟩
  split at h
  · rename_i h1
    cases h
    exact rem_wrong _ _ _ _ _ _ _ _ _ _ _ _ _ HP h1
  rename_i h1
  have h1' : okL l0_0 l0_1 a1_0 l1_1 a1_2 a2 = true := by simpa using h1
  split at h
  · rename_i h2
    cases h
    exact rem_none _ _ _ _ _ _ _ _ _ _ _ _ _ HP h1' h2
  rename_i h2
  have h2' : fndS a2 l1_1 = true := by simpa using h2
  have h3 := fnd_lt h2'
  split at h
  · rename_i h4
    cases h
    exact rem_some _ _ _ _ _ _ _ _ _ _ _ _ _ HP h1' h2' h3 h4
  rename_i h4
  split at h
  · rename_i h5
    cases h
    exact rem_last _ _ _ _ _ _ _ _ _ _ _ _ _ HP h1' h2' h3 (by omega) h5
  · rename_i h5
    cases h
    exact rem_gone _ _ _ _ _ _ _ _ _ _ _ _ _ HP h1' h2' h3 (by omega) h5
end Go.Proofs.Ytneagipmllgejaa.PL
end
section
set_option linter.unusedVariables false
set_option linter.unusedSimpArgs false
namespace Go.Proofs.Ytneagipmllgejaa.PL
open Go.RowKit Go.Proofs.YtneagipmllgejaaW.PrintWords Go.Proofs.YtneagipmllgejaaW.PrintLast Go.Proofs.YtneagipmllgejaaW.PrintMore Go.Proofs.YtneagipmllgejaaH
section
variable {P : ByteArray → Prop}
theorem drop_lo {l : List ByteArray} {k : Nat} (h : k < l.length) : l.drop k = rdOf ByteArray.empty l (k : Int) :: l.drop (k + 1) := drop_str h
theorem fnd_at {s : ByteArray} {l : List ByteArray} (h : fndS s l = true) : rdOf ByteArray.empty l (loS s l : Int) = s := by
  have h1 := fnd_lt h
  unfold fndS at h
  rw [drop_lo h1] at h
  exact text_eq (of_decide_eq_true h)
theorem fnd_mem {s : ByteArray} {l : List ByteArray} (hr : riseB l = true) (h : s ∈ l) : fndS s l = true := by
  obtain ⟨j, hj, e⟩ := List.getElem_of_mem h
  have ej : rdOf ByteArray.empty l (j : Int) = s := by rw [← e]; simp [rdOf, List.getD_eq_getElem?_getD, List.getElem?_eq_getElem hj]
  have hlo : j = loS s l := AtP.eq ⟨by omega, fun m hm => by rw [← ej]; exact rise_rs hr hm hj, fun m h1 h2 => by
    rcases Nat.eq_or_lt_of_le h1 with h3 | h3
    · subst h3; rw [ej]; exact less_irrefl _
    · rw [← ej]; exact less_asymm (rise_rs hr h3 h2)⟩
  unfold fndS
  rw [← hlo, drop_lo hj, ej]
  exact decide_eq_true rfl
end
end Go.Proofs.Ytneagipmllgejaa.PL
end
section
namespace Go.Proofs.Ytneagipmllgejaa.PL
open Go.RowKit Go.Proofs.YtneagipmllgejaaW.PrintWords Go.Proofs.YtneagipmllgejaaW.PrintLast Go.Proofs.YtneagipmllgejaaW.PrintMore
attribute [local go_sem] max2_int min2_int max_two min_two max_three min_three max_four min_four   -- for this text's walks alone
set_option linter.unusedVariables false
set_option linter.unusedSimpArgs false
def cobwebref11_has.l0 : Nat → List ByteArray → ByteArray → Int → Option (Int)
 | 0, _, _, _ => none
 | k + 1, x0, x1, x5 => if x5 < (x0.length : Int) then (if 0 ≤ x5 then (if (rdOf ByteArray.empty x0 x5).toList = x1.toList then (some x5) else (cobwebref11_has.l0 k x0 x1 (wrap64 (x5 + 1)))) else (none)) else (some (-1))
def cobwebref11_has.f (k : Nat) (l0 : List ByteArray) (a1 : ByteArray) : Option (Int) := cobwebref11_has.l0 k l0 a1 0
theorem cobwebref11_has.mono_l : ∀ k, (∀ y0 y1 y2, LeO (cobwebref11_has.l0 k y0 y1 y2) (cobwebref11_has.l0 (k + 1) y0 y1 y2))
 | 0 => fun _ _ _ r h => by simp [cobwebref11_has.l0] at h
 | k + 1 => by
  have ih0 := cobwebref11_has.mono_l k
  ·intro y0 y1 y2
   unfold cobwebref11_has.l0
   repeat' first
   | (with_reducible exact ih0 _ _ _)
   | (with_reducible exact LeO.refl _)
   | (with_reducible exact LeO.none _)
   | (with_reducible refine LeO.ite ?_ ?_)
   | (with_reducible refine LeO.bind ?_ (fun _ => ?_))
   | exact ih0 _ _ _
   | exact LeO.none _
   | refine LeO.ite ?_ ?_
   | refine LeO.bind ?_ (fun _ => ?_)
theorem cobwebref11_has.mono : ∀ a0 a1 k, LeO (cobwebref11_has.f k a0 a1) (cobwebref11_has.f (k + 1) a0 a1) := by
 intro a0 a1 k
 have ih0 := cobwebref11_has.mono_l k
 unfold cobwebref11_has.f
 repeat' first
   | (with_reducible exact ih0 _ _ _)
   | (with_reducible exact LeO.refl _)
   | (with_reducible exact LeO.none _)
   | (with_reducible refine LeO.ite ?_ ?_)
   | (with_reducible refine LeO.bind ?_ (fun _ => ?_))
   | exact ih0 _ _ _
   | exact LeO.none _
   | refine LeO.ite ?_ ?_
   | refine LeO.bind ?_ (fun _ => ?_)
set_option maxHeartbeats 8000000 in
set_option maxRecDepth 100000 in
theorem cobwebref11_has.calls (k : Nat) (A0 : Option Addr) (c0 : Nat) (l0 : List ByteArray) (a1 : ByteArray) (r : Int) (w : World) (hr0 : Kd.C Kd.string w A0 l0.length l0) (hc0 : l0.length ≤ c0) (h : cobwebref11_has.f k l0 a1 = some r) :
  Calls Try.prog 49 #[.slice A0 l0.length c0, .string a1] w fun e w' => e = .returned (.int .i64 r) ∧ Drawn0 w w' := by
 have HR0 := Aside0.mk hr0
 have HC0 := Aside0.mk hc0
 clear hr0 hc0
 have H : (cobwebref11_has.l0 k l0 a1 0) = some r := h
 clear h
 have H' := Aside0.mk H
 clear H
 go_enter Try.func49, Try.ntmps49
 go_wp2
 go_loopg [5] k (fun kq v5 w' => ∃ (x5_1 : Int), v5 = .int .i64 x5_1 ∧ Aside0 (cobwebref11_has.l0 kq l0 a1 x5_1 = some r) ∧ Aside0 (kq ≤ k) ∧ Drawn0 w w')
 case atStart => exact ⟨(0), (by first | rfl | (simp; done) | (simp [*]; done)), H', ⟨Nat.le_refl _⟩, by repeat (first | exact Drawn0.refl _ | apply Drawn0.step)⟩
 case round =>
  clear H'
  try clear p2
  obtain ⟨x5_1, rfl, HA, HK1, ⟨m1, rfl⟩⟩ := hrel
  cases gk with
  | zero => exact absurd HA.out (by simp [cobwebref11_has.l0])
  | succ k1 =>
   have H := HA.out
   clear HA
   simp only [cobwebref11_has.l0] at H
   by_cases c3 : x5_1 < (l0.length : Int)
   ·rw [if_pos c3] at H
    have c3b0 : decide (x5_1 < (l0.length : Int)) = true := decide_eq_true c3
    clear c3
    by_cases c4 : 0 ≤ x5_1
    ·rw [if_pos c4] at H
     have c4b0 : decide (0 ≤ x5_1) = true := decide_eq_true c4
     clear c4
     by_cases c5 : (rdOf ByteArray.empty l0 x5_1).toList = a1.toList
     ·rw [if_pos c5] at H
      have c5b0 : ((rdOf ByteArray.empty l0 x5_1).toList == a1.toList) = true := beq_iff_eq.mpr c5
      have c5b1 : ((rdOf ByteArray.empty l0 x5_1).toList != a1.toList) = false := bne_eq_false_iff_eq.mpr c5
      clear c5
      obtain rfl := Option.some.inj H
      have p282 : 0 ≤ (x5_1 : Int) := of_decide_eq_true (by first | (with_reducible assumption) | assumption)
      have q282 : x5_1 < (l0.length : Int) := of_decide_eq_true (by first | (with_reducible assumption) | assumption)
      obtain ⟨ad282, e282, hx282_0⟩ := Kd.at_string HR0.out x5_1 p282 q282
      cases e282
      replace p282 := eq_true p282
      replace q282 := eq_true q282
      go_wp2
      go_ret
      exact ⟨by first | rfl | (simp; done) | (simp [*]; done), by repeat (first | exact Drawn0.refl _ | apply Drawn0.step)⟩
     ·rw [if_neg c5] at H
      have c5b0 : ((rdOf ByteArray.empty l0 x5_1).toList == a1.toList) = false := beq_eq_false_iff_ne.mpr c5
      have c5b1 : ((rdOf ByteArray.empty l0 x5_1).toList != a1.toList) = true := bne_iff_ne.mpr c5
      have H' := Aside0.mk H
      clear H
      have p282 : 0 ≤ (x5_1 : Int) := of_decide_eq_true (by first | (with_reducible assumption) | assumption)
      have q282 : x5_1 < (l0.length : Int) := of_decide_eq_true (by first | (with_reducible assumption) | assumption)
      obtain ⟨ad282, e282, hx282_0⟩ := Kd.at_string HR0.out x5_1 p282 q282
      cases e282
      replace p282 := eq_true p282
      replace q282 := eq_true q282
      go_wp2
      go_roundg k1
      case measure => have := HK1.out; omega
      case rel => exact ⟨(wrap64 (x5_1 + 1)), (by first | rfl | (simp; done) | (simp [*]; done)), H', ⟨by have := HK1.out; omega⟩, by repeat (first | exact Drawn0.refl _ | apply Drawn0.step)⟩
    ·rw [if_neg c4] at H
     exact absurd H (by simp)
   ·rw [if_neg c3] at H
    have c3b0 : decide (x5_1 < (l0.length : Int)) = false := decide_eq_false c3
    clear c3
    obtain rfl := Option.some.inj H
    go_wp2
    go_ret
    exact ⟨by first | rfl | (simp; done) | (simp [*]; done), by repeat (first | exact Drawn0.refl _ | apply Drawn0.step)⟩
end Go.Proofs.Ytneagipmllgejaa.PL
end
section
set_option linter.unusedVariables false
set_option linter.unusedSimpArgs false
namespace Go.Proofs.Ytneagipmllgejaa.PL
open Go.RowKit Go.Proofs.YtneagipmllgejaaW.PrintWords Go.Proofs.YtneagipmllgejaaW.PrintLast
theorem has_from (l : List ByteArray) (s : ByteArray) (hl : l.length ≤ 1000) : ∀ (d k i : Nat), i + d = l.length → d < k → ∃ r, cobwebref11_has.l0 k l s (i : Int) = some r ∧ ((r = -1 ∧ s ∉ l.drop i) ∨ (∃ j : Nat, r = (j : Int) ∧ i ≤ j ∧ j < l.length ∧ rdOf ByteArray.empty l (j : Int) = s)) := by
  intro d
  induction d with
  | zero =>
    intro k i hi hk
    obtain ⟨k, rfl⟩ : ∃ q, k = q + 1 := ⟨k - 1, by omega⟩
    refine ⟨-1, ?_, .inl ⟨rfl, ?_⟩⟩
    · simp only [cobwebref11_has.l0]
      rw [if_neg (by omega)]
    · rw [List.drop_eq_nil_of_le (by omega)]
      simp
  | succ d ih =>
    intro k i hi hk
    obtain ⟨k, rfl⟩ : ∃ q, k = q + 1 := ⟨k - 1, by omega⟩
    by_cases h : (rdOf ByteArray.empty l (i : Int)).toList = s.toList
    · refine ⟨(i : Int), ?_, .inr ⟨i, rfl, Nat.le_refl _, by omega, text_eq h⟩⟩
      simp only [cobwebref11_has.l0]
      rw [if_pos (by omega), if_pos (by omega), if_pos h]
    · obtain ⟨r, hr, hc⟩ := ih k (i + 1) (by omega) (by omega)
      refine ⟨r, ?_, ?_⟩
      · simp only [cobwebref11_has.l0]
        rw [if_pos (by omega), if_pos (by omega), if_neg h, w64 (x := (i : Int) + 1) (by omega) (by omega), show (i : Int) + 1 = ((i + 1 : Nat) : Int) by omega, hr]
      · rcases hc with ⟨e, hn⟩ | ⟨j, e, h1, h2, h3⟩
        · left
          refine ⟨e, ?_⟩
          rw [drop_str (show i < l.length by omega)]
          intro hm
          rcases List.mem_cons.1 hm with h4 | h4
          · exact h (by rw [← h4])
          · exact hn h4
        · exact .inr ⟨j, e, by omega, h2, h3⟩
/-- Where an entry is, and that it isn't there. -/
theorem ref_has (l : List ByteArray) (s : ByteArray) (hl : l.length ≤ 1000) (hr : riseB l = true) {k : Nat} (hk : l.length < k) : cobwebref11_has.f k l s = some (if fndS s l = true then (loS s l : Int) else -1) := by
  obtain ⟨r, h, hc⟩ := has_from l s hl l.length k 0 (by omega) hk
  unfold cobwebref11_has.f
  rw [show ((0 : Nat) : Int) = 0 from rfl] at h
  rw [h]
  congr 1
  rcases hc with ⟨e, hn⟩ | ⟨j, e, _, hj, hs⟩
  · rw [if_neg ?_, e]
    intro hf
    apply hn
    rw [List.drop_zero]
    have h2 := fnd_at hf
    have h3 : loS s l < l.length := by
      rcases Nat.lt_or_ge (loS s l) l.length with h4 | h4
      · exact h4
      · unfold fndS at hf
        rw [List.drop_eq_nil_of_le h4] at hf
        cases hf
    rw [← h2]
    exact mem_str h3
  · have hm : s ∈ l := by rw [← hs]; exact mem_str hj
    have hf := fnd_mem hr hm
    rw [if_pos hf, e]
    have h2 := fnd_at hf
    have h3 : loS s l < l.length := by
      rcases Nat.lt_or_ge (loS s l) l.length with h4 | h4
      · exact h4
      · unfold fndS at hf
        rw [List.drop_eq_nil_of_le h4] at hf
        cases hf
    rcases Nat.lt_trichotomy j (loS s l) with h4 | h4 | h4
    · have := rise_rs hr h4 h3
      rw [h2, hs, less_irrefl] at this
      cases this
    · rw [h4]
    · have := rise_rs hr h4 hj
      rw [h2, hs, less_irrefl] at this
      cases this
theorem cmp_lo {l : List ByteArray} {s : ByteArray} (hr : riseB l = true) {i : Nat} (hi : i < l.length) : (i < loS s l ∧ ordB (rdOf ByteArray.empty l (i : Int)) s < 0) ∨ (i = loS s l ∧ fndS s l = true ∧ ordB (rdOf ByteArray.empty l (i : Int)) s = 0) ∨ (loS s l ≤ i ∧ (fndS s l = true → loS s l < i) ∧ 0 < ordB (rdOf ByteArray.empty l (i : Int)) s) := by
  have h1 := lo_iff hr (s := s) hi
  have h2 := at_iff hr (s := s) hi
  by_cases h : i < loS s l
  · exact .inl ⟨h, ord_lt.2 (h1.2 h)⟩
  · have h3 : ¬ ordB (rdOf ByteArray.empty l (i : Int)) s < 0 := fun h4 => h (h1.1 (ord_lt.1 h4))
    by_cases h4 : lessB s (rdOf ByteArray.empty l (i : Int)) = true
    · have h5 := h2.1 h4
      have h6 : 0 < ordB (rdOf ByteArray.empty l (i : Int)) s := by
        rcases Int.lt_or_le 0 (ordB (rdOf ByteArray.empty l (i : Int)) s) with h7 | h7
        · exact h7
        · rw [ord_le.1 h7] at h4; cases h4
      unfold atS at h5
      refine .inr (.inr ⟨by omega, fun hf => ?_, h6⟩)
      rw [if_pos hf] at h5
      omega
    · have h5 : lessB s (rdOf ByteArray.empty l (i : Int)) = false := by simpa using h4
      have h6 := ord_le.2 h5
      have h7 : ¬ atS s l ≤ i := fun h8 => h4 (h2.2 h8)
      unfold atS at h7
      by_cases hf : fndS s l = true
      · rw [if_pos hf] at h7
        exact .inr (.inl ⟨by omega, hf, by omega⟩)
      · rw [if_neg hf] at h7
        omega
/-- What the first free number is. -/
theorem fresh_le (l : List Int) : ∀ (f : Nat) (n m : Int), freshI l f n = some m → n ≤ m ∧ m < n + f ∧ (∀ x, n ≤ x → x < m → l.contains x = true) ∧ l.contains m = false
  | 0, n, m, h => by simp [freshI] at h
  | f + 1, n, m, h => by
    simp only [freshI] at h
    cases hc : l.contains n with
    | true =>
      rw [hc, if_pos rfl] at h
      obtain ⟨h1, h2, h3, h4⟩ := fresh_le l f (n + 1) m h
      refine ⟨by omega, by omega, fun x hx hm => ?_, h4⟩
      by_cases e : x = n
      · rw [e]; exact hc
      · exact h3 x (by omega) hm
    | false =>
      rw [hc, if_neg (by decide)] at h
      obtain rfl := Option.some.inj h
      exact ⟨Int.le_refl _, by omega, fun x h1 h2 => by omega, hc⟩
/-- The double loop that looks for the first free number. -/
def FreshO (b : List Int) (m : Int) (i : Nat) (n : Int) : Prop := 1 ≤ n ∧ n ≤ m ∧ (n = m ∨ (i : Int) + 1 ≤ n)
def FreshN (b : List Int) (n : Int) (k : Nat) (q : Int) : Prop := n ≤ q ∧ (n < q ∨ (b.take k).contains n = false)
theorem fresh_begin (b : List Int) (m : Int) (h : freshI b (b.length + 1) 1 = some m) : FreshO b m 0 1 := by
  obtain ⟨h1, _⟩ := fresh_le b _ _ _ h
  exact ⟨Int.le_refl _, h1, .inr (by omega)⟩
theorem fresh_end {b : List Int} {m n : Int} (h : freshI b (b.length + 1) 1 = some m) (hn : FreshO b m b.length n) : n = m := by
  obtain ⟨_, h2, _⟩ := fresh_le b _ _ _ h
  obtain ⟨_, h4, h5⟩ := hn
  omega
theorem fresh_in {b : List Int} {n : Int} : FreshN b n 0 n := ⟨Int.le_refl _, .inr (by simp)⟩
theorem fresh_hit {b : List Int} {m n q : Int} {k : Nat} (h : freshI b (b.length + 1) 1 = some m) (hq : q ≤ m) (hn : FreshN b n k q) (hk : k < b.length) (e : rd b (k : Int) = q) : q + 1 ≤ m ∧ FreshN b n (k + 1) (q + 1) := by
  obtain ⟨_, _, _, h4⟩ := fresh_le b _ _ _ h
  have h5 : q ≠ m := fun e2 => by
    have h6 : m ∈ b := by rw [← e2, ← e]; exact mem_int hk
    rw [List.contains_iff_mem.2 h6] at h4
    cases h4
  exact ⟨by omega, by have := hn.1; omega, .inl (by have := hn.1; omega)⟩
theorem fresh_miss {b : List Int} {n q : Int} {k : Nat} (hn : FreshN b n k q) (hk : k < b.length) (e : rd b (k : Int) ≠ q) : FreshN b n (k + 1) q := by
  refine ⟨hn.1, ?_⟩
  rcases hn.2 with h | h
  · exact .inl h
  · by_cases h2 : n < q
    · exact .inl h2
    · have h3 : n = q := by have := hn.1; omega
      right
      rw [List.take_succ_eq_append_getElem hk]
      have e3 : b[k] ≠ n := by rw [← rd_getElem hk, h3]; exact e
      have h4 : n ∉ b.take k := fun hm => by rw [List.contains_iff_mem.2 hm] at h; cases h
      cases hc : (b.take k ++ [b[k]]).contains n with
      | false => rfl
      | true =>
        rcases List.mem_append.1 (List.contains_iff_mem.1 hc) with h5 | h5
        · exact absurd h5 h4
        · exact absurd (List.mem_singleton.1 h5).symm e3
theorem fresh_out {b : List Int} {m n q : Int} {i : Nat} (h : freshI b (b.length + 1) 1 = some m) (ho : FreshO b m i n) (hq : q ≤ m) (hn : FreshN b n b.length q) : FreshO b m (i + 1) q := by
  obtain ⟨_, _, h3, _⟩ := fresh_le b _ _ _ h
  obtain ⟨o1, o2, o3⟩ := ho
  refine ⟨by have := hn.1; omega, hq, ?_⟩
  by_cases e : n = m
  · left; have := hn.1; omega
  · right
    have h5 := h3 n o1 (by omega)
    rcases hn.2 with h6 | h6
    · omega
    · rw [List.take_length] at h6
      rw [h6] at h5
      cases h5
theorem ok_root {a : List ByteArray} {b : List Int} {no : Int} {es : List ByteArray} {gone : Bool} {s : ByteArray} (h : rootB a b = false) : okL a b no es gone s = false := by
  cases hk : okL a b no es gone s with
  | false => rfl
  | true =>
    obtain ⟨_, h2, h3⟩ := okL_iff.1 hk
    unfold findB at h2
    rw [h, if_neg (by decide)] at h2
    exact absurd h2.symm h3
theorem ok_leaf {a : List ByteArray} {b : List Int} {no : Int} {es : List ByteArray} {gone : Bool} {s : ByteArray} (h : leafB es gone = false) : okL a b no es gone s = false := by
  cases hk : okL a b no es gone s with
  | false => rfl
  | true => rw [(okL_iff.1 hk).1] at h; cases h
theorem ok_find {a : List ByteArray} {b : List Int} {no : Int} {es : List ByteArray} {gone : Bool} {s : ByteArray} (h1 : rootB a b = true) (h2 : leafB es gone = true) : okL a b no es gone s = !(findB a b s != no) := by
  rw [Bool.eq_iff_iff, okL_iff]
  simp only [Bool.not_eq_true', bne_eq_false_iff_eq]
  refine ⟨fun h => h.2.1, fun h => ⟨h2, h, ?_⟩⟩
  obtain ⟨hr1, hr2, _⟩ := rootB_iff.1 h1
  rw [← h]
  unfold findB
  rw [if_pos h1]
  have := atS_le s a
  have := ((seen_iff.1 hr1).2 _ (mem_int (show atS s a < b.length by omega))).1
  omega
end Go.Proofs.Ytneagipmllgejaa.PL
end
section
namespace Go.Proofs.Ytneagipmllgejaa.PL
open Go.RowKit Go.Proofs.YtneagipmllgejaaW.PrintWords Go.Proofs.YtneagipmllgejaaW.PrintLast Go.Proofs.YtneagipmllgejaaW.PrintMore Go.Proofs.YtneagipmllgejaaH
set_option linter.unusedVariables false
set_option linter.unusedSimpArgs false
/-- A slice's beginning. -/
theorem takeS_run (A : Option Addr) (c : Nat) (l : List ByteArray) (i : Nat) (hi : i ≤ l.length) (hc : l.length ≤ c) {j : Int} (hj : j = (i : Int)) : ∀ W : World, (Instr.slice 22 (.slice A l.length c) none (some (.int .i64 j)) none).run Try.prog W = .ok (.slice A (l.take i).length c) W := by
  subst hj
  obtain ⟨i0, hi0, _, hsz, _⟩ := info_parts info9
  exact (print_take_of (P := Try.prog) Value.string (⟨#[]⟩ : ByteArray) 22 9 .i64 Try.underlying22 hi0 hsz A c l (i : Int) (by omega) (by omega) hc).1
/-- What is behind it. -/
theorem dropS_run (A : Option Addr) (c : Nat) (l : List ByteArray) (i : Nat) (hi : i ≤ l.length) (hc : l.length ≤ c) (w : World) (hr : Kd.C Kd.string w A l.length l) {j : Int} (hj : j = (i : Int)) : ∃ A', (∀ W : World, (Instr.slice 22 (.slice A l.length c) (some (.int .i64 j)) none none).run Try.prog W = .ok (.slice A' (l.drop i).length (c - i)) W) ∧ Kd.C Kd.string w A' (l.drop i).length (l.drop i) ∧ (l.drop i).length ≤ c - i := by
  subst hj
  obtain ⟨i0, hi0, _, hsz, _⟩ := info_parts info9
  obtain ⟨A', h1, h2, h3⟩ := print_drop_of (P := Try.prog) Value.string (⟨#[]⟩ : ByteArray) 22 9 .i64 Try.underlying22 hi0 hsz A c l (i : Int) (by omega) (by omega) hc
  exact ⟨A', h1, Kd.C_of_reads (h1 := fun _ => rfl) (h2 w (Kd.reads_of_C hr)), h3⟩
set_option maxHeartbeats 1000000 in
set_option maxRecDepth 100000 in
theorem put_at {A : Option Addr} {c : Nat} {l : List ByteArray} {i : Nat} {s : ByteArray} {w : World} (hr : Kd.C Kd.string w A l.length l) (hc : l.length ≤ c) (hi : i ≤ l.length) (hl : l.length ≤ 1000) {j : Int} (hj : j = (i : Int)) :
    Calls Try.prog 50 #[.slice A l.length c, .int .i64 j, .string s] w fun e w' => ∃ v, e = .returned v ∧ Kd.R Kd.string 9 w' w.heap.size (fun _ => True) v (insAt i s l) ∧ Below w.heap.size w w' := by
  subst hj
  have htk := takeS_run A c l i hi hc rfl
  have HTR := Lib.hid (Kd.C_take hr hi)
  obtain ⟨A', hdk, hdr, hdc⟩ := dropS_run A c l i hi hc w hr rfl
  have HDR := Lib.hid hdr
  have h1 : (l.take i).length = i := by rw [List.length_take]; omega
  have h2 : (l.drop i).length = l.length - i := List.length_drop
  have HL1 := Lib.hid h1
  have HL2 := Lib.hid h2
  have HB := Lib.hid (Below.refl w.heap.size w)
  have he : insAt i s l = (([] ++ l.take i) ++ [s]) ++ l.drop i := by simp [insAt]
  rw [he]
  clear he hr hdr h1 h2
  generalize l.take i = t1 at *
  generalize l.drop i = t2 at *
  generalize hn1 : t1.length = n1 at *
  generalize hn2 : t2.length = n2 at *
  have HN1 := Lib.hid hn1
  have HN2 := Lib.hid hn2
  clear hn1 hn2 hdc
  have hll := Lib.hid hl
  clear hl
  go_enter Try.func50, Try.ntmps50
  go_wp2_with (first | ((with_reducible refine gate_builtin (b := .append) (xs := #[.tmp 8, .tmp 11]) rfl ?_); at_builtin; refine Kd.R_append_rows Kd.string (w0 := w) w.heap.size rfl (.tmp 8) (.tmp 11) 22 9 (.string ⟨#[]⟩) 16 rfl Try.underlying22 info9 rfl (by decide) (by omega) (.slice none 0 0) ([] : List ByteArray) t1 A n1 c (fun _ => True) (fun _ => False) rfl rfl (Kd.R_nil _ _ _ _ (fun _ => True)) HTR.out (fun _ _ h => h) (fun _ h => h.elim) (fun _ _ => trivial) HB.out HB.out.size (by have := HL1.out; have := hll.out; simp; omega) ?_; intro v1 w1 ho hb hg hat; have HO1 := Lib.hid ho; have HB1 := Lib.hid hb; clear ho hb hg hat) | ((with_reducible refine gate_builtin (b := .append) (xs := #[.tmp 13, .tmp 15]) rfl ?_); at_builtin; refine Kd.R_append Kd.string (w0 := w) w.heap.size rfl (.tmp 13) (.tmp 15) 22 9 (.string ⟨#[]⟩) 16 rfl Try.underlying22 info9 rfl (by decide) (by omega) v1 _ s [.string s] (fun _ => True) (fun _ => False) rfl rfl rfl (fun _ hk => hk.elim) (fun _ _ => trivial) HO1.out HB1.out HB1.out.size (by have := HL1.out; have := hll.out; have := HN1.out; simp; omega) ?_; intro v2 w2 ho hb hg hat; have HO2 := Lib.hid ho; have HB2 := Lib.hid hb; clear ho hb hg hat) | ((with_reducible refine gate_builtin (b := .append) (xs := #[.tmp 17, .tmp 20]) rfl ?_); at_builtin; refine Kd.R_append_rows Kd.string (w0 := w) w.heap.size rfl (.tmp 17) (.tmp 20) 22 9 (.string ⟨#[]⟩) 16 rfl Try.underlying22 info9 rfl (by decide) (by omega) v2 _ t2 A' n2 (c - i) (fun _ => True) (fun _ => False) rfl rfl HO2.out (Kd.C_below HDR.out HB2.out) (fun _ _ h => h) (fun _ h => h.elim) (fun _ _ => trivial) HB2.out HB2.out.size (by have := HL1.out; have := HL2.out; have := hll.out; have := HN1.out; simp; omega) ?_; intro v3 w3 ho hb hg hat; have HO3 := Lib.hid ho; have HB3 := Lib.hid hb; clear ho hb hg hat))
  go_ret
  exact ⟨_, rfl, HO3.out, HB3.out⟩
set_option maxHeartbeats 1000000 in
set_option maxRecDepth 100000 in
theorem cut_at {A : Option Addr} {c : Nat} {l : List ByteArray} {i : Nat} {w : World} (hr : Kd.C Kd.string w A l.length l) (hc : l.length ≤ c) (hi : i < l.length) (hl : l.length ≤ 1000) {j : Int} (hj : j = (i : Int)) :
    Calls Try.prog 52 #[.slice A l.length c, .int .i64 j] w fun e w' => ∃ v, e = .returned v ∧ Kd.R Kd.string 9 w' w.heap.size (fun _ => True) v (cutAt i l) ∧ Below w.heap.size w w' := by
  subst hj
  have htk := takeS_run A c l i (by omega) hc rfl
  have HTR := Lib.hid (Kd.C_take hr (show i ≤ l.length by omega))
  obtain ⟨A', hdk, hdr, hdc⟩ := dropS_run A c l (i + 1) (by omega) hc w hr (j := (i : Int) + 1) (by omega)
  have HDR := Lib.hid hdr
  have h1 : (l.take i).length = i := by rw [List.length_take]; omega
  have h2 : (l.drop (i + 1)).length = l.length - (i + 1) := List.length_drop
  have HL1 := Lib.hid h1
  have HL2 := Lib.hid h2
  have HB := Lib.hid (Below.refl w.heap.size w)
  have he : cutAt i l = ([] ++ l.take i) ++ l.drop (i + 1) := by simp [cutAt]
  have hw : wrap64 ((i : Int) + 1) = ((i + 1 : Nat) : Int) := by rw [w64 (by omega) (by omega)]; omega
  rw [he]
  clear he hr hdr h1 h2
  generalize l.take i = t1 at *
  generalize l.drop (i + 1) = t2 at *
  generalize hn1 : t1.length = n1 at *
  generalize hn2 : t2.length = n2 at *
  have HN1 := Lib.hid hn1
  have HN2 := Lib.hid hn2
  clear hn1 hn2 hdc
  have hll := Lib.hid hl
  clear hl
  go_enter Try.func52, Try.ntmps52
  go_wp2_with (first | ((with_reducible refine gate_builtin (b := .append) (xs := #[.tmp 6, .tmp 9]) rfl ?_); at_builtin; refine Kd.R_append_rows Kd.string (w0 := w) w.heap.size rfl (.tmp 6) (.tmp 9) 22 9 (.string ⟨#[]⟩) 16 rfl Try.underlying22 info9 rfl (by decide) (by omega) (.slice none 0 0) ([] : List ByteArray) t1 A n1 c (fun _ => True) (fun _ => False) rfl rfl (Kd.R_nil _ _ _ _ (fun _ => True)) HTR.out (fun _ _ h => h) (fun _ h => h.elim) (fun _ _ => trivial) HB.out HB.out.size (by have := HL1.out; have := hll.out; simp; omega) ?_; intro v1 w1 ho hb hg hat; have HO1 := Lib.hid ho; have HB1 := Lib.hid hb; clear ho hb hg hat) | ((with_reducible refine gate_builtin (b := .append) (xs := #[.tmp 11, .tmp 15]) rfl ?_); at_builtin; refine Kd.R_append_rows Kd.string (w0 := w) w.heap.size rfl (.tmp 11) (.tmp 15) 22 9 (.string ⟨#[]⟩) 16 rfl Try.underlying22 info9 rfl (by decide) (by omega) v1 _ t2 A' n2 (c - (i + 1)) (fun _ => True) (fun _ => False) rfl rfl HO1.out (Kd.C_below HDR.out HB1.out) (fun _ _ h => h) (fun _ h => h.elim) (fun _ _ => trivial) HB1.out HB1.out.size (by have := HL1.out; have := HL2.out; have := hll.out; have := HN1.out; simp; omega) ?_; intro v3 w3 ho hb hg hat; have HO3 := Lib.hid ho; have HB3 := Lib.hid hb; clear ho hb hg hat))
  go_ret
  exact ⟨_, rfl, HO3.out, HB3.out⟩
end Go.Proofs.Ytneagipmllgejaa.PL
end
section
set_option linter.unusedVariables false
set_option linter.unusedSimpArgs false
namespace Go.Proofs.YtneagipmllgejaaH
open Go.RowKit Go.Proofs.YtneagipmllgejaaW.PrintWords Go.Proofs.YtneagipmllgejaaW.PrintLast Go.Proofs.YtneagipmllgejaaW.PrintMore
section
variable {P : Program} {ops : Array Oper} {o : Oper} {a : Act} {Q : Exit → Act → World → Prop} {Kc : Act → World → Prop} {W : World}
/-- One cell of a block is stored into, as a step of a region that draws its order. -/
theorem cell_step (hw : Region.wanted o (yielded ops a.tmps) = true) {t : TypeId} {p x : Operand} (ho : o.op = .store t p x) (hN : o.dst = none) (g j : Nat) (cur : Array Value) (e : TypeId) (hp : a.eval p = .pointer (some ⟨g, j, none⟩)) (u : Value) (hx : a.eval x = u) (hu : u.cells.toList = [u])
    (hbox : W.heap[g]? = some (.cells cur e (0, 0))) (hsz : j < cur.size) (ht : (P.info? t).map (·.size) = some 1) (h1 : u.oneCell' = true)
    (h : ∀ w1, w1.heap[g]? = some (.cells (cur.setIfInBounds j u) e (0, 0)) → W.grownBy w1 (some g) → w1.heap.size = W.heap.size → Kc a w1) : if Region.wanted o (yielded ops a.tmps) = true then Oper.wp P o a W Kc Q else Kc (a.put none undef) W := by
  have hrun := run_store_run (o := j) t u [u] hbox hu ht (by simp; omega) (by simpa using h1)
  rw [if_pos hw]
  unfold Oper.wp
  simp only [execOp, ho, hp, hx, Sem.run_bind, hrun, Result.andThen_ok, Sem.run_pure]
  show Kc (a.put o.dst undef) _
  rw [hN]
  refine h _ ?_ ⟨rfl, rfl, rfl, ?_, fun k hk hne => ?_⟩ ?_
  · show (W.setCell ⟨g, j, none⟩ u).heap[g]? = _
    exact blk_set hbox j u
  · show W.heap.size ≤ (W.setCell ⟨g, j, none⟩ u).heap.size
    simp [World.setCell]
  · exact Below.heap_setCell W ⟨g, j, none⟩ u k (fun e => hne (by rw [e]))
  · show (W.setCell ⟨g, j, none⟩ u).heap.size = _
    simp [World.setCell]
end
end Go.Proofs.YtneagipmllgejaaH
namespace Go.Proofs.Ytneagipmllgejaa.PL
open Go.RowKit Go.Proofs.YtneagipmllgejaaW.PrintWords Go.Proofs.YtneagipmllgejaaW.PrintLast Go.Proofs.YtneagipmllgejaaW.PrintMore Go.Proofs.YtneagipmllgejaaH
/-- What is asked of the arguments: they lie there, and are small. -/
structure PreR (B0 : Option Addr) (d0 : Nat) (a : List ByteArray) (B1 : Option Addr) (d1 : Nat) (b : List Int) (no : Int) (B3 : Option Addr) (d3 : Nat) (es : List ByteArray) (gone : Bool) (s : ByteArray) (w : World) : Prop where
  r0 : Kd.C Kd.string w B0 a.length a
  c0 : a.length ≤ d0
  r1 : Kd.C (Kd.int .i64) w B1 b.length b
  c1 : b.length ≤ d1
  r3 : Kd.C Kd.string w B3 es.length es
  c3 : es.length ≤ d3
  la : a.length ≤ 100
  lb : b.length ≤ 100
  le : es.length ≤ 100
  za : ∀ x ∈ a, x.size ≤ 1000
  ze : ∀ x ∈ es, x.size ≤ 1000
  zs : s.size ≤ 1000
/-- What is given back: rows that are there. -/
def RefPost (w : World) (r1 : List ByteArray) (r2 : List Int) (r3 : List S28) (r4 : Int) (e : Ending) (w' : World) : Prop :=
  ∃ (A0 : Option Addr) (c0 : Nat) (A1 : Option Addr) (c1 : Nat) (A2 : Option Addr) (c2 : Nat), e = .returned (.tuple #[.agg #[.slice A0 r1.length c0, .slice A1 r2.length c1], .slice A2 r3.length c2, .int .i64 r4]) ∧
    (Kd.C Kd.string w' A0 r1.length r1 ∧ r1.length ≤ c0) ∧ (Kd.C (Kd.int .i64) w' A1 r2.length r2 ∧ r2.length ≤ c1) ∧ (Kd.C k28 w' A2 r3.length r3 ∧ r3.length ≤ c2) ∧ Below w.heap.size w w'
/-- A call's state: the arguments in boxes of one's own, a result's box. -/
structure Rt (w W : World) (g3 g4 g6 : Nat) (u0 u1 : Value) (no : Int) (u3 : Value) (gone : Bool) : Prop where
  below : Below w.heap.size w W
  x3 : W.heap[g3]? = some (.cells #[u0, u1] 26 (0, 0))
  x4 : W.heap[g4]? = some (.cells #[.int .i64 no, u3, .bool gone] 28 (0, 0))
  x6 : W.heap[g6]? = some (.cells #[.slice none 0 0, .slice none 0 0] 26 (0, 0))
  n34 : g3 ≠ g4
  n36 : g3 ≠ g6
  n46 : g4 ≠ g6
  b3 : w.heap.size ≤ g3
  b4 : w.heap.size ≤ g4
  b6 : w.heap.size ≤ g6
def heldR (g3 g4 : Nat) (u0 u1 : Value) (no : Int) (u3 : Value) (gone : Bool) : World → Prop :=
  fun W => W.cell? ⟨g3, 0, none⟩ = some u0 ∧ W.cell? ⟨g3, 1, none⟩ = some u1 ∧ W.cell? ⟨g4, 0, none⟩ = some (.int .i64 no) ∧ W.cell? ⟨g4, 1, none⟩ = some u3 ∧ W.cell? ⟨g4, 2, none⟩ = some (.bool gone)
section
variable {w W W1 : World} {g3 g4 g6 g : Nat} {u0 u1 u3 : Value} {no : Int} {gone : Bool}
theorem Rt.step (h : Rt w W g3 g4 g6 u0 u1 no u3 gone) (hb : Below W.heap.size W W1) : Rt w W1 g3 g4 g6 u0 u1 no u3 gone :=
  { h with
    below := below_then h.below h.below.size hb
    x3 := blk_below h.x3 hb
    x4 := blk_below h.x4 hb
    x6 := blk_below h.x6 hb }
theorem Rt.held (h : Rt w W g3 g4 g6 u0 u1 no u3 gone) : heldR g3 g4 u0 u1 no u3 gone W :=
  ⟨(blk_cell h.x3 0).trans rfl, (blk_cell h.x3 1).trans rfl, (blk_cell h.x4 0).trans rfl, (blk_cell h.x4 1).trans rfl, (blk_cell h.x4 2).trans rfl⟩
/-- Another block of one's own is written. -/
theorem Rt.far (h : Rt w W g3 g4 g6 u0 u1 no u3 gone) (hg : W.grownBy W1 (some g)) (h3 : g3 ≠ g) (h4 : g4 ≠ g) (h6 : g6 ≠ g) (hb : w.heap.size ≤ g) : Rt w W1 g3 g4 g6 u0 u1 no u3 gone :=
  { h with
    below := below_own h.below hg hb h.below.size
    x3 := blk_grown h.x3 hg (fun e => h3 (Option.some.inj e))
    x4 := blk_grown h.x4 hg (fun e => h4 (Option.some.inj e))
    x6 := blk_grown h.x6 hg (fun e => h6 (Option.some.inj e)) }
/-- The result's box is written, and one block more. -/
theorem Rt.out (h : Rt w W g3 g4 g6 u0 u1 no u3 gone) (x0 x1 : Value) (o : Obj) : ((((W.setCell ⟨g6, 0, none⟩ x0).setCell ⟨g6, 1, none⟩ x1).alloc o).drew).heap[g6]? = some (.cells #[x0, x1] 26 (0, 0)) ∧
    Below w.heap.size w ((((W.setCell ⟨g6, 0, none⟩ x0).setCell ⟨g6, 1, none⟩ x1).alloc o).drew) ∧ ((W.setCell ⟨g6, 0, none⟩ x0).setCell ⟨g6, 1, none⟩ x1).heap.size = W.heap.size := by
  have hx1 : (W.setCell ⟨g6, 0, none⟩ x0).heap[g6]? = some (.cells #[x0, .slice none 0 0] 26 (0, 0)) := blk_put h.x6 0 x0 rfl
  have hx2 : ((W.setCell ⟨g6, 0, none⟩ x0).setCell ⟨g6, 1, none⟩ x1).heap[g6]? = some (.cells #[x0, x1] 26 (0, 0)) := blk_put hx1 1 x1 rfl
  have hz : ((W.setCell ⟨g6, 0, none⟩ x0).setCell ⟨g6, 1, none⟩ x1).heap.size = W.heap.size := by rw [size_setCell, size_setCell]
  refine ⟨blk_drew (blk_alloc hx2 o), below_drew1 (below_alloc ?_ o), hz⟩
  have b1 := below_own h.below (grown_setCell W g6 0 x0) h.b6 h.below.size
  exact below_own b1 (grown_setCell _ g6 1 x1) h.b6 (by rw [size_setCell]; exact h.below.size)
/-- A row of texts of one's own, behind that. -/
theorem Rt.rowS {ok : Nat → Prop} {v : Value} {xs : List ByteArray} (h : Rt w W g3 g4 g6 u0 u1 no u3 gone) (hr : Kd.R Kd.string 9 W w.heap.size ok v xs) (x0 x1 : Value) : Kd.R Kd.string 9 ((W.setCell ⟨g6, 0, none⟩ x0).setCell ⟨g6, 1, none⟩ x1) w.heap.size ok v xs := by
  have hx1 : (W.setCell ⟨g6, 0, none⟩ x0).heap[g6]? = some (.cells #[x0, .slice none 0 0] 26 (0, 0)) := blk_put h.x6 0 x0 rfl
  have h1 := Kd.R_grown1 hr rfl (grown_setCell W g6 0 x0) (Kd.R_ne hr h.x6 (by decide))
  exact Kd.R_grown1 h1 rfl (grown_setCell _ g6 1 x1) (Kd.R_ne h1 hx1 (by decide))
theorem Rt.rowI {ok : Nat → Prop} {v : Value} {xs : List Int} (h : Rt w W g3 g4 g6 u0 u1 no u3 gone) (hr : Kd.R (Kd.int .i64) 3 W w.heap.size ok v xs) (x0 x1 : Value) : Kd.R (Kd.int .i64) 3 ((W.setCell ⟨g6, 0, none⟩ x0).setCell ⟨g6, 1, none⟩ x1) w.heap.size ok v xs := by
  have hx1 : (W.setCell ⟨g6, 0, none⟩ x0).heap[g6]? = some (.cells #[x0, .slice none 0 0] 26 (0, 0)) := blk_put h.x6 0 x0 rfl
  have h1 := Kd.R_grown1 hr rfl (grown_setCell W g6 0 x0) (Kd.R_ne hr h.x6 (by decide))
  exact Kd.R_grown1 h1 rfl (grown_setCell _ g6 1 x1) (Kd.R_ne h1 hx1 (by decide))
/-- The root stays, one leaf comes. -/
theorem Rt.fin1 {x0 x1 : Value} {A3 : Option Addr} {n3 c3 : Nat} {es : List ByteArray} (h : Rt w W g3 g4 g6 u0 u1 no u3 gone) (hr : Kd.R Kd.string 9 W w.heap.size (fun _ => True) (.slice A3 n3 c3) es) (m : Int) (gn : Bool) :
    Kd.C k28 ((((W.setCell ⟨g6, 0, none⟩ x0).setCell ⟨g6, 1, none⟩ x1).alloc (.cells #[.int .i64 m, .slice A3 n3 c3, .bool gn] 28 (0, 0))).drew) (some ⟨W.heap.size, 0, none⟩) 1 [⟨m, es, gn⟩] := by
  obtain ⟨_, _, hz⟩ := h.out x0 x1 (.cells #[.int .i64 m, .slice A3 n3 c3, .bool gn] 28 (0, 0))
  have h3 := h.rowS hr x0 x1
  obtain ⟨e3, hc3, hF⟩ := F_rowS (Kd.R_mono (Kd.R_bound h3) (fun k hk => (trivial : True)))
  subst e3
  refine Kd.F_now (Kd.N_F (Kd.N_drew (N_one28 ⟨m, es, gn⟩ (A1 := A3) (c1 := c3) (base := w.heap.size) (ok := fun _ => True) (by rw [← hz]; exact heap_alloc_new _ _) h.below.size trivial hc3 (Kd.F_alloc (Kd.F_elderB hF _ (by rw [hz]; exact Nat.le_refl _)) _))))
/-- Two leaves come, out of one row. -/
theorem Rt.fin2 {x0 x1 : Value} {ad : Addr} {c3 c5 : Nat} {A5 : Option Addr} {es : List ByteArray} (h : Rt w W g3 g4 g6 u0 u1 no u3 gone) (hr : Kd.R Kd.string 9 W w.heap.size (fun _ => True) (.slice (some ad) es.length c3) es) (h5 : es.length = 5) (m q : Int) (hA5 : A5 = some (ad.add (3 * 1))) (hc5 : 2 ≤ c5) :
    Kd.C k28 ((((W.setCell ⟨g6, 0, none⟩ x0).setCell ⟨g6, 1, none⟩ x1).alloc (.cells #[.int .i64 m, .slice (some ad) 3 c3, .bool false, .int .i64 q, .slice A5 2 c5, .bool false] 28 (0, 0))).drew) (some ⟨W.heap.size, 0, none⟩) 2 [⟨m, es.take 3, false⟩, ⟨q, es.drop 3, false⟩] := by
  obtain ⟨_, _, hz⟩ := h.out x0 x1 (.cells #[.int .i64 m, .slice (some ad) 3 c3, .bool false, .int .i64 q, .slice A5 2 c5, .bool false] 28 (0, 0))
  have h3 := h.rowS hr x0 x1
  obtain ⟨e3, hc3, hF⟩ := F_rowS (Kd.R_mono (Kd.R_bound h3) (fun k hk => (trivial : True)))
  have ht : (es.take 3).length = 3 := by rw [List.length_take]; omega
  have hd : (es.drop 3).length = 2 := by rw [List.length_drop]; omega
  have hT := Kd.F_take (m := 3) hF (by omega)
  have hD := Kd.F_cut (m := 3) hF (by omega) hc3
  have he5 : (if c3 = 3 then some ad else (some ad).map (·.add (3 * Kd.string.sz))) = A5 := by rw [if_neg (by omega), hA5]; rfl
  rw [he5] at hD
  refine Kd.F_now (Kd.N_F (Kd.N_drew (N_two28 ⟨m, es.take 3, false⟩ ⟨q, es.drop 3, false⟩ (A1 := some ad) (B1 := A5) (c1 := c3) (d1 := c5) (base := w.heap.size) (ok := fun _ => True) ?_ h.below.size trivial (by simp only [ht]; omega) (by simp only [hd]; exact hc5) (Kd.F_alloc (Kd.F_elderB hT _ (by rw [hz]; exact Nat.le_refl _)) _) (Kd.F_alloc (Kd.F_elderB hD _ (by rw [hz]; exact Nat.le_refl _)) _))))
  simp only [ht, hd]
  rw [← hz]
  exact heap_alloc_new _ _
end
/-- A root that is being made, beside the state: its box, its rows; t a row of texts of one's own that waits. -/
structure Nx (w W : World) (g3 g4 g6 g : Nat) (uS uL vS vL vT : Value) (ss : List ByteArray) (ll : List Int) (tt : List ByteArray) : Prop where
  x : W.heap[g]? = some (.cells #[uS, uL] 26 (0, 0))
  rS : Kd.R Kd.string 9 W w.heap.size (fun _ => True) vS ss
  rL : Kd.R (Kd.int .i64) 3 W w.heap.size (fun _ => True) vL ll
  rT : Kd.R Kd.string 9 W w.heap.size (fun _ => True) vT tt
  n3 : g3 ≠ g
  n4 : g4 ≠ g
  n6 : g6 ≠ g
  b : w.heap.size ≤ g
section
variable {w W W1 : World} {g3 g4 g6 g : Nat} {u0 u1 u3 uS uL vS vL vT : Value} {no : Int} {gone : Bool} {ss tt : List ByteArray} {ll : List Int}
theorem Nx.step (h : Nx w W g3 g4 g6 g uS uL vS vL vT ss ll tt) (hb : Below W.heap.size W W1) : Nx w W1 g3 g4 g6 g uS uL vS vL vT ss ll tt :=
  { h with
    x := blk_below h.x hb
    rS := Kd.R_below h.rS hb
    rL := Kd.R_below h.rL hb
    rT := Kd.R_below h.rT hb }
theorem Nx.cells (h : Nx w W g3 g4 g6 g uS uL vS vL vT ss ll tt) : W.cell? ⟨g, 0, none⟩ = some uS ∧ W.cell? ⟨g, 1, none⟩ = some uL := ⟨(blk_cell h.x 0).trans rfl, (blk_cell h.x 1).trans rfl⟩
/-- The leaves have grown (not yet in the box). -/
theorem Nx.grewL {vL' : Value} {ll' : List Int} (h : Nx w W g3 g4 g6 g uS uL vS vL vT ss ll tt) (hv : Kd.R (Kd.int .i64) 3 W1 w.heap.size (fun _ => True) vL' ll') (hg : W.grownBy W1 vL.ownBlock) : Nx w W1 g3 g4 g6 g uS uL vS vL' vT ss ll' tt :=
  { h with
    x := blk_grown h.x hg (Kd.R_ne h.rL h.x (by decide))
    rS := Kd.R_over' h.rS (Kd.R_typed h.rL) (by decide) hg
    rT := Kd.R_over' h.rT (Kd.R_typed h.rL) (by decide) hg
    rL := hv }
theorem Rt.grewL (h : Rt w W g3 g4 g6 u0 u1 no u3 gone) (hv : Kd.R (Kd.int .i64) 3 W w.heap.size (fun _ => True) vL ll) (hb : Below w.heap.size w W1) (hg : W.grownBy W1 vL.ownBlock) : Rt w W1 g3 g4 g6 u0 u1 no u3 gone :=
  { h with
    below := hb
    x3 := blk_grown h.x3 hg (Kd.R_ne hv h.x3 (by decide))
    x4 := blk_grown h.x4 hg (Kd.R_ne hv h.x4 (by decide))
    x6 := blk_grown h.x6 hg (Kd.R_ne hv h.x6 (by decide)) }
/-- The box is written. -/
theorem Nx.put {xS xL : Value} (h : Nx w W g3 g4 g6 g uS uL vS vL vT ss ll tt) (hx : W1.heap[g]? = some (.cells #[xS, xL] 26 (0, 0))) (hg : W.grownBy W1 (some g)) : Nx w W1 g3 g4 g6 g xS xL vS vL vT ss ll tt :=
  { h with
    x := hx
    rS := Kd.R_grown1 h.rS rfl hg (Kd.R_ne h.rS h.x (by decide))
    rL := Kd.R_grown1 h.rL rfl hg (Kd.R_ne h.rL h.x (by decide))
    rT := Kd.R_grown1 h.rT rfl hg (Kd.R_ne h.rT h.x (by decide)) }
theorem Nx.root (h : Nx w W g3 g4 g6 g uS uL vS vL vT ss ll tt) (hr : Rt w W g3 g4 g6 u0 u1 no u3 gone) (hg : W.grownBy W1 (some g)) : Rt w W1 g3 g4 g6 u0 u1 no u3 gone := hr.far hg h.n3 h.n4 h.n6 h.b
/-- The first row is another. -/
theorem Nx.newS {vS' : Value} {ss' : List ByteArray} (h : Nx w W g3 g4 g6 g uS uL vS vL vT ss ll tt) (hv : Kd.R Kd.string 9 W w.heap.size (fun _ => True) vS' ss') : Nx w W g3 g4 g6 g uS uL vS' vL vT ss' ll tt := { h with rS := hv }
end
theorem takeI_run (A : Option Addr) (c : Nat) (l : List Int) (i : Nat) (hi : i ≤ l.length) (hc : l.length ≤ c) {j : Int} (hj : j = (i : Int)) : ∀ W : World, (Instr.slice 24 (.slice A l.length c) none (some (.int .i64 j)) none).run Try.prog W = .ok (.slice A (l.take i).length c) W := by
  subst hj
  obtain ⟨i0, hi0, _, hsz, _⟩ := info_parts info3
  exact (print_take_of (P := Try.prog) (Value.int .i64) (0 : Int) 24 3 .i64 Try.underlying24 hi0 hsz A c l (i : Int) (by omega) (by omega) hc).1
theorem dropI_run (A : Option Addr) (c : Nat) (l : List Int) (i : Nat) (hi : i ≤ l.length) (hc : l.length ≤ c) (w : World) (hr : Kd.C (Kd.int .i64) w A l.length l) {j : Int} (hj : j = (i : Int)) : ∃ A', (∀ W : World, (Instr.slice 24 (.slice A l.length c) (some (.int .i64 j)) none none).run Try.prog W = .ok (.slice A' (l.drop i).length (c - i)) W) ∧ Kd.C (Kd.int .i64) w A' (l.drop i).length (l.drop i) := by
  subst hj
  obtain ⟨i0, hi0, _, hsz, _⟩ := info_parts info3
  obtain ⟨A', h1, h2, h3⟩ := print_drop_of (P := Try.prog) (Value.int .i64) (0 : Int) 24 3 .i64 Try.underlying24 hi0 hsz A c l (i : Int) (by omega) (by omega) hc
  exact ⟨A', h1, Kd.C_of_reads (h1 := fun _ => rfl) (h2 w (Kd.reads_of_C hr))⟩
theorem nil_post {w w' : World} {r4 : Int} (hb : Below w.heap.size w w') : RefPost w [] [] [] r4 (.returned (.tuple #[.agg #[.slice none 0 0, .slice none 0 0], .slice none 0 0, .int .i64 r4])) w' :=
  ⟨none, 0, none, 0, none, 0, rfl, ⟨Kd.C_nil _ _, Nat.le_refl _⟩, ⟨Kd.C_nil _ _, Nat.le_refl _⟩, ⟨Kd.C_nil _ _, Nat.le_refl _⟩, hb⟩
theorem drop3_run (ad : Addr) (c n : Nat) (hn : 3 ≤ n) (hc : c ≠ 3) : ∀ W : World, (Instr.slice 22 (.slice (some ad) n c) (some (.int .i64 3)) none none).run Try.prog W = .ok (.slice (some (ad.add (3 * 1))) (n - 3) (c - 3)) W := by
  intro W
  obtain ⟨i0, hi0, _, hsz, _⟩ := info_parts info9
  have hel : Try.prog.elem 22 = 9 := by simp [Program.elem, Try.underlying22]
  have hu : Try.prog.underlying 22 = some (.slice (Try.prog.elem 22)) := by rw [hel]; exact Try.underlying22
  rw [run_slice_l W 22 (some ad) n c hu .i64 (3 : Int) (by decide) (by omega), hel]
  simp [sizeOf, typeInfo, hi0, hsz, sliced, Result.andThen, hc]
/-- Text three of a row. -/
theorem third {W : World} {base c : Nat} {ok : Nat → Prop} {ad : Addr} {ids : List ByteArray} (h : Kd.R Kd.string 9 W base ok (.slice (some ad) ids.length c) ids) (h3 : 3 < ids.length) : W.cell? ⟨ad.block, ad.off + 3, none⟩ = some (.string (rdOf ByteArray.empty ids 3)) := by
  obtain ⟨ad', e, hc⟩ := Kd.at_string (Kd.R_reads' h).2.2 3 (by omega) (by omega)
  cases e
  exact hc
section
variable {a : List ByteArray} {b : List Int} {no : Int} {es : List ByteArray} {gone : Bool} {s : ByteArray} {r1 : List ByteArray} {r2 : List Int} {r3 : List S28} {r4 : Int}
theorem ins_a (hl : a.length ≤ 100 ∧ b.length ≤ 100 ∧ es.length ≤ 100) (h : leaf_Insert.f a b no es gone s = some (r1, r2, r3, r4)) (hk : okL a b no es gone s = false) : r1 = [] ∧ r2 = [] ∧ r3 = [] ∧ r4 = 100 := by
  unfold leaf_Insert.f at h
  rw [if_pos ⟨by omega, by omega, by omega⟩, if_pos hk] at h
  cases h
  exact ⟨rfl, rfl, rfl, rfl⟩
theorem ins_b (hl : a.length ≤ 100 ∧ b.length ≤ 100 ∧ es.length ≤ 100) (h : leaf_Insert.f a b no es gone s = some (r1, r2, r3, r4)) (hk : okL a b no es gone s = true) (hz : 600 < s.size) : r1 = [] ∧ r2 = [] ∧ r3 = [] ∧ r4 = 82 := by
  unfold leaf_Insert.f at h
  rw [if_pos ⟨by omega, by omega, by omega⟩, if_neg (by rw [hk]; decide), if_pos hz] at h
  cases h
  exact ⟨rfl, rfl, rfl, rfl⟩
theorem ins_c (hl : a.length ≤ 100 ∧ b.length ≤ 100 ∧ es.length ≤ 100) (h : leaf_Insert.f a b no es gone s = some (r1, r2, r3, r4)) (hk : okL a b no es gone s = true) (hz : ¬ 600 < s.size) (hf : fndS s es = true) : r1 = [] ∧ r2 = [] ∧ r3 = [] ∧ r4 = 31 := by
  unfold leaf_Insert.f at h
  rw [if_pos ⟨by omega, by omega, by omega⟩, if_neg (by rw [hk]; decide), if_neg hz, if_pos hf] at h
  cases h
  exact ⟨rfl, rfl, rfl, rfl⟩
theorem ins_d (hl : a.length ≤ 100 ∧ b.length ≤ 100 ∧ es.length ≤ 100) (h : leaf_Insert.f a b no es gone s = some (r1, r2, r3, r4)) (hk : okL a b no es gone s = true) (hz : ¬ 600 < s.size) (hf : fndS s es = false) (h4 : (insS s es).length ≤ 4) : a = r1 ∧ b = r2 ∧ r3 = [⟨no, insS s es, gone⟩] ∧ r4 = 0 := by
  unfold leaf_Insert.f at h
  rw [if_pos ⟨by omega, by omega, by omega⟩, if_neg (by rw [hk]; decide), if_neg hz, if_neg (by rw [hf]; decide), if_pos h4] at h
  cases h
  exact ⟨rfl, rfl, rfl, rfl⟩
theorem ins_e (hl : a.length ≤ 100 ∧ b.length ≤ 100 ∧ es.length ≤ 100) (h : leaf_Insert.f a b no es gone s = some (r1, r2, r3, r4)) (hk : okL a b no es gone s = true) (hz : ¬ 600 < s.size) (hf : fndS s es = false) (h4 : ¬ (insS s es).length ≤ 4) : ∃ n, freshI b (b.length + 1) 1 = some n ∧ r1 = insAt (atS s a) (rdOf ByteArray.empty (insS s es) 3) a ∧ r2 = insAt (atS s a + 1) n b ∧ r3 = [⟨no, (insS s es).take 3, gone⟩, ⟨n, (insS s es).drop 3, false⟩] ∧ r4 = 0 := by
  unfold leaf_Insert.f at h
  rw [if_pos ⟨by omega, by omega, by omega⟩, if_neg (by rw [hk]; decide), if_neg hz, if_neg (by rw [hf]; decide), if_neg h4] at h
  cases hn : freshI b (b.length + 1) 1 with
  | none => rw [hn] at h; cases h
  | some n =>
    rw [hn] at h
    cases h
    exact ⟨n, rfl, rfl, rfl, rfl, rfl⟩
theorem rem_a (hl : a.length ≤ 100 ∧ b.length ≤ 100 ∧ es.length ≤ 100) (h : leaf_Remove.f a b no es gone s = some (r1, r2, r3, r4)) (hk : okL a b no es gone s = false) : r1 = [] ∧ r2 = [] ∧ r3 = [] ∧ r4 = 100 := by
  unfold leaf_Remove.f at h
  rw [if_pos ⟨by omega, by omega, by omega⟩, if_pos hk] at h
  cases h
  exact ⟨rfl, rfl, rfl, rfl⟩
theorem rem_b (hl : a.length ≤ 100 ∧ b.length ≤ 100 ∧ es.length ≤ 100) (h : leaf_Remove.f a b no es gone s = some (r1, r2, r3, r4)) (hk : okL a b no es gone s = true) (hf : fndS s es = false) : r1 = [] ∧ r2 = [] ∧ r3 = [] ∧ r4 = 101 := by
  unfold leaf_Remove.f at h
  rw [if_pos ⟨by omega, by omega, by omega⟩, if_neg (by rw [hk]; decide), if_pos hf] at h
  cases h
  exact ⟨rfl, rfl, rfl, rfl⟩
theorem rem_c (hl : a.length ≤ 100 ∧ b.length ≤ 100 ∧ es.length ≤ 100) (h : leaf_Remove.f a b no es gone s = some (r1, r2, r3, r4)) (hk : okL a b no es gone s = true) (hf : fndS s es = true) (h4 : 0 < (cutS s es).length ∨ b.length = 1) : a = r1 ∧ b = r2 ∧ r3 = [⟨no, cutS s es, gone⟩] ∧ r4 = 0 := by
  unfold leaf_Remove.f at h
  rw [if_pos ⟨by omega, by omega, by omega⟩, if_neg (by rw [hk]; decide), if_neg (by rw [hf]; decide)] at h
  by_cases h5 : 0 < (cutS s es).length
  · rw [if_pos h5] at h
    cases h
    exact ⟨rfl, rfl, rfl, rfl⟩
  · rw [if_neg h5, if_pos (h4.resolve_left h5)] at h
    cases h
    exact ⟨rfl, rfl, rfl, rfl⟩
theorem rem_d (hl : a.length ≤ 100 ∧ b.length ≤ 100 ∧ es.length ≤ 100) (h : leaf_Remove.f a b no es gone s = some (r1, r2, r3, r4)) (hk : okL a b no es gone s = true) (hf : fndS s es = true) (h4 : ¬ 0 < (cutS s es).length) (h5 : ¬ b.length = 1) : r1 = cutAt (min (atS s a) (a.length - 1)) a ∧ r2 = cutAt (atS s a) b ∧ r3 = [⟨no, [], true⟩] ∧ r4 = 0 := by
  unfold leaf_Remove.f at h
  rw [if_pos ⟨by omega, by omega, by omega⟩, if_neg (by rw [hk]; decide), if_neg (by rw [hf]; decide), if_neg h4, if_neg h5] at h
  cases h
  exact ⟨rfl, rfl, rfl, rfl⟩
end
end Go.Proofs.Ytneagipmllgejaa.PL
end
section
set_option linter.unusedVariables false
set_option linter.unusedSimpArgs false
namespace Go.Proofs.Ytneagipmllgejaa.PL
open Go.RowKit Go.Proofs.YtneagipmllgejaaW.PrintWords Go.Proofs.YtneagipmllgejaaW.PrintLast Go.Proofs.YtneagipmllgejaaW.PrintMore Go.Proofs.YtneagipmllgejaaH
def ri1T : Bool × List (List Nat × List Nat) := (true, [([], []), ([0], [0]), ([1], [1]), ([2, 1], [2]), ([3], [3]), ([4, 3, 3], [3, 4]), ([5, 3], [3, 5]), ([3, 6], [3, 6]), ([7, 5], [7]), ([8], [8]), ([8], [8]), ([9, 10, 8, 8], [8, 9, 10]), ([8], [8]), ([12, 8], [8, 12]), ([11, 13, 8], [8, 11, 13]), ([8, 14], [8, 14])])
def ri1B : List Nat := [0, 1, 3, 7, 15, 31, 63, 127, 255, 511, 511, 2047, 511, 4607, 16383, 32767]
theorem ri1Tab : rtab .any (opsOf Try.f19 1) = ri1T := by kernel_rfl
theorem ri1Waits : waitsOk ri1T.2 ri1B = true := by kernel_rfl
def ri23T : Bool × List (List Nat × List Nat) := (true, [([], []), ([0], [0]), ([], []), ([], []), ([3], [3]), ([4], [4]), ([1, 2, 5], [1, 2, 5]), ([6], [6]), ([], []), ([8, 7, 6, 0, 1, 2, 3, 4, 5, 6, 7, 8], [7, 8])])
def ri23B : List Nat := [0, 1, 0, 0, 8, 24, 63, 127, 0, 511]
theorem ri23Tab : rtab .any (opsOf Try.f19 23) = ri23T := by kernel_rfl
theorem ri23Waits : waitsOk ri23T.2 ri23B = true := by kernel_rfl
def ri24T : Bool × List (List Nat × List Nat) := (true, [([], []), ([0], [0]), ([], []), ([2], [2]), ([], []), ([4], [4]), ([3, 5], [3, 5]), ([1, 6], [1, 6]), ([0, 1, 2, 3, 4, 5, 6, 7], []), ([8, 7, 7, 0, 1, 2, 3, 4, 5, 6, 7], [7, 8])])
def ri24B : List Nat := [0, 1, 0, 4, 0, 16, 60, 127, 255, 511]
theorem ri24Tab : rtab .any (opsOf Try.f19 24) = ri24T := by kernel_rfl
theorem ri24Waits : waitsOk ri24T.2 ri24B = true := by kernel_rfl
def ri26T : Bool × List (List Nat × List Nat) := (true, [([], []), ([0], [0]), ([], []), ([2], [2]), ([], []), ([4], [4]), ([3, 5], [3, 5]), ([1, 6], [1, 6]), ([0, 1, 2, 3, 4, 5, 6, 7], []), ([8, 7, 7, 0, 1, 2, 3, 4, 5, 6, 7], [7, 8])])
def ri26B : List Nat := [0, 1, 0, 4, 0, 16, 60, 127, 255, 511]
theorem ri26Tab : rtab .any (opsOf Try.f19 26) = ri26T := by kernel_rfl
theorem ri26Waits : waitsOk ri26T.2 ri26B = true := by kernel_rfl
set_option maxHeartbeats 3000000 in
set_option maxRecDepth 100000 in
theorem ref_insert (B0 : Option Addr) (d0 : Nat) (a : List ByteArray) (B1 : Option Addr) (d1 : Nat) (b : List Int) (no : Int) (B3 : Option Addr) (d3 : Nat) (es : List ByteArray) (gone : Bool) (s : ByteArray) (w : World) (H : PreR B0 d0 a B1 d1 b no B3 d3 es gone s w) (r1 : List ByteArray) (r2 : List Int) (r3 : List S28) (r4 : Int) (h : leaf_Insert.f a b no es gone s = some (r1, r2, r3, r4)) :
    Calls Try.prog 19 #[.agg #[.slice B0 a.length d0, .slice B1 b.length d1], .agg #[.int .i64 no, .slice B3 es.length d3, .bool gone], .string s] w (RefPost w r1 r2 r3 r4) := by
  have HR0 := Lib.hid H.r0
  have HC0 := Lib.hid H.c0
  have HR1 := Lib.hid H.r1
  have HC1 := Lib.hid H.c1
  have HR3 := Lib.hid H.r3
  have HC3 := Lib.hid H.c3
  have HL := Lib.hid (show a.length ≤ 100 ∧ b.length ≤ 100 ∧ es.length ≤ 100 from ⟨H.la, H.lb, H.le⟩)
  have hla := H.la
  have hlb := H.lb
  have hle := H.le
  have HZE := Lib.hid H.ze
  have HZS := Lib.hid H.zs
  have hu26 := Try.underlying26
  have hu28 := Try.underlying28
  obtain ⟨k1, hk1⟩ : ∃ k, cobwebref11_Root.f k a b = some (rootB a b) := ⟨_, ref_root a b (by omega) (by omega) H.za (Nat.le_refl _)⟩
  obtain ⟨k2, hk2⟩ : ∃ k, cobwebref11_Leaf.f k no es gone = some (leafB es gone) := ⟨_, ref_leaf no es gone (by omega) H.ze (Nat.le_refl _)⟩
  obtain ⟨k3, hk3⟩ : ∃ k, cobwebref11_Find.f k a b s = some (findB a b s) := ⟨_, ref_find a b s (by omega) (by omega) H.za H.zs (Nat.le_refl _)⟩
  obtain ⟨k4, hk4⟩ : ∃ k, cobwebref11_At.f k a b s = some (cntLe s a : Int) := ⟨_, ref_at a b s (by omega) H.za H.zs (Nat.le_refl _)⟩
  have HRT := Lib.hid hk1
  have HLF := Lib.hid hk2
  have HFD := Lib.hid hk3
  have HAT := Lib.hid hk4
  have HI := Lib.hid h
  clear H h hk1 hk2 hk3 hk4
  go_enter Try.func19, Try.ntmps19
  go_upto_region 1 with (first | ((with_reducible refine gate_dst (N := 3) rfl ?_); refine alloc_event ?hg (N := 3) ?hd (fun g => .pointer (some ⟨g, 0, none⟩)) (.cells #[.slice B0 a.length d0, .slice B1 b.length d1] 26 (0, 0)) ?hr ?_; (case hd => rfl); (case hg => rfl); (case hr => first | (go_simp; done) | (go_simp; rfl)); intro g3 hg w1 hbox hb; have HG3 := Lib.hid (show w.heap.size ≤ g3 by omega); have HX3_1 := Lib.hid hbox; have HB1 := Lib.hid (hb); clear hg hbox hb) | ((with_reducible refine gate_dst (N := 4) rfl ?_); refine alloc_event ?hg (N := 4) ?hd (fun g => .pointer (some ⟨g, 0, none⟩)) (.cells #[.int .i64 no, .slice B3 es.length d3, .bool gone] 28 (0, 0)) ?hr ?_; (case hd => rfl); (case hg => rfl); (case hr => first | (go_simp; done) | (go_simp; rfl)); intro g4 hg w2 hbox hb; have HG4 := Lib.hid (show w.heap.size ≤ g4 by rw [hg]; exact HB1.out.size); have HX4_2 := Lib.hid hbox; have HX3_2 := Lib.hid (blk_below HX3_1.out hb); have HN3_4 := Lib.hid (show g3 ≠ g4 by have := blk_lt HX3_1.out; omega); have HB2 := Lib.hid (below_then HB1.out HB1.out.size hb); clear hg hbox hb) | ((with_reducible refine gate_dst (N := 6) rfl ?_); refine alloc_event ?hg (N := 6) ?hd (fun g => .pointer (some ⟨g, 0, none⟩)) (.cells #[.slice none 0 0, .slice none 0 0] 26 (0, 0)) ?hr ?_; (case hd => rfl); (case hg => rfl); (case hr => first | (go_simp; done) | (go_simp; rfl)); intro g6 hg w3 hbox hb; have HG6 := Lib.hid (show w.heap.size ≤ g6 by rw [hg]; exact HB2.out.size); have HX6_3 := Lib.hid hbox; have HX3_3 := Lib.hid (blk_below HX3_2.out hb); have HN3_6 := Lib.hid (show g3 ≠ g6 by have := blk_lt HX3_2.out; omega); have HX4_3 := Lib.hid (blk_below HX4_2.out hb); have HN4_6 := Lib.hid (show g4 ≠ g6 by have := blk_lt HX4_2.out; omega); have HB3 := Lib.hid (below_then HB2.out HB2.out.size hb); clear hg hbox hb))
  have HS := Lib.hid (show Rt w w3 g3 g4 g6 (.slice B0 a.length d0) (.slice B1 b.length d1) no (.slice B3 es.length d3) gone from ⟨HB3.out, HX3_3.out, HX4_3.out, HX6_3.out, HN3_4.out, HN3_6.out, HN4_6.out, HG3.out, HG4.out, HG6.out⟩)
  clear HX3_1 HX3_2 HX4_2 HX3_3 HX4_3 HX6_3 HB1 HB2 HB3 HN3_4 HN3_6 HN4_6 HG3 HG4 HG6
  go_cut [31] (fun v31 wc => v31 = .bool (!okL a b no es gone s) ∧ Aside0 (Rt w wc g3 g4 g6 (.slice B0 a.length d0) (.slice B1 b.length d1) no (.slice B3 es.length d3) gone))
  case first =>
    refine start_ (n := 16) (S := (heldR g3 g4 (.slice B0 a.length d0) (.slice B1 b.length d1) no (.slice B3 es.length d3) gone)) (ds := []) #[false, false, false, false, false, false, false, false, false, false, false, false, false, false, false, false] (by kernel_rfl) rfl rfl (Rt.held (HS.out.step (below_drew1 (Below.refl _ _)))) (fun hHeld => ?_); refine with_tabW ri1Tab ri1Waits (fun HT_ HW_ => ?_)
    have n_ := Lib.hid (HS.out.step (below_drew1 (Below.refl _ _))); clear HS; have HS := n_; clear n_
    generalize w3.drew = wa at HS hHeld ⊢
    refine take_ (i := 0) (N := some 16) (v := ?_) (a' := ?_) #[true, false, false, false, false, false, false, false, false, false, false, false, false, false, false, false] rfl rfl (take_ofW HT_.out HW_.out (by kernel_rfl)) (fun _ _ _ h => h) (Or.inl ⟨by rfl, ?_⟩) hHeld ?_ ?_
    rotate_left
    · rintro w' ⟨h0, h1, h2, h3, h4⟩
      go_simp
      with_reducible rfl
    rotate_left
    · simp only [Act.put, List.setIfInBounds_toArray, List.set_cons_zero, List.set_cons_succ, i64_w, i32_w]
      rfl
    refine one_ (i := 1) (N := (some 17)) #[true, true, false, false, false, false, false, false, false, false, false, false, false, false, false, false] rfl rfl (one_of HT_.out (by kernel_rfl)) (by decide) (fun K hK => ?_)
    refine goes_ Try.func47 (by kernel_rfl) rfl #[.agg #[.slice B0 a.length d0, .slice B1 b.length d1]] (by rfl) rfl rfl (by (try simp only [List.map_toArray, List.map_cons, List.map_nil]); first | done | rfl) ?_
    with_reducible refine (cobwebref11_Root.calls k1 _ d0 a _ d1 b (rootB a b) _ (Kd.C_below HR0.out HS.out.below) HC0.out (Kd.C_below HR1.out HS.out.below) HC1.out HRT.out).mono ?_
    rintro e wb ⟨rfl, hb⟩
    refine ⟨_, rfl, ?_⟩
    have n_ := Lib.hid (HS.out.step hb); clear HS; have HS := n_; clear n_
    clear hb
    refine hK.out _ _ (Rt.held HS.out) (fun hHeld => ?_)
    clear hK K
    refine norm_ (a' := ?_) ?_ ?_
    rotate_left
    · show Act.put _ (some 17) _ = _
      simp only [Act.put, List.setIfInBounds_toArray, List.set_cons_zero, List.set_cons_succ, i64_w, i32_w]
      rfl
    cases hrt : rootB a b
    · refine pure_ (i := 2) (N := some 18) (v := ?_) (a' := ?_) #[true, true, true, false, false, false, false, false, false, false, false, false, false, false, false, false] rfl rfl (any_of HT_.out (by kernel_rfl)) (fun _ _ _ h => h) (Or.inl ⟨by rfl, ?_⟩) ?_ ?_
      rotate_left
      · intro w'
        go_simp
        with_reducible rfl
      rotate_left
      · simp only [Act.put, List.setIfInBounds_toArray, List.set_cons_zero, List.set_cons_succ, i64_w, i32_w]
        rfl
      refine pure_ (i := 3) (N := some 19) (v := ?_) (a' := ?_) #[true, true, true, true, false, false, false, false, false, false, false, false, false, false, false, false] rfl rfl (any_of HT_.out (by kernel_rfl)) (fun _ _ _ h => h) (Or.inl ⟨by rfl, ?_⟩) ?_ ?_
      rotate_left
      · intro w'
        go_simp
        with_reducible rfl
      rotate_left
      · simp only [Act.put, List.setIfInBounds_toArray, List.set_cons_zero, List.set_cons_succ, i64_w, i32_w]
        rfl
      refine pure_ (i := 4) (N := some 20) (v := undef) (a' := ?_) #[true, true, true, true, true, false, false, false, false, false, false, false, false, false, false, false] rfl rfl (any_of HT_.out (by kernel_rfl)) (fun _ _ _ h => h) (Or.inr ⟨by rfl, rfl⟩) ?_ ?_
      rotate_left
      · simp only [Act.put, List.setIfInBounds_toArray, List.set_cons_zero, List.set_cons_succ, i64_w, i32_w]
        rfl
      refine pure_ (i := 5) (N := some 21) (v := undef) (a' := ?_) #[true, true, true, true, true, true, false, false, false, false, false, false, false, false, false, false] rfl rfl (any_of HT_.out (by kernel_rfl)) (fun _ _ _ h => h) (Or.inr ⟨by rfl, rfl⟩) ?_ ?_
      rotate_left
      · simp only [Act.put, List.setIfInBounds_toArray, List.set_cons_zero, List.set_cons_succ, i64_w, i32_w]
        rfl
      refine pure_ (i := 6) (N := some 22) (v := undef) (a' := ?_) #[true, true, true, true, true, true, true, false, false, false, false, false, false, false, false, false] rfl rfl (any_of HT_.out (by kernel_rfl)) (fun _ _ _ h => h) (Or.inr ⟨by rfl, rfl⟩) ?_ ?_
      rotate_left
      · simp only [Act.put, List.setIfInBounds_toArray, List.set_cons_zero, List.set_cons_succ, i64_w, i32_w]
        rfl
      refine pure_ (i := 7) (N := some 23) (v := ?_) (a' := ?_) #[true, true, true, true, true, true, true, true, false, false, false, false, false, false, false, false] rfl rfl (any_of HT_.out (by kernel_rfl)) (fun _ _ _ h => h) (Or.inl ⟨by rfl, ?_⟩) ?_ ?_
      rotate_left
      · intro w'
        go_simp
        with_reducible rfl
      rotate_left
      · simp only [Act.put, List.setIfInBounds_toArray, List.set_cons_zero, List.set_cons_succ, i64_w, i32_w]
        rfl
      refine pure_ (i := 8) (N := some 24) (v := ?_) (a' := ?_) #[true, true, true, true, true, true, true, true, true, false, false, false, false, false, false, false] rfl rfl (any_of HT_.out (by kernel_rfl)) (fun _ _ _ h => h) (Or.inl ⟨by rfl, ?_⟩) ?_ ?_
      rotate_left
      · intro w'
        go_simp
        with_reducible rfl
      rotate_left
      · simp only [Act.put, List.setIfInBounds_toArray, List.set_cons_zero, List.set_cons_succ, i64_w, i32_w]
        rfl
      refine pure_ (i := 9) (N := some 25) (v := undef) (a' := ?_) #[true, true, true, true, true, true, true, true, true, true, false, false, false, false, false, false] rfl rfl (any_of HT_.out (by kernel_rfl)) (fun _ _ _ h => h) (Or.inr ⟨by rfl, rfl⟩) ?_ ?_
      rotate_left
      · simp only [Act.put, List.setIfInBounds_toArray, List.set_cons_zero, List.set_cons_succ, i64_w, i32_w]
        rfl
      refine pure_ (i := 10) (N := some 26) (v := undef) (a' := ?_) #[true, true, true, true, true, true, true, true, true, true, true, false, false, false, false, false] rfl rfl (any_of HT_.out (by kernel_rfl)) (fun _ _ _ h => h) (Or.inr ⟨by rfl, rfl⟩) ?_ ?_
      rotate_left
      · simp only [Act.put, List.setIfInBounds_toArray, List.set_cons_zero, List.set_cons_succ, i64_w, i32_w]
        rfl
      refine pure_ (i := 11) (N := some 27) (v := undef) (a' := ?_) #[true, true, true, true, true, true, true, true, true, true, true, true, false, false, false, false] rfl rfl (any_of HT_.out (by kernel_rfl)) (fun _ _ _ h => h) (Or.inr ⟨by rfl, rfl⟩) ?_ ?_
      rotate_left
      · simp only [Act.put, List.setIfInBounds_toArray, List.set_cons_zero, List.set_cons_succ, i64_w, i32_w]
        rfl
      refine pure_ (i := 12) (N := some 28) (v := undef) (a' := ?_) #[true, true, true, true, true, true, true, true, true, true, true, true, true, false, false, false] rfl rfl (any_of HT_.out (by kernel_rfl)) (fun _ _ _ h => h) (Or.inr ⟨by rfl, rfl⟩) ?_ ?_
      rotate_left
      · simp only [Act.put, List.setIfInBounds_toArray, List.set_cons_zero, List.set_cons_succ, i64_w, i32_w]
        rfl
      refine pure_ (i := 13) (N := some 29) (v := undef) (a' := ?_) #[true, true, true, true, true, true, true, true, true, true, true, true, true, true, false, false] rfl rfl (any_of HT_.out (by kernel_rfl)) (fun _ _ _ h => h) (Or.inr ⟨by rfl, rfl⟩) ?_ ?_
      rotate_left
      · simp only [Act.put, List.setIfInBounds_toArray, List.set_cons_zero, List.set_cons_succ, i64_w, i32_w]
        rfl
      refine pure_ (i := 14) (N := some 30) (v := undef) (a' := ?_) #[true, true, true, true, true, true, true, true, true, true, true, true, true, true, true, false] rfl rfl (any_of HT_.out (by kernel_rfl)) (fun _ _ _ h => h) (Or.inr ⟨by rfl, rfl⟩) ?_ ?_
      rotate_left
      · simp only [Act.put, List.setIfInBounds_toArray, List.set_cons_zero, List.set_cons_succ, i64_w, i32_w]
        rfl
      refine pure_ (i := 15) (N := some 31) (v := ?_) (a' := ?_) #[true, true, true, true, true, true, true, true, true, true, true, true, true, true, true, true] rfl rfl (any_of HT_.out (by kernel_rfl)) (fun _ _ _ h => h) (Or.inl ⟨by rfl, ?_⟩) ?_ ?_
      rotate_left
      · intro w'
        go_simp
        with_reducible rfl
      rotate_left
      · simp only [Act.put, List.setIfInBounds_toArray, List.set_cons_zero, List.set_cons_succ, i64_w, i32_w]
        rfl
      refine done_ (done_of HT_.out (by kernel_rfl)) ?_
      try go_wp2
      go_meet
      exact ⟨by rw [ok_root hrt]; rfl, ⟨HS.out⟩⟩
    · refine pure_ (i := 2) (N := some 18) (v := ?_) (a' := ?_) #[true, true, true, false, false, false, false, false, false, false, false, false, false, false, false, false] rfl rfl (any_of HT_.out (by kernel_rfl)) (fun _ _ _ h => h) (Or.inl ⟨by rfl, ?_⟩) ?_ ?_
      rotate_left
      · intro w'
        go_simp
        with_reducible rfl
      rotate_left
      · simp only [Act.put, List.setIfInBounds_toArray, List.set_cons_zero, List.set_cons_succ, i64_w, i32_w]
        rfl
      refine pure_ (i := 3) (N := some 19) (v := ?_) (a' := ?_) #[true, true, true, true, false, false, false, false, false, false, false, false, false, false, false, false] rfl rfl (any_of HT_.out (by kernel_rfl)) (fun _ _ _ h => h) (Or.inl ⟨by rfl, ?_⟩) ?_ ?_
      rotate_left
      · intro w'
        go_simp
        with_reducible rfl
      rotate_left
      · simp only [Act.put, List.setIfInBounds_toArray, List.set_cons_zero, List.set_cons_succ, i64_w, i32_w]
        rfl
      refine take_ (i := 4) (N := some 20) (v := ?_) (a' := ?_) #[true, true, true, true, true, false, false, false, false, false, false, false, false, false, false, false] rfl rfl (take_ofW HT_.out HW_.out (by kernel_rfl)) (fun _ _ _ h => h) (Or.inl ⟨by rfl, ?_⟩) hHeld ?_ ?_
      rotate_left
      · rintro w' ⟨h0, h1, h2, h3, h4⟩
        go_simp
        with_reducible rfl
      rotate_left
      · simp only [Act.put, List.setIfInBounds_toArray, List.set_cons_zero, List.set_cons_succ, i64_w, i32_w]
        rfl
      refine one_ (i := 5) (N := (some 21)) #[true, true, true, true, true, true, false, false, false, false, false, false, false, false, false, false] rfl rfl (one_of HT_.out (by kernel_rfl)) (by decide) (fun K hK => ?_)
      refine goes_ Try.func48 (by kernel_rfl) rfl #[.agg #[.int .i64 no, .slice B3 es.length d3, .bool gone]] (by rfl) rfl rfl (by (try simp only [List.map_toArray, List.map_cons, List.map_nil]); first | done | rfl) ?_
      with_reducible refine (cobwebref11_Leaf.calls k2 no _ d3 es gone (leafB es gone) _ (Kd.C_below HR3.out HS.out.below) HC3.out HLF.out).mono ?_
      rintro e wb ⟨rfl, hb⟩
      refine ⟨_, rfl, ?_⟩
      have n_ := Lib.hid (HS.out.step hb); clear HS; have HS := n_; clear n_
      clear hb
      refine hK.out _ _ (Rt.held HS.out) (fun hHeld => ?_)
      clear hK K
      refine norm_ (a' := ?_) ?_ ?_
      rotate_left
      · show Act.put _ (some 21) _ = _
        simp only [Act.put, List.setIfInBounds_toArray, List.set_cons_zero, List.set_cons_succ, i64_w, i32_w]
        rfl
      cases hlf : leafB es gone
      · refine pure_ (i := 6) (N := some 22) (v := ?_) (a' := ?_) #[true, true, true, true, true, true, true, false, false, false, false, false, false, false, false, false] rfl rfl (any_of HT_.out (by kernel_rfl)) (fun _ _ _ h => h) (Or.inl ⟨by rfl, ?_⟩) ?_ ?_
        rotate_left
        · intro w'
          go_simp
          with_reducible rfl
        rotate_left
        · simp only [Act.put, List.setIfInBounds_toArray, List.set_cons_zero, List.set_cons_succ, i64_w, i32_w]
          rfl
        refine pure_ (i := 7) (N := some 23) (v := ?_) (a' := ?_) #[true, true, true, true, true, true, true, true, false, false, false, false, false, false, false, false] rfl rfl (any_of HT_.out (by kernel_rfl)) (fun _ _ _ h => h) (Or.inl ⟨by rfl, ?_⟩) ?_ ?_
        rotate_left
        · intro w'
          go_simp
          with_reducible rfl
        rotate_left
        · simp only [Act.put, List.setIfInBounds_toArray, List.set_cons_zero, List.set_cons_succ, i64_w, i32_w]
          rfl
        refine pure_ (i := 8) (N := some 24) (v := ?_) (a' := ?_) #[true, true, true, true, true, true, true, true, true, false, false, false, false, false, false, false] rfl rfl (any_of HT_.out (by kernel_rfl)) (fun _ _ _ h => h) (Or.inl ⟨by rfl, ?_⟩) ?_ ?_
        rotate_left
        · intro w'
          go_simp
          with_reducible rfl
        rotate_left
        · simp only [Act.put, List.setIfInBounds_toArray, List.set_cons_zero, List.set_cons_succ, i64_w, i32_w]
          rfl
        refine pure_ (i := 9) (N := some 25) (v := undef) (a' := ?_) #[true, true, true, true, true, true, true, true, true, true, false, false, false, false, false, false] rfl rfl (any_of HT_.out (by kernel_rfl)) (fun _ _ _ h => h) (Or.inr ⟨by rfl, rfl⟩) ?_ ?_
        rotate_left
        · simp only [Act.put, List.setIfInBounds_toArray, List.set_cons_zero, List.set_cons_succ, i64_w, i32_w]
          rfl
        refine pure_ (i := 10) (N := some 26) (v := undef) (a' := ?_) #[true, true, true, true, true, true, true, true, true, true, true, false, false, false, false, false] rfl rfl (any_of HT_.out (by kernel_rfl)) (fun _ _ _ h => h) (Or.inr ⟨by rfl, rfl⟩) ?_ ?_
        rotate_left
        · simp only [Act.put, List.setIfInBounds_toArray, List.set_cons_zero, List.set_cons_succ, i64_w, i32_w]
          rfl
        refine pure_ (i := 11) (N := some 27) (v := undef) (a' := ?_) #[true, true, true, true, true, true, true, true, true, true, true, true, false, false, false, false] rfl rfl (any_of HT_.out (by kernel_rfl)) (fun _ _ _ h => h) (Or.inr ⟨by rfl, rfl⟩) ?_ ?_
        rotate_left
        · simp only [Act.put, List.setIfInBounds_toArray, List.set_cons_zero, List.set_cons_succ, i64_w, i32_w]
          rfl
        refine pure_ (i := 12) (N := some 28) (v := undef) (a' := ?_) #[true, true, true, true, true, true, true, true, true, true, true, true, true, false, false, false] rfl rfl (any_of HT_.out (by kernel_rfl)) (fun _ _ _ h => h) (Or.inr ⟨by rfl, rfl⟩) ?_ ?_
        rotate_left
        · simp only [Act.put, List.setIfInBounds_toArray, List.set_cons_zero, List.set_cons_succ, i64_w, i32_w]
          rfl
        refine pure_ (i := 13) (N := some 29) (v := undef) (a' := ?_) #[true, true, true, true, true, true, true, true, true, true, true, true, true, true, false, false] rfl rfl (any_of HT_.out (by kernel_rfl)) (fun _ _ _ h => h) (Or.inr ⟨by rfl, rfl⟩) ?_ ?_
        rotate_left
        · simp only [Act.put, List.setIfInBounds_toArray, List.set_cons_zero, List.set_cons_succ, i64_w, i32_w]
          rfl
        refine pure_ (i := 14) (N := some 30) (v := undef) (a' := ?_) #[true, true, true, true, true, true, true, true, true, true, true, true, true, true, true, false] rfl rfl (any_of HT_.out (by kernel_rfl)) (fun _ _ _ h => h) (Or.inr ⟨by rfl, rfl⟩) ?_ ?_
        rotate_left
        · simp only [Act.put, List.setIfInBounds_toArray, List.set_cons_zero, List.set_cons_succ, i64_w, i32_w]
          rfl
        refine pure_ (i := 15) (N := some 31) (v := ?_) (a' := ?_) #[true, true, true, true, true, true, true, true, true, true, true, true, true, true, true, true] rfl rfl (any_of HT_.out (by kernel_rfl)) (fun _ _ _ h => h) (Or.inl ⟨by rfl, ?_⟩) ?_ ?_
        rotate_left
        · intro w'
          go_simp
          with_reducible rfl
        rotate_left
        · simp only [Act.put, List.setIfInBounds_toArray, List.set_cons_zero, List.set_cons_succ, i64_w, i32_w]
          rfl
        refine done_ (done_of HT_.out (by kernel_rfl)) ?_
        try go_wp2
        go_meet
        exact ⟨by rw [ok_leaf hlf]; rfl, ⟨HS.out⟩⟩
      · refine pure_ (i := 6) (N := some 22) (v := ?_) (a' := ?_) #[true, true, true, true, true, true, true, false, false, false, false, false, false, false, false, false] rfl rfl (any_of HT_.out (by kernel_rfl)) (fun _ _ _ h => h) (Or.inl ⟨by rfl, ?_⟩) ?_ ?_
        rotate_left
        · intro w'
          go_simp
          with_reducible rfl
        rotate_left
        · simp only [Act.put, List.setIfInBounds_toArray, List.set_cons_zero, List.set_cons_succ, i64_w, i32_w]
          rfl
        refine pure_ (i := 7) (N := some 23) (v := ?_) (a' := ?_) #[true, true, true, true, true, true, true, true, false, false, false, false, false, false, false, false] rfl rfl (any_of HT_.out (by kernel_rfl)) (fun _ _ _ h => h) (Or.inl ⟨by rfl, ?_⟩) ?_ ?_
        rotate_left
        · intro w'
          go_simp
          with_reducible rfl
        rotate_left
        · simp only [Act.put, List.setIfInBounds_toArray, List.set_cons_zero, List.set_cons_succ, i64_w, i32_w]
          rfl
        refine pure_ (i := 8) (N := some 24) (v := ?_) (a' := ?_) #[true, true, true, true, true, true, true, true, true, false, false, false, false, false, false, false] rfl rfl (any_of HT_.out (by kernel_rfl)) (fun _ _ _ h => h) (Or.inl ⟨by rfl, ?_⟩) ?_ ?_
        rotate_left
        · intro w'
          go_simp
          with_reducible rfl
        rotate_left
        · simp only [Act.put, List.setIfInBounds_toArray, List.set_cons_zero, List.set_cons_succ, i64_w, i32_w]
          rfl
        refine pure_ (i := 10) (N := some 26) (v := ?_) (a' := ?_) #[true, true, true, true, true, true, true, true, true, false, true, false, false, false, false, false] rfl rfl (any_of HT_.out (by kernel_rfl)) (fun _ _ _ h => h) (Or.inl ⟨by rfl, ?_⟩) ?_ ?_
        rotate_left
        · intro w'
          go_simp
          with_reducible rfl
        rotate_left
        · simp only [Act.put, List.setIfInBounds_toArray, List.set_cons_zero, List.set_cons_succ, i64_w, i32_w]
          rfl
        refine pure_ (i := 12) (N := some 28) (v := ?_) (a' := ?_) #[true, true, true, true, true, true, true, true, true, false, true, false, true, false, false, false] rfl rfl (any_of HT_.out (by kernel_rfl)) (fun _ _ _ h => h) (Or.inl ⟨by rfl, ?_⟩) ?_ ?_
        rotate_left
        · intro w'
          go_simp
          with_reducible rfl
        rotate_left
        · simp only [Act.put, List.setIfInBounds_toArray, List.set_cons_zero, List.set_cons_succ, i64_w, i32_w]
          rfl
        refine take_ (i := 9) (N := some 25) (v := ?_) (a' := ?_) #[true, true, true, true, true, true, true, true, true, true, true, false, true, false, false, false] rfl rfl (take_ofW HT_.out HW_.out (by kernel_rfl)) (fun _ _ _ h => h) (Or.inl ⟨by rfl, ?_⟩) hHeld ?_ ?_
        rotate_left
        · rintro w' ⟨h0, h1, h2, h3, h4⟩
          go_simp
          with_reducible rfl
        rotate_left
        · simp only [Act.put, List.setIfInBounds_toArray, List.set_cons_zero, List.set_cons_succ, i64_w, i32_w]
          rfl
        refine take_ (i := 13) (N := some 29) (v := ?_) (a' := ?_) #[true, true, true, true, true, true, true, true, true, true, true, false, true, true, false, false] rfl rfl (take_ofW HT_.out HW_.out (by kernel_rfl)) (fun _ _ _ h => h) (Or.inl ⟨by rfl, ?_⟩) hHeld ?_ ?_
        rotate_left
        · rintro w' ⟨h0, h1, h2, h3, h4⟩
          go_simp
          with_reducible rfl
        rotate_left
        · simp only [Act.put, List.setIfInBounds_toArray, List.set_cons_zero, List.set_cons_succ, i64_w, i32_w]
          rfl
        refine one_ (i := 11) (N := (some 27)) #[true, true, true, true, true, true, true, true, true, true, true, true, true, true, false, false] rfl rfl (one_of HT_.out (by kernel_rfl)) (by decide) (fun K hK => ?_)
        refine goes_ Try.func26 (by kernel_rfl) rfl #[.agg #[.slice B0 a.length d0, .slice B1 b.length d1], .string s] (by rfl) rfl rfl (by (try simp only [List.map_toArray, List.map_cons, List.map_nil]); first | done | rfl) ?_
        with_reducible refine (cobwebref11_Find.calls k3 _ d0 a _ d1 b s (findB a b s) _ (Kd.C_below HR0.out HS.out.below) HC0.out (Kd.C_below HR1.out HS.out.below) HC1.out HFD.out).mono ?_
        rintro e wb ⟨rfl, hb⟩
        refine ⟨_, rfl, ?_⟩
        have n_ := Lib.hid (HS.out.step hb); clear HS; have HS := n_; clear n_
        clear hb
        refine hK.out _ _ (Rt.held HS.out) (fun hHeld => ?_)
        clear hK K
        refine norm_ (a' := ?_) ?_ ?_
        rotate_left
        · show Act.put _ (some 27) _ = _
          simp only [Act.put, List.setIfInBounds_toArray, List.set_cons_zero, List.set_cons_succ, i64_w, i32_w]
          rfl
        refine pure_ (i := 14) (N := some 30) (v := ?_) (a' := ?_) #[true, true, true, true, true, true, true, true, true, true, true, true, true, true, true, false] rfl rfl (any_of HT_.out (by kernel_rfl)) (fun _ _ _ h => h) (Or.inl ⟨by rfl, ?_⟩) ?_ ?_
        rotate_left
        · intro w'
          go_simp
          with_reducible rfl
        rotate_left
        · simp only [Act.put, List.setIfInBounds_toArray, List.set_cons_zero, List.set_cons_succ, i64_w, i32_w]
          rfl
        refine pure_ (i := 15) (N := some 31) (v := ?_) (a' := ?_) #[true, true, true, true, true, true, true, true, true, true, true, true, true, true, true, true] rfl rfl (any_of HT_.out (by kernel_rfl)) (fun _ _ _ h => h) (Or.inl ⟨by rfl, ?_⟩) ?_ ?_
        rotate_left
        · intro w'
          go_simp
          with_reducible rfl
        rotate_left
        · simp only [Act.put, List.setIfInBounds_toArray, List.set_cons_zero, List.set_cons_succ, i64_w, i32_w]
          rfl
        refine done_ (done_of HT_.out (by kernel_rfl)) ?_
        try go_wp2
        go_meet
        exact ⟨by rw [ok_find hrt hlf]; first | rfl | (rw [Bool.not_not]; rfl) | (simp; done), ⟨HS.out⟩⟩
  case rest =>
    clear HS HRT HLF HFD
    obtain ⟨rfl, HS⟩ := hcut
    cases hok : okL a b no es gone s with
    | false =>
      obtain ⟨rfl, rfl, rfl, rfl⟩ := ins_a HL.out HI.out hok
      go_wp2_with (first | ((with_reducible refine gate_store (t := 26) (p := 6) rfl ?_); refine store_row rfl rfl rfl g6 _ 26 [.slice none 0 0, .slice none 0 0] rfl (.agg #[.slice none 0 0, .slice none 0 0]) ?haC ?hbC HS.out.x6 rfl (by kernel_rfl) (two26 none 0 0 none 0 0) ?_; (case haC => rfl); (case hbC => first | rfl | simp [Value.cells]); intro w8 hbox hg hz; have HX8 := Lib.hid hbox; have HB8 := Lib.hid (below_own HS.out.below hg HS.out.b6 HS.out.below.size); clear hbox hg hz))
      refine bodyPost_ret (results_list (rs := [.cell 6 26, .tmp 7, .tmp 8]) rfl (by simp) (.cell g6 26 #[.slice none 0 0, .slice none 0 0] (0, 0) _ rfl HX8.out Try.underlying26 rfl (by kernel_rfl) (.tmp (.tmp .nil)))) rfl ?_
      exact nil_post HB8.out
    | true =>
      obtain ⟨hgn, hl4, hri⟩ := leafB_iff.1 (okL_iff.1 hok).1
      subst hgn
      have HRI := Lib.hid hri
      have HOK := Lib.hid hok
      have HRR := Lib.hid (okL_root hok)
      clear hri
      by_cases hz : 600 < s.size
      · obtain ⟨rfl, rfl, rfl, rfl⟩ := ins_b HL.out HI.out hok hz
        have hz1 : decide ((600 : Int) < (s.size : Int)) = true := decide_eq_true (by omega)
        have hz2 : decide (600 < s.size) = true := decide_eq_true hz
        go_wp2_with (first | ((with_reducible refine gate_store (t := 26) (p := 6) rfl ?_); refine store_row rfl rfl rfl g6 _ 26 [.slice none 0 0, .slice none 0 0] rfl (.agg #[.slice none 0 0, .slice none 0 0]) ?haC ?hbC HS.out.x6 rfl (by kernel_rfl) (two26 none 0 0 none 0 0) ?_; (case haC => rfl); (case hbC => first | rfl | simp [Value.cells]); intro w8 hbox hg hz; have HX8 := Lib.hid hbox; have HB8 := Lib.hid (below_own HS.out.below hg HS.out.b6 HS.out.below.size); clear hbox hg hz))
        refine bodyPost_ret (results_list (rs := [.cell 6 26, .tmp 7, .tmp 8]) rfl (by simp) (.cell g6 26 #[.slice none 0 0, .slice none 0 0] (0, 0) _ rfl HX8.out Try.underlying26 rfl (by kernel_rfl) (.tmp (.tmp .nil)))) rfl ?_
        exact nil_post HB8.out
      have hz1 : decide ((600 : Int) < (s.size : Int)) = false := decide_eq_false (by omega)
      have hz2 : decide (600 < s.size) = false := decide_eq_false hz
      cases hf : fndS s es with
      | true =>
        obtain ⟨rfl, rfl, rfl, rfl⟩ := ins_c HL.out HI.out hok hz hf
        have HHS := Lib.hid (show cobwebref11_has.f (es.length + 1) es s = some (loS s es : Int) by rw [ref_has es s (by omega) HRI.out (by omega), if_pos hf])
        obtain ⟨q30, q31, q40, q41, q42⟩ := HS.out.held
        go_wp2_with (first | (go_at_call 49; refine (cobwebref11_has.calls (es.length + 1) _ d3 es s _ _ (Kd.C_below HR3.out HS.out.below) HC3.out HHS.out).mono ?_; rintro e w7 ⟨rfl, hd⟩; have n_ := Lib.hid (HS.out.step hd.below); clear HS; have HS := n_; clear n_; clear hd q30 q31 q40 q41 q42; refine Hold.go ?_))
        refine Hold.of ?_
        go_wp2_with (first | ((with_reducible refine gate_store (t := 26) (p := 6) rfl ?_); refine store_row rfl rfl rfl g6 _ 26 [.slice none 0 0, .slice none 0 0] rfl (.agg #[.slice none 0 0, .slice none 0 0]) ?haC ?hbC HS.out.x6 rfl (by kernel_rfl) (two26 none 0 0 none 0 0) ?_; (case haC => rfl); (case hbC => first | rfl | simp [Value.cells]); intro w8 hbox hg hz; have HX8 := Lib.hid hbox; have HB8 := Lib.hid (below_own HS.out.below hg HS.out.b6 HS.out.below.size); clear hbox hg hz))
        refine bodyPost_ret (results_list (rs := [.cell 6 26, .tmp 7, .tmp 8]) rfl (by simp) (.cell g6 26 #[.slice none 0 0, .slice none 0 0] (0, 0) _ rfl HX8.out Try.underlying26 rfl (by kernel_rfl) (.tmp (.tmp .nil)))) rfl ?_
        exact nil_post HB8.out
      | false =>
        have HHS := Lib.hid (show cobwebref11_has.f (es.length + 1) es s = some (-1) by rw [ref_has es s (by omega) HRI.out (by omega), if_neg (by rw [hf]; decide)])
        obtain ⟨q30, q31, q40, q41, q42⟩ := HS.out.held
        go_wp2_with (first | (go_at_call 49; refine (cobwebref11_has.calls (es.length + 1) _ d3 es s _ _ (Kd.C_below HR3.out HS.out.below) HC3.out HHS.out).mono ?_; rintro e w7 ⟨rfl, hd⟩; have n_ := Lib.hid (HS.out.step hd.below); clear HS; have HS := n_; clear n_; clear hd q30 q31 q40 q41 q42; refine Hold.go ?_))
        refine Hold.of ?_
        have hlo := loS_le s es
        clear HHS hok
        go_wp2
        go_loopg [9] es.length (fun d v9 w' => ∃ (i : Nat), v9 = .int .i64 i ∧ i ≤ loS s es ∧ Aside0 (d = es.length - i) ∧ Aside0 (Rt w w' g3 g4 g6 (.slice B0 a.length d0) (.slice B1 b.length d1) no (.slice B3 es.length d3) false))
        case atStart => exact ⟨0, rfl, Nat.zero_le _, ⟨rfl⟩, ⟨HS.out⟩⟩
        case round =>
          clear HS
          obtain ⟨i, rfl, hi, HD, HS⟩ := hrel
          go_upto_region 8 with (fail)
          go_cut [57] (fun v57 wc => v57 = .bool (decide (i < loS s es)) ∧ Aside0 (Rt w wc g3 g4 g6 (.slice B0 a.length d0) (.slice B1 b.length d1) no (.slice B3 es.length d3) false))
          case first =>
            obtain ⟨q30, q31, q40, q41, q42⟩ := HS.out.held
            by_cases hlt : i < es.length
            · obtain ⟨ad, e3, hse⟩ := Kd.at_string (Kd.C_below HR3.out HS.out.below) (i : Int) (by omega) (by omega)
              subst e3
              simp only [Int.toNat_natCast] at hse
              have hi0 := eq_true (show (0 : Int) ≤ (i : Int) by omega)
              have hi1 := eq_true (show (i : Int) < (es.length : Int) by omega)
              have hi2 : decide ((i : Int) < (es.length : Int)) = true := decide_eq_true (by omega)
              have hi3 : decide (i < es.length) = true := decide_eq_true hlt
              have hi4 := eq_true hlt
              have HOR := Lib.hid (order_spec (rdOf ByteArray.empty es (i : Int)) s (rd_size HZE.out _) HZS.out (Nat.le_refl _))
              have hcm : decide (ordB (rdOf ByteArray.empty es (i : Int)) s < 0) = decide (i < loS s es) := by
                rcases cmp_lo (s := s) HRI.out hlt with ⟨h1, h2⟩ | ⟨h1, h2, h3⟩ | ⟨h1, h2, h3⟩
                · rw [decide_eq_true h1, decide_eq_true h2]
                · rw [decide_eq_false (show ¬ i < loS s es by omega), decide_eq_false (show ¬ ordB (rdOf ByteArray.empty es (i : Int)) s < 0 by omega)]
                · rw [decide_eq_false (show ¬ i < loS s es by omega), decide_eq_false (show ¬ ordB (rdOf ByteArray.empty es (i : Int)) s < 0 by omega)]
              generalize ordB (rdOf ByteArray.empty es (i : Int)) s = q at *
              generalize rdOf ByteArray.empty es (i : Int) = x at *
              generalize decide (i < loS s es) = bb at *
              go_wp2_with (first | (go_at_call 14; refine (cobwebref02_Order.calls 2002 x s q _ HOR.out).mono ?_; rintro e w9 ⟨rfl, hd⟩; have n_ := Lib.hid (HS.out.step hd.below); clear HS; have HS := n_; clear n_; clear hd q30 q31 q40 q41 q42 hse))
              go_meet
              exact ⟨rfl, ⟨HS.out⟩⟩
            · have hi2 : decide ((i : Int) < (es.length : Int)) = false := decide_eq_false (by omega)
              have hi3 : decide (i < es.length) = false := decide_eq_false hlt
              have hi5 : decide (i < loS s es) = false := decide_eq_false (by omega)
              go_wp2
              go_meet
              exact ⟨by rw [hi5], ⟨HS.out⟩⟩
          case rest =>
            clear HS
            obtain ⟨rfl, HS⟩ := hcut
            by_cases hl : i < loS s es
            · rw [decide_eq_true hl]
              go_wp2
              go_roundg (es.length - (i + 1))
              case measure => have := HD.out; omega
              case rel => exact ⟨i + 1, by go_num, by omega, ⟨rfl⟩, ⟨HS.out⟩⟩
            · have hie : i = loS s es := by omega
              subst hie
              rw [decide_eq_false hl]
              clear HD hi
              obtain ⟨q30, q31, q40, q41, q42⟩ := HS.out.held
              go_wp2_with (first | (go_at_call 50; refine (put_at (i := loS s es) (s := s) (Kd.C_below HR3.out HS.out.below) HC3.out hlo (by omega) rfl).mono ?_; rintro e w9 ⟨v_, rfl, hv, hb⟩; obtain ⟨A10, c10, rfl⟩ := Kd.R_slice hv; have H10 := Lib.hid (Kd.R_lower hv HS.out.below.size); have n_ := Lib.hid (HS.out.step hb); clear HS; have HS := n_; clear n_; clear hv hb q30 q31 q40 q41 q42; refine Hold.go ?_))
              have H10b := Lib.hid (show Kd.R Kd.string 9 w9 w.heap.size (fun _ => True) (.slice A10 (insS s es).length c10) (insS s es) from H10.out)
              clear H10
              have H10 := H10b
              clear H10b
              show Hold _
              have hids : (insAt (loS s es) s es).length = (insS s es).length := rfl
              rw [hids]
              have hil := insS_len s es
              have HIL := Lib.hid hil
              generalize hgi : insS s es = ids at *
              have HGI := Lib.hid hgi
              clear hids hgi hl
              refine Hold.of ?_
              by_cases h4 : ids.length ≤ 4
              · obtain ⟨rfl, rfl, rfl, rfl⟩ := ins_d HL.out HI.out HOK.out hz hf (by rw [HGI.out]; exact h4)
                have hlb1 : decide ((ids.length : Int) ≤ 4) = true := decide_eq_true (by omega)
                have hlb2 : decide (ids.length ≤ 4) = true := decide_eq_true h4
                obtain ⟨q30, q31, q40, q41, q42⟩ := HS.out.held
                have q60 : w9.cell? ⟨g6, 0, none⟩ = some (.slice none 0 0) := (blk_cell HS.out.x6 0).trans rfl
                have q61 : w9.cell? ⟨g6, 1, none⟩ = some (.slice none 0 0) := (blk_cell HS.out.x6 1).trans rfl
                have f60 := blk_frozen HS.out.x6 0
                have f61 := blk_frozen HS.out.x6 1
                have b3 := blk_lt HS.out.x3
                have b4 := blk_lt HS.out.x4
                have b6 := blk_lt HS.out.x6
                have n36 := HS.out.n36
                have n46 := HS.out.n46
                have n63 := n36.symm
                have n64 := n46.symm
                clear hil
                go_upto_region 12 with (fail)
                go_region
                all_goals go_wp2
                obtain ⟨hx, hb, _⟩ := HS.out.out (.slice B0 a.length d0) (.slice B1 b.length d1) (.cells #[.int .i64 no, .slice A10 ids.length c10, .bool false] 28 (0, 0))
                refine bodyPost_ret (results_list (rs := [.cell 6 26, .tmp 7, .tmp 8]) rfl (by simp) (.cell g6 26 #[.slice B0 a.length d0, .slice B1 b.length d1] (0, 0) _ rfl hx Try.underlying26 rfl (by kernel_rfl) (.tmp (.tmp .nil)))) rfl ?_
                rw [HGI.out]
                exact ⟨B0, d0, B1, d1, some ⟨w9.heap.size, 0, none⟩, 1, rfl, ⟨Kd.C_below HR0.out hb, HC0.out⟩, ⟨Kd.C_below HR1.out hb, HC1.out⟩, ⟨HS.out.fin1 H10.out no false, Nat.le_refl _⟩, hb⟩
              · obtain ⟨m, hm, rfl, rfl, rfl, rfl⟩ := ins_e HL.out HI.out HOK.out hz hf (by rw [HGI.out]; exact h4)
                have HM := Lib.hid hm
                clear hm
                have HL5 := Lib.hid (show ids.length = 5 by omega)
                have hlb1 : decide ((ids.length : Int) ≤ 4) = false := decide_eq_false (by omega)
                have hlb2 : decide (ids.length ≤ 4) = false := decide_eq_false h4
                clear hil
                go_wp2
                go_loopg [11, 12] b.length (fun d v11 v12 w' => ∃ (i : Nat) (n : Int), v11 = .int .i64 n ∧ v12 = .int .i64 i ∧ i ≤ b.length ∧ Aside0 (d = b.length - i) ∧ Aside0 (FreshO b m i n) ∧ Aside0 (Rt w w' g3 g4 g6 (.slice B0 a.length d0) (.slice B1 b.length d1) no (.slice B3 es.length d3) false) ∧ Aside0 (Kd.R Kd.string 9 w' w.heap.size (fun _ => True) (.slice A10 ids.length c10) ids))
                case atStart => exact ⟨0, 1, rfl, rfl, Nat.zero_le _, ⟨rfl⟩, ⟨fresh_begin b m HM.out⟩, ⟨HS.out⟩, ⟨H10.out⟩⟩
                case round =>
                  clear HS H10
                  obtain ⟨i, n, rfl, rfl, hi, HD, HF, HS, H10⟩ := hrel
                  obtain ⟨q30, q31, q40, q41, q42⟩ := HS.out.held
                  by_cases hlt : i < b.length
                  · have hi2 : decide ((i : Int) < (b.length : Int)) = true := decide_eq_true (by omega)
                    have hi3 : decide (i < b.length) = true := decide_eq_true hlt
                    go_wp2
                    go_loopg [11, 13] b.length (fun d v11 v13 w' => ∃ (k : Nat) (q : Int), v11 = .int .i64 q ∧ v13 = .int .i64 k ∧ k ≤ b.length ∧ Aside0 (d = b.length - k) ∧ Aside0 (q ≤ m ∧ FreshN b n k q) ∧ Aside0 (Rt w w' g3 g4 g6 (.slice B0 a.length d0) (.slice B1 b.length d1) no (.slice B3 es.length d3) false) ∧ Aside0 (Kd.R Kd.string 9 w' w.heap.size (fun _ => True) (.slice A10 ids.length c10) ids))
                    case atStart => exact ⟨0, n, rfl, rfl, Nat.zero_le _, ⟨rfl⟩, ⟨HF.out.2.1, fresh_in⟩, ⟨HS.out⟩, ⟨H10.out⟩⟩
                    case round =>
                      clear HS H10 q30 q31 q40 q41 q42 hi2 hi3
                      obtain ⟨k, q, rfl, rfl, hk, HDk, HQ, HS, H10⟩ := hrel
                      obtain ⟨q30, q31, q40, q41, q42⟩ := HS.out.held
                      by_cases hkl : k < b.length
                      · obtain ⟨ad5, e5, hx5⟩ := Kd.at_int (Kd.C_below HR1.out HS.out.below) (k : Int) (by omega) (by omega)
                        subst e5
                        simp only [Int.toNat_natCast] at hx5
                        have hk0 := eq_true (show (0 : Int) ≤ (k : Int) by omega)
                        have hk1 := eq_true (show (k : Int) < (b.length : Int) by omega)
                        have hk2 : decide ((k : Int) < (b.length : Int)) = true := decide_eq_true (by omega)
                        have hk3 : decide (k < b.length) = true := decide_eq_true hkl
                        have hk4 := eq_true hkl
                        by_cases hqe : rd b (k : Int) = q
                        · have hfh := fresh_hit HM.out HQ.out.1 HQ.out.2 hkl hqe
                          rw [hqe] at hx5
                          have hbl := fresh_le b _ _ _ HM.out
                          have hq1 : 1 ≤ q := by have := HQ.out.2.1; have := HF.out.1; omega
                          have hqw : wrap64 (q + 1) = q + 1 := w64 (by omega) (by omega)
                          have HFH := Lib.hid hfh
                          have HQW := Lib.hid hqw
                          clear hfh hbl hqe hq1 hqw
                          go_wp2
                          go_roundg (b.length - (k + 1))
                          case measure => have := HDk.out; omega
                          case rel => exact ⟨k + 1, q + 1, by first | go_num | exact congrArg _ HQW.out | rfl, by go_num, by omega, ⟨rfl⟩, ⟨HFH.out⟩, ⟨HS.out⟩, ⟨H10.out⟩⟩
                        · have hfm := fresh_miss HQ.out.2 hkl hqe
                          have hqe1 : (rd b (k : Int) == q) = false := beq_eq_false_iff_ne.mpr hqe
                          have hqe2 : decide (rd b (k : Int) = q) = false := decide_eq_false hqe
                          have HFM := Lib.hid hfm
                          clear hfm
                          generalize rd b (k : Int) = y at *
                          go_wp2
                          go_roundg (b.length - (k + 1))
                          case measure => have := HDk.out; omega
                          case rel => exact ⟨k + 1, q, rfl, by go_num, by omega, ⟨rfl⟩, ⟨HQ.out.1, HFM.out⟩, ⟨HS.out⟩, ⟨H10.out⟩⟩
                      · have hke : k = b.length := by omega
                        subst hke
                        have HFO := Lib.hid (fresh_out HM.out HF.out HQ.out.1 HQ.out.2)
                        go_wp2
                        go_roundg (b.length - (i + 1))
                        case measure => have := HD.out; omega
                        case rel => exact ⟨i + 1, q, rfl, by go_num, by omega, ⟨rfl⟩, ⟨HFO.out⟩, ⟨HS.out⟩, ⟨H10.out⟩⟩
                  · have hie : i = b.length := by omega
                    subst hie
                    have hnm := fresh_end HM.out HF.out
                    subst hnm
                    clear HD HF hlt hi
                    have hrr := (HRR.out).2
                    have hat0 := atS_le s a
                    have HCN := Lib.hid (cntLe_rise s hrr.2)
                    have HBL := Lib.hid hrr.1
                    have HA2 := Lib.hid (show cobwebref11_At.f k4 a b s = some (atS s a : Int) by rw [HAT.out, HCN.out])
                    clear hrr
                    go_wp2_with (first | (go_at_call 51; refine (cobwebref11_At.calls k4 _ d0 a _ d1 b s (atS s a : Int) _ (Kd.C_below HR0.out HS.out.below) HC0.out (Kd.C_below HR1.out HS.out.below) HC1.out HA2.out).mono ?_; rintro e w11 ⟨rfl, hb⟩; have n_ := Lib.hid (Kd.R_below H10.out hb); clear H10; have H10 := n_; clear n_; have n_ := Lib.hid (HS.out.step hb); clear HS; have HS := n_; clear n_; clear hb q30 q31 q40 q41 q42; refine Hold.go ?_))
                    show Hold _
                    have h3l : 3 < ids.length := by have := HL5.out; omega
                    obtain ⟨ad, e10, _⟩ := Kd.at_string (Kd.R_reads' H10.out).2.2 3 (by omega) (by omega)
                    subst e10
                    have h3a := eq_true (show (3 : Int) < (ids.length : Int) by omega)
                    have h3b := eq_true h3l
                    have h3c : decide ((3 : Int) < (ids.length : Int)) = true := decide_eq_true (by omega)
                    have h3d : decide (3 < ids.length) = true := decide_eq_true h3l
                    generalize hx3 : rdOf ByteArray.empty ids 3 = x3 at *
                    have HX3 := Lib.hid hx3
                    clear hx3
                    refine Hold.of ?_
                    go_upto_region 23 with (fail)
                    go_cut [15] (fun v15 wc => ∃ (g15 : Nat) (AS : Option Addr) (cS : Nat), v15 = .pointer (some ⟨g15, 0, none⟩) ∧ Aside0 (Rt w wc g3 g4 g6 (.slice B0 a.length d0) (.slice B1 b.length d1) no (.slice B3 es.length d3) false) ∧ Aside0 (Nx w wc g3 g4 g6 g15 (.slice AS (insAt (atS s a) x3 a).length cS) (.slice none 0 0) (.slice AS (insAt (atS s a) x3 a).length cS) (.slice none 0 0) (.slice (some ad) ids.length c10) (insAt (atS s a) x3 a) [] ids))
                    case first =>
                      refine start_ (n := 10) (S := (fun W_ => heldR g3 g4 (.slice B0 a.length d0) (.slice B1 b.length d1) no (.slice B3 es.length d3) false W_ ∧ W_.cell? ⟨ad.block, ad.off + 3, none⟩ = some (.string x3))) (ds := []) #[false, false, false, false, false, false, false, false, false, false] (by kernel_rfl) rfl rfl ⟨Rt.held (HS.out.step (below_drew1 (Below.refl _ _))), (by have := third (Kd.R_below H10.out (below_drew1 (Below.refl _ _))) h3l; rwa [HX3.out] at this)⟩ (fun hHeld => ?_); refine with_tabW ri23Tab ri23Waits (fun HT_ HW_ => ?_)
                      have n_ := Lib.hid (Kd.R_below H10.out (below_drew1 (Below.refl _ _))); clear H10; have H10 := n_; clear n_
                      have n_ := Lib.hid (HS.out.step (below_drew1 (Below.refl _ _))); clear HS; have HS := n_; clear n_
                      generalize World.drew _ = wa at HS H10 hHeld ⊢
                      refine pure_ (i := 0) (N := some 100) (v := ?_) (a' := ?_) #[true, false, false, false, false, false, false, false, false, false] rfl rfl (any_of HT_.out (by kernel_rfl)) (fun _ _ _ h => h) (Or.inl ⟨by rfl, ?_⟩) ?_ ?_
                      rotate_left
                      · intro w'
                        go_simp
                        with_reducible rfl
                      rotate_left
                      · simp only [Act.put, List.setIfInBounds_toArray, List.set_cons_zero, List.set_cons_succ, i64_w, i32_w]
                        rfl
                      refine pure_ (i := 2) (N := some 102) (v := ?_) (a' := ?_) #[true, false, true, false, false, false, false, false, false, false] rfl rfl (any_of HT_.out (by kernel_rfl)) (fun _ _ _ h => h) (Or.inl ⟨by rfl, ?_⟩) ?_ ?_
                      rotate_left
                      · intro w'
                        go_simp
                        with_reducible rfl
                      rotate_left
                      · simp only [Act.put, List.setIfInBounds_toArray, List.set_cons_zero, List.set_cons_succ, i64_w, i32_w]
                        rfl
                      refine pure_ (i := 3) (N := some 103) (v := ?_) (a' := ?_) #[true, false, true, true, false, false, false, false, false, false] rfl rfl (any_of HT_.out (by kernel_rfl)) (fun _ _ _ h => h) (Or.inl ⟨by rfl, ?_⟩) ?_ ?_
                      rotate_left
                      · intro w'
                        go_simp
                        with_reducible rfl
                      rotate_left
                      · simp only [Act.put, List.setIfInBounds_toArray, List.set_cons_zero, List.set_cons_succ, i64_w, i32_w]
                        rfl
                      refine pure_ (i := 4) (N := some 104) (v := ?_) (a' := ?_) #[true, false, true, true, true, false, false, false, false, false] rfl rfl (any_of HT_.out (by kernel_rfl)) (fun _ _ _ h => h) (Or.inl ⟨by rfl, ?_⟩) ?_ ?_
                      rotate_left
                      · intro w'
                        go_simp
                        with_reducible rfl
                      rotate_left
                      · simp only [Act.put, List.setIfInBounds_toArray, List.set_cons_zero, List.set_cons_succ, i64_w, i32_w]
                        rfl
                      refine take_ (i := 1) (N := some 101) (v := ?_) (a' := ?_) #[true, true, true, true, true, false, false, false, false, false] rfl rfl (take_ofW HT_.out HW_.out (by kernel_rfl)) (fun _ _ _ h => h) (Or.inl ⟨by rfl, ?_⟩) hHeld ?_ ?_
                      rotate_left
                      · rintro w' ⟨⟨h0, h1, h2, h3, h4⟩, h5⟩
                        go_simp
                        with_reducible rfl
                      rotate_left
                      · simp only [Act.put, List.setIfInBounds_toArray, List.set_cons_zero, List.set_cons_succ, i64_w, i32_w]
                        rfl
                      refine take_ (i := 5) (N := some 105) (v := ?_) (a' := ?_) #[true, true, true, true, true, true, false, false, false, false] rfl rfl (take_ofW HT_.out HW_.out (by kernel_rfl)) (fun _ _ _ h => h) (Or.inl ⟨by rfl, ?_⟩) hHeld ?_ ?_
                      rotate_left
                      · rintro w' ⟨⟨h0, h1, h2, h3, h4⟩, h5⟩
                        go_simp
                        with_reducible rfl
                      rotate_left
                      · simp only [Act.put, List.setIfInBounds_toArray, List.set_cons_zero, List.set_cons_succ, i64_w, i32_w]
                        rfl
                      refine two_ (i := 6) (j := 8) (Ni := (some 106)) (Nj := (some 15)) #[true, true, true, true, true, true, true, false, false, false] #[true, true, true, true, true, true, false, false, true, false] rfl rfl rfl rfl (two_of HT_.out (by kernel_rfl)) (by decide) (by decide) (fun K hK => ?_) (fun K hK => ?_)
                      · refine goes_ Try.func50 (by kernel_rfl) rfl #[.slice B0 a.length d0, .int .i64 (atS s a : Int), .string x3] (by rfl) rfl rfl (by (try simp only [List.map_toArray, List.map_cons, List.map_nil]); first | done | rfl) ?_
                        with_reducible refine (put_at (i := atS s a) (Kd.C_below HR0.out HS.out.below) HC0.out hat0 (by omega) rfl).mono ?_
                        rintro e wb ⟨v_, rfl, hv, hb⟩
                        refine ⟨_, rfl, ?_⟩
                        obtain ⟨AS, cS, rfl⟩ := Kd.R_slice hv
                        have HV := Lib.hid (Kd.R_lower hv HS.out.below.size)
                        have n_ := Lib.hid (Kd.R_below H10.out hb); clear H10; have H10 := n_; clear n_
                        have n_ := Lib.hid (HS.out.step hb); clear HS; have HS := n_; clear n_
                        clear hv hb
                        refine hK.out _ _ ⟨Rt.held HS.out, (by have := third H10.out h3l; rwa [HX3.out] at this)⟩ (fun hHeld => ?_)
                        clear hK K
                        refine norm_ (a' := ?_) ?_ ?_
                        rotate_left
                        · show Act.put _ (some 106) _ = _
                          simp only [Act.put, List.setIfInBounds_toArray, List.set_cons_zero, List.set_cons_succ, i64_w, i32_w]
                          rfl
                        refine pure_ (i := 7) (N := some 107) (v := ?_) (a' := ?_) #[true, true, true, true, true, true, true, true, false, false] rfl rfl (any_of HT_.out (by kernel_rfl)) (fun _ _ _ h => h) (Or.inl ⟨by rfl, ?_⟩) ?_ ?_
                        rotate_left
                        · intro w'
                          go_simp
                          with_reducible rfl
                        rotate_left
                        · simp only [Act.put, List.setIfInBounds_toArray, List.set_cons_zero, List.set_cons_succ, i64_w, i32_w]
                          rfl
                        refine one_ (i := 8) (N := (some 15)) #[true, true, true, true, true, true, true, true, true, false] rfl rfl (one_of HT_.out (by kernel_rfl)) (by decide) (fun K hK => ?_)
                        refine alloc_step (by rfl) (fun g => .pointer (some ⟨g, 0, none⟩)) (.cells #[.slice none 0 0, .slice none 0 0] 26 (0, 0)) ?hr ?_
                        (case hr => first | (go_simp; done) | (go_simp; rfl))
                        intro g15 hg wn hbox hb
                        have HG := Lib.hid (show g3 ≠ g15 ∧ g4 ≠ g15 ∧ g6 ≠ g15 ∧ w.heap.size ≤ g15 by have i1 := blk_lt HS.out.x3; have i2 := blk_lt HS.out.x4; have i3 := blk_lt HS.out.x6; have i4 := HS.out.below.size; refine ⟨?_, ?_, ?_, ?_⟩ <;> omega)
                        have HX := Lib.hid hbox
                        have n_ := Lib.hid (Kd.R_below H10.out hb); clear H10; have H10 := n_; clear n_
                        have n_ := Lib.hid (Kd.R_below HV.out hb); clear HV; have HV := n_; clear n_
                        have n_ := Lib.hid (HS.out.step hb); clear HS; have HS := n_; clear n_
                        clear hg hbox hb
                        refine hK.out _ _ ⟨Rt.held HS.out, (by have := third H10.out h3l; rwa [HX3.out] at this)⟩ (fun hHeld => ?_)
                        clear hK K
                        refine norm_ (a' := ?_) ?_ ?_
                        rotate_left
                        · show Act.put _ (some 15) _ = _
                          simp only [Act.put, List.setIfInBounds_toArray, List.set_cons_zero, List.set_cons_succ, i64_w, i32_w]
                          rfl
                        refine one_ (i := 9) (N := none) #[true, true, true, true, true, true, true, true, true, true] rfl rfl (one_of HT_.out (by kernel_rfl)) (by decide) (fun K hK => ?_)
                        refine store_step (by rfl) rfl rfl g15 _ 26 [.slice AS (insAt (atS s a) x3 a).length cS, .slice none 0 0] rfl (.agg #[.slice AS (insAt (atS s a) x3 a).length cS, .slice none 0 0]) ?haS ?hbS HX.out rfl (by kernel_rfl) (two26 AS _ cS none 0 0) ?_
                        (case haS => rfl)
                        (case hbS => first | rfl | simp [Value.cells])
                        intro wn hbox hg hz
                        have n_ := Lib.hid (Kd.R_grown1 H10.out rfl hg (Kd.R_ne H10.out HX.out (by decide))); clear H10; have H10 := n_; clear n_
                        have n_ := Lib.hid (Kd.R_grown1 HV.out rfl hg (Kd.R_ne HV.out HX.out (by decide))); clear HV; have HV := n_; clear n_
                        have n_ := Lib.hid (HS.out.far hg HG.out.1 HG.out.2.1 HG.out.2.2.1 HG.out.2.2.2); clear HS; have HS := n_; clear n_
                        have n_ := Lib.hid hbox; clear HX; have HX := n_; clear n_ hbox hg hz
                        refine hK.out _ _ ⟨Rt.held HS.out, (by have := third H10.out h3l; rwa [HX3.out] at this)⟩ (fun hHeld => ?_)
                        clear hK K
                        refine done_ (done_of HT_.out (by kernel_rfl)) ?_
                        try go_wp2
                        go_meet
                        exact ⟨g15, AS, cS, rfl, ⟨HS.out⟩, ⟨⟨HX.out, HV.out, Kd.R_nil _ _ _ _ _, H10.out, HG.out.1, HG.out.2.1, HG.out.2.2.1, HG.out.2.2.2⟩⟩⟩
                      · refine alloc_step (by rfl) (fun g => .pointer (some ⟨g, 0, none⟩)) (.cells #[.slice none 0 0, .slice none 0 0] 26 (0, 0)) ?hr ?_
                        (case hr => first | (go_simp; done) | (go_simp; rfl))
                        intro g15 hg wn hbox hb
                        have HG := Lib.hid (show g3 ≠ g15 ∧ g4 ≠ g15 ∧ g6 ≠ g15 ∧ w.heap.size ≤ g15 by have i1 := blk_lt HS.out.x3; have i2 := blk_lt HS.out.x4; have i3 := blk_lt HS.out.x6; have i4 := HS.out.below.size; refine ⟨?_, ?_, ?_, ?_⟩ <;> omega)
                        have HX := Lib.hid hbox
                        have n_ := Lib.hid (Kd.R_below H10.out hb); clear H10; have H10 := n_; clear n_
                        have n_ := Lib.hid (HS.out.step hb); clear HS; have HS := n_; clear n_
                        clear hg hbox hb
                        refine hK.out _ _ ⟨Rt.held HS.out, (by have := third H10.out h3l; rwa [HX3.out] at this)⟩ (fun hHeld => ?_)
                        clear hK K
                        refine norm_ (a' := ?_) ?_ ?_
                        rotate_left
                        · show Act.put _ (some 15) _ = _
                          simp only [Act.put, List.setIfInBounds_toArray, List.set_cons_zero, List.set_cons_succ, i64_w, i32_w]
                          rfl
                        refine one_ (i := 6) (N := (some 106)) #[true, true, true, true, true, true, true, false, true, false] rfl rfl (one_of HT_.out (by kernel_rfl)) (by decide) (fun K hK => ?_)
                        refine goes_ Try.func50 (by kernel_rfl) rfl #[.slice B0 a.length d0, .int .i64 (atS s a : Int), .string x3] (by rfl) rfl rfl (by (try simp only [List.map_toArray, List.map_cons, List.map_nil]); first | done | rfl) ?_
                        with_reducible refine (put_at (i := atS s a) (Kd.C_below HR0.out HS.out.below) HC0.out hat0 (by omega) rfl).mono ?_
                        rintro e wb ⟨v_, rfl, hv, hb⟩
                        refine ⟨_, rfl, ?_⟩
                        obtain ⟨AS, cS, rfl⟩ := Kd.R_slice hv
                        have HV := Lib.hid (Kd.R_lower hv HS.out.below.size)
                        have n_ := Lib.hid (Kd.R_below H10.out hb); clear H10; have H10 := n_; clear n_
                        have n_ := Lib.hid (blk_below HX.out hb); clear HX; have HX := n_; clear n_
                        have n_ := Lib.hid (HS.out.step hb); clear HS; have HS := n_; clear n_
                        clear hv hb
                        refine hK.out _ _ ⟨Rt.held HS.out, (by have := third H10.out h3l; rwa [HX3.out] at this)⟩ (fun hHeld => ?_)
                        clear hK K
                        refine norm_ (a' := ?_) ?_ ?_
                        rotate_left
                        · show Act.put _ (some 106) _ = _
                          simp only [Act.put, List.setIfInBounds_toArray, List.set_cons_zero, List.set_cons_succ, i64_w, i32_w]
                          rfl
                        refine pure_ (i := 7) (N := some 107) (v := ?_) (a' := ?_) #[true, true, true, true, true, true, true, true, true, false] rfl rfl (any_of HT_.out (by kernel_rfl)) (fun _ _ _ h => h) (Or.inl ⟨by rfl, ?_⟩) ?_ ?_
                        rotate_left
                        · intro w'
                          go_simp
                          with_reducible rfl
                        rotate_left
                        · simp only [Act.put, List.setIfInBounds_toArray, List.set_cons_zero, List.set_cons_succ, i64_w, i32_w]
                          rfl
                        refine one_ (i := 9) (N := none) #[true, true, true, true, true, true, true, true, true, true] rfl rfl (one_of HT_.out (by kernel_rfl)) (by decide) (fun K hK => ?_)
                        refine store_step (by rfl) rfl rfl g15 _ 26 [.slice AS (insAt (atS s a) x3 a).length cS, .slice none 0 0] rfl (.agg #[.slice AS (insAt (atS s a) x3 a).length cS, .slice none 0 0]) ?haS ?hbS HX.out rfl (by kernel_rfl) (two26 AS _ cS none 0 0) ?_
                        (case haS => rfl)
                        (case hbS => first | rfl | simp [Value.cells])
                        intro wn hbox hg hz
                        have n_ := Lib.hid (Kd.R_grown1 H10.out rfl hg (Kd.R_ne H10.out HX.out (by decide))); clear H10; have H10 := n_; clear n_
                        have n_ := Lib.hid (Kd.R_grown1 HV.out rfl hg (Kd.R_ne HV.out HX.out (by decide))); clear HV; have HV := n_; clear n_
                        have n_ := Lib.hid (HS.out.far hg HG.out.1 HG.out.2.1 HG.out.2.2.1 HG.out.2.2.2); clear HS; have HS := n_; clear n_
                        have n_ := Lib.hid hbox; clear HX; have HX := n_; clear n_ hbox hg hz
                        refine hK.out _ _ ⟨Rt.held HS.out, (by have := third H10.out h3l; rwa [HX3.out] at this)⟩ (fun hHeld => ?_)
                        clear hK K
                        refine done_ (done_of HT_.out (by kernel_rfl)) ?_
                        try go_wp2
                        go_meet
                        exact ⟨g15, AS, cS, rfl, ⟨HS.out⟩, ⟨⟨HX.out, HV.out, Kd.R_nil _ _ _ _ _, H10.out, HG.out.1, HG.out.2.1, HG.out.2.2.1, HG.out.2.2.2⟩⟩⟩
                    case rest =>
                      clear HS H10
                      obtain ⟨g15, AS, cS, rfl, HS, HX⟩ := hcut
                      have hk1 : atS s a + 1 ≤ b.length := by have := HBL.out; omega
                      have hw1 : wrap64 ((atS s a : Int) + 1) = (atS s a : Int) + 1 := w64 (by omega) (by omega)
                      have htk := takeI_run B1 d1 b (atS s a + 1) hk1 HC1.out (j := (atS s a : Int) + 1) (by omega)
                      have HTR := Lib.hid (Kd.C_take HR1.out hk1)
                      obtain ⟨BD, hdk, hdr⟩ := dropI_run B1 d1 b (atS s a + 1) hk1 HC1.out w HR1.out (j := (atS s a : Int) + 1) (by omega)
                      have HDR := Lib.hid hdr
                      have HFIN := Lib.hid (show insAt (atS s a + 1) n b = (([] ++ b.take (atS s a + 1)) ++ [n]) ++ b.drop (atS s a + 1) by simp [insAt])
                      have hL1 : (b.take (atS s a + 1)).length ≤ 100 := by rw [List.length_take]; omega
                      have hL2 : (b.drop (atS s a + 1)).length ≤ 100 := by rw [List.length_drop]; omega
                      have HN1 := Lib.hid hL1
                      have HN2 := Lib.hid hL2
                      clear hdr hL1 hL2
                      generalize b.take (atS s a + 1) = t1 at *
                      generalize b.drop (atS s a + 1) = t2 at *
                      generalize hn1 : t1.length = n1 at *
                      generalize hn2 : t2.length = n2 at *
                      have HE1 := Lib.hid hn1
                      have HE2 := Lib.hid hn2
                      clear hn1 hn2
                      obtain ⟨q30, q31, q40, q41, q42⟩ := HS.out.held
                      go_upto_region 24 with (fail)
                      clear q30 q31 q40 q41 q42
                      refine start_ (n := 10) (S := (fun W_ => heldR g3 g4 (.slice B0 a.length d0) (.slice B1 b.length d1) no (.slice B3 es.length d3) false W_ ∧ W_.cell? ⟨g15, 0, none⟩ = some (.slice AS (insAt (atS s a) x3 a).length cS) ∧ W_.cell? ⟨g15, 1, none⟩ = some (.slice none 0 0))) (ds := [9]) #[false, false, false, false, false, false, false, false, false, false] (by kernel_rfl) rfl rfl ⟨Rt.held (HS.out.step (below_drew1 (Below.refl _ _))), Nx.cells (HX.out.step (below_drew1 (Below.refl _ _)))⟩ (fun hHeld => ?_); refine with_tabW ri24Tab ri24Waits (fun HT_ HW_ => ?_)
                      have n_ := Lib.hid (HX.out.step (below_drew1 (Below.refl _ _))); clear HX; have HX := n_; clear n_
                      have n_ := Lib.hid (HS.out.step (below_drew1 (Below.refl _ _))); clear HS; have HS := n_; clear n_
                      generalize World.drew _ = wa at HS HX hHeld ⊢
                      refine pure_ (i := 0) (N := some 108) (v := ?_) (a' := ?_) #[true, false, false, false, false, false, false, false, false, false] rfl rfl (any_of HT_.out (by kernel_rfl)) (fun _ _ _ h => h) (Or.inl ⟨by rfl, ?_⟩) ?_ ?_
                      rotate_left
                      · intro w'
                        go_simp
                        with_reducible rfl
                      rotate_left
                      · simp only [Act.put, List.setIfInBounds_toArray, List.set_cons_zero, List.set_cons_succ, i64_w, i32_w]
                        rfl
                      refine pure_ (i := 2) (N := some 110) (v := ?_) (a' := ?_) #[true, false, true, false, false, false, false, false, false, false] rfl rfl (any_of HT_.out (by kernel_rfl)) (fun _ _ _ h => h) (Or.inl ⟨by rfl, ?_⟩) ?_ ?_
                      rotate_left
                      · intro w'
                        go_simp
                        with_reducible rfl
                      rotate_left
                      · simp only [Act.put, List.setIfInBounds_toArray, List.set_cons_zero, List.set_cons_succ, i64_w, i32_w]
                        rfl
                      refine pure_ (i := 4) (N := some 112) (v := ?_) (a' := ?_) #[true, false, true, false, true, false, false, false, false, false] rfl rfl (any_of HT_.out (by kernel_rfl)) (fun _ _ _ h => h) (Or.inl ⟨by rfl, ?_⟩) ?_ ?_
                      rotate_left
                      · intro w'
                        go_simp
                        with_reducible rfl
                      rotate_left
                      · simp only [Act.put, List.setIfInBounds_toArray, List.set_cons_zero, List.set_cons_succ, i64_w, i32_w]
                        rfl
                      refine pure_ (i := 5) (N := some 113) (v := ?_) (a' := ?_) #[true, false, true, false, true, true, false, false, false, false] rfl rfl (any_of HT_.out (by kernel_rfl)) (fun _ _ _ h => h) (Or.inl ⟨by rfl, ?_⟩) ?_ ?_
                      rotate_left
                      · intro w'
                        go_simp
                        with_reducible rfl
                      rotate_left
                      · simp only [Act.put, List.setIfInBounds_toArray, List.set_cons_zero, List.set_cons_succ, i64_w, i32_w]
                        rfl
                      refine take_ (i := 1) (N := some 109) (v := ?_) (a' := ?_) #[true, true, true, false, true, true, false, false, false, false] rfl rfl (take_ofW HT_.out HW_.out (by kernel_rfl)) (fun _ _ _ h => h) (Or.inl ⟨by rfl, ?_⟩) hHeld ?_ ?_
                      rotate_left
                      · rintro w' ⟨⟨h0, h1, h2, h3, h4⟩, h5, h6⟩
                        go_simp
                        with_reducible rfl
                      rotate_left
                      · simp only [Act.put, List.setIfInBounds_toArray, List.set_cons_zero, List.set_cons_succ, i64_w, i32_w]
                        rfl
                      refine take_ (i := 3) (N := some 111) (v := ?_) (a' := ?_) #[true, true, true, true, true, true, false, false, false, false] rfl rfl (take_ofW HT_.out HW_.out (by kernel_rfl)) (fun _ _ _ h => h) (Or.inl ⟨by rfl, ?_⟩) hHeld ?_ ?_
                      rotate_left
                      · rintro w' ⟨⟨h0, h1, h2, h3, h4⟩, h5, h6⟩
                        go_simp
                        with_reducible rfl
                      rotate_left
                      · simp only [Act.put, List.setIfInBounds_toArray, List.set_cons_zero, List.set_cons_succ, i64_w, i32_w]
                        rfl
                      refine pure_ (i := 6) (N := some 114) (v := ?_) (a' := ?_) #[true, true, true, true, true, true, true, false, false, false] rfl rfl (any_of HT_.out (by kernel_rfl)) (fun _ _ _ h => h) (Or.inl ⟨by rfl, ?_⟩) ?_ ?_
                      rotate_left
                      · intro w'
                        go_simp
                        with_reducible rfl
                      rotate_left
                      · simp only [Act.put, List.setIfInBounds_toArray, List.set_cons_zero, List.set_cons_succ, i64_w, i32_w]
                        rfl
                      refine one_ (i := 7) (N := (some 115)) #[true, true, true, true, true, true, true, true, false, false] rfl rfl (one_of HT_.out (by kernel_rfl)) (by decide) (fun K hK => ?_)
                      refine Kd.R_append_rows_step (Kd.int .i64) (w0 := w) w.heap.size (by rfl) (.tmp 109) (.tmp 114) 24 3 (.int .i64 0) 8 rfl Try.underlying24 info3 rfl (by decide) (by omega) (.slice none 0 0) (([] : List Int)) (t1) _ _ _ (fun _ => True) (fun _ => False) rfl rfl HX.out.rL (Kd.C_below HTR.out HS.out.below) (fun _ _ h => h) (fun _ h => h.elim) (fun _ _ => trivial) HS.out.below HS.out.below.size (by have := HN1.out; simp; omega) ?_
                      intro v_ wb ho hb hg hat
                      generalize hl1 : (([] : List Int)) ++ t1 = l1 at ho
                      have HL1 := Lib.hid hl1
                      obtain ⟨AN, cN, rfl⟩ := Kd.R_slice ho
                      have n_ := Lib.hid (HS.out.grewL HX.out.rL hb hg); clear HS; have HS := n_; clear n_
                      have n_ := Lib.hid (HX.out.grewL ho hg); clear HX; have HX := n_; clear n_
                      clear ho hb hg hat hl1
                      refine hK.out _ _ ⟨Rt.held HS.out, Nx.cells HX.out⟩ (fun hHeld => ?_)
                      clear hK K
                      refine norm_ (a' := ?_) ?_ ?_
                      rotate_left
                      · show Act.put _ (some 115) _ = _
                        simp only [Act.put, List.setIfInBounds_toArray, List.set_cons_zero, List.set_cons_succ, i64_w, i32_w]
                        rfl
                      refine pure_ (i := 8) (N := some 116) (v := ?_) (a' := ?_) #[true, true, true, true, true, true, true, true, true, false] rfl rfl (any_of HT_.out (by kernel_rfl)) (fun _ _ _ h => h) (Or.inl ⟨by rfl, ?_⟩) ?_ ?_
                      rotate_left
                      · intro w'
                        go_simp
                        with_reducible rfl
                      rotate_left
                      · simp only [Act.put, List.setIfInBounds_toArray, List.set_cons_zero, List.set_cons_succ, i64_w, i32_w]
                        rfl
                      refine last_ (i := 9) (N := none) #[true, true, true, true, true, true, true, true, true, true] rfl rfl (one_of HT_.out (by kernel_rfl)) (by decide) (fun K hK => ?_)
                      refine cell_step (by rfl) rfl rfl g15 1 _ 26 rfl (.slice AN l1.length cN) ?haS ?hbS HX.out.x (by simp) (by kernel_rfl) rfl ?_
                      (case haS => rfl)
                      (case hbS => first | rfl | simp [Value.cells])
                      intro wn hbox hg hz
                      have n_ := Lib.hid (HX.out.root HS.out hg); clear HS; have HS := n_; clear n_
                      have n_ := Lib.hid (HX.out.put hbox hg); clear HX; have HX := n_; clear n_
                      clear hbox hg hz
                      refine hK.out _ _ ?_
                      clear hK K
                      refine done_ (done_of HT_.out (by kernel_rfl)) ?_
                      obtain ⟨q50, q51⟩ := HX.out.cells
                      have HZ1 := Lib.hid (show l1.length ≤ 100 by have h1 := HL1.out; have h2 := HN1.out; have h3 := HE1.out; subst h1; simp; omega)
                      go_wp2_with (first | ((with_reducible refine gate_builtin (b := .append) (xs := #[.tmp 118, .tmp 120]) rfl ?_); at_builtin; refine Kd.R_append (Kd.int .i64) (w0 := w) w.heap.size rfl (.tmp 118) (.tmp 120) 24 3 (.int .i64 0) 8 rfl Try.underlying24 info3 rfl (by decide) (by omega) (.slice AN l1.length cN) l1 n [.int .i64 n] (fun _ => True) (fun _ => False) rfl rfl rfl (fun _ hk => hk.elim) (fun _ _ => trivial) HX.out.rL HS.out.below HS.out.below.size (by have := HZ1.out; simp; omega) ?_; intro v_ wb ho hb hg hat; generalize hl2 : l1 ++ [n] = l2 at ho; have HL2 := Lib.hid hl2; obtain ⟨AP, cP, rfl⟩ := Kd.R_slice ho; have n_ := Lib.hid (HS.out.grewL HX.out.rL hb hg); clear HS; have HS := n_; clear n_; have n_ := Lib.hid (HX.out.grewL ho hg); clear HX; have HX := n_; clear n_; clear ho hb hg hat hl2) | ((with_reducible refine gate_store (t := 24) (p := 122) rfl ?_); refine store_cell rfl rfl rfl g15 1 _ 26 rfl (.slice AP l2.length cP) ?haD ?hbD HX.out.x (by simp) (by kernel_rfl) rfl ?_; (case haD => rfl); (case hbD => first | rfl | simp [Value.cells]); intro w10 hbox hg hz; have n_ := Lib.hid (HX.out.root HS.out hg); clear HS; have HS := n_; clear n_; have n_ := Lib.hid (HX.out.put hbox hg); clear HX; have HX := n_; clear n_; clear hbox hg hz q50 q51; refine Hold.go ?_))
                      have HZ2 := Lib.hid (show l2.length ≤ 101 by have h1 := HL2.out; have h2 := HZ1.out; subst h1; simp; omega)
                      refine Hold.of ?_
                      go_upto_region 26 with (fail)
                      refine start_ (n := 10) (S := (fun W_ => heldR g3 g4 (.slice B0 a.length d0) (.slice B1 b.length d1) no (.slice B3 es.length d3) false W_ ∧ W_.cell? ⟨g15, 0, none⟩ = some (.slice AS (insAt (atS s a) x3 a).length cS) ∧ W_.cell? ⟨g15, 1, none⟩ = some (.slice AP l2.length cP))) (ds := [9]) #[false, false, false, false, false, false, false, false, false, false] (by kernel_rfl) rfl rfl ⟨Rt.held (HS.out.step (below_drew1 (Below.refl _ _))), Nx.cells (HX.out.step (below_drew1 (Below.refl _ _)))⟩ (fun hHeld => ?_); refine with_tabW ri26Tab ri26Waits (fun HT_ HW_ => ?_)
                      have n_ := Lib.hid (HX.out.step (below_drew1 (Below.refl _ _))); clear HX; have HX := n_; clear n_
                      have n_ := Lib.hid (HS.out.step (below_drew1 (Below.refl _ _))); clear HS; have HS := n_; clear n_
                      generalize World.drew _ = wa at HS HX hHeld ⊢
                      refine pure_ (i := 0) (N := some 123) (v := ?_) (a' := ?_) #[true, false, false, false, false, false, false, false, false, false] rfl rfl (any_of HT_.out (by kernel_rfl)) (fun _ _ _ h => h) (Or.inl ⟨by rfl, ?_⟩) ?_ ?_
                      rotate_left
                      · intro w'
                        go_simp
                        with_reducible rfl
                      rotate_left
                      · simp only [Act.put, List.setIfInBounds_toArray, List.set_cons_zero, List.set_cons_succ, i64_w, i32_w]
                        rfl
                      refine pure_ (i := 2) (N := some 125) (v := ?_) (a' := ?_) #[true, false, true, false, false, false, false, false, false, false] rfl rfl (any_of HT_.out (by kernel_rfl)) (fun _ _ _ h => h) (Or.inl ⟨by rfl, ?_⟩) ?_ ?_
                      rotate_left
                      · intro w'
                        go_simp
                        with_reducible rfl
                      rotate_left
                      · simp only [Act.put, List.setIfInBounds_toArray, List.set_cons_zero, List.set_cons_succ, i64_w, i32_w]
                        rfl
                      refine pure_ (i := 4) (N := some 127) (v := ?_) (a' := ?_) #[true, false, true, false, true, false, false, false, false, false] rfl rfl (any_of HT_.out (by kernel_rfl)) (fun _ _ _ h => h) (Or.inl ⟨by rfl, ?_⟩) ?_ ?_
                      rotate_left
                      · intro w'
                        go_simp
                        with_reducible rfl
                      rotate_left
                      · simp only [Act.put, List.setIfInBounds_toArray, List.set_cons_zero, List.set_cons_succ, i64_w, i32_w]
                        rfl
                      refine pure_ (i := 5) (N := some 128) (v := ?_) (a' := ?_) #[true, false, true, false, true, true, false, false, false, false] rfl rfl (any_of HT_.out (by kernel_rfl)) (fun _ _ _ h => h) (Or.inl ⟨by rfl, ?_⟩) ?_ ?_
                      rotate_left
                      · intro w'
                        go_simp
                        with_reducible rfl
                      rotate_left
                      · simp only [Act.put, List.setIfInBounds_toArray, List.set_cons_zero, List.set_cons_succ, i64_w, i32_w]
                        rfl
                      refine take_ (i := 1) (N := some 124) (v := ?_) (a' := ?_) #[true, true, true, false, true, true, false, false, false, false] rfl rfl (take_ofW HT_.out HW_.out (by kernel_rfl)) (fun _ _ _ h => h) (Or.inl ⟨by rfl, ?_⟩) hHeld ?_ ?_
                      rotate_left
                      · rintro w' ⟨⟨h0, h1, h2, h3, h4⟩, h5, h6⟩
                        go_simp
                        with_reducible rfl
                      rotate_left
                      · simp only [Act.put, List.setIfInBounds_toArray, List.set_cons_zero, List.set_cons_succ, i64_w, i32_w]
                        rfl
                      refine take_ (i := 3) (N := some 126) (v := ?_) (a' := ?_) #[true, true, true, true, true, true, false, false, false, false] rfl rfl (take_ofW HT_.out HW_.out (by kernel_rfl)) (fun _ _ _ h => h) (Or.inl ⟨by rfl, ?_⟩) hHeld ?_ ?_
                      rotate_left
                      · rintro w' ⟨⟨h0, h1, h2, h3, h4⟩, h5, h6⟩
                        go_simp
                        with_reducible rfl
                      rotate_left
                      · simp only [Act.put, List.setIfInBounds_toArray, List.set_cons_zero, List.set_cons_succ, i64_w, i32_w]
                        rfl
                      refine pure_ (i := 6) (N := some 129) (v := ?_) (a' := ?_) #[true, true, true, true, true, true, true, false, false, false] rfl rfl (any_of HT_.out (by kernel_rfl)) (fun _ _ _ h => h) (Or.inl ⟨by rfl, ?_⟩) ?_ ?_
                      rotate_left
                      · intro w'
                        go_simp
                        with_reducible rfl
                      rotate_left
                      · simp only [Act.put, List.setIfInBounds_toArray, List.set_cons_zero, List.set_cons_succ, i64_w, i32_w]
                        rfl
                      refine one_ (i := 7) (N := (some 130)) #[true, true, true, true, true, true, true, true, false, false] rfl rfl (one_of HT_.out (by kernel_rfl)) (by decide) (fun K hK => ?_)
                      refine Kd.R_append_rows_step (Kd.int .i64) (w0 := w) w.heap.size (by rfl) (.tmp 124) (.tmp 129) 24 3 (.int .i64 0) 8 rfl Try.underlying24 info3 rfl (by decide) (by omega) (.slice AP l2.length cP) (l2) (t2) _ _ _ (fun _ => True) (fun _ => False) rfl rfl HX.out.rL (Kd.C_below HDR.out HS.out.below) (fun _ _ h => h) (fun _ h => h.elim) (fun _ _ => trivial) HS.out.below HS.out.below.size (by have := HN2.out; have := HZ2.out; simp; omega) ?_
                      intro v_ wb ho hb hg hat
                      generalize hl3 : (l2) ++ t2 = l3 at ho
                      have HL3 := Lib.hid hl3
                      obtain ⟨AF, cF, rfl⟩ := Kd.R_slice ho
                      have n_ := Lib.hid (HS.out.grewL HX.out.rL hb hg); clear HS; have HS := n_; clear n_
                      have n_ := Lib.hid (HX.out.grewL ho hg); clear HX; have HX := n_; clear n_
                      clear ho hb hg hat hl3
                      refine hK.out _ _ ⟨Rt.held HS.out, Nx.cells HX.out⟩ (fun hHeld => ?_)
                      clear hK K
                      refine norm_ (a' := ?_) ?_ ?_
                      rotate_left
                      · show Act.put _ (some 130) _ = _
                        simp only [Act.put, List.setIfInBounds_toArray, List.set_cons_zero, List.set_cons_succ, i64_w, i32_w]
                        rfl
                      refine pure_ (i := 8) (N := some 131) (v := ?_) (a' := ?_) #[true, true, true, true, true, true, true, true, true, false] rfl rfl (any_of HT_.out (by kernel_rfl)) (fun _ _ _ h => h) (Or.inl ⟨by rfl, ?_⟩) ?_ ?_
                      rotate_left
                      · intro w'
                        go_simp
                        with_reducible rfl
                      rotate_left
                      · simp only [Act.put, List.setIfInBounds_toArray, List.set_cons_zero, List.set_cons_succ, i64_w, i32_w]
                        rfl
                      refine last_ (i := 9) (N := none) #[true, true, true, true, true, true, true, true, true, true] rfl rfl (one_of HT_.out (by kernel_rfl)) (by decide) (fun K hK => ?_)
                      refine cell_step (by rfl) rfl rfl g15 1 _ 26 rfl (.slice AF l3.length cF) ?haS ?hbS HX.out.x (by simp) (by kernel_rfl) rfl ?_
                      (case haS => rfl)
                      (case hbS => first | rfl | simp [Value.cells])
                      intro wn hbox hg hz
                      have n_ := Lib.hid (HX.out.root HS.out hg); clear HS; have HS := n_; clear n_
                      have n_ := Lib.hid (HX.out.put hbox hg); clear HX; have HX := n_; clear n_
                      clear hbox hg hz
                      refine hK.out _ _ ?_
                      clear hK K
                      refine done_ (done_of HT_.out (by kernel_rfl)) ?_
                      have hc10 : 5 ≤ c10 := by have h1 := (Kd.R_reads' HX.out.rT).2.1; have h2 := HL5.out; omega
                      have hs3 := takeS_run (some ad) c10 ids 3 (by omega) (by have := HL5.out; omega) (j := 3) rfl
                      have hs4 : (ids.take 3).length = 3 := by rw [List.length_take]; have := HL5.out; omega
                      rw [hs4] at hs3
                      have hs5 := drop3_run ad c10 ids.length (by omega) (by omega)
                      have hs6 : ids.length - 3 = 2 := by have := HL5.out; omega
                      rw [hs6] at hs5
                      obtain ⟨A5, hA5⟩ : ∃ A5, A5 = some (ad.add (3 * 1)) := ⟨_, rfl⟩
                      rw [← hA5] at hs5
                      obtain ⟨c5, hc5⟩ : ∃ c5, c5 = c10 - 3 := ⟨_, rfl⟩
                      rw [← hc5] at hs5
                      have HC5 := Lib.hid (show 2 ≤ c5 by omega)
                      have HA5 := Lib.hid hA5
                      clear hs4 hs6 hc5 hA5 hc10
                      obtain ⟨q30, q31, q40, q41, q42⟩ := HS.out.held
                      obtain ⟨q50, q51⟩ := HX.out.cells
                      have q60 : wn.cell? ⟨g6, 0, none⟩ = some (.slice none 0 0) := (blk_cell HS.out.x6 0).trans rfl
                      have q61 : wn.cell? ⟨g6, 1, none⟩ = some (.slice none 0 0) := (blk_cell HS.out.x6 1).trans rfl
                      have f60 := blk_frozen HS.out.x6 0
                      have f61 := blk_frozen HS.out.x6 1
                      have b3 := blk_lt HS.out.x3
                      have b4 := blk_lt HS.out.x4
                      have b6 := blk_lt HS.out.x6
                      have n36 := HS.out.n36
                      have n46 := HS.out.n46
                      have n63 := n36.symm
                      have n64 := n46.symm
                      have b5 := blk_lt HX.out.x
                      have n65 := HX.out.n6
                      have n56 := n65.symm
                      go_upto_region 27 with (fail)
                      go_region
                      all_goals go_wp2
                      obtain ⟨hx, hb, _⟩ := HS.out.out (.slice AS (insAt (atS s a) x3 a).length cS) (.slice AF l3.length cF) (.cells #[.int .i64 no, .slice (some ad) 3 c10, .bool false, .int .i64 n, .slice A5 2 c5, .bool false] 28 (0, 0))
                      refine bodyPost_ret (results_list (rs := [.cell 6 26, .tmp 7, .tmp 8]) rfl (by simp) (.cell g6 26 #[.slice AS (insAt (atS s a) x3 a).length cS, .slice AF l3.length cF] (0, 0) _ rfl hx Try.underlying26 rfl (by kernel_rfl) (.tmp (.tmp .nil)))) rfl ?_
                      rw [HGI.out, HX3.out, HFIN.out]
                      have e1 := HL1.out
                      have e2 := HL2.out
                      have e3 := HL3.out
                      subst e1 e2 e3
                      have eS := Kd.R_reads' (Kd.R_drew (Kd.R_alloc (HS.out.rowS HX.out.rS (.slice AS (insAt (atS s a) x3 a).length cS) (.slice AF ((([] ++ t1) ++ [n]) ++ t2).length cF)) (.cells #[.int .i64 no, .slice (some ad) 3 c10, .bool false, .int .i64 n, .slice A5 2 c5, .bool false] 28 (0, 0))))
                      have eL := Kd.R_reads' (Kd.R_drew (Kd.R_alloc (HS.out.rowI HX.out.rL (.slice AS (insAt (atS s a) x3 a).length cS) (.slice AF ((([] ++ t1) ++ [n]) ++ t2).length cF)) (.cells #[.int .i64 no, .slice (some ad) 3 c10, .bool false, .int .i64 n, .slice A5 2 c5, .bool false] 28 (0, 0))))
                      exact ⟨AS, cS, AF, cF, some ⟨_, 0, none⟩, 2, rfl, ⟨eS.2.2, eS.2.1⟩, ⟨eL.2.2, eL.2.1⟩, ⟨HS.out.fin2 HX.out.rT HL5.out no n HA5.out HC5.out, Nat.le_refl _⟩, hb⟩
end Go.Proofs.Ytneagipmllgejaa.PL
end
