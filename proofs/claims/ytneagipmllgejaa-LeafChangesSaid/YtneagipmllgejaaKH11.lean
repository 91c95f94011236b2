/- A part of the proof: lemmas that the row uses, laid together by a program of this session's (pack.py) out of its texts and of what the kit's printer wrote for this seat. -/
import Derived.Test.YtneagipmllgejaaKH0
import Derived.Test.YtneagipmllgejaaKH1
import Derived.Test.YtneagipmllgejaaKH2
import Derived.Test.YtneagipmllgejaaKH3
import Derived.Test.YtneagipmllgejaaKH4
import Derived.Test.YtneagipmllgejaaKH5
import Derived.Test.YtneagipmllgejaaKH6
import Derived.Test.YtneagipmllgejaaKH7
import Derived.Test.YtneagipmllgejaaKH8
import Derived.Test.YtneagipmllgejaaKH9
import Derived.Test.YtneagipmllgejaaKH10
section
set_option linter.unusedVariables false
set_option linter.unusedSimpArgs false
namespace Go.Proofs.Ytneagipmllgejaa.PL
open Go.RowKit Go.Proofs.YtneagipmllgejaaW.PrintWords Go.Proofs.YtneagipmllgejaaW.PrintLast Go.Proofs.YtneagipmllgejaaW.PrintMore Go.Proofs.YtneagipmllgejaaH
def rr1T : Bool × List (List Nat × List Nat) := (true, [([], []), ([0], [0]), ([1], [1]), ([2, 1], [2]), ([3], [3]), ([4, 3, 3], [3, 4]), ([5, 3], [3, 5]), ([3, 6], [3, 6]), ([7, 5], [7]), ([8], [8]), ([8], [8]), ([9, 10, 8, 8], [8, 9, 10]), ([8], [8]), ([12, 8], [8, 12]), ([11, 13, 8], [8, 11, 13]), ([8, 14], [8, 14])])
def rr1B : List Nat := [0, 1, 3, 7, 15, 31, 63, 127, 255, 511, 511, 2047, 511, 4607, 16383, 32767]
theorem rr1Tab : rtab .any (opsOf Try.f20 1) = rr1T := by kernel_rfl
theorem rr1Waits : waitsOk rr1T.2 rr1B = true := by kernel_rfl
def rr11T : Bool × List (List Nat × List Nat) := (true, [([], []), ([0], [0]), ([], []), ([2], [2]), ([], []), ([3, 4], [3, 4]), ([1, 5], [1, 5]), ([0, 1, 2, 3, 4, 5, 6], []), ([7, 6, 6, 0, 1, 2, 3, 4, 5, 6], [6, 7])])
def rr11B : List Nat := [0, 1, 0, 4, 0, 28, 63, 127, 255]
theorem rr11Tab : rtab .any (opsOf Try.f20 11) = rr11T := by kernel_rfl
theorem rr11Waits : waitsOk rr11T.2 rr11B = true := by kernel_rfl
def rr12T : Bool × List (List Nat × List Nat) := (true, [([], []), ([0], [0]), ([], []), ([2], [2]), ([], []), ([4], [4]), ([3, 5], [3, 5]), ([1, 6], [1, 6]), ([0, 1, 2, 3, 4, 5, 6, 7], []), ([8, 7, 7, 0, 1, 2, 3, 4, 5, 6, 7], [7, 8])])
def rr12B : List Nat := [0, 1, 0, 4, 0, 16, 60, 127, 255, 511]
theorem rr12Tab : rtab .any (opsOf Try.f20 12) = rr12T := by kernel_rfl
theorem rr12Waits : waitsOk rr12T.2 rr12B = true := by kernel_rfl
set_option maxHeartbeats 3000000 in
set_option maxRecDepth 100000 in
theorem ref_remove (B0 : Option Addr) (d0 : Nat) (a : List ByteArray) (B1 : Option Addr) (d1 : Nat) (b : List Int) (no : Int) (B3 : Option Addr) (d3 : Nat) (es : List ByteArray) (gone : Bool) (s : ByteArray) (w : World) (H : PreR B0 d0 a B1 d1 b no B3 d3 es gone s w) (r1 : List ByteArray) (r2 : List Int) (r3 : List S28) (r4 : Int) (h : leaf_Remove.f a b no es gone s = some (r1, r2, r3, r4)) :
    Calls Try.prog 20 #[.agg #[.slice B0 a.length d0, .slice B1 b.length d1], .agg #[.int .i64 no, .slice B3 es.length d3, .bool gone], .string s] w (RefPost w r1 r2 r3 r4) := by
  have HR0 := Lib.hid H.r0
  have HC0 := Lib.hid H.c0
  have HR1 := Lib.hid H.r1
  have HC1 := Lib.hid H.c1
  have HR3 := Lib.hid H.r3
  have HC3 := Lib.hid H.c3
  have HL := Lib.hid (show a.length ≤ 100 ∧ b.length ≤ 100 ∧ es.length ≤ 100 from ⟨H.la, H.lb, H.le⟩)
  have hla := H.la
  have hlb := H.lb
  have hle := H.le
  have HZE := Lib.hid H.ze
  have HZS := Lib.hid H.zs
  have hu26 := Try.underlying26
  have hu28 := Try.underlying28
  obtain ⟨k1, hk1⟩ : ∃ k, cobwebref11_Root.f k a b = some (rootB a b) := ⟨_, ref_root a b (by omega) (by omega) H.za (Nat.le_refl _)⟩
  obtain ⟨k2, hk2⟩ : ∃ k, cobwebref11_Leaf.f k no es gone = some (leafB es gone) := ⟨_, ref_leaf no es gone (by omega) H.ze (Nat.le_refl _)⟩
  obtain ⟨k3, hk3⟩ : ∃ k, cobwebref11_Find.f k a b s = some (findB a b s) := ⟨_, ref_find a b s (by omega) (by omega) H.za H.zs (Nat.le_refl _)⟩
  obtain ⟨k4, hk4⟩ : ∃ k, cobwebref11_At.f k a b s = some (cntLe s a : Int) := ⟨_, ref_at a b s (by omega) H.za H.zs (Nat.le_refl _)⟩
  have HRT := Lib.hid hk1
  have HLF := Lib.hid hk2
  have HFD := Lib.hid hk3
  have HAT := Lib.hid hk4
  have HI := Lib.hid h
  clear H h hk1 hk2 hk3 hk4
  go_enter Try.func20, Try.ntmps20
  go_upto_region 1 with (first | ((with_reducible refine gate_dst (N := 3) rfl ?_); refine alloc_event ?hg (N := 3) ?hd (fun g => .pointer (some ⟨g, 0, none⟩)) (.cells #[.slice B0 a.length d0, .slice B1 b.length d1] 26 (0, 0)) ?hr ?_; (case hd => rfl); (case hg => rfl); (case hr => first | (go_simp; done) | (go_simp; rfl)); intro g3 hg w1 hbox hb; have HG3 := Lib.hid (show w.heap.size ≤ g3 by omega); have HX3_1 := Lib.hid hbox; have HB1 := Lib.hid (hb); clear hg hbox hb) | ((with_reducible refine gate_dst (N := 4) rfl ?_); refine alloc_event ?hg (N := 4) ?hd (fun g => .pointer (some ⟨g, 0, none⟩)) (.cells #[.int .i64 no, .slice B3 es.length d3, .bool gone] 28 (0, 0)) ?hr ?_; (case hd => rfl); (case hg => rfl); (case hr => first | (go_simp; done) | (go_simp; rfl)); intro g4 hg w2 hbox hb; have HG4 := Lib.hid (show w.heap.size ≤ g4 by rw [hg]; exact HB1.out.size); have HX4_2 := Lib.hid hbox; have HX3_2 := Lib.hid (blk_below HX3_1.out hb); have HN3_4 := Lib.hid (show g3 ≠ g4 by have := blk_lt HX3_1.out; omega); have HB2 := Lib.hid (below_then HB1.out HB1.out.size hb); clear hg hbox hb) | ((with_reducible refine gate_dst (N := 6) rfl ?_); refine alloc_event ?hg (N := 6) ?hd (fun g => .pointer (some ⟨g, 0, none⟩)) (.cells #[.slice none 0 0, .slice none 0 0] 26 (0, 0)) ?hr ?_; (case hd => rfl); (case hg => rfl); (case hr => first | (go_simp; done) | (go_simp; rfl)); intro g6 hg w3 hbox hb; have HG6 := Lib.hid (show w.heap.size ≤ g6 by rw [hg]; exact HB2.out.size); have HX6_3 := Lib.hid hbox; have HX3_3 := Lib.hid (blk_below HX3_2.out hb); have HN3_6 := Lib.hid (show g3 ≠ g6 by have := blk_lt HX3_2.out; omega); have HX4_3 := Lib.hid (blk_below HX4_2.out hb); have HN4_6 := Lib.hid (show g4 ≠ g6 by have := blk_lt HX4_2.out; omega); have HB3 := Lib.hid (below_then HB2.out HB2.out.size hb); clear hg hbox hb))
  have HS := Lib.hid (show Rt w w3 g3 g4 g6 (.slice B0 a.length d0) (.slice B1 b.length d1) no (.slice B3 es.length d3) gone from ⟨HB3.out, HX3_3.out, HX4_3.out, HX6_3.out, HN3_4.out, HN3_6.out, HN4_6.out, HG3.out, HG4.out, HG6.out⟩)
  clear HX3_1 HX3_2 HX4_2 HX3_3 HX4_3 HX6_3 HB1 HB2 HB3 HN3_4 HN3_6 HN4_6 HG3 HG4 HG6
  go_cut [28] (fun v31 wc => v31 = .bool (!okL a b no es gone s) ∧ Aside0 (Rt w wc g3 g4 g6 (.slice B0 a.length d0) (.slice B1 b.length d1) no (.slice B3 es.length d3) gone))
  case first =>
    refine start_ (n := 16) (S := (heldR g3 g4 (.slice B0 a.length d0) (.slice B1 b.length d1) no (.slice B3 es.length d3) gone)) (ds := []) #[false, false, false, false, false, false, false, false, false, false, false, false, false, false, false, false] (by kernel_rfl) rfl rfl (Rt.held (HS.out.step (below_drew1 (Below.refl _ _)))) (fun hHeld => ?_); refine with_tabW rr1Tab rr1Waits (fun HT_ HW_ => ?_)
    have n_ := Lib.hid (HS.out.step (below_drew1 (Below.refl _ _))); clear HS; have HS := n_; clear n_
    generalize w3.drew = wa at HS hHeld ⊢
    refine take_ (i := 0) (N := some 13) (v := ?_) (a' := ?_) #[true, false, false, false, false, false, false, false, false, false, false, false, false, false, false, false] rfl rfl (take_ofW HT_.out HW_.out (by kernel_rfl)) (fun _ _ _ h => h) (Or.inl ⟨by rfl, ?_⟩) hHeld ?_ ?_
    rotate_left
    · rintro w' ⟨h0, h1, h2, h3, h4⟩
      go_simp
      with_reducible rfl
    rotate_left
    · simp only [Act.put, List.setIfInBounds_toArray, List.set_cons_zero, List.set_cons_succ, i64_w, i32_w]
      rfl
    refine one_ (i := 1) (N := (some 14)) #[true, true, false, false, false, false, false, false, false, false, false, false, false, false, false, false] rfl rfl (one_of HT_.out (by kernel_rfl)) (by decide) (fun K hK => ?_)
    refine goes_ Try.func47 (by kernel_rfl) rfl #[.agg #[.slice B0 a.length d0, .slice B1 b.length d1]] (by rfl) rfl rfl (by (try simp only [List.map_toArray, List.map_cons, List.map_nil]); first | done | rfl) ?_
    with_reducible refine (cobwebref11_Root.calls k1 _ d0 a _ d1 b (rootB a b) _ (Kd.C_below HR0.out HS.out.below) HC0.out (Kd.C_below HR1.out HS.out.below) HC1.out HRT.out).mono ?_
    rintro e wb ⟨rfl, hb⟩
    refine ⟨_, rfl, ?_⟩
    have n_ := Lib.hid (HS.out.step hb); clear HS; have HS := n_; clear n_
    clear hb
    refine hK.out _ _ (Rt.held HS.out) (fun hHeld => ?_)
    clear hK K
    refine norm_ (a' := ?_) ?_ ?_
    rotate_left
    · show Act.put _ (some 14) _ = _
      simp only [Act.put, List.setIfInBounds_toArray, List.set_cons_zero, List.set_cons_succ, i64_w, i32_w]
      rfl
    cases hrt : rootB a b
    · refine pure_ (i := 2) (N := some 15) (v := ?_) (a' := ?_) #[true, true, true, false, false, false, false, false, false, false, false, false, false, false, false, false] rfl rfl (any_of HT_.out (by kernel_rfl)) (fun _ _ _ h => h) (Or.inl ⟨by rfl, ?_⟩) ?_ ?_
      rotate_left
      · intro w'
        go_simp
        with_reducible rfl
      rotate_left
      · simp only [Act.put, List.setIfInBounds_toArray, List.set_cons_zero, List.set_cons_succ, i64_w, i32_w]
        rfl
      refine pure_ (i := 3) (N := some 16) (v := ?_) (a' := ?_) #[true, true, true, true, false, false, false, false, false, false, false, false, false, false, false, false] rfl rfl (any_of HT_.out (by kernel_rfl)) (fun _ _ _ h => h) (Or.inl ⟨by rfl, ?_⟩) ?_ ?_
      rotate_left
      · intro w'
        go_simp
        with_reducible rfl
      rotate_left
      · simp only [Act.put, List.setIfInBounds_toArray, List.set_cons_zero, List.set_cons_succ, i64_w, i32_w]
        rfl
      refine pure_ (i := 4) (N := some 17) (v := undef) (a' := ?_) #[true, true, true, true, true, false, false, false, false, false, false, false, false, false, false, false] rfl rfl (any_of HT_.out (by kernel_rfl)) (fun _ _ _ h => h) (Or.inr ⟨by rfl, rfl⟩) ?_ ?_
      rotate_left
      · simp only [Act.put, List.setIfInBounds_toArray, List.set_cons_zero, List.set_cons_succ, i64_w, i32_w]
        rfl
      refine pure_ (i := 5) (N := some 18) (v := undef) (a' := ?_) #[true, true, true, true, true, true, false, false, false, false, false, false, false, false, false, false] rfl rfl (any_of HT_.out (by kernel_rfl)) (fun _ _ _ h => h) (Or.inr ⟨by rfl, rfl⟩) ?_ ?_
      rotate_left
      · simp only [Act.put, List.setIfInBounds_toArray, List.set_cons_zero, List.set_cons_succ, i64_w, i32_w]
        rfl
      refine pure_ (i := 6) (N := some 19) (v := undef) (a' := ?_) #[true, true, true, true, true, true, true, false, false, false, false, false, false, false, false, false] rfl rfl (any_of HT_.out (by kernel_rfl)) (fun _ _ _ h => h) (Or.inr ⟨by rfl, rfl⟩) ?_ ?_
      rotate_left
      · simp only [Act.put, List.setIfInBounds_toArray, List.set_cons_zero, List.set_cons_succ, i64_w, i32_w]
        rfl
      refine pure_ (i := 7) (N := some 20) (v := ?_) (a' := ?_) #[true, true, true, true, true, true, true, true, false, false, false, false, false, false, false, false] rfl rfl (any_of HT_.out (by kernel_rfl)) (fun _ _ _ h => h) (Or.inl ⟨by rfl, ?_⟩) ?_ ?_
      rotate_left
      · intro w'
        go_simp
        with_reducible rfl
      rotate_left
      · simp only [Act.put, List.setIfInBounds_toArray, List.set_cons_zero, List.set_cons_succ, i64_w, i32_w]
        rfl
      refine pure_ (i := 8) (N := some 21) (v := ?_) (a' := ?_) #[true, true, true, true, true, true, true, true, true, false, false, false, false, false, false, false] rfl rfl (any_of HT_.out (by kernel_rfl)) (fun _ _ _ h => h) (Or.inl ⟨by rfl, ?_⟩) ?_ ?_
      rotate_left
      · intro w'
        go_simp
        with_reducible rfl
      rotate_left
      · simp only [Act.put, List.setIfInBounds_toArray, List.set_cons_zero, List.set_cons_succ, i64_w, i32_w]
        rfl
      refine pure_ (i := 9) (N := some 22) (v := undef) (a' := ?_) #[true, true, true, true, true, true, true, true, true, true, false, false, false, false, false, false] rfl rfl (any_of HT_.out (by kernel_rfl)) (fun _ _ _ h => h) (Or.inr ⟨by rfl, rfl⟩) ?_ ?_
      rotate_left
      · simp only [Act.put, List.setIfInBounds_toArray, List.set_cons_zero, List.set_cons_succ, i64_w, i32_w]
        rfl
      refine pure_ (i := 10) (N := some 23) (v := undef) (a' := ?_) #[true, true, true, true, true, true, true, true, true, true, true, false, false, false, false, false] rfl rfl (any_of HT_.out (by kernel_rfl)) (fun _ _ _ h => h) (Or.inr ⟨by rfl, rfl⟩) ?_ ?_
      rotate_left
      · simp only [Act.put, List.setIfInBounds_toArray, List.set_cons_zero, List.set_cons_succ, i64_w, i32_w]
        rfl
      refine pure_ (i := 11) (N := some 24) (v := undef) (a' := ?_) #[true, true, true, true, true, true, true, true, true, true, true, true, false, false, false, false] rfl rfl (any_of HT_.out (by kernel_rfl)) (fun _ _ _ h => h) (Or.inr ⟨by rfl, rfl⟩) ?_ ?_
      rotate_left
      · simp only [Act.put, List.setIfInBounds_toArray, List.set_cons_zero, List.set_cons_succ, i64_w, i32_w]
        rfl
      refine pure_ (i := 12) (N := some 25) (v := undef) (a' := ?_) #[true, true, true, true, true, true, true, true, true, true, true, true, true, false, false, false] rfl rfl (any_of HT_.out (by kernel_rfl)) (fun _ _ _ h => h) (Or.inr ⟨by rfl, rfl⟩) ?_ ?_
      rotate_left
      · simp only [Act.put, List.setIfInBounds_toArray, List.set_cons_zero, List.set_cons_succ, i64_w, i32_w]
        rfl
      refine pure_ (i := 13) (N := some 26) (v := undef) (a' := ?_) #[true, true, true, true, true, true, true, true, true, true, true, true, true, true, false, false] rfl rfl (any_of HT_.out (by kernel_rfl)) (fun _ _ _ h => h) (Or.inr ⟨by rfl, rfl⟩) ?_ ?_
      rotate_left
      · simp only [Act.put, List.setIfInBounds_toArray, List.set_cons_zero, List.set_cons_succ, i64_w, i32_w]
        rfl
      refine pure_ (i := 14) (N := some 27) (v := undef) (a' := ?_) #[true, true, true, true, true, true, true, true, true, true, true, true, true, true, true, false] rfl rfl (any_of HT_.out (by kernel_rfl)) (fun _ _ _ h => h) (Or.inr ⟨by rfl, rfl⟩) ?_ ?_
      rotate_left
      · simp only [Act.put, List.setIfInBounds_toArray, List.set_cons_zero, List.set_cons_succ, i64_w, i32_w]
        rfl
      refine pure_ (i := 15) (N := some 28) (v := ?_) (a' := ?_) #[true, true, true, true, true, true, true, true, true, true, true, true, true, true, true, true] rfl rfl (any_of HT_.out (by kernel_rfl)) (fun _ _ _ h => h) (Or.inl ⟨by rfl, ?_⟩) ?_ ?_
      rotate_left
      · intro w'
        go_simp
        with_reducible rfl
      rotate_left
      · simp only [Act.put, List.setIfInBounds_toArray, List.set_cons_zero, List.set_cons_succ, i64_w, i32_w]
        rfl
      refine done_ (done_of HT_.out (by kernel_rfl)) ?_
      try go_wp2
      go_meet
      exact ⟨by rw [ok_root hrt]; rfl, ⟨HS.out⟩⟩
    · refine pure_ (i := 2) (N := some 15) (v := ?_) (a' := ?_) #[true, true, true, false, false, false, false, false, false, false, false, false, false, false, false, false] rfl rfl (any_of HT_.out (by kernel_rfl)) (fun _ _ _ h => h) (Or.inl ⟨by rfl, ?_⟩) ?_ ?_
      rotate_left
      · intro w'
        go_simp
        with_reducible rfl
      rotate_left
      · simp only [Act.put, List.setIfInBounds_toArray, List.set_cons_zero, List.set_cons_succ, i64_w, i32_w]
        rfl
      refine pure_ (i := 3) (N := some 16) (v := ?_) (a' := ?_) #[true, true, true, true, false, false, false, false, false, false, false, false, false, false, false, false] rfl rfl (any_of HT_.out (by kernel_rfl)) (fun _ _ _ h => h) (Or.inl ⟨by rfl, ?_⟩) ?_ ?_
      rotate_left
      · intro w'
        go_simp
        with_reducible rfl
      rotate_left
      · simp only [Act.put, List.setIfInBounds_toArray, List.set_cons_zero, List.set_cons_succ, i64_w, i32_w]
        rfl
      refine take_ (i := 4) (N := some 17) (v := ?_) (a' := ?_) #[true, true, true, true, true, false, false, false, false, false, false, false, false, false, false, false] rfl rfl (take_ofW HT_.out HW_.out (by kernel_rfl)) (fun _ _ _ h => h) (Or.inl ⟨by rfl, ?_⟩) hHeld ?_ ?_
      rotate_left
      · rintro w' ⟨h0, h1, h2, h3, h4⟩
        go_simp
        with_reducible rfl
      rotate_left
      · simp only [Act.put, List.setIfInBounds_toArray, List.set_cons_zero, List.set_cons_succ, i64_w, i32_w]
        rfl
      refine one_ (i := 5) (N := (some 18)) #[true, true, true, true, true, true, false, false, false, false, false, false, false, false, false, false] rfl rfl (one_of HT_.out (by kernel_rfl)) (by decide) (fun K hK => ?_)
      refine goes_ Try.func48 (by kernel_rfl) rfl #[.agg #[.int .i64 no, .slice B3 es.length d3, .bool gone]] (by rfl) rfl rfl (by (try simp only [List.map_toArray, List.map_cons, List.map_nil]); first | done | rfl) ?_
      with_reducible refine (cobwebref11_Leaf.calls k2 no _ d3 es gone (leafB es gone) _ (Kd.C_below HR3.out HS.out.below) HC3.out HLF.out).mono ?_
      rintro e wb ⟨rfl, hb⟩
      refine ⟨_, rfl, ?_⟩
      have n_ := Lib.hid (HS.out.step hb); clear HS; have HS := n_; clear n_
      clear hb
      refine hK.out _ _ (Rt.held HS.out) (fun hHeld => ?_)
      clear hK K
      refine norm_ (a' := ?_) ?_ ?_
      rotate_left
      · show Act.put _ (some 18) _ = _
        simp only [Act.put, List.setIfInBounds_toArray, List.set_cons_zero, List.set_cons_succ, i64_w, i32_w]
        rfl
      cases hlf : leafB es gone
      · refine pure_ (i := 6) (N := some 19) (v := ?_) (a' := ?_) #[true, true, true, true, true, true, true, false, false, false, false, false, false, false, false, false] rfl rfl (any_of HT_.out (by kernel_rfl)) (fun _ _ _ h => h) (Or.inl ⟨by rfl, ?_⟩) ?_ ?_
        rotate_left
        · intro w'
          go_simp
          with_reducible rfl
        rotate_left
        · simp only [Act.put, List.setIfInBounds_toArray, List.set_cons_zero, List.set_cons_succ, i64_w, i32_w]
          rfl
        refine pure_ (i := 7) (N := some 20) (v := ?_) (a' := ?_) #[true, true, true, true, true, true, true, true, false, false, false, false, false, false, false, false] rfl rfl (any_of HT_.out (by kernel_rfl)) (fun _ _ _ h => h) (Or.inl ⟨by rfl, ?_⟩) ?_ ?_
        rotate_left
        · intro w'
          go_simp
          with_reducible rfl
        rotate_left
        · simp only [Act.put, List.setIfInBounds_toArray, List.set_cons_zero, List.set_cons_succ, i64_w, i32_w]
          rfl
        refine pure_ (i := 8) (N := some 21) (v := ?_) (a' := ?_) #[true, true, true, true, true, true, true, true, true, false, false, false, false, false, false, false] rfl rfl (any_of HT_.out (by kernel_rfl)) (fun _ _ _ h => h) (Or.inl ⟨by rfl, ?_⟩) ?_ ?_
        rotate_left
        · intro w'
          go_simp
          with_reducible rfl
        rotate_left
        · simp only [Act.put, List.setIfInBounds_toArray, List.set_cons_zero, List.set_cons_succ, i64_w, i32_w]
          rfl
        refine pure_ (i := 9) (N := some 22) (v := undef) (a' := ?_) #[true, true, true, true, true, true, true, true, true, true, false, false, false, false, false, false] rfl rfl (any_of HT_.out (by kernel_rfl)) (fun _ _ _ h => h) (Or.inr ⟨by rfl, rfl⟩) ?_ ?_
        rotate_left
        · simp only [Act.put, List.setIfInBounds_toArray, List.set_cons_zero, List.set_cons_succ, i64_w, i32_w]
          rfl
        refine pure_ (i := 10) (N := some 23) (v := undef) (a' := ?_) #[true, true, true, true, true, true, true, true, true, true, true, false, false, false, false, false] rfl rfl (any_of HT_.out (by kernel_rfl)) (fun _ _ _ h => h) (Or.inr ⟨by rfl, rfl⟩) ?_ ?_
        rotate_left
        · simp only [Act.put, List.setIfInBounds_toArray, List.set_cons_zero, List.set_cons_succ, i64_w, i32_w]
          rfl
        refine pure_ (i := 11) (N := some 24) (v := undef) (a' := ?_) #[true, true, true, true, true, true, true, true, true, true, true, true, false, false, false, false] rfl rfl (any_of HT_.out (by kernel_rfl)) (fun _ _ _ h => h) (Or.inr ⟨by rfl, rfl⟩) ?_ ?_
        rotate_left
        · simp only [Act.put, List.setIfInBounds_toArray, List.set_cons_zero, List.set_cons_succ, i64_w, i32_w]
          rfl
        refine pure_ (i := 12) (N := some 25) (v := undef) (a' := ?_) #[true, true, true, true, true, true, true, true, true, true, true, true, true, false, false, false] rfl rfl (any_of HT_.out (by kernel_rfl)) (fun _ _ _ h => h) (Or.inr ⟨by rfl, rfl⟩) ?_ ?_
        rotate_left
        · simp only [Act.put, List.setIfInBounds_toArray, List.set_cons_zero, List.set_cons_succ, i64_w, i32_w]
          rfl
        refine pure_ (i := 13) (N := some 26) (v := undef) (a' := ?_) #[true, true, true, true, true, true, true, true, true, true, true, true, true, true, false, false] rfl rfl (any_of HT_.out (by kernel_rfl)) (fun _ _ _ h => h) (Or.inr ⟨by rfl, rfl⟩) ?_ ?_
        rotate_left
        · simp only [Act.put, List.setIfInBounds_toArray, List.set_cons_zero, List.set_cons_succ, i64_w, i32_w]
          rfl
        refine pure_ (i := 14) (N := some 27) (v := undef) (a' := ?_) #[true, true, true, true, true, true, true, true, true, true, true, true, true, true, true, false] rfl rfl (any_of HT_.out (by kernel_rfl)) (fun _ _ _ h => h) (Or.inr ⟨by rfl, rfl⟩) ?_ ?_
        rotate_left
        · simp only [Act.put, List.setIfInBounds_toArray, List.set_cons_zero, List.set_cons_succ, i64_w, i32_w]
          rfl
        refine pure_ (i := 15) (N := some 28) (v := ?_) (a' := ?_) #[true, true, true, true, true, true, true, true, true, true, true, true, true, true, true, true] rfl rfl (any_of HT_.out (by kernel_rfl)) (fun _ _ _ h => h) (Or.inl ⟨by rfl, ?_⟩) ?_ ?_
        rotate_left
        · intro w'
          go_simp
          with_reducible rfl
        rotate_left
        · simp only [Act.put, List.setIfInBounds_toArray, List.set_cons_zero, List.set_cons_succ, i64_w, i32_w]
          rfl
        refine done_ (done_of HT_.out (by kernel_rfl)) ?_
        try go_wp2
        go_meet
        exact ⟨by rw [ok_leaf hlf]; rfl, ⟨HS.out⟩⟩
      · refine pure_ (i := 6) (N := some 19) (v := ?_) (a' := ?_) #[true, true, true, true, true, true, true, false, false, false, false, false, false, false, false, false] rfl rfl (any_of HT_.out (by kernel_rfl)) (fun _ _ _ h => h) (Or.inl ⟨by rfl, ?_⟩) ?_ ?_
        rotate_left
        · intro w'
          go_simp
          with_reducible rfl
        rotate_left
        · simp only [Act.put, List.setIfInBounds_toArray, List.set_cons_zero, List.set_cons_succ, i64_w, i32_w]
          rfl
        refine pure_ (i := 7) (N := some 20) (v := ?_) (a' := ?_) #[true, true, true, true, true, true, true, true, false, false, false, false, false, false, false, false] rfl rfl (any_of HT_.out (by kernel_rfl)) (fun _ _ _ h => h) (Or.inl ⟨by rfl, ?_⟩) ?_ ?_
        rotate_left
        · intro w'
          go_simp
          with_reducible rfl
        rotate_left
        · simp only [Act.put, List.setIfInBounds_toArray, List.set_cons_zero, List.set_cons_succ, i64_w, i32_w]
          rfl
        refine pure_ (i := 8) (N := some 21) (v := ?_) (a' := ?_) #[true, true, true, true, true, true, true, true, true, false, false, false, false, false, false, false] rfl rfl (any_of HT_.out (by kernel_rfl)) (fun _ _ _ h => h) (Or.inl ⟨by rfl, ?_⟩) ?_ ?_
        rotate_left
        · intro w'
          go_simp
          with_reducible rfl
        rotate_left
        · simp only [Act.put, List.setIfInBounds_toArray, List.set_cons_zero, List.set_cons_succ, i64_w, i32_w]
          rfl
        refine pure_ (i := 10) (N := some 23) (v := ?_) (a' := ?_) #[true, true, true, true, true, true, true, true, true, false, true, false, false, false, false, false] rfl rfl (any_of HT_.out (by kernel_rfl)) (fun _ _ _ h => h) (Or.inl ⟨by rfl, ?_⟩) ?_ ?_
        rotate_left
        · intro w'
          go_simp
          with_reducible rfl
        rotate_left
        · simp only [Act.put, List.setIfInBounds_toArray, List.set_cons_zero, List.set_cons_succ, i64_w, i32_w]
          rfl
        refine pure_ (i := 12) (N := some 25) (v := ?_) (a' := ?_) #[true, true, true, true, true, true, true, true, true, false, true, false, true, false, false, false] rfl rfl (any_of HT_.out (by kernel_rfl)) (fun _ _ _ h => h) (Or.inl ⟨by rfl, ?_⟩) ?_ ?_
        rotate_left
        · intro w'
          go_simp
          with_reducible rfl
        rotate_left
        · simp only [Act.put, List.setIfInBounds_toArray, List.set_cons_zero, List.set_cons_succ, i64_w, i32_w]
          rfl
        refine take_ (i := 9) (N := some 22) (v := ?_) (a' := ?_) #[true, true, true, true, true, true, true, true, true, true, true, false, true, false, false, false] rfl rfl (take_ofW HT_.out HW_.out (by kernel_rfl)) (fun _ _ _ h => h) (Or.inl ⟨by rfl, ?_⟩) hHeld ?_ ?_
        rotate_left
        · rintro w' ⟨h0, h1, h2, h3, h4⟩
          go_simp
          with_reducible rfl
        rotate_left
        · simp only [Act.put, List.setIfInBounds_toArray, List.set_cons_zero, List.set_cons_succ, i64_w, i32_w]
          rfl
        refine take_ (i := 13) (N := some 26) (v := ?_) (a' := ?_) #[true, true, true, true, true, true, true, true, true, true, true, false, true, true, false, false] rfl rfl (take_ofW HT_.out HW_.out (by kernel_rfl)) (fun _ _ _ h => h) (Or.inl ⟨by rfl, ?_⟩) hHeld ?_ ?_
        rotate_left
        · rintro w' ⟨h0, h1, h2, h3, h4⟩
          go_simp
          with_reducible rfl
        rotate_left
        · simp only [Act.put, List.setIfInBounds_toArray, List.set_cons_zero, List.set_cons_succ, i64_w, i32_w]
          rfl
        refine one_ (i := 11) (N := (some 24)) #[true, true, true, true, true, true, true, true, true, true, true, true, true, true, false, false] rfl rfl (one_of HT_.out (by kernel_rfl)) (by decide) (fun K hK => ?_)
        refine goes_ Try.func26 (by kernel_rfl) rfl #[.agg #[.slice B0 a.length d0, .slice B1 b.length d1], .string s] (by rfl) rfl rfl (by (try simp only [List.map_toArray, List.map_cons, List.map_nil]); first | done | rfl) ?_
        with_reducible refine (cobwebref11_Find.calls k3 _ d0 a _ d1 b s (findB a b s) _ (Kd.C_below HR0.out HS.out.below) HC0.out (Kd.C_below HR1.out HS.out.below) HC1.out HFD.out).mono ?_
        rintro e wb ⟨rfl, hb⟩
        refine ⟨_, rfl, ?_⟩
        have n_ := Lib.hid (HS.out.step hb); clear HS; have HS := n_; clear n_
        clear hb
        refine hK.out _ _ (Rt.held HS.out) (fun hHeld => ?_)
        clear hK K
        refine norm_ (a' := ?_) ?_ ?_
        rotate_left
        · show Act.put _ (some 24) _ = _
          simp only [Act.put, List.setIfInBounds_toArray, List.set_cons_zero, List.set_cons_succ, i64_w, i32_w]
          rfl
        refine pure_ (i := 14) (N := some 27) (v := ?_) (a' := ?_) #[true, true, true, true, true, true, true, true, true, true, true, true, true, true, true, false] rfl rfl (any_of HT_.out (by kernel_rfl)) (fun _ _ _ h => h) (Or.inl ⟨by rfl, ?_⟩) ?_ ?_
        rotate_left
        · intro w'
          go_simp
          with_reducible rfl
        rotate_left
        · simp only [Act.put, List.setIfInBounds_toArray, List.set_cons_zero, List.set_cons_succ, i64_w, i32_w]
          rfl
        refine pure_ (i := 15) (N := some 28) (v := ?_) (a' := ?_) #[true, true, true, true, true, true, true, true, true, true, true, true, true, true, true, true] rfl rfl (any_of HT_.out (by kernel_rfl)) (fun _ _ _ h => h) (Or.inl ⟨by rfl, ?_⟩) ?_ ?_
        rotate_left
        · intro w'
          go_simp
          with_reducible rfl
        rotate_left
        · simp only [Act.put, List.setIfInBounds_toArray, List.set_cons_zero, List.set_cons_succ, i64_w, i32_w]
          rfl
        refine done_ (done_of HT_.out (by kernel_rfl)) ?_
        try go_wp2
        go_meet
        exact ⟨by rw [ok_find hrt hlf]; first | rfl | (rw [Bool.not_not]; rfl) | (simp; done), ⟨HS.out⟩⟩
  case rest =>
    clear HS HRT HLF HFD
    obtain ⟨rfl, HS⟩ := hcut
    cases hok : okL a b no es gone s with
    | false =>
      obtain ⟨rfl, rfl, rfl, rfl⟩ := rem_a HL.out HI.out hok
      go_wp2_with (first | ((with_reducible refine gate_store (t := 26) (p := 6) rfl ?_); refine store_row rfl rfl rfl g6 _ 26 [.slice none 0 0, .slice none 0 0] rfl (.agg #[.slice none 0 0, .slice none 0 0]) ?haC ?hbC HS.out.x6 rfl (by kernel_rfl) (two26 none 0 0 none 0 0) ?_; (case haC => rfl); (case hbC => first | rfl | simp [Value.cells]); intro w8 hbox hg hz; have HX8 := Lib.hid hbox; have HB8 := Lib.hid (below_own HS.out.below hg HS.out.b6 HS.out.below.size); clear hbox hg hz))
      refine bodyPost_ret (results_list (rs := [.cell 6 26, .tmp 7, .tmp 8]) rfl (by simp) (.cell g6 26 #[.slice none 0 0, .slice none 0 0] (0, 0) _ rfl HX8.out Try.underlying26 rfl (by kernel_rfl) (.tmp (.tmp .nil)))) rfl ?_
      exact nil_post HB8.out
    | true =>
      obtain ⟨hgn, hl4, hri⟩ := leafB_iff.1 (okL_iff.1 hok).1
      subst hgn
      have HRI := Lib.hid hri
      have HOK := Lib.hid hok
      have HRR := Lib.hid (okL_root hok)
      clear hri
      cases hf : fndS s es with
      | false =>
        obtain ⟨rfl, rfl, rfl, rfl⟩ := rem_b HL.out HI.out hok hf
        have HHS := Lib.hid (show cobwebref11_has.f (es.length + 1) es s = some (-1) by rw [ref_has es s (by omega) HRI.out (by omega), if_neg (by rw [hf]; decide)])
        obtain ⟨q30, q31, q40, q41, q42⟩ := HS.out.held
        go_wp2_with (first | (go_at_call 49; refine (cobwebref11_has.calls (es.length + 1) _ d3 es s _ _ (Kd.C_below HR3.out HS.out.below) HC3.out HHS.out).mono ?_; rintro e w7 ⟨rfl, hd⟩; have n_ := Lib.hid (HS.out.step hd.below); clear HS; have HS := n_; clear n_; clear hd q30 q31 q40 q41 q42; refine Hold.go ?_))
        refine Hold.of ?_
        go_wp2_with (first | ((with_reducible refine gate_store (t := 26) (p := 6) rfl ?_); refine store_row rfl rfl rfl g6 _ 26 [.slice none 0 0, .slice none 0 0] rfl (.agg #[.slice none 0 0, .slice none 0 0]) ?haC ?hbC HS.out.x6 rfl (by kernel_rfl) (two26 none 0 0 none 0 0) ?_; (case haC => rfl); (case hbC => first | rfl | simp [Value.cells]); intro w8 hbox hg hz; have HX8 := Lib.hid hbox; have HB8 := Lib.hid (below_own HS.out.below hg HS.out.b6 HS.out.below.size); clear hbox hg hz))
        refine bodyPost_ret (results_list (rs := [.cell 6 26, .tmp 7, .tmp 8]) rfl (by simp) (.cell g6 26 #[.slice none 0 0, .slice none 0 0] (0, 0) _ rfl HX8.out Try.underlying26 rfl (by kernel_rfl) (.tmp (.tmp .nil)))) rfl ?_
        exact nil_post HB8.out
      | true =>
        have HHS := Lib.hid (show cobwebref11_has.f (es.length + 1) es s = some (loS s es : Int) by rw [ref_has es s (by omega) HRI.out (by omega), if_pos hf])
        have hlo := fnd_lt hf
        obtain ⟨q30, q31, q40, q41, q42⟩ := HS.out.held
        go_wp2_with (first | (go_at_call 49; refine (cobwebref11_has.calls (es.length + 1) _ d3 es s _ _ (Kd.C_below HR3.out HS.out.below) HC3.out HHS.out).mono ?_; rintro e w7 ⟨rfl, hd⟩; have n_ := Lib.hid (HS.out.step hd.below); clear HS; have HS := n_; clear n_; clear hd q30 q31 q40 q41 q42; refine Hold.go ?_))
        refine Hold.of ?_
        obtain ⟨q30, q31, q40, q41, q42⟩ := HS.out.held
        go_wp2_with (first | (go_at_call 52; refine (cut_at (i := loS s es) (Kd.C_below HR3.out HS.out.below) HC3.out hlo (by omega) rfl).mono ?_; rintro e w9 ⟨v_, rfl, hv, hb⟩; obtain ⟨A10, c10, rfl⟩ := Kd.R_slice hv; have H10 := Lib.hid (Kd.R_lower hv HS.out.below.size); have n_ := Lib.hid (HS.out.step hb); clear HS; have HS := n_; clear n_; clear hv hb q30 q31 q40 q41 q42; refine Hold.go ?_))
        have H10b := Lib.hid (show Kd.R Kd.string 9 w9 w.heap.size (fun _ => True) (.slice A10 (cutS s es).length c10) (cutS s es) from H10.out)
        clear H10
        have H10 := H10b
        clear H10b
        show Hold _
        have hids : (cutAt (loS s es) es).length = (cutS s es).length := rfl
        rw [hids]
        clear HHS
        generalize hgi : cutS s es = ids at *
        have HGI := Lib.hid hgi
        clear hids hgi
        refine Hold.of ?_
        obtain ⟨bb, hbb⟩ : ∃ bb, bb = (decide (0 < ids.length) || (b.length == 1)) := ⟨_, rfl⟩
        have HBB := Lib.hid hbb
        go_upto_region 7 with (fail)
        go_cut [49] (fun v49 wc => v49 = .bool bb ∧ Aside0 (Rt w wc g3 g4 g6 (.slice B0 a.length d0) (.slice B1 b.length d1) no (.slice B3 es.length d3) false) ∧ Aside0 (Kd.R Kd.string 9 wc w.heap.size (fun _ => True) (.slice A10 ids.length c10) ids))
        case first =>
          obtain ⟨q30, q31, q40, q41, q42⟩ := HS.out.held
          clear hbb
          by_cases h4 : 0 < ids.length
          · have h4a : decide ((0 : Int) < (ids.length : Int)) = true := decide_eq_true (by omega)
            have h4b : decide (0 < ids.length) = true := decide_eq_true h4
            go_wp2
            go_meet
            exact ⟨by rw [HBB.out, h4b]; rfl, ⟨HS.out⟩, ⟨H10.out⟩⟩
          · have h4a : decide ((0 : Int) < (ids.length : Int)) = false := decide_eq_false (by omega)
            have h4b : decide (0 < ids.length) = false := decide_eq_false h4
            by_cases h5 : b.length = 1
            · have h5a : ((b.length : Int) == 1) = true := beq_iff_eq.mpr (by omega)
              have H5 := Lib.hid h5
              clear h5
              go_wp2
              go_meet
              exact ⟨by rw [HBB.out, h4b, H5.out]; rfl, ⟨HS.out⟩, ⟨H10.out⟩⟩
            · have h5a : ((b.length : Int) == 1) = false := beq_eq_false_iff_ne.mpr (by omega)
              go_wp2
              go_meet
              exact ⟨by rw [HBB.out, h4b, beq_eq_false_iff_ne.mpr h5]; rfl, ⟨HS.out⟩, ⟨H10.out⟩⟩
        case rest =>
          clear HS H10
          obtain ⟨rfl, HS, H10⟩ := hcut
          cases bb with
          | true =>
            have hkk : 0 < (cutS s es).length ∨ b.length = 1 := by
              rw [HGI.out]
              rcases Bool.or_eq_true_iff.1 HBB.out.symm with h1 | h1
              · exact .inl (of_decide_eq_true h1)
              · exact .inr (beq_iff_eq.1 h1)
            obtain ⟨rfl, rfl, rfl, rfl⟩ := rem_c HL.out HI.out HOK.out hf hkk
            clear hbb hkk
            generalize hwc : wc = wd at *
            clear hwc
            obtain ⟨q30, q31, q40, q41, q42⟩ := HS.out.held
            have q60 : wd.cell? ⟨g6, 0, none⟩ = some (.slice none 0 0) := (blk_cell HS.out.x6 0).trans rfl
            have q61 : wd.cell? ⟨g6, 1, none⟩ = some (.slice none 0 0) := (blk_cell HS.out.x6 1).trans rfl
            have f60 := blk_frozen HS.out.x6 0
            have f61 := blk_frozen HS.out.x6 1
            have b3 := blk_lt HS.out.x3
            have b4 := blk_lt HS.out.x4
            have b6 := blk_lt HS.out.x6
            have n36 := HS.out.n36
            have n46 := HS.out.n46
            have n63 := n36.symm
            have n64 := n46.symm
            go_upto_region 8 with (fail)
            go_region
            all_goals go_wp2
            obtain ⟨hx, hb, _⟩ := HS.out.out (.slice B0 a.length d0) (.slice B1 b.length d1) (.cells #[.int .i64 no, .slice A10 ids.length c10, .bool false] 28 (0, 0))
            refine bodyPost_ret (results_list (rs := [.cell 6 26, .tmp 7, .tmp 8]) rfl (by simp) (.cell g6 26 #[.slice B0 a.length d0, .slice B1 b.length d1] (0, 0) _ rfl hx Try.underlying26 rfl (by kernel_rfl) (.tmp (.tmp .nil)))) rfl ?_
            rw [HGI.out]
            exact ⟨B0, d0, B1, d1, some ⟨_, 0, none⟩, 1, rfl, ⟨Kd.C_below HR0.out hb, HC0.out⟩, ⟨Kd.C_below HR1.out hb, HC1.out⟩, ⟨HS.out.fin1 H10.out no false, Nat.le_refl _⟩, hb⟩
          | false =>
            have hb2 := Bool.or_eq_false_iff.1 HBB.out.symm
            have h4 : ¬ 0 < ids.length := of_decide_eq_false hb2.1
            have h5 : ¬ b.length = 1 := beq_eq_false_iff_ne.1 hb2.2
            obtain ⟨rfl, rfl, rfl, rfl⟩ := rem_d HL.out HI.out HOK.out hf (by rw [HGI.out]; exact h4) h5
            clear hbb hb2 h4
            have hrr := (HRR.out).2
            have hat0 := atS_le s a
            have HCN := Lib.hid (cntLe_rise s hrr.2)
            have HBL := Lib.hid hrr.1
            have ha1 : 0 < a.length := by have := hrr.1; omega
            have HA2 := Lib.hid (show cobwebref11_At.f k4 a b s = some (atS s a : Int) by rw [HAT.out, HCN.out])
            have H5 := Lib.hid h5
            clear hrr h5
            obtain ⟨q30, q31, q40, q41, q42⟩ := HS.out.held
            go_wp2_with (first | (go_at_call 51; refine (cobwebref11_At.calls k4 _ d0 a _ d1 b s (atS s a : Int) _ (Kd.C_below HR0.out HS.out.below) HC0.out (Kd.C_below HR1.out HS.out.below) HC1.out HA2.out).mono ?_; rintro e w11 ⟨rfl, hb⟩; have n_ := Lib.hid (Kd.R_below H10.out hb); clear H10; have H10 := n_; clear n_; have n_ := Lib.hid (HS.out.step hb); clear HS; have HS := n_; clear n_; clear hb q30 q31 q40 q41 q42) | ((with_reducible refine gate_dst (N := 12) rfl ?_); refine alloc_event ?hg (N := 12) ?hd (fun g => .pointer (some ⟨g, 0, none⟩)) (.cells #[.slice none 0 0, .slice none 0 0] 26 (0, 0)) ?hr ?_; (case hd => rfl); (case hg => rfl); (case hr => first | (go_simp; done) | (go_simp; rfl)); intro g15 hg wn hbox hb; have HG := Lib.hid (show g3 ≠ g15 ∧ g4 ≠ g15 ∧ g6 ≠ g15 ∧ w.heap.size ≤ g15 by have i1 := blk_lt HS.out.x3; have i2 := blk_lt HS.out.x4; have i3 := blk_lt HS.out.x6; have i4 := HS.out.below.size; refine ⟨?_, ?_, ?_, ?_⟩ <;> omega); have HX := Lib.hid hbox; have n_ := Lib.hid (Kd.R_below H10.out hb); clear H10; have H10 := n_; clear n_; have n_ := Lib.hid (HS.out.step hb); clear HS; have HS := n_; clear n_; clear hg hbox hb) | ((with_reducible refine gate_store (t := 26) (p := 12) rfl ?_); refine store_row rfl rfl rfl g15 _ 26 [.slice none 0 0, .slice none 0 0] rfl (.agg #[.slice none 0 0, .slice none 0 0]) ?haE ?hbE HX.out rfl (by kernel_rfl) (two26 none 0 0 none 0 0) ?_; (case haE => rfl); (case hbE => first | rfl | simp [Value.cells]); intro wn hbox hg hz; have n_ := Lib.hid (Kd.R_grown1 H10.out rfl hg (Kd.R_ne H10.out HX.out (by decide))); clear H10; have H10 := n_; clear n_; have n_ := Lib.hid (HS.out.far hg HG.out.1 HG.out.2.1 HG.out.2.2.1 HG.out.2.2.2); clear HS; have HS := n_; clear n_; have n_ := Lib.hid hbox; clear HX; have HX := n_; clear n_ hbox hg hz; refine Hold.go ?_))
            have n_ := Lib.hid (show Nx w wn g3 g4 g6 g15 (.slice none 0 0) (.slice none 0 0) (.slice none 0 0) (.slice none 0 0) (.slice A10 ids.length c10) [] [] ids from ⟨HX.out, Kd.R_nil _ _ _ _ _, Kd.R_nil _ _ _ _ _, H10.out, HG.out.1, HG.out.2.1, HG.out.2.2.1, HG.out.2.2.2⟩)
            clear HX H10
            have HX := n_
            clear n_
            have hk1 : atS s a + 1 ≤ b.length := by have := HBL.out; omega
            have hw1 : wrap64 ((atS s a : Int) + 1) = (atS s a : Int) + 1 := w64 (by omega) (by omega)
            have htk := takeI_run B1 d1 b (atS s a) (by omega) HC1.out rfl
            have HTR := Lib.hid (Kd.C_take HR1.out (show atS s a ≤ b.length by omega))
            obtain ⟨BD, hdk, hdr⟩ := dropI_run B1 d1 b (atS s a + 1) hk1 HC1.out w HR1.out (j := (atS s a : Int) + 1) (by omega)
            have HDR := Lib.hid hdr
            have HFIN := Lib.hid (show cutAt (atS s a) b = ([] ++ b.take (atS s a)) ++ b.drop (atS s a + 1) by simp [cutAt])
            have hL1 : (b.take (atS s a)).length ≤ 100 := by rw [List.length_take]; omega
            have hL2 : (b.drop (atS s a + 1)).length ≤ 100 := by rw [List.length_drop]; omega
            have HN1 := Lib.hid hL1
            have HN2 := Lib.hid hL2
            clear hdr hL1 hL2
            generalize b.take (atS s a) = t1 at *
            generalize b.drop (atS s a + 1) = t2 at *
            generalize hn1 : t1.length = n1 at *
            generalize hn2 : t2.length = n2 at *
            have HE1 := Lib.hid hn1
            have HE2 := Lib.hid hn2
            clear hn1 hn2
            refine Hold.of ?_
            go_upto_region 11 with (fail)
            refine start_ (n := 9) (S := (fun W_ => heldR g3 g4 (.slice B0 a.length d0) (.slice B1 b.length d1) no (.slice B3 es.length d3) false W_ ∧ W_.cell? ⟨g15, 0, none⟩ = some (.slice none 0 0) ∧ W_.cell? ⟨g15, 1, none⟩ = some (.slice none 0 0))) (ds := [8]) #[false, false, false, false, false, false, false, false, false] (by kernel_rfl) rfl rfl ⟨Rt.held (HS.out.step (below_drew1 (Below.refl _ _))), Nx.cells (HX.out.step (below_drew1 (Below.refl _ _)))⟩ (fun hHeld => ?_); refine with_tabW rr11Tab rr11Waits (fun HT_ HW_ => ?_)
            have n_ := Lib.hid (HX.out.step (below_drew1 (Below.refl _ _))); clear HX; have HX := n_; clear n_
            have n_ := Lib.hid (HS.out.step (below_drew1 (Below.refl _ _))); clear HS; have HS := n_; clear n_
            generalize World.drew _ = wa at HS HX hHeld ⊢
            refine pure_ (i := 0) (N := some 60) (v := ?_) (a' := ?_) #[true, false, false, false, false, false, false, false, false] rfl rfl (any_of HT_.out (by kernel_rfl)) (fun _ _ _ h => h) (Or.inl ⟨by rfl, ?_⟩) ?_ ?_
            rotate_left
            · intro w'
              go_simp
              with_reducible rfl
            rotate_left
            · simp only [Act.put, List.setIfInBounds_toArray, List.set_cons_zero, List.set_cons_succ, i64_w, i32_w]
              rfl
            refine pure_ (i := 2) (N := some 62) (v := ?_) (a' := ?_) #[true, false, true, false, false, false, false, false, false] rfl rfl (any_of HT_.out (by kernel_rfl)) (fun _ _ _ h => h) (Or.inl ⟨by rfl, ?_⟩) ?_ ?_
            rotate_left
            · intro w'
              go_simp
              with_reducible rfl
            rotate_left
            · simp only [Act.put, List.setIfInBounds_toArray, List.set_cons_zero, List.set_cons_succ, i64_w, i32_w]
              rfl
            refine pure_ (i := 4) (N := some 64) (v := ?_) (a' := ?_) #[true, false, true, false, true, false, false, false, false] rfl rfl (any_of HT_.out (by kernel_rfl)) (fun _ _ _ h => h) (Or.inl ⟨by rfl, ?_⟩) ?_ ?_
            rotate_left
            · intro w'
              go_simp
              with_reducible rfl
            rotate_left
            · simp only [Act.put, List.setIfInBounds_toArray, List.set_cons_zero, List.set_cons_succ, i64_w, i32_w]
              rfl
            refine take_ (i := 1) (N := some 61) (v := ?_) (a' := ?_) #[true, true, true, false, true, false, false, false, false] rfl rfl (take_ofW HT_.out HW_.out (by kernel_rfl)) (fun _ _ _ h => h) (Or.inl ⟨by rfl, ?_⟩) hHeld ?_ ?_
            rotate_left
            · rintro w' ⟨⟨h0, h1, h2, h3, h4⟩, h5, h6⟩
              go_simp
              with_reducible rfl
            rotate_left
            · simp only [Act.put, List.setIfInBounds_toArray, List.set_cons_zero, List.set_cons_succ, i64_w, i32_w]
              rfl
            refine take_ (i := 3) (N := some 63) (v := ?_) (a' := ?_) #[true, true, true, true, true, false, false, false, false] rfl rfl (take_ofW HT_.out HW_.out (by kernel_rfl)) (fun _ _ _ h => h) (Or.inl ⟨by rfl, ?_⟩) hHeld ?_ ?_
            rotate_left
            · rintro w' ⟨⟨h0, h1, h2, h3, h4⟩, h5, h6⟩
              go_simp
              with_reducible rfl
            rotate_left
            · simp only [Act.put, List.setIfInBounds_toArray, List.set_cons_zero, List.set_cons_succ, i64_w, i32_w]
              rfl
            refine pure_ (i := 5) (N := some 65) (v := ?_) (a' := ?_) #[true, true, true, true, true, true, false, false, false] rfl rfl (any_of HT_.out (by kernel_rfl)) (fun _ _ _ h => h) (Or.inl ⟨by rfl, ?_⟩) ?_ ?_
            rotate_left
            · intro w'
              go_simp
              with_reducible rfl
            rotate_left
            · simp only [Act.put, List.setIfInBounds_toArray, List.set_cons_zero, List.set_cons_succ, i64_w, i32_w]
              rfl
            refine one_ (i := 6) (N := (some 66)) #[true, true, true, true, true, true, true, false, false] rfl rfl (one_of HT_.out (by kernel_rfl)) (by decide) (fun K hK => ?_)
            refine Kd.R_append_rows_step (Kd.int .i64) (w0 := w) w.heap.size (by rfl) (.tmp 61) (.tmp 65) 24 3 (.int .i64 0) 8 rfl Try.underlying24 info3 rfl (by decide) (by omega) (.slice none 0 0) (([] : List Int)) (t1) _ _ _ (fun _ => True) (fun _ => False) rfl rfl HX.out.rL (Kd.C_below HTR.out HS.out.below) (fun _ _ h => h) (fun _ h => h.elim) (fun _ _ => trivial) HS.out.below HS.out.below.size (by have := HN1.out; simp; omega) ?_
            intro v_ wb ho hb hg hat
            generalize hl1 : (([] : List Int)) ++ t1 = l1 at ho
            have HL1 := Lib.hid hl1
            obtain ⟨AN, cN, rfl⟩ := Kd.R_slice ho
            have n_ := Lib.hid (HS.out.grewL HX.out.rL hb hg); clear HS; have HS := n_; clear n_
            have n_ := Lib.hid (HX.out.grewL ho hg); clear HX; have HX := n_; clear n_
            clear ho hb hg hat hl1
            refine hK.out _ _ ⟨Rt.held HS.out, Nx.cells HX.out⟩ (fun hHeld => ?_)
            clear hK K
            refine norm_ (a' := ?_) ?_ ?_
            rotate_left
            · show Act.put _ (some 66) _ = _
              simp only [Act.put, List.setIfInBounds_toArray, List.set_cons_zero, List.set_cons_succ, i64_w, i32_w]
              rfl
            refine pure_ (i := 7) (N := some 67) (v := ?_) (a' := ?_) #[true, true, true, true, true, true, true, true, false] rfl rfl (any_of HT_.out (by kernel_rfl)) (fun _ _ _ h => h) (Or.inl ⟨by rfl, ?_⟩) ?_ ?_
            rotate_left
            · intro w'
              go_simp
              with_reducible rfl
            rotate_left
            · simp only [Act.put, List.setIfInBounds_toArray, List.set_cons_zero, List.set_cons_succ, i64_w, i32_w]
              rfl
            refine last_ (i := 8) (N := none) #[true, true, true, true, true, true, true, true, true] rfl rfl (one_of HT_.out (by kernel_rfl)) (by decide) (fun K hK => ?_)
            refine cell_step (by rfl) rfl rfl g15 1 _ 26 rfl (.slice AN l1.length cN) ?haS ?hbS HX.out.x (by simp) (by kernel_rfl) rfl ?_
            (case haS => rfl)
            (case hbS => first | rfl | simp [Value.cells])
            intro wn hbox hg hz
            have n_ := Lib.hid (HX.out.root HS.out hg); clear HS; have HS := n_; clear n_
            have n_ := Lib.hid (HX.out.put hbox hg); clear HX; have HX := n_; clear n_
            clear hbox hg hz
            refine hK.out _ _ ?_
            clear hK K
            refine done_ (done_of HT_.out (by kernel_rfl)) ?_
            have HZ1 := Lib.hid (show l1.length ≤ 100 by have h1 := HL1.out; have h2 := HN1.out; have h3 := HE1.out; subst h1; simp; omega)
            obtain ⟨q30, q31, q40, q41, q42⟩ := HS.out.held
            obtain ⟨q50, q51⟩ := HX.out.cells
            go_upto_region 12 with (fail)
            clear q30 q31 q40 q41 q42 q50 q51
            refine start_ (n := 10) (S := (fun W_ => heldR g3 g4 (.slice B0 a.length d0) (.slice B1 b.length d1) no (.slice B3 es.length d3) false W_ ∧ W_.cell? ⟨g15, 0, none⟩ = some (.slice none 0 0) ∧ W_.cell? ⟨g15, 1, none⟩ = some (.slice AN l1.length cN))) (ds := [9]) #[false, false, false, false, false, false, false, false, false, false] (by kernel_rfl) rfl rfl ⟨Rt.held (HS.out.step (below_drew1 (Below.refl _ _))), Nx.cells (HX.out.step (below_drew1 (Below.refl _ _)))⟩ (fun hHeld => ?_); refine with_tabW rr12Tab rr12Waits (fun HT_ HW_ => ?_)
            have n_ := Lib.hid (HX.out.step (below_drew1 (Below.refl _ _))); clear HX; have HX := n_; clear n_
            have n_ := Lib.hid (HS.out.step (below_drew1 (Below.refl _ _))); clear HS; have HS := n_; clear n_
            generalize World.drew _ = wa at HS HX hHeld ⊢
            refine pure_ (i := 0) (N := some 68) (v := ?_) (a' := ?_) #[true, false, false, false, false, false, false, false, false, false] rfl rfl (any_of HT_.out (by kernel_rfl)) (fun _ _ _ h => h) (Or.inl ⟨by rfl, ?_⟩) ?_ ?_
            rotate_left
            · intro w'
              go_simp
              with_reducible rfl
            rotate_left
            · simp only [Act.put, List.setIfInBounds_toArray, List.set_cons_zero, List.set_cons_succ, i64_w, i32_w]
              rfl
            refine pure_ (i := 2) (N := some 70) (v := ?_) (a' := ?_) #[true, false, true, false, false, false, false, false, false, false] rfl rfl (any_of HT_.out (by kernel_rfl)) (fun _ _ _ h => h) (Or.inl ⟨by rfl, ?_⟩) ?_ ?_
            rotate_left
            · intro w'
              go_simp
              with_reducible rfl
            rotate_left
            · simp only [Act.put, List.setIfInBounds_toArray, List.set_cons_zero, List.set_cons_succ, i64_w, i32_w]
              rfl
            refine pure_ (i := 4) (N := some 72) (v := ?_) (a' := ?_) #[true, false, true, false, true, false, false, false, false, false] rfl rfl (any_of HT_.out (by kernel_rfl)) (fun _ _ _ h => h) (Or.inl ⟨by rfl, ?_⟩) ?_ ?_
            rotate_left
            · intro w'
              go_simp
              with_reducible rfl
            rotate_left
            · simp only [Act.put, List.setIfInBounds_toArray, List.set_cons_zero, List.set_cons_succ, i64_w, i32_w]
              rfl
            refine pure_ (i := 5) (N := some 73) (v := ?_) (a' := ?_) #[true, false, true, false, true, true, false, false, false, false] rfl rfl (any_of HT_.out (by kernel_rfl)) (fun _ _ _ h => h) (Or.inl ⟨by rfl, ?_⟩) ?_ ?_
            rotate_left
            · intro w'
              go_simp
              with_reducible rfl
            rotate_left
            · simp only [Act.put, List.setIfInBounds_toArray, List.set_cons_zero, List.set_cons_succ, i64_w, i32_w]
              rfl
            refine take_ (i := 1) (N := some 69) (v := ?_) (a' := ?_) #[true, true, true, false, true, true, false, false, false, false] rfl rfl (take_ofW HT_.out HW_.out (by kernel_rfl)) (fun _ _ _ h => h) (Or.inl ⟨by rfl, ?_⟩) hHeld ?_ ?_
            rotate_left
            · rintro w' ⟨⟨h0, h1, h2, h3, h4⟩, h5, h6⟩
              go_simp
              with_reducible rfl
            rotate_left
            · simp only [Act.put, List.setIfInBounds_toArray, List.set_cons_zero, List.set_cons_succ, i64_w, i32_w]
              rfl
            refine take_ (i := 3) (N := some 71) (v := ?_) (a' := ?_) #[true, true, true, true, true, true, false, false, false, false] rfl rfl (take_ofW HT_.out HW_.out (by kernel_rfl)) (fun _ _ _ h => h) (Or.inl ⟨by rfl, ?_⟩) hHeld ?_ ?_
            rotate_left
            · rintro w' ⟨⟨h0, h1, h2, h3, h4⟩, h5, h6⟩
              go_simp
              with_reducible rfl
            rotate_left
            · simp only [Act.put, List.setIfInBounds_toArray, List.set_cons_zero, List.set_cons_succ, i64_w, i32_w]
              rfl
            refine pure_ (i := 6) (N := some 74) (v := ?_) (a' := ?_) #[true, true, true, true, true, true, true, false, false, false] rfl rfl (any_of HT_.out (by kernel_rfl)) (fun _ _ _ h => h) (Or.inl ⟨by rfl, ?_⟩) ?_ ?_
            rotate_left
            · intro w'
              go_simp
              with_reducible rfl
            rotate_left
            · simp only [Act.put, List.setIfInBounds_toArray, List.set_cons_zero, List.set_cons_succ, i64_w, i32_w]
              rfl
            refine one_ (i := 7) (N := (some 75)) #[true, true, true, true, true, true, true, true, false, false] rfl rfl (one_of HT_.out (by kernel_rfl)) (by decide) (fun K hK => ?_)
            refine Kd.R_append_rows_step (Kd.int .i64) (w0 := w) w.heap.size (by rfl) (.tmp 69) (.tmp 74) 24 3 (.int .i64 0) 8 rfl Try.underlying24 info3 rfl (by decide) (by omega) (.slice AN l1.length cN) (l1) (t2) _ _ _ (fun _ => True) (fun _ => False) rfl rfl HX.out.rL (Kd.C_below HDR.out HS.out.below) (fun _ _ h => h) (fun _ h => h.elim) (fun _ _ => trivial) HS.out.below HS.out.below.size (by have := HN2.out; have := HZ1.out; simp; omega) ?_
            intro v_ wb ho hb hg hat
            generalize hl2 : (l1) ++ t2 = l2 at ho
            have HL2 := Lib.hid hl2
            obtain ⟨AF, cF, rfl⟩ := Kd.R_slice ho
            have n_ := Lib.hid (HS.out.grewL HX.out.rL hb hg); clear HS; have HS := n_; clear n_
            have n_ := Lib.hid (HX.out.grewL ho hg); clear HX; have HX := n_; clear n_
            clear ho hb hg hat hl2
            refine hK.out _ _ ⟨Rt.held HS.out, Nx.cells HX.out⟩ (fun hHeld => ?_)
            clear hK K
            refine norm_ (a' := ?_) ?_ ?_
            rotate_left
            · show Act.put _ (some 75) _ = _
              simp only [Act.put, List.setIfInBounds_toArray, List.set_cons_zero, List.set_cons_succ, i64_w, i32_w]
              rfl
            refine pure_ (i := 8) (N := some 76) (v := ?_) (a' := ?_) #[true, true, true, true, true, true, true, true, true, false] rfl rfl (any_of HT_.out (by kernel_rfl)) (fun _ _ _ h => h) (Or.inl ⟨by rfl, ?_⟩) ?_ ?_
            rotate_left
            · intro w'
              go_simp
              with_reducible rfl
            rotate_left
            · simp only [Act.put, List.setIfInBounds_toArray, List.set_cons_zero, List.set_cons_succ, i64_w, i32_w]
              rfl
            refine last_ (i := 9) (N := none) #[true, true, true, true, true, true, true, true, true, true] rfl rfl (one_of HT_.out (by kernel_rfl)) (by decide) (fun K hK => ?_)
            refine cell_step (by rfl) rfl rfl g15 1 _ 26 rfl (.slice AF l2.length cF) ?haS ?hbS HX.out.x (by simp) (by kernel_rfl) rfl ?_
            (case haS => rfl)
            (case hbS => first | rfl | simp [Value.cells])
            intro wn hbox hg hz
            have n_ := Lib.hid (HX.out.root HS.out hg); clear HS; have HS := n_; clear n_
            have n_ := Lib.hid (HX.out.put hbox hg); clear HX; have HX := n_; clear n_
            clear hbox hg hz
            refine hK.out _ _ ?_
            clear hK K
            refine done_ (done_of HT_.out (by kernel_rfl)) ?_
            clear htk hdk
            by_cases hka : atS s a = a.length
            · have hk2 : ((atS s a : Int) == (a.length : Int)) = true := beq_iff_eq.mpr (by omega)
              have hk3 : wrap64 ((atS s a : Int) - 1) = (atS s a : Int) - 1 := w64 (by omega) (by omega)
              have HKA := Lib.hid hka
              have hk4 : (atS s a : Int) - 1 = ((a.length - 1 : Nat) : Int) := by omega
              clear hka
              obtain ⟨q30, q31, q40, q41, q42⟩ := HS.out.held
              obtain ⟨q50, q51⟩ := HX.out.cells
              go_wp2_with (first | (go_at_call 52; refine (cut_at (i := a.length - 1) (Kd.C_below HR0.out HS.out.below) HC0.out (by omega) (by omega) (by omega)).mono ?_; rintro e w9 ⟨v_, rfl, hv, hb⟩; generalize hs1 : cutAt (a.length - 1) a = s1 at hv; have HS1 := Lib.hid hs1; obtain ⟨AS, cS, rfl⟩ := Kd.R_slice hv; have n_ := Lib.hid (Nx.newS (HX.out.step hb) (Kd.R_lower hv HS.out.below.size)); clear HX; have HX := n_; clear n_; have n_ := Lib.hid (HS.out.step hb); clear HS; have HS := n_; clear n_; clear hv hb hs1 q30 q31 q40 q41 q42 q50 q51) | ((with_reducible refine gate_store (t := 22) (p := 88) rfl ?_); refine store_cell rfl rfl rfl g15 0 _ 26 rfl (.slice AS s1.length cS) ?haD ?hbD HX.out.x (by simp) (by kernel_rfl) rfl ?_; (case haD => rfl); (case hbD => first | rfl | simp [Value.cells]); intro w10 hbox hg hz; have n_ := Lib.hid (HX.out.root HS.out hg); clear HS; have HS := n_; clear n_; have n_ := Lib.hid (HX.out.put hbox hg); clear HX; have HX := n_; clear n_; clear hbox hg hz; refine Hold.go ?_))
              refine Hold.of ?_
              obtain ⟨q30, q31, q40, q41, q42⟩ := HS.out.held
              obtain ⟨q50, q51⟩ := HX.out.cells
              have q60 : w10.cell? ⟨g6, 0, none⟩ = some (.slice none 0 0) := (blk_cell HS.out.x6 0).trans rfl
              have q61 : w10.cell? ⟨g6, 1, none⟩ = some (.slice none 0 0) := (blk_cell HS.out.x6 1).trans rfl
              have f60 := blk_frozen HS.out.x6 0
              have f61 := blk_frozen HS.out.x6 1
              have b3 := blk_lt HS.out.x3
              have b4 := blk_lt HS.out.x4
              have b6 := blk_lt HS.out.x6
              have n36 := HS.out.n36
              have n46 := HS.out.n46
              have n63 := n36.symm
              have n64 := n46.symm
              have b5 := blk_lt HX.out.x
              have n65 := HX.out.n6
              have n56 := n65.symm
              go_upto_region 16 with (fail)
              go_region
              all_goals go_wp2
              obtain ⟨hx, hb, _⟩ := HS.out.out (.slice AS s1.length cS) (.slice AF l2.length cF) (.cells #[.int .i64 no, .slice none 0 0, .bool true] 28 (0, 0))
              refine bodyPost_ret (results_list (rs := [.cell 6 26, .tmp 7, .tmp 8]) rfl (by simp) (.cell g6 26 #[.slice AS s1.length cS, .slice AF l2.length cF] (0, 0) _ rfl hx Try.underlying26 rfl (by kernel_rfl) (.tmp (.tmp .nil)))) rfl ?_
              have eS := Kd.R_reads' (Kd.R_drew (Kd.R_alloc (HS.out.rowS HX.out.rS (.slice AS s1.length cS) (.slice AF l2.length cF)) (.cells #[.int .i64 no, .slice none 0 0, .bool true] 28 (0, 0))))
              have eL := Kd.R_reads' (Kd.R_drew (Kd.R_alloc (HS.out.rowI HX.out.rL (.slice AS s1.length cS) (.slice AF l2.length cF)) (.cells #[.int .i64 no, .slice none 0 0, .bool true] 28 (0, 0))))
              rw [show min (atS s a) (a.length - 1) = a.length - 1 by omega, HS1.out, HFIN.out, HL1.out, HL2.out]
              exact ⟨AS, cS, AF, cF, some ⟨_, 0, none⟩, 1, rfl, ⟨eS.2.2, eS.2.1⟩, ⟨eL.2.2, eL.2.1⟩, ⟨HS.out.fin1 (Kd.R_nil _ _ _ _ (fun _ => True)) no true, Nat.le_refl _⟩, hb⟩
            · have hk2 : ((atS s a : Int) == (a.length : Int)) = false := beq_eq_false_iff_ne.mpr (by omega)
              obtain ⟨q30, q31, q40, q41, q42⟩ := HS.out.held
              obtain ⟨q50, q51⟩ := HX.out.cells
              go_wp2_with (first | (go_at_call 52; refine (cut_at (i := atS s a) (Kd.C_below HR0.out HS.out.below) HC0.out (by omega) (by omega) (by omega)).mono ?_; rintro e w9 ⟨v_, rfl, hv, hb⟩; generalize hs1 : cutAt (atS s a) a = s1 at hv; have HS1 := Lib.hid hs1; obtain ⟨AS, cS, rfl⟩ := Kd.R_slice hv; have n_ := Lib.hid (Nx.newS (HX.out.step hb) (Kd.R_lower hv HS.out.below.size)); clear HX; have HX := n_; clear n_; have n_ := Lib.hid (HS.out.step hb); clear HS; have HS := n_; clear n_; clear hv hb hs1 q30 q31 q40 q41 q42 q50 q51) | ((with_reducible refine gate_store (t := 22) (p := 88) rfl ?_); refine store_cell rfl rfl rfl g15 0 _ 26 rfl (.slice AS s1.length cS) ?haD ?hbD HX.out.x (by simp) (by kernel_rfl) rfl ?_; (case haD => rfl); (case hbD => first | rfl | simp [Value.cells]); intro w10 hbox hg hz; have n_ := Lib.hid (HX.out.root HS.out hg); clear HS; have HS := n_; clear n_; have n_ := Lib.hid (HX.out.put hbox hg); clear HX; have HX := n_; clear n_; clear hbox hg hz; refine Hold.go ?_))
              refine Hold.of ?_
              obtain ⟨q30, q31, q40, q41, q42⟩ := HS.out.held
              obtain ⟨q50, q51⟩ := HX.out.cells
              have q60 : w10.cell? ⟨g6, 0, none⟩ = some (.slice none 0 0) := (blk_cell HS.out.x6 0).trans rfl
              have q61 : w10.cell? ⟨g6, 1, none⟩ = some (.slice none 0 0) := (blk_cell HS.out.x6 1).trans rfl
              have f60 := blk_frozen HS.out.x6 0
              have f61 := blk_frozen HS.out.x6 1
              have b3 := blk_lt HS.out.x3
              have b4 := blk_lt HS.out.x4
              have b6 := blk_lt HS.out.x6
              have n36 := HS.out.n36
              have n46 := HS.out.n46
              have n63 := n36.symm
              have n64 := n46.symm
              have b5 := blk_lt HX.out.x
              have n65 := HX.out.n6
              have n56 := n65.symm
              go_upto_region 16 with (fail)
              go_region
              all_goals go_wp2
              obtain ⟨hx, hb, _⟩ := HS.out.out (.slice AS s1.length cS) (.slice AF l2.length cF) (.cells #[.int .i64 no, .slice none 0 0, .bool true] 28 (0, 0))
              refine bodyPost_ret (results_list (rs := [.cell 6 26, .tmp 7, .tmp 8]) rfl (by simp) (.cell g6 26 #[.slice AS s1.length cS, .slice AF l2.length cF] (0, 0) _ rfl hx Try.underlying26 rfl (by kernel_rfl) (.tmp (.tmp .nil)))) rfl ?_
              have eS := Kd.R_reads' (Kd.R_drew (Kd.R_alloc (HS.out.rowS HX.out.rS (.slice AS s1.length cS) (.slice AF l2.length cF)) (.cells #[.int .i64 no, .slice none 0 0, .bool true] 28 (0, 0))))
              have eL := Kd.R_reads' (Kd.R_drew (Kd.R_alloc (HS.out.rowI HX.out.rL (.slice AS s1.length cS) (.slice AF l2.length cF)) (.cells #[.int .i64 no, .slice none 0 0, .bool true] 28 (0, 0))))
              rw [show min (atS s a) (a.length - 1) = atS s a by omega, HS1.out, HFIN.out, HL1.out, HL2.out]
              exact ⟨AS, cS, AF, cF, some ⟨_, 0, none⟩, 1, rfl, ⟨eS.2.2, eS.2.1⟩, ⟨eL.2.2, eL.2.1⟩, ⟨HS.out.fin1 (Kd.R_nil _ _ _ _ (fun _ => True)) no true, Nat.le_refl _⟩, hb⟩
end Go.Proofs.Ytneagipmllgejaa.PL
end
section
set_option linter.unusedVariables false
set_option linter.unusedSimpArgs false
namespace Go.Proofs.Ytneagipmllgejaa.PL
open Go.RowKit Go.Proofs.YtneagipmllgejaaW.PrintWords Go.Proofs.YtneagipmllgejaaW.PrintLast Go.Proofs.YtneagipmllgejaaW.PrintMore Go.Proofs.YtneagipmllgejaaH
theorem texts_eq (l : List ByteArray) (hl : l.length ≤ 100000) {k : Nat} (hk : l.length < k) : cobwebref11_Texts.f k l l = some true := by
  unfold cobwebref11_Texts.f
  rw [if_pos rfl]
  exact texts_self l hl l.length k 0 (by omega) hk
theorem sameroot_from (a : List ByteArray) (b : List Int) (ha : a.length ≤ 100000) (hb : b.length ≤ 100000) : ∀ (d k i : Nat), i + d = b.length → a.length + d + 1 < k → cobwebref11_SameRoot.l0 k (i : Int) a b a b = some true := by
  intro d
  induction d with
  | zero =>
    intro k i hi hk
    obtain ⟨k, rfl⟩ : ∃ m, k = m + 1 := ⟨k - 1, by omega⟩
    simp only [cobwebref11_SameRoot.l0]
    rw [if_neg (by omega), texts_eq a ha (by omega)]
    rfl
  | succ d ih =>
    intro k i hi hk
    obtain ⟨k, rfl⟩ : ∃ m, k = m + 1 := ⟨k - 1, by omega⟩
    simp only [cobwebref11_SameRoot.l0]
    rw [if_pos (by omega), if_pos (by omega), if_pos (by omega), if_pos trivial, w64 (by omega) (by omega)]
    exact ih k (i + 1) (by omega) (by omega)
theorem sameroot_eq (a : List ByteArray) (b : List Int) (ha : a.length ≤ 100000) (hb : b.length ≤ 100000) : cobwebref11_SameRoot.f (a.length + b.length + 2) a b a b = some true := by
  unfold cobwebref11_SameRoot.f
  rw [if_pos rfl]
  exact sameroot_from a b ha hb b.length _ 0 (by omega) (by omega)
theorem same_from (l : List S28) (hl : l.length ≤ 100000) (hs : ∀ c ∈ l, c.f1.length ≤ 1000) : ∀ (d k i : Nat), i + d = l.length → 1000 + d + 1 < k → cobwebref11_Same.l0 k l l (i : Int) = some true := by
  intro d
  induction d with
  | zero =>
    intro k i hi hk
    obtain ⟨k, rfl⟩ : ∃ m, k = m + 1 := ⟨k - 1, by omega⟩
    simp only [cobwebref11_Same.l0]
    rw [if_neg (by omega)]
  | succ d ih =>
    intro k i hi hk
    obtain ⟨k, rfl⟩ : ∃ m, k = m + 1 := ⟨k - 1, by omega⟩
    have h1 := hs _ (mem_28 (show i < l.length by omega))
    simp only [cobwebref11_Same.l0]
    rw [if_pos (by omega), if_pos (by omega), if_pos (by omega), if_pos trivial, if_neg (by simp), texts_eq _ (by omega) (by omega)]
    simp only [Option.bind_some, if_true]
    rw [w64 (by omega) (by omega)]
    exact ih k (i + 1) (by omega) (by omega)
theorem same_eq (l : List S28) (hl : l.length ≤ 100000) (hs : ∀ c ∈ l, c.f1.length ≤ 1000) : cobwebref11_Same.f (l.length + 1002) l l = some true := by
  unfold cobwebref11_Same.f
  rw [if_pos rfl]
  exact same_from l hl hs l.length _ 0 (by omega) (by omega)
/-- What an insert or a removal answers is not long. -/
def SizeOK (r1 : List ByteArray) (r2 : List Int) (r3 : List S28) : Prop := r1.length ≤ 1000 ∧ r2.length ≤ 1000 ∧ r3.length ≤ 1000 ∧ ∀ c ∈ r3, c.f1.length ≤ 1000
theorem insAt_le {α : Type} (k : Nat) (x : α) (l : List α) : (insAt k x l).length ≤ l.length + 1 := by unfold insAt; simp; omega
theorem cutAt_le {α : Type} (k : Nat) (l : List α) : (cutAt k l).length ≤ l.length := by unfold cutAt; simp; omega
section
variable {a : List ByteArray} {b : List Int} {no : Int} {es : List ByteArray} {gone : Bool} {s : ByteArray}
theorem ins_total (ha : a.length ≤ 100) (hb : b.length ≤ 100) (he : es.length ≤ 100) : ∃ r1 r2 r3 r4, leaf_Insert.f a b no es gone s = some (r1, r2, r3, r4) ∧ SizeOK r1 r2 r3 := by
  have hi := insS_len s es
  unfold leaf_Insert.f
  rw [if_pos ⟨by omega, by omega, by omega⟩]
  by_cases h1 : okL a b no es gone s = false
  · rw [if_pos h1]; exact ⟨_, _, _, _, rfl, by simp, by simp, by simp, by simp⟩
  · rw [if_neg h1]
    by_cases h2 : s.size > 600
    · rw [if_pos h2]; exact ⟨_, _, _, _, rfl, by simp, by simp, by simp, by simp⟩
    · rw [if_neg h2]
      by_cases h3 : fndS s es = true
      · rw [if_pos h3]; exact ⟨_, _, _, _, rfl, by simp, by simp, by simp, by simp⟩
      · rw [if_neg h3]
        by_cases h4 : (insS s es).length ≤ 4
        · rw [if_pos h4]; exact ⟨_, _, _, _, rfl, by omega, by omega, by simp, by simp; omega⟩
        · rw [if_neg h4]
          obtain ⟨m, hm, _⟩ := fresh_some b
          rw [hm]
          refine ⟨_, _, _, _, rfl, ?_, ?_, by simp, ?_⟩
          · have := insAt_le (atS s a) (rdOf ByteArray.empty (insS s es) 3) a; omega
          · have := insAt_le (atS s a + 1) m b; omega
          · intro c hc
            simp at hc
            rcases hc with rfl | rfl
            · simp; omega
            · simp; omega
theorem rem_total (ha : a.length ≤ 100) (hb : b.length ≤ 100) (he : es.length ≤ 100) : ∃ r1 r2 r3 r4, leaf_Remove.f a b no es gone s = some (r1, r2, r3, r4) ∧ SizeOK r1 r2 r3 := by
  have hi : (cutS s es).length ≤ es.length := cutAt_le _ _
  unfold leaf_Remove.f
  rw [if_pos ⟨by omega, by omega, by omega⟩]
  by_cases h1 : okL a b no es gone s = false
  · rw [if_pos h1]; exact ⟨_, _, _, _, rfl, by simp, by simp, by simp, by simp⟩
  · rw [if_neg h1]
    by_cases h3 : fndS s es = false
    · rw [if_pos h3]; exact ⟨_, _, _, _, rfl, by simp, by simp, by simp, by simp⟩
    · rw [if_neg h3]
      by_cases h4 : 0 < (cutS s es).length
      · rw [if_pos h4]; exact ⟨_, _, _, _, rfl, by omega, by omega, by simp, by simp; omega⟩
      · rw [if_neg h4]
        by_cases h5 : b.length = 1
        · rw [if_pos h5]; exact ⟨_, _, _, _, rfl, by omega, by omega, by simp, by simp; omega⟩
        · rw [if_neg h5]
          refine ⟨_, _, _, _, rfl, ?_, ?_, by simp, by simp⟩
          · have := cutAt_le (min (atS s a) (a.length - 1)) a; omega
          · have := cutAt_le (atS s a) b; omega
end
/-- A root in a box, its rows there. -/
structure RootAt (W : World) (g : Nat) (A0 : Option Addr) (c0 : Nat) (a : List ByteArray) (A1 : Option Addr) (c1 : Nat) (b : List Int) : Prop where
  x : W.heap[g]? = some (.cells #[.slice A0 a.length c0, .slice A1 b.length c1] 26 (0, 0))
  r0 : Kd.C Kd.string W A0 a.length a
  h0 : a.length ≤ c0
  r1 : Kd.C (Kd.int .i64) W A1 b.length b
  h1 : b.length ≤ c1
structure LeafAt (W : World) (g : Nat) (no : Int) (A : Option Addr) (c : Nat) (es : List ByteArray) (gone : Bool) : Prop where
  x : W.heap[g]? = some (.cells #[.int .i64 no, .slice A es.length c, .bool gone] 28 (0, 0))
  r : Kd.C Kd.string W A es.length es
  h : es.length ≤ c
structure LeavesAt (W : World) (A : Option Addr) (c : Nat) (ls : List S28) : Prop where
  r : Kd.C k28 W A ls.length ls
  h : ls.length ≤ c
section
variable {W W1 : World} {g : Nat} {A0 A1 A : Option Addr} {c0 c1 c : Nat} {a : List ByteArray} {b : List Int} {no : Int} {es : List ByteArray} {gone : Bool} {ls : List S28}
theorem RootAt.below (h : RootAt W g A0 c0 a A1 c1 b) (hb : Below W.heap.size W W1) : RootAt W1 g A0 c0 a A1 c1 b := ⟨blk_below h.x hb, Kd.C_below h.r0 hb, h.h0, Kd.C_below h.r1 hb, h.h1⟩
theorem LeafAt.below (h : LeafAt W g no A c es gone) (hb : Below W.heap.size W W1) : LeafAt W1 g no A c es gone := ⟨blk_below h.x hb, Kd.C_below h.r hb, h.h⟩
theorem LeavesAt.below (h : LeavesAt W A c ls) (hb : Below W.heap.size W W1) : LeavesAt W1 A c ls := ⟨Kd.C_below h.r hb, h.h⟩
theorem RootAt.cells (h : RootAt W g A0 c0 a A1 c1 b) : W.cell? ⟨g, 0, none⟩ = some (.slice A0 a.length c0) ∧ W.cell? ⟨g, 1, none⟩ = some (.slice A1 b.length c1) := ⟨(blk_cell h.x 0).trans rfl, (blk_cell h.x 1).trans rfl⟩
theorem LeafAt.cells (h : LeafAt W g no A c es gone) : W.cell? ⟨g, 0, none⟩ = some (.int .i64 no) ∧ W.cell? ⟨g, 1, none⟩ = some (.slice A es.length c) ∧ W.cell? ⟨g, 2, none⟩ = some (.bool gone) := ⟨(blk_cell h.x 0).trans rfl, (blk_cell h.x 1).trans rfl, (blk_cell h.x 2).trans rfl⟩
/-- One leaf, laid into a block for itself. -/
theorem LeavesAt.one (hx : W.heap[g]? = some (.cells #[.int .i64 no, .slice A es.length c, .bool gone] 28 (0, 0))) (hr : Kd.C Kd.string W A es.length es) (hc : es.length ≤ c) : LeavesAt W (some ⟨g, 0, none⟩) 1 [⟨no, es, gone⟩] := by
  refine ⟨⟨rfl, by simp, fun _ => ⟨⟨g, 0, none⟩, rfl, fun j p hj => ?_⟩⟩, Nat.le_refl _⟩
  cases j with
  | succ j => simp at hj
  | zero =>
    simp at hj
    subst hj
    refine ⟨[.int .i64 no, .slice A es.length c, .bool gone], rfl, k28_mk W ⟨no, es, gone⟩ hc hr, fun i u hu => ?_⟩
    have e : ((⟨g, 0, none⟩ : Addr).add (0 * k28.sz + i)) = ⟨g, i, none⟩ := by
      have : (0 * k28.sz + i) = i := by simp
      rw [this]
      cases i with
      | zero => rfl
      | succ i => simp [Addr.add]
    rw [e, blk_cell hx i]
    simpa using hu
end
theorem below_grown0 {W W1 : World} (hg : W.grownBy W1 none) : Below W.heap.size W W1 := (Below.refl W.heap.size W).grown hg (Nat.le_refl _) (fun k e => by cases e)
/-- A copy that is being made: the arguments' boxes, the copies' rows (0: not begun, 1: an empty row, 2: the copy), the new box. -/
structure Cp (w W : World) (x y z : Nat) (g3 g4 : Nat) (A0 : Option Addr) (c0 : Nat) (a : List ByteArray) (A1 : Option Addr) (c1 : Nat) (b : List Int) (no : Int) (A3 : Option Addr) (c3 : Nat) (es : List ByteArray) (gone : Bool) (v0 v3 v4 v7 : Value) (g : Nat) : Prop where
  below : Below w.heap.size w W
  x3 : W.heap[g3]? = some (.cells #[.slice A0 a.length c0, .slice A1 b.length c1] 26 (0, 0))
  x4 : W.heap[g4]? = some (.cells #[.int .i64 no, .slice A3 es.length c3, .bool gone] 28 (0, 0))
  fx1 : x = 1 → Kd.R Kd.string 9 W w.heap.size (fun _ => True) v0 []
  fx2 : x = 2 → Kd.R Kd.string 9 W w.heap.size (fun _ => True) v3 a
  fy1 : y = 1 → Kd.R (Kd.int .i64) 3 W w.heap.size (fun _ => True) v4 []
  fy2 : y = 2 → Kd.R (Kd.int .i64) 3 W w.heap.size (fun _ => True) v7 b
  fz : z = 1 → W.heap[g]? = some (.cells #[.slice none 0 0, .slice none 0 0] 26 (0, 0)) ∧ g3 ≠ g ∧ g4 ≠ g ∧ w.heap.size ≤ g
section
variable {w W W1 : World} {x y z g3 g4 : Nat} {A0 : Option Addr} {c0 : Nat} {a : List ByteArray} {A1 : Option Addr} {c1 : Nat} {b : List Int} {no : Int} {A3 : Option Addr} {c3 : Nat} {es : List ByteArray} {gone : Bool} {v0 v3 v4 v7 v : Value} {g : Nat}
theorem Cp.held (h : Cp w W x y z g3 g4 A0 c0 a A1 c1 b no A3 c3 es gone v0 v3 v4 v7 g) : heldR g3 g4 (.slice A0 a.length c0) (.slice A1 b.length c1) no (.slice A3 es.length c3) gone W :=
  ⟨(blk_cell h.x3 0).trans rfl, (blk_cell h.x3 1).trans rfl, (blk_cell h.x4 0).trans rfl, (blk_cell h.x4 1).trans rfl, (blk_cell h.x4 2).trans rfl⟩
theorem Cp.step (h : Cp w W x y z g3 g4 A0 c0 a A1 c1 b no A3 c3 es gone v0 v3 v4 v7 g) (hb : Below W.heap.size W W1) : Cp w W1 x y z g3 g4 A0 c0 a A1 c1 b no A3 c3 es gone v0 v3 v4 v7 g where
  below := below_then h.below h.below.size hb
  x3 := blk_below h.x3 hb
  x4 := blk_below h.x4 hb
  fx1 := fun e => Kd.R_below (h.fx1 e) hb
  fx2 := fun e => Kd.R_below (h.fx2 e) hb
  fy1 := fun e => Kd.R_below (h.fy1 e) hb
  fy2 := fun e => Kd.R_below (h.fy2 e) hb
  fz := fun e => ⟨blk_below (h.fz e).1 hb, (h.fz e).2⟩
theorem Cp.goX1 (h : Cp w W 0 y z g3 g4 A0 c0 a A1 c1 b no A3 c3 es gone v0 v3 v4 v7 g) (hb : Below W.heap.size W W1) (hv : Kd.R Kd.string 9 W1 w.heap.size (fun _ => True) v []) : Cp w W1 1 y z g3 g4 A0 c0 a A1 c1 b no A3 c3 es gone v v3 v4 v7 g :=
  { h.step hb with
    fx1 := fun _ => hv
    fx2 := fun e => by cases e }
theorem Cp.goY1 (h : Cp w W x 0 z g3 g4 A0 c0 a A1 c1 b no A3 c3 es gone v0 v3 v4 v7 g) (hb : Below W.heap.size W W1) (hv : Kd.R (Kd.int .i64) 3 W1 w.heap.size (fun _ => True) v []) : Cp w W1 x 1 z g3 g4 A0 c0 a A1 c1 b no A3 c3 es gone v0 v3 v v7 g :=
  { h.step hb with
    fy1 := fun _ => hv
    fy2 := fun e => by cases e }
theorem Cp.goZ1 {g' : Nat} (h : Cp w W x y 0 g3 g4 A0 c0 a A1 c1 b no A3 c3 es gone v0 v3 v4 v7 g) (hg : g' = W.heap.size) (hb : Below W.heap.size W W1) (hx : W1.heap[g']? = some (.cells #[.slice none 0 0, .slice none 0 0] 26 (0, 0))) : Cp w W1 x y 1 g3 g4 A0 c0 a A1 c1 b no A3 c3 es gone v0 v3 v4 v7 g' :=
  { h.step hb with
    fz := fun _ => ⟨hx, by have := blk_lt h.x3; omega, by have := blk_lt h.x4; omega, by rw [hg]; exact h.below.size⟩ }
theorem Cp.goX2 (h : Cp w W 1 y z g3 g4 A0 c0 a A1 c1 b no A3 c3 es gone v0 v3 v4 v7 g) (hb : Below w.heap.size w W1) (hg : W.grownBy W1 v0.ownBlock) (hv : Kd.R Kd.string 9 W1 w.heap.size (fun _ => True) v a) : Cp w W1 2 y z g3 g4 A0 c0 a A1 c1 b no A3 c3 es gone v0 v v4 v7 g where
  below := hb
  x3 := blk_grown h.x3 hg (Kd.R_ne (h.fx1 rfl) h.x3 (by decide))
  x4 := blk_grown h.x4 hg (Kd.R_ne (h.fx1 rfl) h.x4 (by decide))
  fx1 := fun e => by cases e
  fx2 := fun _ => hv
  fy1 := fun e => Kd.R_over' (h.fy1 e) (Kd.R_typed (h.fx1 rfl)) (by decide) hg
  fy2 := fun e => Kd.R_over' (h.fy2 e) (Kd.R_typed (h.fx1 rfl)) (by decide) hg
  fz := fun e => ⟨blk_grown (h.fz e).1 hg (Kd.R_ne (h.fx1 rfl) (h.fz e).1 (by decide)), (h.fz e).2⟩
theorem Cp.goY2 (h : Cp w W x 1 z g3 g4 A0 c0 a A1 c1 b no A3 c3 es gone v0 v3 v4 v7 g) (hb : Below w.heap.size w W1) (hg : W.grownBy W1 v4.ownBlock) (hv : Kd.R (Kd.int .i64) 3 W1 w.heap.size (fun _ => True) v b) : Cp w W1 x 2 z g3 g4 A0 c0 a A1 c1 b no A3 c3 es gone v0 v3 v4 v g where
  below := hb
  x3 := blk_grown h.x3 hg (Kd.R_ne (h.fy1 rfl) h.x3 (by decide))
  x4 := blk_grown h.x4 hg (Kd.R_ne (h.fy1 rfl) h.x4 (by decide))
  fx1 := fun e => Kd.R_over' (h.fx1 e) (Kd.R_typed (h.fy1 rfl)) (by decide) hg
  fx2 := fun e => Kd.R_over' (h.fx2 e) (Kd.R_typed (h.fy1 rfl)) (by decide) hg
  fy1 := fun e => by cases e
  fy2 := fun _ => hv
  fz := fun e => ⟨blk_grown (h.fz e).1 hg (Kd.R_ne (h.fy1 rfl) (h.fz e).1 (by decide)), (h.fz e).2⟩
end
end Go.Proofs.Ytneagipmllgejaa.PL
end
section
set_option linter.unusedVariables false
set_option linter.unusedSimpArgs false
namespace Go.Proofs.Ytneagipmllgejaa.PL
open Go.RowKit Go.Proofs.YtneagipmllgejaaW.PrintWords Go.Proofs.YtneagipmllgejaaW.PrintLast Go.Proofs.YtneagipmllgejaaW.PrintMore Go.Proofs.YtneagipmllgejaaH
def ch3T : Bool × List (List Nat × List Nat) := (true, [([], []), ([], []), ([1], [1]), ([0, 2], [0, 2]), ([], []), ([], []), ([5], [5]), ([4, 6, 3], [4, 6]), ([3, 7], [3, 7]), ([], []), ([9, 8, 7, 0, 1, 2, 3, 4, 5, 6, 7, 8, 9], [8, 9])])
def ch3B : List Nat := [0, 0, 2, 7, 0, 0, 32, 127, 255, 0, 1023]
theorem ch3Tab : rtab .any (opsOf Try.f4 3) = ch3T := by kernel_rfl
theorem ch3Waits : waitsOk ch3T.2 ch3B = true := by kernel_rfl
def ch4T : Bool × List (List Nat × List Nat) := (true, [([], []), ([0], [0]), ([], []), ([2], [2]), ([], []), ([], []), ([5], [5]), ([4, 6], [4, 6]), ([1, 3, 7], [1, 3, 7]), ([], []), ([9, 8, 7, 0, 1, 2, 3, 4, 5, 6, 7, 8, 9], [8, 9])])
def ch4B : List Nat := [0, 1, 0, 4, 0, 0, 32, 112, 255, 0, 1023]
theorem ch4Tab : rtab .any (opsOf Try.f4 4) = ch4T := by kernel_rfl
theorem ch4Waits : waitsOk ch4T.2 ch4B = true := by kernel_rfl
set_option maxHeartbeats 8000000 in
set_option maxRecDepth 100000 in
theorem changes_main (A0 : Option Addr) (c0 : Nat) (a : List ByteArray) (A1 : Option Addr) (c1 : Nat) (b : List Int) (no : Int) (A3 : Option Addr) (c3 : Nat) (es : List ByteArray) (gone : Bool) (s : ByteArray) (w : World) (hr0 : Kd.C Kd.string w A0 a.length a) (hc0 : a.length ≤ c0) (hr1 : Kd.C (Kd.int .i64) w A1 b.length b) (hc1 : b.length ≤ c1) (hr3 : Kd.C Kd.string w A3 es.length es) (hc3 : es.length ≤ c3) :
    Calls Try.prog 4 #[.agg #[.slice A0 a.length c0, .slice A1 b.length c1], .agg #[.int .i64 no, .slice A3 es.length c3, .bool gone], .string s] w fun e w' => e = .returned (.bool true) ∧ Below w.heap.size w w' := by
  have HR0 := Lib.hid hr0
  have HC0 := Lib.hid hc0
  have HR1 := Lib.hid hr1
  have HC1 := Lib.hid hc1
  have HR3 := Lib.hid hr3
  have HC3 := Lib.hid hc3
  have hu26 := Try.underlying26
  have hu28 := Try.underlying28
  obtain ⟨rb, hsm, hrb⟩ := small_spec a b [⟨no, es, gone⟩] (Nat.le_refl 200)
  have HSM := Lib.hid hsm
  have HRB := Lib.hid hrb
  clear hr0 hc0 hr1 hc1 hr3 hc3 hsm hrb
  have HB := Lib.hid (Below.refl w.heap.size w)
  go_enter Try.func4, Try.ntmps4
  go_wp2_with (first | ((with_reducible refine gate_dst (N := 3) rfl ?_); refine alloc_event ?hg (N := 3) ?hd (fun g => .pointer (some ⟨g, 0, none⟩)) (.cells #[.slice A0 a.length c0, .slice A1 b.length c1] 26 (0, 0)) ?hr ?_; (case hd => rfl); (case hg => rfl); (case hr => first | (go_simp; done) | (go_simp; rfl)); intro g3 hg w1 hbox hb; have HG3 := Lib.hid (show RootAt w1 g3 A0 c0 a A1 c1 b from ⟨hbox, Kd.C_below HR0.out hb, HC0.out, Kd.C_below HR1.out hb, HC1.out⟩); have n_ := Lib.hid (below_then HB.out HB.out.size hb); clear HB; have HB := n_; clear n_; clear hg hbox hb) | ((with_reducible refine gate_dst (N := 4) rfl ?_); refine alloc_event ?hg (N := 4) ?hd (fun g => .pointer (some ⟨g, 0, none⟩)) (.cells #[.int .i64 no, .slice A3 es.length c3, .bool gone] 28 (0, 0)) ?hr ?_; (case hd => rfl); (case hg => rfl); (case hr => first | (go_simp; done) | (go_simp; rfl)); intro g4 hg w2 hbox hb; have HG4 := Lib.hid (show LeafAt w2 g4 no A3 c3 es gone from ⟨hbox, Kd.C_below (Kd.C_below HR3.out HB.out) hb, HC3.out⟩); have n_ := Lib.hid (HG3.out.below hb); clear HG3; have HG3 := n_; clear n_; have n_ := Lib.hid (below_then HB.out HB.out.size hb); clear HB; have HB := n_; clear n_; clear hg hbox hb) | (go_at_call 9; refine (cobweblaw11_awake.calls 50 true _ (awake_true 50 (Nat.le_refl _))).mono ?_; rintro e w3 ⟨rfl, hb⟩; have n_ := Lib.hid (below_then HB.out HB.out.size hb); clear HB; have HB := n_; clear n_; have n_ := Lib.hid (HG3.out.below hb); clear HG3; have HG3 := n_; clear n_; have n_ := Lib.hid (HG4.out.below hb); clear HG4; have HG4 := n_; clear n_; clear hb; obtain ⟨q30, q31⟩ := HG3.out.cells; obtain ⟨q40, q41, q42⟩ := HG4.out.cells) | ((with_reducible refine gate_dst (N := 26) rfl ?_); refine gate_guard (by rfl) ?_; refine alloc_event ?hg (N := 26) ?hd (fun g => .slice (some ⟨g, 0, none⟩) 1 1) (.cells #[.int .i64 no, .slice A3 es.length c3, .bool gone] 28 (0, 0)) ?hr ?_; (case hd => rfl); (case hg => rfl); (case hr => first | (go_simp; done) | (go_simp; rfl)); intro g26 hg w4 hbox hb; have HLS := Lib.hid (LeavesAt.one (no := no) (gone := gone) hbox (Kd.C_below HG4.out.r hb) HG4.out.h); have n_ := Lib.hid (HG3.out.below hb); clear HG3; have HG3 := n_; clear n_; have n_ := Lib.hid (HG4.out.below hb); clear HG4; have HG4 := n_; clear n_; have n_ := Lib.hid (below_then HB.out HB.out.size hb); clear HB; have HB := n_; clear n_; clear q30 q31 q40 q41 q42; obtain ⟨q30, q31⟩ := HG3.out.cells; obtain ⟨q40, q41, q42⟩ := HG4.out.cells; clear hg hbox hb) | (go_at_call 17; refine (cobweblaw11_small.calls 200 _ c0 a _ c1 b _ 1 [⟨no, es, gone⟩] rb _ HG3.out.r0 HG3.out.h0 HG3.out.r1 HG3.out.h1 HLS.out.r HLS.out.h HSM.out).mono ?_; rintro e w5 ⟨rfl, hb⟩; have n_ := Lib.hid (below_then HB.out HB.out.size hb); clear HB; have HB := n_; clear n_; have n_ := Lib.hid (HG3.out.below hb); clear HG3; have HG3 := n_; clear n_; have n_ := Lib.hid (HG4.out.below hb); clear HG4; have HG4 := n_; clear n_; clear hb q30 q31 q40 q41 q42; refine Hold.go ?_))
  have hx9 := awake_true
  cases rb with
  | false =>
    refine Hold.of ?_
    go_wp2_with (first | (go_at_call 9; refine (cobweblaw11_awake.calls 50 true _ (awake_true 50 (Nat.le_refl _))).mono ?_; rintro e w6 ⟨rfl, hb⟩; have n_ := Lib.hid (below_then HB.out HB.out.size hb); clear HB; have HB := n_; clear n_; clear hb))
    go_ret
    exact ⟨rfl, HB.out⟩
  | true =>
    have hsml := HRB.out rfl
    have hla : a.length ≤ 30 := hsml.na
    have hlb : b.length ≤ 40 := hsml.nb
    have hsl := hsml.sl ⟨no, es, gone⟩ (by simp)
    have hle : es.length ≤ 30 := hsl.1
    have HZA := Lib.hid hsml.sa
    have HZE := Lib.hid hsl.2
    clear hsml hsl
    refine Hold.of ?_
    by_cases hz : 700 < s.size
    · have hz1 : decide ((700 : Int) < (s.size : Int)) = true := decide_eq_true (by omega)
      have hz2 : decide (700 < s.size) = true := decide_eq_true hz
      go_wp2_with (first | (go_at_call 9; refine (cobweblaw11_awake.calls 50 true _ (awake_true 50 (Nat.le_refl _))).mono ?_; rintro e w6 ⟨rfl, hb⟩; have n_ := Lib.hid (below_then HB.out HB.out.size hb); clear HB; have HB := n_; clear n_; clear hb))
      go_ret
      exact ⟨rfl, HB.out⟩
    · have hz1 : decide ((700 : Int) < (s.size : Int)) = false := decide_eq_false (by omega)
      have hz2 : decide (700 < s.size) = false := decide_eq_false hz
      have hzs : s.size ≤ 1000 := by omega
      have HZS := Lib.hid hzs
      clear hzs hx9
      go_upto_region 3 with (fail)
      go_cut [7] (fun v7 wc => ∃ (g7 : Nat) (B0 : Option Addr) (d0 : Nat) (B1 : Option Addr) (d1 : Nat), v7 = .pointer (some ⟨g7, 0, none⟩) ∧ Aside0 (Below w.heap.size w wc ∧ RootAt wc g3 A0 c0 a A1 c1 b ∧ LeafAt wc g4 no A3 c3 es gone ∧ RootAt wc g7 B0 d0 a B1 d1 b))
      case first =>
        have HS := Lib.hid (show Cp w w5 0 0 0 g3 g4 A0 c0 a A1 c1 b no A3 c3 es gone (.bool false) (.bool false) (.bool false) (.bool false) 0 from ⟨HB.out, HG3.out.x, HG4.out.x, (fun e => by cases e), (fun e => by cases e), (fun e => by cases e), (fun e => by cases e), (fun e => by cases e)⟩)
        refine start_ (n := 11) (S := (heldR g3 g4 (.slice A0 a.length c0) (.slice A1 b.length c1) no (.slice A3 es.length c3) gone)) (ds := []) #[false, false, false, false, false, false, false, false, false, false, false] (by kernel_rfl) rfl rfl (Cp.held (HS.out.step (below_drew1 (Below.refl _ _)))) (fun hHeld => ?_); refine with_tabW ch3Tab ch3Waits (fun HT_ HW_ => ?_)
        have n_ := Lib.hid (HS.out.step (below_drew1 (Below.refl _ _))); clear HS; have HS := n_; clear n_
        have n_ := Lib.hid (HG3.out.below (below_drew1 (Below.refl _ _))); clear HG3; have HG3 := n_; clear n_
        have n_ := Lib.hid (HG4.out.below (below_drew1 (Below.refl _ _))); clear HG4; have HG4 := n_; clear n_
        generalize World.drew _ = wa at HS HG3 HG4 hHeld ⊢
        have HE0 := Lib.hid HG3.out.r0
        have HE1 := Lib.hid HG3.out.r1
        have HW0 := Lib.hid HB.out
        refine pure_ (i := 1) (N := some 37) (v := ?_) (a' := ?_) #[false, true, false, false, false, false, false, false, false, false, false] rfl rfl (any_of HT_.out (by kernel_rfl)) (fun _ _ _ h => h) (Or.inl ⟨by rfl, ?_⟩) ?_ ?_
        rotate_left
        · intro w'
          go_simp
          with_reducible rfl
        rotate_left
        · simp only [Act.put, List.setIfInBounds_toArray, List.set_cons_zero, List.set_cons_succ, i64_w, i32_w]
          rfl
        refine take_ (i := 2) (N := some 38) (v := ?_) (a' := ?_) #[false, true, true, false, false, false, false, false, false, false, false] rfl rfl (take_ofW HT_.out HW_.out (by kernel_rfl)) (fun _ _ _ h => h) (Or.inl ⟨by rfl, ?_⟩) hHeld ?_ ?_
        rotate_left
        · rintro w' ⟨h0, h1, h2, h3, h4⟩
          go_simp
          with_reducible rfl
        rotate_left
        · simp only [Act.put, List.setIfInBounds_toArray, List.set_cons_zero, List.set_cons_succ, i64_w, i32_w]
          rfl
        refine pure_ (i := 5) (N := some 41) (v := ?_) (a' := ?_) #[false, true, true, false, false, true, false, false, false, false, false] rfl rfl (any_of HT_.out (by kernel_rfl)) (fun _ _ _ h => h) (Or.inl ⟨by rfl, ?_⟩) ?_ ?_
        rotate_left
        · intro w'
          go_simp
          with_reducible rfl
        rotate_left
        · simp only [Act.put, List.setIfInBounds_toArray, List.set_cons_zero, List.set_cons_succ, i64_w, i32_w]
          rfl
        refine take_ (i := 6) (N := some 42) (v := ?_) (a' := ?_) #[false, true, true, false, false, true, true, false, false, false, false] rfl rfl (take_ofW HT_.out HW_.out (by kernel_rfl)) (fun _ _ _ h => h) (Or.inl ⟨by rfl, ?_⟩) hHeld ?_ ?_
        rotate_left
        · rintro w' ⟨h0, h1, h2, h3, h4⟩
          go_simp
          with_reducible rfl
        rotate_left
        · simp only [Act.put, List.setIfInBounds_toArray, List.set_cons_zero, List.set_cons_succ, i64_w, i32_w]
          rfl
        have HBW := Lib.hid HB.out
        refine join_ (σ := Value × Value × Value × Value × Nat) 1 #[true, true, true, true, true, true, true, true, true, true, false] (fun s_ => [(36, s_.1), (39, s_.2.1), (40, s_.2.2.1), (43, s_.2.2.2.1), (44, .agg #[s_.2.1, s_.2.2.2.1]), (7, .pointer (some ⟨s_.2.2.2.2, 0, none⟩))]) (fun s_ w_ => Cp w w_ 2 2 1 g3 g4 A0 c0 a A1 c1 b no A3 c3 es gone s_.1 s_.2.1 s_.2.2.1 s_.2.2.2.1 s_.2.2.2.2) ?_ (fun hJ221 => ?_)
        · rintro ⟨v0, v3, v4, v7, g⟩ wd hcp
          have HS := Lib.hid hcp
          have hHeld := hcp.held
          clear hcp
          refine norm_ (a' := ?_) ?_ ?_
          rotate_left
          · simp only [putAll]
            simp only [Act.put, List.setIfInBounds_toArray, List.set_cons_zero, List.set_cons_succ, i64_w, i32_w]
            rfl
          obtain ⟨B0, d0, rfl⟩ := Kd.R_slice (HS.out.fx2 rfl)
          obtain ⟨B1, d1, rfl⟩ := Kd.R_slice (HS.out.fy2 rfl)
          have HZ := Lib.hid (HS.out.fz rfl)
          refine one_ (i := 10) (N := none) #[true, true, true, true, true, true, true, true, true, true, true] rfl rfl (one_of HT_.out (by kernel_rfl)) (by decide) (fun K hK => ?_)
          refine store_step (by rfl) rfl rfl g _ 26 [.slice B0 a.length d0, .slice B1 b.length d1] rfl (.agg #[.slice B0 a.length d0, .slice B1 b.length d1]) ?haS ?hbS HZ.out.1 rfl (by kernel_rfl) (two26 B0 a.length d0 B1 b.length d1) ?_
          (case haS => rfl)
          (case hbS => first | rfl | simp [Value.cells])
          intro wn hbox hg hz
          have HT := Lib.hid (show Below w.heap.size w wn ∧ RootAt wn g3 A0 c0 a A1 c1 b ∧ LeafAt wn g4 no A3 c3 es gone ∧ RootAt wn g B0 d0 a B1 d1 b from by
            have hbw := below_own HS.out.below hg HZ.out.2.2.2 HS.out.below.size
            have hx3 := (hg.block g3 (blk_lt HS.out.x3) (fun e => HZ.out.2.1 (Option.some.inj e))).trans HS.out.x3
            have hx4 := (hg.block g4 (blk_lt HS.out.x4) (fun e => HZ.out.2.2.1 (Option.some.inj e))).trans HS.out.x4
            have e0 := Kd.R_reads' (Kd.R_grown1 (HS.out.fx2 rfl) rfl hg (Kd.R_ne (HS.out.fx2 rfl) HZ.out.1 (by decide)))
            have e1 := Kd.R_reads' (Kd.R_grown1 (HS.out.fy2 rfl) rfl hg (Kd.R_ne (HS.out.fy2 rfl) HZ.out.1 (by decide)))
            exact ⟨hbw, ⟨hx3, Kd.C_below HR0.out hbw, HC0.out, Kd.C_below HR1.out hbw, HC1.out⟩, ⟨hx4, Kd.C_below HR3.out hbw, HC3.out⟩, ⟨hbox, e0.2.2, e0.2.1, e1.2.2, e1.2.1⟩⟩)
          refine hK.out _ _ ⟨(HT.out.2.1).cells.1, (HT.out.2.1).cells.2, HT.out.2.2.1.cells⟩ (fun hHeld => ?_)
          clear hK K
          refine done_ (done_of HT_.out (by kernel_rfl)) ?_
          try go_wp2
          go_meet
          exact ⟨g, B0, d0, B1, d1, rfl, ⟨HT.out⟩⟩
        refine join_ (σ := Value × Value × Value × Value × Nat) 3 #[true, true, true, true, true, true, true, false, false, true, false] (fun s_ => [(36, s_.1), (39, s_.2.1), (40, s_.2.2.1), (7, .pointer (some ⟨s_.2.2.2.2, 0, none⟩))]) (fun s_ w_ => Cp w w_ 2 1 1 g3 g4 A0 c0 a A1 c1 b no A3 c3 es gone s_.1 s_.2.1 s_.2.2.1 s_.2.2.2.1 s_.2.2.2.2) ?_ (fun hJ211 => ?_)
        · rintro ⟨v0, v3, v4, v7, g⟩ wd hcp
          have HS := Lib.hid hcp
          have hHeld := hcp.held
          clear hcp
          refine norm_ (a' := ?_) ?_ ?_
          rotate_left
          · simp only [putAll]
            simp only [Act.put, List.setIfInBounds_toArray, List.set_cons_zero, List.set_cons_succ, i64_w, i32_w]
            rfl
          have HSB := Lib.hid HS.out.below
          refine one_ (i := 7) (N := (some 43)) #[true, true, true, true, true, true, true, true, false, true, false] rfl rfl (one_of HT_.out (by kernel_rfl)) (by decide) (fun K hK => ?_)
          refine Kd.R_append_rows_step (Kd.int .i64) (w0 := w) w.heap.size (by rfl) (.tmp 40) (.tmp 42) 24 3 (.int .i64 0) 8 rfl Try.underlying24 info3 rfl (by decide) (by omega) v4 ([] : List Int) b _ _ _ (fun _ => True) (fun _ => False) rfl rfl (HS.out.fy1 rfl) (Kd.C_below HR1.out HSB.out) (fun _ _ h => h) (fun _ h => h.elim) (fun _ _ => trivial) HS.out.below HS.out.below.size (by simp; omega) ?_
          intro vn wn hv hb hg _
          have HT := Lib.hid (HS.out.goY2 hb hg hv)
          refine hK.out _ _ HT.out.held (fun hHeld => ?_)
          clear hK K
          refine norm_ (a' := ?_) ?_ ?_
          rotate_left
          · show Act.put _ (some 43) _ = _
            simp only [Act.put, List.setIfInBounds_toArray, List.set_cons_zero, List.set_cons_succ, i64_w, i32_w]
            rfl
          obtain ⟨B0, d0, rfl⟩ := Kd.R_slice (HT.out.fx2 rfl)
          obtain ⟨B1, d1, rfl⟩ := Kd.R_slice (HT.out.fy2 rfl)
          refine pure_ (i := 8) (N := some 44) (v := ?_) (a' := ?_) #[true, true, true, true, true, true, true, true, true, true, false] rfl rfl (any_of HT_.out (by kernel_rfl)) (fun _ _ _ h => h) (Or.inl ⟨by rfl, ?_⟩) ?_ ?_
          rotate_left
          · intro w'
            go_simp
            with_reducible rfl
          rotate_left
          · simp only [Act.put, List.setIfInBounds_toArray, List.set_cons_zero, List.set_cons_succ, i64_w, i32_w]
            rfl
          exact hJ221 (v0, .slice B0 a.length d0, v4, .slice B1 b.length d1, g) _ HT.out
        refine join_ (σ := Value × Value × Value × Value × Nat) 2 #[true, true, true, true, true, true, true, true, true, false, false] (fun s_ => [(36, s_.1), (39, s_.2.1), (40, s_.2.2.1), (43, s_.2.2.2.1), (44, .agg #[s_.2.1, s_.2.2.2.1])]) (fun s_ w_ => Cp w w_ 2 2 0 g3 g4 A0 c0 a A1 c1 b no A3 c3 es gone s_.1 s_.2.1 s_.2.2.1 s_.2.2.2.1 s_.2.2.2.2) ?_ (fun hJ220 => ?_)
        · rintro ⟨v0, v3, v4, v7, g⟩ wd hcp
          have HS := Lib.hid hcp
          have hHeld := hcp.held
          clear hcp
          refine norm_ (a' := ?_) ?_ ?_
          rotate_left
          · simp only [putAll]
            simp only [Act.put, List.setIfInBounds_toArray, List.set_cons_zero, List.set_cons_succ, i64_w, i32_w]
            rfl
          refine one_ (i := 9) (N := (some 7)) #[true, true, true, true, true, true, true, true, true, true, false] rfl rfl (one_of HT_.out (by kernel_rfl)) (by decide) (fun K hK => ?_)
          refine alloc_step (by rfl) (fun g => .pointer (some ⟨g, 0, none⟩)) (.cells #[.slice none 0 0, .slice none 0 0] 26 (0, 0)) ?hr ?_
          (case hr => first | (go_simp; done) | (go_simp; rfl))
          intro g9 hg wn hbox hb
          have HT := Lib.hid (HS.out.goZ1 hg hb hbox)
          refine hK.out _ _ HT.out.held (fun hHeld => ?_)
          clear hK K
          refine norm_ (a' := ?_) ?_ ?_
          rotate_left
          · show Act.put _ (some 7) _ = _
            simp only [Act.put, List.setIfInBounds_toArray, List.set_cons_zero, List.set_cons_succ, i64_w, i32_w]
            rfl
          exact hJ221 (v0, v3, v4, v7, g9) _ HT.out
        refine join_ (σ := Value × Value × Value × Value × Nat) 4 #[true, true, true, false, true, true, true, false, false, true, false] (fun s_ => [(36, s_.1), (40, s_.2.2.1), (7, .pointer (some ⟨s_.2.2.2.2, 0, none⟩))]) (fun s_ w_ => Cp w w_ 1 1 1 g3 g4 A0 c0 a A1 c1 b no A3 c3 es gone s_.1 s_.2.1 s_.2.2.1 s_.2.2.2.1 s_.2.2.2.2) ?_ (fun hJ111 => ?_)
        · rintro ⟨v0, v3, v4, v7, g⟩ wd hcp
          have HS := Lib.hid hcp
          have hHeld := hcp.held
          clear hcp
          refine norm_ (a' := ?_) ?_ ?_
          rotate_left
          · simp only [putAll]
            simp only [Act.put, List.setIfInBounds_toArray, List.set_cons_zero, List.set_cons_succ, i64_w, i32_w]
            rfl
          have HSB := Lib.hid HS.out.below
          refine one_ (i := 3) (N := (some 39)) #[true, true, true, true, true, true, true, false, false, true, false] rfl rfl (one_of HT_.out (by kernel_rfl)) (by decide) (fun K hK => ?_)
          refine Kd.R_append_rows_step Kd.string (w0 := w) w.heap.size (by rfl) (.tmp 36) (.tmp 38) 22 9 (.string ⟨#[]⟩) 16 rfl Try.underlying22 info9 rfl (by decide) (by omega) v0 ([] : List ByteArray) a _ _ _ (fun _ => True) (fun _ => False) rfl rfl (HS.out.fx1 rfl) (Kd.C_below HR0.out HSB.out) (fun _ _ h => h) (fun _ h => h.elim) (fun _ _ => trivial) HS.out.below HS.out.below.size (by simp; omega) ?_
          intro vn wn hv hb hg _
          have HT := Lib.hid (HS.out.goX2 hb hg hv)
          refine hK.out _ _ HT.out.held (fun hHeld => ?_)
          clear hK K
          refine norm_ (a' := ?_) ?_ ?_
          rotate_left
          · show Act.put _ (some 39) _ = _
            simp only [Act.put, List.setIfInBounds_toArray, List.set_cons_zero, List.set_cons_succ, i64_w, i32_w]
            rfl
          exact hJ211 (v0, vn, v4, v7, g) _ HT.out
        refine join_ (σ := Value × Value × Value × Value × Nat) 4 #[true, true, true, true, false, true, true, false, false, true, false] (fun s_ => [(36, s_.1), (39, s_.2.1), (7, .pointer (some ⟨s_.2.2.2.2, 0, none⟩))]) (fun s_ w_ => Cp w w_ 2 0 1 g3 g4 A0 c0 a A1 c1 b no A3 c3 es gone s_.1 s_.2.1 s_.2.2.1 s_.2.2.2.1 s_.2.2.2.2) ?_ (fun hJ201 => ?_)
        · rintro ⟨v0, v3, v4, v7, g⟩ wd hcp
          have HS := Lib.hid hcp
          have hHeld := hcp.held
          clear hcp
          refine norm_ (a' := ?_) ?_ ?_
          rotate_left
          · simp only [putAll]
            simp only [Act.put, List.setIfInBounds_toArray, List.set_cons_zero, List.set_cons_succ, i64_w, i32_w]
            rfl
          refine one_ (i := 4) (N := (some 40)) #[true, true, true, true, true, true, true, false, false, true, false] rfl rfl (one_of HT_.out (by kernel_rfl)) (by decide) (fun K hK => ?_)
          refine Kd.R_lit_step (Kd.int .i64) (w0 := w) w.heap.size 3 (by rfl) (N := 40) rfl (xs := ([] : List Int)) (inner := []) (ok := fun _ => True) (okp := fun _ => False) ?hr ⟨rfl, fun j p hj => by simp at hj⟩ (fun _ _ => trivial) trivial HS.out.below HS.out.below.size (by decide) ?_
          (case hr => first | (go_simp; done) | (go_simp; rfl))
          intro vn wn hv hb hg _
          have HT := Lib.hid (HS.out.goY1 (below_grown0 hg) hv)
          refine hK.out _ _ HT.out.held (fun hHeld => ?_)
          clear hK K
          refine norm_ (a' := ?_) ?_ ?_
          rotate_left
          · show Act.put _ (some 40) _ = _
            simp only [Act.put, List.setIfInBounds_toArray, List.set_cons_zero, List.set_cons_succ, i64_w, i32_w]
            rfl
          exact hJ211 (v0, v3, vn, v7, g) _ HT.out
        refine join_ (σ := Value × Value × Value × Value × Nat) 4 #[true, true, true, true, true, true, true, false, false, false, false] (fun s_ => [(36, s_.1), (39, s_.2.1), (40, s_.2.2.1)]) (fun s_ w_ => Cp w w_ 2 1 0 g3 g4 A0 c0 a A1 c1 b no A3 c3 es gone s_.1 s_.2.1 s_.2.2.1 s_.2.2.2.1 s_.2.2.2.2) ?_ (fun hJ210 => ?_)
        · rintro ⟨v0, v3, v4, v7, g⟩ wd hcp
          have HS := Lib.hid hcp
          have hHeld := hcp.held
          clear hcp
          refine norm_ (a' := ?_) ?_ ?_
          rotate_left
          · simp only [putAll]
            simp only [Act.put, List.setIfInBounds_toArray, List.set_cons_zero, List.set_cons_succ, i64_w, i32_w]
            rfl
          have HSB := Lib.hid HS.out.below
          refine two_ (i := 7) (j := 9) (Ni := (some 43)) (Nj := (some 7)) #[true, true, true, true, true, true, true, true, false, false, false] #[true, true, true, true, true, true, true, false, false, true, false] rfl rfl rfl rfl (two_of HT_.out (by kernel_rfl)) (by decide) (by decide) (fun K hK => ?_) (fun K hK => ?_)
          · refine Kd.R_append_rows_step (Kd.int .i64) (w0 := w) w.heap.size (by rfl) (.tmp 40) (.tmp 42) 24 3 (.int .i64 0) 8 rfl Try.underlying24 info3 rfl (by decide) (by omega) v4 ([] : List Int) b _ _ _ (fun _ => True) (fun _ => False) rfl rfl (HS.out.fy1 rfl) (Kd.C_below HR1.out HSB.out) (fun _ _ h => h) (fun _ h => h.elim) (fun _ _ => trivial) HS.out.below HS.out.below.size (by simp; omega) ?_
            intro vn wn hv hb hg _
            have HT := Lib.hid (HS.out.goY2 hb hg hv)
            refine hK.out _ _ HT.out.held (fun hHeld => ?_)
            clear hK K
            refine norm_ (a' := ?_) ?_ ?_
            rotate_left
            · show Act.put _ (some 43) _ = _
              simp only [Act.put, List.setIfInBounds_toArray, List.set_cons_zero, List.set_cons_succ, i64_w, i32_w]
              rfl
            obtain ⟨B0, d0, rfl⟩ := Kd.R_slice (HT.out.fx2 rfl)
            obtain ⟨B1, d1, rfl⟩ := Kd.R_slice (HT.out.fy2 rfl)
            refine pure_ (i := 8) (N := some 44) (v := ?_) (a' := ?_) #[true, true, true, true, true, true, true, true, true, false, false] rfl rfl (any_of HT_.out (by kernel_rfl)) (fun _ _ _ h => h) (Or.inl ⟨by rfl, ?_⟩) ?_ ?_
            rotate_left
            · intro w'
              go_simp
              with_reducible rfl
            rotate_left
            · simp only [Act.put, List.setIfInBounds_toArray, List.set_cons_zero, List.set_cons_succ, i64_w, i32_w]
              rfl
            exact hJ220 (v0, .slice B0 a.length d0, v4, .slice B1 b.length d1, g) _ HT.out
          · refine alloc_step (by rfl) (fun g => .pointer (some ⟨g, 0, none⟩)) (.cells #[.slice none 0 0, .slice none 0 0] 26 (0, 0)) ?hr ?_
            (case hr => first | (go_simp; done) | (go_simp; rfl))
            intro g9 hg wn hbox hb
            have HT := Lib.hid (HS.out.goZ1 hg hb hbox)
            refine hK.out _ _ HT.out.held (fun hHeld => ?_)
            clear hK K
            refine norm_ (a' := ?_) ?_ ?_
            rotate_left
            · show Act.put _ (some 7) _ = _
              simp only [Act.put, List.setIfInBounds_toArray, List.set_cons_zero, List.set_cons_succ, i64_w, i32_w]
              rfl
            exact hJ211 (v0, v3, v4, v7, g9) _ HT.out
        refine join_ (σ := Value × Value × Value × Value × Nat) 5 #[false, true, true, false, true, true, true, false, false, true, false] (fun s_ => [(40, s_.2.2.1), (7, .pointer (some ⟨s_.2.2.2.2, 0, none⟩))]) (fun s_ w_ => Cp w w_ 0 1 1 g3 g4 A0 c0 a A1 c1 b no A3 c3 es gone s_.1 s_.2.1 s_.2.2.1 s_.2.2.2.1 s_.2.2.2.2) ?_ (fun hJ011 => ?_)
        · rintro ⟨v0, v3, v4, v7, g⟩ wd hcp
          have HS := Lib.hid hcp
          have hHeld := hcp.held
          clear hcp
          refine norm_ (a' := ?_) ?_ ?_
          rotate_left
          · simp only [putAll]
            simp only [Act.put, List.setIfInBounds_toArray, List.set_cons_zero, List.set_cons_succ, i64_w, i32_w]
            rfl
          refine one_ (i := 0) (N := (some 36)) #[true, true, true, false, true, true, true, false, false, true, false] rfl rfl (one_of HT_.out (by kernel_rfl)) (by decide) (fun K hK => ?_)
          refine Kd.R_lit_step Kd.string (w0 := w) w.heap.size 9 (by rfl) (N := 36) rfl (xs := ([] : List ByteArray)) (inner := []) (ok := fun _ => True) (okp := fun _ => False) ?hr ⟨rfl, fun j p hj => by simp at hj⟩ (fun _ _ => trivial) trivial HS.out.below HS.out.below.size (by decide) ?_
          (case hr => first | (go_simp; done) | (go_simp; rfl))
          intro vn wn hv hb hg _
          have HT := Lib.hid (HS.out.goX1 (below_grown0 hg) hv)
          refine hK.out _ _ HT.out.held (fun hHeld => ?_)
          clear hK K
          refine norm_ (a' := ?_) ?_ ?_
          rotate_left
          · show Act.put _ (some 36) _ = _
            simp only [Act.put, List.setIfInBounds_toArray, List.set_cons_zero, List.set_cons_succ, i64_w, i32_w]
            rfl
          exact hJ111 (vn, v3, v4, v7, g) _ HT.out
        refine join_ (σ := Value × Value × Value × Value × Nat) 5 #[true, true, true, false, false, true, true, false, false, true, false] (fun s_ => [(36, s_.1), (7, .pointer (some ⟨s_.2.2.2.2, 0, none⟩))]) (fun s_ w_ => Cp w w_ 1 0 1 g3 g4 A0 c0 a A1 c1 b no A3 c3 es gone s_.1 s_.2.1 s_.2.2.1 s_.2.2.2.1 s_.2.2.2.2) ?_ (fun hJ101 => ?_)
        · rintro ⟨v0, v3, v4, v7, g⟩ wd hcp
          have HS := Lib.hid hcp
          have hHeld := hcp.held
          clear hcp
          refine norm_ (a' := ?_) ?_ ?_
          rotate_left
          · simp only [putAll]
            simp only [Act.put, List.setIfInBounds_toArray, List.set_cons_zero, List.set_cons_succ, i64_w, i32_w]
            rfl
          have HSB := Lib.hid HS.out.below
          refine two_ (i := 3) (j := 4) (Ni := (some 39)) (Nj := (some 40)) #[true, true, true, true, false, true, true, false, false, true, false] #[true, true, true, false, true, true, true, false, false, true, false] rfl rfl rfl rfl (two_of HT_.out (by kernel_rfl)) (by decide) (by decide) (fun K hK => ?_) (fun K hK => ?_)
          · refine Kd.R_append_rows_step Kd.string (w0 := w) w.heap.size (by rfl) (.tmp 36) (.tmp 38) 22 9 (.string ⟨#[]⟩) 16 rfl Try.underlying22 info9 rfl (by decide) (by omega) v0 ([] : List ByteArray) a _ _ _ (fun _ => True) (fun _ => False) rfl rfl (HS.out.fx1 rfl) (Kd.C_below HR0.out HSB.out) (fun _ _ h => h) (fun _ h => h.elim) (fun _ _ => trivial) HS.out.below HS.out.below.size (by simp; omega) ?_
            intro vn wn hv hb hg _
            have HT := Lib.hid (HS.out.goX2 hb hg hv)
            refine hK.out _ _ HT.out.held (fun hHeld => ?_)
            clear hK K
            refine norm_ (a' := ?_) ?_ ?_
            rotate_left
            · show Act.put _ (some 39) _ = _
              simp only [Act.put, List.setIfInBounds_toArray, List.set_cons_zero, List.set_cons_succ, i64_w, i32_w]
              rfl
            exact hJ201 (v0, vn, v4, v7, g) _ HT.out
          · refine Kd.R_lit_step (Kd.int .i64) (w0 := w) w.heap.size 3 (by rfl) (N := 40) rfl (xs := ([] : List Int)) (inner := []) (ok := fun _ => True) (okp := fun _ => False) ?hr ⟨rfl, fun j p hj => by simp at hj⟩ (fun _ _ => trivial) trivial HS.out.below HS.out.below.size (by decide) ?_
            (case hr => first | (go_simp; done) | (go_simp; rfl))
            intro vn wn hv hb hg _
            have HT := Lib.hid (HS.out.goY1 (below_grown0 hg) hv)
            refine hK.out _ _ HT.out.held (fun hHeld => ?_)
            clear hK K
            refine norm_ (a' := ?_) ?_ ?_
            rotate_left
            · show Act.put _ (some 40) _ = _
              simp only [Act.put, List.setIfInBounds_toArray, List.set_cons_zero, List.set_cons_succ, i64_w, i32_w]
              rfl
            exact hJ111 (v0, v3, vn, v7, g) _ HT.out
        refine join_ (σ := Value × Value × Value × Value × Nat) 5 #[true, true, true, false, true, true, true, false, false, false, false] (fun s_ => [(36, s_.1), (40, s_.2.2.1)]) (fun s_ w_ => Cp w w_ 1 1 0 g3 g4 A0 c0 a A1 c1 b no A3 c3 es gone s_.1 s_.2.1 s_.2.2.1 s_.2.2.2.1 s_.2.2.2.2) ?_ (fun hJ110 => ?_)
        · rintro ⟨v0, v3, v4, v7, g⟩ wd hcp
          have HS := Lib.hid hcp
          have hHeld := hcp.held
          clear hcp
          refine norm_ (a' := ?_) ?_ ?_
          rotate_left
          · simp only [putAll]
            simp only [Act.put, List.setIfInBounds_toArray, List.set_cons_zero, List.set_cons_succ, i64_w, i32_w]
            rfl
          have HSB := Lib.hid HS.out.below
          refine two_ (i := 3) (j := 9) (Ni := (some 39)) (Nj := (some 7)) #[true, true, true, true, true, true, true, false, false, false, false] #[true, true, true, false, true, true, true, false, false, true, false] rfl rfl rfl rfl (two_of HT_.out (by kernel_rfl)) (by decide) (by decide) (fun K hK => ?_) (fun K hK => ?_)
          · refine Kd.R_append_rows_step Kd.string (w0 := w) w.heap.size (by rfl) (.tmp 36) (.tmp 38) 22 9 (.string ⟨#[]⟩) 16 rfl Try.underlying22 info9 rfl (by decide) (by omega) v0 ([] : List ByteArray) a _ _ _ (fun _ => True) (fun _ => False) rfl rfl (HS.out.fx1 rfl) (Kd.C_below HR0.out HSB.out) (fun _ _ h => h) (fun _ h => h.elim) (fun _ _ => trivial) HS.out.below HS.out.below.size (by simp; omega) ?_
            intro vn wn hv hb hg _
            have HT := Lib.hid (HS.out.goX2 hb hg hv)
            refine hK.out _ _ HT.out.held (fun hHeld => ?_)
            clear hK K
            refine norm_ (a' := ?_) ?_ ?_
            rotate_left
            · show Act.put _ (some 39) _ = _
              simp only [Act.put, List.setIfInBounds_toArray, List.set_cons_zero, List.set_cons_succ, i64_w, i32_w]
              rfl
            exact hJ210 (v0, vn, v4, v7, g) _ HT.out
          · refine alloc_step (by rfl) (fun g => .pointer (some ⟨g, 0, none⟩)) (.cells #[.slice none 0 0, .slice none 0 0] 26 (0, 0)) ?hr ?_
            (case hr => first | (go_simp; done) | (go_simp; rfl))
            intro g9 hg wn hbox hb
            have HT := Lib.hid (HS.out.goZ1 hg hb hbox)
            refine hK.out _ _ HT.out.held (fun hHeld => ?_)
            clear hK K
            refine norm_ (a' := ?_) ?_ ?_
            rotate_left
            · show Act.put _ (some 7) _ = _
              simp only [Act.put, List.setIfInBounds_toArray, List.set_cons_zero, List.set_cons_succ, i64_w, i32_w]
              rfl
            exact hJ111 (v0, v3, v4, v7, g9) _ HT.out
        refine join_ (σ := Value × Value × Value × Value × Nat) 5 #[true, true, true, true, false, true, true, false, false, false, false] (fun s_ => [(36, s_.1), (39, s_.2.1)]) (fun s_ w_ => Cp w w_ 2 0 0 g3 g4 A0 c0 a A1 c1 b no A3 c3 es gone s_.1 s_.2.1 s_.2.2.1 s_.2.2.2.1 s_.2.2.2.2) ?_ (fun hJ200 => ?_)
        · rintro ⟨v0, v3, v4, v7, g⟩ wd hcp
          have HS := Lib.hid hcp
          have hHeld := hcp.held
          clear hcp
          refine norm_ (a' := ?_) ?_ ?_
          rotate_left
          · simp only [putAll]
            simp only [Act.put, List.setIfInBounds_toArray, List.set_cons_zero, List.set_cons_succ, i64_w, i32_w]
            rfl
          refine two_ (i := 4) (j := 9) (Ni := (some 40)) (Nj := (some 7)) #[true, true, true, true, true, true, true, false, false, false, false] #[true, true, true, true, false, true, true, false, false, true, false] rfl rfl rfl rfl (two_of HT_.out (by kernel_rfl)) (by decide) (by decide) (fun K hK => ?_) (fun K hK => ?_)
          · refine Kd.R_lit_step (Kd.int .i64) (w0 := w) w.heap.size 3 (by rfl) (N := 40) rfl (xs := ([] : List Int)) (inner := []) (ok := fun _ => True) (okp := fun _ => False) ?hr ⟨rfl, fun j p hj => by simp at hj⟩ (fun _ _ => trivial) trivial HS.out.below HS.out.below.size (by decide) ?_
            (case hr => first | (go_simp; done) | (go_simp; rfl))
            intro vn wn hv hb hg _
            have HT := Lib.hid (HS.out.goY1 (below_grown0 hg) hv)
            refine hK.out _ _ HT.out.held (fun hHeld => ?_)
            clear hK K
            refine norm_ (a' := ?_) ?_ ?_
            rotate_left
            · show Act.put _ (some 40) _ = _
              simp only [Act.put, List.setIfInBounds_toArray, List.set_cons_zero, List.set_cons_succ, i64_w, i32_w]
              rfl
            exact hJ210 (v0, v3, vn, v7, g) _ HT.out
          · refine alloc_step (by rfl) (fun g => .pointer (some ⟨g, 0, none⟩)) (.cells #[.slice none 0 0, .slice none 0 0] 26 (0, 0)) ?hr ?_
            (case hr => first | (go_simp; done) | (go_simp; rfl))
            intro g9 hg wn hbox hb
            have HT := Lib.hid (HS.out.goZ1 hg hb hbox)
            refine hK.out _ _ HT.out.held (fun hHeld => ?_)
            clear hK K
            refine norm_ (a' := ?_) ?_ ?_
            rotate_left
            · show Act.put _ (some 7) _ = _
              simp only [Act.put, List.setIfInBounds_toArray, List.set_cons_zero, List.set_cons_succ, i64_w, i32_w]
              rfl
            exact hJ201 (v0, v3, v4, v7, g9) _ HT.out
        refine join_ (σ := Value × Value × Value × Value × Nat) 6 #[false, true, true, false, false, true, true, false, false, true, false] (fun s_ => [(7, .pointer (some ⟨s_.2.2.2.2, 0, none⟩))]) (fun s_ w_ => Cp w w_ 0 0 1 g3 g4 A0 c0 a A1 c1 b no A3 c3 es gone s_.1 s_.2.1 s_.2.2.1 s_.2.2.2.1 s_.2.2.2.2) ?_ (fun hJ001 => ?_)
        · rintro ⟨v0, v3, v4, v7, g⟩ wd hcp
          have HS := Lib.hid hcp
          have hHeld := hcp.held
          clear hcp
          refine norm_ (a' := ?_) ?_ ?_
          rotate_left
          · simp only [putAll]
            simp only [Act.put, List.setIfInBounds_toArray, List.set_cons_zero, List.set_cons_succ, i64_w, i32_w]
            rfl
          refine two_ (i := 0) (j := 4) (Ni := (some 36)) (Nj := (some 40)) #[true, true, true, false, false, true, true, false, false, true, false] #[false, true, true, false, true, true, true, false, false, true, false] rfl rfl rfl rfl (two_of HT_.out (by kernel_rfl)) (by decide) (by decide) (fun K hK => ?_) (fun K hK => ?_)
          · refine Kd.R_lit_step Kd.string (w0 := w) w.heap.size 9 (by rfl) (N := 36) rfl (xs := ([] : List ByteArray)) (inner := []) (ok := fun _ => True) (okp := fun _ => False) ?hr ⟨rfl, fun j p hj => by simp at hj⟩ (fun _ _ => trivial) trivial HS.out.below HS.out.below.size (by decide) ?_
            (case hr => first | (go_simp; done) | (go_simp; rfl))
            intro vn wn hv hb hg _
            have HT := Lib.hid (HS.out.goX1 (below_grown0 hg) hv)
            refine hK.out _ _ HT.out.held (fun hHeld => ?_)
            clear hK K
            refine norm_ (a' := ?_) ?_ ?_
            rotate_left
            · show Act.put _ (some 36) _ = _
              simp only [Act.put, List.setIfInBounds_toArray, List.set_cons_zero, List.set_cons_succ, i64_w, i32_w]
              rfl
            exact hJ101 (vn, v3, v4, v7, g) _ HT.out
          · refine Kd.R_lit_step (Kd.int .i64) (w0 := w) w.heap.size 3 (by rfl) (N := 40) rfl (xs := ([] : List Int)) (inner := []) (ok := fun _ => True) (okp := fun _ => False) ?hr ⟨rfl, fun j p hj => by simp at hj⟩ (fun _ _ => trivial) trivial HS.out.below HS.out.below.size (by decide) ?_
            (case hr => first | (go_simp; done) | (go_simp; rfl))
            intro vn wn hv hb hg _
            have HT := Lib.hid (HS.out.goY1 (below_grown0 hg) hv)
            refine hK.out _ _ HT.out.held (fun hHeld => ?_)
            clear hK K
            refine norm_ (a' := ?_) ?_ ?_
            rotate_left
            · show Act.put _ (some 40) _ = _
              simp only [Act.put, List.setIfInBounds_toArray, List.set_cons_zero, List.set_cons_succ, i64_w, i32_w]
              rfl
            exact hJ011 (v0, v3, vn, v7, g) _ HT.out
        refine join_ (σ := Value × Value × Value × Value × Nat) 6 #[false, true, true, false, true, true, true, false, false, false, false] (fun s_ => [(40, s_.2.2.1)]) (fun s_ w_ => Cp w w_ 0 1 0 g3 g4 A0 c0 a A1 c1 b no A3 c3 es gone s_.1 s_.2.1 s_.2.2.1 s_.2.2.2.1 s_.2.2.2.2) ?_ (fun hJ010 => ?_)
        · rintro ⟨v0, v3, v4, v7, g⟩ wd hcp
          have HS := Lib.hid hcp
          have hHeld := hcp.held
          clear hcp
          refine norm_ (a' := ?_) ?_ ?_
          rotate_left
          · simp only [putAll]
            simp only [Act.put, List.setIfInBounds_toArray, List.set_cons_zero, List.set_cons_succ, i64_w, i32_w]
            rfl
          refine two_ (i := 0) (j := 9) (Ni := (some 36)) (Nj := (some 7)) #[true, true, true, false, true, true, true, false, false, false, false] #[false, true, true, false, true, true, true, false, false, true, false] rfl rfl rfl rfl (two_of HT_.out (by kernel_rfl)) (by decide) (by decide) (fun K hK => ?_) (fun K hK => ?_)
          · refine Kd.R_lit_step Kd.string (w0 := w) w.heap.size 9 (by rfl) (N := 36) rfl (xs := ([] : List ByteArray)) (inner := []) (ok := fun _ => True) (okp := fun _ => False) ?hr ⟨rfl, fun j p hj => by simp at hj⟩ (fun _ _ => trivial) trivial HS.out.below HS.out.below.size (by decide) ?_
            (case hr => first | (go_simp; done) | (go_simp; rfl))
            intro vn wn hv hb hg _
            have HT := Lib.hid (HS.out.goX1 (below_grown0 hg) hv)
            refine hK.out _ _ HT.out.held (fun hHeld => ?_)
            clear hK K
            refine norm_ (a' := ?_) ?_ ?_
            rotate_left
            · show Act.put _ (some 36) _ = _
              simp only [Act.put, List.setIfInBounds_toArray, List.set_cons_zero, List.set_cons_succ, i64_w, i32_w]
              rfl
            exact hJ110 (vn, v3, v4, v7, g) _ HT.out
          · refine alloc_step (by rfl) (fun g => .pointer (some ⟨g, 0, none⟩)) (.cells #[.slice none 0 0, .slice none 0 0] 26 (0, 0)) ?hr ?_
            (case hr => first | (go_simp; done) | (go_simp; rfl))
            intro g9 hg wn hbox hb
            have HT := Lib.hid (HS.out.goZ1 hg hb hbox)
            refine hK.out _ _ HT.out.held (fun hHeld => ?_)
            clear hK K
            refine norm_ (a' := ?_) ?_ ?_
            rotate_left
            · show Act.put _ (some 7) _ = _
              simp only [Act.put, List.setIfInBounds_toArray, List.set_cons_zero, List.set_cons_succ, i64_w, i32_w]
              rfl
            exact hJ011 (v0, v3, v4, v7, g9) _ HT.out
        refine join_ (σ := Value × Value × Value × Value × Nat) 6 #[true, true, true, false, false, true, true, false, false, false, false] (fun s_ => [(36, s_.1)]) (fun s_ w_ => Cp w w_ 1 0 0 g3 g4 A0 c0 a A1 c1 b no A3 c3 es gone s_.1 s_.2.1 s_.2.2.1 s_.2.2.2.1 s_.2.2.2.2) ?_ (fun hJ100 => ?_)
        · rintro ⟨v0, v3, v4, v7, g⟩ wd hcp
          have HS := Lib.hid hcp
          have hHeld := hcp.held
          clear hcp
          refine norm_ (a' := ?_) ?_ ?_
          rotate_left
          · simp only [putAll]
            simp only [Act.put, List.setIfInBounds_toArray, List.set_cons_zero, List.set_cons_succ, i64_w, i32_w]
            rfl
          have HSB := Lib.hid HS.out.below
          refine three_ (i := 3) (j := 4) (k := 9) (Ni := (some 39)) (Nj := (some 40)) (Nk := (some 7)) #[true, true, true, true, false, true, true, false, false, false, false] #[true, true, true, false, true, true, true, false, false, false, false] #[true, true, true, false, false, true, true, false, false, true, false] rfl rfl rfl rfl rfl rfl (three_of HT_.out (by kernel_rfl)) (by decide) (by decide) (by decide) (fun K hK => ?_) (fun K hK => ?_) (fun K hK => ?_)
          · refine Kd.R_append_rows_step Kd.string (w0 := w) w.heap.size (by rfl) (.tmp 36) (.tmp 38) 22 9 (.string ⟨#[]⟩) 16 rfl Try.underlying22 info9 rfl (by decide) (by omega) v0 ([] : List ByteArray) a _ _ _ (fun _ => True) (fun _ => False) rfl rfl (HS.out.fx1 rfl) (Kd.C_below HR0.out HSB.out) (fun _ _ h => h) (fun _ h => h.elim) (fun _ _ => trivial) HS.out.below HS.out.below.size (by simp; omega) ?_
            intro vn wn hv hb hg _
            have HT := Lib.hid (HS.out.goX2 hb hg hv)
            refine hK.out _ _ HT.out.held (fun hHeld => ?_)
            clear hK K
            refine norm_ (a' := ?_) ?_ ?_
            rotate_left
            · show Act.put _ (some 39) _ = _
              simp only [Act.put, List.setIfInBounds_toArray, List.set_cons_zero, List.set_cons_succ, i64_w, i32_w]
              rfl
            exact hJ200 (v0, vn, v4, v7, g) _ HT.out
          · refine Kd.R_lit_step (Kd.int .i64) (w0 := w) w.heap.size 3 (by rfl) (N := 40) rfl (xs := ([] : List Int)) (inner := []) (ok := fun _ => True) (okp := fun _ => False) ?hr ⟨rfl, fun j p hj => by simp at hj⟩ (fun _ _ => trivial) trivial HS.out.below HS.out.below.size (by decide) ?_
            (case hr => first | (go_simp; done) | (go_simp; rfl))
            intro vn wn hv hb hg _
            have HT := Lib.hid (HS.out.goY1 (below_grown0 hg) hv)
            refine hK.out _ _ HT.out.held (fun hHeld => ?_)
            clear hK K
            refine norm_ (a' := ?_) ?_ ?_
            rotate_left
            · show Act.put _ (some 40) _ = _
              simp only [Act.put, List.setIfInBounds_toArray, List.set_cons_zero, List.set_cons_succ, i64_w, i32_w]
              rfl
            exact hJ110 (v0, v3, vn, v7, g) _ HT.out
          · refine alloc_step (by rfl) (fun g => .pointer (some ⟨g, 0, none⟩)) (.cells #[.slice none 0 0, .slice none 0 0] 26 (0, 0)) ?hr ?_
            (case hr => first | (go_simp; done) | (go_simp; rfl))
            intro g9 hg wn hbox hb
            have HT := Lib.hid (HS.out.goZ1 hg hb hbox)
            refine hK.out _ _ HT.out.held (fun hHeld => ?_)
            clear hK K
            refine norm_ (a' := ?_) ?_ ?_
            rotate_left
            · show Act.put _ (some 7) _ = _
              simp only [Act.put, List.setIfInBounds_toArray, List.set_cons_zero, List.set_cons_succ, i64_w, i32_w]
              rfl
            exact hJ101 (v0, v3, v4, v7, g9) _ HT.out
        refine three_ (i := 0) (j := 4) (k := 9) (Ni := (some 36)) (Nj := (some 40)) (Nk := (some 7)) #[true, true, true, false, false, true, true, false, false, false, false] #[false, true, true, false, true, true, true, false, false, false, false] #[false, true, true, false, false, true, true, false, false, true, false] rfl rfl rfl rfl rfl rfl (three_of HT_.out (by kernel_rfl)) (by decide) (by decide) (by decide) (fun K hK => ?_) (fun K hK => ?_) (fun K hK => ?_)
        · refine Kd.R_lit_step Kd.string (w0 := w) w.heap.size 9 (by rfl) (N := 36) rfl (xs := ([] : List ByteArray)) (inner := []) (ok := fun _ => True) (okp := fun _ => False) ?hr ⟨rfl, fun j p hj => by simp at hj⟩ (fun _ _ => trivial) trivial HS.out.below HS.out.below.size (by decide) ?_
          (case hr => first | (go_simp; done) | (go_simp; rfl))
          intro vn wn hv hb hg _
          have HT := Lib.hid (HS.out.goX1 (below_grown0 hg) hv)
          refine hK.out _ _ HT.out.held (fun hHeld => ?_)
          clear hK K
          refine norm_ (a' := ?_) ?_ ?_
          rotate_left
          · show Act.put _ (some 36) _ = _
            simp only [Act.put, List.setIfInBounds_toArray, List.set_cons_zero, List.set_cons_succ, i64_w, i32_w]
            rfl
          exact hJ100 (vn, (.bool false), (.bool false), (.bool false), 0) _ HT.out
        · refine Kd.R_lit_step (Kd.int .i64) (w0 := w) w.heap.size 3 (by rfl) (N := 40) rfl (xs := ([] : List Int)) (inner := []) (ok := fun _ => True) (okp := fun _ => False) ?hr ⟨rfl, fun j p hj => by simp at hj⟩ (fun _ _ => trivial) trivial HS.out.below HS.out.below.size (by decide) ?_
          (case hr => first | (go_simp; done) | (go_simp; rfl))
          intro vn wn hv hb hg _
          have HT := Lib.hid (HS.out.goY1 (below_grown0 hg) hv)
          refine hK.out _ _ HT.out.held (fun hHeld => ?_)
          clear hK K
          refine norm_ (a' := ?_) ?_ ?_
          rotate_left
          · show Act.put _ (some 40) _ = _
            simp only [Act.put, List.setIfInBounds_toArray, List.set_cons_zero, List.set_cons_succ, i64_w, i32_w]
            rfl
          exact hJ010 ((.bool false), (.bool false), vn, (.bool false), 0) _ HT.out
        · refine alloc_step (by rfl) (fun g => .pointer (some ⟨g, 0, none⟩)) (.cells #[.slice none 0 0, .slice none 0 0] 26 (0, 0)) ?hr ?_
          (case hr => first | (go_simp; done) | (go_simp; rfl))
          intro g9 hg wn hbox hb
          have HT := Lib.hid (HS.out.goZ1 hg hb hbox)
          refine hK.out _ _ HT.out.held (fun hHeld => ?_)
          clear hK K
          refine norm_ (a' := ?_) ?_ ?_
          rotate_left
          · show Act.put _ (some 7) _ = _
            simp only [Act.put, List.setIfInBounds_toArray, List.set_cons_zero, List.set_cons_succ, i64_w, i32_w]
            rfl
          exact hJ001 ((.bool false), (.bool false), (.bool false), (.bool false), g9) _ HT.out
      case rest =>
        clear HB HG3 HG4
        obtain ⟨g7, B0, d0, B1, d1, rfl, HQ⟩ := hcut
        have HB := Lib.hid HQ.out.1
        have HG3 := Lib.hid HQ.out.2.1
        have HG4 := Lib.hid HQ.out.2.2.1
        have HG7 := Lib.hid HQ.out.2.2.2
        clear HQ
        go_upto_region 4 with (fail)
        go_cut [8] (fun v8 wc => ∃ (g8 : Nat) (B3 : Option Addr) (d3 : Nat), v8 = .pointer (some ⟨g8, 0, none⟩) ∧ Aside0 (Below w.heap.size w wc ∧ RootAt wc g3 A0 c0 a A1 c1 b ∧ LeafAt wc g4 no A3 c3 es gone ∧ RootAt wc g7 B0 d0 a B1 d1 b ∧ LeafAt wc g8 no B3 d3 es gone))
        case first =>
          refine start_ (n := 11) (S := (fun W_ => W_.cell? ⟨g4, 0, none⟩ = some (.int .i64 no) ∧ W_.cell? ⟨g4, 1, none⟩ = some (.slice A3 es.length c3) ∧ W_.cell? ⟨g4, 2, none⟩ = some (.bool gone))) (ds := []) #[false, false, false, false, false, false, false, false, false, false, false] (by kernel_rfl) rfl rfl (HG4.out.below (below_drew1 (Below.refl _ _))).cells (fun hHeld => ?_); refine with_tabW ch4Tab ch4Waits (fun HT_ HW_ => ?_)
          have n_ := Lib.hid (HG3.out.below (below_drew1 (Below.refl _ _))); clear HG3; have HG3 := n_; clear n_; have n_ := Lib.hid (HG4.out.below (below_drew1 (Below.refl _ _))); clear HG4; have HG4 := n_; clear n_; have n_ := Lib.hid (HG7.out.below (below_drew1 (Below.refl _ _))); clear HG7; have HG7 := n_; clear n_
          have n_ := Lib.hid (below_then HB.out HB.out.size (below_drew1 (Below.refl _ _))); clear HB; have HB := n_; clear n_
          generalize World.drew _ = wa at HB HG3 HG4 HG7 hHeld ⊢
          have HM := Lib.hid (Below.refl wa.heap.size wa)
          refine pure_ (i := 0) (N := some 45) (v := ?_) (a' := ?_) #[true, false, false, false, false, false, false, false, false, false, false] rfl rfl (any_of HT_.out (by kernel_rfl)) (fun _ _ _ h => h) (Or.inl ⟨by rfl, ?_⟩) ?_ ?_
          rotate_left
          · intro w'
            go_simp
            with_reducible rfl
          rotate_left
          · simp only [Act.put, List.setIfInBounds_toArray, List.set_cons_zero, List.set_cons_succ, i64_w, i32_w]
            rfl
          refine pure_ (i := 2) (N := some 47) (v := ?_) (a' := ?_) #[true, false, true, false, false, false, false, false, false, false, false] rfl rfl (any_of HT_.out (by kernel_rfl)) (fun _ _ _ h => h) (Or.inl ⟨by rfl, ?_⟩) ?_ ?_
          rotate_left
          · intro w'
            go_simp
            with_reducible rfl
          rotate_left
          · simp only [Act.put, List.setIfInBounds_toArray, List.set_cons_zero, List.set_cons_succ, i64_w, i32_w]
            rfl
          refine pure_ (i := 5) (N := some 50) (v := ?_) (a' := ?_) #[true, false, true, false, false, true, false, false, false, false, false] rfl rfl (any_of HT_.out (by kernel_rfl)) (fun _ _ _ h => h) (Or.inl ⟨by rfl, ?_⟩) ?_ ?_
          rotate_left
          · intro w'
            go_simp
            with_reducible rfl
          rotate_left
          · simp only [Act.put, List.setIfInBounds_toArray, List.set_cons_zero, List.set_cons_succ, i64_w, i32_w]
            rfl
          refine take_ (i := 1) (N := some 46) (v := ?_) (a' := ?_) #[true, true, true, false, false, true, false, false, false, false, false] rfl rfl (take_ofW HT_.out HW_.out (by kernel_rfl)) (fun _ _ _ h => h) (Or.inl ⟨by rfl, ?_⟩) hHeld ?_ ?_
          rotate_left
          · rintro w' ⟨h0, h1, h2⟩
            go_simp
            with_reducible rfl
          rotate_left
          · simp only [Act.put, List.setIfInBounds_toArray, List.set_cons_zero, List.set_cons_succ, i64_w, i32_w]
            rfl
          refine take_ (i := 3) (N := some 48) (v := ?_) (a' := ?_) #[true, true, true, true, false, true, false, false, false, false, false] rfl rfl (take_ofW HT_.out HW_.out (by kernel_rfl)) (fun _ _ _ h => h) (Or.inl ⟨by rfl, ?_⟩) hHeld ?_ ?_
          rotate_left
          · rintro w' ⟨h0, h1, h2⟩
            go_simp
            with_reducible rfl
          rotate_left
          · simp only [Act.put, List.setIfInBounds_toArray, List.set_cons_zero, List.set_cons_succ, i64_w, i32_w]
            rfl
          refine take_ (i := 6) (N := some 51) (v := ?_) (a' := ?_) #[true, true, true, true, false, true, true, false, false, false, false] rfl rfl (take_ofW HT_.out HW_.out (by kernel_rfl)) (fun _ _ _ h => h) (Or.inl ⟨by rfl, ?_⟩) hHeld ?_ ?_
          rotate_left
          · rintro w' ⟨h0, h1, h2⟩
            go_simp
            with_reducible rfl
          rotate_left
          · simp only [Act.put, List.setIfInBounds_toArray, List.set_cons_zero, List.set_cons_succ, i64_w, i32_w]
            rfl
          refine two_ (i := 4) (j := 9) (Ni := (some 49)) (Nj := (some 8)) #[true, true, true, true, true, true, true, false, false, false, false] #[true, true, true, true, false, true, true, false, false, true, false] rfl rfl rfl rfl (two_of HT_.out (by kernel_rfl)) (by decide) (by decide) (fun K hK => ?_) (fun K hK => ?_)
          · refine Kd.R_lit_step Kd.string (w0 := wa) wa.heap.size 9 (by rfl) (N := 49) rfl (xs := ([] : List ByteArray)) (inner := []) (ok := fun _ => True) (okp := fun _ => False) ?hr ⟨rfl, fun j p hj => by simp at hj⟩ (fun _ _ => trivial) trivial HM.out HM.out.size (by decide) ?_
            (case hr => first | (go_simp; done) | (go_simp; rfl))
            intro v4 wn hv hb hg _
            have HV := Lib.hid hv
            have n_ := Lib.hid (hb); clear HM; have HM := n_; clear n_
            clear hv hb hg
            refine hK.out _ _ (HG4.out.below HM.out).cells (fun hHeld => ?_)
            clear hK K
            refine norm_ (a' := ?_) ?_ ?_
            rotate_left
            · show Act.put _ (some 49) _ = _
              simp only [Act.put, List.setIfInBounds_toArray, List.set_cons_zero, List.set_cons_succ, i64_w, i32_w]
              rfl
            refine two_ (i := 7) (j := 9) (Ni := (some 52)) (Nj := (some 8)) #[true, true, true, true, true, true, true, true, false, false, false] #[true, true, true, true, true, true, true, false, false, true, false] rfl rfl rfl rfl (two_of HT_.out (by kernel_rfl)) (by decide) (by decide) (fun K hK => ?_) (fun K hK => ?_)
            · refine Kd.R_append_rows_step Kd.string (w0 := wa) wa.heap.size (by rfl) (.tmp 49) (.tmp 51) 22 9 (.string ⟨#[]⟩) 16 rfl Try.underlying22 info9 rfl (by decide) (by omega) v4 ([] : List ByteArray) es _ _ _ (fun _ => True) (fun _ => False) rfl rfl HV.out (Kd.C_below HG4.out.r HM.out) (fun _ _ h => h) (fun _ h => h.elim) (fun _ _ => trivial) HM.out HM.out.size (by simp; omega) ?_
              intro v7 wn hv hb hg _
              obtain ⟨B3, d3, rfl⟩ := Kd.R_slice hv
              have n_ := Lib.hid hv; clear HV; have HV := n_; clear n_
              have n_ := Lib.hid (hb); clear HM; have HM := n_; clear n_
              clear hv hb hg
              refine hK.out _ _ (HG4.out.below HM.out).cells (fun hHeld => ?_)
              clear hK K
              refine norm_ (a' := ?_) ?_ ?_
              rotate_left
              · show Act.put _ (some 52) _ = _
                simp only [Act.put, List.setIfInBounds_toArray, List.set_cons_zero, List.set_cons_succ, i64_w, i32_w]
                rfl
              refine pure_ (i := 8) (N := some 53) (v := ?_) (a' := ?_) #[true, true, true, true, true, true, true, true, true, false, false] rfl rfl (any_of HT_.out (by kernel_rfl)) (fun _ _ _ h => h) (Or.inl ⟨by rfl, ?_⟩) ?_ ?_
              rotate_left
              · intro w'
                go_simp
                with_reducible rfl
              rotate_left
              · simp only [Act.put, List.setIfInBounds_toArray, List.set_cons_zero, List.set_cons_succ, i64_w, i32_w]
                rfl
              refine one_ (i := 9) (N := (some 8)) #[true, true, true, true, true, true, true, true, true, true, false] rfl rfl (one_of HT_.out (by kernel_rfl)) (by decide) (fun K hK => ?_)
              refine alloc_step (by rfl) (fun g => .pointer (some ⟨g, 0, none⟩)) (.cells #[.int .i64 0, .slice none 0 0, .bool false] 28 (0, 0)) ?hr ?_
              (case hr => first | (go_simp; done) | (go_simp; rfl))
              intro g8 hg wn hbox hb
              have HX := Lib.hid hbox
              have HW := Lib.hid (show wa.heap.size ≤ g8 by rw [hg]; exact HM.out.size)
              have n_ := Lib.hid (Kd.R_below HV.out hb); clear HV; have HV := n_; clear n_
              have n_ := Lib.hid (below_then HM.out HM.out.size hb); clear HM; have HM := n_; clear n_
              clear hg hbox hb
              refine hK.out _ _ (HG4.out.below HM.out).cells (fun hHeld => ?_)
              clear hK K
              refine norm_ (a' := ?_) ?_ ?_
              rotate_left
              · show Act.put _ (some 8) _ = _
                simp only [Act.put, List.setIfInBounds_toArray, List.set_cons_zero, List.set_cons_succ, i64_w, i32_w]
                rfl
              refine one_ (i := 10) (N := none) #[true, true, true, true, true, true, true, true, true, true, true] rfl rfl (one_of HT_.out (by kernel_rfl)) (by decide) (fun K hK => ?_)
              refine store_step (by rfl) rfl rfl g8 _ 28 [.int .i64 no, .slice B3 es.length d3, .bool gone] rfl (.agg #[.int .i64 no, .slice B3 es.length d3, .bool gone]) ?haS ?hbS HX.out rfl (by kernel_rfl) (three28 no B3 es.length d3 gone) ?_
              (case haS => rfl)
              (case hbS => first | rfl | simp [Value.cells])
              intro wn hbox hg hz
              have e0 := Kd.R_reads' (Kd.R_grown1 HV.out rfl hg (Kd.R_ne HV.out HX.out (by decide)))
              have HG8 := Lib.hid (show LeafAt wn g8 no B3 d3 es gone from ⟨hbox, e0.2.2, e0.2.1⟩)
              have n_ := Lib.hid (below_own HM.out hg HW.out HM.out.size); clear HM; have HM := n_; clear n_
              clear hbox hg hz e0
              refine hK.out _ _ (HG4.out.below HM.out).cells (fun hHeld => ?_)
              clear hK K
              refine done_ (done_of HT_.out (by kernel_rfl)) ?_
              try go_wp2
              go_meet
              exact ⟨g8, B3, d3, rfl, ⟨below_then HB.out HB.out.size HM.out, HG3.out.below HM.out, HG4.out.below HM.out, HG7.out.below HM.out, HG8.out⟩⟩
            · refine alloc_step (by rfl) (fun g => .pointer (some ⟨g, 0, none⟩)) (.cells #[.int .i64 0, .slice none 0 0, .bool false] 28 (0, 0)) ?hr ?_
              (case hr => first | (go_simp; done) | (go_simp; rfl))
              intro g8 hg wn hbox hb
              have HX := Lib.hid hbox
              have HW := Lib.hid (show wa.heap.size ≤ g8 by rw [hg]; exact HM.out.size)
              have n_ := Lib.hid (Kd.R_below HV.out hb); clear HV; have HV := n_; clear n_
              have n_ := Lib.hid (below_then HM.out HM.out.size hb); clear HM; have HM := n_; clear n_
              clear hg hbox hb
              refine hK.out _ _ (HG4.out.below HM.out).cells (fun hHeld => ?_)
              clear hK K
              refine norm_ (a' := ?_) ?_ ?_
              rotate_left
              · show Act.put _ (some 8) _ = _
                simp only [Act.put, List.setIfInBounds_toArray, List.set_cons_zero, List.set_cons_succ, i64_w, i32_w]
                rfl
              refine one_ (i := 7) (N := (some 52)) #[true, true, true, true, true, true, true, true, false, true, false] rfl rfl (one_of HT_.out (by kernel_rfl)) (by decide) (fun K hK => ?_)
              refine Kd.R_append_rows_step Kd.string (w0 := wa) wa.heap.size (by rfl) (.tmp 49) (.tmp 51) 22 9 (.string ⟨#[]⟩) 16 rfl Try.underlying22 info9 rfl (by decide) (by omega) v4 ([] : List ByteArray) es _ _ _ (fun _ => True) (fun _ => False) rfl rfl HV.out (Kd.C_below HG4.out.r HM.out) (fun _ _ h => h) (fun _ h => h.elim) (fun _ _ => trivial) HM.out HM.out.size (by simp; omega) ?_
              intro v7 wn hv hb hg _
              obtain ⟨B3, d3, rfl⟩ := Kd.R_slice hv
              have n_ := Lib.hid (blk_grown HX.out hg (Kd.R_ne HV.out HX.out (by decide))); clear HX; have HX := n_; clear n_
              have n_ := Lib.hid hv; clear HV; have HV := n_; clear n_
              have n_ := Lib.hid (hb); clear HM; have HM := n_; clear n_
              clear hv hb hg
              refine hK.out _ _ (HG4.out.below HM.out).cells (fun hHeld => ?_)
              clear hK K
              refine norm_ (a' := ?_) ?_ ?_
              rotate_left
              · show Act.put _ (some 52) _ = _
                simp only [Act.put, List.setIfInBounds_toArray, List.set_cons_zero, List.set_cons_succ, i64_w, i32_w]
                rfl
              refine pure_ (i := 8) (N := some 53) (v := ?_) (a' := ?_) #[true, true, true, true, true, true, true, true, true, true, false] rfl rfl (any_of HT_.out (by kernel_rfl)) (fun _ _ _ h => h) (Or.inl ⟨by rfl, ?_⟩) ?_ ?_
              rotate_left
              · intro w'
                go_simp
                with_reducible rfl
              rotate_left
              · simp only [Act.put, List.setIfInBounds_toArray, List.set_cons_zero, List.set_cons_succ, i64_w, i32_w]
                rfl
              refine one_ (i := 10) (N := none) #[true, true, true, true, true, true, true, true, true, true, true] rfl rfl (one_of HT_.out (by kernel_rfl)) (by decide) (fun K hK => ?_)
              refine store_step (by rfl) rfl rfl g8 _ 28 [.int .i64 no, .slice B3 es.length d3, .bool gone] rfl (.agg #[.int .i64 no, .slice B3 es.length d3, .bool gone]) ?haS ?hbS HX.out rfl (by kernel_rfl) (three28 no B3 es.length d3 gone) ?_
              (case haS => rfl)
              (case hbS => first | rfl | simp [Value.cells])
              intro wn hbox hg hz
              have e0 := Kd.R_reads' (Kd.R_grown1 HV.out rfl hg (Kd.R_ne HV.out HX.out (by decide)))
              have HG8 := Lib.hid (show LeafAt wn g8 no B3 d3 es gone from ⟨hbox, e0.2.2, e0.2.1⟩)
              have n_ := Lib.hid (below_own HM.out hg HW.out HM.out.size); clear HM; have HM := n_; clear n_
              clear hbox hg hz e0
              refine hK.out _ _ (HG4.out.below HM.out).cells (fun hHeld => ?_)
              clear hK K
              refine done_ (done_of HT_.out (by kernel_rfl)) ?_
              try go_wp2
              go_meet
              exact ⟨g8, B3, d3, rfl, ⟨below_then HB.out HB.out.size HM.out, HG3.out.below HM.out, HG4.out.below HM.out, HG7.out.below HM.out, HG8.out⟩⟩
          · refine alloc_step (by rfl) (fun g => .pointer (some ⟨g, 0, none⟩)) (.cells #[.int .i64 0, .slice none 0 0, .bool false] 28 (0, 0)) ?hr ?_
            (case hr => first | (go_simp; done) | (go_simp; rfl))
            intro g8 hg wn hbox hb
            have HX := Lib.hid hbox
            have HW := Lib.hid (show wa.heap.size ≤ g8 by rw [hg]; exact HM.out.size)
            have n_ := Lib.hid (below_then HM.out HM.out.size hb); clear HM; have HM := n_; clear n_
            clear hg hbox hb
            refine hK.out _ _ (HG4.out.below HM.out).cells (fun hHeld => ?_)
            clear hK K
            refine norm_ (a' := ?_) ?_ ?_
            rotate_left
            · show Act.put _ (some 8) _ = _
              simp only [Act.put, List.setIfInBounds_toArray, List.set_cons_zero, List.set_cons_succ, i64_w, i32_w]
              rfl
            refine one_ (i := 4) (N := (some 49)) #[true, true, true, true, true, true, true, false, false, true, false] rfl rfl (one_of HT_.out (by kernel_rfl)) (by decide) (fun K hK => ?_)
            refine Kd.R_lit_step Kd.string (w0 := wa) wa.heap.size 9 (by rfl) (N := 49) rfl (xs := ([] : List ByteArray)) (inner := []) (ok := fun _ => True) (okp := fun _ => False) ?hr ⟨rfl, fun j p hj => by simp at hj⟩ (fun _ _ => trivial) trivial HM.out HM.out.size (by decide) ?_
            (case hr => first | (go_simp; done) | (go_simp; rfl))
            intro v4 wn hv hb hg _
            have HV := Lib.hid hv
            have n_ := Lib.hid (blk_below HX.out (below_grown0 hg)); clear HX; have HX := n_; clear n_
            have n_ := Lib.hid (hb); clear HM; have HM := n_; clear n_
            clear hv hb hg
            refine hK.out _ _ (HG4.out.below HM.out).cells (fun hHeld => ?_)
            clear hK K
            refine norm_ (a' := ?_) ?_ ?_
            rotate_left
            · show Act.put _ (some 49) _ = _
              simp only [Act.put, List.setIfInBounds_toArray, List.set_cons_zero, List.set_cons_succ, i64_w, i32_w]
              rfl
            refine one_ (i := 7) (N := (some 52)) #[true, true, true, true, true, true, true, true, false, true, false] rfl rfl (one_of HT_.out (by kernel_rfl)) (by decide) (fun K hK => ?_)
            refine Kd.R_append_rows_step Kd.string (w0 := wa) wa.heap.size (by rfl) (.tmp 49) (.tmp 51) 22 9 (.string ⟨#[]⟩) 16 rfl Try.underlying22 info9 rfl (by decide) (by omega) v4 ([] : List ByteArray) es _ _ _ (fun _ => True) (fun _ => False) rfl rfl HV.out (Kd.C_below HG4.out.r HM.out) (fun _ _ h => h) (fun _ h => h.elim) (fun _ _ => trivial) HM.out HM.out.size (by simp; omega) ?_
            intro v7 wn hv hb hg _
            obtain ⟨B3, d3, rfl⟩ := Kd.R_slice hv
            have n_ := Lib.hid (blk_grown HX.out hg (Kd.R_ne HV.out HX.out (by decide))); clear HX; have HX := n_; clear n_
            have n_ := Lib.hid hv; clear HV; have HV := n_; clear n_
            have n_ := Lib.hid (hb); clear HM; have HM := n_; clear n_
            clear hv hb hg
            refine hK.out _ _ (HG4.out.below HM.out).cells (fun hHeld => ?_)
            clear hK K
            refine norm_ (a' := ?_) ?_ ?_
            rotate_left
            · show Act.put _ (some 52) _ = _
              simp only [Act.put, List.setIfInBounds_toArray, List.set_cons_zero, List.set_cons_succ, i64_w, i32_w]
              rfl
            refine pure_ (i := 8) (N := some 53) (v := ?_) (a' := ?_) #[true, true, true, true, true, true, true, true, true, true, false] rfl rfl (any_of HT_.out (by kernel_rfl)) (fun _ _ _ h => h) (Or.inl ⟨by rfl, ?_⟩) ?_ ?_
            rotate_left
            · intro w'
              go_simp
              with_reducible rfl
            rotate_left
            · simp only [Act.put, List.setIfInBounds_toArray, List.set_cons_zero, List.set_cons_succ, i64_w, i32_w]
              rfl
            refine one_ (i := 10) (N := none) #[true, true, true, true, true, true, true, true, true, true, true] rfl rfl (one_of HT_.out (by kernel_rfl)) (by decide) (fun K hK => ?_)
            refine store_step (by rfl) rfl rfl g8 _ 28 [.int .i64 no, .slice B3 es.length d3, .bool gone] rfl (.agg #[.int .i64 no, .slice B3 es.length d3, .bool gone]) ?haS ?hbS HX.out rfl (by kernel_rfl) (three28 no B3 es.length d3 gone) ?_
            (case haS => rfl)
            (case hbS => first | rfl | simp [Value.cells])
            intro wn hbox hg hz
            have e0 := Kd.R_reads' (Kd.R_grown1 HV.out rfl hg (Kd.R_ne HV.out HX.out (by decide)))
            have HG8 := Lib.hid (show LeafAt wn g8 no B3 d3 es gone from ⟨hbox, e0.2.2, e0.2.1⟩)
            have n_ := Lib.hid (below_own HM.out hg HW.out HM.out.size); clear HM; have HM := n_; clear n_
            clear hbox hg hz e0
            refine hK.out _ _ (HG4.out.below HM.out).cells (fun hHeld => ?_)
            clear hK K
            refine done_ (done_of HT_.out (by kernel_rfl)) ?_
            try go_wp2
            go_meet
            exact ⟨g8, B3, d3, rfl, ⟨below_then HB.out HB.out.size HM.out, HG3.out.below HM.out, HG4.out.below HM.out, HG7.out.below HM.out, HG8.out⟩⟩
        case rest =>
          clear HB HG3 HG4 HG7
          obtain ⟨g8, B3, d3, rfl, HQ⟩ := hcut
          have HB := Lib.hid HQ.out.1
          have HG3 := Lib.hid HQ.out.2.1
          have HG4 := Lib.hid HQ.out.2.2.1
          have HG7 := Lib.hid HQ.out.2.2.2.1
          have HG8 := Lib.hid HQ.out.2.2.2.2
          clear HQ
          have hin := ins_total (a := a) (b := b) (no := no) (es := es) (gone := gone) (s := s) (by omega) (by omega) (by omega)
          obtain ⟨r1, r2, r3, r4, hi, hsz⟩ := hin
          have HI := Lib.hid hi
          have HZ := Lib.hid hsz
          have hin := rem_total (a := a) (b := b) (no := no) (es := es) (gone := gone) (s := s) (by omega) (by omega) (by omega)
          obtain ⟨q1, q2, q3, q4, hi2, hsz2⟩ := hin
          have HJ := Lib.hid hi2
          have HY := Lib.hid hsz2
          clear hi hsz hi2 hsz2
          obtain ⟨q70, q71⟩ := HG7.out.cells
          obtain ⟨q80, q81, q82⟩ := HG8.out.cells
          go_wp2_with (first | (go_at_call 11; refine (leaf_Insert.calls _ d0 a _ d1 b no _ d3 es gone s r1 r2 r3 r4 _ (HG7.out.r0) HG7.out.h0 HG7.out.r1 HG7.out.h1 HG8.out.r HG8.out.h HI.out).mono ?_; rintro e w20 ⟨v0, v1, v2, rfl, h0, h1, h2, hb⟩; obtain ⟨P0, Pc0, rfl⟩ := Kd.R_slice h0; obtain ⟨P1, Pc1, rfl⟩ := Kd.R_slice h1; obtain ⟨P2, Pc2, rfl⟩ := Kd.N_slice h2; have HN0 := Lib.hid (And.intro (Kd.R_reads' h0).2.2 (Kd.R_reads' h0).2.1); have HN1 := Lib.hid (And.intro (Kd.R_reads' h1).2.2 (Kd.R_reads' h1).2.1); have HL10 := Lib.hid (LeavesAt.mk (Kd.N_reads' h2).2.2 (Kd.N_reads' h2).2.1); clear h0 h1 h2; have n_ := Lib.hid (below_then HB.out HB.out.size hb); clear HB; have HB := n_; clear n_; have n_ := Lib.hid (HG3.out.below hb); clear HG3; have HG3 := n_; clear n_; have n_ := Lib.hid (HG4.out.below hb); clear HG4; have HG4 := n_; clear n_; have n_ := Lib.hid (HG7.out.below hb); clear HG7; have HG7 := n_; clear n_; have n_ := Lib.hid (HG8.out.below hb); clear HG8; have HG8 := n_; clear n_; clear hb q70 q71 q80 q81 q82) | ((with_reducible refine gate_dst (N := 9) rfl ?_); refine alloc_event ?hg (N := 9) ?hd (fun g => .pointer (some ⟨g, 0, none⟩)) (.cells #[.slice none 0 0, .slice none 0 0] 26 (0, 0)) ?hr ?_; (case hd => rfl); (case hg => rfl); (case hr => first | (go_simp; done) | (go_simp; rfl)); intro g9 hg w21 hbox hb; have HX := Lib.hid hbox; have HA := Lib.hid hb; have HW := Lib.hid (show w20.heap.size ≤ g9 by omega); clear hg hbox hb) | ((with_reducible refine gate_store (t := 26) (p := 9) rfl ?_); refine store_row rfl rfl rfl g9 _ 26 [(.slice P0 r1.length Pc0), (.slice P1 r2.length Pc1)] rfl (.agg #[(.slice P0 r1.length Pc0), (.slice P1 r2.length Pc1)]) ?haC ?hbC HX.out rfl (by kernel_rfl) (two26 _ _ _ _ _ _) ?_; (case haC => rfl); (case hbC => first | rfl | simp [Value.cells]); intro w22 hbox hg hz; have HD := Lib.hid (below_own HA.out hg HW.out HA.out.size); have HG9 := Lib.hid (RootAt.mk (W := w22) hbox (Kd.C_below HN0.out.1 HD.out) HN0.out.2 (Kd.C_below HN1.out.1 HD.out) HN1.out.2); have n_ := Lib.hid (HG3.out.below HD.out); clear HG3; have HG3 := n_; clear n_; have n_ := Lib.hid (HG4.out.below HD.out); clear HG4; have HG4 := n_; clear n_; have n_ := Lib.hid (HG7.out.below HD.out); clear HG7; have HG7 := n_; clear n_; have n_ := Lib.hid (HG8.out.below HD.out); clear HG8; have HG8 := n_; clear n_; have n_ := Lib.hid (HL10.out.below HD.out); clear HL10; have HL10 := n_; clear n_; have n_ := Lib.hid (below_then HB.out HB.out.size HD.out); clear HB; have HB := n_; clear n_; clear hbox hg hz HX HA HW HN0 HN1 HD; refine Hold.go ?_))
          refine Hold.of ?_
          obtain ⟨q70, q71⟩ := HG7.out.cells
          obtain ⟨q80, q81, q82⟩ := HG8.out.cells
          go_wp2_with (first | (go_at_call 18; refine (leaf_Remove.calls _ d0 a _ d1 b no _ d3 es gone s q1 q2 q3 q4 _ (HG7.out.r0) HG7.out.h0 HG7.out.r1 HG7.out.h1 HG8.out.r HG8.out.h HJ.out).mono ?_; rintro e w23 ⟨v0, v1, v2, rfl, h0, h1, h2, hb⟩; obtain ⟨R0, Rc0, rfl⟩ := Kd.R_slice h0; obtain ⟨R1, Rc1, rfl⟩ := Kd.R_slice h1; obtain ⟨R2, Rc2, rfl⟩ := Kd.N_slice h2; have HN0 := Lib.hid (And.intro (Kd.R_reads' h0).2.2 (Kd.R_reads' h0).2.1); have HN1 := Lib.hid (And.intro (Kd.R_reads' h1).2.2 (Kd.R_reads' h1).2.1); have HL13 := Lib.hid (LeavesAt.mk (Kd.N_reads' h2).2.2 (Kd.N_reads' h2).2.1); clear h0 h1 h2; have n_ := Lib.hid (below_then HB.out HB.out.size hb); clear HB; have HB := n_; clear n_; have n_ := Lib.hid (HG3.out.below hb); clear HG3; have HG3 := n_; clear n_; have n_ := Lib.hid (HG4.out.below hb); clear HG4; have HG4 := n_; clear n_; have n_ := Lib.hid (HG7.out.below hb); clear HG7; have HG7 := n_; clear n_; have n_ := Lib.hid (HG8.out.below hb); clear HG8; have HG8 := n_; clear n_; have n_ := Lib.hid (HL10.out.below hb); clear HL10; have HL10 := n_; clear n_; have n_ := Lib.hid (HG9.out.below hb); clear HG9; have HG9 := n_; clear n_; clear hb q70 q71 q80 q81 q82) | ((with_reducible refine gate_dst (N := 12) rfl ?_); refine alloc_event ?hg (N := 12) ?hd (fun g => .pointer (some ⟨g, 0, none⟩)) (.cells #[.slice none 0 0, .slice none 0 0] 26 (0, 0)) ?hr ?_; (case hd => rfl); (case hg => rfl); (case hr => first | (go_simp; done) | (go_simp; rfl)); intro g12 hg w24 hbox hb; have HX := Lib.hid hbox; have HA := Lib.hid hb; have HW := Lib.hid (show w23.heap.size ≤ g12 by omega); clear hg hbox hb) | ((with_reducible refine gate_store (t := 26) (p := 12) rfl ?_); refine store_row rfl rfl rfl g12 _ 26 [(.slice R0 q1.length Rc0), (.slice R1 q2.length Rc1)] rfl (.agg #[(.slice R0 q1.length Rc0), (.slice R1 q2.length Rc1)]) ?haC ?hbC HX.out rfl (by kernel_rfl) (two26 _ _ _ _ _ _) ?_; (case haC => rfl); (case hbC => first | rfl | simp [Value.cells]); intro w25 hbox hg hz; have HD := Lib.hid (below_own HA.out hg HW.out HA.out.size); have HG12 := Lib.hid (RootAt.mk (W := w25) hbox (Kd.C_below HN0.out.1 HD.out) HN0.out.2 (Kd.C_below HN1.out.1 HD.out) HN1.out.2); have n_ := Lib.hid (HG3.out.below HD.out); clear HG3; have HG3 := n_; clear n_; have n_ := Lib.hid (HG4.out.below HD.out); clear HG4; have HG4 := n_; clear n_; have n_ := Lib.hid (HG7.out.below HD.out); clear HG7; have HG7 := n_; clear n_; have n_ := Lib.hid (HG8.out.below HD.out); clear HG8; have HG8 := n_; clear n_; have n_ := Lib.hid (HL10.out.below HD.out); clear HL10; have HL10 := n_; clear n_; have n_ := Lib.hid (HG9.out.below HD.out); clear HG9; have HG9 := n_; clear n_; have n_ := Lib.hid (HL13.out.below HD.out); clear HL13; have HL13 := n_; clear n_; have n_ := Lib.hid (below_then HB.out HB.out.size HD.out); clear HB; have HB := n_; clear n_; clear hbox hg hz HX HA HW HN0 HN1 HD; refine Hold.go ?_))
          refine Hold.of ?_
          obtain ⟨q30, q31⟩ := HG3.out.cells
          obtain ⟨q40, q41, q42⟩ := HG4.out.cells
          go_wp2_with (first | (go_at_call 19; refine (ref_insert _ c0 a _ c1 b no _ c3 es gone s _ ⟨HG3.out.r0, HG3.out.h0, HG3.out.r1, HG3.out.h1, HG4.out.r, HG4.out.h, by omega, by omega, by omega, fun x hx => by have := HZA.out x hx; omega, fun x hx => by have := HZE.out x hx; omega, HZS.out⟩ r1 r2 r3 r4 HI.out).mono ?_; rintro e w26 ⟨S0, Sc0, S1, Sc1, S2, Sc2, rfl, h0, h1, h2, hb⟩; have HN0 := Lib.hid h0; have HN1 := Lib.hid h1; have HL16 := Lib.hid (LeavesAt.mk h2.1 h2.2); clear h0 h1 h2; have n_ := Lib.hid (below_then HB.out HB.out.size hb); clear HB; have HB := n_; clear n_; have n_ := Lib.hid (HG3.out.below hb); clear HG3; have HG3 := n_; clear n_; have n_ := Lib.hid (HG4.out.below hb); clear HG4; have HG4 := n_; clear n_; have n_ := Lib.hid (HG7.out.below hb); clear HG7; have HG7 := n_; clear n_; have n_ := Lib.hid (HG8.out.below hb); clear HG8; have HG8 := n_; clear n_; have n_ := Lib.hid (HL10.out.below hb); clear HL10; have HL10 := n_; clear n_; have n_ := Lib.hid (HG9.out.below hb); clear HG9; have HG9 := n_; clear n_; have n_ := Lib.hid (HL13.out.below hb); clear HL13; have HL13 := n_; clear n_; have n_ := Lib.hid (HG12.out.below hb); clear HG12; have HG12 := n_; clear n_; clear hb q30 q31 q40 q41 q42) | ((with_reducible refine gate_dst (N := 15) rfl ?_); refine alloc_event ?hg (N := 15) ?hd (fun g => .pointer (some ⟨g, 0, none⟩)) (.cells #[.slice none 0 0, .slice none 0 0] 26 (0, 0)) ?hr ?_; (case hd => rfl); (case hg => rfl); (case hr => first | (go_simp; done) | (go_simp; rfl)); intro g15 hg w27 hbox hb; have HX := Lib.hid hbox; have HA := Lib.hid hb; have HW := Lib.hid (show w26.heap.size ≤ g15 by omega); clear hg hbox hb) | ((with_reducible refine gate_store (t := 26) (p := 15) rfl ?_); refine store_row rfl rfl rfl g15 _ 26 [(.slice S0 r1.length Sc0), (.slice S1 r2.length Sc1)] rfl (.agg #[(.slice S0 r1.length Sc0), (.slice S1 r2.length Sc1)]) ?haC ?hbC HX.out rfl (by kernel_rfl) (two26 _ _ _ _ _ _) ?_; (case haC => rfl); (case hbC => first | rfl | simp [Value.cells]); intro w28 hbox hg hz; have HD := Lib.hid (below_own HA.out hg HW.out HA.out.size); have HG15 := Lib.hid (RootAt.mk (W := w28) hbox (Kd.C_below HN0.out.1 HD.out) HN0.out.2 (Kd.C_below HN1.out.1 HD.out) HN1.out.2); have n_ := Lib.hid (HG3.out.below HD.out); clear HG3; have HG3 := n_; clear n_; have n_ := Lib.hid (HG4.out.below HD.out); clear HG4; have HG4 := n_; clear n_; have n_ := Lib.hid (HG7.out.below HD.out); clear HG7; have HG7 := n_; clear n_; have n_ := Lib.hid (HG8.out.below HD.out); clear HG8; have HG8 := n_; clear n_; have n_ := Lib.hid (HL10.out.below HD.out); clear HL10; have HL10 := n_; clear n_; have n_ := Lib.hid (HG9.out.below HD.out); clear HG9; have HG9 := n_; clear n_; have n_ := Lib.hid (HL13.out.below HD.out); clear HL13; have HL13 := n_; clear n_; have n_ := Lib.hid (HG12.out.below HD.out); clear HG12; have HG12 := n_; clear n_; have n_ := Lib.hid (HL16.out.below HD.out); clear HL16; have HL16 := n_; clear n_; have n_ := Lib.hid (below_then HB.out HB.out.size HD.out); clear HB; have HB := n_; clear n_; clear hbox hg hz HX HA HW HN0 HN1 HD; refine Hold.go ?_))
          refine Hold.of ?_
          obtain ⟨q30, q31⟩ := HG3.out.cells
          obtain ⟨q40, q41, q42⟩ := HG4.out.cells
          go_wp2_with (first | (go_at_call 20; refine (ref_remove _ c0 a _ c1 b no _ c3 es gone s _ ⟨HG3.out.r0, HG3.out.h0, HG3.out.r1, HG3.out.h1, HG4.out.r, HG4.out.h, by omega, by omega, by omega, fun x hx => by have := HZA.out x hx; omega, fun x hx => by have := HZE.out x hx; omega, HZS.out⟩ q1 q2 q3 q4 HJ.out).mono ?_; rintro e w29 ⟨T0, Tc0, T1, Tc1, T2, Tc2, rfl, h0, h1, h2, hb⟩; have HN0 := Lib.hid h0; have HN1 := Lib.hid h1; have HL19 := Lib.hid (LeavesAt.mk h2.1 h2.2); clear h0 h1 h2; have n_ := Lib.hid (below_then HB.out HB.out.size hb); clear HB; have HB := n_; clear n_; have n_ := Lib.hid (HG3.out.below hb); clear HG3; have HG3 := n_; clear n_; have n_ := Lib.hid (HG4.out.below hb); clear HG4; have HG4 := n_; clear n_; have n_ := Lib.hid (HG7.out.below hb); clear HG7; have HG7 := n_; clear n_; have n_ := Lib.hid (HG8.out.below hb); clear HG8; have HG8 := n_; clear n_; have n_ := Lib.hid (HL10.out.below hb); clear HL10; have HL10 := n_; clear n_; have n_ := Lib.hid (HG9.out.below hb); clear HG9; have HG9 := n_; clear n_; have n_ := Lib.hid (HL13.out.below hb); clear HL13; have HL13 := n_; clear n_; have n_ := Lib.hid (HG12.out.below hb); clear HG12; have HG12 := n_; clear n_; have n_ := Lib.hid (HL16.out.below hb); clear HL16; have HL16 := n_; clear n_; have n_ := Lib.hid (HG15.out.below hb); clear HG15; have HG15 := n_; clear n_; clear hb q30 q31 q40 q41 q42) | ((with_reducible refine gate_dst (N := 18) rfl ?_); refine alloc_event ?hg (N := 18) ?hd (fun g => .pointer (some ⟨g, 0, none⟩)) (.cells #[.slice none 0 0, .slice none 0 0] 26 (0, 0)) ?hr ?_; (case hd => rfl); (case hg => rfl); (case hr => first | (go_simp; done) | (go_simp; rfl)); intro g18 hg w30 hbox hb; have HX := Lib.hid hbox; have HA := Lib.hid hb; have HW := Lib.hid (show w29.heap.size ≤ g18 by omega); clear hg hbox hb) | ((with_reducible refine gate_store (t := 26) (p := 18) rfl ?_); refine store_row rfl rfl rfl g18 _ 26 [(.slice T0 q1.length Tc0), (.slice T1 q2.length Tc1)] rfl (.agg #[(.slice T0 q1.length Tc0), (.slice T1 q2.length Tc1)]) ?haC ?hbC HX.out rfl (by kernel_rfl) (two26 _ _ _ _ _ _) ?_; (case haC => rfl); (case hbC => first | rfl | simp [Value.cells]); intro w31 hbox hg hz; have HD := Lib.hid (below_own HA.out hg HW.out HA.out.size); have HG18 := Lib.hid (RootAt.mk (W := w31) hbox (Kd.C_below HN0.out.1 HD.out) HN0.out.2 (Kd.C_below HN1.out.1 HD.out) HN1.out.2); have n_ := Lib.hid (HG3.out.below HD.out); clear HG3; have HG3 := n_; clear n_; have n_ := Lib.hid (HG4.out.below HD.out); clear HG4; have HG4 := n_; clear n_; have n_ := Lib.hid (HG7.out.below HD.out); clear HG7; have HG7 := n_; clear n_; have n_ := Lib.hid (HG8.out.below HD.out); clear HG8; have HG8 := n_; clear n_; have n_ := Lib.hid (HL10.out.below HD.out); clear HL10; have HL10 := n_; clear n_; have n_ := Lib.hid (HG9.out.below HD.out); clear HG9; have HG9 := n_; clear n_; have n_ := Lib.hid (HL13.out.below HD.out); clear HL13; have HL13 := n_; clear n_; have n_ := Lib.hid (HG12.out.below HD.out); clear HG12; have HG12 := n_; clear n_; have n_ := Lib.hid (HL16.out.below HD.out); clear HL16; have HL16 := n_; clear n_; have n_ := Lib.hid (HG15.out.below HD.out); clear HG15; have HG15 := n_; clear n_; have n_ := Lib.hid (HL19.out.below HD.out); clear HL19; have HL19 := n_; clear n_; have n_ := Lib.hid (below_then HB.out HB.out.size HD.out); clear HB; have HB := n_; clear n_; clear hbox hg hz HX HA HW HN0 HN1 HD; refine Hold.go ?_))
          refine Hold.of ?_
          have HE0 := Lib.hid (sameroot_eq a b (by omega) (by omega))
          have HE1 := Lib.hid (same_eq [⟨no, es, gone⟩] (by simp) (fun c hc => by simp at hc; subst hc; simp; omega))
          have HE2 := Lib.hid (sameroot_eq r1 r2 (by have := HZ.out.1; omega) (by have := HZ.out.2.1; omega))
          have HE3 := Lib.hid (same_eq r3 (by have := HZ.out.2.2.1; omega) HZ.out.2.2.2)
          have HE4 := Lib.hid (sameroot_eq q1 q2 (by have := HY.out.1; omega) (by have := HY.out.2.1; omega))
          have HE5 := Lib.hid (same_eq q3 (by have := HY.out.2.2.1; omega) HY.out.2.2.2)
          have hq4 : (r4 == r4) = true := beq_self_eq_true r4
          have hq5 : (q4 == q4) = true := beq_self_eq_true q4
          obtain ⟨q70, q71⟩ := HG7.out.cells
          obtain ⟨q30, q31⟩ := HG3.out.cells
          go_wp2_with (first | (go_at_call 21; with_reducible refine (cobwebref11_SameRoot.calls _ _ _ _ _ _ _ _ _ _ _ _ _ true _ HG7.out.r0 HG7.out.h0 HG7.out.r1 HG7.out.h1 HG3.out.r0 HG3.out.h0 HG3.out.r1 HG3.out.h1 HE0.out).mono ?_; rintro e w32 ⟨rfl, hb⟩; have n_ := Lib.hid (below_then HB.out HB.out.size hb); clear HB; have HB := n_; clear n_; have n_ := Lib.hid (HG3.out.below hb); clear HG3; have HG3 := n_; clear n_; have n_ := Lib.hid (HG4.out.below hb); clear HG4; have HG4 := n_; clear n_; have n_ := Lib.hid (HG7.out.below hb); clear HG7; have HG7 := n_; clear n_; have n_ := Lib.hid (HG8.out.below hb); clear HG8; have HG8 := n_; clear n_; have n_ := Lib.hid (HL10.out.below hb); clear HL10; have HL10 := n_; clear n_; have n_ := Lib.hid (HG9.out.below hb); clear HG9; have HG9 := n_; clear n_; have n_ := Lib.hid (HL13.out.below hb); clear HL13; have HL13 := n_; clear n_; have n_ := Lib.hid (HG12.out.below hb); clear HG12; have HG12 := n_; clear n_; have n_ := Lib.hid (HL16.out.below hb); clear HL16; have HL16 := n_; clear n_; have n_ := Lib.hid (HG15.out.below hb); clear HG15; have HG15 := n_; clear n_; have n_ := Lib.hid (HL19.out.below hb); clear HL19; have HL19 := n_; clear n_; have n_ := Lib.hid (HG18.out.below hb); clear HG18; have HG18 := n_; clear n_; clear hb; clear q70 q71 q30 q31; obtain ⟨q80, q81, q82⟩ := HG8.out.cells; obtain ⟨q40, q41, q42⟩ := HG4.out.cells) | ((with_reducible refine gate_dst (N := 92) rfl ?_); refine gate_guard (by rfl) ?_; refine alloc_event ?hg (N := 92) ?hd (fun g => .slice (some ⟨g, 0, none⟩) 1 1) (.cells #[.int .i64 no, .slice B3 es.length d3, .bool gone] 28 (0, 0)) ?hr ?_; (case hd => rfl); (case hg => rfl); (case hr => first | (go_simp; done) | (go_simp; rfl)); intro g92 hg w33 hbox hb; have HL92 := Lib.hid (LeavesAt.one (no := no) (gone := gone) hbox (Kd.C_below HG8.out.r hb) HG8.out.h); have n_ := Lib.hid (HG3.out.below hb); clear HG3; have HG3 := n_; clear n_; have n_ := Lib.hid (HG4.out.below hb); clear HG4; have HG4 := n_; clear n_; have n_ := Lib.hid (HG7.out.below hb); clear HG7; have HG7 := n_; clear n_; have n_ := Lib.hid (HG8.out.below hb); clear HG8; have HG8 := n_; clear n_; have n_ := Lib.hid (HL10.out.below hb); clear HL10; have HL10 := n_; clear n_; have n_ := Lib.hid (HG9.out.below hb); clear HG9; have HG9 := n_; clear n_; have n_ := Lib.hid (HL13.out.below hb); clear HL13; have HL13 := n_; clear n_; have n_ := Lib.hid (HG12.out.below hb); clear HG12; have HG12 := n_; clear n_; have n_ := Lib.hid (HL16.out.below hb); clear HL16; have HL16 := n_; clear n_; have n_ := Lib.hid (HG15.out.below hb); clear HG15; have HG15 := n_; clear n_; have n_ := Lib.hid (HL19.out.below hb); clear HL19; have HL19 := n_; clear n_; have n_ := Lib.hid (HG18.out.below hb); clear HG18; have HG18 := n_; clear n_; have n_ := Lib.hid (below_then HB.out HB.out.size hb); clear HB; have HB := n_; clear n_; clear q80 q81 q82 q40 q41 q42; obtain ⟨q40, q41, q42⟩ := HG4.out.cells; clear hg hbox hb) | ((with_reducible refine gate_dst (N := 94) rfl ?_); refine gate_guard (by rfl) ?_; refine alloc_event ?hg (N := 94) ?hd (fun g => .slice (some ⟨g, 0, none⟩) 1 1) (.cells #[.int .i64 no, .slice A3 es.length c3, .bool gone] 28 (0, 0)) ?hr ?_; (case hd => rfl); (case hg => rfl); (case hr => first | (go_simp; done) | (go_simp; rfl)); intro g94 hg w34 hbox hb; have HL94 := Lib.hid (LeavesAt.one (no := no) (gone := gone) hbox (Kd.C_below HG4.out.r hb) HG4.out.h); have n_ := Lib.hid (HG3.out.below hb); clear HG3; have HG3 := n_; clear n_; have n_ := Lib.hid (HG4.out.below hb); clear HG4; have HG4 := n_; clear n_; have n_ := Lib.hid (HG7.out.below hb); clear HG7; have HG7 := n_; clear n_; have n_ := Lib.hid (HG8.out.below hb); clear HG8; have HG8 := n_; clear n_; have n_ := Lib.hid (HL10.out.below hb); clear HL10; have HL10 := n_; clear n_; have n_ := Lib.hid (HG9.out.below hb); clear HG9; have HG9 := n_; clear n_; have n_ := Lib.hid (HL13.out.below hb); clear HL13; have HL13 := n_; clear n_; have n_ := Lib.hid (HG12.out.below hb); clear HG12; have HG12 := n_; clear n_; have n_ := Lib.hid (HL16.out.below hb); clear HL16; have HL16 := n_; clear n_; have n_ := Lib.hid (HG15.out.below hb); clear HG15; have HG15 := n_; clear n_; have n_ := Lib.hid (HL19.out.below hb); clear HL19; have HL19 := n_; clear n_; have n_ := Lib.hid (HG18.out.below hb); clear HG18; have HG18 := n_; clear n_; have n_ := Lib.hid (HL92.out.below hb); clear HL92; have HL92 := n_; clear n_; have n_ := Lib.hid (below_then HB.out HB.out.size hb); clear HB; have HB := n_; clear n_; clear q40 q41 q42; clear hg hbox hb) | (go_at_call 22; refine (cobwebref11_Same.calls _ _ _ _ _ _ _ true _ HL92.out.r HL92.out.h HL94.out.r HL94.out.h HE1.out).mono ?_; rintro e w35 ⟨rfl, hb⟩; have n_ := Lib.hid (below_then HB.out HB.out.size hb); clear HB; have HB := n_; clear n_; have n_ := Lib.hid (HG3.out.below hb); clear HG3; have HG3 := n_; clear n_; have n_ := Lib.hid (HG4.out.below hb); clear HG4; have HG4 := n_; clear n_; have n_ := Lib.hid (HG7.out.below hb); clear HG7; have HG7 := n_; clear n_; have n_ := Lib.hid (HG8.out.below hb); clear HG8; have HG8 := n_; clear n_; have n_ := Lib.hid (HL10.out.below hb); clear HL10; have HL10 := n_; clear n_; have n_ := Lib.hid (HG9.out.below hb); clear HG9; have HG9 := n_; clear n_; have n_ := Lib.hid (HL13.out.below hb); clear HL13; have HL13 := n_; clear n_; have n_ := Lib.hid (HG12.out.below hb); clear HG12; have HG12 := n_; clear n_; have n_ := Lib.hid (HL16.out.below hb); clear HL16; have HL16 := n_; clear n_; have n_ := Lib.hid (HG15.out.below hb); clear HG15; have HG15 := n_; clear n_; have n_ := Lib.hid (HL19.out.below hb); clear HL19; have HL19 := n_; clear n_; have n_ := Lib.hid (HG18.out.below hb); clear HG18; have HG18 := n_; clear n_; clear hb; refine Hold.go ?_))
          refine Hold.of ?_
          clear HL92 HL94
          obtain ⟨qa0, qa1⟩ := HG9.out.cells
          obtain ⟨qb0, qb1⟩ := HG15.out.cells
          go_wp2_with (first | (go_at_call 21; with_reducible refine (cobwebref11_SameRoot.calls _ _ _ _ _ _ _ _ _ _ _ _ _ true _ HG9.out.r0 HG9.out.h0 HG9.out.r1 HG9.out.h1 HG15.out.r0 HG15.out.h0 HG15.out.r1 HG15.out.h1 HE2.out).mono ?_; rintro e w36 ⟨rfl, hb⟩; have n_ := Lib.hid (below_then HB.out HB.out.size hb); clear HB; have HB := n_; clear n_; have n_ := Lib.hid (HG3.out.below hb); clear HG3; have HG3 := n_; clear n_; have n_ := Lib.hid (HG4.out.below hb); clear HG4; have HG4 := n_; clear n_; have n_ := Lib.hid (HG7.out.below hb); clear HG7; have HG7 := n_; clear n_; have n_ := Lib.hid (HG8.out.below hb); clear HG8; have HG8 := n_; clear n_; have n_ := Lib.hid (HL10.out.below hb); clear HL10; have HL10 := n_; clear n_; have n_ := Lib.hid (HG9.out.below hb); clear HG9; have HG9 := n_; clear n_; have n_ := Lib.hid (HL13.out.below hb); clear HL13; have HL13 := n_; clear n_; have n_ := Lib.hid (HG12.out.below hb); clear HG12; have HG12 := n_; clear n_; have n_ := Lib.hid (HL16.out.below hb); clear HL16; have HL16 := n_; clear n_; have n_ := Lib.hid (HG15.out.below hb); clear HG15; have HG15 := n_; clear n_; have n_ := Lib.hid (HL19.out.below hb); clear HL19; have HL19 := n_; clear n_; have n_ := Lib.hid (HG18.out.below hb); clear HG18; have HG18 := n_; clear n_; clear hb; clear qa0 qa1 qb0 qb1) | (go_at_call 22; with_reducible refine (cobwebref11_Same.calls _ _ _ _ _ _ _ true _ HL10.out.r HL10.out.h HL16.out.r HL16.out.h HE3.out).mono ?_; rintro e w37 ⟨rfl, hb⟩; have n_ := Lib.hid (below_then HB.out HB.out.size hb); clear HB; have HB := n_; clear n_; have n_ := Lib.hid (HG3.out.below hb); clear HG3; have HG3 := n_; clear n_; have n_ := Lib.hid (HG4.out.below hb); clear HG4; have HG4 := n_; clear n_; have n_ := Lib.hid (HG7.out.below hb); clear HG7; have HG7 := n_; clear n_; have n_ := Lib.hid (HG8.out.below hb); clear HG8; have HG8 := n_; clear n_; have n_ := Lib.hid (HL10.out.below hb); clear HL10; have HL10 := n_; clear n_; have n_ := Lib.hid (HG9.out.below hb); clear HG9; have HG9 := n_; clear n_; have n_ := Lib.hid (HL13.out.below hb); clear HL13; have HL13 := n_; clear n_; have n_ := Lib.hid (HG12.out.below hb); clear HG12; have HG12 := n_; clear n_; have n_ := Lib.hid (HL16.out.below hb); clear HL16; have HL16 := n_; clear n_; have n_ := Lib.hid (HG15.out.below hb); clear HG15; have HG15 := n_; clear n_; have n_ := Lib.hid (HL19.out.below hb); clear HL19; have HL19 := n_; clear n_; have n_ := Lib.hid (HG18.out.below hb); clear HG18; have HG18 := n_; clear n_; clear hb; obtain ⟨qa0, qa1⟩ := HG12.out.cells; obtain ⟨qb0, qb1⟩ := HG18.out.cells) | (go_at_call 21; with_reducible refine (cobwebref11_SameRoot.calls _ _ _ _ _ _ _ _ _ _ _ _ _ true _ HG12.out.r0 HG12.out.h0 HG12.out.r1 HG12.out.h1 HG18.out.r0 HG18.out.h0 HG18.out.r1 HG18.out.h1 HE4.out).mono ?_; rintro e w38 ⟨rfl, hb⟩; have n_ := Lib.hid (below_then HB.out HB.out.size hb); clear HB; have HB := n_; clear n_; have n_ := Lib.hid (HG3.out.below hb); clear HG3; have HG3 := n_; clear n_; have n_ := Lib.hid (HG4.out.below hb); clear HG4; have HG4 := n_; clear n_; have n_ := Lib.hid (HG7.out.below hb); clear HG7; have HG7 := n_; clear n_; have n_ := Lib.hid (HG8.out.below hb); clear HG8; have HG8 := n_; clear n_; have n_ := Lib.hid (HL10.out.below hb); clear HL10; have HL10 := n_; clear n_; have n_ := Lib.hid (HG9.out.below hb); clear HG9; have HG9 := n_; clear n_; have n_ := Lib.hid (HL13.out.below hb); clear HL13; have HL13 := n_; clear n_; have n_ := Lib.hid (HG12.out.below hb); clear HG12; have HG12 := n_; clear n_; have n_ := Lib.hid (HL16.out.below hb); clear HL16; have HL16 := n_; clear n_; have n_ := Lib.hid (HG15.out.below hb); clear HG15; have HG15 := n_; clear n_; have n_ := Lib.hid (HL19.out.below hb); clear HL19; have HL19 := n_; clear n_; have n_ := Lib.hid (HG18.out.below hb); clear HG18; have HG18 := n_; clear n_; clear hb; clear qa0 qa1 qb0 qb1) | (go_at_call 22; with_reducible refine (cobwebref11_Same.calls _ _ _ _ _ _ _ true _ HL13.out.r HL13.out.h HL19.out.r HL19.out.h HE5.out).mono ?_; rintro e w39 ⟨rfl, hb⟩; have n_ := Lib.hid (below_then HB.out HB.out.size hb); clear HB; have HB := n_; clear n_; have n_ := Lib.hid (HG3.out.below hb); clear HG3; have HG3 := n_; clear n_; have n_ := Lib.hid (HG4.out.below hb); clear HG4; have HG4 := n_; clear n_; have n_ := Lib.hid (HG7.out.below hb); clear HG7; have HG7 := n_; clear n_; have n_ := Lib.hid (HG8.out.below hb); clear HG8; have HG8 := n_; clear n_; have n_ := Lib.hid (HL10.out.below hb); clear HL10; have HL10 := n_; clear n_; have n_ := Lib.hid (HG9.out.below hb); clear HG9; have HG9 := n_; clear n_; have n_ := Lib.hid (HL13.out.below hb); clear HL13; have HL13 := n_; clear n_; have n_ := Lib.hid (HG12.out.below hb); clear HG12; have HG12 := n_; clear n_; have n_ := Lib.hid (HL16.out.below hb); clear HL16; have HL16 := n_; clear n_; have n_ := Lib.hid (HG15.out.below hb); clear HG15; have HG15 := n_; clear n_; have n_ := Lib.hid (HL19.out.below hb); clear HL19; have HL19 := n_; clear n_; have n_ := Lib.hid (HG18.out.below hb); clear HG18; have HG18 := n_; clear n_; clear hb; skip))
          go_ret
          exact ⟨rfl, HB.out⟩
end Go.Proofs.Ytneagipmllgejaa.PL
end
