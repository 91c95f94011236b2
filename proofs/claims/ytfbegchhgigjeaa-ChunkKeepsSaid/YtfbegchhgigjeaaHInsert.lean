/- chunk.Insert: the contract in the printer's form. -/
import Derived.Test.YtfbegchhgigjeaaC6
import Derived.Test.YtfbegchhgigjeaaHSpec
import Derived.Test.YtfbegchhgigjeaaHIns
import Derived.Test.YtfbegchhgigjeaaHClone
import Derived.Test.YtfbegchhgigjeaaHFresh
import Derived.Test.YtfbegchhgigjeaaHEv
namespace Go.Proofs.Ytfbegchhgigjeaa.PC
open Go.RowKit Go.Proofs.YtfbegchhgigjeaaW.PrintWords Go.Proofs.YtfbegchhgigjeaaW.PrintLast Go.Proofs.YtfbegchhgigjeaaW.PrintMore Go.Proofs.YtfbegchhgigjeaaH
set_option linter.unusedVariables false
set_option linter.unusedSimpArgs false

def insertAt (l0 : List S39) (id : Int) (c : S39) : Option (List S39 × Int) :=
  if (putAt id c.f1).length ≤ 4 then some ([⟨c.f0, putAt id c.f1, c.f2, c.f3⟩], 0)
  else (chunk_fresh.f l0).bind fun no => some ([⟨c.f0, (putAt id c.f1).take 3, no, c.f3⟩, ⟨no, (putAt id c.f1).drop 3, c.f2, false⟩], 0)
def chunk_Insert.f (l0 : List S39) (id : Int) : Option (List S39 × Int) :=
  if l0.length ≤ 100000 ∧ (idsOf l0).length ≤ 100000 then
    if rightGo true (-1) [] l0 = false then some ([], 100)
    else if id < 0 ∨ id ≥ 1099511627776 then some ([], 2)
    else if (idsOf l0).contains id = true then some ([], 31)
    else if l0.length = 0 then some ([⟨0, [id], 0, false⟩], 0)
    else insertAt l0 id (rd_T39 l0 (placeGo id 0 0 l0))
  else none

def InsPost (w : World) (r1 : List S39) (r2 : Int) (e : Ending) (w' : World) : Prop :=
  ∃ v0_ : Value, e = .returned (.tuple #[v0_, .int .i64 r2]) ∧ Kd.N k39 39 w' w.heap.size (fun k_ => (w.heap.size ≤ k_)) v0_ r1 ∧ Below w.heap.size w w'

set_option maxHeartbeats 1000000 in
set_option maxRecDepth 100000 in
theorem ins_wrong (A0 : Option Addr) (c0 : Nat) (l0 : List S39) (a1 : Int) (w : World) (hr0 : Kd.C k39 w A0 l0.length l0) (hc0 : l0.length ≤ c0) (hf : chunk_Right.f l0 = some false) : Calls Try.prog 9 #[.slice A0 l0.length c0, .int .i64 a1] w (InsPost w [] 100) := by
  have HC := Lib.hid (chunk_Right.calls A0 c0 l0 false w hr0 hc0 hf)
  clear hr0 hf hc0
  go_enter Try.func9, Try.ntmps9
  go_wp2_with (go_at_call 11; refine HC.out.mono ?_; rintro e w1 ⟨rfl, hb⟩)
  go_ret2
  exact ⟨_, rfl, Kd.N_nil _ _ _ _ _, ‹_›⟩
set_option maxHeartbeats 1000000 in
set_option maxRecDepth 100000 in
theorem ins_arg (A0 : Option Addr) (c0 : Nat) (l0 : List S39) (a1 : Int) (w : World) (hr0 : Kd.C k39 w A0 l0.length l0) (hc0 : l0.length ≤ c0) (hf : chunk_Right.f l0 = some true) (ha : a1 < 0 ∨ a1 ≥ 1099511627776) : Calls Try.prog 9 #[.slice A0 l0.length c0, .int .i64 a1] w (InsPost w [] 2) := by
  have HC := Lib.hid (chunk_Right.calls A0 c0 l0 true w hr0 hc0 hf)
  clear hr0 hf hc0
  by_cases h1 : a1 < 0
  · have h1b : decide (a1 < 0) = true := decide_eq_true h1
    clear h1 ha
    go_enter Try.func9, Try.ntmps9
    go_wp2_with (go_at_call 11; refine HC.out.mono ?_; rintro e w1 ⟨rfl, hb⟩)
    go_ret2
    exact ⟨_, rfl, Kd.N_nil _ _ _ _ _, ‹_›⟩
  · have h2 : 1099511627776 ≤ a1 := by omega
    have h1b : decide (a1 < 0) = false := decide_eq_false h1
    have h2b : decide (1099511627776 ≤ a1) = true := decide_eq_true h2
    clear ha
    go_enter Try.func9, Try.ntmps9
    go_wp2_with (go_at_call 11; refine HC.out.mono ?_; rintro e w1 ⟨rfl, hb⟩)
    go_ret2
    exact ⟨_, rfl, Kd.N_nil _ _ _ _ _, ‹_›⟩
/-- What holds ahead of the search for a place. -/
structure Pre (A0 : Option Addr) (c0 : Nat) (l0 : List S39) (a1 : Int) (w : World) : Prop where
  r : Kd.C k39 w A0 l0.length l0
  c : l0.length ≤ c0
  right : chunk_Right.f l0 = some true
  lo : 0 ≤ a1
  hi : a1 < 1099511627776
  len : l0.length ≤ 100000
  ids : (idsOf l0).length ≤ 100000
set_option maxHeartbeats 1000000 in
set_option maxRecDepth 100000 in
theorem ins_twice (A0 : Option Addr) (c0 : Nat) (l0 : List S39) (a1 : Int) (w : World) (H : Pre A0 c0 l0 a1 w) (hk : (idsOf l0).contains a1 = true) : Calls Try.prog 9 #[.slice A0 l0.length c0, .int .i64 a1] w (InsPost w [] 31) := by
  have HC := Lib.hid (chunk_Right.calls A0 c0 l0 true w H.r H.c H.right)
  have hlo := H.lo
  have hhi := H.hi
  have HP := Lib.hid H
  have HK := Lib.hid hk
  clear H hk
  go_enter Try.func9, Try.ntmps9
  go_wp2_with (first | (go_at_call 11; refine HC.out.mono ?_; rintro e w1 ⟨rfl, hb⟩; have HB1 := Lib.hid hb; clear hb) | (go_at_call 13; refine (chunk_IDs.calls (l0.length + 1) A0 c0 l0 (idsOf l0) _ (Kd.C_below HP.out.r HB1.out) HP.out.c (IDs_spec l0 (by have := HP.out.len; omega) (by have := HP.out.ids; omega) _ (by omega))).mono ?_; rintro e w2 ⟨v2, rfl, hv, hb⟩; obtain ⟨A2, c2, rfl, hl2, hC2⟩ := Kd.R_reads hv; have HB2 := Lib.hid (below_then HB1.out HB1.out.size hb); have HC2 := Lib.hid hC2; have HL2 := Lib.hid hl2; clear hv hb hC2 hl2) | (go_at_call 27; refine (slices_Contains_int_int.calls ((idsOf l0).length + 1) A2 c2 (idsOf l0) a1 true _ HC2.out HL2.out (by rw [Contains_spec _ _ (by have := HP.out.ids; omega) _ (by omega), HK.out])).mono ?_; rintro e w3 ⟨rfl, hd⟩; have HB3 := Lib.hid (below_then HB2.out HB2.out.size hd.below); clear hd))
  go_ret2
  exact ⟨_, rfl, Kd.N_nil _ _ _ _ _, HB3.out⟩
set_option maxHeartbeats 1000000 in
set_option maxRecDepth 100000 in
theorem ins_first (A0 : Option Addr) (c0 : Nat) (l0 : List S39) (a1 : Int) (w : World) (H : Pre A0 c0 l0 a1 w) (hk : (idsOf l0).contains a1 = false) (h0 : l0.length = 0) : Calls Try.prog 9 #[.slice A0 l0.length c0, .int .i64 a1] w (InsPost w [⟨0, [a1], 0, false⟩] 0) := by
  have HC := Lib.hid (chunk_Right.calls A0 c0 l0 true w H.r H.c H.right)
  have hlo := H.lo
  have hhi := H.hi
  have HP := Lib.hid H
  have HK := Lib.hid hk
  have h0b : ((l0.length : Int) == 0) = true := by rw [h0]; rfl
  have h0c : (l0.length == 0) = true := by rw [h0]; rfl
  clear H hk h0
  go_enter Try.func9, Try.ntmps9
  go_wp2_with (first | (go_at_call 11; refine HC.out.mono ?_; rintro e w1 ⟨rfl, hb⟩; have HB1 := Lib.hid hb; clear hb) | (go_at_call 13; refine (chunk_IDs.calls (l0.length + 1) A0 c0 l0 (idsOf l0) _ (Kd.C_below HP.out.r HB1.out) HP.out.c (IDs_spec l0 (by have := HP.out.len; omega) (by have := HP.out.ids; omega) _ (by omega))).mono ?_; rintro e w2 ⟨v2, rfl, hv, hb⟩; obtain ⟨A2, c2, rfl, hl2, hC2⟩ := Kd.R_reads hv; have HB2 := Lib.hid (below_then HB1.out HB1.out.size hb); have HC2 := Lib.hid hC2; have HL2 := Lib.hid hl2; clear hv hb hC2 hl2) | (go_at_call 27; refine (slices_Contains_int_int.calls ((idsOf l0).length + 1) A2 c2 (idsOf l0) a1 false _ HC2.out HL2.out (by rw [Contains_spec _ _ (by have := HP.out.ids; omega) _ (by omega), HK.out])).mono ?_; rintro e w3 ⟨rfl, hd⟩; have HB3 := Lib.hid (below_then HB2.out HB2.out.size hd.below); clear hd))
  go_ret2
  refine ⟨_, rfl, N_one39 ⟨0, [a1], 0, false⟩ (heap_alloc2_new w3 _ _) (by have := HB3.out.size; omega) (by have := HB3.out.size; omega) (Nat.le_refl _) ?_, below_alloc (below_alloc HB3.out _) _⟩
  have hown := (own_lit_of (enc := Value.int .i64) w3 w.heap.size 3 [a1] HB3.out.size (by simp)).alloc (.cells #[.int .i64 0, .slice (some ⟨w3.heap.size, 0, none⟩) 1 1, .int .i64 0, .bool false] 39)
  exact (F_row (xs := [a1]) (ok := fun k => w.heap.size ≤ k ∧ k ≠ w3.heap.size + 1) (Kd.R_of_own (h1 := fun _ => rfl) hown (fun k hk => by simp [Value.ownBlock] at hk; subst hk; exact ⟨HB3.out.size, by omega⟩))).2.2

theorem own_eq (c : S39) (h : c.f1.length ≤ 1000000) : chunk_own.f c.f0 c.f1 c.f2 c.f3 = some (c.f0, c.f1, c.f2, c.f3) := by
  unfold chunk_own.f slices_Clone_int_int.f
  rw [if_pos (by omega)]
  rfl
theorem putAt_len (x : Int) (l : List Int) : (putAt x l).length = l.length + 1 := by
  unfold putAt
  have h := congrArg List.length (List.takeWhile_append_dropWhile (p := fun y => decide (y < x)) (l := l))
  simp only [List.length_append, List.length_cons] at h ⊢
  omega
theorem drop_own {W : World} {base : Nat} {ok : Nat → Prop} {A : Option Addr} {c m : Nat} {xs : List Int} (h : Kd.R (Kd.int .i64) 3 W base ok (.slice A xs.length c) xs) (hm : m ≤ xs.length) (hc : ¬ (c = m)) : Kd.C (Kd.int .i64) W (A.map (·.add (m * 1))) (xs.drop m).length (xs.drop m) := by
  have hcd := Kd.C_drop (Kd.R_reads' h).2.2 hm (Kd.R_reads' h).2.1
  rw [if_neg hc] at hcd
  exact hcd
/-- Clone's contract, the length said in whatever form. -/
theorem clone_at {A : Option Addr} {n c : Nat} {xs : List Int} {w : World} (hn : n = xs.length) (hr : Kd.C (Kd.int .i64) w A xs.length xs) (hc : n ≤ c) (hl : xs.length ≤ 1000000) :
    Calls Try.prog 33 #[.slice A n c] w fun e w' => ∃ A' c', e = .returned (.slice A' n c') ∧ n ≤ c' ∧ Kd.R (Kd.int .i64) 3 w' w.heap.size (fun _ => True) (.slice A' n c') xs ∧ Below w.heap.size w w' := by
  subst hn
  refine (slices_Clone_int_int.calls A c xs xs w hr hc (if_pos (by omega))).mono ?_
  rintro e w1 ⟨v, rfl, hv, hb⟩
  obtain ⟨A1, c1, rfl, h1, _⟩ := Kd.R_reads hv
  exact ⟨A1, c1, rfl, h1, hv, hb⟩
set_option maxHeartbeats 4000000 in
set_option maxRecDepth 100000 in
theorem ins_main (A0 : Option Addr) (c0 : Nat) (l0 : List S39) (a1 : Int) (w : World) (H : Pre A0 c0 l0 a1 w) (hk : (idsOf l0).contains a1 = false) (h0 : l0.length ≠ 0) (r1 : List S39) (r2 : Int) (h : insertAt l0 a1 (rd_T39 l0 (placeGo a1 0 0 l0)) = some (r1, r2)) :
    Calls Try.prog 9 #[.slice A0 l0.length c0, .int .i64 a1] w (InsPost w r1 r2) := by
  have hu39 := Try.underlying39
  have HC := Lib.hid (chunk_Right.calls A0 c0 l0 true w H.r H.c H.right)
  have hlo := H.lo
  have hhi := H.hi
  have HP := Lib.hid H
  have HK := Lib.hid hk
  obtain ⟨hp0, hp1⟩ := placeGo_range a1 l0 0 0 l0.length (by omega) (by omega) (by omega) (by omega)
  obtain ⟨pn, hpn⟩ := Int.eq_ofNat_of_zero_le hp0
  have HPL := Lib.hid (show chunk_place.f (l0.length + 1) l0 a1 = some (pn : Int) by rw [place_spec l0 a1 (by have := H.len; omega) _ (by omega), hpn])
  have hpl : pn < l0.length := by omega
  obtain ⟨ad, A1, c1, e1, hx0, hx1, hx2, hx3, hl1, hi1⟩ := at_T39 H.r (pn : Int) (by omega) (by omega)
  have hmem : rd_T39 l0 (pn : Int) ∈ l0 := by simp [rd_T39, List.getD_eq_getElem?_getD, List.getElem?_eq_getElem hpl]
  obtain ⟨hs1, hs2, hs3⟩ := rightGo_mem (by have := H.right; unfold chunk_Right.f at this; exact Option.some.inj this) _ hmem
  rw [hpn] at h
  have HH := Lib.hid h
  have HE := Lib.hid e1
  simp only [Int.toNat_natCast] at hx0 hx1 hx2 hx3
  generalize rd_T39 l0 (pn : Int) = c at *
  have HX0 := Lib.hid hx0
  have HX1 := Lib.hid hx1
  have HX2 := Lib.hid hx2
  have HX3 := Lib.hid hx3
  have HL1 := Lib.hid hl1
  have HI1 := Lib.hid hi1
  obtain ⟨p, b, hbs, hat⟩ := search_spec c.f1 a1 hs1 (by omega) (c.f1.length + 1) (by omega)
  have HBS := Lib.hid hbs
  have HAT := Lib.hid hat
  have hpl2 := hat.le
  have HS3 := Lib.hid hs3
  have hb0 : ((l0.length : Int) == 0) = false := beq_eq_false_iff_ne.mpr (by omega)
  have hb1 : (l0.length == 0) = false := beq_eq_false_iff_ne.mpr h0
  have hm64 : l0.length ≤ 100000 := H.len
  clear H hk h0 hp0 hp1 hpn h e1 hx0 hx1 hx2 hx3 hl1 hi1 hs1 hs3 hmem hbs hat
  subst HE
  go_enter Try.func9, Try.ntmps9
  go_wp2_with (first | (go_at_call 11; refine HC.out.mono ?_; rintro e w1 ⟨rfl, hb⟩; have HB1 := Lib.hid hb; clear hb) | (go_at_call 13; refine (chunk_IDs.calls (l0.length + 1) _ c0 l0 (idsOf l0) _ (Kd.C_below HP.out.r HB1.out) HP.out.c (IDs_spec l0 (by have := HP.out.len; omega) (by have := HP.out.ids; omega) _ (by omega))).mono ?_; rintro e w2 ⟨v2, rfl, hv, hb⟩; obtain ⟨A2, c2, rfl, hl2, hC2⟩ := Kd.R_reads hv; have HB2 := Lib.hid (below_then HB1.out HB1.out.size hb); have HC2 := Lib.hid hC2; have HL2 := Lib.hid hl2; clear hv hb hC2 hl2) | (go_at_call 27; refine (slices_Contains_int_int.calls ((idsOf l0).length + 1) A2 c2 (idsOf l0) a1 false _ HC2.out HL2.out (by rw [Contains_spec _ _ (by have := HP.out.ids; omega) _ (by omega), HK.out])).mono ?_; rintro e w3 ⟨rfl, hd⟩; have HB3 := Lib.hid (below_then HB2.out HB2.out.size hd.below); clear hd) | (go_at_call 29; refine (chunk_place.calls (l0.length + 1) _ c0 l0 a1 (pn : Int) _ (Kd.C_below HP.out.r HB3.out) HP.out.c HPL.out).mono ?_; rintro e w4 ⟨rfl, hb⟩; have HB4 := Lib.hid (below_then HB3.out HB3.out.size hb); clear hb; have hx0 := pw_cell_below HB4.out HX0.out; have hx1 := pw_cell_below HB4.out HX1.out; have hx2 := pw_cell_below HB4.out HX2.out; have hx3 := pw_cell_below HB4.out HX3.out) | (go_at_call 28; refine (chunk_own.calls c.f0 A1 c1 c.f1 c.f2 c.f3 c.f0 c.f1 c.f2 c.f3 _ (Kd.C_below HI1.out HB4.out) HL1.out (own_eq c (by omega))).mono ?_; rintro e w5 ⟨v5, rfl, hv, hb⟩; obtain ⟨A5, c5, rfl, hl5, hC5⟩ := Kd.R_reads hv; have HV5 := Lib.hid (Kd.R_lower hv HB4.out.size); have HB5 := Lib.hid (below_then HB4.out HB4.out.size hb); clear hv hb hC5 hl5 hx0 hx1 hx2 hx3) | ((with_reducible refine gate_dst (N := 6) rfl ?_); refine box_event ?hg (N := 6) ?hd (cs := #[.int .i64 0, .slice none 0 0, .int .i64 0, .bool false]) (t := 39) ?hr ?_; (case hd => rfl); (case hg => rfl); (case hr => first | (go_simp; done) | (go_simp; rfl)); intro g6 hg w6 hbox hb; have HG6 := Lib.hid (show w.heap.size ≤ g6 by rw [hg]; exact HB5.out.size); have HX6 := Lib.hid hbox; have HV6 := Lib.hid (Kd.R_below HV5.out hb); have HB6 := Lib.hid (below_then HB5.out HB5.out.size hb); clear hg hbox hb) | ((with_reducible refine gate_store (t := 39) (p := 6) rfl ?_); refine store_row rfl rfl rfl g6 _ 39 [.int .i64 c.f0, .slice A5 c.f1.length c5, .int .i64 c.f2, .bool c.f3] rfl (.agg #[.int .i64 c.f0, .slice A5 c.f1.length c5, .int .i64 c.f2, .bool c.f3]) rfl rfl HX6.out rfl (by kernel_rfl) (one39 (.bool true) _ (.bool true) rfl _ _ _) ?_; intro w7 hbox hg hz; have HX7 := Lib.hid hbox; have HV7 := Lib.hid (Kd.R_grown1 HV6.out rfl hg (Kd.R_ne HV6.out HX6.out (by decide))); have HB7 := Lib.hid (below_own HB6.out hg HG6.out HB6.out.size); clear hbox hg hz; refine Hold.go ?_))
  have hc7 : w7.cell? ⟨g6, 1, none⟩ = some (.slice A5 c.f1.length c5) := (blk_cell HX7.out 1).trans rfl
  refine Hold.of ?_
  go_wp2_with (first | (go_at_call 30; refine (slices_BinarySearch_int_int.calls (c.f1.length + 1) A5 c5 c.f1 a1 (p : Int) b _ (Kd.F_now (F_row HV7.out).2.2) (F_row HV7.out).2.1 HBS.out).mono ?_; rintro e w8 ⟨rfl, hd⟩; have HX8 := Lib.hid (blk_below HX7.out hd.below); have HV8 := Lib.hid (Kd.R_below HV7.out hd.below); have HB8 := Lib.hid (below_then HB7.out HB7.out.size hd.below); clear hd; have hc8 : w8.cell? ⟨g6, 1, none⟩ = some (.slice A5 c.f1.length c5) := (blk_cell HX8.out 1).trans rfl) | ((with_reducible refine gate_dst (N := 52) rfl ?_); refine alloc_event ?hg (N := 52) ?hd (fun g => .slice (some ⟨g, 0, none⟩) 1 1) (.cells #[.int .i64 a1] 3 (0, 0)) ?hr ?_; (case hd => rfl); (case hg => rfl); (case hr => first | (go_simp; done) | (go_simp; rfl)); intro g9 hg w9 hbox hb; have HG9 := Lib.hid hg; have HX9 := Lib.hid hbox; have HY9 := Lib.hid (blk_below HX8.out hb); have HV9 := Lib.hid (Kd.R_below HV8.out hb); have HB9 := Lib.hid (below_then HB8.out HB8.out.size hb); clear hg hbox hb hc8) | (go_at_call 31; refine (insI_own w.heap.size (fun _ => True) _ c.f1 p a1 g9 w _ HV9.out HB9.out hpl2 HX9.out (fun e_ => by have h1 := Kd.R_lt HV8.out _ e_.symm; have h2 := HG9.out; omega) HB9.out.size (by omega)).mono ?_; rintro e w10 ⟨v10, rfl, hv, hb, hg⟩; obtain ⟨A10, c10, rfl⟩ := Kd.R_slice hv; rw [putAt_eq HAT.out] at hv ⊢; have HY10 := Lib.hid (blk_grown HY9.out hg (Kd.R_ne HV9.out HY9.out (by decide))); have HV10 := Lib.hid hv; have HB10 := Lib.hid hb; clear hv hb hg) | ((with_reducible refine gate_store (t := 22) (p := 54) rfl ?_); refine store_cell rfl rfl rfl g6 1 _ 39 rfl (.slice A10 (putAt a1 c.f1).length c10) rfl rfl HY10.out (by simp) (by kernel_rfl) rfl ?_; intro w11 hbox hg hz; have HX11 := Lib.hid (show w11.heap[g6]? = some (.cells #[.int .i64 c.f0, .slice A10 (putAt a1 c.f1).length c10, .int .i64 c.f2, .bool c.f3] 39 (0, 0)) from hbox); have HV11 := Lib.hid (Kd.R_grown1 HV10.out rfl hg (Kd.R_ne HV10.out HY10.out (by decide))); have HB11 := Lib.hid (below_own HB10.out hg HG6.out HB10.out.size); clear hbox hg hz; refine Hold.go ?_))
  refine Hold.of ?_
  have HH2 := HH.out
  clear HH
  unfold insertAt at HH2
  have hi6 : (putAt a1 c.f1).length ≤ 1000000 := by have h1 : (putAt a1 c.f1).length = c.f1.length + 1 := putAt_len _ _; omega
  generalize putAt a1 c.f1 = ids at *
  have HH := Lib.hid HH2
  clear HX8 HV8 HB8 HB7 HV7 HX7 HB6 HV6 HX6 HB5 HV5 HX9 HY9 HV9 HB9 HY10 HV10 HB10 hc7 HC2 HL2 HB2 HB3 HPL HBS HAT HL1 HI1 HX0 HX1 HX2 HX3 HC HH2
  have hcap : ids.length ≤ c10 := (F_row HV11.out).2.1
  have hf0 : w11.cell? ⟨g6, 0, none⟩ = some (.int .i64 c.f0) := (blk_cell HX11.out 0).trans rfl
  have hf1 : w11.cell? ⟨g6, 1, none⟩ = some (.slice A10 ids.length c10) := (blk_cell HX11.out 1).trans rfl
  have hf2 : w11.cell? ⟨g6, 2, none⟩ = some (.int .i64 c.f2) := (blk_cell HX11.out 2).trans rfl
  have hf3 : w11.cell? ⟨g6, 3, none⟩ = some (.bool c.f3) := (blk_cell HX11.out 3).trans rfl
  by_cases hlen : ids.length ≤ 4
  · have h := HH.out
    rw [if_pos hlen] at h
    simp only [Option.some.injEq, Prod.mk.injEq] at h
    obtain ⟨rfl, rfl⟩ := h
    have hlb : decide ((ids.length : Int) ≤ 4) = true := decide_eq_true (by omega)
    have hlc : decide (ids.length ≤ 4) = true := decide_eq_true hlen
    clear hlen HH
    go_wp2
    go_ret2
    have hF : Kd.F (Kd.int .i64) w11 (fun k => w.heap.size ≤ k) A10 ids.length ids := (F_row (Kd.R_mono (Kd.R_bound HV11.out) (fun k hk => hk.2.1))).2.2
    exact ⟨_, rfl, N_one39 ⟨c.f0, ids, c.f2, c.f3⟩ (heap_alloc_new w11 _) HB11.out.size HB11.out.size hcap (Kd.F_alloc (Kd.F_elderB hF _ (Nat.le_refl _)) _), below_alloc HB11.out _⟩
  · have h := HH.out
    rw [if_neg hlen] at h
    obtain ⟨no, hfr, h⟩ := Option.bind_eq_some_iff.mp h
    have HF := Lib.hid hfr
    simp only [Option.some.injEq, Prod.mk.injEq] at h
    obtain ⟨rfl, rfl⟩ := h
    have hlb : decide ((ids.length : Int) ≤ 4) = false := decide_eq_false (by omega)
    have hlc : decide (ids.length ≤ 4) = false := decide_eq_false hlen
    obtain ⟨ad6, e6, _⟩ := Kd.at_int (Kd.R_reads' HV11.out).2.2 0 (by omega) (by omega)
    cases e6
    have hi1 : (3 : Int) ≤ (ids.length : Int) := by omega
    have hi2 : (ids.length : Int) ≤ (c10 : Int) := by omega
    have hi3 : 3 ≤ ids.length := by omega
    have hi4 : ¬ (c10 = 3) := by omega
    have hi5 : (c10 == 3) = false := beq_eq_false_iff_ne.mpr hi4
    clear hfr HH h
    have HQ := Lib.hid (show Inv1 w g6 _ _ _ w11.drew from Inv1.drew ⟨HB11.out, HX11.out, HV11.out⟩)
    clear hlen HX11 HV11 HB11
    go_upto_region 14 with (fail)
    clear hlb hlc
    go_cut [9] (fun v9 wc => ∃ (g9 : Nat) (Ac : Option Addr) (cc : Nat), v9 = .pointer (some ⟨g9, 0, none⟩) ∧ g9 ≠ g6 ∧ w.heap.size ≤ g9 ∧ (ids.length - 3) ≤ cc ∧ Aside0 (Inv1 w g6 #[.int .i64 c.f0, .slice (some ad6) ids.length c10, .int .i64 c.f2, .bool c.f3] (.slice (some ad6) ids.length c10) ids wc) ∧ Aside0 (wc.heap[g9]? = some (.cells #[.int .i64 no, .slice Ac (ids.length - 3) cc, .int .i64 c.f2, .bool false] 39 (0, 0))) ∧ Aside0 (Kd.R (Kd.int .i64) 3 wc w.heap.size (fun _ => True) (.slice Ac (ids.length - 3) cc) (ids.drop 3)))
    case first =>
      go_region_held3 (fun w' => w'.cell? ⟨g6, 1, none⟩ = some (.slice (some ad6) ids.length c10) ∧ w'.cell? ⟨g6, 2, none⟩ = some (.int .i64 c.f2)) (first | (with_reducible exact ⟨Inv1.c1 HQ.out, Inv1.c2 HQ.out⟩) | (with_reducible exact ⟨Inv1.c1 (Inv1.alloc HQ.out _), Inv1.c2 (Inv1.alloc HQ.out _)⟩) | (with_reducible exact ⟨four_far hn9.out (Inv1.c1 HQ.out), four_far hn9.out (Inv1.c2 HQ.out)⟩)) (first | (go_at_call 32; refine (chunk_fresh.calls _ c0 l0 no _ (Kd.C_below HP.out.r (by first | exact HQ.out.1 | exact below_alloc HQ.out.1 _)) HP.out.c HF.out).mono ?_; rintro e wf ⟨rfl, hb⟩; (first | (have m_ := Lib.hid (blk_below HX9.out hb); clear HX9; have HX9 := m_; clear m_) | (have hnb := new_box_drew HQ.out hb; obtain ⟨hnb1, hnb2, hnb3⟩ := hnb; have HX9 := Lib.hid hnb1; have hn9 := Lib.hid hnb2; have hw9 := Lib.hid hnb3; clear hnb1 hnb2 hnb3) | (have hnb := new_box HQ.out hb; obtain ⟨hnb1, hnb2, hnb3⟩ := hnb; have HX9 := Lib.hid hnb1; have hn9 := Lib.hid hnb2; have hw9 := Lib.hid hnb3; clear hnb1 hnb2 hnb3) | skip); have n_ := Lib.hid ((by first | exact Inv1.step HQ.out hb | exact Inv1.step (Inv1.alloc HQ.out _) hb) : Inv1 w g6 #[.int .i64 c.f0, .slice (some ad6) ids.length c10, .int .i64 c.f2, .bool c.f3] (.slice (some ad6) ids.length c10) ids wf); clear HQ; have HQ := n_; clear n_; clear hb) | (go_at_call 33; refine (clone_at (xs := ids.drop 3) (by simp) (by first | exact drop_own HQ.out.2.2 hi3 hi4 | exact drop_own (Kd.R_alloc HQ.out.2.2 _) hi3 hi4) (by omega) (by simp; omega)).mono ?_; rintro e wd ⟨Ac, cc, rfl, hcc, hv, hb⟩; have HVc := Lib.hid (Kd.R_lower hv (Below.size (w := w) (by first | exact HQ.out.1 | exact below_alloc HQ.out.1 _))); (first | (have m_ := Lib.hid (blk_below HX9.out hb); clear HX9; have HX9 := m_; clear m_) | (have hnb := new_box_drew HQ.out hb; obtain ⟨hnb1, hnb2, hnb3⟩ := hnb; have HX9 := Lib.hid hnb1; have hn9 := Lib.hid hnb2; have hw9 := Lib.hid hnb3; clear hnb1 hnb2 hnb3) | (have hnb := new_box HQ.out hb; obtain ⟨hnb1, hnb2, hnb3⟩ := hnb; have HX9 := Lib.hid hnb1; have hn9 := Lib.hid hnb2; have hw9 := Lib.hid hnb3; clear hnb1 hnb2 hnb3) | skip); have n_ := Lib.hid ((by first | exact Inv1.step HQ.out hb | exact Inv1.step (Inv1.alloc HQ.out _) hb) : Inv1 w g6 #[.int .i64 c.f0, .slice (some ad6) ids.length c10, .int .i64 c.f2, .bool c.f3] (.slice (some ad6) ids.length c10) ids wd); clear HQ; have HQ := n_; clear n_; (first | (have HY9 := box_facts HX9.out; obtain ⟨hcz0, hcz1, hcz2, hcz3, hfz0, hfz1, hfz2, hfz3⟩ := HY9) | skip); clear hb hv))
      all_goals (go_wp2; go_meet; first | exact ⟨_, Ac, cc, rfl, Nat.ne_of_gt (blk_lt HQ.out.2.1), HQ.out.1.size, hcc, ⟨Inv1.alloc HQ.out _⟩, ⟨heap_alloc_new _ _⟩, ⟨Kd.R_alloc HVc.out _⟩⟩ | exact ⟨_, Ac, cc, rfl, hn9.out, hw9.out, hcc, ⟨(four_sets HQ.out HX9.out hn9.out hw9.out HVc.out).1⟩, ⟨(four_sets HQ.out HX9.out hn9.out hw9.out HVc.out).2.1⟩, ⟨(four_sets HQ.out HX9.out hn9.out hw9.out HVc.out).2.2⟩⟩)
    case rest =>
      clear HQ
      obtain ⟨g9, Ac, cc, rfl, hn9, hw9, hcc, HQ, HX9, HVc⟩ := hcut
      have hq1 : wc.cell? ⟨g6, 1, none⟩ = some (.slice (some ad6) ids.length c10) := (blk_cell HQ.out.2.1 1).trans rfl
      have hq2 : wc.cell? ⟨g6, 2, none⟩ = some (.int .i64 c.f2) := (blk_cell HQ.out.2.1 2).trans rfl
      have hq9 : wc.cell? ⟨g9, 0, none⟩ = some (.int .i64 no) := (blk_cell HX9.out 0).trans rfl
      have hz1 := blk_frozen HQ.out.2.1 1
      have hz2 := blk_frozen HQ.out.2.1 2
      clear hf0 hf1 hf2 hf3
      have hi7 : (3 : Int) ≤ (c10 : Int) := by omega
      go_upto_region 15 with (fail)
      go_cut [] (fun wd => wd.heap[g6]? = some (.cells #[.int .i64 c.f0, .slice (some ad6) 3 3, .int .i64 no, .bool c.f3] 39 (0, 0)) ∧ wd.heap[g9]? = some (.cells #[.int .i64 no, .slice Ac (ids.length - 3) cc, .int .i64 c.f2, .bool false] 39 (0, 0)) ∧ Below w.heap.size w wd ∧ Kd.R (Kd.int .i64) 3 wd w.heap.size (fun _ => True) (.slice Ac (ids.length - 3) cc) (ids.drop 3) ∧ Kd.R (Kd.int .i64) 3 wd w.heap.size (fun _ => True) (.slice (some ad6) ids.length c10) ids)
      case first =>
        go_region
        all_goals (go_wp2; go_meet; exact two_sets HQ.out HX9.out hn9 HG6.out HVc.out)
      case rest =>
        clear hq1 hq2 hq9 hz1 hz2 HQ HX9 HVc
        obtain ⟨hx6, hx9, hb, hv, hr⟩ := hcut
        have HX6 := Lib.hid hx6
        have HY9 := Lib.hid hx9
        have HB := Lib.hid hb
        have HV := Lib.hid hv
        have HR := Lib.hid hr
        have p0 : wc.cell? ⟨g6, 0, none⟩ = some (.int .i64 c.f0) := (blk_cell hx6 0).trans rfl
        have p1 : wc.cell? ⟨g6, 1, none⟩ = some (.slice (some ad6) 3 3) := (blk_cell hx6 1).trans rfl
        have p2 : wc.cell? ⟨g6, 2, none⟩ = some (.int .i64 no) := (blk_cell hx6 2).trans rfl
        have p3 : wc.cell? ⟨g6, 3, none⟩ = some (.bool c.f3) := (blk_cell hx6 3).trans rfl
        have q0 : wc.cell? ⟨g9, 0, none⟩ = some (.int .i64 no) := (blk_cell hx9 0).trans rfl
        have q1 : wc.cell? ⟨g9, 1, none⟩ = some (.slice Ac (ids.length - 3) cc) := (blk_cell hx9 1).trans rfl
        have q2 : wc.cell? ⟨g9, 2, none⟩ = some (.int .i64 c.f2) := (blk_cell hx9 2).trans rfl
        have q3 : wc.cell? ⟨g9, 3, none⟩ = some (.bool false) := (blk_cell hx9 3).trans rfl
        clear hx6 hx9 hb hv hr
        go_wp2
        go_ret2
        have hL : (ids.drop 3).length = ids.length - 3 := List.length_drop
        have hT : (ids.take 3).length = 3 := by rw [List.length_take]; omega
        have hF : Kd.F (Kd.int .i64) wc (fun k => w.heap.size ≤ k) (some ad6) ids.length ids := (F_row (Kd.R_mono (Kd.R_bound HR.out) (fun k hk => hk.2.1))).2.2
        have hG : Kd.F (Kd.int .i64) wc (fun k => w.heap.size ≤ k) Ac (ids.drop 3).length (ids.drop 3) := (F_row (Kd.R_mono (Kd.R_bound HV.out) (fun k hk => hk.2.1))).2.2
        have hE := Kd.F_take (m := 3) hF hi3
        refine ⟨_, rfl, N_two39 ⟨c.f0, ids.take 3, no, c.f3⟩ ⟨no, ids.drop 3, c.f2, false⟩ (c1 := 3) (d1 := cc) ?_ HB.out.size HB.out.size (by simp only [hT]; exact Nat.le_refl _) (by simp only [hL]; exact hcc) (Kd.F_alloc (Kd.F_elderB hE _ (Nat.le_refl _)) _) (Kd.F_alloc (Kd.F_elderB hG _ (Nat.le_refl _)) _), below_alloc HB.out _⟩
        simp only [hL, hT]
        exact heap_alloc_new wc _
theorem chunk_Insert.calls (A0 : Option Addr) (c0 : Nat) (l0 : List S39) (a1 : Int) (r1 : List S39) (r2 : Int) (w : World) (hr0 : Kd.C k39 w A0 l0.length l0) (hc0 : l0.length ≤ c0) (h : chunk_Insert.f l0 a1 = some (r1, r2)) :
    Calls Try.prog 9 #[.slice A0 l0.length c0, .int .i64 a1] w fun e w' => ∃ v0_ : Value, e = .returned (.tuple #[v0_, .int .i64 r2]) ∧ Kd.N k39 39 w' w.heap.size (fun k_ => (w.heap.size ≤ k_)) v0_ r1 ∧ Below w.heap.size w w' := by
  show Calls Try.prog 9 _ w (InsPost w r1 r2)
  unfold chunk_Insert.f at h
  split at h
  · rename_i hlim
    split at h
    · rename_i hf
      simp only [Option.some.injEq, Prod.mk.injEq] at h
      obtain ⟨rfl, rfl⟩ := h
      exact ins_wrong A0 c0 l0 a1 w hr0 hc0 (congrArg some hf)
    · rename_i hf
      have hf2 : chunk_Right.f l0 = some true := congrArg some (by simpa using hf)
      split at h
      · rename_i ha
        simp only [Option.some.injEq, Prod.mk.injEq] at h
        obtain ⟨rfl, rfl⟩ := h
        exact ins_arg A0 c0 l0 a1 w hr0 hc0 hf2 ha
      · rename_i ha
        have HP : Pre A0 c0 l0 a1 w := ⟨hr0, hc0, hf2, by omega, by omega, hlim.1, hlim.2⟩
        split at h
        · rename_i hk
          simp only [Option.some.injEq, Prod.mk.injEq] at h
          obtain ⟨rfl, rfl⟩ := h
          exact ins_twice A0 c0 l0 a1 w HP hk
        · rename_i hk
          have hk2 : (idsOf l0).contains a1 = false := by simpa using hk
          split at h
          · rename_i h0
            simp only [Option.some.injEq, Prod.mk.injEq] at h
            obtain ⟨rfl, rfl⟩ := h
            exact ins_first A0 c0 l0 a1 w HP hk2 h0
          · rename_i h0
            exact ins_main A0 c0 l0 a1 w HP hk2 h0 r1 r2 h
  · cases h
end Go.Proofs.Ytfbegchhgigjeaa.PC
