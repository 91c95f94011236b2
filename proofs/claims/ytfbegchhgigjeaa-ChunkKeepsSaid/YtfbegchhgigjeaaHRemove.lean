/- chunk.Remove: the contract in the printer's form. -/
import Derived.Test.YtfbegchhgigjeaaHInsert
import Derived.Test.YtfbegchhgigjeaaHDel
namespace Go.Proofs.Ytfbegchhgigjeaa.PC
open Go.RowKit Go.Proofs.YtfbegchhgigjeaaW.PrintWords Go.Proofs.YtfbegchhgigjeaaW.PrintLast Go.Proofs.YtfbegchhgigjeaaW.PrintMore Go.Proofs.YtfbegchhgigjeaaH
set_option linter.unusedVariables false
set_option linter.unusedSimpArgs false

def without (id : Int) (l : List Int) : List Int := l.filter (fun x => !(x == id))
def removeAt (l0 : List S39) (id : Int) (at_ : Int) (c : S39) : List S39 × Int :=
  if 0 < (without id c.f1).length ∨ at_ = 0 then ([⟨c.f0, without id c.f1, c.f2, c.f3⟩], 0)
  else ([⟨(rd_T39 l0 (at_ - 1)).f0, (rd_T39 l0 (at_ - 1)).f1, c.f2, (rd_T39 l0 (at_ - 1)).f3⟩, ⟨c.f0, [], 0, true⟩], 0)
def chunk_Remove.f (l0 : List S39) (id : Int) : Option (List S39 × Int) :=
  if l0.length ≤ 100000 then
    if rightGo true (-1) [] l0 = false then some ([], 100)
    else if l0.length = 0 ∨ (rd_T39 l0 (placeGo id 0 0 l0)).f1.contains id = false then some ([], 101)
    else some (removeAt l0 id (placeGo id 0 0 l0) (rd_T39 l0 (placeGo id 0 0 l0)))
  else none
theorem box1 {W : World} {g : Nat} {v : Value} {t : TypeId} (h : W.heap[g]? = some (.cells #[v] t (0, 0))) : W.cell? ⟨g, 0, none⟩ = some v := (blk_cell h 0).trans rfl
/-- What holds ahead of the search for a place. -/
structure PreR (A0 : Option Addr) (c0 : Nat) (l0 : List S39) (a1 : Int) (w : World) : Prop where
  r : Kd.C k39 w A0 l0.length l0
  c : l0.length ≤ c0
  right : chunk_Right.f l0 = some true
  len : l0.length ≤ 100000

set_option maxHeartbeats 1000000 in
set_option maxRecDepth 100000 in
theorem rem_wrong (A0 : Option Addr) (c0 : Nat) (l0 : List S39) (a1 : Int) (w : World) (hr0 : Kd.C k39 w A0 l0.length l0) (hc0 : l0.length ≤ c0) (hf : chunk_Right.f l0 = some false) : Calls Try.prog 16 #[.slice A0 l0.length c0, .int .i64 a1] w (InsPost w [] 100) := by
  have HR := Lib.hid hr0
  have HF := Lib.hid hf
  clear hr0 hf
  go_enter Try.func16, Try.ntmps16
  go_wp2_with (first | ((with_reducible refine gate_dst (N := 3) rfl ?_); refine alloc_event ?hg (N := 3) ?hd (fun g => .pointer (some ⟨g, 0, none⟩)) (.cells #[.int .i64 a1] 3 (0, 0)) ?hr ?_; (case hd => rfl); (case hg => rfl); (case hr => first | (go_simp; done) | (go_simp; rfl)); intro gB hgB wB hboxB hbB; have HBB := Lib.hid hbB; clear hbB hgB hboxB) | (go_at_call 11; refine (chunk_Right.calls A0 c0 l0 false _ (Kd.C_below HR.out HBB.out) hc0 HF.out).mono ?_; rintro e w1 ⟨rfl, hb⟩; have HB1 := Lib.hid (below_then HBB.out HBB.out.size hb); clear hb))
  go_ret2
  exact ⟨_, rfl, Kd.N_nil _ _ _ _ _, HB1.out⟩
set_option maxHeartbeats 1000000 in
set_option maxRecDepth 100000 in
theorem rem_empty (A0 : Option Addr) (c0 : Nat) (l0 : List S39) (a1 : Int) (w : World) (H : PreR A0 c0 l0 a1 w) (h0 : l0.length = 0) : Calls Try.prog 16 #[.slice A0 l0.length c0, .int .i64 a1] w (InsPost w [] 101) := by
  obtain rfl : l0 = [] := List.eq_nil_of_length_eq_zero h0
  have HP := Lib.hid H
  have HPL := Lib.hid (show chunk_place.f 1 [] a1 = some 0 by rw [place_spec [] a1 (by simp) 1 (by simp)]; rfl)
  clear H h0
  go_enter Try.func16, Try.ntmps16
  go_upto_region 4 with (first | ((with_reducible refine gate_dst (N := 3) rfl ?_); refine alloc_event ?hg (N := 3) ?hd (fun g => .pointer (some ⟨g, 0, none⟩)) (.cells #[.int .i64 a1] 3 (0, 0)) ?hr ?_; (case hd => rfl); (case hg => rfl); (case hr => first | (go_simp; done) | (go_simp; rfl)); intro gB hgB wB hboxB hbB; have HBB := Lib.hid hbB; have HXB := Lib.hid hboxB; clear hbB hgB hboxB; have hBx : wB.cell? ⟨gB, 0, none⟩ = some (.int .i64 a1) := (blk_cell HXB.out 0).trans rfl) | (go_at_call 11; refine (chunk_Right.calls A0 c0 [] true _ (Kd.C_below HP.out.r HBB.out) HP.out.c HP.out.right).mono ?_; rintro e w1 ⟨rfl, hb⟩; have HX1 := Lib.hid (blk_below HXB.out hb); have HB1 := Lib.hid (below_then HBB.out HBB.out.size hb); clear hb hBx; have hBx : w1.cell? ⟨gB, 0, none⟩ = some (.int .i64 a1) := (blk_cell HX1.out 0).trans rfl) | (go_at_call 29; refine (chunk_place.calls 1 _ c0 [] a1 0 _ (Kd.C_below HP.out.r HB1.out) HP.out.c HPL.out).mono ?_; rintro e w2 ⟨rfl, hb⟩; have HB2 := Lib.hid (below_then HB1.out HB1.out.size hb); clear hb hBx))
  go_region
  all_goals (go_wp2; go_ret2; exact ⟨_, rfl, Kd.N_nil _ _ _ _ _, below_drew1 HB2.out⟩)

set_option maxHeartbeats 2000000 in
set_option maxRecDepth 100000 in
theorem rem_none (A0 : Option Addr) (c0 : Nat) (l0 : List S39) (a1 : Int) (w : World) (H : PreR A0 c0 l0 a1 w) (h0 : l0.length ≠ 0) (hk : (rd_T39 l0 (placeGo a1 0 0 l0)).f1.contains a1 = false) : Calls Try.prog 16 #[.slice A0 l0.length c0, .int .i64 a1] w (InsPost w [] 101) := by
  have HP := Lib.hid H
  have HK := Lib.hid hk
  obtain ⟨hp0, hp1⟩ := placeGo_range a1 l0 0 0 l0.length (by omega) (by omega) (by omega) (by omega)
  obtain ⟨pn, hpn⟩ := Int.eq_ofNat_of_zero_le hp0
  have HPL := Lib.hid (show chunk_place.f (l0.length + 1) l0 a1 = some (pn : Int) by rw [place_spec l0 a1 (by have := H.len; omega) _ (by omega), hpn])
  have hpl : pn < l0.length := by omega
  obtain ⟨ad, A1, c1, e1, hx0, hx1, hx2, hx3, hl1, hi1⟩ := at_T39 H.r (pn : Int) (by omega) (by omega)
  have hmem : rd_T39 l0 (pn : Int) ∈ l0 := by simp [rd_T39, List.getD_eq_getElem?_getD, List.getElem?_eq_getElem hpl]
  obtain ⟨hs1, hs2, hs3⟩ := rightGo_mem (by have := H.right; unfold chunk_Right.f at this; exact Option.some.inj this) _ hmem
  rw [hpn] at HK
  have HE := Lib.hid e1
  simp only [Int.toNat_natCast] at hx0 hx1 hx2 hx3
  generalize rd_T39 l0 (pn : Int) = c at *
  have HX0 := Lib.hid hx0
  have HX1 := Lib.hid hx1
  have HX2 := Lib.hid hx2
  have HX3 := Lib.hid hx3
  have HL1 := Lib.hid hl1
  have HI1 := Lib.hid hi1
  have HS3 := Lib.hid hs3
  have hm64 : l0.length ≤ 100000 := H.len
  have hge : decide ((l0.length : Int) ≤ (pn : Int)) = false := decide_eq_false (by omega)
  have hge2 : ¬ (l0.length ≤ pn) := by omega
  clear H hk h0 hp0 hp1 hpn e1 hx0 hx1 hx2 hx3 hl1 hi1 hs1 hs3 hmem
  subst HE
  go_enter Try.func16, Try.ntmps16
  go_upto_region 4 with (first | ((with_reducible refine gate_dst (N := 3) rfl ?_); refine alloc_event ?hg (N := 3) ?hd (fun g => .pointer (some ⟨g, 0, none⟩)) (.cells #[.int .i64 a1] 3 (0, 0)) ?hr ?_; (case hd => rfl); (case hg => rfl); (case hr => first | (go_simp; done) | (go_simp; rfl)); intro gB hgB wB hboxB hbB; have HGB := Lib.hid (show w.heap.size ≤ gB by omega); have HBB := Lib.hid hbB; have HXB := Lib.hid hboxB; clear hbB hgB hboxB; have hBx : wB.cell? ⟨gB, 0, none⟩ = some (.int .i64 a1) := (blk_cell HXB.out 0).trans rfl) | (go_at_call 11; refine (chunk_Right.calls _ c0 l0 true _ (Kd.C_below HP.out.r HBB.out) HP.out.c HP.out.right).mono ?_; rintro e w1 ⟨rfl, hb⟩; have m_ := Lib.hid (blk_below HXB.out hb); clear HXB; have HXB := m_; clear m_; have HB1 := Lib.hid (below_then HBB.out HBB.out.size hb); clear hb hBx; have hBx : w1.cell? ⟨gB, 0, none⟩ = some (.int .i64 a1) := (blk_cell HXB.out 0).trans rfl) | (go_at_call 29; refine (chunk_place.calls (l0.length + 1) _ c0 l0 a1 (pn : Int) _ (Kd.C_below HP.out.r HB1.out) HP.out.c HPL.out).mono ?_; rintro e w2 ⟨rfl, hb⟩; have m_ := Lib.hid (blk_below HXB.out hb); clear HXB; have HXB := m_; clear m_; have HB2 := Lib.hid (below_then HB1.out HB1.out.size hb); clear hb hBx; have hBx : w2.cell? ⟨gB, 0, none⟩ = some (.int .i64 a1) := (blk_cell HXB.out 0).trans rfl; have hy1 := pw_cell_below HB2.out HX1.out))
  have HBD := Lib.hid (below_drew1 HB2.out)
  have HXD := Lib.hid (show w2.drew.heap[gB]? = some (.cells #[.int .i64 a1] 3 (0, 0)) from HXB.out)
  clear HXB
  go_region_held3 (fun w' => w'.cell? ⟨gB, 0, none⟩ = some (.int .i64 a1) ∧ w'.cell? ⟨(ad.add (pn * 4)).block, (ad.add (pn * 4)).off + 1, none⟩ = some (.slice A1 c.f1.length c1)) (first | (with_reducible exact ⟨box1 HXD.out, pw_cell_below HBD.out HX1.out⟩) | (with_reducible exact ⟨box1 HXB.out, pw_cell_below HB5.out HX1.out⟩)) (first | (go_at_call 27; refine (slices_Contains_int_int.calls (c.f1.length + 1) A1 c1 c.f1 a1 false _ (Kd.C_below HI1.out HBD.out) HL1.out (by rw [Contains_spec _ _ (by omega) _ (by omega), HK.out])).mono ?_; rintro e w5 ⟨rfl, hd⟩; have HB5 := Lib.hid (below_then HBD.out HBD.out.size hd.below); have HXB := Lib.hid (blk_below HXD.out hd.below); clear hd))
  all_goals (go_wp2; go_ret2; exact ⟨_, rfl, Kd.N_nil _ _ _ _ _, HB5.out⟩)
set_option maxHeartbeats 2000000 in
set_option maxRecDepth 100000 in
theorem rem_main (A0 : Option Addr) (c0 : Nat) (l0 : List S39) (a1 : Int) (w : World) (H : PreR A0 c0 l0 a1 w) (h0 : l0.length ≠ 0) (hk : (rd_T39 l0 (placeGo a1 0 0 l0)).f1.contains a1 = true) (r1 : List S39) (r2 : Int) (h : removeAt l0 a1 (placeGo a1 0 0 l0) (rd_T39 l0 (placeGo a1 0 0 l0)) = (r1, r2)) :
    Calls Try.prog 16 #[.slice A0 l0.length c0, .int .i64 a1] w (InsPost w r1 r2) := by
  have HP := Lib.hid H
  have HK := Lib.hid hk
  have hu39 := Try.underlying39
  have h' := h
  obtain ⟨hp0, hp1⟩ := placeGo_range a1 l0 0 0 l0.length (by omega) (by omega) (by omega) (by omega)
  obtain ⟨pn, hpn⟩ := Int.eq_ofNat_of_zero_le hp0
  have HPL := Lib.hid (show chunk_place.f (l0.length + 1) l0 a1 = some (pn : Int) by rw [place_spec l0 a1 (by have := H.len; omega) _ (by omega), hpn])
  have hpl : pn < l0.length := by omega
  obtain ⟨ad, A1, c1, e1, hx0, hx1, hx2, hx3, hl1, hi1⟩ := at_T39 H.r (pn : Int) (by omega) (by omega)
  have hmem : rd_T39 l0 (pn : Int) ∈ l0 := by simp [rd_T39, List.getD_eq_getElem?_getD, List.getElem?_eq_getElem hpl]
  obtain ⟨hs1, hs2, hs3⟩ := rightGo_mem (by have := H.right; unfold chunk_Right.f at this; exact Option.some.inj this) _ hmem
  rw [hpn] at HK h'
  have HH := Lib.hid h'
  have HE := Lib.hid e1
  simp only [Int.toNat_natCast] at hx0 hx1 hx2 hx3
  generalize rd_T39 l0 (pn : Int) = c at *
  have HX0 := Lib.hid hx0
  have HX1 := Lib.hid hx1
  have HX2 := Lib.hid hx2
  have HX3 := Lib.hid hx3
  have HL1 := Lib.hid hl1
  have HI1 := Lib.hid hi1
  have HS3 := Lib.hid hs3
  have hm64 : l0.length ≤ 100000 := H.len
  have hge : decide ((l0.length : Int) ≤ (pn : Int)) = false := decide_eq_false (by omega)
  have hge2 : ¬ (l0.length ≤ pn) := by omega
  have hne := (fun (e : c.f1 = []) => by have := HK.out; rw [e] at this; simp at this : c.f1 ≠ [])
  have HNE := Lib.hid hne
  clear H hk h0 h h' hne hp0 hp1 hpn e1 hx0 hx1 hx2 hx3 hl1 hi1 hs1 hs3 hmem
  subst HE
  go_enter Try.func16, Try.ntmps16
  go_upto_region 4 with (first | ((with_reducible refine gate_dst (N := 3) rfl ?_); refine alloc_event ?hg (N := 3) ?hd (fun g => .pointer (some ⟨g, 0, none⟩)) (.cells #[.int .i64 a1] 3 (0, 0)) ?hr ?_; (case hd => rfl); (case hg => rfl); (case hr => first | (go_simp; done) | (go_simp; rfl)); intro gB hgB wB hboxB hbB; have HGB := Lib.hid (show w.heap.size ≤ gB by omega); have HBB := Lib.hid hbB; have HXB := Lib.hid hboxB; clear hbB hgB hboxB; have hBx : wB.cell? ⟨gB, 0, none⟩ = some (.int .i64 a1) := (blk_cell HXB.out 0).trans rfl) | (go_at_call 11; refine (chunk_Right.calls _ c0 l0 true _ (Kd.C_below HP.out.r HBB.out) HP.out.c HP.out.right).mono ?_; rintro e w1 ⟨rfl, hb⟩; have m_ := Lib.hid (blk_below HXB.out hb); clear HXB; have HXB := m_; clear m_; have HB1 := Lib.hid (below_then HBB.out HBB.out.size hb); clear hb hBx; have hBx : w1.cell? ⟨gB, 0, none⟩ = some (.int .i64 a1) := (blk_cell HXB.out 0).trans rfl) | (go_at_call 29; refine (chunk_place.calls (l0.length + 1) _ c0 l0 a1 (pn : Int) _ (Kd.C_below HP.out.r HB1.out) HP.out.c HPL.out).mono ?_; rintro e w2 ⟨rfl, hb⟩; have m_ := Lib.hid (blk_below HXB.out hb); clear HXB; have HXB := m_; clear m_; have HB2 := Lib.hid (below_then HB1.out HB1.out.size hb); clear hb hBx; have hBx : w2.cell? ⟨gB, 0, none⟩ = some (.int .i64 a1) := (blk_cell HXB.out 0).trans rfl; have hy1 := pw_cell_below HB2.out HX1.out))
  have HBD := Lib.hid (below_drew1 HB2.out)
  have HXD := Lib.hid (show w2.drew.heap[gB]? = some (.cells #[.int .i64 a1] 3 (0, 0)) from HXB.out)
  clear HXB
  go_region_held3 (fun w' => w'.cell? ⟨gB, 0, none⟩ = some (.int .i64 a1) ∧ w'.cell? ⟨(ad.add (pn * 4)).block, (ad.add (pn * 4)).off + 1, none⟩ = some (.slice A1 c.f1.length c1)) (first | (with_reducible exact ⟨box1 HXD.out, pw_cell_below HBD.out HX1.out⟩) | (with_reducible exact ⟨box1 HXB.out, pw_cell_below HB5.out HX1.out⟩)) (first | (go_at_call 27; refine (slices_Contains_int_int.calls (c.f1.length + 1) A1 c1 c.f1 a1 true _ (Kd.C_below HI1.out HBD.out) HL1.out (by rw [Contains_spec _ _ (by omega) _ (by omega), HK.out])).mono ?_; rintro e w5 ⟨rfl, hd⟩; have HB5 := Lib.hid (below_then HBD.out HBD.out.size hd.below); have HXB := Lib.hid (blk_below HXD.out hd.below); clear hd))
  have hz0 := pw_cell_below HB5.out HX0.out
  have hz1 := pw_cell_below HB5.out HX1.out
  have hz2 := pw_cell_below HB5.out HX2.out
  have hz3 := pw_cell_below HB5.out HX3.out
  go_wp2_with (first | (go_at_call 28; refine (chunk_own.calls c.f0 A1 c1 c.f1 c.f2 c.f3 c.f0 c.f1 c.f2 c.f3 _ (Kd.C_below HI1.out HB5.out) HL1.out (own_eq c (by omega))).mono ?_; rintro e w6 ⟨v6, rfl, hv, hb⟩; obtain ⟨A6, c6, rfl⟩ := Kd.R_slice hv; have HAB := Lib.hid (show some gB ≠ (Value.slice A6 c.f1.length c6).ownBlock from fun e_ => by have h1 := Kd.R_base hv gB e_.symm; have h2 := blk_lt HXB.out; omega); have HV6 := Lib.hid (Kd.R_lower hv HB5.out.size); have m_ := Lib.hid (blk_below HXB.out hb); clear HXB; have HXB := m_; clear m_; have HB6 := Lib.hid (below_then HB5.out HB5.out.size hb); clear hv hb hz0 hz1 hz2 hz3) | ((with_reducible refine gate_dst (N := 7) rfl ?_); refine box_event ?hg (N := 7) ?hd (cs := #[.int .i64 0, .slice none 0 0, .int .i64 0, .bool false]) (t := 39) ?hr ?_; (case hd => rfl); (case hg => rfl); (case hr => first | (go_simp; done) | (go_simp; rfl)); intro g7 hg w7 hbox hb; have HG7 := Lib.hid (show w.heap.size ≤ g7 by rw [hg]; exact HB6.out.size); have HGN := Lib.hid (show g7 ≠ gB by have := blk_lt HXB.out; omega); have HX7 := Lib.hid hbox; have HV7 := Lib.hid (Kd.R_below HV6.out hb); have HB7 := Lib.hid (below_then HB6.out HB6.out.size hb); have m_ := Lib.hid (blk_below HXB.out hb); clear HXB; have HXB := m_; clear m_; clear hg hbox hb) | ((with_reducible refine gate_store (t := 39) (p := 7) rfl ?_); refine store_row rfl rfl rfl g7 _ 39 [.int .i64 c.f0, .slice A6 c.f1.length c6, .int .i64 c.f2, .bool c.f3] rfl (.agg #[.int .i64 c.f0, .slice A6 c.f1.length c6, .int .i64 c.f2, .bool c.f3]) rfl rfl HX7.out rfl (by kernel_rfl) (one39 (.bool true) _ (.bool true) rfl _ _ _) ?_; intro w8 hbox hg hz; have HX8 := Lib.hid hbox; have HV8 := Lib.hid (Kd.R_grown1 HV7.out rfl hg (Kd.R_ne HV7.out HX7.out (by decide))); have HB8 := Lib.hid (below_own HB7.out hg HG7.out HB7.out.size); have m_ := Lib.hid (blk_grown HXB.out hg (fun e_ => HGN.out (by injection e_ with e_; exact e_.symm))); clear HXB; have HXB := m_; clear m_; clear hbox hg hz; have hc8 : w8.cell? ⟨g7, 1, none⟩ = some (.slice A6 c.f1.length c6) := (blk_cell HX8.out 1).trans rfl) | (go_at_call 35; refine (del_own w.heap.size _ c.f1 w _ a1 gB HV8.out HB8.out (box1 HXB.out) HAB.out HNE.out).mono ?_; rintro e w9 ⟨v9, rfl, hv, hb, hg⟩; change Kd.R (Kd.int .i64) 3 w9 w.heap.size (fun _ => True) v9 (without a1 c.f1) at hv; obtain ⟨A9, c9, rfl⟩ := Kd.R_slice hv; have HX9 := Lib.hid (blk_grown HX8.out hg (Kd.R_ne HV8.out HX8.out (by decide))); have HV9 := Lib.hid hv; have HB9 := Lib.hid hb; clear hv hb hg hc8) | ((with_reducible refine gate_store (t := 22) (p := 38) rfl ?_); refine store_cell rfl rfl rfl g7 1 _ 39 rfl (.slice A9 (without a1 c.f1).length c9) rfl rfl HX9.out (by simp) (by kernel_rfl) rfl ?_; intro w10 hbox hg hz; have HX10 := Lib.hid (show w10.heap[g7]? = some (.cells #[.int .i64 c.f0, .slice A9 (without a1 c.f1).length c9, .int .i64 c.f2, .bool c.f3] 39 (0, 0)) from hbox); have HV10 := Lib.hid (Kd.R_grown1 HV9.out rfl hg (Kd.R_ne HV9.out HX9.out (by decide))); have HB10 := Lib.hid (below_own HB9.out hg HG7.out HB9.out.size); clear hbox hg hz; refine Hold.go ?_))
  refine Hold.of ?_
  clear HV9 HX9 HB9 HV8 HX8 HB8 HV7 HX7 HB7 HV6 HB6 HXD HBD HXB HAB
  have HW := Lib.hid (show removeAt l0 a1 (pn : Int) c = (r1, r2) from HH.out)
  clear HH
  unfold removeAt at HW
  generalize without a1 c.f1 = ids at *
  have hcap : ids.length ≤ c9 := (F_row HV10.out).2.1
  have hf0 : w10.cell? ⟨g7, 0, none⟩ = some (.int .i64 c.f0) := (blk_cell HX10.out 0).trans rfl
  have hf1 : w10.cell? ⟨g7, 1, none⟩ = some (.slice A9 ids.length c9) := (blk_cell HX10.out 1).trans rfl
  have hf2 : w10.cell? ⟨g7, 2, none⟩ = some (.int .i64 c.f2) := (blk_cell HX10.out 2).trans rfl
  have hf3 : w10.cell? ⟨g7, 3, none⟩ = some (.bool c.f3) := (blk_cell HX10.out 3).trans rfl
  by_cases hk1 : 0 < ids.length
  · have h := HW.out
    rw [if_pos (.inl hk1)] at h
    simp only [Prod.mk.injEq] at h
    obtain ⟨rfl, rfl⟩ := h
    have hk2 : decide ((0 : Int) < (ids.length : Int)) = true := decide_eq_true (by omega)
    clear HW
    go_wp2
    go_ret2
    have hF : Kd.F (Kd.int .i64) w10 (fun k => w.heap.size ≤ k) A9 ids.length ids := (F_row (Kd.R_mono (Kd.R_bound HV10.out) (fun k hk => hk.2.1))).2.2
    exact ⟨_, rfl, N_one39 ⟨c.f0, ids, c.f2, c.f3⟩ (heap_alloc_new w10 _) HB10.out.size HB10.out.size hcap (Kd.F_alloc (Kd.F_elderB hF _ (Nat.le_refl _)) _), below_alloc HB10.out _⟩
  · by_cases hk3 : pn = 0
    · have h := HW.out
      rw [if_pos (.inr (by omega))] at h
      simp only [Prod.mk.injEq] at h
      obtain ⟨rfl, rfl⟩ := h
      have hk2 : decide ((0 : Int) < (ids.length : Int)) = false := decide_eq_false (by omega)
      have hk4 : ((pn : Int) == 0) = true := beq_iff_eq.mpr (by omega)
      clear HW
      go_wp2
      go_ret2
      have hF : Kd.F (Kd.int .i64) w10 (fun k => w.heap.size ≤ k) A9 ids.length ids := (F_row (Kd.R_mono (Kd.R_bound HV10.out) (fun k hk => hk.2.1))).2.2
      exact ⟨_, rfl, N_one39 ⟨c.f0, ids, c.f2, c.f3⟩ (heap_alloc_new w10 _) HB10.out.size HB10.out.size hcap (Kd.F_alloc (Kd.F_elderB hF _ (Nat.le_refl _)) _), below_alloc HB10.out _⟩
    · have h := HW.out
      rw [if_neg (by omega)] at h
      have hbmem : rd_T39 l0 ((pn : Int) - 1) ∈ l0 := by
        rw [show (pn : Int) - 1 = ((pn - 1 : Nat) : Int) by omega]
        simp [rd_T39, List.getD_eq_getElem?_getD, List.getElem?_eq_getElem (show pn - 1 < l0.length by omega)]
      obtain ⟨hb2, hb4, hb3⟩ := rightGo_mem (by have := HP.out.right; unfold chunk_Right.f at this; exact Option.some.inj this) _ hbmem
      obtain ⟨ad2, B1, d1, e2, hy0, hy1, hy2, hy3, hm1, hj1⟩ := at_T39 HP.out.r ((pn : Int) - 1) (by omega) (by omega)
      cases e2
      have hpm : ((pn : Int) - 1).toNat = pn - 1 := by omega
      rw [hpm] at hy0 hy1 hy2 hy3
      generalize rd_T39 l0 ((pn : Int) - 1) = b at *
      simp only [Prod.mk.injEq] at h
      obtain ⟨rfl, rfl⟩ := h
      replace hy0 := pw_cell_below HB10.out hy0
      replace hy1 := pw_cell_below HB10.out hy1
      replace hy2 := pw_cell_below HB10.out hy2
      replace hy3 := pw_cell_below HB10.out hy3
      have HM1 := Lib.hid hm1
      have HJ1 := Lib.hid hj1
      have hk2 : decide ((0 : Int) < (ids.length : Int)) = false := decide_eq_false (by omega)
      have hk4 : ((pn : Int) == 0) = false := beq_eq_false_iff_ne.mpr (by omega)
      have hi0 : (0 : Int) ≤ (pn : Int) - 1 := by omega
      have hi1 : (pn : Int) - 1 < (l0.length : Int) := by omega
      have hi2 : pn - 1 < l0.length := by omega
      have hi3 : wrap64 ((pn : Int) - 1) = (pn : Int) - 1 := by unfold wrap64; omega
      have hi4 : 1 ≤ pn := by omega
      clear HW hm1 hj1 hbmem hb2 hb3
      go_wp2_with (first | (go_at_call 28; refine (chunk_own.calls b.f0 B1 d1 b.f1 b.f2 b.f3 b.f0 b.f1 b.f2 b.f3 _ (Kd.C_below HJ1.out HB10.out) HM1.out (own_eq b (by omega))).mono ?_; rintro e w11 ⟨v11, rfl, hv, hb⟩; obtain ⟨A11, c11, rfl⟩ := Kd.R_slice hv; have HV11 := Lib.hid (Kd.R_lower hv HB10.out.size); have HX11 := Lib.hid (blk_below HX10.out hb); have HB11 := Lib.hid (below_then HB10.out HB10.out.size hb); clear hv hb hy0 hy1 hy2 hy3 hf0 hf1 hf2 hf3) | ((with_reducible refine gate_dst (N := 8) rfl ?_); refine box_event ?hg (N := 8) ?hd (cs := #[.int .i64 0, .slice none 0 0, .int .i64 0, .bool false]) (t := 39) ?hr ?_; (case hd => rfl); (case hg => rfl); (case hr => first | (go_simp; done) | (go_simp; rfl)); intro g8 hg w12 hbox hb; have HG8 := Lib.hid (show w.heap.size ≤ g8 by rw [hg]; exact HB11.out.size); have HGM := Lib.hid (show g7 ≠ g8 by have := blk_lt HX11.out; omega); have HY12 := Lib.hid hbox; have HX12 := Lib.hid (blk_below HX11.out hb); have HV12 := Lib.hid (Kd.R_below HV11.out hb); have HB12 := Lib.hid (below_then HB11.out HB11.out.size hb); clear hg hbox hb) | ((with_reducible refine gate_store (t := 39) (p := 8) rfl ?_); refine store_row rfl rfl rfl g8 _ 39 [.int .i64 b.f0, .slice A11 b.f1.length c11, .int .i64 b.f2, .bool b.f3] rfl (.agg #[.int .i64 b.f0, .slice A11 b.f1.length c11, .int .i64 b.f2, .bool b.f3]) rfl rfl HY12.out rfl (by kernel_rfl) (one39 (.bool true) _ (.bool true) rfl _ _ _) ?_; intro w13 hbox hg hz; have HY13 := Lib.hid hbox; have HV13 := Lib.hid (Kd.R_grown1 HV12.out rfl hg (Kd.R_ne HV12.out HY12.out (by decide))); have HB13 := Lib.hid (below_own HB12.out hg HG8.out HB12.out.size); have HX13 := Lib.hid (blk_grown HX12.out hg (fun e_ => HGM.out (by injection e_))); clear hbox hg hz; have he2 : w13.cell? ⟨g7, 2, none⟩ = some (.int .i64 c.f2) := (blk_cell HX13.out 2).trans rfl) | ((with_reducible refine gate_store (t := 3) (p := 57) rfl ?_); refine store_cell rfl rfl rfl g8 2 _ 39 rfl (.int .i64 c.f2) rfl rfl HY13.out (by simp) (by kernel_rfl) rfl ?_; intro w14 hbox hg hz; have hY14 : w14.heap[g8]? = some (.cells #[.int .i64 b.f0, .slice A11 b.f1.length c11, .int .i64 c.f2, .bool b.f3] 39 (0, 0)) := hbox; have HV14 := Lib.hid (Kd.R_grown1 HV13.out rfl hg (Kd.R_ne HV13.out HY13.out (by decide))); have HB14 := Lib.hid (below_own HB13.out hg HG8.out HB13.out.size); have hX14 := blk_grown HX13.out hg (fun e_ => HGM.out (by injection e_)); clear hbox hg hz he2; have he0 : w14.cell? ⟨g7, 0, none⟩ = some (.int .i64 c.f0) := (blk_cell hX14 0).trans rfl; have hg0 : w14.cell? ⟨g8, 0, none⟩ = some (.int .i64 b.f0) := (blk_cell hY14 0).trans rfl; have hg1 : w14.cell? ⟨g8, 1, none⟩ = some (.slice A11 b.f1.length c11) := (blk_cell hY14 1).trans rfl; have hg2 : w14.cell? ⟨g8, 2, none⟩ = some (.int .i64 c.f2) := (blk_cell hY14 2).trans rfl; have hg3 : w14.cell? ⟨g8, 3, none⟩ = some (.bool b.f3) := (blk_cell hY14 3).trans rfl; clear hY14 hX14))
      go_ret2
      have hF : Kd.F (Kd.int .i64) w14 (fun k => w.heap.size ≤ k) A11 b.f1.length b.f1 := (F_row (Kd.R_mono (Kd.R_bound HV14.out) (fun k hk => hk.2.1))).2.2
      have hE : Kd.F (Kd.int .i64) w14 (fun k => w.heap.size ≤ k) none ([] : List Int).length [] := Kd.F_nil _ _ _
      exact ⟨_, rfl, N_two39 ⟨b.f0, b.f1, c.f2, b.f3⟩ ⟨c.f0, [], 0, true⟩ (heap_alloc_new w14 _) HB14.out.size HB14.out.size (F_row HV14.out).2.1 (Nat.le_refl _) (Kd.F_alloc (Kd.F_elderB hF _ (Nat.le_refl _)) _) (Kd.F_alloc (Kd.F_elderB hE _ (Nat.le_refl _)) _), below_alloc HB14.out _⟩
theorem chunk_Remove.calls (A0 : Option Addr) (c0 : Nat) (l0 : List S39) (a1 : Int) (r1 : List S39) (r2 : Int) (w : World) (hr0 : Kd.C k39 w A0 l0.length l0) (hc0 : l0.length ≤ c0) (h : chunk_Remove.f l0 a1 = some (r1, r2)) :
    Calls Try.prog 16 #[.slice A0 l0.length c0, .int .i64 a1] w fun e w' => ∃ v0_ : Value, e = .returned (.tuple #[v0_, .int .i64 r2]) ∧ Kd.N k39 39 w' w.heap.size (fun k_ => (w.heap.size ≤ k_)) v0_ r1 ∧ Below w.heap.size w w' := by
  show Calls Try.prog 16 _ w (InsPost w r1 r2)
  unfold chunk_Remove.f at h
  split at h
  · rename_i hlim
    split at h
    · rename_i hf
      simp only [Option.some.injEq, Prod.mk.injEq] at h
      obtain ⟨rfl, rfl⟩ := h
      exact rem_wrong A0 c0 l0 a1 w hr0 hc0 (congrArg some hf)
    · rename_i hf
      have HP : PreR A0 c0 l0 a1 w := ⟨hr0, hc0, congrArg some (by simpa using hf), hlim⟩
      split at h
      · rename_i hk
        simp only [Option.some.injEq, Prod.mk.injEq] at h
        obtain ⟨rfl, rfl⟩ := h
        by_cases h0 : l0.length = 0
        · exact rem_empty A0 c0 l0 a1 w HP h0
        · exact rem_none A0 c0 l0 a1 w HP h0 (hk.resolve_left h0)
      · rename_i hk
        have h0 : l0.length ≠ 0 := fun e => hk (.inl e)
        have hk2 : (rd_T39 l0 (placeGo a1 0 0 l0)).f1.contains a1 = true := by
          cases hb : (rd_T39 l0 (placeGo a1 0 0 l0)).f1.contains a1
          · exact absurd (.inr hb) hk
          · rfl
        exact rem_main A0 c0 l0 a1 w HP h0 hk2 r1 r2 (Option.some.inj h)
  · cases h
end Go.Proofs.Ytfbegchhgigjeaa.PC
