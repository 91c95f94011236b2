/- chunk.Right: the contract in the printer's form. -/
import Derived.Test.YtfbegchhgigjeaaC0
import Derived.Test.YtfbegchhgigjeaaHKit
namespace Go.Proofs.Ytfbegchhgigjeaa.PC
open Go.RowKit Go.Proofs.YtfbegchhgigjeaaW.PrintWords Go.Proofs.YtfbegchhgigjeaaW.PrintLast Go.Proofs.YtfbegchhgigjeaaW.PrintMore Go.Proofs.YtfbegchhgigjeaaH
set_option linter.unusedVariables false
set_option linter.unusedSimpArgs false

/-- Ids that rise, from above a last one on: the new last one. -/
def rightIds (last : Int) : List Int → Option Int
  | [] => some last
  | x :: xs => if x ≤ last then none else rightIds x xs
def nextNo : List S39 → Int
  | [] => 0
  | d :: _ => d.f0
def wrongC (first : Bool) (seen : List Int) (nx : Int) (c : S39) : Bool :=
  c.f3 || c.f2 != nx || decide (c.f0 < 0) || seen.contains c.f0 || ((c.f0 == 0) != first) || decide (c.f1.length > 4) || (!first && c.f1.length == 0)
def rightGo (first : Bool) (last : Int) (seen : List Int) : List S39 → Bool
  | [] => true
  | c :: cs => if wrongC first seen (nextNo cs) c then false else match rightIds last c.f1 with
    | none => false
    | some last' => rightGo false last' (c.f0 :: seen) cs
def chunk_Right.f (l0 : List S39) : Option Bool := some (rightGo true (-1) [] l0)

theorem zeroB : ∀ W : World, (zeroValue 4).run Try.prog W = .ok (.bool false) W := fun W => by kernel_rfl

/-- What is seen, as the map has it. -/
def Seen (ps : List (Int × Value)) (seen : List Int) : Prop := ∀ k, lkp k ps = if seen.contains k then some (.bool true) else none
theorem Seen.nil : Seen [] [] := fun k => rfl
theorem Seen.put {ps : List (Int × Value)} {seen : List Int} (h : Seen ps seen) (k : Int) : Seen (putP k (.bool true) ps) (k :: seen) := fun j => by
  rw [lkp_putP, h j]
  by_cases e : k = j
  · subst e; simp
  · have : ¬ j = k := fun x => e x.symm
    simp [e, this]

theorem drop_cons {l0 : List S39} {i : Nat} (h : i < l0.length) : l0.drop i = rd_T39 l0 i :: l0.drop (i + 1) := by
  rw [List.drop_eq_getElem_cons h]
  congr 1
  simp [rd_T39, List.getD_eq_getElem?_getD, List.getElem?_eq_getElem h]

theorem drop_rd {l : List Int} {j : Nat} (h : j < l.length) : l.drop j = rd l (j : Int) :: l.drop (j + 1) := by
  rw [List.drop_eq_getElem_cons h]
  congr 1
  simp [rd, List.getD_eq_getElem?_getD, List.getElem?_eq_getElem h]
theorem izero (i : Nat) : ((i : Int) == 0) = decide (i = 0) := by rw [Bool.eq_iff_iff]; simp

set_option maxHeartbeats 2000000 in
set_option maxRecDepth 100000 in
theorem chunk_Right.calls (A0 : Option Addr) (c0 : Nat) (l0 : List (S39)) (r : Bool) (w : World) (hr0 : Kd.C k39 w A0 l0.length l0) (hc0 : l0.length ≤ c0) (h : chunk_Right.f l0 = some r) :
    Calls Try.prog 11 #[.slice A0 l0.length c0] w fun e w' => e = .returned (.bool r) ∧ Below w.heap.size w w' := by
  have hu39 := Try.underlying39
  have HR0 := Aside0.mk hr0
  have H0 := Aside0.mk (Option.some.inj h)
  have hm := hr0.2.1
  clear hr0 h hc0
  have hmm := @run_makeMap Try.prog
  go_enter Try.func11, Try.ntmps11
  go_wp2
  go_loopg [3, 13] l0.length (fun d v3 v13 w' => ∃ (last : Int) (i : Nat) (seen : List Int) (ps : List (Int × Value)), v3 = .int .i64 last ∧ v13 = .int .i64 i ∧ i ≤ l0.length ∧ Aside0 (d = l0.length - i) ∧ Aside0 (rightGo (decide (i = 0)) last seen (l0.drop i) = r) ∧ Aside0 (Seen ps seen) ∧ Aside0 (IMap w' w.heap.size ps) ∧ Aside0 (Below w.heap.size w w'))
  case atStart => exact ⟨-1, 0, [], [], rfl, rfl, Nat.zero_le _, ⟨rfl⟩, ⟨by simpa using H0.out⟩, ⟨Seen.nil⟩, ⟨IMap.made w⟩, ⟨below_alloc (Below.refl _ _) _⟩⟩
  case round =>
    obtain ⟨last, i, seen, ps, rfl, rfl, hi, HD, HA, HS, HM, HB⟩ := hrel
    by_cases hlt : i < l0.length
    · have hcons := Aside0.mk (drop_cons hlt)
      obtain ⟨ad, A1, c1, e1, hx0, hx1, hx2, hx3, hl1, hi1⟩ := at_T39 HR0.out (i : Int) (by omega) (by omega)
      subst e1
      replace hx0 := (HB.out.cell (World.block_lt_of_cell? w _ hx0)).trans hx0
      replace hx1 := (HB.out.cell (World.block_lt_of_cell? w _ hx1)).trans hx1
      replace hx2 := (HB.out.cell (World.block_lt_of_cell? w _ hx2)).trans hx2
      replace hx3 := (HB.out.cell (World.block_lt_of_cell? w _ hx3)).trans hx3
      simp only [Int.toNat_natCast] at hx0 hx1 hx2 hx3
      have HL := Aside0.mk hl1
      have HI := Aside0.mk hi1
      clear hl1 hi1
      obtain ⟨nx, HN, hnx⟩ : ∃ nx, Aside0 (nextNo (l0.drop (i + 1)) = nx) ∧ ((i + 1 < l0.length ∧ w.cell? (ad.add ((i + 1) * 4)) = some (.int .i64 nx)) ∨ (¬ i + 1 < l0.length ∧ nx = 0)) := by
        by_cases hn : i + 1 < l0.length
        · obtain ⟨ad2, B1, d1, e2, hy0, _⟩ := at_T39 HR0.out ((i + 1 : Nat) : Int) (by omega) (by omega)
          cases e2
          simp only [Int.toNat_natCast] at hy0
          exact ⟨_, ⟨by rw [drop_cons hn]; rfl⟩, .inl ⟨hn, hy0⟩⟩
        · exact ⟨0, ⟨by rw [List.drop_eq_nil_of_le (by omega)]; rfl⟩, .inr ⟨hn, rfl⟩⟩
      generalize rd_T39 l0 (i : Int) = c at *
      have HF : Aside0 (wrongC (decide (i = 0)) seen nx c = true → r = false) := ⟨fun hw => by have h1 := HA.out; rw [hcons.out] at h1; simp only [rightGo, HN.out, hw, if_true] at h1; exact h1.symm⟩
      have HG : Aside0 (wrongC (decide (i = 0)) seen nx c = false → (match rightIds last c.f1 with | none => false | some l' => rightGo false l' (c.f0 :: seen) (l0.drop (i + 1))) = r) := ⟨fun hw => by have h1 := HA.out; rw [hcons.out] at h1; simpa only [rightGo, HN.out, hw, Bool.false_eq_true, if_false] using h1⟩
      clear HA hcons HN H0
      go_wp2_with (first | ((with_reducible refine gate_dst (N := 6) rfl ?_); refine box_event ?hg (N := 6) ?hd (cs := #[.int .i64 0, .slice none 0 0, .int .i64 0, .bool false]) (t := 39) ?hr ?_; (case hd => rfl); (case hg => rfl); (case hr => first | (go_simp; done) | (go_simp; rfl)); intro g hg w1 hbox hb; have HG1 := Aside0.mk hg; have HX1 := Aside0.mk hbox; have HB1 := Aside0.mk hb; clear hg hbox hb) | ((with_reducible refine gate_store (t := 39) (p := 6) rfl ?_); refine store_row rfl rfl rfl g _ 39 [.int .i64 c.f0, .slice A1 c.f1.length c1, .int .i64 c.f2, .bool c.f3] rfl (.agg #[.int .i64 c.f0, .slice A1 c.f1.length c1, .int .i64 c.f2, .bool c.f3]) rfl rfl HX1.out rfl (by kernel_rfl) ?h1 ?_; (case h1 => intro q hq; simp at hq; rcases hq with rfl | rfl | rfl | rfl <;> rfl); intro w2 hbox2 hg2 hz2; refine Hold.go ?_))
      have hgw : w.heap.size < g := by rw [HG1.out]; exact HM.out.lt
      have hcb0 : w2.cell? ⟨g, 0, none⟩ = some (.int .i64 c.f0) := (blk_cell hbox2 0).trans rfl
      have hcb1 : w2.cell? ⟨g, 1, none⟩ = some (.slice A1 c.f1.length c1) := (blk_cell hbox2 1).trans rfl
      have hcb2 : w2.cell? ⟨g, 2, none⟩ = some (.int .i64 c.f2) := (blk_cell hbox2 2).trans rfl
      have hcb3 : w2.cell? ⟨g, 3, none⟩ = some (.bool c.f3) := (blk_cell hbox2 3).trans rfl
      have HMB := Aside0.mk ((HM.out.below HB1.out).of_block (hg2.block _ (HM.out.below HB1.out).lt (fun e => by injection e with e; omega)))
      have HBB := Aside0.mk (below_own (below_then HB.out HB.out.size HB1.out) hg2 (Nat.le_of_lt hgw) (Nat.le_trans HB.out.size HB1.out.size))
      have HX2 := Aside0.mk hbox2
      have HGW := Aside0.mk hgw
      clear hbox2 hg2 hz2 hx0 hx1 hx2 hx3 hgw HX1
      rcases hnx with ⟨hn, hy0⟩ | ⟨hn, rfl⟩
      · have hnb : decide ((i : Int) + 1 < (l0.length : Int)) = true := by simp; omega
        replace hy0 := (HBB.out.cell (World.block_lt_of_cell? w _ hy0)).trans hy0
        by_cases b1 : c.f3 = true
        · skip
          have hr : r = false := HF.out (by unfold wrongC; simp [b1])
          subst hr
          refine Hold.of ?_
          go_wp2_with ((at_lookup; refine gate_guard (by rfl) ?_; refine wpList_lookup_imap rfl _ _ 58 false rfl 3 4 Try.underlying58 Try.underlying3 (.bool false) (zeroB _) w.heap.size ps rfl HMB.out c.f0 rfl ?_))
          go_ret
          exact ⟨rfl, HBB.out⟩
        replace b1 : c.f3 = false := by simpa using b1
        by_cases b2 : c.f2 = nx
        case neg =>
          have b2b : (c.f2 != nx) = true := bne_iff_ne.mpr b2
          have b2c : (c.f2 == nx) = false := beq_eq_false_iff_ne.mpr b2
          have B2 := Aside0.mk b2b
          clear b2
          have hr : r = false := HF.out (by unfold wrongC; simp [B2.out])
          subst hr
          refine Hold.of ?_
          go_wp2_with ((at_lookup; refine gate_guard (by rfl) ?_; refine wpList_lookup_imap rfl _ _ 58 false rfl 3 4 Try.underlying58 Try.underlying3 (.bool false) (zeroB _) w.heap.size ps rfl HMB.out c.f0 rfl ?_))
          go_ret
          exact ⟨rfl, HBB.out⟩
        have b2b : (c.f2 != nx) = false := bne_eq_false_iff_eq.mpr b2
        have b2c : (c.f2 == nx) = true := beq_iff_eq.mpr b2
        have B2 := Aside0.mk b2
        clear b2
        by_cases b3 : c.f0 < 0
        · have b3b : decide (c.f0 < 0) = true := decide_eq_true b3
          have B3 := Aside0.mk b3b
          clear b3
          have hr : r = false := HF.out (by unfold wrongC; simp [B3.out])
          subst hr
          refine Hold.of ?_
          go_wp2_with ((at_lookup; refine gate_guard (by rfl) ?_; refine wpList_lookup_imap rfl _ _ 58 false rfl 3 4 Try.underlying58 Try.underlying3 (.bool false) (zeroB _) w.heap.size ps rfl HMB.out c.f0 rfl ?_))
          go_ret
          exact ⟨rfl, HBB.out⟩
        have b3b : decide (c.f0 < 0) = false := decide_eq_false b3
        have B3 := Aside0.mk b3
        clear b3
        have hsl := HS.out c.f0
        by_cases b4 : seen.contains c.f0 = true
        · have b4b : (lkp c.f0 ps).getD (Value.bool false) = .bool true := by rw [hsl, if_pos b4]; rfl
          clear hsl
          have B4 := Aside0.mk b4
          clear b4
          have hr : r = false := HF.out (by unfold wrongC; rw [B4.out]; simp)
          subst hr
          refine Hold.of ?_
          go_wp2_with ((at_lookup; refine gate_guard (by rfl) ?_; refine wpList_lookup_imap rfl _ _ 58 false rfl 3 4 Try.underlying58 Try.underlying3 (.bool false) (zeroB _) w.heap.size ps rfl HMB.out c.f0 rfl ?_))
          go_ret
          exact ⟨rfl, HBB.out⟩
        have b4b : (lkp c.f0 ps).getD (Value.bool false) = .bool false := by rw [hsl, if_neg b4]; rfl
        have B4 := Aside0.mk (by simpa using b4 : seen.contains c.f0 = false)
        clear hsl b4
        by_cases b5 : ((c.f0 == 0) != decide (i = 0)) = true
        case pos =>
          have B5 := Aside0.mk b5
          have b5b : ((c.f0 == 0) != ((i : Int) == 0)) = true := by rw [izero]; exact B5.out
          have b5c : ¬ ((c.f0 == 0) = ((i : Int) == 0)) := by simpa using b5b
          have b5e : decide ((c.f0 == 0) = ((i : Int) == 0)) = false := decide_eq_false b5c
          clear b5
          have hr : r = false := HF.out (by unfold wrongC; rw [B5.out]; simp)
          subst hr
          refine Hold.of ?_
          go_wp2_with ((at_lookup; refine gate_guard (by rfl) ?_; refine wpList_lookup_imap rfl _ _ 58 false rfl 3 4 Try.underlying58 Try.underlying3 (.bool false) (zeroB _) w.heap.size ps rfl HMB.out c.f0 rfl ?_))
          go_ret
          exact ⟨rfl, HBB.out⟩
        have B5 := Aside0.mk (by simpa using b5 : ((c.f0 == 0) != decide (i = 0)) = false)
        have b5b : ((c.f0 == 0) != ((i : Int) == 0)) = false := by rw [izero]; exact B5.out
        have b5c : (c.f0 == 0) = ((i : Int) == 0) := by simpa using b5b
        clear b5b
        clear b5
        by_cases b6 : c.f1.length > 4
        · have b6b : decide ((4 : Int) < (c.f1.length : Int)) = true := by simp; omega
          have b6c : decide (4 < c.f1.length) = true := decide_eq_true b6
          have B6 := Aside0.mk b6
          clear b6
          have hr : r = false := HF.out (by unfold wrongC; simp [B6.out])
          subst hr
          refine Hold.of ?_
          go_wp2_with ((at_lookup; refine gate_guard (by rfl) ?_; refine wpList_lookup_imap rfl _ _ 58 false rfl 3 4 Try.underlying58 Try.underlying3 (.bool false) (zeroB _) w.heap.size ps rfl HMB.out c.f0 rfl ?_))
          go_ret
          exact ⟨rfl, HBB.out⟩
        have b6b : decide ((4 : Int) < (c.f1.length : Int)) = false := by simp; omega
        have b6c : decide (4 < c.f1.length) = false := decide_eq_false b6
        have B6 := Aside0.mk b6
        clear b6
        by_cases b7 : 0 < i ∧ c.f1.length = 0
        · obtain ⟨b7a, b7b⟩ := b7
          have b7c : decide ((0 : Int) < (i : Int)) = true := by simp; omega
          have b7d : ((c.f1.length : Int) == 0) = true := by simp [b7b]
          have b7e : (c.f1.length == 0) = true := by simp [b7b]
          have B7 := Aside0.mk b7b
          have B8 := Aside0.mk (show (decide (i = 0)) = false from by simp; omega)
          clear b7b
          have hr : r = false := HF.out (by unfold wrongC; rw [B8.out, B7.out]; simp)
          subst hr
          refine Hold.of ?_
          go_wp2_with ((at_lookup; refine gate_guard (by rfl) ?_; refine wpList_lookup_imap rfl _ _ 58 false rfl 3 4 Try.underlying58 Try.underlying3 (.bool false) (zeroB _) w.heap.size ps rfl HMB.out c.f0 rfl ?_))
          go_ret
          exact ⟨rfl, HBB.out⟩
        have B7 := Aside0.mk b7
        clear b7
        have hgo := HG.out (by unfold wrongC; rw [B4.out, B5.out]; simp [b1, b2b, b3b, B6.out]; intro h8 e; exact B7.out ⟨by omega, by rw [e]; rfl⟩)
        have HGO := Aside0.mk hgo
        clear hgo HG HF
        have hgn : some g ≠ some w.heap.size := fun e => by injection e with e; have := HGW.out; omega
        have HGN := Aside0.mk hgn
        clear hgn
        rcases (show i ≤ 0 ∨ (0 < i ∧ ((c.f1.length : Int) == 0) = false ∧ (c.f1.length == 0) = false) from by have h7 := B7.out; rcases Nat.eq_zero_or_pos i with h8 | h8; exact .inl (by omega); have h9 : c.f1.length ≠ 0 := fun e => h7 ⟨h8, e⟩; exact .inr ⟨h8, beq_eq_false_iff_ne.mpr (by omega), beq_eq_false_iff_ne.mpr (by omega)⟩) with b8 | ⟨b8, b9, b10⟩
        all_goals
          refine Hold.of ?_
          go_wp2_with (first | (at_lookup; refine gate_guard (by rfl) ?_; refine wpList_lookup_imap rfl _ _ 58 false rfl 3 4 Try.underlying58 Try.underlying3 (.bool false) (zeroB _) w.heap.size ps rfl HMB.out c.f0 rfl ?_) | (at_mapUpdate; refine wpList_update_imap rfl _ _ _ 58 rfl 3 4 Try.underlying58 Try.underlying3 w.heap.size ps rfl HMB.out c.f0 rfl (.bool true) rfl ?_; intro w3 hm3 hg3 hz3; have hc3 := (hg3.cell hcb1 HGN.out); have HM3 := Aside0.mk hm3; have HB3 := Aside0.mk (below_own HBB.out hg3 (Nat.le_refl _) HBB.out.size); clear hm3 hg3 hz3 hcb0 hcb1 hcb2 hcb3 HMB HBB HX2))
          go_loopg [3, 78] c.f1.length (fun d2 v3 v78 w' => ∃ (last2 : Int) (j : Nat), v3 = .int .i64 last2 ∧ v78 = .int .i64 j ∧ j ≤ c.f1.length ∧ Aside0 (d2 = c.f1.length - j) ∧ Aside0 ((match rightIds last2 (c.f1.drop j) with | none => false | some l' => rightGo false l' (c.f0 :: seen) (l0.drop (i + 1))) = r) ∧ Aside0 (IMap w' w.heap.size (putP c.f0 (.bool true) ps)) ∧ Aside0 (Below w.heap.size w w'))
          case atStart => exact ⟨last, 0, rfl, rfl, Nat.zero_le _, ⟨rfl⟩, HGO, HM3, HB3⟩
          case round =>
            obtain ⟨last2, j, rfl, rfl, hj, HD2, HA2, HM4, HB4⟩ := hrel
            have hb4 : c.f1.length ≤ 4 := by have := B6.out; omega
            by_cases hjl : j < c.f1.length
            · obtain ⟨ad3, e3, hz⟩ := Kd.at_int HI.out (j : Int) (by omega) (by omega)
              subst e3
              replace hz := (HB4.out.cell (World.block_lt_of_cell? w _ hz)).trans hz
              simp only [Int.toNat_natCast] at hz
              have HDR := Aside0.mk (drop_rd hjl)
              generalize rd c.f1 (j : Int) = x at *
              by_cases hx : x ≤ last2
              · have hr : r = false := by have h1 := HA2.out; rw [HDR.out] at h1; simp only [rightIds, if_pos hx] at h1; exact h1.symm
                subst hr
                clear hc3
                go_wp2
                go_ret
                exact ⟨rfl, HB4.out⟩
              · have HA3 := HA2.out
                rw [HDR.out] at HA3
                simp only [rightIds, if_neg hx] at HA3
                have HA4 := Aside0.mk HA3
                clear HA3 hc3
                go_wp2
                go_roundg (c.f1.length - (j + 1))
                case measure => have := HD2.out; omega
                case rel => exact ⟨x, j + 1, rfl, by go_num, by omega, ⟨rfl⟩, HA4, HM4, HB4⟩
            · have HA3 := HA2.out
              rw [List.drop_eq_nil_of_le (by omega)] at HA3
              simp only [rightIds] at HA3
              have HA4 := Aside0.mk HA3
              clear HA3 hc3
              go_wp2
              go_roundg (l0.length - (i + 1))
              case measure => have := HD.out; omega
              case rel => exact ⟨last2, i + 1, c.f0 :: seen, putP c.f0 (.bool true) ps, rfl, by go_num, by omega, ⟨rfl⟩, HA4, ⟨HS.out.put _⟩, HM4, HB4⟩
      · have hnb : decide ((i : Int) + 1 < (l0.length : Int)) = false := by simp; omega
        by_cases b1 : c.f3 = true
        · skip
          have hr : r = false := HF.out (by unfold wrongC; simp [b1])
          subst hr
          refine Hold.of ?_
          go_wp2_with ((at_lookup; refine gate_guard (by rfl) ?_; refine wpList_lookup_imap rfl _ _ 58 false rfl 3 4 Try.underlying58 Try.underlying3 (.bool false) (zeroB _) w.heap.size ps rfl HMB.out c.f0 rfl ?_))
          go_ret
          exact ⟨rfl, HBB.out⟩
        replace b1 : c.f3 = false := by simpa using b1
        by_cases b2 : c.f2 = 0
        case neg =>
          have b2b : (c.f2 != 0) = true := bne_iff_ne.mpr b2
          have b2c : (c.f2 == 0) = false := beq_eq_false_iff_ne.mpr b2
          have B2 := Aside0.mk b2b
          clear b2
          have hr : r = false := HF.out (by unfold wrongC; simp [B2.out])
          subst hr
          refine Hold.of ?_
          go_wp2_with ((at_lookup; refine gate_guard (by rfl) ?_; refine wpList_lookup_imap rfl _ _ 58 false rfl 3 4 Try.underlying58 Try.underlying3 (.bool false) (zeroB _) w.heap.size ps rfl HMB.out c.f0 rfl ?_))
          go_ret
          exact ⟨rfl, HBB.out⟩
        have b2b : (c.f2 != 0) = false := bne_eq_false_iff_eq.mpr b2
        have b2c : (c.f2 == 0) = true := beq_iff_eq.mpr b2
        have B2 := Aside0.mk b2
        clear b2
        by_cases b3 : c.f0 < 0
        · have b3b : decide (c.f0 < 0) = true := decide_eq_true b3
          have B3 := Aside0.mk b3b
          clear b3
          have hr : r = false := HF.out (by unfold wrongC; simp [B3.out])
          subst hr
          refine Hold.of ?_
          go_wp2_with ((at_lookup; refine gate_guard (by rfl) ?_; refine wpList_lookup_imap rfl _ _ 58 false rfl 3 4 Try.underlying58 Try.underlying3 (.bool false) (zeroB _) w.heap.size ps rfl HMB.out c.f0 rfl ?_))
          go_ret
          exact ⟨rfl, HBB.out⟩
        have b3b : decide (c.f0 < 0) = false := decide_eq_false b3
        have B3 := Aside0.mk b3
        clear b3
        have hsl := HS.out c.f0
        by_cases b4 : seen.contains c.f0 = true
        · have b4b : (lkp c.f0 ps).getD (Value.bool false) = .bool true := by rw [hsl, if_pos b4]; rfl
          clear hsl
          have B4 := Aside0.mk b4
          clear b4
          have hr : r = false := HF.out (by unfold wrongC; rw [B4.out]; simp)
          subst hr
          refine Hold.of ?_
          go_wp2_with ((at_lookup; refine gate_guard (by rfl) ?_; refine wpList_lookup_imap rfl _ _ 58 false rfl 3 4 Try.underlying58 Try.underlying3 (.bool false) (zeroB _) w.heap.size ps rfl HMB.out c.f0 rfl ?_))
          go_ret
          exact ⟨rfl, HBB.out⟩
        have b4b : (lkp c.f0 ps).getD (Value.bool false) = .bool false := by rw [hsl, if_neg b4]; rfl
        have B4 := Aside0.mk (by simpa using b4 : seen.contains c.f0 = false)
        clear hsl b4
        by_cases b5 : ((c.f0 == 0) != decide (i = 0)) = true
        case pos =>
          have B5 := Aside0.mk b5
          have b5b : ((c.f0 == 0) != ((i : Int) == 0)) = true := by rw [izero]; exact B5.out
          have b5c : ¬ ((c.f0 == 0) = ((i : Int) == 0)) := by simpa using b5b
          have b5e : decide ((c.f0 == 0) = ((i : Int) == 0)) = false := decide_eq_false b5c
          clear b5
          have hr : r = false := HF.out (by unfold wrongC; rw [B5.out]; simp)
          subst hr
          refine Hold.of ?_
          go_wp2_with ((at_lookup; refine gate_guard (by rfl) ?_; refine wpList_lookup_imap rfl _ _ 58 false rfl 3 4 Try.underlying58 Try.underlying3 (.bool false) (zeroB _) w.heap.size ps rfl HMB.out c.f0 rfl ?_))
          go_ret
          exact ⟨rfl, HBB.out⟩
        have B5 := Aside0.mk (by simpa using b5 : ((c.f0 == 0) != decide (i = 0)) = false)
        have b5b : ((c.f0 == 0) != ((i : Int) == 0)) = false := by rw [izero]; exact B5.out
        have b5c : (c.f0 == 0) = ((i : Int) == 0) := by simpa using b5b
        clear b5b
        clear b5
        by_cases b6 : c.f1.length > 4
        · have b6b : decide ((4 : Int) < (c.f1.length : Int)) = true := by simp; omega
          have b6c : decide (4 < c.f1.length) = true := decide_eq_true b6
          have B6 := Aside0.mk b6
          clear b6
          have hr : r = false := HF.out (by unfold wrongC; simp [B6.out])
          subst hr
          refine Hold.of ?_
          go_wp2_with ((at_lookup; refine gate_guard (by rfl) ?_; refine wpList_lookup_imap rfl _ _ 58 false rfl 3 4 Try.underlying58 Try.underlying3 (.bool false) (zeroB _) w.heap.size ps rfl HMB.out c.f0 rfl ?_))
          go_ret
          exact ⟨rfl, HBB.out⟩
        have b6b : decide ((4 : Int) < (c.f1.length : Int)) = false := by simp; omega
        have b6c : decide (4 < c.f1.length) = false := decide_eq_false b6
        have B6 := Aside0.mk b6
        clear b6
        by_cases b7 : 0 < i ∧ c.f1.length = 0
        · obtain ⟨b7a, b7b⟩ := b7
          have b7c : decide ((0 : Int) < (i : Int)) = true := by simp; omega
          have b7d : ((c.f1.length : Int) == 0) = true := by simp [b7b]
          have b7e : (c.f1.length == 0) = true := by simp [b7b]
          have B7 := Aside0.mk b7b
          have B8 := Aside0.mk (show (decide (i = 0)) = false from by simp; omega)
          clear b7b
          have hr : r = false := HF.out (by unfold wrongC; rw [B8.out, B7.out]; simp)
          subst hr
          refine Hold.of ?_
          go_wp2_with ((at_lookup; refine gate_guard (by rfl) ?_; refine wpList_lookup_imap rfl _ _ 58 false rfl 3 4 Try.underlying58 Try.underlying3 (.bool false) (zeroB _) w.heap.size ps rfl HMB.out c.f0 rfl ?_))
          go_ret
          exact ⟨rfl, HBB.out⟩
        have B7 := Aside0.mk b7
        clear b7
        have hgo := HG.out (by unfold wrongC; rw [B4.out, B5.out]; simp [b1, B2.out, b3b, B6.out]; intro h8 e; exact B7.out ⟨by omega, by rw [e]; rfl⟩)
        have HGO := Aside0.mk hgo
        clear hgo HG HF
        have hgn : some g ≠ some w.heap.size := fun e => by injection e with e; have := HGW.out; omega
        have HGN := Aside0.mk hgn
        clear hgn
        rcases (show i ≤ 0 ∨ (0 < i ∧ ((c.f1.length : Int) == 0) = false ∧ (c.f1.length == 0) = false) from by have h7 := B7.out; rcases Nat.eq_zero_or_pos i with h8 | h8; exact .inl (by omega); have h9 : c.f1.length ≠ 0 := fun e => h7 ⟨h8, e⟩; exact .inr ⟨h8, beq_eq_false_iff_ne.mpr (by omega), beq_eq_false_iff_ne.mpr (by omega)⟩) with b8 | ⟨b8, b9, b10⟩
        all_goals
          refine Hold.of ?_
          go_wp2_with (first | (at_lookup; refine gate_guard (by rfl) ?_; refine wpList_lookup_imap rfl _ _ 58 false rfl 3 4 Try.underlying58 Try.underlying3 (.bool false) (zeroB _) w.heap.size ps rfl HMB.out c.f0 rfl ?_) | (at_mapUpdate; refine wpList_update_imap rfl _ _ _ 58 rfl 3 4 Try.underlying58 Try.underlying3 w.heap.size ps rfl HMB.out c.f0 rfl (.bool true) rfl ?_; intro w3 hm3 hg3 hz3; have hc3 := (hg3.cell hcb1 HGN.out); have HM3 := Aside0.mk hm3; have HB3 := Aside0.mk (below_own HBB.out hg3 (Nat.le_refl _) HBB.out.size); clear hm3 hg3 hz3 hcb0 hcb1 hcb2 hcb3 HMB HBB HX2))
          go_loopg [3, 78] c.f1.length (fun d2 v3 v78 w' => ∃ (last2 : Int) (j : Nat), v3 = .int .i64 last2 ∧ v78 = .int .i64 j ∧ j ≤ c.f1.length ∧ Aside0 (d2 = c.f1.length - j) ∧ Aside0 ((match rightIds last2 (c.f1.drop j) with | none => false | some l' => rightGo false l' (c.f0 :: seen) (l0.drop (i + 1))) = r) ∧ Aside0 (IMap w' w.heap.size (putP c.f0 (.bool true) ps)) ∧ Aside0 (Below w.heap.size w w'))
          case atStart => exact ⟨last, 0, rfl, rfl, Nat.zero_le _, ⟨rfl⟩, HGO, HM3, HB3⟩
          case round =>
            obtain ⟨last2, j, rfl, rfl, hj, HD2, HA2, HM4, HB4⟩ := hrel
            have hb4 : c.f1.length ≤ 4 := by have := B6.out; omega
            by_cases hjl : j < c.f1.length
            · obtain ⟨ad3, e3, hz⟩ := Kd.at_int HI.out (j : Int) (by omega) (by omega)
              subst e3
              replace hz := (HB4.out.cell (World.block_lt_of_cell? w _ hz)).trans hz
              simp only [Int.toNat_natCast] at hz
              have HDR := Aside0.mk (drop_rd hjl)
              generalize rd c.f1 (j : Int) = x at *
              by_cases hx : x ≤ last2
              · have hr : r = false := by have h1 := HA2.out; rw [HDR.out] at h1; simp only [rightIds, if_pos hx] at h1; exact h1.symm
                subst hr
                clear hc3
                go_wp2
                go_ret
                exact ⟨rfl, HB4.out⟩
              · have HA3 := HA2.out
                rw [HDR.out] at HA3
                simp only [rightIds, if_neg hx] at HA3
                have HA4 := Aside0.mk HA3
                clear HA3 hc3
                go_wp2
                go_roundg (c.f1.length - (j + 1))
                case measure => have := HD2.out; omega
                case rel => exact ⟨x, j + 1, rfl, by go_num, by omega, ⟨rfl⟩, HA4, HM4, HB4⟩
            · have HA3 := HA2.out
              rw [List.drop_eq_nil_of_le (by omega)] at HA3
              simp only [rightIds] at HA3
              have HA4 := Aside0.mk HA3
              clear HA3 hc3
              go_wp2
              go_roundg (l0.length - (i + 1))
              case measure => have := HD.out; omega
              case rel => exact ⟨last2, i + 1, c.f0 :: seen, putP c.f0 (.bool true) ps, rfl, by go_num, by omega, ⟨rfl⟩, HA4, ⟨HS.out.put _⟩, HM4, HB4⟩
    · have hie : i = l0.length := by omega
      subst hie
      have hr : r = true := by have h1 := HA.out; rw [List.drop_length] at h1; exact h1.symm
      subst hr
      go_wp2
      go_ret
      exact ⟨rfl, HB.out⟩
end Go.Proofs.Ytfbegchhgigjeaa.PC
