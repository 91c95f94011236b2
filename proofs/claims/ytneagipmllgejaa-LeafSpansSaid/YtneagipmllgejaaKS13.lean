/- Proved: for every list of texts and every two texts, cobweblaw11.LeafSpans answers true and leaves its arguments as they were; no condition beside the given statement's own. -/
import Derived.WalkKit
import Derived.ProofKit
import Derived.OpenShut
import Derived.ShutString
import Derived.ChangeOld
import Derived.Below
import Derived.SizedLaws
import Derived.Test.YtneagipmllgejaaRows
import Derived.Test.YtneagipmllgejaaKS0
import Derived.Test.YtneagipmllgejaaKS1
import Derived.Test.YtneagipmllgejaaKS2
import Derived.Test.YtneagipmllgejaaKS3
import Derived.Test.YtneagipmllgejaaKS4
import Derived.Test.YtneagipmllgejaaKS5
import Derived.Test.YtneagipmllgejaaKS6
import Derived.Test.YtneagipmllgejaaKS7
import Derived.Test.YtneagipmllgejaaKS8
import Derived.Test.YtneagipmllgejaaKS9
import Derived.Test.YtneagipmllgejaaKS10
import Derived.Test.YtneagipmllgejaaKS11
import Derived.Test.YtneagipmllgejaaKS12
section
set_option linter.unusedVariables false
namespace Go.Proofs.Ytneagipmllgejaa.PL
open Go.RowKit Go.Proofs.YtneagipmllgejaaW.PrintWords Go.Proofs.YtneagipmllgejaaW.PrintLast Go.Proofs.YtneagipmllgejaaW.PrintMore Go.Proofs.YtneagipmllgejaaH
set_option maxHeartbeats 2000000 in
set_option maxRecDepth 100000 in
theorem spans_big (A : Option Addr) (c : Nat) (es : List ByteArray) (x y : ByteArray) (w : World) (h : ¬ (es.length ≤ 60 ∧ x.size ≤ 100 ∧ y.size ≤ 100)) :
    Calls Try.prog 3 #[.slice A es.length c, .string x, .string y] w fun e w' => e = .returned (.bool true) ∧ Below w.heap.size w w' := by
  have hu26 := Try.underlying26
  have hu28 := Try.underlying28
  have HB := Lib.hid (Below.refl w.heap.size w)
  by_cases h1 : es.length ≤ 60
  · have hl1 : decide ((60 : Int) < (es.length : Int)) = false := decide_eq_false (by omega)
    have hl2 : decide (60 < es.length) = false := decide_eq_false (by omega)
    by_cases h2 : x.size ≤ 100
    · have hx1 : decide ((100 : Int) < (x.size : Int)) = false := decide_eq_false (by omega)
      have hx2 : decide (100 < x.size) = false := decide_eq_false (by omega)
      have hy1 : decide ((100 : Int) < (y.size : Int)) = true := decide_eq_true (by omega)
      have hy2 : decide (100 < y.size) = true := decide_eq_true (by omega)
      clear h h1 h2
      go_enter Try.func3, Try.ntmps3
      go_wp2_with (go_at_call 9; refine (cobweblaw11_awake.calls 50 true _ (awake_true 50 (Nat.le_refl _))).mono ?_; rintro e w1 ⟨rfl, hb⟩; have n_ := Lib.hid (below_then HB.out HB.out.size hb); clear HB; have HB := n_; clear n_ hb)
      go_ret
      exact ⟨rfl, HB.out⟩
    · have hx1 : decide ((100 : Int) < (x.size : Int)) = true := decide_eq_true (by omega)
      have hx2 : decide (100 < x.size) = true := decide_eq_true (by omega)
      clear h h1 h2
      go_enter Try.func3, Try.ntmps3
      go_wp2_with (go_at_call 9; refine (cobweblaw11_awake.calls 50 true _ (awake_true 50 (Nat.le_refl _))).mono ?_; rintro e w1 ⟨rfl, hb⟩; have n_ := Lib.hid (below_then HB.out HB.out.size hb); clear HB; have HB := n_; clear n_ hb)
      go_ret
      exact ⟨rfl, HB.out⟩
  · have hl1 : decide ((60 : Int) < (es.length : Int)) = true := decide_eq_true (by omega)
    have hl2 : decide (60 < es.length) = true := decide_eq_true (by omega)
    clear h h1
    go_enter Try.func3, Try.ntmps3
    go_wp2_with (go_at_call 9; refine (cobweblaw11_awake.calls 50 true _ (awake_true 50 (Nat.le_refl _))).mono ?_; rintro e w1 ⟨rfl, hb⟩; have n_ := Lib.hid (below_then HB.out HB.out.size hb); clear HB; have HB := n_; clear n_ hb)
    go_ret
    exact ⟨rfl, HB.out⟩
end Go.Proofs.Ytneagipmllgejaa.PL
namespace Go.Proofs.Ytneagipmllgejaa.leafSpans
open Go.ChangeShapes Go.WideShapes Go.ChangeAt Go.RowKit
open Go.ChangeMaps (open_string shut_string)
/-- What the plain law has to give. -/
def Plain : Prop := ∀ (x y : ByteArray), x.size ≤ 100 → y.size ≤ 100 → ∃ Good, PL.SpanPlain x y Good
theorem own : ownKnob Try.prog.godebug = none := by kernel_rfl
theorem laidOut : laidOutB Try.prog = true := by kernel_rfl
set_option maxRecDepth 100000 in
theorem lifted (HP : Plain) (os : Os) (started : os.Started) (H : Type) (enc : TypeId × Value → H) :
    ReturnsInHanded {} Try.checked os 3 .any (Rows.leafSpansSpec.pre6 enc Try.prog Try.f3 Rows.leafSpansRow.domain false) (Rows.leafSpansSpec.post enc Try.prog Try.f3 false true false false) := by
  refine returnsInHanded_of_change_sized (C := Try.checked) own started (by kernel_rfl) Try.func3
    (ChangeSpec.witness6 (enc := enc) (C := Try.checked) false ⟨#[], #[.slice none 0 0, .string ⟨#[]⟩, .string ⟨#[]⟩], []⟩ 8 (by kernel_rfl) (by kernel_rfl) (by kernel_rfl) (by kernel_rfl)) ?_
  intro W base args ds gs before hval0 hW hcnd hsz0 _
  have hval : ∀ (j : Nat) t v, Try.f3.params[j]? = some t → args[j]? = some v → Value.okWide Try.prog W .any base t v := hval0
  have hW' := hW
  obtain ⟨p, q, hA0, hV, rfl, hfz, hnd⟩ := hW
  have hA : DataW.TrodAll enc Try.prog W 0 (fun _ => true) true Try.f3.params.toList args.toList ds p := hA0
  rw [Try.params3] at hA hval
  obtain ⟨v0, vs0, d0, ds0, p0, q0, hargs, rfl, rfl, h0, r0⟩ := trodAll_cons hA
  obtain ⟨v1, vs1, d1, ds1, p1, q1, rfl, rfl, rfl, h1, r1⟩ := trodAll_cons r0
  obtain ⟨v2, vs2, d2, ds2, p2, q2, rfl, rfl, rfl, h2, r2⟩ := trodAll_cons r1
  obtain ⟨rfl, rfl, rfl⟩ := trodAll_nil r2
  obtain rfl : args = #[v0, v1, v2] := by cases args; simp_all
  obtain ⟨rfl, rfl⟩ := trodVars_none hV
  have k0 := h0
  have lt0 : ∀ x ∈ p0, x.block < W.heap.size := by obtain ⟨m, hm⟩ := k0; exact DataW.trod_lt m _ _ _ hm
  obtain ⟨x0, len0, cap0, rfl⟩ := okWide_slice Try.underlying22 (hval 0 22 v0 rfl rfl)
  obtain ⟨A, c, es, hv0, hc, gA⟩ : ∃ (A : Option Addr) (c : Nat) (es : List ByteArray), Value.slice x0 len0 cap0 = .slice A es.length c ∧ es.length ≤ c ∧ YtneagipmllgejaaW.PrintWords.Kd.C YtneagipmllgejaaW.PrintWords.Kd.string W A es.length es := by
    obtain ⟨fuel, hf⟩ := h0
    obtain ⟨A, c, es, hcs, g1, _, g2⟩ := PL.open_strs hf
    simp only [Value.cells] at hcs
    exact ⟨A, c, es, by simpa using hcs, g1, g2⟩
  rw [hv0] at k0 hval hW' ⊢
  clear hv0
  obtain ⟨a1, rfl, rfl, rfl, w1⟩ := open_string Try.underlying9 (hval 1 9 v1 rfl rfl) h1
  obtain ⟨a2, rfl, rfl, rfl, w2⟩ := open_string Try.underlying9 (hval 2 9 v2 rfl rfl) h2
  clear hA0 hval0 hsz0
  have hcall : Calls Try.prog 3 #[.slice A es.length c, .string a1, .string a2] W fun e w' => e = .returned (.bool true) ∧ Below W.heap.size W w' := by
    by_cases hb : es.length ≤ 60 ∧ a1.size ≤ 100 ∧ a2.size ≤ 100
    · obtain ⟨Good, hG⟩ := HP a1 a2 hb.2.1 hb.2.2
      exact PL.spans_main A c es a1 a2 W gA hc hb.1 hb.2.1 hb.2.2 Good hG
    · exact PL.spans_big A c es a1 a2 W hb
  refine hcall.mono fun e W' ⟨he, bel⟩ => ?_
  subst he
  exact ⟨_, rfl, _, _, _, [], _, [], hW', trodAll_mk1 (shut_bool Try.underlying4 _), (trodAll_cons_mk (Below.trod laidOut (by kernel_rfl) (of_decide_eq_true (by kernel_rfl)) k0 bel lt0) (trodAll_cons_mk (shut_string Try.underlying9 w1) (trodAll_cons_mk (shut_string Try.underlying9 w2) trodAll_mk0))), rfl, bel.frame _, fun h => by cases h⟩
theorem over (HP : Plain) : Rows.leafSpansRow.holds Try.pinned (OpenSpec.ofChange Rows.leafSpansSpec) :=
  OpenClaim.holds_of_wide 3 Try.f3 rfl rfl rfl rfl rfl rfl rfl ⟨rfl, rfl, rfl, rfl, rfl⟩ rfl rfl rfl rfl rfl (by kernel_rfl) Try.func3 (by kernel_rfl)
    (of_decide_eq_true (by kernel_rfl)) (by unfold Func.isWrapper; first | (rw [if_pos (by decide +kernel)]; kernel_rfl) | (rw [if_neg (by decide +kernel)]; exact ⟨rfl, rfl⟩))
    (fun os started H enc _ => lifted HP os started H enc)
end Go.Proofs.Ytneagipmllgejaa.leafSpans
end
section
set_option linter.unusedVariables false
set_option linter.unusedSimpArgs false
namespace Go.Proofs.Ytneagipmllgejaa.PL
open Go.RowKit Go.Proofs.YtneagipmllgejaaW.PrintWords Go.Proofs.YtneagipmllgejaaW.PrintLast Go.Proofs.YtneagipmllgejaaW.PrintMore Go.Proofs.YtneagipmllgejaaH
theorem less_tri {a b : ByteArray} (h1 : lessB a b = false) (h2 : lessB b a = false) : a = b := text_eq (bl_tri h1 h2)
theorem le_less {z y x : ByteArray} (h1 : lessB z y = false) (h2 : lessB z x = true) : lessB y x = true := by
  cases h : lessB y z with
  | true => exact less_trans h h2
  | false => rw [← less_tri h1 h]; exact h2
theorem cnt_mono {e x : ByteArray} (h : lessB e x = false) (a : List ByteArray) : cntLe x a ≤ cntLe e a := by
  unfold cntLe
  refine List.countP_mono_left fun y _ hy => ?_
  simp only [Bool.not_eq_true'] at hy ⊢
  cases h2 : lessB e y with
  | false => rfl
  | true => have := le_less h h2; rw [hy] at this; cases this
theorem less_of_cnt {e x : ByteArray} {a : List ByteArray} (h : cntLe e a < cntLe x a) : lessB e x = true := by
  cases h2 : lessB e x with
  | true => rfl
  | false => have := cnt_mono h2 a; omega
theorem not_less_of_cnt {e x : ByteArray} {a : List ByteArray} (h : cntLe x a < cntLe e a) : lessB e x = false := by
  cases h2 : lessB e x with
  | false => rfl
  | true => have := cnt_mono (less_asymm h2) a; omega
theorem cnt_ins (e x : ByteArray) (i : Nat) (a : List ByteArray) : cntLe e (insAt i x a) = cntLe e a + (if lessB e x = true then 0 else 1) := by
  have h : cntLe e a = cntLe e (a.take i) + cntLe e (a.drop i) := by unfold cntLe; rw [← List.countP_append, List.take_append_drop]
  rw [h]
  unfold cntLe insAt
  rw [List.countP_append, List.countP_cons]
  cases lessB e x <;> simp <;> omega
theorem mem_take_rs {l : List ByteArray} {k : Nat} {y : ByteArray} (h : y ∈ l.take k) : ∃ j, j < k ∧ j < l.length ∧ y = rdOf ByteArray.empty l (j : Int) := by
  obtain ⟨j, hj, e⟩ := List.getElem_of_mem h
  simp only [List.length_take] at hj
  refine ⟨j, by omega, by omega, ?_⟩
  rw [← e]
  simp [rdOf, List.getD_eq_getElem?_getD, List.getElem?_eq_getElem (show j < l.length by omega)]
theorem mem_drop_rs {l : List ByteArray} {k : Nat} {y : ByteArray} (h : y ∈ l.drop k) : ∃ j, k ≤ j ∧ j < l.length ∧ y = rdOf ByteArray.empty l (j : Int) := by
  obtain ⟨j, hj, e⟩ := List.getElem_of_mem h
  simp only [List.length_drop] at hj
  refine ⟨k + j, by omega, by omega, ?_⟩
  rw [← e, List.getElem_drop]
  simp only [rdOf, Int.toNat_natCast]
  rw [List.getD_eq_getElem?_getD, List.getElem?_eq_getElem (show k + j < l.length by omega)]
  rfl
theorem rise_ins {l : List ByteArray} {k : Nat} {x : ByteArray} (h : riseB l = true) (h1 : ∀ y ∈ l.take k, lessB y x = true) (h2 : ∀ y ∈ l.drop k, lessB x y = true) : riseB (insAt k x l) = true := by
  rw [riseB_pairwise] at h ⊢
  have h0 : (l.take k ++ l.drop k).Pairwise (fun a b => lessB a b = true) := by rw [List.take_append_drop]; exact h
  obtain ⟨a1, a2, a3⟩ := List.pairwise_append.1 h0
  unfold insAt
  refine List.pairwise_append.2 ⟨a1, List.pairwise_cons.2 ⟨h2, a2⟩, fun y hy z hz => ?_⟩
  rcases List.mem_cons.1 hz with rfl | hz
  · exact h1 y hy
  · exact a3 y hy z hz
theorem mem_ins {α : Type} {k : Nat} {x e : α} {l : List α} : e ∈ insAt k x l ↔ e = x ∨ e ∈ l := by
  unfold insAt
  rw [List.mem_append, List.mem_cons]
  constructor
  · rintro (h | h | h)
    · exact .inr (List.mem_of_mem_take h)
    · exact .inl h
    · exact .inr (List.mem_of_mem_drop h)
  · rintro (h | h)
    · exact .inr (.inl h)
    · rw [← List.take_append_drop k l] at h
      rcases List.mem_append.1 h with h | h
      · exact .inl h
      · exact .inr (.inr h)
theorem rd_ins {k : Nat} {x : Int} {l : List Int} (hk : k ≤ l.length) (j : Nat) : rd (insAt k x l) (j : Int) = if j < k then rd l (j : Int) else if j = k then x else rd l ((j - 1 : Nat) : Int) := by
  unfold insAt
  simp only [rd, List.getD_eq_getElem?_getD, Int.toNat_natCast]
  by_cases h1 : j < k
  · rw [if_pos h1, List.getElem?_append_left (by simp; omega), List.getElem?_take, if_pos h1]
  · rw [if_neg h1, List.getElem?_append_right (by simp; omega)]
    simp only [List.length_take, Nat.min_eq_left hk]
    by_cases h2 : j = k
    · subst h2
      simp
    · rw [if_neg h2]
      obtain ⟨m, rfl⟩ : ∃ m, j = k + (m + 1) := ⟨j - k - 1, by omega⟩
      have e1 : k + (m + 1) - k = m + 1 := by omega
      have e2 : k + (m + 1) - 1 = k + m := by omega
      rw [e1, e2, List.getElem?_cons_succ, List.getElem?_drop]
theorem rd_getElem {b : List Int} {i : Nat} (hi : i < b.length) : rd b (i : Int) = b[i] := by simp [rd, List.getD_eq_getElem?_getD, List.getElem?_eq_getElem hi]
theorem seen_iff : ∀ {l seen : List Int}, seenGo seen l = true ↔ l.Nodup ∧ ∀ x ∈ l, 1 ≤ x ∧ x ∉ seen
  | [], seen => by simp [seenGo]
  | n :: r, seen => by
    unfold seenGo
    by_cases h : (decide (n < 1) || seen.contains n) = true
    · rw [if_pos h]
      constructor
      · intro h2; cases h2
      · rintro ⟨_, h2⟩
        have h3 := h2 n (by simp)
        rcases Bool.or_eq_true_iff.1 h with h4 | h4
        · have := of_decide_eq_true h4; omega
        · exact absurd (List.contains_iff_mem.1 h4) h3.2
    · rw [if_neg h, seen_iff]
      have h5 : ¬ n < 1 ∧ n ∉ seen := by
        constructor
        · intro h6; exact h (by rw [decide_eq_true h6]; rfl)
        · intro h6; exact h (by rw [List.contains_iff_mem.2 h6]; simp)
      constructor
      · rintro ⟨h1, h2⟩
        refine ⟨List.nodup_cons.2 ⟨fun hm => (h2 n hm).2 (by simp), h1⟩, fun x hx => ?_⟩
        rcases List.mem_cons.1 hx with rfl | hx
        · exact ⟨by omega, h5.2⟩
        · exact ⟨(h2 x hx).1, fun hs => (h2 x hx).2 (List.mem_cons_of_mem _ hs)⟩
      · rintro ⟨h1, h2⟩
        obtain ⟨h7, h8⟩ := List.nodup_cons.1 h1
        refine ⟨h8, fun x hx => ⟨(h2 x (List.mem_cons_of_mem _ hx)).1, fun hs => ?_⟩⟩
        rcases List.mem_cons.1 hs with rfl | hs
        · exact h7 hx
        · exact (h2 x (List.mem_cons_of_mem _ hx)).2 hs
theorem rd_inj {b : List Int} (hn : b.Nodup) {i j : Nat} (hi : i < b.length) (hj : j < b.length) (h : rd b (i : Int) = rd b (j : Int)) : i = j := by
  rw [rd_getElem hi, rd_getElem hj] at h
  exact (List.getElem_inj hn).1 h
theorem nodup_ins {k : Nat} {x : Int} {l : List Int} (hn : l.Nodup) (hx : x ∉ l) : (insAt k x l).Nodup := by
  unfold insAt
  have h0 : (l.take k ++ l.drop k).Nodup := by rw [List.take_append_drop]; exact hn
  obtain ⟨a1, a2, a3⟩ := List.nodup_append.1 h0
  refine List.nodup_append.2 ⟨a1, List.nodup_cons.2 ⟨fun h => hx (List.mem_of_mem_drop h), a2⟩, fun y hy z hz => ?_⟩
  rcases List.mem_cons.1 hz with rfl | hz
  · rintro rfl; exact hx (List.mem_of_mem_take hy)
  · exact a3 y hy z hz
theorem fresh_from (l : List Int) : ∀ (f : Nat) (n : Int), l.countP (fun c => decide (n ≤ c)) < f → ∃ m, freshI l f n = some m ∧ n ≤ m ∧ m ∉ l
  | 0, n, h => absurd h (Nat.not_lt_zero _)
  | f + 1, n, h => by
    unfold freshI
    by_cases h1 : l.contains n = true
    · rw [if_pos h1]
      have hm : n ∈ l := List.contains_iff_mem.1 h1
      have hlt : l.countP (fun c => decide (n + 1 ≤ c)) < l.countP (fun c => decide (n ≤ c)) := by
        clear h h1
        induction l with
        | nil => cases hm
        | cons y r ih =>
          simp only [List.countP_cons]
          have hle : r.countP (fun c => decide (n + 1 ≤ c)) ≤ r.countP (fun c => decide (n ≤ c)) := List.countP_mono_left fun z _ hz => by
            have := of_decide_eq_true hz; exact decide_eq_true (by omega)
          rcases List.mem_cons.1 hm with rfl | hm
          · have e1 : decide (n + 1 ≤ n) = false := decide_eq_false (by omega)
            have e2 : decide (n ≤ n) = true := decide_eq_true (by omega)
            rw [e1, e2]; simp; omega
          · have := ih hm
            by_cases h3 : n + 1 ≤ y
            · have e1 : decide (n + 1 ≤ y) = true := decide_eq_true h3
              have e2 : decide (n ≤ y) = true := decide_eq_true (by omega)
              rw [e1, e2]; simp; omega
            · have e1 : decide (n + 1 ≤ y) = false := decide_eq_false h3
              rw [e1]; simp; omega
      obtain ⟨m, h4, h5, h6⟩ := fresh_from l f (n + 1) (by omega)
      exact ⟨m, h4, by omega, h6⟩
    · rw [if_neg h1]
      exact ⟨n, rfl, Int.le_refl _, fun hm => h1 (List.contains_iff_mem.2 hm)⟩
theorem fresh_some (l : List Int) : ∃ m, freshI l (l.length + 1) 1 = some m ∧ 1 ≤ m ∧ m ∉ l :=
  fresh_from l (l.length + 1) 1 (by have := List.countP_le_length (p := fun c : Int => decide ((1 : Int) ≤ c)) (l := l); omega)
theorem put_mem {k : Int} {c : S28} : ∀ {t : List (Int × S28)} {q : Int × S28}, q ∈ putP k c t → q.2 = c ∨ q ∈ t
  | [], q, h => by simp [putP] at h; subst h; exact .inl rfl
  | (a, u) :: r, q, h => by
    unfold putP at h
    split at h
    · rcases List.mem_cons.1 h with rfl | h
      · exact .inl rfl
      · exact .inr (List.mem_cons_of_mem _ h)
    · rcases List.mem_cons.1 h with rfl | h
      · exact .inr (by simp)
      · rcases put_mem h with h | h
        · exact .inl h
        · exact .inr (List.mem_cons_of_mem _ h)
end Go.Proofs.Ytneagipmllgejaa.PL
end
section
set_option linter.unusedVariables false
set_option linter.unusedSimpArgs false
namespace Go.Proofs.Ytneagipmllgejaa.PL
open Go.RowKit Go.Proofs.YtneagipmllgejaaW.PrintWords Go.Proofs.YtneagipmllgejaaW.PrintLast Go.Proofs.YtneagipmllgejaaW.PrintMore Go.Proofs.YtneagipmllgejaaH
/-- An index after at most n entries: the root, and the table's leaf for each of its numbers. -/
structure Grown (n : Nat) (a : List ByteArray) (b : List Int) (t : List (Int × S28)) : Prop where
  root : rootB a b = true
  len : b.length ≤ n + 1
  asz : ∀ s ∈ a, s.size ≤ 100
  lf : ∀ i : Nat, i < b.length → ∃ c, lkp (rd b (i : Int)) t = some c ∧ c.f0 = rd b (i : Int) ∧ c.f2 = false ∧ c.f1.length ≤ 4 ∧ riseB c.f1 = true ∧ (∀ e ∈ c.f1, cntLe e a = i) ∧ ∀ e ∈ c.f1, e.size ≤ 100
  tab : ∀ p ∈ t, p.2.f1.length ≤ 4 ∧ ∀ s ∈ p.2.f1, s.size ≤ 100
theorem Grown.more {n : Nat} {a : List ByteArray} {b : List Int} {t : List (Int × S28)} (h : Grown n a b t) : Grown (n + 1) a b t := ⟨h.root, by have := h.len; omega, h.asz, h.lf, h.tab⟩
theorem grown_start : Grown 0 [] [1] [(1, ⟨1, [], false⟩)] := by
  refine ⟨by decide, by simp, by simp, fun i hi => ?_, fun p hp => ?_⟩
  · have : i = 0 := by simpa using hi
    subst this
    exact ⟨⟨1, [], false⟩, rfl, rfl, rfl, by simp, rfl, by simp, by simp⟩
  · obtain rfl : p = (1, ⟨1, [], false⟩) := by simpa using hp
    exact ⟨by simp, by simp⟩
theorem rise_insS {s : ByteArray} {es : List ByteArray} (h : riseB es = true) (hf : fndS s es = false) : riseB (insS s es) = true := by
  unfold insS
  have H := loS_at s h
  refine rise_ins h (fun y hy => ?_) (fun y hy => ?_)
  · obtain ⟨j, h1, h2, rfl⟩ := mem_take_rs hy
    exact H.lo j h1
  · obtain ⟨j, h1, h2, rfl⟩ := mem_drop_rs hy
    refine (at_iff h h2).2 ?_
    unfold atS
    rw [hf]
    simpa using h1
theorem grown_small {n : Nat} {a : List ByteArray} {b : List Int} {t : List (Int × S28)} {s : ByteArray} {c : S28} {i : Nat} (h : Grown n a b t) (hs : s.size ≤ 100) (hi : i = atS s a) (hib : i < b.length)
    (hc0 : c.f0 = rd b (i : Int)) (hc2 : c.f2 = false) (hcr : riseB c.f1 = true) (hce : ∀ e ∈ c.f1, cntLe e a = i) (hcz : ∀ e ∈ c.f1, e.size ≤ 100) (hf : fndS s c.f1 = false) (h4 : (insS s c.f1).length ≤ 4) :
    Grown (n + 1) a b (layP t [⟨rd b (i : Int), insS s c.f1, c.f2⟩]) := by
  obtain ⟨hr1, hr2, hr3⟩ := rootB_iff.1 h.root
  have hnd := (seen_iff.1 hr1).1
  have hm : ∀ e ∈ insS s c.f1, cntLe e a = i ∧ e.size ≤ 100 := fun e he => by
    rcases mem_ins.1 he with rfl | he
    · exact ⟨by rw [cntLe_rise _ hr3]; exact hi.symm, hs⟩
    · exact ⟨hce e he, hcz e he⟩
  refine ⟨h.root, by have := h.len; omega, h.asz, fun j hj => ?_, fun p hp => ?_⟩
  · show ∃ c', lkp (rd b (j : Int)) (putP (rd b (i : Int)) ⟨rd b (i : Int), insS s c.f1, c.f2⟩ t) = some c' ∧ _
    rw [lkp_putP]
    by_cases e : rd b (i : Int) = rd b (j : Int)
    · rw [if_pos e]
      obtain rfl := rd_inj hnd hib hj e
      exact ⟨_, rfl, rfl, hc2, h4, rise_insS hcr hf, fun e he => (hm e he).1, fun e he => (hm e he).2⟩
    · rw [if_neg e]
      exact h.lf j hj
  · rcases put_mem (show p ∈ putP (rd b (i : Int)) ⟨rd b (i : Int), insS s c.f1, c.f2⟩ t from hp) with e | e
    · rw [e]; exact ⟨h4, fun e he => (hm e he).2⟩
    · exact h.tab p e
theorem grown_split {n : Nat} {a : List ByteArray} {b : List Int} {t : List (Int × S28)} {s : ByteArray} {c : S28} {i : Nat} {m : Int} (h : Grown n a b t) (hs : s.size ≤ 100) (hi : i = atS s a) (hib : i < b.length)
    (hc0 : c.f0 = rd b (i : Int)) (hc2 : c.f2 = false) (hcl : c.f1.length ≤ 4) (hcr : riseB c.f1 = true) (hce : ∀ e ∈ c.f1, cntLe e a = i) (hcz : ∀ e ∈ c.f1, e.size ≤ 100) (hf : fndS s c.f1 = false) (h4 : ¬ (insS s c.f1).length ≤ 4) (hm1 : 1 ≤ m) (hm2 : m ∉ b) :
    Grown (n + 1) (insAt i (rdOf ByteArray.empty (insS s c.f1) 3) a) (insAt (i + 1) m b) (layP t [⟨rd b (i : Int), (insS s c.f1).take 3, c.f2⟩, ⟨m, (insS s c.f1).drop 3, false⟩]) := by
  obtain ⟨hr1, hr2, hr3⟩ := rootB_iff.1 h.root
  obtain ⟨hnd, hpos⟩ := seen_iff.1 hr1
  have hm : ∀ e ∈ insS s c.f1, cntLe e a = i ∧ e.size ≤ 100 := fun e he => by
    rcases mem_ins.1 he with rfl | he
    · exact ⟨by rw [cntLe_rise _ hr3]; exact hi.symm, hs⟩
    · exact ⟨hce e he, hcz e he⟩
  have hil : (insS s c.f1).length = 5 := by have := insS_len s c.f1; omega
  have hri := rise_insS hcr hf
  generalize insS s c.f1 = ids at *
  have hxm : rdOf ByteArray.empty ids 3 ∈ ids := mem_str (i := 3) (by omega)
  have hzm : rdOf ByteArray.empty ids 0 ∈ ids := mem_str (i := 0) (by omega)
  have hzx : lessB (rdOf ByteArray.empty ids 0) (rdOf ByteArray.empty ids 3) = true := rise_rs hri (i := 0) (j := 3) (by omega) (by omega)
  have htk : ∀ e ∈ ids.take 3, lessB e (rdOf ByteArray.empty ids 3) = true := fun e he => by
    obtain ⟨j, h1, h2, rfl⟩ := mem_take_rs he
    exact rise_rs hri (j := 3) h1 (by omega)
  have hdr : ∀ e ∈ ids.drop 3, lessB e (rdOf ByteArray.empty ids 3) = false := fun e he => by
    obtain ⟨j, h1, h2, rfl⟩ := mem_drop_rs he
    rcases Nat.eq_or_lt_of_le h1 with h3 | h3
    · subst h3; exact less_irrefl _
    · exact less_asymm (rise_rs hri (i := 3) h3 h2)
  have hcx := (hm _ hxm).1
  have hcz2 := (hm _ hzm).1
  have hxz := (hm _ hxm).2
  generalize rdOf ByteArray.empty ids 3 = x at *
  generalize rdOf ByteArray.empty ids 0 = z at *
  have hia : i ≤ a.length := by rw [hi]; exact atS_le s a
  have hbl : (insAt (i + 1) m b).length = b.length + 1 := insAt_len (by omega)
  refine ⟨rootB_iff.2 ⟨seen_iff.2 ⟨nodup_ins hnd hm2, fun y hy => ⟨?_, by simp⟩⟩, ?_, ?_⟩, ?_, ?_, ?_, ?_⟩
  · rcases mem_ins.1 hy with rfl | hy
    · exact hm1
    · exact (hpos y hy).1
  · rw [hbl, insAt_len hia, hr2]
  · refine rise_ins hr3 (fun y hy => ?_) (fun y hy => ?_)
    · obtain ⟨j, h1, h2, rfl⟩ := mem_take_rs hy
      refine le_less (z := z) ?_ hzx
      cases h5 : lessB z (rdOf ByteArray.empty a (j : Int)) with
      | false => rfl
      | true => have := (at_iff hr3 h2).1 h5; rw [← cntLe_rise _ hr3] at this; omega
    · obtain ⟨j, h1, h2, rfl⟩ := mem_drop_rs hy
      exact (at_iff hr3 h2).2 (by rw [← cntLe_rise _ hr3]; omega)
  · rw [hbl]; have := h.len; omega
  · intro y hy
    rcases mem_ins.1 hy with rfl | hy
    · exact hxz
    · exact h.asz y hy
  · intro j hj
    rw [hbl] at hj
    rw [rd_ins (by omega)]
    show ∃ c', lkp _ (putP m ⟨m, ids.drop 3, false⟩ (putP (rd b (i : Int)) ⟨rd b (i : Int), ids.take 3, c.f2⟩ t)) = some c' ∧ _
    have old : ∀ j0 : Nat, j0 < b.length → j0 ≠ i → lkp (rd b (j0 : Int)) (putP m ⟨m, ids.drop 3, false⟩ (putP (rd b (i : Int)) ⟨rd b (i : Int), ids.take 3, c.f2⟩ t)) = lkp (rd b (j0 : Int)) t := fun j0 h0 h1 => by
      rw [lkp_putP, if_neg (fun e => hm2 (by rw [e]; exact mem_int h0)), lkp_putP, if_neg (fun e => h1 (rd_inj hnd hib h0 e).symm)]
    by_cases h1 : j < i + 1
    · rw [if_pos h1]
      by_cases h2 : j = i
      · subst h2
        rw [lkp_putP, if_neg (fun e => hm2 (by rw [e]; exact mem_int hib)), lkp_putP, if_pos rfl]
        refine ⟨_, rfl, rfl, hc2, by simp; omega, ?_, fun e he => ?_, fun e he => (hm e (List.mem_of_mem_take he)).2⟩
        · exact riseB_pairwise.2 ((riseB_pairwise.1 hri).sublist (List.take_sublist _ _))
        · rw [cnt_ins, (hm e (List.mem_of_mem_take he)).1, htk e he]; rfl
      · rw [old j (by omega) h2]
        obtain ⟨d, g1, g2, g3, g4, g5, g6, g7⟩ := h.lf j (by omega)
        refine ⟨d, g1, g2, g3, g4, g5, fun e he => ?_, g7⟩
        have g8 := g6 e he
        rw [cnt_ins, g8, less_of_cnt (a := a) (by omega)]
        rfl
    · rw [if_neg h1]
      by_cases h2 : j = i + 1
      · rw [if_pos h2]
        rw [lkp_putP, if_pos rfl]
        refine ⟨_, rfl, rfl, rfl, by simp; omega, ?_, fun e he => ?_, fun e he => (hm e (List.mem_of_mem_drop he)).2⟩
        · exact riseB_pairwise.2 ((riseB_pairwise.1 hri).sublist (List.drop_sublist _ _))
        · rw [cnt_ins, (hm e (List.mem_of_mem_drop he)).1, hdr e he]; simp; omega
      · rw [if_neg h2, old (j - 1) (by omega) (by omega)]
        obtain ⟨d, g1, g2, g3, g4, g5, g6, g7⟩ := h.lf (j - 1) (by omega)
        refine ⟨d, g1, g2, g3, g4, g5, fun e he => ?_, g7⟩
        have g8 := g6 e he
        rw [cnt_ins, g8, not_less_of_cnt (a := a) (by omega)]
        simp
        omega
  · intro p hp
    rcases put_mem (show p ∈ putP m ⟨m, ids.drop 3, false⟩ (putP (rd b (i : Int)) ⟨rd b (i : Int), ids.take 3, c.f2⟩ t) from hp) with e | e
    · rw [e]; exact ⟨by simp; omega, fun e he => (hm e (List.mem_of_mem_drop he)).2⟩
    · rcases put_mem e with e | e
      · rw [e]; exact ⟨by simp; omega, fun e he => (hm e (List.mem_of_mem_take he)).2⟩
      · exact h.tab p e
theorem grown_step (n : Nat) (a : List ByteArray) (b : List Int) (t : List (Int × S28)) (s : ByteArray) (hn : n < 60) (hs : s.size ≤ 100) (h : Grown n a b t) :
    ∃ k no c r1 r2 r3 r4, leaf_Find.f k a b s = some no ∧ lkp no t = some c ∧ leaf_Insert.f a b c.f0 c.f1 c.f2 s = some (r1, r2, r3, r4) ∧ ((r4 = 31 ∧ Grown (n + 1) a b t) ∨ (r4 = 0 ∧ Grown (n + 1) r1 r2 (layP t r3))) := by
  obtain ⟨hr1, hr2, hr3⟩ := rootB_iff.1 h.root
  have hbl := h.len
  have hia := atS_le s a
  obtain ⟨c, g1, g2, g3, g4, g5, g6, g7⟩ := h.lf (atS s a) (by omega)
  have hfd : findB a b s = rd b (atS s a : Int) := by unfold findB; rw [if_pos h.root]
  have hno : rd b (atS s a : Int) ≠ 0 := by
    have := ((seen_iff.1 hr1).2 _ (mem_int (show atS s a < b.length by omega))).1
    omega
  have hok : okL a b c.f0 c.f1 c.f2 s = true := okL_iff.2 ⟨leafB_iff.2 ⟨g3, g4, g5⟩, by rw [hfd, g2], by rw [g2]; exact hno⟩
  have hlim : a.length ≤ 100000 ∧ b.length ≤ 100000 ∧ c.f1.length ≤ 100000 := ⟨by omega, by omega, by omega⟩
  refine ⟨a.length + 1, rd b (atS s a : Int), c, ?_⟩
  have hF : leaf_Find.f (a.length + 1) a b s = some (rd b (atS s a : Int)) := by rw [find_spec a b s (by omega) (by omega) (by omega), hfd]
  by_cases hf : fndS s c.f1 = true
  · refine ⟨[], [], [], 31, hF, g1, ?_, .inl ⟨rfl, h.more⟩⟩
    unfold leaf_Insert.f
    rw [if_pos hlim, if_neg (by rw [hok]; simp), if_neg (by omega), if_pos hf]
  · have hf' : fndS s c.f1 = false := by simpa using hf
    by_cases h4 : (insS s c.f1).length ≤ 4
    · refine ⟨a, b, _, 0, hF, g1, ?_, .inr ⟨rfl, grown_small h hs rfl (by omega) g2 g3 g5 g6 g7 hf' h4⟩⟩
      unfold leaf_Insert.f
      rw [if_pos hlim, if_neg (by rw [hok]; simp), if_neg (by omega), if_neg hf, if_pos h4, g2]
    · obtain ⟨m, hm, hm1, hm2⟩ := fresh_some b
      refine ⟨_, _, _, 0, hF, g1, ?_, .inr ⟨rfl, grown_split h hs rfl (by omega) g2 g3 g4 g5 g6 g7 hf' h4 hm1 hm2⟩⟩
      unfold leaf_Insert.f
      rw [if_pos hlim, if_neg (by rw [hok]; simp), if_neg (by omega), if_neg hf, if_neg h4, hm, g2]
      rfl
theorem pick_app (x y : ByteArray) (t : List (Int × S28)) : ∀ l1 l2 : List Int, pickP x y t (l1 ++ l2) = pickP x y t l1 ++ pickP x y t l2
  | [], l2 => rfl
  | no :: r, l2 => by
    show (match lkp no t with | some c => c.f1.filter (keepB x y) | none => []) ++ pickP x y t (r ++ l2) = ((match lkp no t with | some c => c.f1.filter (keepB x y) | none => []) ++ pickP x y t r) ++ pickP x y t l2
    rw [pick_app x y t r l2, List.append_assoc]
theorem pick_nil (x y : ByteArray) (t : List (Int × S28)) : ∀ l : List Int, (∀ no ∈ l, ∀ c, lkp no t = some c → ∀ e ∈ c.f1, keepB x y e = false) → pickP x y t l = []
  | [], _ => rfl
  | no :: r, h => by
    show (match lkp no t with | some c => c.f1.filter (keepB x y) | none => []) ++ pickP x y t r = []
    rw [pick_nil x y t r (fun n hn => h n (List.mem_cons_of_mem _ hn)), List.append_nil]
    cases hk : lkp no t with
    | none => rfl
    | some c =>
      refine List.filter_eq_nil_iff.2 fun e he => ?_
      rw [h no (by simp) c hk e he]
      simp
theorem keep_iff {x y e : ByteArray} : keepB x y e = true ↔ lessB e x = false ∧ lessB e y = true := by
  unfold keepB
  rw [Bool.and_eq_true, decide_eq_true_iff, decide_eq_true_iff, ord_ge, ord_lt]
section
variable {n : Nat} {a : List ByteArray} {b : List Int} {t : List (Int × S28)}
/-- Entry e of leaf i. -/
theorem Grown.at (h : Grown n a b t) {i : Nat} (hi : i < b.length) {c : S28} (hk : lkp (rd b (i : Int)) t = some c) {e : ByteArray} (he : e ∈ c.f1) : cntLe e a = i ∧ e.size ≤ 100 := by
  obtain ⟨d, g1, _, _, _, _, g6, g7⟩ := h.lf i hi
  rw [hk] at g1
  obtain rfl := Option.some.inj g1
  exact ⟨g6 e he, g7 e he⟩
theorem pick_range (h : Grown n a b t) (x y : ByteArray) : pickP x y t (rangeB a b x y) = pickP x y t b := by
  obtain ⟨hr1, hr2, hr3⟩ := rootB_iff.1 h.root
  unfold rangeB
  rw [if_pos h.root]
  by_cases hxy : lessB x y = true
  · rw [if_pos hxy]
    have hpq := at_lo hr3 hxy
    have hb : b = b.take (atS x a) ++ ((b.take (loS y a + 1)).drop (atS x a) ++ b.drop (loS y a + 1)) := by
      have e1 : (b.take (loS y a + 1)).take (atS x a) = b.take (atS x a) := by rw [List.take_take]; congr 1; omega
      rw [← List.append_assoc, ← e1, List.take_append_drop, List.take_append_drop]
    have h1 : pickP x y t (b.take (atS x a)) = [] := pick_nil x y t _ (fun no hno c hk e he => by
      obtain ⟨j, hj, ej⟩ := List.getElem_of_mem hno
      simp only [List.length_take] at hj
      rw [List.getElem_take, ← rd_getElem (show j < b.length by omega)] at ej
      subst ej
      have hc := (h.at (by omega) hk he).1
      cases hkp : keepB x y e with
      | false => rfl
      | true =>
        have := cnt_mono (keep_iff.1 hkp).1 a
        rw [cntLe_rise x hr3] at this
        omega)
    have h2 : pickP x y t (b.drop (loS y a + 1)) = [] := pick_nil x y t _ (fun no hno c hk e he => by
      obtain ⟨j, hj, ej⟩ := List.getElem_of_mem hno
      simp only [List.length_drop] at hj
      rw [List.getElem_drop, ← rd_getElem (show loS y a + 1 + j < b.length by omega)] at ej
      subst ej
      have hc := (h.at (by omega) hk he).1
      cases hkp : keepB x y e with
      | false => rfl
      | true =>
        have := at_lo hr3 (keep_iff.1 hkp).2
        rw [← cntLe_rise e hr3] at this
        omega)
    have h3 := congrArg (pickP x y t) hb
    rw [pick_app, pick_app, h1, h2, List.append_nil, List.nil_append] at h3
    exact h3.symm
  · rw [if_neg hxy]
    refine (pick_nil x y t b (fun no hno c hk e he => ?_)).symm
    cases hkp : keepB x y e with
    | false => rfl
    | true =>
      obtain ⟨k1, k2⟩ := keep_iff.1 hkp
      exact absurd (le_less k1 k2) hxy
/-- What is gathered from leaf i on: it rises, and no entry lies in an earlier leaf. -/
theorem pick_rise (h : Grown n a b t) (x y : ByteArray) : ∀ (d i : Nat), i + d = b.length → (pickP x y t (b.drop i)).Pairwise (fun u v => lessB u v = true) ∧ (∀ e ∈ pickP x y t (b.drop i), i ≤ cntLe e a ∧ e.size ≤ 100) ∧ (pickP x y t (b.drop i)).length ≤ 4 * d
  | 0, i, hd => by
    rw [List.drop_eq_nil_of_le (by omega)]
    exact ⟨List.Pairwise.nil, fun e he => by simp [pickP] at he, by simp [pickP]⟩
  | d + 1, i, hd => by
    have hi : i < b.length := by omega
    obtain ⟨h1, h2, h3⟩ := pick_rise h x y d (i + 1) (by omega)
    obtain ⟨c, g1, g2, g3, g4, g5, g6, g7⟩ := h.lf i hi
    rw [drop_int hi]
    have e1 : pickP x y t (rd b (i : Int) :: b.drop (i + 1)) = c.f1.filter (keepB x y) ++ pickP x y t (b.drop (i + 1)) := by
      simp only [pickP, g1]
    rw [e1]
    refine ⟨List.pairwise_append.2 ⟨(riseB_pairwise.1 g5).filter _, h1, fun u hu v hv => ?_⟩, fun e he => ?_, ?_⟩
    · have hu1 := g6 u (List.mem_filter.1 hu).1
      have hv1 := (h2 v hv).1
      exact less_of_cnt (a := a) (by omega)
    · rcases List.mem_append.1 he with he | he
      · have := g6 e (List.mem_filter.1 he).1
        exact ⟨by omega, g7 e (List.mem_filter.1 he).1⟩
      · have := h2 e he
        exact ⟨by omega, this.2⟩
    · rw [List.length_append]
      have := List.length_filter_le (keepB x y) c.f1
      omega
end
theorem texts_self (l : List ByteArray) (hl : l.length ≤ 100000) : ∀ (d k i : Nat), i + d = l.length → d < k → cobwebref11_Texts.l0 k l l (i : Int) = some true := by
  intro d
  induction d with
  | zero =>
    intro k i hi hk
    obtain ⟨k, rfl⟩ : ∃ m, k = m + 1 := ⟨k - 1, by omega⟩
    simp only [cobwebref11_Texts.l0]
    rw [if_neg (by omega)]
  | succ d ih =>
    intro k i hi hk
    obtain ⟨k, rfl⟩ : ∃ m, k = m + 1 := ⟨k - 1, by omega⟩
    simp only [cobwebref11_Texts.l0]
    rw [if_pos (by omega), if_pos (by omega), if_pos (by omega), if_pos trivial, w64 (by omega) (by omega)]
    exact ih k (i + 1) (by omega) (by omega)
theorem spans_plain (x y : ByteArray) : SpanPlain x y (fun n a b t => n ≤ 60 ∧ Grown n a b t) := by
  refine ⟨⟨by omega, grown_start⟩, fun n a b t s hn hs h => ?_, fun n a b t h => ?_⟩
  · obtain ⟨k, no, c, r1, r2, r3, r4, h1, h2, h3, h4⟩ := grown_step n a b t s hn hs h.2
    refine ⟨k, no, c, r1, r2, r3, r4, h1, h2, h3, ?_⟩
    rcases h4 with ⟨e, g⟩ | ⟨e, g⟩
    · exact .inl ⟨e, by omega, g⟩
    · exact .inr ⟨e, by omega, g⟩
  · obtain ⟨hn, h⟩ := h
    have hbl := h.len
    obtain ⟨hr1, hr2, hr3⟩ := rootB_iff.1 h.root
    have hsub : ∀ no ∈ rangeB a b x y, no ∈ b := fun no hno => by
      unfold rangeB at hno
      split at hno
      · split at hno
        · exact List.mem_of_mem_take (List.mem_of_mem_drop hno)
        · cases hno
      · cases hno
    have hall : ∀ no ∈ b, ∃ c, lkp no t = some c := fun no hno => by
      obtain ⟨j, hj, e⟩ := List.getElem_of_mem hno
      rw [← rd_getElem hj] at e
      subst e
      obtain ⟨c, g, _⟩ := h.lf j hj
      exact ⟨c, g⟩
    have hlen : (rangeB a b x y).length ≤ 1000 := by
      unfold rangeB
      split
      · split
        · simp; omega
        · simp
      · simp
    obtain ⟨p1, p2, p3⟩ := pick_rise h x y b.length 0 (by omega)
    rw [List.drop_zero] at p1 p2 p3
    have hT : cobwebref11_Texts.f 10002 (pickP x y t b) (pickP x y t b) = some true := by
      unfold cobwebref11_Texts.f
      rw [if_pos rfl]
      exact texts_self _ (by omega) (pickP x y t b).length 10002 0 (by omega) (by omega)
    have hR : cobwebref11_Rise.f 10002 (pickP x y t b) = some true := by
      rw [ref_rise _ (by omega) (fun s hs => by have := (p2 s hs).2; omega) (by omega), riseB_pairwise.2 p1]
    refine ⟨10002, rangeB a b x y, range_spec a b x y (by omega) (by omega) (k := 10000) (by omega), fun no hno => hall no (hsub no hno), hall, fun p hp => ?_, hlen, by omega, ?_, hR⟩
    · have := h.tab p hp
      exact ⟨by omega, fun s hs => by have := this.2 s hs; omega⟩
    · rw [pick_range h x y]
      exact hT
end Go.Proofs.Ytneagipmllgejaa.PL
end
section
namespace Go.Proofs.Ytneagipmllgejaa
theorem leafSpans_holds : Rows.LeafSpansSaid := leafSpans.over (fun x y _ _ => ⟨_, PL.spans_plain x y⟩)
end Go.Proofs.Ytneagipmllgejaa
end
#print axioms Go.Proofs.Ytneagipmllgejaa.leafSpans_holds
