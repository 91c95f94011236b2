/- chunk.fresh, with slices.ContainsFunc, slices.IndexFunc at chunks. -/
import Derived.Test.YtfbegchhgigjeaaHKit
namespace Go.Proofs.Ytfbegchhgigjeaa.PC
open Go.Shelf Go.RowKit Go.Proofs.YtfbegchhgigjeaaW.PrintWords Go.Proofs.YtfbegchhgigjeaaW.PrintLast Go.Proofs.YtfbegchhgigjeaaW.PrintMore Go.Proofs.YtfbegchhgigjeaaH
set_option linter.unusedVariables false
set_option linter.unusedSimpArgs false

theorem drop_c {l0 : List S39} {i : Nat} (h : i < l0.length) : l0.drop i = rd_T39 l0 i :: l0.drop (i + 1) := by
  rw [List.drop_eq_getElem_cons h]
  congr 1
  simp [rd_T39, List.getD_eq_getElem?_getD, List.getElem?_eq_getElem h]
/-- The place of the first that meets p; -1: none does. -/
def idxFrom {α : Type} (p : α → Bool) (i : Int) : List α → Int
  | [] => -1
  | x :: r => if p x then i else idxFrom p (i + 1) r
theorem idxFrom_nonneg {α : Type} (p : α → Bool) : ∀ (l : List α) (i : Int), 0 ≤ i → decide (0 ≤ idxFrom p i l) = l.any p
  | [], i, h => by simp [idxFrom]
  | x :: r, i, h => by
    unfold idxFrom
    split
    · rename_i hp; simp [hp, h]
    · rename_i hp
      rw [idxFrom_nonneg p r (i + 1) (by omega)]
      simp [hp]

/-- What is asked of a predicate on chunks. -/
def PredC (g : Nat) (lb : Array Value) (p : S39 → Bool) (w : World) : Prop :=
  ∀ (W : World) (x : S39) (A1 : Option Addr) (c1 : Nat), Below w.heap.size w W → Calls Try.prog g (#[.agg #[.int .i64 x.f0, .slice A1 x.f1.length c1, .int .i64 x.f2, .bool x.f3]] ++ lb) W fun e w' => e = .returned (.bool (p x)) ∧ Below W.heap.size W w'

set_option maxHeartbeats 1000000 in
set_option maxRecDepth 100000 in
theorem indexC (p : S39 → Bool) (g : Nat) (lb : Array Value) (eg : ∀ args w, (callFunc g args).run Try.prog w = .ok (.enter g args) w) (A0 : Option Addr) (c0 : Nat) (l0 : List S39) (w : World) (hr0 : Kd.C k39 w A0 l0.length l0) (hp : PredC g lb p w) :
    Calls Try.prog 55 #[.slice A0 l0.length c0, .func (.func g) #[] lb] w fun e w' => e = .returned (.int .i64 (idxFrom p 0 l0)) ∧ Below w.heap.size w w' := by
  have hu39 := Try.underlying39
  have HR0 := Aside0.mk hr0
  have hm := hr0.2.1
  have HP := Lib.hid hp
  clear hr0 hp
  obtain ⟨r, hr⟩ : ∃ r, r = idxFrom p 0 l0 := ⟨_, rfl⟩
  rw [← hr]
  have H0 := Aside0.mk hr
  clear hr
  go_enter Try.func55, Try.ntmps55
  go_wp2
  go_loopg [8] l0.length (fun d v8 w' => ∃ (i : Nat), v8 = .int .i64 i ∧ i ≤ l0.length ∧ Aside0 (d = l0.length - i) ∧ Aside0 (r = idxFrom p i (l0.drop i)) ∧ Aside0 (Below w.heap.size w w'))
  case atStart => exact ⟨0, rfl, Nat.zero_le _, ⟨rfl⟩, H0, ⟨Below.refl _ _⟩⟩
  case round =>
    obtain ⟨i, rfl, hi, HD, HA, HB⟩ := hrel
    by_cases hlt : i < l0.length
    · have hcons := Aside0.mk (drop_c hlt)
      obtain ⟨ad, A1, c1, e1, hx0, hx1, hx2, hx3, hl1, hi1⟩ := at_T39 HR0.out (i : Int) (by omega) (by omega)
      subst e1
      replace hx0 := (HB.out.cell (World.block_lt_of_cell? w _ hx0)).trans hx0
      replace hx1 := (HB.out.cell (World.block_lt_of_cell? w _ hx1)).trans hx1
      replace hx2 := (HB.out.cell (World.block_lt_of_cell? w _ hx2)).trans hx2
      replace hx3 := (HB.out.cell (World.block_lt_of_cell? w _ hx3)).trans hx3
      simp only [Int.toNat_natCast] at hx0 hx1 hx2 hx3
      clear hl1 hi1
      generalize rd_T39 l0 (i : Int) = c at *
      have hcall := HP.out wr c A1 c1 HB.out
      have HC := Lib.hid hcall
      clear hcall
      cases hq : p c with
      | true =>
        have hri : r = i := by rw [HA.out, hcons.out]; simp [idxFrom, hq]
        have HQ := Lib.hid hq
        have HRI := Lib.hid hri
        clear hq hri
        go_wp2_with (go_at_fn g; refine HC.out.mono ?_; rintro e w' ⟨rfl, hb'⟩; rw [HQ.out])
        go_ret
        exact ⟨by rw [HRI.out]; rfl, below_then HB.out HB.out.size ‹_›⟩
      | false =>
        have HQ := Lib.hid hq
        have HRI := Aside0.mk (show r = idxFrom p (i + 1 : Nat) (l0.drop (i + 1)) by rw [HA.out, hcons.out]; simp [idxFrom, hq])
        clear hq
        go_wp2_with (go_at_fn g; refine HC.out.mono ?_; rintro e w' ⟨rfl, hb'⟩; rw [HQ.out]; have HB' := Aside0.mk (below_then HB.out HB.out.size hb'); clear hb')
        go_roundg (l0.length - (i + 1))
        case measure => have := HD.out; omega
        case rel => exact ⟨i + 1, by go_num, by omega, ⟨rfl⟩, HRI, HB'⟩
    · have hri : r = -1 := by rw [HA.out, List.drop_eq_nil_of_le (by omega)]; rfl
      have HRI := Lib.hid hri
      clear hri
      go_wp2
      go_ret
      exact ⟨by rw [HRI.out]; rfl, HB.out⟩

set_option maxHeartbeats 1000000 in
theorem containsC (p : S39 → Bool) (g : Nat) (lb : Array Value) (eg : ∀ args w, (callFunc g args).run Try.prog w = .ok (.enter g args) w) (A0 : Option Addr) (c0 : Nat) (l0 : List S39) (w : World) (hr0 : Kd.C k39 w A0 l0.length l0) (hp : PredC g lb p w) :
    Calls Try.prog 49 #[.slice A0 l0.length c0, .func (.func g) #[] lb] w fun e w' => e = .returned (.bool (l0.any p)) ∧ Below w.heap.size w w' := by
  rw [← idxFrom_nonneg p l0 0 (by omega)]
  generalize hr : idxFrom p 0 l0 = r
  have HC := Lib.hid (indexC p g lb eg A0 c0 l0 w hr0 hp)
  rw [hr] at HC
  clear hr hr0 hp
  go_enter Try.func49, Try.ntmps49
  go_wp2_with (go_at_call 55; refine HC.out.mono ?_; rintro e w' ⟨rfl, hb'⟩)
  go_ret
  exact ⟨rfl, ‹_›⟩

set_option maxHeartbeats 1000000 in
theorem fresh1 (n : Int) (B : Nat) (W : World) (hc : W.cell? ⟨B, 0, none⟩ = some (.int .i64 n)) (x : S39) (A1 : Option Addr) (c1 : Nat) :
    Calls Try.prog 50 #[.agg #[.int .i64 x.f0, .slice A1 x.f1.length c1, .int .i64 x.f2, .bool x.f3], .pointer (some ⟨B, 0, none⟩)] W fun e w' => e = .returned (.bool (x.f0 == n)) ∧ Below W.heap.size W w' := by
  have hu39 := Try.underlying39
  have hlt := World.block_lt_of_cell? W _ hc
  simp only at hlt
  go_enter Try.func50, Try.ntmps50
  go_wp2
  go_ret
  exact ⟨rfl, below_alloc (Below.refl _ _) _⟩

def freshNo (l : List S39) : Nat → Int → Option Int
  | 0, _ => none
  | f + 1, n => if l.any (fun c => c.f0 == n) then freshNo l f (n + 1) else some n
def chunk_fresh.f (l0 : List S39) : Option Int := if l0.length ≤ 1000000 then freshNo l0 (l0.length + 1) 1 else none

set_option maxHeartbeats 1000000 in
theorem chunk_fresh.calls (A0 : Option Addr) (c0 : Nat) (l0 : List S39) (r : Int) (w : World) (hr0 : Kd.C k39 w A0 l0.length l0) (hc0 : l0.length ≤ c0) (h : chunk_fresh.f l0 = some r) :
    Calls Try.prog 32 #[.slice A0 l0.length c0] w fun e w' => e = .returned (.int .i64 r) ∧ Below w.heap.size w w' := by
  have HR0 := Aside0.mk hr0
  unfold chunk_fresh.f at h
  split at h
  case isFalse => cases h
  case isTrue hm =>
  have H0 := Aside0.mk h
  clear hr0 h hc0
  have eg := enters_of Try.func50 (by kernel_rfl) rfl
  go_enter Try.func32, Try.ntmps32
  go_wp2
  go_loopg [] (l0.length + 1) (fun d w' => ∃ (n : Int), Aside0 (1 ≤ n ∧ n + d = l0.length + 2) ∧ Aside0 (freshNo l0 d n = some r) ∧ Aside0 (w'.heap[w.heap.size]? = some (.cells #[.int .i64 n] 3 (0, 0))) ∧ Aside0 (Below w.heap.size w w'))
  case atStart => exact ⟨1, ⟨by omega, by omega⟩, H0, ⟨heap_alloc_new _ _⟩, ⟨below_alloc (Below.refl _ _) _⟩⟩
  case round =>
    obtain ⟨n, HD, HA, HX, HB⟩ := hrel
    cases gk with
    | zero => exact absurd HA.out (by simp [freshNo])
    | succ k =>
    have hn1 : 1 ≤ n := HD.out.1
    have hn2 : n ≤ l0.length + 1 := by have := HD.out.2; omega
    have HC := Lib.hid (fun hp => containsC (fun c => c.f0 == n) 50 #[.pointer (some ⟨w.heap.size, 0, none⟩)] eg A0 c0 l0 wr (Kd.C_below HR0.out HB.out) hp)
    have HP : Hid (PredC 50 #[.pointer (some ⟨w.heap.size, 0, none⟩)] (fun c => c.f0 == n) wr) := fun W x A1 c1 hb => fresh1 n w.heap.size W ((hb.cell (p := ⟨w.heap.size, 0, none⟩) (Array.getElem?_eq_some_iff.1 HX.out).1).trans ((blk_cell HX.out 0).trans rfl)) x A1 c1
    cases hq : l0.any (fun c => c.f0 == n) with
    | true =>
      have HA2 := HA.out
      simp only [freshNo, hq, if_true] at HA2
      have HA3 := Aside0.mk HA2
      have HQ := Lib.hid hq
      clear HA2 hq
      go_wp2_with (first | (go_at_call 49; refine (HC.out HP.out).mono ?_; rintro e w1 ⟨rfl, hb'⟩; rw [HQ.out]; have HB1 := Aside0.mk (below_then HB.out HB.out.size hb'); have HX1 := Aside0.mk (blk_below HX.out hb'); have hcc : w1.cell? ⟨w.heap.size, 0, none⟩ = some (.int .i64 n) := (blk_cell HX1.out 0).trans rfl; clear hb') | ((with_reducible refine gate_store (t := 3) (p := 3) rfl ?_); refine store_cell rfl rfl rfl w.heap.size 0 _ 3 rfl (.int .i64 (n + 1)) rfl rfl HX1.out (by simp) (by kernel_rfl) rfl ?_; intro w2 hx2 hg2 hz2; have HX2 := Aside0.mk hx2; have HB2 := Aside0.mk (below_own HB1.out hg2 (Nat.le_refl _) HB1.out.size); clear hx2 hg2 hz2))
      go_roundg k
      case measure => omega
      case rel => exact ⟨n + 1, ⟨by omega, by have := HD.out.2; omega⟩, HA3, ⟨HX2.out⟩, HB2⟩
    | false =>
      have HA2 := HA.out
      simp only [freshNo, hq, Bool.false_eq_true, if_false] at HA2
      have HA3 := Lib.hid (Option.some.inj HA2)
      have HQ := Lib.hid hq
      clear HA2 hq
      go_wp2_with (go_at_call 49; refine (HC.out HP.out).mono ?_; rintro e w1 ⟨rfl, hb'⟩; rw [HQ.out]; have HB1 := Aside0.mk (below_then HB.out HB.out.size hb'); have HX1 := Aside0.mk (blk_below HX.out hb'); have hcc : w1.cell? ⟨w.heap.size, 0, none⟩ = some (.int .i64 n) := (blk_cell HX1.out 0).trans rfl; clear hb')
      go_ret
      exact ⟨by rw [← HA3.out]; rfl, HB1.out⟩
end Go.Proofs.Ytfbegchhgigjeaa.PC
