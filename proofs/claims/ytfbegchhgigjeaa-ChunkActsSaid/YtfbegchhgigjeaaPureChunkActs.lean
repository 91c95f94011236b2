/- ChunkActs, in plain lists: whatever ids are laid and taken out, a chain has just those ids. -/
import Derived.Test.YtfbegchhgigjeaaC48
import Derived.Test.YtfbegchhgigjeaaPureChunkOrders
import Derived.Test.YtfbegchhgigjeaaHShrink
set_option linter.unusedVariables false
set_option linter.unusedSimpArgs false
namespace Go.Proofs.Ytfbegchhgigjeaa.Pure
open Go.RowKit Go.Proofs.Ytfbegchhgigjeaa.PC Go.Proofs.YtfbegchhgigjeaaW.PrintWords Go.Proofs.YtfbegchhgigjeaaW.PrintLast
theorem has_from (l : List Int) (x : Int) (hl : l.length ≤ 1000000) : ∀ (d k i : Nat), i + d = l.length → d < k → cobwebref10_Has.l0 k l x (i : Int) = some ((l.drop i).contains x) := by
  intro d
  induction d with
  | zero =>
    intro k i hi hk
    obtain ⟨k, rfl⟩ : ∃ m, k = m + 1 := ⟨k - 1, by omega⟩
    simp only [cobwebref10_Has.l0]
    rw [if_neg (by omega), List.drop_eq_nil_of_le (by omega)]
    rfl
  | succ d ih =>
    intro k i hi hk
    obtain ⟨k, rfl⟩ : ∃ m, k = m + 1 := ⟨k - 1, by omega⟩
    simp only [cobwebref10_Has.l0]
    rw [if_pos (by omega), if_pos (by omega), w64 (by omega) (by omega), show (i : Int) + 1 = ((i + 1 : Nat) : Int) by omega, drop_rd (by omega)]
    by_cases h : rd l (i : Int) = x
    · rw [if_pos h]; simp [h]
    · rw [if_neg h, ih k (i + 1) (by omega) (by omega)]
      have h2 : ¬ x = rd l (i : Int) := fun e => h e.symm
      simp [h2]
theorem has_spec (l : List Int) (x : Int) (hl : l.length ≤ 1000000) {k : Nat} (hk : l.length < k) : cobwebref10_Has.f k l x = some (l.contains x) := by
  have := has_from l x hl l.length k 0 (by omega) hk
  simpa [cobwebref10_Has.f] using this
/-- What the law's own list of ids becomes. -/
def nx (id : Int) : Bool → List Int → List Int
  | b, [] => if b = true then [] else [id]
  | b, y :: r => if y > id ∧ b = false then id :: (if y = id then nx id true r else y :: nx id true r) else if y = id then nx id b r else y :: nx id b r
theorem nx_true (id : Int) : ∀ l : List Int, nx id true l = without id l
  | [] => rfl
  | y :: r => by
    simp only [nx]
    rw [if_neg (by simp), nx_true id r]
    by_cases h : y = id
    · rw [if_pos h]; simp [without, h]
    · rw [if_neg h]; simp [without, h]
theorem without_of {id : Int} {l : List Int} (h : id ∉ l) : without id l = l := by
  unfold without
  rw [List.filter_eq_self]
  intro x hx
  have : x ≠ id := fun e => h (e ▸ hx)
  simp [this]
theorem nx_false (id : Int) : ∀ {l : List Int}, l.Pairwise (· < ·) → id ∉ l → nx id false l = putAt id l
  | [], _, _ => rfl
  | y :: r, h, hn => by
    obtain ⟨h1, h2⟩ := List.pairwise_cons.1 h
    have hne : y ≠ id := fun e => hn (by simp [e])
    have hr : id ∉ r := fun e => hn (List.mem_cons_of_mem _ e)
    simp only [nx]
    by_cases hy : y > id
    · rw [if_pos ⟨hy, trivial⟩, if_neg hne, nx_true, without_of hr]
      have : ¬ y < id := by omega
      simp [putAt, this]
    · rw [if_neg (fun e => hy e.1), if_neg hne, nx_false id h2 hr]
      have : y < id := by omega
      simp [putAt, this]
theorem ids_loop (acts : List Int) (l : List S39) (ids : List Int) (n id : Int) (hl : ids.length ≤ 300) : ∀ (m k j : Nat) (acc : List Int) (b : Bool) (K : Nat), j + m = ids.length → 2 * m + 2 + K ≤ k → acc.length + 2 * m ≤ 1000 →
    ∃ k', K ≤ k' ∧ cobweblaw10_ChunkActs.l1 k acts l ids n id acc b (j : Int) = cobweblaw10_ChunkActs.j6 k' acts l n (acc ++ nx id b (ids.drop j)) := by
  intro m
  induction m with
  | zero =>
    intro k j acc b K hj hk ha
    obtain ⟨k, rfl⟩ : ∃ q, k = q + 1 := ⟨k - 1, by omega⟩
    simp only [cobweblaw10_ChunkActs.l1]
    rw [if_neg (by omega), List.drop_eq_nil_of_le (by omega)]
    cases b
    · rw [if_neg (by decide), if_pos (by omega)]
      exact ⟨k, by omega, rfl⟩
    · rw [if_pos rfl]
      exact ⟨k, by omega, by simp [nx]⟩
  | succ m ih =>
    intro k j acc b K hj hk ha
    obtain ⟨k, rfl⟩ : ∃ q, k = q + 2 := ⟨k - 2, by omega⟩
    have hd := drop_rd (l := ids) (j := j) (by omega)
    simp only [cobweblaw10_ChunkActs.l1, cobweblaw10_ChunkActs.j5]
    rw [if_pos (by omega), if_pos (by omega), hd, w64 (x := (j : Int) + 1) (by omega) (by omega), show (j : Int) + 1 = ((j + 1 : Nat) : Int) by omega]
    have hb : (0 : Int) ≤ (j : Int) := by omega
    have hb2 : (j : Int) < (ids.length : Int) := by omega
    simp only [nx, if_pos hb, if_pos hb2, Option.bind_some]
    by_cases hy : rd ids (j : Int) > id
    · rw [if_pos hy]
      have hne : ¬ rd ids (j : Int) = id := by omega
      cases b
      · simp only [Bool.not_false, if_true, if_neg hne, and_true]
        rw [if_pos (by omega), if_pos (by simp; omega), if_pos hy]
        obtain ⟨k', h1, h2⟩ := ih k (j + 1) (acc ++ [id] ++ [rd ids (j : Int)]) true K (by omega) (by omega) (by simp; omega)
        exact ⟨k', h1, by rw [h2]; simp⟩
      · simp only [Bool.not_true, Bool.false_eq_true, if_false, if_neg hne]
        rw [if_pos (by omega), if_neg (by simp)]
        obtain ⟨k', h1, h2⟩ := ih k (j + 1) (acc ++ [rd ids (j : Int)]) true K (by omega) (by omega) (by simp; omega)
        exact ⟨k', h1, by rw [h2]; simp⟩
    · rw [if_neg hy]
      have hng : ¬ (rd ids (j : Int) > id ∧ b = false) := fun e => hy e.1
      simp only [Bool.false_eq_true, if_false]
      rw [if_neg hng]
      by_cases he : rd ids (j : Int) = id
      · rw [if_pos he, if_pos he]
        obtain ⟨k', h1, h2⟩ := ih k (j + 1) acc b K (by omega) (by omega) (by omega)
        exact ⟨k', h1, h2⟩
      · rw [if_neg he, if_neg he, if_pos (by omega)]
        obtain ⟨k', h1, h2⟩ := ih k (j + 1) (acc ++ [rd ids (j : Int)]) b K (by omega) (by omega) (by simp; omega)
        exact ⟨k', h1, by rw [h2]; simp⟩
def key64 (x : Int) : Int := Int.tmod (wrap64 (Int.tmod x 64 + 64)) 64
theorem key64_range (x : Int) : 0 ≤ key64 x ∧ key64 x < 64 := by
  have h1 := Int.tmod_lt_of_pos x (b := 64) (by omega)
  have h2 := Int.lt_tmod_of_pos x (b := 64) (by omega)
  unfold key64
  rw [w64 (by omega) (by omega)]
  exact ⟨Int.tmod_nonneg _ (by omega), Int.tmod_lt_of_pos _ (by omega)⟩
theorem acts_loop (acts : List Int) (hn : acts.length ≤ 150) : ∀ (d k i : Nat) (l : List S39), i + d = acts.length → 1000 * d + 2000 ≤ k → Chain l → l.length ≤ i → (idsOf l).length ≤ i → cobweblaw10_ChunkActs.l0 k acts l (idsOf l) (i : Int) = some true := by
  intro d
  induction d with
  | zero =>
    intro k i l hi hk H h1 h2
    obtain ⟨k, rfl⟩ : ∃ q, k = q + 1 := ⟨k - 1, by omega⟩
    simp only [cobweblaw10_ChunkActs.l0]
    rw [if_neg (by omega)]
  | succ d ih =>
    intro k i l hi hk H h1 h2
    obtain ⟨k, rfl⟩ : ∃ q, k = q + 3 := ⟨k - 3, by omega⟩
    obtain ⟨r1, r2⟩ := key64_range (rd acts (i : Int))
    have fin : ∀ (ch l' : List S39) (b : Bool), chunk_Apply.f l ch = some l' → Chain l' → l'.length ≤ i + 1 → (idsOf l').length ≤ i + 1 → 1 ≤ ch.length → ch.length ≤ 2 → nx (key64 (rd acts (i : Int))) b (idsOf l) = idsOf l' → cobweblaw10_ChunkActs.j2 (k + 2) acts l (idsOf l) (i : Int) (key64 (rd acts (i : Int))) b ch 0 = some true := by
      intro ch l' b hap H' g1 g2 g3 g4 hnx
      simp only [cobweblaw10_ChunkActs.j2, cobweblaw10_ChunkActs.j3]
      rw [if_pos trivial, if_neg (by omega), if_neg (by simp; omega), hap]
      simp only [Option.bind_some]
      obtain ⟨K, hK⟩ : ∃ K, K = 1000 * d + 2001 := ⟨_, rfl⟩
      have hlen0 : ([] : List Int).length = 0 := rfl
      obtain ⟨k', hk', hl1⟩ := ids_loop acts l' (idsOf l) (i : Int) (key64 (rd acts (i : Int))) (by omega) (idsOf l).length k 0 [] b K (by omega) (by omega) (by omega)
      rw [show ((0 : Nat) : Int) = 0 from rfl] at hl1
      rw [hl1]
      simp only [List.nil_append, List.drop_zero]
      rw [hnx]
      obtain ⟨k'', rfl⟩ : ∃ q, k' = q + 1 := ⟨k' - 1, by omega⟩
      simp only [cobweblaw10_ChunkActs.j6]
      rw [right_iff.2 H']
      simp only [Option.bind_some, if_true]
      rw [IDs_spec l' (by omega) (by omega) k'' (by omega)]
      simp only [Option.bind_some]
      rw [ints_self _ (by omega) (by omega)]
      simp only [Option.bind_some, if_true]
      rw [w64 (by omega) (by omega), show (i : Int) + 1 = ((i + 1 : Nat) : Int) by omega]
      exact ih k'' (i + 1) l' (by omega) (by omega) H' g1 g2
    rw [show k + 3 = (k + 2) + 1 by omega]
    simp only [cobweblaw10_ChunkActs.l0]
    rw [if_pos (by omega), if_pos (by omega)]
    change (cobwebref10_Has.f (k + 2) (idsOf l) (key64 (rd acts (i : Int)))).bind (fun t418 => if t418 = true then (chunk_Remove.f l (key64 (rd acts (i : Int)))).bind (fun bt419 => cobweblaw10_ChunkActs.j2 (k + 2) acts l (idsOf l) (i : Int) (key64 (rd acts (i : Int))) t418 bt419.1 bt419.2) else (chunk_Insert.f l (key64 (rd acts (i : Int)))).bind (fun bt423 => cobweblaw10_ChunkActs.j2 (k + 2) acts l (idsOf l) (i : Int) (key64 (rd acts (i : Int))) t418 bt423.1 bt423.2)) = some true
    rw [has_spec _ _ (by omega) (by omega)]
    simp only [Option.bind_some]
    by_cases hm : key64 (rd acts (i : Int)) ∈ idsOf l
    · have hc : (idsOf l).contains (key64 (rd acts (i : Int))) = true := by simpa using hm
      rw [hc, if_pos rfl]
      obtain ⟨ch, l', e1, e2, e3, e4, e5, e6, e7, e8⟩ := remove_shrink H (by omega) hm
      rw [e1]
      simp only [Option.bind_some]
      refine fin ch l' true e2 e3 (by omega) (by omega) e7 e8 ?_
      rw [nx_true]
      refine rise_eq (H.rise.sublist List.filter_sublist) e3.rise fun x => ?_
      rw [e4, mem_without]
    · have hc : (idsOf l).contains (key64 (rd acts (i : Int))) = false := by simpa using hm
      rw [hc, if_neg (by decide)]
      obtain ⟨ch, l', e1, e2, e3, e4, e5, e6, e7, e8⟩ := insert_grow H r1 (by omega) (by omega) (by omega) hm
      rw [e1]
      simp only [Option.bind_some]
      refine fin ch l' false e2 e3 (by omega) (by omega) e7 e8 ?_
      rw [nx_false _ H.rise hm]
      refine rise_eq (putAt_rise H.rise hm) e3.rise fun x => ?_
      rw [e4, mem_putAt]
theorem ChunkActs : cobweblaw10_ChunkActs.Pure := by
  intro acts _ _ _
  refine ⟨200001, ?_⟩
  unfold cobweblaw10_ChunkActs.f
  rw [awake_true _ (by omega)]
  simp only [Option.bind_some, if_true]
  by_cases hl : acts.length ≤ 150
  · rw [show (200001 : Nat) = 200000 + 1 by omega]
    simp only [cobweblaw10_ChunkActs.j0]
    rw [if_neg (by simp; omega)]
    exact acts_loop acts hl acts.length 200000 0 [] (by omega) (by omega) Has.nil.chain (by simp) (by simp [idsOf])
  · rw [show (200001 : Nat) = 200000 + 1 by omega]
    simp only [cobweblaw10_ChunkActs.j0]
    rw [if_pos (by simp; omega), awake_true _ (by omega)]
    rfl
end Go.Proofs.Ytfbegchhgigjeaa.Pure
