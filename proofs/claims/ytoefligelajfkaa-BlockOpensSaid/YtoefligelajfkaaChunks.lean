import Derived.Test.YtoefligelajfkaaValidSpec
import Derived.Test.YtoefligelajfkaaBOpen
namespace Go.Proofs.Ytoefligelajfkaa.Block
open Go.Proofs.Ytoefligelajfkaa.PBlockOpens Go.Proofs.Ytoefligelajfkaa.Press

/-- The pieces of a row from a place on. -/
def chunksR (l : List Int) (size : Nat) : Nat → Nat → List (List Int)
  | 0, _ => []
  | k + 1, at_ => if at_ < l.length then pieceAt l size at_ :: chunksR l size k (at_ + size) else []
def blocksR : Nat → List (List Int) → List S58
  | _, [] => []
  | n, p :: t => blockS n p :: blocksR (n + (pieceS p).length) t
def catS : List (List Int) → List Int
  | [] => []
  | p :: t => pieceS p ++ catS t

theorem bpR_eq (l : List Int) (size : Nat) : ∀ (k at_ : Nat) (out : List Int) (bl : List S58), bpR l size k out bl at_ = (out ++ catS (chunksR l size k at_), bl ++ blocksR out.length (chunksR l size k at_)) := by
  intro k
  induction k with
  | zero => intro at_ out bl; simp [bpR, chunksR, catS, blocksR]
  | succ k ih =>
    intro at_ out bl
    rw [bpR, chunksR]
    split
    · rw [ih, catS, blocksR, List.length_append, List.append_assoc, List.append_assoc]; rfl
    · simp [catS, blocksR]

theorem chunks_flat (l : List Int) (size : Nat) (hs : 1 ≤ size) : ∀ (k at_ : Nat), l.length ≤ at_ + k → (chunksR l size k at_).flatten = l.drop at_ := by
  intro k
  induction k with
  | zero => intro at_ h; rw [chunksR, List.drop_eq_nil_of_le (by omega)]; rfl
  | succ k ih =>
    intro at_ h
    rw [chunksR]
    split
    · rw [List.flatten_cons, ih _ (by omega), pieceAt]
      by_cases hm : size ≤ l.length - at_
      · rw [Nat.min_eq_left hm]
        rw [← List.drop_drop, List.take_append_drop]
      · rw [Nat.min_eq_right (by omega), show l.drop (at_ + size) = [] from List.drop_eq_nil_of_le (by omega), List.append_nil, List.take_of_length_le (by simp)]
    · rw [List.drop_eq_nil_of_le (by omega)]; rfl
theorem chunks_mem (l : List Int) (size : Nat) (hs : 1 ≤ size) : ∀ (k at_ : Nat) (p : List Int), p ∈ chunksR l size k at_ → 1 ≤ p.length ∧ p.length ≤ size ∧ ∀ x ∈ p, x ∈ l := by
  intro k
  induction k with
  | zero => intro at_ p h; simp [chunksR] at h
  | succ k ih =>
    intro at_ p h
    rw [chunksR] at h
    split at h
    · rcases List.mem_cons.1 h with rfl | h
      · refine ⟨?_, ?_, fun x hx => List.mem_of_mem_drop (List.mem_of_mem_take hx)⟩ <;> rw [pieceAt_length] <;> omega
      · exact ih _ _ h
    · simp at h
theorem chunks_len (l : List Int) (size : Nat) (hs : 1 ≤ size) : ∀ (k at_ : Nat), at_ ≤ l.length → l.length ≤ at_ + k → (chunksR l size k at_).length = (l.length - at_ + size - 1) / size := by
  intro k
  induction k with
  | zero =>
    intro at_ h0 h
    rw [chunksR, show l.length - at_ = 0 by omega, Nat.div_eq_of_lt (by omega)]; rfl
  | succ k ih =>
    intro at_ h0 h
    rw [chunksR]
    split
    · rename_i hlt
      rw [List.length_cons]
      by_cases hm : at_ + size ≤ l.length
      · rw [ih _ hm (by omega), show l.length - at_ + size - 1 = (l.length - (at_ + size) + size - 1) + size by omega, Nat.add_div_right _ (by omega)]
      · have e : chunksR l size k (at_ + size) = [] := by
          cases k with
          | zero => rfl
          | succ k => rw [chunksR, if_neg (by omega)]
        rw [e, show l.length - at_ + size - 1 = (l.length - at_ - 1) + size by omega, Nat.add_div_right _ (by omega), Nat.div_eq_of_lt (by omega)]; rfl
    · rw [show l.length - at_ = 0 by omega, Nat.div_eq_of_lt (by omega)]; rfl
theorem blocks_len : ∀ (cs : List (List Int)) (n : Nat), (blocksR n cs).length = cs.length := by
  intro cs
  induction cs with
  | nil => intro n; rfl
  | cons p t ih => intro n; rw [blocksR, List.length_cons, ih, List.length_cons]

theorem pieceS_pos {p : List Int} (h1 : 1 ≤ p.length) (h2 : p.length ≤ 4096) : 1 ≤ (pieceS p).length := by
  unfold pieceS
  split
  · exact h1
  · have h := pack_unpack p h2
    cases e : (packS p).1 with
    | nil =>
      rw [e] at h
      have h0 : unpackS [] p.length = ([], 41) := by
        unfold unpackS
        rw [if_neg (by omega)]
        simp only [uR, if_true]
        unfold fin
        rw [if_pos (by simp; omega)]
      rw [h0] at h
      have := congrArg Prod.snd h
      have h2 : (41 : Int) = 0 := this
      omega
    | cons a t => simp
theorem sumS_le (l : List Int) : sumS l ≤ 4294967295 := by unfold sumS; omega
theorem blocks_valid (l : List Int) (size : Nat) (hs1 : 1 ≤ size) (hs2 : size ≤ 4096) (hby : ∀ x ∈ l, 0 ≤ x ∧ x ≤ 255) : ∀ (k at_ n : Nat), n ≤ at_ → at_ ≤ 100000 → l.length ≤ at_ + k → l.length ≤ 70000 →
    validR size (blocksR n (chunksR l size k at_)) ((l.length - at_ : Nat) : Int) n = true := by
  intro k
  induction k with
  | zero => intro at_ n h0 _ _ _; rfl
  | succ k ih =>
    intro at_ n h0 h1 h2 h3
    rw [chunksR]
    split
    · rename_i hlt
      have hp : (pieceAt l size at_).length = min size (l.length - at_) := pieceAt_length l size at_
      have hpb : ∀ x ∈ pieceAt l size at_, 0 ≤ x ∧ x ≤ 255 := fun x hx => hby x (List.mem_of_mem_drop (List.mem_of_mem_take hx))
      have hpos := pieceS_pos (p := pieceAt l size at_) (by omega) (by omega)
      have hle := pieceS_length (pieceAt l size at_)
      have hsum := sumS_le (pieceS (pieceAt l size at_))
      rw [blocksR, validR_ok ⟨by simp only [blockS]; omega, by simp only [blockS]; omega, by simp only [blockS]; omega, by simp only [blockS]; omega, by simp only [blockS]; omega, by simp only [blockS], by omega, by omega⟩]
      simp only [blockS]
      have e1 : ((l.length - at_ : Nat) : Int) - min (size : Int) ((l.length - at_ : Nat) : Int) = ((l.length - (at_ + size) : Nat) : Int) := by omega
      rw [e1, ← Int.natCast_add]
      exact ih (at_ + size) _ (by omega) (by omega) (by omega) h3
    · rfl

/-- All that a Pack of a fitting row answers. -/
theorem bpack_fits (l : List Int) (size : Nat) (hs : 16 ≤ size) (hs2 : size ≤ 4096) (hl : l.length ≤ 65536) : bpackS l size = (catS (chunksR l size l.length 0), blocksR 0 (chunksR l size l.length 0), 0) := by
  unfold bpackS
  rw [if_neg (fun h => h ⟨by omega, by omega⟩), if_neg (by omega), Int.toNat_natCast, bpR_eq]
  simp
theorem head_f0 (cs : List (List Int)) : ((blocksR 0 cs).headD z58).f0 = 0 := by cases cs <;> rfl
theorem back_valid (l : List Int) (size : Nat) (hs : 16 ≤ size) (hs2 : size ≤ 4096) (hl : l.length ≤ 65536) (hby : ∀ x ∈ l, 0 ≤ x ∧ x ≤ 255) : validS (blocksR 0 (chunksR l size l.length 0)) l.length size = true := by
  have h1 := chunks_len l size (by omega) l.length 0 (by omega) (by omega)
  rw [Nat.sub_zero] at h1
  unfold validS
  rw [if_neg, head_f0]
  · have := blocks_valid l size (by omega) hs2 hby l.length 0 0 (by omega) (by omega) (by omega) (by omega)
    rw [Nat.sub_zero] at this
    exact this
  · simp only [not_or, Classical.not_not]
    refine ⟨by omega, by omega, ⟨by omega, by omega⟩, ?_⟩
    rw [blocks_len, h1]
    have e : ((l.length : Int) + (size : Int) - 1) = ((l.length + size - 1 : Nat) : Int) := by omega
    rw [e]
    exact Int.natCast_ediv _ _
theorem back_invalid (l : List Int) (size : Nat) (hs : 16 ≤ size) (_hs2 : size ≤ 4096) (_hl : l.length ≤ 65536) : validS (blocksR 0 (chunksR l size l.length 0)) ((l.length : Int) + size) size = false := by
  have h1 := chunks_len l size (by omega) l.length 0 (by omega) (by omega)
  rw [Nat.sub_zero] at h1
  unfold validS
  rw [if_pos]
  refine .inr (.inr (.inr ?_))
  rw [blocks_len, h1]
  have e : ((l.length : Int) + (size : Int) + (size : Int) - 1) = (((l.length + size - 1) + size : Nat) : Int) := by omega
  rw [e, ← Int.natCast_ediv, Nat.add_div_right _ (by omega)]
  omega
theorem cat_len (cs : List (List Int)) : (catS cs).length ≤ cs.flatten.length := by
  induction cs with
  | nil => simp [catS]
  | cons p t ih =>
    have := pieceS_length p
    rw [catS, List.flatten_cons, List.length_append, List.length_append]; omega
theorem back_len (l : List Int) (size : Nat) (hs : 16 ≤ size) : (catS (chunksR l size l.length 0)).length ≤ l.length := by
  have h := cat_len (chunksR l size l.length 0)
  rw [chunks_flat l size (by omega) _ _ (by omega), List.drop_zero] at h
  exact h

theorem cat_append (a b : List (List Int)) : catS (a ++ b) = catS a ++ catS b := by
  induction a with
  | nil => rfl
  | cons p t ih => rw [List.cons_append, catS, catS, ih, List.append_assoc]
theorem blocks_append (a b : List (List Int)) : ∀ n, blocksR n (a ++ b) = blocksR n a ++ blocksR (n + (catS a).length) b := by
  induction a with
  | nil => intro n; rfl
  | cons p t ih =>
    intro n
    rw [List.cons_append, blocksR, blocksR, ih, catS, List.length_append, Nat.add_assoc]; rfl
theorem blocks_get (a : List (List Int)) (p : List Int) (b : List (List Int)) : rd_T58 (blocksR 0 (a ++ p :: b)) (a.length : Int) = blockS (catS a).length p := by
  rw [rd_T58, Int.toNat_natCast, blocks_append, List.getD_eq_getElem?_getD, List.getElem?_append_right (by rw [blocks_len]; exact Nat.le_refl _), blocks_len, Nat.sub_self, blocksR, Nat.zero_add]; rfl
theorem cat_mid (a : List (List Int)) (p : List Int) (b : List (List Int)) : ((catS (a ++ p :: b)).take ((catS a).length + (pieceS p).length)).drop (catS a).length = pieceS p := by
  rw [cat_append, catS, ← List.append_assoc, List.take_left' (by rw [List.length_append]), List.drop_left' rfl]
theorem open_piece {p : List Int} (n : Nat) (h1 : 1 ≤ p.length) (h2 : p.length ≤ 4096) : openS (pieceS p) (blockS n p) = (p, 0) := by
  have hpos := pieceS_pos h1 h2
  have hle := pieceS_length p
  unfold openS
  rw [if_neg]
  · by_cases he : (pieceS p).length = p.length
    · have e : pieceS p = p := by
        unfold pieceS at he ⊢
        split
        · rfl
        · rename_i hn
          rw [if_neg hn] at he
          omega
      rw [if_pos (by simp only [blockS]; omega), e]
    · have e : pieceS p = (packS p).1 := by
        unfold pieceS at he ⊢
        split
        · rename_i hn
          rw [if_pos hn] at he
          exact absurd rfl he
        · rfl
      have h := pack_unpack p h2
      rw [if_neg (by simp only [blockS]; omega), e]
      have hu : unpackS (packS p).1 (blockS n p).f2 = (p, 0) := h
      have h0 : ¬ (unpackS (packS p).1 (blockS n p).f2).2 ≠ 0 := by rw [hu]; simp
      rw [if_neg h0, hu]
  · unfold badB
    simp only [blockS]
    omega
theorem piece_bytes {p : List Int} (hby : ∀ x ∈ p, 0 ≤ x ∧ x ≤ 255) : ∀ x ∈ pieceS p, 0 ≤ x ∧ x ≤ 255 := by
  unfold pieceS
  split
  · exact hby
  · exact packS_bytes p hby
end Go.Proofs.Ytoefligelajfkaa.Block
