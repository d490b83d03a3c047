import Derived.Test.YtoefligelajfkaaRound
namespace Go.Proofs.Ytoefligelajfkaa.Press

/-- How many bytes are alike at a distance. -/
def al (l : List Int) (at_ d : Nat) : Nat := grow l (at_ - d) at_ (min 66 (l.length - at_)) (min 66 (l.length - at_)) 0

/-- The greatest length and the least distance up to k. -/
def bst (l : List Int) (at_ : Nat) : Nat → Nat × Nat
  | 0 => (0, 0)
  | k + 1 => if (bst l at_ k).1 < al l at_ (k + 1) then (al l at_ (k + 1), k + 1) else bst l at_ k

theorem bst_succ (l : List Int) (at_ k : Nat) : bst l at_ (k + 1) = if (bst l at_ k).1 < al l at_ (k + 1) then (al l at_ (k + 1), k + 1) else bst l at_ k := rfl

def cutB (r : Nat × Nat) : Nat × Nat := if 3 ≤ r.1 then r else (0, 0)

theorem al_le (l : List Int) (at_ d : Nat) : al l at_ d ≤ min 66 (l.length - at_) := (grow_le _ _ _ _ _ _ (Nat.zero_le _)).1
theorem bst_le (l : List Int) (at_ : Nat) : ∀ k, (bst l at_ k).1 ≤ min 66 (l.length - at_) := by
  intro k
  induction k with
  | zero => exact Nat.zero_le _
  | succ k ih =>
    rw [bst_succ]
    split
    · exact al_le _ _ _
    · exact ih
theorem bst_stay (l : List Int) (at_ k : Nat) (h : (bst l at_ k).1 = min 66 (l.length - at_)) : ∀ j, bst l at_ (k + j) = bst l at_ k := by
  intro j
  induction j with
  | zero => rfl
  | succ j ih =>
    show bst l at_ (k + j + 1) = _
    rw [bst_succ, ih, if_neg (by rw [h]; have := al_le l at_ (k + j + 1); omega)]

theorem al_gram (l : List Int) (at_ d : Nat) (h3 : 3 ≤ min 66 (l.length - at_)) (hg : gramEq l (at_ - d) at_ = true) : al l at_ d = grow l (at_ - d) at_ (min 66 (l.length - at_)) (min 66 (l.length - at_) - 3) 3 := by
  unfold al
  generalize min 66 (l.length - at_) = m at h3
  obtain ⟨k, rfl⟩ : ∃ k, m = k + 3 := ⟨m - 3, by omega⟩
  unfold gramEq at hg
  simp only [Bool.and_eq_true, decide_eq_true_eq] at hg
  obtain ⟨⟨q0, q1⟩, q2⟩ := hg
  rw [show k + 3 = (k + 2) + 1 by omega, grow_succ, if_pos ⟨by omega, by simpa using q0⟩, show k + 2 = (k + 1) + 1 by omega, grow_succ, if_pos ⟨by omega, q1⟩, grow_succ, if_pos ⟨by omega, q2⟩]
  congr 1

theorem al_few (l : List Int) (at_ d : Nat) (hg : gramEq l (at_ - d) at_ = false) : al l at_ d < 3 := by
  unfold al
  generalize min 66 (l.length - at_) = m
  by_cases h3 : m < 3
  · have := (grow_le l (at_ - d) at_ m m 0 (Nat.zero_le _)).1
    omega
  · obtain ⟨k, rfl⟩ : ∃ k, m = k + 3 := ⟨m - 3, by omega⟩
    unfold gramEq at hg
    rw [show k + 3 = (k + 2) + 1 by omega, grow_succ]
    split
    · rename_i q0
      rw [show k + 2 = (k + 1) + 1 by omega, grow_succ]
      split
      · rename_i q1
        rw [grow_succ]
        split
        · rename_i q2
          have e0 : l.getD (at_ - d) 0 = l.getD at_ 0 := by simpa using q0.2
          have e1 := q1.2
          have e2 := q2.2
          simp only [Nat.zero_add] at e1 e2
          rw [e0, e1, e2] at hg
          simp at hg
        · omega
      · omega
    · omega

/-- The places that are left, from the nearest on. -/
def desc (l : List Int) (at_ j : Nat) : List Int := (((List.range j).filter fun q => decide (q + 3 ≤ l.length) && gramEq l q at_).map fun q : Nat => (q : Int)).reverse

theorem desc_succ (l : List Int) (at_ j : Nat) : desc l at_ (j + 1) = if (decide (j + 3 ≤ l.length) && gramEq l j at_) = true then (j : Int) :: desc l at_ j else desc l at_ j := by
  unfold desc
  rw [List.range_succ, List.filter_append]
  by_cases h : (decide (j + 3 ≤ l.length) && gramEq l j at_) = true
  · rw [if_pos h]
    have : [j].filter (fun q => decide (q + 3 ≤ l.length) && gramEq l q at_) = [j] := by rw [List.filter_cons, if_pos h]; rfl
    rw [this]
    simp
  · rw [if_neg h]
    have : [j].filter (fun q => decide (q + 3 ≤ l.length) && gramEq l q at_) = [] := by rw [List.filter_cons, if_neg h]; rfl
    rw [this]
    simp

theorem desc_mem {l : List Int} {at_ j : Nat} {x : Int} (h : x ∈ desc l at_ j) : 0 ≤ x ∧ x < j := by
  unfold desc at h
  obtain ⟨q, hq, rfl⟩ := List.mem_map.1 (List.mem_reverse.1 h)
  have := List.mem_range.1 (List.mem_filter.1 hq).1
  omega

theorem findL_far (l : List Int) (at_ most : Nat) (ps : List Int) (len dist : Nat) (h : ∀ x ∈ ps, at_ - x.toNat > 1024) : findL l at_ most ps len dist = (len, dist) := by
  cases ps with
  | nil => rfl
  | cons f r => unfold findL; rw [if_pos (h f (by simp))]

theorem findL_best (l : List Int) (at_ : Nat) (h3 : at_ + 3 ≤ l.length) : ∀ (j : Nat), j ≤ at_ → at_ - j ≤ 1024 →
    findL l at_ (min 66 (l.length - at_)) (desc l at_ j) (cutB (bst l at_ (at_ - j))).1 (cutB (bst l at_ (at_ - j))).2 = cutB (bst l at_ (min 1024 at_)) := by
  intro j
  induction j with
  | zero =>
    intro h1 h2
    have : desc l at_ 0 = [] := rfl
    rw [this, show min 1024 at_ = at_ by omega]
    rfl
  | succ j ih =>
    intro h1 h2
    have hm : 3 ≤ min 66 (l.length - at_) := by omega
    by_cases hfar : at_ - j > 1024
    · rw [findL_far _ _ _ _ _ _ (fun x hx => by have := desc_mem hx; omega), show at_ - (j + 1) = min 1024 at_ by omega]
    · have ih' := ih (by omega) (by omega)
      obtain ⟨d, hd⟩ : ∃ d, at_ - (j + 1) = d := ⟨_, rfl⟩
      have hd1 : at_ - j = d + 1 := by omega
      have hj : at_ - (d + 1) = j := by omega
      rw [hd]
      rw [hd1] at ih'
      have stay : ∀ k, k ≤ min 1024 at_ → (bst l at_ k).1 = min 66 (l.length - at_) → cutB (bst l at_ (min 1024 at_)) = bst l at_ k := by
        intro k hk h
        have := bst_stay l at_ k h (min 1024 at_ - k)
        rw [show k + (min 1024 at_ - k) = min 1024 at_ by omega] at this
        rw [this, cutB, if_pos (by omega)]
      rw [desc_succ]
      by_cases hg : (decide (j + 3 ≤ l.length) && gramEq l j at_) = true
      · rw [if_pos hg]
        simp only [Bool.and_eq_true, decide_eq_true_eq] at hg
        have ha := al_gram l at_ (d + 1) hm (by rw [hj]; exact hg.2)
        rw [hj] at ha
        have hal := (grow_le l j at_ (min 66 (l.length - at_)) (min 66 (l.length - at_) - 3) 3 hm)
        unfold findL
        rw [Int.toNat_natCast, if_neg (by omega), ← ha, hd1]
        rw [← ha] at hal
        by_cases hlt : (bst l at_ d).1 < al l at_ (d + 1)
        · have hb : bst l at_ (d + 1) = (al l at_ (d + 1), d + 1) := by rw [bst_succ, if_pos hlt]
          have hc : cutB (bst l at_ (d + 1)) = (al l at_ (d + 1), d + 1) := by rw [hb, cutB, if_pos hal.2]
          rw [hc] at ih'
          have hgt : al l at_ (d + 1) > (cutB (bst l at_ d)).1 := by
            unfold cutB
            split
            · exact hlt
            · simp only; omega
          rw [if_pos hgt]
          by_cases hmost : al l at_ (d + 1) = min 66 (l.length - at_)
          · rw [if_pos hmost, stay (d + 1) (by omega) (by rw [hb]; exact hmost), hb]
          · rw [if_neg hmost]; exact ih'
        · have hb : bst l at_ (d + 1) = bst l at_ d := by rw [bst_succ, if_neg hlt]
          have hL : 3 ≤ (bst l at_ d).1 := by omega
          have hc : cutB (bst l at_ d) = bst l at_ d := by rw [cutB, if_pos hL]
          rw [hb, hc] at ih'
          rw [hc, if_neg (by omega)]
          by_cases hmost : (bst l at_ d).1 = min 66 (l.length - at_)
          · rw [if_pos hmost, stay d (by omega) hmost]
          · rw [if_neg hmost]; exact ih'
      · rw [if_neg hg]
        have hg2 : gramEq l (at_ - (d + 1)) at_ = false := by
          rw [hj]
          cases h : gramEq l j at_ with
          | false => rfl
          | true => exact absurd (by rw [h]; simp; omega) hg
        have ha := al_few l at_ (d + 1) hg2
        have hc : cutB (bst l at_ (d + 1)) = cutB (bst l at_ d) := by
          rw [bst_succ]
          split
          · unfold cutB
            rw [if_neg (by simp only; omega), if_neg (by omega)]
          · rfl
        rw [hc] at ih'
        exact ih'

/-- What 'find' tells is the greatest match that is no shorter than three. -/
theorem fnd_best (l : List Int) (at_ : Nat) : fnd l at_ = cutB (bst l at_ (min 1024 at_)) := by
  unfold fnd findS
  by_cases h : l.length < at_ + 3
  · rw [if_pos h, cutB, if_neg (by have := bst_le l at_ (min 1024 at_); omega)]
  · rw [if_neg h]
    have := findL_best l at_ (by omega) at_ (Nat.le_refl _) (by omega)
    rw [Nat.sub_self] at this
    exact this

end Go.Proofs.Ytoefligelajfkaa.Press
