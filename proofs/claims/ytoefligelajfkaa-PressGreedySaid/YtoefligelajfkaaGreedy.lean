import Derived.Test.YtoefligelajfkaaBest
namespace Go.Proofs.Ytoefligelajfkaa.Press

/-- The best match at a place, as the document looks for it. -/
def best (l : List Int) (at_ : Nat) : Nat × Nat := bst l at_ (min 1024 at_)

/-- From here on each item is the one that is said: the packed bytes that are left, the place, what is left of the flag, the items taken of it. -/
inductive Good (l : List Int) : List Int → Nat → Int → Nat → Prop
  | done (g : Int) : Good l [] l.length g 8
  | flag (x : Int) (r : List Int) (at_ : Nat) (g : Int) : Good l r at_ x 0 → Good l (x :: r) at_ g 8
  | rest (r : List Int) (g : Int) (b : Nat) : b < 8 → g % 2 = 0 → Good l r l.length (g / 2) (b + 1) → Good l r l.length g b
  | lit (r : List Int) (at_ : Nat) (g : Int) (b : Nat) : b < 8 → at_ < l.length → g % 2 = 0 → (best l at_).1 < 3 → Good l r (at_ + 1) (g / 2) (b + 1) → Good l (l.getD at_ 0 :: r) at_ g b
  | mtch (r : List Int) (at_ : Nat) (g : Int) (b : Nat) : b < 8 → at_ < l.length → g % 2 = 1 → 3 ≤ (best l at_).1 → Good l r (at_ + (best l at_).1) (g / 2) (b + 1) →
      Good l (itemV (best l at_) / 256 :: itemV (best l at_) % 256 :: r) at_ g b

theorem good_tail (l : List Int) : ∀ (d b : Nat), b + d = 8 → Good l [] l.length 0 b := by
  intro d
  induction d with
  | zero => intro b h; obtain rfl : b = 8 := by omega
            exact .done 0
  | succ d ih => intro b h; exact .rest [] 0 b (by omega) (by decide) (by simpa using ih (b + 1) (by omega))

def FullG (l out : List Int) (at_ : Nat) : Prop := ∀ X : List Int, Good l X at_ 0 8 → Good l (out ++ X) 0 0 8
structure EncG (l out : List Int) (flag b at_ : Nat) : Prop where
  enc : ∃ (pre pay : List Int) (fl : Int) (at0 : Nat), out = pre ++ fl :: pay ∧ flag = pre.length ∧ 0 ≤ fl ∧ fl < 2 ^ b ∧
    (∀ X : List Int, Good l X at0 0 8 → Good l (pre ++ X) 0 0 8) ∧
    ∀ (Y : List Int) (g : Int), 0 ≤ g → g % 2 ^ b = fl → Good l Y at_ (g / 2 ^ b) b → Good l (pay ++ Y) at0 g 0

theorem FullG.open {l out : List Int} {at_ : Nat} (h : FullG l out at_) : EncG l (out ++ [0]) out.length 0 at_ :=
  ⟨out, [], 0, at_, rfl, rfl, by omega, by decide, h, fun Y g _ _ hy => by simpa using hy⟩
theorem EncG.close {l out : List Int} {flag at_ : Nat} (h : EncG l out flag 8 at_) : FullG l out at_ := by
  obtain ⟨pre, pay, fl, at0, rfl, rfl, h0, h1, h2, h3⟩ := h.enc
  intro X hX
  rw [List.append_assoc]
  refine h2 _ (.flag fl (pay ++ X) at0 0 (h3 X fl h0 (Int.emod_eq_of_lt h0 h1) ?_))
  rw [Int.ediv_eq_zero_of_lt h0 h1]; exact hX
theorem EncG.last {l out : List Int} {flag b : Nat} (h : EncG l out flag b l.length) (hb : b < 8) : Good l out 0 0 8 := by
  obtain ⟨pre, pay, fl, at0, rfl, rfl, h0, h1, h2, h3⟩ := h.enc
  refine h2 _ (.flag fl pay at0 0 ?_)
  have := h3 [] fl h0 (Int.emod_eq_of_lt h0 h1) (by rw [Int.ediv_eq_zero_of_lt h0 h1]; exact good_tail l (8 - b) b (by omega))
  rwa [List.append_nil] at this
theorem EncG.lit {l out : List Int} {flag b at_ : Nat} (h : EncG l out flag b at_) (hb : b < 8) (hat : at_ < l.length) (hn : (best l at_).1 < 3) : EncG l (out ++ [l.getD at_ 0]) flag (b + 1) (at_ + 1) := by
  obtain ⟨pre, pay, fl, at0, rfl, rfl, h0, h1, h2, h3⟩ := h.enc
  refine ⟨pre, pay ++ [l.getD at_ 0], fl, at0, by simp, rfl, h0, ?_, h2, fun Y g hg0 hg hY => ?_⟩
  · have := pow2_pos b
    rw [Int.pow_succ]; omega
  · obtain ⟨e1, e2, e3⟩ := emod_split (i := 0) (.inl rfl) h0 h1 (by rw [hg]; omega)
    rw [List.append_assoc]
    rw [e3] at hY
    exact h3 _ g hg0 e1 (.lit Y at_ _ b hb hat e2 hn hY)
theorem EncG.mtch {l out : List Int} {flag b at_ : Nat} (h : EncG l out flag b at_) (hb : b < 8) (hat : at_ < l.length) (hn : 3 ≤ (best l at_).1) :
    EncG l (mark (out ++ [itemV (best l at_) / 256, itemV (best l at_) % 256]) flag b) flag (b + 1) (at_ + (best l at_).1) := by
  obtain ⟨pre, pay, fl, at0, rfl, rfl, h0, h1, h2, h3⟩ := h.enc
  have hmk : ∀ v : Int, mark (pre ++ fl :: pay ++ [v / 256, v % 256]) pre.length b = pre ++ (fl + 2 ^ b) :: (pay ++ [v / 256, v % 256]) := by
    intro v
    unfold mark
    have e1 : (pre ++ fl :: pay ++ [v / 256, v % 256]).getD pre.length 0 = fl := by simp [List.getD_eq_getElem?_getD]
    rw [e1]
    simp
  rw [hmk]
  have hp2 := pow2_pos b
  refine ⟨pre, pay ++ [itemV (best l at_) / 256, itemV (best l at_) % 256], fl + 2 ^ b, at0, rfl, rfl, by omega, ?_, h2, fun Y g hg0 hg hY => ?_⟩
  · rw [Int.pow_succ]; omega
  · obtain ⟨e1, e2, e3⟩ := emod_split (i := 1) (.inr rfl) h0 h1 (by rw [hg]; omega)
    rw [List.append_assoc]
    rw [e3] at hY
    exact h3 _ g hg0 e1 (.mtch Y at_ _ b hb hat e2 hn hY)

def StG (l out : List Int) (flag items at_ : Nat) : Prop := (items % 8 = 0 ∧ FullG l out at_) ∨ (items % 8 ≠ 0 ∧ EncG l out flag (items % 8) at_)
theorem StG.next {l out : List Int} {flag items at_ : Nat} (h : EncG l out flag (items % 8 + 1) at_) : StG l out flag (items + 1) at_ := by
  by_cases h7 : items % 8 = 7
  · rw [h7] at h
    exact .inl ⟨by omega, h.close⟩
  · have e : (items + 1) % 8 = items % 8 + 1 := by omega
    exact .inr ⟨by omega, by rw [e]; exact h⟩
theorem StG.last {l out : List Int} {flag items : Nat} (h : StG l out flag items l.length) : Good l out 0 0 8 := by
  rcases h with ⟨_, h⟩ | ⟨h8, h⟩
  · have := h [] (.done 0)
    rwa [List.append_nil] at this
  · exact h.last (by omega)

theorem packR_good (l : List Int) : ∀ (k : Nat) (out : List Int) (flag items at_ : Nat), at_ ≤ l.length → l.length ≤ at_ + k → StG l out flag items at_ → Good l (packR l k out flag items at_) 0 0 8 := by
  intro k
  induction k with
  | zero =>
    intro out flag items at_ h1 h2 h
    obtain rfl : at_ = l.length := by omega
    rw [packR]
    exact h.last
  | succ k ih =>
    intro out flag items at_ h1 h2 h
    rw [packR]
    by_cases hat : at_ < l.length
    · rw [if_pos hat]
      have hE : EncG l (if items % 8 = 0 then out ++ [0] else out) (if items % 8 = 0 then out.length else flag) (items % 8) at_ := by
        rcases h with ⟨h8, h⟩ | ⟨h8, h⟩
        · rw [if_pos h8, if_pos h8, h8]; exact h.open
        · rw [if_neg h8, if_neg h8]; exact h
      have hf : fnd l at_ = cutB (best l at_) := fnd_best l at_
      by_cases h3 : 3 ≤ (best l at_).1
      · have hc : fnd l at_ = best l at_ := by rw [hf, cutB, if_pos h3]
        have hb := fnd_bounds l at_
        rw [hc] at hb
        rw [hc, if_neg (by omega)]
        exact ih _ _ _ _ (by omega) (by omega) (StG.next (hE.mtch (by omega) hat h3))
      · have hc : fnd l at_ = (0, 0) := by rw [hf, cutB, if_neg h3]
        rw [hc, if_pos rfl]
        exact ih _ _ _ _ (by omega) (by omega) (StG.next (hE.lit (by omega) hat (by omega)))
    · rw [if_neg hat]
      obtain rfl : at_ = l.length := by omega
      exact h.last

theorem pack_good (l : List Int) (h : l.length ≤ 4096) : Good l (packS l).1 0 0 8 := by
  have e : packS l = (packR l l.length [] 0 0 0, 0) := by unfold packS; rw [if_neg (by omega)]
  rw [e]
  exact packR_good l l.length [] 0 0 0 (by omega) (by omega) (.inl ⟨rfl, fun X hX => by simpa using hX⟩)

end Go.Proofs.Ytoefligelajfkaa.Press
