import Derived.Test.YtoefligelajfkaaFindSpec
namespace Go.Proofs.Ytoefligelajfkaa.Press

/-- Do the same three bytes stand at both places? -/
def gramEq (l : List Int) (q p : Nat) : Bool := decide (l.getD q 0 = l.getD p 0) && decide (l.getD (q + 1) 0 = l.getD (p + 1) 0) && decide (l.getD (q + 2) 0 = l.getD (p + 2) 0)

/-- The places ahead of 'at' at which the three bytes of p stand. -/
def places (l : List Int) (at_ p : Nat) : List Int := ((List.range at_).filter fun q => decide (q + 3 ≤ l.length) && gramEq l q p).map fun q : Nat => (q : Int)

/-- The match at a place. -/
def fnd (l : List Int) (at_ : Nat) : Nat × Nat := findS (places l at_ at_) l at_

def mark (out : List Int) (f b : Nat) : List Int := out.set f (out.getD f 0 + 2 ^ b)

def itemV (nb : Nat × Nat) : Int := (((nb.2 - 1) * 64 + (nb.1 - 3) : Nat) : Int)

/-- What is left of a Pack. -/
def packR (l : List Int) : Nat → List Int → Nat → Nat → Nat → List Int
  | 0, out, _, _, _ => out
  | k + 1, out, flag, items, at_ =>
    if at_ < l.length then
      (if (fnd l at_).1 = 0 then packR l k ((if items % 8 = 0 then out ++ [0] else out) ++ [l.getD at_ 0]) (if items % 8 = 0 then out.length else flag) (items + 1) (at_ + 1)
       else packR l k (mark ((if items % 8 = 0 then out ++ [0] else out) ++ [itemV (fnd l at_) / 256, itemV (fnd l at_) % 256]) (if items % 8 = 0 then out.length else flag) (items % 8))
          (if items % 8 = 0 then out.length else flag) (items + 1) (at_ + (fnd l at_).1))
    else out

def packS (l : List Int) : List Int × Int := if l.length > 4096 then ([], 2) else (packR l l.length [] 0 0 0, 0)

theorem places_mem {l : List Int} {at_ p : Nat} {x : Int} (h : x ∈ places l at_ p) : 0 ≤ x ∧ x < at_ := by
  unfold places at h
  obtain ⟨q, hq, rfl⟩ := List.mem_map.1 h
  have := List.mem_range.1 (List.mem_filter.1 hq).1
  omega

theorem places_length (l : List Int) (at_ p : Nat) : (places l at_ p).length ≤ at_ := by
  unfold places
  rw [List.length_map]
  exact Nat.le_trans (List.length_filter_le _ _) (by simp)

theorem findL_bounds (l : List Int) (at_ most : Nat) (hm : 3 ≤ most) : ∀ (ps : List Int) (len dist : Nat), (∀ x ∈ ps, 0 ≤ x ∧ x < at_) → (len = 0 ∨ (3 ≤ len ∧ len ≤ most ∧ 1 ≤ dist ∧ dist ≤ 1024 ∧ dist ≤ at_)) →
    ((findL l at_ most ps len dist).1 = 0 ∨ (3 ≤ (findL l at_ most ps len dist).1 ∧ (findL l at_ most ps len dist).1 ≤ most ∧ 1 ≤ (findL l at_ most ps len dist).2 ∧ (findL l at_ most ps len dist).2 ≤ 1024 ∧ (findL l at_ most ps len dist).2 ≤ at_)) := by
  intro ps
  induction ps with
  | nil => intro len dist _ h; exact h
  | cons f rest ih =>
    intro len dist hp h
    have hf := hp f (by simp)
    have hr : ∀ x ∈ rest, 0 ≤ x ∧ x < at_ := fun x hx => hp x (by simp [hx])
    have hg := grow_le l f.toNat at_ most (most - 3) 3 hm
    unfold findL
    split
    · exact h
    · split
      · split
        · exact .inr ⟨hg.2, hg.1, by omega, by omega, by omega⟩
        · exact ih _ _ hr (.inr ⟨hg.2, hg.1, by omega, by omega, by omega⟩)
      · split
        · exact h
        · exact ih _ _ hr h

theorem fnd_bounds (l : List Int) (at_ : Nat) : (fnd l at_).1 = 0 ∨ (3 ≤ (fnd l at_).1 ∧ (fnd l at_).1 ≤ 66 ∧ at_ + (fnd l at_).1 ≤ l.length ∧ 1 ≤ (fnd l at_).2 ∧ (fnd l at_).2 ≤ 1024 ∧ (fnd l at_).2 ≤ at_) := by
  unfold fnd findS
  split
  · exact .inl rfl
  · rcases findL_bounds l at_ (min 66 (l.length - at_)) (by omega) (places l at_ at_).reverse 0 0 (fun x hx => places_mem (List.mem_reverse.1 hx)) (.inl rfl) with h | h
    · exact .inl h
    · exact .inr ⟨h.1, by omega, by omega, h.2.2.1, h.2.2.2.1, h.2.2.2.2⟩

/-- What is known of the flag that is under way. -/
structure FlagOk (out : List Int) (flag b : Nat) : Prop where
  lt : flag < out.length
  lo : 0 ≤ out.getD flag 0
  hi : out.getD flag 0 < 2 ^ b

theorem FlagOk.append {out : List Int} {flag b : Nat} (h : FlagOk out flag b) (xs : List Int) : FlagOk (out ++ xs) flag b := by
  have e : (out ++ xs).getD flag 0 = out.getD flag 0 := by
    simp [List.getD_eq_getElem?_getD, List.getElem?_append_left h.lt]
  exact ⟨by have := h.lt; simp; omega, by rw [e]; exact h.lo, by rw [e]; exact h.hi⟩
theorem pow_succ_int (b : Nat) : (2 : Int) ^ (b + 1) = 2 ^ b + 2 ^ b := by rw [Int.pow_succ]; generalize (2 : Int) ^ b = q; omega
theorem pow_pos_int (b : Nat) : (0 : Int) < 2 ^ b := Int.pow_pos (by omega)
theorem FlagOk.up {out : List Int} {flag b : Nat} (h : FlagOk out flag b) : FlagOk out flag (b + 1) := by
  refine ⟨h.lt, h.lo, ?_⟩
  have h1 := h.hi
  have h2 := pow_pos_int b
  rw [pow_succ_int]
  generalize (2 : Int) ^ b = q at h1 h2 ⊢
  omega
theorem FlagOk.mark {out : List Int} {flag b : Nat} (h : FlagOk out flag b) : FlagOk (mark out flag b) flag (b + 1) := by
  have e : (Press.mark out flag b).getD flag 0 = out.getD flag 0 + 2 ^ b := by
    unfold Press.mark
    rw [List.getD_eq_getElem?_getD, List.getElem?_set_self h.lt]; rfl
  have h0 := h.lo
  have h1 := h.hi
  have h2 := pow_pos_int b
  refine ⟨by have := h.lt; simpa [Press.mark] using this, ?_, ?_⟩
  · rw [e]; generalize (2 : Int) ^ b = q at h1 h2 ⊢; omega
  · rw [e, pow_succ_int]; generalize (2 : Int) ^ b = q at h1 h2 ⊢; omega
theorem FlagOk.new (out : List Int) : FlagOk (out ++ [0]) out.length 0 := by
  refine ⟨by simp, ?_, ?_⟩ <;> simp [List.getD_eq_getElem?_getD]
theorem mark_length (out : List Int) (f b : Nat) : (mark out f b).length = out.length := by simp [mark]


theorem packS_abc : packS [97, 98, 99, 97, 98, 99, 97, 98] = ([8, 97, 98, 99, 0, 130], 0) := by decide
end Go.Proofs.Ytoefligelajfkaa.Press
