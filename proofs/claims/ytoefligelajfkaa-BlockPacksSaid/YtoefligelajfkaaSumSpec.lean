namespace Go.Proofs.Ytoefligelajfkaa.Block

/-- One bit of the sum. -/
def f1 (r : Nat) : Nat := if r % 2 = 1 then (r / 2) ^^^ 3988292384 else r / 2
def f4 (r : Nat) : Nat := f1 (f1 (f1 (f1 r)))
/-- The register behind so many bytes. -/
def sumR : List Int → Nat → Nat
  | [], r => r
  | x :: t, r => sumR t (f4 (f4 (r ^^^ x.toNat)))
def sumS (l : List Int) : Nat := 4294967295 - sumR l 4294967295

theorem f1_xor (a b : Nat) : f1 (a ^^^ b) = f1 a ^^^ f1 b := by
  unfold f1
  have h := @Nat.xor_mod_two_eq_one a b
  have h2 : (a ^^^ b) / 2 = a / 2 ^^^ b / 2 := Nat.xor_div_two
  rw [h2]
  generalize a / 2 = x
  generalize b / 2 = y
  generalize (3988292384 : Nat) = p
  by_cases ha : a % 2 = 1 <;> by_cases hb : b % 2 = 1
  · rw [if_neg (by rw [h]; simp [ha, hb]), if_pos ha, if_pos hb]
    rw [Nat.xor_assoc, ← Nat.xor_assoc p, Nat.xor_comm p y, Nat.xor_assoc y, Nat.xor_self, Nat.xor_zero]
  · rw [if_pos (by rw [h]; simp [ha, hb]), if_pos ha, if_neg hb, Nat.xor_assoc, Nat.xor_comm y p, Nat.xor_assoc]
  · rw [if_pos (by rw [h]; simp [ha, hb]), if_neg ha, if_pos hb, Nat.xor_assoc]
  · rw [if_neg (by rw [h]; simp [ha, hb]), if_neg ha, if_neg hb]
theorem f4_xor (a b : Nat) : f4 (a ^^^ b) = f4 a ^^^ f4 b := by simp [f4, f1_xor]
theorem f1_even (q : Nat) : f1 (2 * q) = q := by
  unfold f1
  rw [if_neg (by omega)]; omega
theorem f4_16 (q : Nat) : f4 (16 * q) = q := by
  unfold f4
  rw [show 16 * q = 2 * (2 * (2 * (2 * q))) by omega, f1_even, f1_even, f1_even, f1_even]
theorem split16 (r : Nat) : r = (16 * (r / 16)) ^^^ (r % 16) := by
  have h1 : r % 16 < 2 ^ 4 := by omega
  have := Nat.two_pow_add_eq_or_of_lt h1 (r / 16)
  have h3 : 16 * (r / 16) ||| r % 16 = (16 * (r / 16)) ^^^ (r % 16) := by
    apply Nat.eq_of_testBit_eq
    intro i
    rw [Nat.testBit_or, Nat.testBit_xor]
    by_cases hi : i < 4
    · have : (16 * (r / 16)).testBit i = false := by
        have e : 16 * (r / 16) = 2 ^ 4 * (r / 16) := rfl
        rw [e, Nat.testBit_two_pow_mul]; simp; omega
      rw [this]; simp
    · have : (r % 16).testBit i = false := Nat.testBit_lt_two_pow (Nat.lt_of_lt_of_le h1 (Nat.pow_le_pow_right (by omega) (by omega)))
      rw [this]; simp
  have h5 : 16 * (r / 16) ||| r % 16 = 16 * (r / 16) + r % 16 := this.symm
  rw [← h3, h5]
  omega
/-- Four bits at once, out of the table. -/
theorem f4_table (r : Nat) : f4 r = r / 16 ^^^ f4 (r % 16) := by
  conv => lhs; rw [split16 r]
  rw [f4_xor, f4_16]
theorem f1_lt {r : Nat} (h : r < 4294967296) : f1 r < 4294967296 := by
  unfold f1
  split
  · exact Nat.xor_lt_two_pow (n := 32) (by omega) (by omega)
  · omega
theorem f4_lt {r : Nat} (h : r < 4294967296) : f4 r < 4294967296 := f1_lt (f1_lt (f1_lt (f1_lt h)))
theorem sumR_lt : ∀ (l : List Int) (r : Nat), (∀ x ∈ l, 0 ≤ x ∧ x ≤ 255) → r < 4294967296 → sumR l r < 4294967296 := by
  intro l
  induction l with
  | nil => intro r _ h; exact h
  | cons x t ih =>
    intro r hb h
    have := hb x (by simp)
    exact ih _ (fun y hy => hb y (by simp [hy])) (f4_lt (f4_lt (Nat.xor_lt_two_pow (n := 32) h (by omega))))
theorem xor_mask {r : Nat} (h : r < 4294967296) : r ^^^ 4294967295 = 4294967295 - r := by
  have h1 : (BitVec.ofNat 32 r ^^^ BitVec.allOnes 32).toNat = (~~~ (BitVec.ofNat 32 r)).toNat := by rw [BitVec.xor_allOnes]
  rw [BitVec.toNat_xor, BitVec.toNat_not, BitVec.toNat_ofNat, BitVec.toNat_allOnes, Nat.mod_eq_of_lt h] at h1
  exact h1

/-- Two registers that differ go on to differ. -/
theorem f1_inj {a b : Nat} (ha : a < 4294967296) (hb : b < 4294967296) (h : f1 a = f1 b) : a = b := by
  have e : f1 (a ^^^ b) = 0 := by rw [f1_xor, h, Nat.xor_self]
  have hx : a ^^^ b < 4294967296 := Nat.xor_lt_two_pow (n := 32) ha hb
  have h0 : a ^^^ b = 0 := by
    generalize a ^^^ b = x at e hx
    unfold f1 at e
    split at e
    · exfalso
      have e1 : x / 2 = 3988292384 := by
        have := congrArg (· ^^^ 3988292384) e
        simp only [Nat.xor_assoc, Nat.xor_self, Nat.xor_zero, Nat.zero_xor] at this
        exact this
      omega
    · omega
  have := congrArg (· ^^^ b) h0
  simp only [Nat.xor_assoc, Nat.xor_self, Nat.xor_zero, Nat.zero_xor] at this
  exact this
theorem f4_inj {a b : Nat} (ha : a < 4294967296) (hb : b < 4294967296) (h : f4 a = f4 b) : a = b :=
  f1_inj ha hb (f1_inj (f1_lt ha) (f1_lt hb) (f1_inj (f1_lt (f1_lt ha)) (f1_lt (f1_lt hb)) (f1_inj (f1_lt (f1_lt (f1_lt ha))) (f1_lt (f1_lt (f1_lt hb))) h)))

end Go.Proofs.Ytoefligelajfkaa.Block
