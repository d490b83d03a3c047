namespace Go.Proofs.Ytoefligelajfkaa.Press

/-- From n on, as long as the bytes are alike, at most to 'most'. -/
def grow (l : List Int) (f a most : Nat) : Nat → Nat → Nat
  | 0, n => n
  | k + 1, n => if n < most ∧ l.getD (f + n) 0 = l.getD (a + n) 0 then grow l f a most k (n + 1) else n

/-- The search: the places from the nearest on. -/
def findL (l : List Int) (at_ most : Nat) : List Int → Nat → Nat → Nat × Nat
  | [], len, dist => (len, dist)
  | f :: rest, len, dist =>
    if at_ - f.toNat > 1024 then (len, dist)
    else if grow l f.toNat at_ most (most - 3) 3 > len then
      (if grow l f.toNat at_ most (most - 3) 3 = most then (grow l f.toNat at_ most (most - 3) 3, at_ - f.toNat) else findL l at_ most rest (grow l f.toNat at_ most (most - 3) 3) (at_ - f.toNat))
    else if len = most then (len, dist) else findL l at_ most rest len dist

/-- What 'find' answers, the places told (rising). -/
def findS (places : List Int) (l : List Int) (at_ : Nat) : Nat × Nat :=
  if l.length < at_ + 3 then (0, 0) else findL l at_ (min 66 (l.length - at_)) places.reverse 0 0

theorem grow_succ (l : List Int) (f a most k n : Nat) : grow l f a most (k + 1) n = if n < most ∧ l.getD (f + n) 0 = l.getD (a + n) 0 then grow l f a most k (n + 1) else n := rfl
theorem grow_le (l : List Int) (f a most : Nat) : ∀ k n, n ≤ most → grow l f a most k n ≤ most ∧ n ≤ grow l f a most k n := by
  intro k
  induction k with
  | zero => intro n h; exact ⟨h, Nat.le_refl _⟩
  | succ k ih =>
    intro n h
    unfold grow
    split
    · rename_i hc
      have := ih (n + 1) (by omega)
      omega
    · exact ⟨h, Nat.le_refl _⟩

end Go.Proofs.Ytoefligelajfkaa.Press
