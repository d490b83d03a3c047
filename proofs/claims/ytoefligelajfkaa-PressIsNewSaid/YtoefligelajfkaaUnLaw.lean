import Derived.Test.YtoefligelajfkaaSpec
namespace Go.Proofs.Ytoefligelajfkaa.Press

theorem fin_ok {n : Int} {out r : List Int} {e : Int} (h : fin n out = (r, e)) (ho : (out.length : Int) ≤ n) : (e = 0 ∧ r = out ∧ (r.length : Int) = n) ∨ (e = 41 ∧ r = []) := by
  unfold fin at h
  split at h
  · simp only [Prod.mk.injEq] at h
    exact .inr ⟨h.2.symm, h.1.symm⟩
  · simp only [Prod.mk.injEq] at h
    obtain ⟨rfl, rfl⟩ := h
    exact .inl ⟨rfl, rfl, by omega⟩

/-- How an Unpack ends: with just so many bytes, not more than 33 for a packed one, and for that number alone; or with an error and nothing. -/
structure Ends (n : Int) (p out : List Int) (g : Int) (items : Nat) : Prop where
  ends : ((uR n p out g items).2 = 0 ∧ ((uR n p out g items).1.length : Int) = n ∧ (uR n p out g items).1.length ≤ out.length + 33 * p.length ∧ ∀ m : Int, (out.length : Int) ≤ m → m ≠ n → uR m p out g items = ([], 41)) ∨
    (((uR n p out g items).2 = 40 ∨ (uR n p out g items).2 = 41) ∧ (uR n p out g items).1 = [])

theorem Ends.err40 {n : Int} {p out : List Int} {g : Int} {items : Nat} (h : uR n p out g items = ([], 40)) : Ends n p out g items := ⟨.inr (by rw [h]; exact ⟨.inl rfl, rfl⟩)⟩
theorem Ends.err41 {n : Int} {p out : List Int} {g : Int} {items : Nat} (h : uR n p out g items = ([], 41)) : Ends n p out g items := ⟨.inr (by rw [h]; exact ⟨.inr rfl, rfl⟩)⟩
theorem Ends.fin {n : Int} {p out : List Int} {g : Int} {items : Nat} (h : ∀ m, uR m p out g items = fin m out) (ho : (out.length : Int) ≤ n) : Ends n p out g items := by
  refine ⟨?_⟩
  rw [h n]
  by_cases hl : (out.length : Int) < n
  · exact .inr (by unfold Press.fin; rw [if_pos hl]; exact ⟨.inr rfl, rfl⟩)
  · refine .inl ?_
    have e : Press.fin n out = (out, 0) := by unfold Press.fin; rw [if_neg hl]
    rw [e]
    refine ⟨rfl, by simp only; omega, by simp, fun m hm hmn => ?_⟩
    rw [h m, Press.fin, if_pos (by omega)]
/-- One step that hands on to another state. -/
theorem Ends.step {n : Int} {p out : List Int} {g : Int} {items : Nat} {p' out' : List Int} {g' : Int} {items' : Nat} (k : Ends n p' out' g' items') (h : uR n p out g items = uR n p' out' g' items') (hl : out'.length + 33 * p'.length ≤ out.length + 33 * p.length)
    (hm : ∀ m : Int, (out.length : Int) ≤ m → m ≠ n → uR m p out g items = ([], 41) ∨ ((out'.length : Int) ≤ m ∧ uR m p out g items = uR m p' out' g' items')) : Ends n p out g items := by
  refine ⟨?_⟩
  rw [h]
  rcases k.ends with ⟨h1, h2, h3, h4⟩ | h5
  · refine .inl ⟨h1, h2, by omega, fun m h6 h7 => ?_⟩
    rcases hm m h6 h7 with h8 | ⟨h8, h9⟩
    · exact h8
    · rw [h9]; exact h4 m h8 h7
  · exact .inr h5

theorem uR_ends (n : Int) : ∀ (k : Nat) (p out : List Int) (g : Int) (items : Nat), p.length ≤ k → (∀ x ∈ p, 0 ≤ x ∧ x ≤ 255) → (out.length : Int) ≤ n → Ends n p out g items := by
  intro k
  induction k with
  | zero =>
    intro p out g items hk hb ho
    obtain rfl : p = [] := List.eq_nil_of_length_eq_zero (by omega)
    by_cases h8 : items = 8
    · exact .fin (fun m => by rw [uR, if_pos h8]) ho
    · by_cases hg : g = 0
      · exact .fin (fun m => by rw [uR, if_neg h8, if_pos hg]) ho
      · exact .err40 (by rw [uR, if_neg h8, if_neg hg])
  | succ k ih =>
    intro p out g items hk hb ho
    match p, hk, hb with
    | [], hk, hb => exact ih [] out g items (by simp) (by simp) ho
    | [x], hk, hb =>
      by_cases h8 : items = 8
      · exact .err40 (by rw [uR, if_pos h8])
      · by_cases hg : g % 2 = 1
        · exact .err40 (by rw [uR, if_neg h8, if_pos hg])
        · have e : ∀ m : Int, (out.length : Int) ≠ m → uR m [x] out g items = uR m [] (out ++ [x]) (g / 2) (items + 1) := fun m hm => by
            conv => lhs; rw [uR, if_neg h8, if_neg hg, if_neg hm]
          by_cases hn : (out.length : Int) = n
          · exact .err41 (by rw [uR, if_neg h8, if_neg hg, if_pos hn])
          · refine .step (ih [] (out ++ [x]) (g / 2) (items + 1) (by simp) (by simp) (by simp; try omega)) (e n hn) (by simp; try omega) fun m hm hmn => ?_
            by_cases hm2 : (out.length : Int) = m
            · exact .inl (by rw [uR, if_neg h8, if_neg hg, if_pos hm2])
            · exact .inr ⟨by simp; omega, e m hm2⟩
    | x :: y :: r, hk, hb =>
      have hx := hb x (by simp)
      have hy := hb y (by simp)
      have hb1 : ∀ z ∈ y :: r, 0 ≤ z ∧ z ≤ 255 := fun z hz => hb z (by simp at hz ⊢; exact .inr hz)
      have hb2 : ∀ z ∈ r, 0 ≤ z ∧ z ≤ 255 := fun z hz => hb z (by simp [hz])
      simp only [List.length_cons] at hk
      by_cases h8 : items = 8
      · exact .step (ih (y :: r) out x 0 (by simp; omega) hb1 ho) (by rw [uR, if_pos h8]) (by simp; try omega) fun m hm _ => .inr ⟨hm, by rw [uR, if_pos h8]⟩
      · by_cases hg : g % 2 = 1
        · generalize hv : 256 * x + y = v
          by_cases c1 : (out.length : Int) < v / 64 + 1
          · exact .err40 (by rw [uR, if_neg h8, if_pos hg, hv, if_pos c1])
          · by_cases c2 : n < out.length + (v % 64 + 3)
            · exact .err41 (by rw [uR, if_neg h8, if_pos hg, hv, if_neg c1, if_pos c2])
            · have hcl : (copyB (v / 64 + 1).toNat (v % 64 + 3).toNat out).length = out.length + (v % 64 + 3).toNat := copyB_length _ _ _
              refine .step (ih r (copyB (v / 64 + 1).toNat (v % 64 + 3).toNat out) (g / 2) (items + 1) (by omega) hb2 (by rw [hcl]; omega)) (by rw [uR, if_neg h8, if_pos hg, hv, if_neg c1, if_neg c2]) (by rw [hcl]; simp; omega) fun m hm hmn => ?_
              by_cases c3 : m < out.length + (v % 64 + 3)
              · exact .inl (by rw [uR, if_neg h8, if_pos hg, hv, if_neg c1, if_pos c3])
              · exact .inr ⟨by rw [hcl]; omega, by rw [uR, if_neg h8, if_pos hg, hv, if_neg c1, if_neg c3]⟩
        · have e : ∀ m : Int, (out.length : Int) ≠ m → uR m (x :: y :: r) out g items = uR m (y :: r) (out ++ [x]) (g / 2) (items + 1) := fun m hm => by
            conv => lhs; rw [uR, if_neg h8, if_neg hg, if_neg hm]
          by_cases hn : (out.length : Int) = n
          · exact .err41 (by rw [uR, if_neg h8, if_neg hg, if_pos hn])
          · refine .step (ih (y :: r) (out ++ [x]) (g / 2) (items + 1) (by simp; omega) hb1 (by simp; omega)) (e n hn) (by simp; try omega) fun m hm hmn => ?_
            by_cases hm2 : (out.length : Int) = m
            · exact .inl (by rw [uR, if_neg h8, if_neg hg, if_pos hm2])
            · exact .inr ⟨by simp; omega, e m hm2⟩

/-- How Unpack ends. -/
theorem unpackS_ends (p : List Int) (n : Int) (hb : ∀ x ∈ p, 0 ≤ x ∧ x ≤ 255) :
    ((unpackS p n).2 = 0 ∧ 0 ≤ n ∧ n ≤ 4096 ∧ ((unpackS p n).1.length : Int) = n ∧ (unpackS p n).1.length ≤ 33 * p.length ∧ ∀ m : Int, 0 ≤ m → m ≤ 4096 → m ≠ n → unpackS p m = ([], 41)) ∨
    ((unpackS p n).2 ≠ 0 ∧ (unpackS p n).1 = []) := by
  by_cases h : n < 0 ∨ n > 4096
  · refine .inr ?_
    unfold unpackS
    rw [if_pos h]
    exact ⟨by decide, rfl⟩
  · have e : unpackS p n = uR n p [] 0 8 := by unfold unpackS; rw [if_neg h]
    rw [e]
    rcases (uR_ends n p.length p [] 0 8 (Nat.le_refl _) hb (by simp; omega)).ends with ⟨h1, h2, h3, h4⟩ | ⟨h5, h6⟩
    · refine .inl ⟨h1, by omega, by omega, h2, by simpa using h3, fun m hm0 hm1 hmn => ?_⟩
      unfold unpackS
      rw [if_neg (by omega)]
      exact h4 m (by simpa using hm0) hmn
    · exact .inr ⟨by omega, h6⟩

end Go.Proofs.Ytoefligelajfkaa.Press
