import Derived.Scope
namespace Go.Proofs.Ytoefligelajfkaa.Press

/-- As Q; by a goto: J of its label. -/
def jumps (J : Nat → Act → World → Prop) (Q : Exit → Act → World → Prop) : Exit → Act → World → Prop
  | .goto l, a, w => J l a w
  | e, a, w => Q e a w

section
variable {P : Program} {a : Act} {w : World} {Q : Exit → Act → World → Prop}

/-- A scope with several labels: what holds at a jump to each, with a number that every pass lowers. -/
theorem wp_scope_multi {c : Code} (L : Nat → Option Code) (hL : ∀ l rest, L l = some rest → findLabel c l = some rest) (J : Nat → Nat → Act → World → Prop)
    (first : c.wp P (jumps (fun l a' w' => (L l).isSome = true ∧ ∃ n, J n l a' w') Q) a w)
    (pass : ∀ n l rest a w, L l = some rest → J n l a w → rest.wp P (jumps (fun l' a' w' => (L l').isSome = true ∧ ∃ n', n' < n ∧ J n' l' a' w') Q) a w) : (Code.scope c).wp P Q a w := by
  intro b k cs
  have key : ∀ n l rest a w, L l = some rest → J n l a w → ∃ e a' w', Q e a' w' ∧ Arrives P (lone (b.at a (.code rest :: .inScope c :: k)) cs w) b k cs e a' w' := by
    intro n
    induction n using Nat.strongRecOn with
    | _ n ih =>
      intro l rest a w hl hJ
      obtain ⟨e, a₁, w₁, hq, harr⟩ := pass n l rest a w hl hJ b (.inScope c :: k) cs
      cases e with
      | normal => exact ⟨.normal, a₁, w₁, hq, Steps.trans harr (.one step_inScope)⟩
      | exit id => exact ⟨.exit id, a₁, w₁, hq, fun k' hk => harr k' (by simp [exitTo, hk])⟩
      | goto l' =>
        obtain ⟨hs, n', hlt, hJ'⟩ := hq
        obtain ⟨rest', hl'⟩ := Option.isSome_iff_exists.1 hs
        have hg : gotoIn l' (.inScope c :: k) = some (.code rest' :: .inScope c :: k) := by simp [gotoIn, hL l' rest' hl']
        obtain ⟨e₂, a₂, w₂, hq₂, harr₂⟩ := ih n' hlt l' rest' a₁ w₁ hl' hJ'
        exact ⟨e₂, a₂, w₂, hq₂, .of_steps (harr _ hg) harr₂⟩
      | ret => exact ⟨_, a₁, w₁, hq, harr⟩
      | panic ch => exact ⟨_, a₁, w₁, hq, harr⟩
      | outgrown => exact ⟨_, a₁, w₁, hq, harr⟩
  obtain ⟨e, a₁, w₁, hq, harr⟩ := first b (.inScope c :: k) cs
  cases e with
  | normal => exact ⟨.normal, a₁, w₁, hq, .head step_scope (Steps.trans harr (.one step_inScope))⟩
  | exit id => exact ⟨.exit id, a₁, w₁, hq, fun k' hk => .head step_scope (harr k' (by simp [exitTo, hk]))⟩
  | goto l' =>
    obtain ⟨hs, n', hJ'⟩ := hq
    obtain ⟨rest', hl'⟩ := Option.isSome_iff_exists.1 hs
    have hg : gotoIn l' (.inScope c :: k) = some (.code rest' :: .inScope c :: k) := by simp [gotoIn, hL l' rest' hl']
    obtain ⟨e₂, a₂, w₂, hq₂, harr₂⟩ := key n' l' rest' a₁ w₁ hl' hJ'
    exact ⟨e₂, a₂, w₂, hq₂, .of_steps (.head step_scope (harr _ hg)) harr₂⟩
  | ret => exact ⟨_, a₁, w₁, hq, .of_steps (.one step_scope) harr⟩
  | panic ch => exact ⟨_, a₁, w₁, hq, .of_steps (.one step_scope) harr⟩
  | outgrown => exact ⟨_, a₁, w₁, hq, .of_steps (.one step_scope) harr⟩

theorem jumps_mono {J J' : Nat → Act → World → Prop} (h : ∀ l a w, J l a w → J' l a w) : ∀ e a w, jumps J Q e a w → jumps J' Q e a w := by
  intro e a w hq
  cases e with
  | goto l => exact h _ _ _ hq
  | normal => exact hq
  | exit id => exact hq
  | ret => exact hq
  | panic ch => exact hq
  | outgrown => exact hq

def below3 (J : Nat → Nat → Act → World → Prop) (n : Nat) (l : Nat) (a : Act) (w : World) : Prop := (l = 0 ∨ l = 1 ∨ l = 2) ∧ ∃ n', n' < n ∧ J n' l a w
def some3 (J : Nat → Nat → Act → World → Prop) (l : Nat) (a : Act) (w : World) : Prop := (l = 0 ∨ l = 1 ∨ l = 2) ∧ ∃ n', J n' l a w

/-- Three labels: 1 falls into 2, the begin falls into 1. -/
theorem wp_scope_three {c r0 r1 r2 : Code} (J : Nat → Nat → Act → World → Prop) (h0 : findLabel c 0 = some (.seq .skip r0)) (h1 : findLabel c 1 = some (.seq .skip r1)) (h2 : findLabel c 2 = some (.seq .skip r2))
    (p0 : ∀ n a w, J n 0 a w → r0.wp P (jumps (below3 J n) Q) a w)
    (p2 : ∀ n a w, J n 2 a w → r2.wp P (jumps (below3 J n) Q) a w)
    (p1 : ∀ n a w, J n 1 a w → (∀ n' a w, n' < n → J n' 2 a w → r2.wp P (jumps (below3 J n) Q) a w) → r1.wp P (jumps (below3 J n) Q) a w)
    (first : (∀ n' a w, J n' 1 a w → r1.wp P (jumps (some3 J) Q) a w) → c.wp P (jumps (some3 J) Q) a w) : (Code.scope c).wp P Q a w := by
  have le3 : ∀ {n n' : Nat}, n' ≤ n → ∀ l a w, below3 J n' l a w → below3 J n l a w := fun hle l a w ⟨hl, m, hm, hJ⟩ => ⟨hl, m, Nat.lt_of_lt_of_le hm hle, hJ⟩
  have q1 : ∀ n a w, J n 1 a w → r1.wp P (jumps (below3 J n) Q) a w := fun n a w hJ => p1 n a w hJ fun n' a w hlt hJ' => wp_mono (p2 n' a w hJ') (jumps_mono (le3 (Nat.le_of_lt hlt)))
  refine wp_scope_multi (fun l => if l = 0 then some (Code.seq .skip r0) else if l = 1 then some (Code.seq .skip r1) else if l = 2 then some (Code.seq .skip r2) else none) ?_ J ?_ ?_
  · intro l rest hl
    split at hl
    · subst l; rw [h0]; exact hl
    · split at hl
      · subst l; rw [h1]; exact hl
      · split at hl
        · subst l; rw [h2]; exact hl
        · cases hl
  · refine wp_mono (first fun n' a w hJ => wp_mono (q1 n' a w hJ) (jumps_mono fun l a w ⟨hl, m, _, hJ⟩ => ⟨hl, m, hJ⟩)) (jumps_mono ?_)
    rintro l a w ⟨rfl | rfl | rfl, n, hJ⟩ <;> exact ⟨rfl, n, hJ⟩
  · intro n l rest a w hl hJ
    have fin : ∀ l a w, below3 J n l a w → (Option.isSome (if l = 0 then some (Code.seq .skip r0) else if l = 1 then some (Code.seq .skip r1) else if l = 2 then some (Code.seq .skip r2) else none) = true ∧ ∃ n', n' < n ∧ J n' l a w) := by
      rintro l a w ⟨rfl | rfl | rfl, n', hlt, hJ⟩ <;> exact ⟨rfl, n', hlt, hJ⟩
    split at hl
    · subst l; cases hl; exact wp_seq (wp_skip (wp_mono (p0 n a w hJ) (jumps_mono fin)))
    · split at hl
      · subst l; cases hl; exact wp_seq (wp_skip (wp_mono (q1 n a w hJ) (jumps_mono fin)))
      · split at hl
        · subst l; cases hl; exact wp_seq (wp_skip (wp_mono (p2 n a w hJ) (jumps_mono fin)))
        · cases hl
end
end Go.Proofs.Ytoefligelajfkaa.Press
