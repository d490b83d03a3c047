import Derived.Test.YtoefligelajfkaaApart1
namespace Go.Proofs.Ytoefligelajfkaa.Press
open Go.RowKit Go.Proofs.YtoefligelajfkaaW.PrintWords Go.Proofs.YtoefligelajfkaaW.PrintLast Go.Proofs.YtoefligelajfkaaW.PrintMore

/-- A row that has grown, and what it was: apart, or the one the other's head. -/
def PRel (v u : SlV) (x z : List Int) : Prop := (∀ k, u.v.ownBlock = some k → v.v.ownBlock ≠ some k) ∨ (u.A = v.A ∧ u.c = v.c ∧ z.take x.length = x ∧ v.n = x.length ∧ x.length ≤ z.length)

/-- What the second loop of apart keeps, between two rows. -/
def L2 (b b2 : Nat) (w0 W : World) (v : Value) (all : List SlV) (i : Nat) (v3 : Value) : Prop :=
  ∃ us xs zs, Fam2 W b all us xs zs ∧ Done xs all.length ∧ Done zs all.length ∧ Outer W b v all ∧ Outer W b v3 (us.take i) ∧ (∀ k, v3.ownBlock = some k → b2 ≤ k) ∧ (∀ k, v.ownBlock = some k → k < b2) ∧ Below b w0 W ∧
    (∀ j, i ≤ j → us[j]? = all[j]? ∧ xs[j]? = zs[j]?)

/-- And within a row. -/
def L2i (b b2 : Nat) (w0 W : World) (v : Value) (all : List SlV) (i : Nat) (v3 : Value) (u : SlV) (m : Nat) (z : List Int) : Prop :=
  ∃ us xs zs, Fam2 W b all us xs zs ∧ Done xs all.length ∧ Done zs all.length ∧ Outer W b v all ∧ Outer W b v3 (us.take i) ∧ (∀ k, v3.ownBlock = some k → b2 ≤ k) ∧ (∀ k, v.ownBlock = some k → k < b2) ∧ Below b w0 W ∧
    (∀ j, i < j → us[j]? = all[j]? ∧ xs[j]? = zs[j]?) ∧ us[i]? = some u ∧ u.n ≤ m ∧ zs[i]? = some z ∧ ∃ p x, all[i]? = some p ∧ xs[i]? = some x ∧ PRel p u x z

theorem L1.start2 {b : Nat} {w0 W : World} {v : Value} {all : List SlV} (h : L1 b w0 W v all all.length 0) : L2 b W.heap.size w0 W v all 0 (.slice none 0 0) := by
  obtain ⟨ys, h1, h2, h3, h4, h5⟩ := h
  refine ⟨all, ys, ys, fam2_start h1, h2, h2, h4, ?_, fun k hk => by simp [Value.ownBlock] at hk, Kd.R_lt h4, h5, fun j _ => ⟨rfl, rfl⟩⟩
  rw [List.take_zero]
  exact Kd.R_nil _ _ _ _ _

theorem L2.enter {b b2 : Nat} {w0 W : World} {v v3 : Value} {all : List SlV} {i : Nat} {u : SlV} {m : Nat} (h : L2 b b2 w0 W v all i v3) (hu : all[i]? = some u) (hm : u.n ≤ m) : ∃ z, L2i b b2 w0 W v all i v3 u m z := by
  obtain ⟨us, xs, zs, h1, h2, h3, h4, h5, h6, h7, h8, h9⟩ := h
  have hi : i < all.length := (List.getElem?_eq_some_iff.1 hu).1
  have hx : xs[i]? = some (xs[i]'(by rw [← h1.2.1, ← h1.1]; exact hi)) := List.getElem?_eq_getElem _
  refine ⟨_, us, xs, zs, h1, h2, h3, h4, h5, h6, h7, h8, fun j hj => h9 j (by omega), by rw [(h9 i (by omega)).1, hu], hm, by rw [← (h9 i (by omega)).2]; exact hx, u, _, hu, hx, .inr ⟨rfl, rfl, List.take_length, ?_, Nat.le_refl _⟩⟩
  exact (own_form (h1.2.2.2.1 i u _ hu hx)).1

theorem L2i.own {b b2 : Nat} {w0 W : World} {v v3 : Value} {all : List SlV} {i m : Nat} {u : SlV} {z : List Int} (h : L2i b b2 w0 W v all i v3 u m z) : Own W b u.v z ∧ u.n = z.length := by
  obtain ⟨us, xs, zs, h1, h2, h3, h4, h5, h6, h7, h8, h9, h10, h11, h14, p, x, h12, h13, h15⟩ := h
  have := h1.2.2.2.2.1 i u z h10 h14
  exact ⟨this, (own_form this).1⟩

theorem ownBlock_A (A : Option Addr) (n n' c c' : Nat) : (Value.slice A n c).ownBlock = (Value.slice A n' c').ownBlock := by cases A <;> rfl

/-- One byte more. -/
theorem L2i.app {b b2 : Nat} {w0 W w1 : World} {v v3 v1 : Value} {all : List SlV} {i m : Nat} {u : SlV} {z : List Int} (h : L2i b b2 w0 W v all i v3 u m z)
    (hv1 : Own w1 b v1 (z ++ [(i : Int) + 1])) (hB : Below b w0 w1) (hg : W.grownBy w1 u.v.ownBlock) (ho : Own w1 b u.v z)
    (hat : (∃ A c, u.v = .slice A z.length c ∧ v1 = .slice A (z.length + 1) c) ∨ ∃ k, v1.ownBlock = some k ∧ W.heap.size ≤ k) :
    ∃ A n c, v1 = .slice A n c ∧ L2i b b2 w0 w1 v all i v3 ⟨A, n, c⟩ (m + 1) (z ++ [(i : Int) + 1]) := by
  obtain ⟨us, xs, zs, h1, h2, h3, h4, h5, h6, h7, h8, h9, h10, h11, h14, p, x, h12, h13, h15⟩ := h
  obtain ⟨A, c, rfl⟩ := Kd.R_slice hv1
  have hu := h1.2.2.2.2.1 i u z h10 h14
  have hp := h1.2.2.2.1 i p x h12 h13
  have hun := (own_form hu).1
  have hil : i < us.length := (List.getElem?_eq_some_iff.1 h10).1
  have hizl : i < zs.length := (List.getElem?_eq_some_iff.1 h14).1
  have hial : i < all.length := (List.getElem?_eq_some_iff.1 h12).1
  have hp1 : Own w1 b p.v x := by
    rcases h15 with h15 | ⟨e1, e2, e3, e4, e5⟩
    · exact R_off rfl hp hg (fun k hk e => h15 k e.symm hk)
    · have h := Kd.R_take (m := x.length) ho e5
      rw [e3] at h
      obtain ⟨pA, pn, pc⟩ := p
      subst e1 e2 e4
      exact h
  have hat2 : (SlV.v ⟨A, (z ++ [(i : Int) + 1]).length, c⟩).ownBlock = u.v.ownBlock ∨ ∃ k, (SlV.v ⟨A, (z ++ [(i : Int) + 1]).length, c⟩).ownBlock = some k ∧ W.heap.size ≤ k := by
    rcases hat with ⟨A', c', e1, e2⟩ | hat
    · left
      injection e2 with e3 e4 e5
      subst e3 e5
      rw [e1]
      exact ownBlock_A _ _ _ _ _
    · exact .inr hat
  have hF : Fam2 w1 b all (us.set i ⟨A, (z ++ [(i : Int) + 1]).length, c⟩) xs (zs.set i (z ++ [(i : Int) + 1])) := fam2_grow h1 h12 h13 h10 hg hp1 hv1 hat2
  refine ⟨A, _, c, rfl, _, xs, _, hF, h2, ?_, outer_off h4 hg hu, ?_, h6, h7, hB, ?_, List.getElem?_set_self hil, by show (z ++ [(i : Int) + 1]).length ≤ m + 1; rw [List.length_append, List.length_singleton]; omega, List.getElem?_set_self hizl, p, x, h12, h13, ?_⟩
  · intro j y hj hy
    by_cases hji : j = i
    · subst hji
      rw [List.getElem?_set_self hizl] at hy
      cases hy
      exact (h3 j z hj h14).app
    · rw [List.getElem?_set_ne (by omega)] at hy
      exact h3 j y hj hy
  · rw [List.take_set_of_le (by omega)]
    exact outer_off h5 hg hu
  · intro j hj
    rw [List.getElem?_set_ne (by omega), List.getElem?_set_ne (by omega)]
    exact h9 j hj
  · rcases hat with ⟨A', c', e1, e2⟩ | ⟨k, hk, hlk⟩
    · injection e2 with e3 e4 e5
      subst e3 e5
      obtain ⟨uA, un, uc⟩ := u
      injection e1 with e6 e7 e8
      subst e6 e8
      rcases h15 with h15 | ⟨e1, e2, e3, e4, e5⟩
      · exact .inl (fun k hk => h15 k (hk ▸ ownBlock_A _ _ _ _ _))
      · exact .inr ⟨e1, e2, by rw [List.take_append_of_le_length e5]; exact e3, e4, by rw [List.length_append]; omega⟩
    · left
      intro k' hk' e
      replace hk' : (Value.slice A (z ++ [(i : Int) + 1]).length c).ownBlock = some k' := hk'
      rw [hk] at hk'
      cases hk'
      have := Kd.R_lt hp k e
      omega

/-- A row's end: its header joins the list of the longer. -/
theorem L2i.next {b b2 : Nat} {w0 W : World} {v v3 : Value} {all : List SlV} {i m : Nat} {u : SlV} {z : List Int} (h : L2i b b2 w0 W v all i v3 u m z) (hb2 : b2 ≤ W.heap.size) :
    ∃ ts : List SlV, ts.length = i ∧ Outer W b v3 ts ∧ Below b w0 W ∧ ∀ (v1 : Value) (w1 : World), Outer w1 b v1 (ts ++ [u]) → Below b w0 w1 → W.grownBy w1 v3.ownBlock → (v1.ownBlock = v3.ownBlock ∨ ∃ k, v1.ownBlock = some k ∧ W.heap.size ≤ k) → L2 b b2 w0 w1 v all (i + 1) v1 := by
  obtain ⟨us, xs, zs, h1, h2, h3, h4, h5, h6, h7, h8, h9, h10, h11, h14, p, x, h12, h13, h15⟩ := h
  have hil : i < us.length := (List.getElem?_eq_some_iff.1 h10).1
  refine ⟨us.take i, by rw [List.length_take]; omega, h5, h8, ?_⟩
  intro v1 w1 hv1 hB hg hat
  refine ⟨us, xs, zs, fam2_off h1 hg (fun k hk => Kd.R_typed h5 k hk), h2, h3, R_off rfl h4 hg (fun k hk e => ?_), ?_, ?_, h7, hB, fun j hj => h9 j (by omega)⟩
  · have h1 := h7 k hk
    have h2 := h6 k e.symm
    omega
  · rw [List.take_succ_eq_append_getElem hil]
    have e : us[i] = u := by have := List.getElem?_eq_getElem hil; rw [h10] at this; exact (Option.some.inj this).symm
    rw [e]
    exact hv1
  · intro k hk
    rcases hat with hat | ⟨k', hk', hl⟩
    · exact h6 k (hat ▸ hk)
    · rw [hk'] at hk
      cases hk
      omega

theorem L2.slice3 {b b2 : Nat} {w0 W : World} {v v3 : Value} {all : List SlV} {i : Nat} (h : L2 b b2 w0 W v all i v3) : ∃ A n c, v3 = .slice A n c := by
  obtain ⟨us, xs, zs, h1, h2, h3, h4, h5, h6, h7, h8, h9⟩ := h
  obtain ⟨A, c, e⟩ := Kd.R_slice h5
  exact ⟨A, _, c, e⟩

theorem info22 : (Try.prog.info? 22).map (fun i => (i.zero, i.size, i.bytes)) = some (some (.slice none 0 0), 1, 24) := by kernel_rfl

theorem own_cells {W : World} {b un uc : Nat} {uA : Option Addr} {y : List Int} {m : Int} (h : Own W b (SlV.v ⟨uA, un, uc⟩) y) (hm : AllM y m) (k : Nat) (hk : k < un) : ∃ g, uA = some ⟨g, 0, none⟩ ∧ W.cell? ⟨g, k, none⟩ = some (.int .u8 m) := by
  obtain ⟨hl, -, hf⟩ := own_form h
  obtain ⟨g, rfl⟩ := hf (by omega)
  have h6 := (Kd.R_celln (enc := Value.int .u8) (h1 := fun _ => rfl) (0 : Int) h (k : Int) (by omega) (by show (k : Int) < (un : Int); omega)).1
  simp only [Int.toNat_natCast] at h6
  have e : rdOf (0 : Int) y (k : Int) = m := hm.at k (by omega)
  rw [e] at h6
  exact ⟨g, rfl, h6⟩

theorem L2.len {b b2 : Nat} {w0 W : World} {v : Value} {all : List SlV} {A3 : Option Addr} {n3 c3 : Nat} (h : L2 b b2 w0 W v all all.length (.slice A3 n3 c3)) : n3 = all.length := by
  obtain ⟨us, xs, zs, h1, h2, h3, h4, h5, h6, h7, h8, h9⟩ := h
  have := (Kd.R_reads' h5).1
  rw [List.length_take, ← h1.1] at this
  omega

/-- What the third loop of apart reads. -/
theorem L2.row {b b2 : Nat} {w0 W : World} {A0 A3 : Option Addr} {n0 n3 c0 c3 : Nat} {all : List SlV} (h : L2 b b2 w0 W (.slice A0 n0 c0) all all.length (.slice A3 n3 c3)) (i : Nat) (hi : i < all.length) :
    ∃ vA vn vc uA un uc, (∃ g, A0 = some ⟨g, 0, none⟩ ∧ W.cell? ⟨g, i, none⟩ = some (.slice vA vn vc)) ∧ (∃ g, A3 = some ⟨g, 0, none⟩ ∧ W.cell? ⟨g, i, none⟩ = some (.slice uA un uc)) ∧ un ≤ 9223372036854775807 ∧ vn ≤ 9223372036854775807 ∧
      (∀ k, k < un → ∃ g, uA = some ⟨g, 0, none⟩ ∧ W.cell? ⟨g, k, none⟩ = some (.int .u8 ((i : Int) + 1))) ∧ ∀ k, k < vn → ∃ g, vA = some ⟨g, 0, none⟩ ∧ W.cell? ⟨g, k, none⟩ = some (.int .u8 ((i : Int) + 1)) := by
  obtain ⟨us, xs, zs, h1, h2, h3, h4, h5, h6, h7, h8, h9⟩ := h
  obtain ⟨e1, e2, e3, e4, e5, e6⟩ := h1
  obtain ⟨⟨vA, vn, vc⟩, hv⟩ : ∃ v, all[i]? = some v := ⟨_, List.getElem?_eq_getElem hi⟩
  obtain ⟨⟨uA, un, uc⟩, hu⟩ : ∃ u, us[i]? = some u := ⟨_, List.getElem?_eq_getElem (by omega)⟩
  obtain ⟨x, hx⟩ : ∃ x, xs[i]? = some x := ⟨_, List.getElem?_eq_getElem (by omega)⟩
  obtain ⟨z, hz⟩ : ∃ z, zs[i]? = some z := ⟨_, List.getElem?_eq_getElem (by omega)⟩
  have hV := e4 i _ x hv hx
  have hU := e5 i _ z hu hz
  refine ⟨vA, vn, vc, uA, un, uc, outer_at h4 i hv, outer_at h5 i (by rw [List.getElem?_take]; rw [if_pos hi]; exact hu), ?_, ?_, own_cells hU (h3 i z hi hz), own_cells hV (h2 i x hi hx)⟩
  · rw [(own_form hU).1]; exact Kd.C_max (Kd.R_reads' hU).2.2
  · rw [(own_form hV).1]; exact Kd.C_max (Kd.R_reads' hV).2.2
end Go.Proofs.Ytoefligelajfkaa.Press
