import Derived.Test.YtoefligelajfkaaApp1
namespace Go.Proofs.Ytoefligelajfkaa.Press
open Go.RowKit Go.Proofs.YtoefligelajfkaaW.PrintWords Go.Proofs.YtoefligelajfkaaW.PrintLast Go.Proofs.YtoefligelajfkaaW.PrintMore

/-- A slice's header. -/
structure SlV where
  A : Option Addr
  n : Nat
  c : Nat
def SlV.v (s : SlV) : Value := .slice s.A s.n s.c
/-- Slices' headers as a kind of scalars. -/
def skd : Kd SlV := Kd.scalar SlV.v (fun _ => rfl)

abbrev Own (W : World) (b : Nat) (v : Value) (y : List Int) : Prop := Kd.R (Kd.int .u8) 5 W b (fun _ => True) v y
abbrev Outer (W : World) (b : Nat) (v : Value) (us : List SlV) : Prop := Kd.R skd 22 W b (fun _ => True) v us

theorem R_off {α : Type} {d : Kd α} {e : Nat} {W W1 : World} {b : Nat} {v : Value} {y : List α} {r : Option Nat} (hE : d.E = []) (h : d.R e W b (fun _ => True) v y) (hg : W.grownBy W1 r) (hne : ∀ k, v.ownBlock = some k → some k ≠ r) : d.R e W1 b (fun _ => True) v y :=
  Kd.R_mono (Kd.R_grown (Kd.R_tight hE h) hg (fun k hk => hne k hk.symm)) (fun _ _ => trivial)

/-- Rows of one's own, no two in one block. -/
def Fam (W : World) (b : Nat) (us : List SlV) (ys : List (List Int)) : Prop :=
  us.length = ys.length ∧ (∀ (j : Nat) (u : SlV) (y : List Int), us[j]? = some u → ys[j]? = some y → Own W b u.v y) ∧
    ∀ (i j : Nat) (u u' : SlV), us[i]? = some u → us[j]? = some u' → i ≠ j → ∀ k, u.v.ownBlock = some k → u'.v.ownBlock ≠ some k

theorem fam_below {W W1 : World} {b : Nat} {us : List SlV} {ys : List (List Int)} (h : Fam W b us ys) (hb : Below W.heap.size W W1) : Fam W1 b us ys :=
  ⟨h.1, fun j u y hu hy => Kd.R_below (h.2.1 j u y hu hy) hb, h.2.2⟩

theorem fam_get {W : World} {b : Nat} {us : List SlV} {ys : List (List Int)} (h : Fam W b us ys) {j : Nat} (hj : j < us.length) : ∃ u y, us[j]? = some u ∧ ys[j]? = some y ∧ Own W b u.v y :=
  ⟨us[j], ys[j]'(by rw [← h.1]; exact hj), List.getElem?_eq_getElem hj, List.getElem?_eq_getElem _, h.2.1 _ _ _ (List.getElem?_eq_getElem hj) (List.getElem?_eq_getElem _)⟩

/-- One of the rows changes in its place. -/
theorem fam_put {W W1 : World} {b : Nat} {us : List SlV} {ys : List (List Int)} (h : Fam W b us ys) {j : Nat} {u : SlV} {y : List Int} (hu : us[j]? = some u) (hg : W.grownBy W1 u.v.ownBlock) (hy : Own W1 b u.v y) : Fam W1 b us (ys.set j y) := by
  refine ⟨by rw [List.length_set]; exact h.1, ?_, h.2.2⟩
  intro i u' y' hu' hy'
  by_cases hij : i = j
  · subst hij
    rw [hu] at hu'
    cases hu'
    have hl : i < ys.length := by rw [← h.1]; exact (List.getElem?_eq_some_iff.1 hu).1
    rw [List.getElem?_set_self hl] at hy'
    cases hy'
    exact hy
  · rw [List.getElem?_set_ne (by omega)] at hy'
    exact R_off rfl (h.2.1 i u' y' hu' hy') hg (fun k hk e => h.2.2 i j u' u hu' hu hij k hk e.symm)

/-- The rows as they were (v), and as they have grown (u). -/
def Fam2 (W : World) (b : Nat) (vs us : List SlV) (xs ys : List (List Int)) : Prop :=
  vs.length = us.length ∧ us.length = xs.length ∧ us.length = ys.length ∧
  (∀ (j : Nat) (v : SlV) (x : List Int), vs[j]? = some v → xs[j]? = some x → Own W b v.v x) ∧
  (∀ (j : Nat) (u : SlV) (y : List Int), us[j]? = some u → ys[j]? = some y → Own W b u.v y) ∧
  ∀ (i j : Nat) (u : SlV), us[i]? = some u → i ≠ j → ∀ k, u.v.ownBlock = some k → (∀ u' : SlV, us[j]? = some u' → u'.v.ownBlock ≠ some k) ∧ ∀ v : SlV, vs[j]? = some v → v.v.ownBlock ≠ some k

theorem fam2_start {W : World} {b : Nat} {us : List SlV} {ys : List (List Int)} (h : Fam W b us ys) : Fam2 W b us us ys ys :=
  ⟨rfl, h.1, h.1, h.2.1, h.2.1, fun i j u hu hij k hk => ⟨fun u' hu' => h.2.2 i j u u' hu hu' hij k hk, fun u' hu' => h.2.2 i j u u' hu hu' hij k hk⟩⟩

theorem fam2_below {W W1 : World} {b : Nat} {vs us : List SlV} {xs ys : List (List Int)} (h : Fam2 W b vs us xs ys) (hb : Below W.heap.size W W1) : Fam2 W1 b vs us xs ys :=
  ⟨h.1, h.2.1, h.2.2.1, fun j v x hv hx => Kd.R_below (h.2.2.2.1 j v x hv hx) hb, fun j u y hu hy => Kd.R_below (h.2.2.2.2.1 j u y hu hy) hb, h.2.2.2.2.2⟩

/-- Something else grows. -/
theorem fam2_off {W W1 : World} {b : Nat} {vs us : List SlV} {xs ys : List (List Int)} {r : Option Nat} (h : Fam2 W b vs us xs ys) (hg : W.grownBy W1 r) (hr : ∀ k, r = some k → ∃ cells, W.heap[k]? = some (.cells cells 22 (0, 0))) : Fam2 W1 b vs us xs ys := by
  have hne : ∀ (v : Value) y, Own W b v y → ∀ k, v.ownBlock = some k → some k ≠ r := by
    intro v y hv k hk e
    obtain ⟨cells, hc⟩ := hr k e.symm
    exact Kd.R_ne hv hc (by decide) hk.symm
  exact ⟨h.1, h.2.1, h.2.2.1, fun j v x hv hx => R_off rfl (h.2.2.2.1 j v x hv hx) hg (hne _ _ (h.2.2.2.1 j v x hv hx)), fun j u y hu hy => R_off rfl (h.2.2.2.2.1 j u y hu hy) hg (hne _ _ (h.2.2.2.2.1 j u y hu hy)), h.2.2.2.2.2⟩

/-- One of them grows: in its place or in new memory. -/
theorem fam2_grow {W W1 : World} {b : Nat} {vs us : List SlV} {xs ys : List (List Int)} (h : Fam2 W b vs us xs ys) {j : Nat} {v u u1 : SlV} {x y1 : List Int} (hv : vs[j]? = some v) (hx : xs[j]? = some x) (hu : us[j]? = some u) (hg : W.grownBy W1 u.v.ownBlock)
    (hv1 : Own W1 b v.v x) (hu1 : Own W1 b u1.v y1) (hat : u1.v.ownBlock = u.v.ownBlock ∨ ∃ k, u1.v.ownBlock = some k ∧ W.heap.size ≤ k) : Fam2 W1 b vs (us.set j u1) xs (ys.set j y1) := by
  obtain ⟨h1, h2, h3, h4, h5, h6⟩ := h
  have hj : j < us.length := (List.getElem?_eq_some_iff.1 hu).1
  refine ⟨by rw [List.length_set]; exact h1, by rw [List.length_set]; exact h2, by rw [List.length_set, List.length_set]; exact h3, ?_, ?_, ?_⟩
  · intro i v' x' hv' hx'
    by_cases hij : i = j
    · subst hij
      rw [hv] at hv'; cases hv'
      rw [hx] at hx'; cases hx'
      exact hv1
    · refine R_off rfl (h4 i v' x' hv' hx') hg (fun k hk e => ?_)
      exact (h6 j i u hu (fun e => hij e.symm) k e.symm).2 v' hv' hk
  · intro i u' y' hu' hy'
    by_cases hij : i = j
    · subst hij
      rw [List.getElem?_set_self hj] at hu'; cases hu'
      rw [List.getElem?_set_self (by omega)] at hy'; cases hy'
      exact hu1
    · rw [List.getElem?_set_ne (by omega)] at hu' hy'
      refine R_off rfl (h5 i u' y' hu' hy') hg (fun k hk e => ?_)
      exact (h6 j i u hu (fun e => hij e.symm) k e.symm).1 u' hu' hk
  · have hlt : ∀ (i : Nat) (u' : SlV) (k : Nat), us[i]? = some u' → u'.v.ownBlock = some k → k < W.heap.size := by
      intro i u' k hu' hk
      have hi : i < us.length := (List.getElem?_eq_some_iff.1 hu').1
      exact Kd.R_lt (h5 i u' _ hu' (List.getElem?_eq_getElem (by omega))) k hk
    have hltv : ∀ (i : Nat) (u' : SlV) (k : Nat), vs[i]? = some u' → u'.v.ownBlock = some k → k < W.heap.size := by
      intro i u' k hu' hk
      have hi : i < vs.length := (List.getElem?_eq_some_iff.1 hu').1
      exact Kd.R_lt (h4 i u' _ hu' (List.getElem?_eq_getElem (by omega))) k hk
    intro i i' u' hu' hii k hk
    by_cases hij : i = j
    · subst hij
      rw [List.getElem?_set_self hj] at hu'; cases hu'
      rcases hat with hat | ⟨k', hk', hlk⟩
      · rw [hat] at hk
        refine ⟨fun u'' hu'' => ?_, (h6 i i' u hu hii k hk).2⟩
        rw [List.getElem?_set_ne hii] at hu''
        exact (h6 i i' u hu hii k hk).1 u'' hu''
      · rw [hk] at hk'; cases hk'
        refine ⟨fun u'' hu'' e => ?_, fun v'' hv'' e => ?_⟩
        · rw [List.getElem?_set_ne hii] at hu''
          have := hlt i' u'' k hu'' e
          omega
        · have := hltv i' v'' k hv'' e
          omega
    · rw [List.getElem?_set_ne (by omega)] at hu'
      refine ⟨fun u'' hu'' => ?_, (h6 i i' u' hu' hii k hk).2⟩
      by_cases hi'j : i' = j
      · subst hi'j
        rw [List.getElem?_set_self hj] at hu''; cases hu''
        rcases hat with hat | ⟨k', hk', hlk⟩
        · rw [hat]; exact (h6 i i' u' hu' hii k hk).1 u hu
        · intro e
          rw [e] at hk'; cases hk'
          have := hlt i u' k hu' hk
          omega
      · rw [List.getElem?_set_ne (by omega)] at hu''
        exact (h6 i i' u' hu' hii k hk).1 u'' hu''
end Go.Proofs.Ytoefligelajfkaa.Press
