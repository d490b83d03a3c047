import Derived.Test.YtoefligelajfkaaFam
namespace Go.Proofs.Ytoefligelajfkaa.Press
open Go.RowKit Go.Proofs.YtoefligelajfkaaW.PrintWords Go.Proofs.YtoefligelajfkaaW.PrintLast Go.Proofs.YtoefligelajfkaaW.PrintMore

/-- Nothing but this mark. -/
def AllM (y : List Int) (m : Int) : Prop := ∀ z, z ∈ y → z = m
theorem AllM.app {y : List Int} {m : Int} (h : AllM y m) : AllM (y ++ [m]) m := by
  intro z hz
  rcases List.mem_append.1 hz with hz | hz
  · exact h z hz
  · exact List.mem_singleton.1 hz
theorem AllM.at {y : List Int} {m : Int} (h : AllM y m) (k : Nat) (hk : k < y.length)   : rd y (k : Int) = m := by
  rw [rd_nat, List.getD_eq_getElem?_getD, List.getElem?_eq_getElem hk]
  exact h _ (List.getElem_mem hk)
/-- The first k of the row i bear the mark. -/
def Part (ys : List (List Int)) (i k : Nat) : Prop := ∀ y, ys[i]? = some y → ∀ t z, t < k → y[t]? = some z → z = (i : Int) + 1
def Done (ys : List (List Int)) (i : Nat) : Prop := ∀ j y, j < i → ys[j]? = some y → AllM y ((j : Int) + 1)

theorem outer_at {W : World} {b n c : Nat} {A : Option Addr} {us : List SlV} {uA : Option Addr} {un uc : Nat} (h : Outer W b (.slice A n c) us) (i : Nat) (hu : us[i]? = some ⟨uA, un, uc⟩) : ∃ g, A = some ⟨g, 0, none⟩ ∧ W.cell? ⟨g, i, none⟩ = some (.slice uA un uc) := by
  have hi : i < us.length := (List.getElem?_eq_some_iff.1 hu).1
  obtain ⟨g, cap, e, -⟩ := Kd.R_form h (by omega)
  injection e with e1 e2 e3
  subst e1 e2 e3
  have h2 := (Kd.R_celln (enc := SlV.v) (h1 := fun _ => rfl) ⟨none, 0, 0⟩ h (i : Int) (by omega) (by omega)).1
  refine ⟨g, rfl, ?_⟩
  simp only [Int.toNat_natCast] at h2
  rw [h2]
  have : rdOf (⟨none, 0, 0⟩ : SlV) us (i : Int) = ⟨uA, un, uc⟩ := by
    simp [rdOf, hu]
  rw [this]
  rfl

theorem own_form {W : World} {b un uc : Nat} {uA : Option Addr} {y : List Int} (h : Own W b (SlV.v ⟨uA, un, uc⟩) y) : un = y.length ∧ un ≤ uc ∧ (0 < un → ∃ g, uA = some ⟨g, 0, none⟩) := by
  obtain ⟨h1, h2, -⟩ := Kd.R_reads' h
  replace h1 : un = y.length := h1
  refine ⟨h1, h2, fun h0 => ?_⟩
  obtain ⟨g, cap, e, -⟩ := Kd.R_form h (by omega)
  injection e with e1 e2 e3
  exact ⟨g, e1⟩

theorem outer_off {W W1 : World} {b : Nat} {v : Value} {us : List SlV} {u : SlV} {y : List Int} (h : Outer W b v us) (hg : W.grownBy W1 u.v.ownBlock) (hu : Own W b u.v y) : Outer W1 b v us :=
  R_off rfl h hg (fun k hk e => by
    obtain ⟨cells, hc⟩ := Kd.R_typed hu k e.symm
    exact Kd.R_ne h hc (by decide) hk.symm)

/-- What the first loop of apart keeps. -/
def L1 (b : Nat) (w0 W : World) (v : Value) (all : List SlV) (i k : Nat) : Prop :=
  ∃ ys, Fam W b all ys ∧ Done ys i ∧ Part ys i k ∧ Outer W b v all ∧ Below b w0 W

theorem L1.next {b : Nat} {w0 W : World} {v : Value} {all : List SlV} {i k : Nat} {u : SlV} (h : L1 b w0 W v all i k) (hu : all[i]? = some u) (hk : u.n = k) : L1 b w0 W v all (i + 1) 0 := by
  obtain ⟨ys, h1, h2, h3, h4, h5⟩ := h
  refine ⟨ys, h1, ?_, ?_, h4, h5⟩
  · intro j y hj hy
    by_cases hji : j = i
    · subst hji
      have hr := h1.2.1 j u y hu hy
      have hl := (own_form (uA := u.A) (un := u.n) (uc := u.c) hr).1
      intro z hz
      obtain ⟨t, ht, e⟩ := List.getElem_of_mem hz
      exact h3 y hy t z (by omega) (by rw [List.getElem?_eq_getElem ht, e])
    · exact h2 j y (by omega) hy
  · intro y hy t z ht
    omega

theorem L1.put {b : Nat} {w0 W : World} {v : Value} {all : List SlV} {i k uc un g : Nat} (h : L1 b w0 W v all i k) (hu : all[i]? = some ⟨some ⟨g, 0, none⟩, un, uc⟩) (hk : k < un) :
    L1 b w0 (W.setCell ⟨g, k, none⟩ (.int .u8 ((i : Int) + 1))) v all i (k + 1) := by
  obtain ⟨ys, h1, h2, h3, h4, h5⟩ := h
  have hi : i < all.length := (List.getElem?_eq_some_iff.1 hu).1
  obtain ⟨u, y, hu', hy, hr⟩ := fam_get h1 hi
  rw [hu] at hu'
  cases hu'
  have hl := (own_form hr).1
  have hr' := hr
  obtain rfl : un = y.length := hl
  obtain ⟨hp, hg⟩ := Kd.R_put (enc := Value.int .u8) (h1 := fun _ => rfl) hr' (k : Int) ((i : Int) + 1)
  simp only [Int.toNat_natCast] at hp hg
  have hg' : W.grownBy (W.setCell ⟨g, k, none⟩ (.int .u8 ((i : Int) + 1))) (SlV.v ⟨some ⟨g, 0, none⟩, y.length, uc⟩).ownBlock := hg
  refine ⟨ys.set i (y.set k ((i : Int) + 1)), fam_put h1 hu hg' hp, ?_, ?_, outer_off h4 hg' hr, h5.setCell (Kd.R_base hr g rfl) _⟩
  · intro j y' hj hy'
    rw [List.getElem?_set_ne (by omega)] at hy'
    exact h2 j y' hj hy'
  · intro y' hy' t z ht hz
    rw [List.getElem?_set_self (by rw [← h1.1]; exact hi)] at hy'
    cases hy'
    by_cases htk : t = k
    · subst htk
      rw [List.getElem?_set_self hk] at hz
      cases hz
      rfl
    · rw [List.getElem?_set_ne (by omega)] at hz
      exact h3 y hy t z (by omega) hz

theorem L1.cell {b : Nat} {w0 W : World} {v : Value} {all : List SlV} {i k uc un : Nat} {uA : Option Addr} (h : L1 b w0 W v all i k) (hu : all[i]? = some ⟨uA, un, uc⟩) (hk : k < un) : ∃ g x, uA = some ⟨g, 0, none⟩ ∧ W.cell? ⟨g, k, none⟩ = some (.int .u8 x) ∧ W.frozen? ⟨g, k, none⟩ = false := by
  obtain ⟨ys, h1, h2, h3, h4, h5⟩ := h
  have hi : i < all.length := (List.getElem?_eq_some_iff.1 hu).1
  obtain ⟨u, y, hu', hy, hr⟩ := fam_get h1 hi
  rw [hu] at hu'
  cases hu'
  obtain ⟨hl, -, hf⟩ := own_form hr
  obtain ⟨g, rfl⟩ := hf (by omega)
  obtain ⟨h6, h7⟩ := Kd.R_celln (enc := Value.int .u8) (h1 := fun _ => rfl) (0 : Int) hr (k : Int) (by omega) (by show (k : Int) < (un : Int); omega)
  simp only [Int.toNat_natCast] at h6 h7
  exact ⟨g, _, rfl, h6, h7⟩
end Go.Proofs.Ytoefligelajfkaa.Press
