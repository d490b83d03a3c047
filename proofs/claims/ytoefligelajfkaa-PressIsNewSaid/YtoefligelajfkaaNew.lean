import Derived.Test.YtoefligelajfkaaApart
import Derived.Test.YtoefligelajfkaaLawU
import Derived.Test.YtoefligelajfkaaRound
namespace Go.Proofs.Ytoefligelajfkaa.Press
open Go.RowKit Go.Proofs.YtoefligelajfkaaW.PrintWords Go.Proofs.YtoefligelajfkaaW.PrintLast Go.Proofs.YtoefligelajfkaaW.PrintMore

/-- What PressIsNew keeps between two rows. -/
def NInv (b : Nat) (w0 W : World) (v3 : Value) (m : Nat) : Prop :=
  ∃ us ys, Outer W b v3 us ∧ Fam W b us ys ∧ us.length = m ∧ (∀ u ∈ us, u.n ≤ 1000000) ∧ Below b w0 W
/-- And within one: news are the rows made by now. -/
def NMid (b : Nat) (w0 W : World) (v3 : Value) (m : Nat) (news : List SlV) : Prop :=
  ∃ us ys, Outer W b v3 us ∧ Fam W b (us ++ news) ys ∧ us.length = m ∧ (∀ u ∈ us ++ news, u.n ≤ 1000000) ∧ Below b w0 W

theorem NInv.start (w : World) : NInv w.heap.size w w (.slice none 0 0) 0 :=
  ⟨[], [], Kd.R_nil _ _ _ _ _, ⟨rfl, fun j u y hu => by simp at hu, fun i j u u' hu => by simp at hu⟩, rfl, fun u hu => by simp at hu, Below.refl _ _⟩
theorem NInv.mid {b : Nat} {w0 W : World} {v3 : Value} {m : Nat} (h : NInv b w0 W v3 m) : NMid b w0 W v3 m [] := by
  obtain ⟨us, ys, h1, h2, h3, h4, h5⟩ := h
  exact ⟨us, ys, h1, by rw [List.append_nil]; exact h2, h3, by rw [List.append_nil]; exact h4, h5⟩
theorem NMid.below {b : Nat} {w0 W W1 : World} {v3 : Value} {m : Nat} {news : List SlV} (h : NMid b w0 W v3 m news) (hb0 : b ≤ w0.heap.size) (hb : Below W.heap.size W W1) : NMid b w0 W1 v3 m news := by
  obtain ⟨us, ys, h1, h2, h3, h4, h5⟩ := h
  exact ⟨us, ys, Kd.R_below h1 hb, fam_below h2 hb, h3, h4, h5.trans (hb.mono (Nat.le_trans hb0 h5.size))⟩
theorem NMid.add {b : Nat} {w0 W W1 : World} {v3 : Value} {m : Nat} {news : List SlV} {A : Option Addr} {n c : Nat} {y : List Int} (h : NMid b w0 W v3 m news) (hb0 : b ≤ w0.heap.size) (hb : Below W.heap.size W W1)
    (hR : Kd.R (Kd.int .u8) 5 W1 W.heap.size (fun _ => True) (.slice A n c) y) (hn : n ≤ 1000000) : NMid b w0 W1 v3 m (news ++ [⟨A, n, c⟩]) := by
  obtain ⟨us, ys, h1, h2, h3, h4, h5⟩ := h
  have hbW : b ≤ W.heap.size := Nat.le_trans hb0 h5.size
  have hlt : ∀ (j : Nat) (u : SlV) (k : Nat), (us ++ news)[j]? = some u → u.v.ownBlock = some k → k < W.heap.size := by
    intro j u k hu hk
    have hj : j < (us ++ news).length := (List.getElem?_eq_some_iff.1 hu).1
    exact Kd.R_lt (h2.2.1 j u _ hu (List.getElem?_eq_getElem (by rw [← h2.1]; exact hj))) k hk
  refine ⟨us, ys ++ [y], Kd.R_below h1 hb, ⟨by have := h2.1; simp only [List.length_append, List.length_singleton] at this ⊢; omega, ?_, ?_⟩, h3, ?_, h5.trans (hb.mono hbW)⟩
  · intro j u y' hu hy'
    rw [← List.append_assoc] at hu
    by_cases hj : j < (us ++ news).length
    · rw [List.getElem?_append_left hj] at hu
      rw [List.getElem?_append_left (by rw [← h2.1]; exact hj)] at hy'
      exact Kd.R_below (h2.2.1 j u y' hu hy') hb
    · rw [List.getElem?_append_right (by omega)] at hu
      rw [List.getElem?_append_right (by rw [← h2.1]; omega)] at hy'
      obtain ⟨hj1, e1⟩ := List.getElem?_eq_some_iff.1 hu
      obtain ⟨hj2, e2⟩ := List.getElem?_eq_some_iff.1 hy'
      simp at e1 e2
      subst e1 e2
      exact Kd.R_lower hR hbW
  · intro i j u u' hu hu' hij k hk hk'
    rw [← List.append_assoc] at hu hu'
    by_cases hi : i < (us ++ news).length
    · rw [List.getElem?_append_left hi] at hu
      by_cases hj : j < (us ++ news).length
      · rw [List.getElem?_append_left hj] at hu'
        exact h2.2.2 i j u u' hu hu' hij k hk hk'
      · rw [List.getElem?_append_right (by omega)] at hu'
        obtain ⟨hj1, e1⟩ := List.getElem?_eq_some_iff.1 hu'
        simp at e1
        subst e1
        have h6 := hlt i u k hu hk
        have h7 := Kd.R_base hR k hk'
        omega
    · rw [List.getElem?_append_right (by omega)] at hu
      obtain ⟨hj1, e1⟩ := List.getElem?_eq_some_iff.1 hu
      simp at e1
      subst e1
      have h7 := Kd.R_base hR k hk
      by_cases hj : j < (us ++ news).length
      · rw [List.getElem?_append_left hj] at hu'
        have h6 := hlt j u' k hu' hk'
        omega
      · obtain ⟨hj2, -⟩ := List.getElem?_eq_some_iff.1 hu'
        simp at hj1 hj2 hi hj
        omega
  · intro u hu
    rw [← List.append_assoc] at hu
    rcases List.mem_append.1 hu with hu | hu
    · exact h4 u hu
    · rw [List.mem_singleton.1 hu]
      exact hn
theorem NMid.done {b : Nat} {w0 W : World} {v3 : Value} {m : Nat} {news : List SlV} (h : NMid b w0 W v3 m news) :
    ∃ us : List SlV, us.length = m ∧ Outer W b v3 us ∧ Below b w0 W ∧ ∀ (v1 : Value) (w1 : World), Outer w1 b v1 (us ++ news) → Below b w0 w1 → W.grownBy w1 v3.ownBlock → NInv b w0 w1 v1 (m + news.length) := by
  obtain ⟨us, ys, h1, h2, h3, h4, h5⟩ := h
  refine ⟨us, h3, h1, h5, fun v1 w1 hv hB hg => ⟨us ++ news, ys, hv, ⟨h2.1, ?_, h2.2.2⟩, by rw [List.length_append, h3], h4, hB⟩⟩
  intro j u y hu hy
  have := h2.2.1 j u y hu hy
  refine R_off rfl this hg (fun k hk e => ?_)
  obtain ⟨cells, hc⟩ := Kd.R_typed h1 k e.symm
  exact Kd.R_ne this hc (by decide) hk.symm

theorem reads_six (W : World) (u1 u2 u3 u4 u5 u6 : SlV) :
    ReadsRow (skd.K (W.alloc (.cells #[u1.v, u2.v, u3.v, u4.v, u5.v, u6.v] 22))) 1 (W.alloc (.cells #[u1.v, u2.v, u3.v, u4.v, u5.v, u6.v] 22)) (some ⟨W.heap.size, 0, none⟩) 6 [u1, u2, u3, u4, u5, u6] :=
  Kd.C_of_reads (h1 := fun _ => rfl) (d := (⟨none, 0, 0⟩ : SlV)) (own_reads_of' (own_lit_of (enc := SlV.v) W 0 22 [u1, u2, u3, u4, u5, u6] (Nat.zero_le _) (by simp)))

abbrev kRow : Kd (List Int) := Kd.slice 5 (Kd.int .u8)
theorem at_row {w : World} {A : Option Addr} {n : Nat} {rows : List (List Int)} (h : Kd.C kRow w A n rows) (i : Nat) (hi : i < n) : ∃ ad A1 c1 r, A = some ad ∧ rows[i]? = some r ∧ w.cell? (ad.add i) = some (.slice A1 r.length c1) ∧ r.length ≤ c1 ∧ Kd.C (Kd.int .u8) w A1 r.length r := by
  have hl : rows.length = n := h.1
  obtain ⟨ad, c, e, _, hK, hc0⟩ := Kd.C_get h ([] : List Int) (i : Int) (by omega) (by omega)
  obtain ⟨A1, c1, rfl, l1, g1⟩ := hK
  simp only [Int.toNat_natCast] at l1 g1 hc0
  have e2 : rows[i]? = some (rows.getD i []) := by rw [List.getD_eq_getElem?_getD, List.getElem?_eq_getElem (by omega)]; rfl
  have h3 := hc0 0 _ rfl
  have e3 : i * kRow.sz + 0 = i := by show i * 1 + 0 = i; omega
  rw [e3] at h3
  exact ⟨ad, A1, c1, _, e, e2, h3, l1, g1⟩
theorem below_drawn {w w' : World} (h : Drawn0 w w') : Below w.heap.size w w' := by
  obtain ⟨n, rfl⟩ := h
  exact pw_below_drewN (Below.refl _ _) _
end Go.Proofs.Ytoefligelajfkaa.Press
