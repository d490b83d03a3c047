import Derived.Test.YtoefligelajfkaaAux
import Derived.ArgAppend
namespace Go.Proofs.Ytoefligelajfkaa.Press
open Go.RowKit Go.Proofs.YtoefligelajfkaaW.PrintWords Go.Proofs.YtoefligelajfkaaW.PrintLast Go.Proofs.YtoefligelajfkaaW.PrintMore

theorem below_of_none {W W1 : World} (hg : W.grownBy W1 none) : Below W.heap.size W W1 := ⟨hg.os, hg.tape, hg.output, hg.size, fun k hk => hg.block k hk (by simp)⟩

section
variable {ops : Array Oper} {rest : List Oper} {o : Oper} {a : Act} {Q : Exit → Act → World → Prop}
/-- append(v, y) of one byte, and what becomes of v itself: it reads as before. -/
theorem append_split {w0 W : World} (base : Nat) (hgd : o.guard = none) (s x : Operand) (ho : o.op = .call { callee := .builtin .append, args := #[s, x], argTypes := #[22, 22] })
    (v : Value) (xs : List Int) (y : Int) (hs : a.eval s = v) (hx : a.eval x = .slice (some ⟨W.heap.size, 0, none⟩) 1 1) (HO : Kd.R (Kd.int .u8) 5 W base (fun _ => True) v xs) (HB : Below base w0 W) (hbase : base ≤ W.heap.size) (hl : xs.length + 1 ≤ 140737488355328)
    (h : ∀ v1 w1, Kd.R (Kd.int .u8) 5 w1 base (fun _ => True) v1 (xs ++ [y]) → Below base w0 w1 → W.grownBy w1 v.ownBlock → Kd.R (Kd.int .u8) 5 w1 base (fun _ => True) v xs →
      ((∃ A c, v = .slice A xs.length c ∧ v1 = .slice A (xs.length + 1) c) ∨ ∃ k, v1.ownBlock = some k ∧ W.heap.size ≤ k) → wpList Try.prog ops Q rest (a.put o.dst v1) w1) :
    wpList Try.prog ops Q (o :: rest) a (W.alloc (.cells #[.int .u8 y] 5)) := by
  obtain ⟨i0, hi, hzz⟩ := Option.map_eq_some_iff.1 info5
  simp only [Prod.mk.injEq] at hzz
  obtain ⟨hz0, hz1, hz2⟩ := hzz
  have hnews : ∀ j u, ([Value.int .u8 y] : List Value)[j]? = some u → (W.alloc (.cells #[.int .u8 y] 5)).cell? ((⟨W.heap.size, 0, none⟩ : Addr).add j) = some u :=
    World.news_of_block (cs := #[.int .u8 y]) (t := 5) (fr := (0, 0)) (heap_alloc_new W _)
  have grow : ∀ v' w', w'.ownsRow (W.alloc (.cells #[.int .u8 y] 5)).heap.size 5 1 v' (xs.length + 1) (nums .u8 xs ++ [.int .u8 y]) → (W.alloc (.cells #[.int .u8 y] 5)).grownBy w' none → wpList Try.prog ops Q rest (a.put o.dst v') w' := by
    intro v' w' hown hg
    have hg2 : W.grownBy w' none := World.grownBy.trans (World.grownBy_alloc W _ none) hg
    have hsz : (W.alloc (.cells #[.int .u8 y] 5)).heap.size = W.heap.size + 1 := by simp
    rw [hsz] at hown
    have hR : Kd.R (Kd.int .u8) 5 w' base (fun _ => True) v' (xs ++ [y]) :=
      Kd.R_of_own (by rw [List.length_append, List.length_singleton]; have := own_less hown (show base ≤ W.heap.size + 1 by omega); simpa [encs, nums] using this) (fun _ _ => trivial)
    have hf : ∃ k, v'.ownBlock = some k ∧ W.heap.size ≤ k := by
      rcases hown.2 with ⟨_, h0⟩ | ⟨g, cap, cur, hv, hb, _⟩
      · omega
      · exact ⟨g, by rw [hv]; rfl, by omega⟩
    refine h v' w' hR (HB.trans ((below_of_none hg2).mono hbase)) ⟨hg2.os, hg2.tape, hg2.output, hg2.size, fun k hk _ => hg2.block k hk (by simp)⟩ (Kd.R_below HO (below_of_none hg2)) (.inr hf)
  have hown := Kd.own_of_R HO
  rcases hown.2 with ⟨rfl, h0⟩ | ⟨g, cap, cur, rfl, hb, hh, hnc, hcm, hcs, htake⟩
  · have hx0 : xs = [] := List.length_eq_zero_iff.1 h0
    subst hx0
    refine wpList_append_grows _ hgd s x 22 ho 5 i0 (.int .u8 0) 1 1 Try.underlying22 hi hz0 hz1 hz2 rfl (by omega) none 0 0 [] hs (fun _ => ⟨rfl, rfl⟩) rfl (fun _ e => by cases e) ⟨W.heap.size, 0, none⟩ 1 1 [.int .u8 y] hx rfl hnews (by simp [Value.oneCell']) (by omega) (by unfold maxLen; omega) (by omega) ?_
    intro v' w' h1 h2
    exact grow v' w' h1 h2
  · have hblk : (W.alloc (.cells #[.int .u8 y] 5)).heap[g]? = some (.cells cur 5 (0, 0)) := blk_alloc hh _
    have hcsz : cur.size = cap := by omega
    have htk : cur.toList.take xs.length = nums .u8 xs := by rw [Nat.mul_one] at htake; exact htake
    have holds : ∀ j u, (nums .u8 xs)[j]? = some u → (W.alloc (.cells #[.int .u8 y] 5)).cell? ⟨g, 0 + j, none⟩ = some u := by
      intro j u hu
      rw [Nat.zero_add, blk_cell hblk, ← Array.getElem?_toList]
      rw [← htk, List.getElem?_take] at hu
      split at hu
      · exact hu
      · cases hu
    refine wpList_append_arg _ hgd s x 22 ho 5 i0 (.int .u8 0) 1 1 Try.underlying22 hi hz0 hz1 hz2 rfl (by omega) g 0 xs.length cap (nums .u8 xs) hs (by rw [nums_length, Nat.mul_one]) holds ⟨W.heap.size, 0, none⟩ 1 1 [.int .u8 y] hx rfl hnews (by simp [Value.oneCell'])
      (fun hr j hj => ⟨by rw [blk_cell hblk]; simp at hj ⊢; omega, blk_frozen hblk _⟩) (by unfold maxLen; omega) (by omega) ?_ ?_
    · intro hr
      rw [Nat.mul_one, Nat.zero_add]
      obtain ⟨cur', h3, h4, h5⟩ := setCells_row [.int .u8 y] xs.length (W.alloc (.cells #[.int .u8 y] 5)) cur hblk (by simp; omega)
      obtain ⟨s1, s2, s3, s4⟩ := setCells_same g [.int .u8 y] xs.length (W.alloc (.cells #[.int .u8 y] 5))
      have hg : (W.alloc (.cells #[.int .u8 y] 5)).grownBy ((W.alloc (.cells #[.int .u8 y] 5)).setCells g xs.length [.int .u8 y]) (some g) := ⟨s1, s2, s3, by rw [s4]; exact Nat.le_refl _, fun k _ hk => setCells_far _ _ k (fun he => hk (by rw [he]))⟩
      have hg2 : W.grownBy ((W.alloc (.cells #[.int .u8 y] 5)).setCells g xs.length [.int .u8 y]) (some g) := World.grownBy.trans (World.grownBy_alloc W _ _) hg
      have hR : Kd.R (Kd.int .u8) 5 ((W.alloc (.cells #[.int .u8 y] 5)).setCells g xs.length [.int .u8 y]) base (fun _ => True) (.slice (some ⟨g, 0, none⟩) (xs.length + 1) cap) (xs ++ [y]) := by
        refine Kd.R_of_own (enc := Value.int .u8) (h1 := fun _ => rfl) ?_ (fun _ _ => trivial)
        rw [List.length_append, List.length_singleton]
        refine ⟨by simp [encs], .inr ⟨g, cap, cur', rfl, hb, h3, by omega, hcm, by rw [h4, hcs], ?_⟩⟩
        rw [h5, Nat.mul_one, htk, List.take_append_of_le_length (by simp [nums])]
        rw [List.take_of_length_le (by simp [nums])]
        simp [encs, nums]
      refine h _ _ hR (HB.grown hg2 hbase (fun k hk => by cases hk; exact hb)) hg2 ?_ (.inl ⟨_, _, rfl, rfl⟩)
      have h6 := Kd.R_take (m := xs.length) hR (by simp)
      rw [List.take_left' rfl] at h6
      exact h6
    · intro _ v' w' h1 h2
      exact grow v' w' h1 h2
end
end Go.Proofs.Ytoefligelajfkaa.Press
