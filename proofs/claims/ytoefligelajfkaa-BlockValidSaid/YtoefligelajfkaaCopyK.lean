import Derived.Test.YtoefligelajfkaaWWords
import Derived.Test.YtoefligelajfkaaWMore
namespace Go.Proofs.Ytoefligelajfkaa.OpenK
open Go.RowKit Go.Proofs.YtoefligelajfkaaW.PrintWords

/-- copy of rows whose elements have more than one cell. -/
theorem run_copy_many {P : Program} (w : World) (dT sT ty elem : TypeId) (size b dLen dCap : Nat) (a : Addr) (sLen sCap : Nat) (cs : List Value)
    (hu : P.underlying dT = some (.slice elem)) (hs : (P.info? elem).map (·.size) = some size) (hn : cs.length = Nat.min sLen dLen * size)
    (hsrc : ∀ j v, cs[j]? = some v → w.cell? (a.add j) = some v) (hc : ∀ j, j < cs.length → (w.cell? ⟨b, 0 + j, none⟩).isSome = true) (hf : ∀ j, j < cs.length → w.frozen? ⟨b, 0 + j, none⟩ = false) (h1 : ∀ v ∈ cs, v.oneCell' = true) :
    (Builtin.copy_ #[dT, sT] ty #[.slice (some ⟨b, 0, none⟩) dLen dCap, .slice (some a) sLen sCap]).run P w = .ok (goInt (Nat.min sLen dLen)) (w.setCells b 0 cs) := by
  have hl := run_loadCells_list (P := P) w a cs hsrc
  have hst := run_storeCells_cells (P := P) b 0 cs 0 w (by simpa using hc) (by simpa using hf) h1
  cases hq : P.info? elem with
  | none => simp [hq] at hs
  | some i =>
    have hi : i.size = size := by simpa [hq] using hs
    simp [Builtin.copy_, run_underlying hu, Builtin.lenOf, Builtin.firstCells, sizeOf, typeInfo, hq, hi, ← hn, hl, hst]
theorem run_copy_zero {P : Program} (w : World) (dT sT ty elem : TypeId) (size : Nat) (d a : Option Addr) (dLen dCap sLen sCap : Nat) (hu : P.underlying dT = some (.slice elem)) (hs : (P.info? elem).map (·.size) = some size) (hn : Nat.min sLen dLen = 0) :
    (Builtin.copy_ #[dT, sT] ty #[.slice d dLen dCap, .slice a sLen sCap]).run P w = .ok (goInt 0) w := by
  cases hq : P.info? elem with
  | none => simp [hq] at hs
  | some i =>
    have hl : ∀ (x : Addr), (loadCells x 0).run P w = .ok #[] w := fun x => by simpa using run_loadCells_list (P := P) w x [] (by simp)
    cases d <;> cases a <;> simp [Builtin.copy_, run_underlying hu, Builtin.lenOf, Builtin.firstCells, sizeOf, typeInfo, hq, hn, storeCells, hl]

section
variable {P : Program} {ops : Array Oper} {rest : List Oper} {o : Oper} {a : Act} {Q : Exit → Act → World → Prop} {α : Type}
/-- copy(v, ys), v a row of one's own, of values without memory of their own. -/
theorem R_copy_many (d : Kd α) {w0 W : World} (base : Nat) (hgd : o.guard = none) (s x : Operand) (t t' e : TypeId)
    (ho : o.op = .call { callee := .builtin .copy, args := #[s, x], argTypes := #[t, t'] }) (ht : P.underlying t = some (.slice e)) (hinfo : (P.info? e).map (·.size) = some d.sz) (hs0 : 0 < d.sz)
    (hfree : ∀ w base ok x cs, d.M w base ok x cs → ∀ w' base' ok', d.M w' base' ok' x cs) (hK : ∀ w w' base ok x cs, d.K w x cs → d.M w' base ok x cs)
    (v : Value) (xs ys : List α) (A : Option Addr) (m c : Nat) (ok : Nat → Prop) (hs : a.eval s = v) (hx : a.eval x = .slice A m c)
    (HO : d.R e W base ok v xs) (HR : d.C W A m ys) (HB : Below base w0 W) (hbase : base ≤ W.heap.size)
    (h : ∀ w1, d.R e w1 base ok v (ys.take (min m xs.length) ++ xs.drop (min m xs.length)) → Below base w0 w1 → W.grownBy w1 v.ownBlock → wpList P ops Q rest (a.put o.dst (.int .i64 ((min m xs.length : Nat) : Int))) w1) :
    wpList P ops Q (o :: rest) a W := by
  have hm : ys.length = m := HR.1
  have hbaseR := Kd.R_base HO
  have fin : ∀ w1, (Builtin.copy_ #[t, t'] o.type #[v, .slice A m c]).run P W = .ok (goInt ((min m xs.length : Nat) : Int)) w1 → d.R e w1 base ok v (ys.take (min m xs.length) ++ xs.drop (min m xs.length)) → W.grownBy w1 v.ownBlock → wpList P ops Q (o :: rest) a W := by
    intro w1 hr hrow hg
    refine wpList_plain hgd fun K hK => ?_
    unfold Oper.wp execOp
    simp only [ho, resolve, invoke, builtin, Sem.run_bind, Sem.run_pure, Result.andThen_ok, List.map_toArray, List.map_cons, List.map_nil, hs, hx, hr]
    exact hK _ _ (h w1 hrow (HB.grown hg hbase hbaseR) hg)
  rcases Nat.eq_zero_or_pos (min m xs.length) with h0 | hp
  · obtain ⟨A', c', hv⟩ := Kd.R_slice HO
    refine fin W ?_ (by rw [h0, List.take_zero, List.drop_zero, List.nil_append]; exact HO) (World.grownBy.refl W _)
    rw [h0, hv]
    exact run_copy_zero W t t' o.type e d.sz A' A xs.length c' m c ht hinfo h0
  · obtain ⟨hok, inner, hown, hrep⟩ := HO
    obtain ⟨ad, hA, _⟩ := HR.2.2 (by omega)
    subst hA
    have hlen : xs.length * d.sz = inner.length := hown.1.symm
    rcases hown.2 with ⟨_, hx0⟩ | ⟨g, cap, cur, hv, hb, hh, hnc, hcm, hcs, htake⟩
    · omega
    -- the cells that go over
    obtain ⟨src, hsrep, hsc⟩ := ReadsRow.inner_ HR
    have hk1 : min m xs.length ≤ ys.length := by omega
    have hsl : src.length = ys.length * d.sz := hsrep.1
    have htk := Kd.reps_take hsrep hk1
    obtain ⟨cs, hcse⟩ : ∃ cs, src.take (min m xs.length * d.sz) = cs := ⟨_, rfl⟩
    rw [hcse] at htk
    have hmul : min m xs.length * d.sz ≤ src.length := by rw [hsl]; exact Nat.mul_le_mul_right _ hk1
    have hcl : cs.length = min m xs.length * d.sz := by rw [← hcse, List.length_take]; omega
    have hone : ∀ u ∈ cs, u.oneCell' = true := by
      intro u hu
      obtain ⟨j, hj, rfl⟩ := List.mem_iff_getElem.1 hu
      have hjs : j / d.sz < ys.length := by
        rw [Nat.div_lt_iff_lt_mul hs0, ← hsl]; omega
      have hy : ys[j / d.sz]? = some ys[j / d.sz] := List.getElem?_eq_getElem hjs
      have hKj := hsrep.2 (j / d.sz) _ hy
      have hmem : cs[j] ∈ (src.drop (j / d.sz * d.sz)).take d.sz := by
        have hjl : j < src.length := by omega
        have e1 : cs[j] = src[j] := by simp [← hcse]
        rw [e1]
        have hd := Nat.div_add_mod j d.sz
        rw [Nat.mul_comm] at hd
        have hml := Nat.mod_lt j hs0
        refine List.mem_iff_getElem.2 ⟨j % d.sz, ?_, ?_⟩
        · rw [List.length_take, List.length_drop]; omega
        · rw [List.getElem_take, List.getElem_drop]
          congr 1
      exact d.K_one hKj _ hmem
    have hsrc : ∀ j u, cs[j]? = some u → W.cell? (ad.add j) = some u := by
      intro j u hu
      refine hsc j u ?_
      rw [← hcse, List.getElem?_take] at hu
      split at hu
      · exact hu
      · cases hu
    have hxl : min m xs.length * d.sz ≤ xs.length * d.sz := Nat.mul_le_mul_right _ (Nat.min_le_right _ _)
    have hcap : xs.length * d.sz ≤ cur.size := by rw [hcs]; exact Nat.mul_le_mul_right _ hnc
    have hr := run_copy_many (P := P) W t t' o.type e d.sz g xs.length cap ad m c cs ht hinfo hcl hsrc
      (fun j hj => by rw [cell_of_row W g _ cur e (0, 0) hh]; simp; omega) (fun j _ => blk_frozen hh _) hone
    obtain ⟨cur', h3, h4, h5⟩ := setCells_row cs 0 W cur hh (by omega)
    obtain ⟨s1, s2, s3, s4⟩ := setCells_same g cs 0 W
    refine fin _ (by rw [hv, hr]) ⟨hok, cs ++ inner.drop (min m xs.length * d.sz), ?_, ?_⟩ ⟨s1, s2, s3, by rw [s4]; exact Nat.le_refl _, fun k _ hk => setCells_far _ _ k (fun he => hk (by rw [hv, he]; simp [Value.ownBlock]))⟩
    · have hln : (ys.take (min m xs.length) ++ xs.drop (min m xs.length)).length = xs.length := by
        rw [List.length_append, List.length_take, List.length_drop]
        omega
      rw [hln]
      refine ⟨by rw [List.length_append, List.length_drop, hcl]; omega, .inr ⟨g, cap, cur', hv, hb, h3, hnc, hcm, by rw [h4, hcs], ?_⟩⟩
      rw [h5, List.take_zero, List.nil_append, Nat.zero_add, hcl]
      rw [List.take_append, hcl, List.take_of_length_le (by omega)]
      congr 1
      rw [← htake, List.drop_take]
    · refine Kd.reps_append ?_ ?_
      · exact htk.imp_ (fun p c hp => hK _ _ _ _ _ _ hp)
      · exact (Kd.reps_drop hrep).imp_ (fun p c hp => hfree _ _ _ _ _ hp _ _ _)
end
end Go.Proofs.Ytoefligelajfkaa.OpenK
