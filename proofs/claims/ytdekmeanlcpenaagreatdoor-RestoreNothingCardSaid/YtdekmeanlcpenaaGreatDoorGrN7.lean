import Derived.Test.YtdekmeanlcpenaaGreatDoorWWords
import Derived.Test.YtdekmeanlcpenaaGreatDoorWMore
import Derived.Test.YtdekmeanlcpenaaGreatDoorGrN6
import Derived.Test.YtdekmeanlcpenaaGreatDoorGrN5
import Derived.BigQuiet
namespace Go.Proofs.YtdekmeanlcpenaaGreatDoor.OpenK
open Go.RowKit Go.Proofs.YtdekmeanlcpenaaGreatDoorW.PrintWords

/-- copy of rows whose elements have more than one cell. -/
theorem run_copy_many {P : Program} (w : World) (dT sT ty elem : TypeId) (size b dLen dCap : Nat) (a : Addr) (sLen sCap : Nat) (cs : List Value)
    (hu : P.underlying dT = some (.slice elem)) (hs : (P.info? elem).map (·.size) = some size) (hn : cs.length = Nat.min sLen dLen * size)
    (hsrc : ∀ j v, cs[j]? = some v → w.cell? (a.add j) = some v) (hc : ∀ j, j < cs.length → (w.cell? ⟨b, 0 + j, none⟩).isSome = true) (hf : ∀ j, j < cs.length → w.frozen? ⟨b, 0 + j, none⟩ = false) (h1 : ∀ v ∈ cs, v.oneCell' = true) :
    (Builtin.copy_ #[dT, sT] ty #[.slice (some ⟨b, 0, none⟩) dLen dCap, .slice (some a) sLen sCap]).run P w = .ok (goInt (Nat.min sLen dLen)) (w.setCells b 0 cs) := by
  have hl := run_loadCells_list (P := P) w a cs hsrc
  have hst := run_storeCells_cells (P := P) b 0 cs 0 w (by simpa using hc) (by simpa using hf) h1
  cases hq : P.info? elem with
  | none => simp [hq] at hs
  | some i =>
    have hi : i.size = size := by simpa [hq] using hs
    simp [Builtin.copy_, run_underlying hu, Builtin.lenOf, Builtin.firstCells, sizeOf, typeInfo, hq, hi, ← hn, hl, hst]
theorem run_copy_zero {P : Program} (w : World) (dT sT ty elem : TypeId) (size : Nat) (d a : Option Addr) (dLen dCap sLen sCap : Nat) (hu : P.underlying dT = some (.slice elem)) (hs : (P.info? elem).map (·.size) = some size) (hn : Nat.min sLen dLen = 0) :
    (Builtin.copy_ #[dT, sT] ty #[.slice d dLen dCap, .slice a sLen sCap]).run P w = .ok (goInt 0) w := by
  cases hq : P.info? elem with
  | none => simp [hq] at hs
  | some i =>
    have hl : ∀ (x : Addr), (loadCells x 0).run P w = .ok #[] w := fun x => by simpa using run_loadCells_list (P := P) w x [] (by simp)
    cases d <;> cases a <;> simp [Builtin.copy_, run_underlying hu, Builtin.lenOf, Builtin.firstCells, sizeOf, typeInfo, hq, hn, storeCells, hl]

section
variable {P : Program} {ops : Array Oper} {rest : List Oper} {o : Oper} {a : Act} {Q : Exit → Act → World → Prop} {α : Type}
/-- copy(v, ys), v a row of one's own, of values without memory of their own. -/
theorem R_copy_many (d : Kd α) {w0 W : World} (base : Nat) (hgd : o.guard = none) (s x : Operand) (t t' e : TypeId)
    (ho : o.op = .call { callee := .builtin .copy, args := #[s, x], argTypes := #[t, t'] }) (ht : P.underlying t = some (.slice e)) (hinfo : (P.info? e).map (·.size) = some d.sz) (hs0 : 0 < d.sz)
    (hfree : ∀ w base ok x cs, d.M w base ok x cs → ∀ w' base' ok', d.M w' base' ok' x cs) (hK : ∀ w w' base ok x cs, d.K w x cs → d.M w' base ok x cs)
    (v : Value) (xs ys : List α) (A : Option Addr) (m c : Nat) (ok : Nat → Prop) (hs : a.eval s = v) (hx : a.eval x = .slice A m c)
    (HO : d.R e W base ok v xs) (HR : d.C W A m ys) (HB : Below base w0 W) (hbase : base ≤ W.heap.size)
    (h : ∀ w1, d.R e w1 base ok v (ys.take (min m xs.length) ++ xs.drop (min m xs.length)) → Below base w0 w1 → W.grownBy w1 v.ownBlock → wpList P ops Q rest (a.put o.dst (.int .i64 ((min m xs.length : Nat) : Int))) w1) :
    wpList P ops Q (o :: rest) a W := by
  have hm : ys.length = m := HR.1
  have hbaseR := Kd.R_base HO
  have fin : ∀ w1, (Builtin.copy_ #[t, t'] o.type #[v, .slice A m c]).run P W = .ok (goInt ((min m xs.length : Nat) : Int)) w1 → d.R e w1 base ok v (ys.take (min m xs.length) ++ xs.drop (min m xs.length)) → W.grownBy w1 v.ownBlock → wpList P ops Q (o :: rest) a W := by
    intro w1 hr hrow hg
    refine wpList_plain hgd fun K hK => ?_
    unfold Oper.wp execOp
    simp only [ho, resolve, invoke, builtin, Sem.run_bind, Sem.run_pure, Result.andThen_ok, List.map_toArray, List.map_cons, List.map_nil, hs, hx, hr]
    exact hK _ _ (h w1 hrow (HB.grown hg hbase hbaseR) hg)
  rcases Nat.eq_zero_or_pos (min m xs.length) with h0 | hp
  · obtain ⟨A', c', hv⟩ := Kd.R_slice HO
    refine fin W ?_ (by rw [h0, List.take_zero, List.drop_zero, List.nil_append]; exact HO) (World.grownBy.refl W _)
    rw [h0, hv]
    exact run_copy_zero W t t' o.type e d.sz A' A xs.length c' m c ht hinfo h0
  · obtain ⟨hok, inner, hown, hrep⟩ := HO
    obtain ⟨ad, hA, _⟩ := HR.2.2 (by omega)
    subst hA
    have hlen : xs.length * d.sz = inner.length := hown.1.symm
    rcases hown.2 with ⟨_, hx0⟩ | ⟨g, cap, cur, hv, hb, hh, hnc, hcm, hcs, htake⟩
    · omega
    -- the cells that go over
    obtain ⟨src, hsrep, hsc⟩ := ReadsRow.inner_ HR
    have hk1 : min m xs.length ≤ ys.length := by omega
    have hsl : src.length = ys.length * d.sz := hsrep.1
    have htk := Kd.reps_take hsrep hk1
    obtain ⟨cs, hcse⟩ : ∃ cs, src.take (min m xs.length * d.sz) = cs := ⟨_, rfl⟩
    rw [hcse] at htk
    have hmul : min m xs.length * d.sz ≤ src.length := by rw [hsl]; exact Nat.mul_le_mul_right _ hk1
    have hcl : cs.length = min m xs.length * d.sz := by rw [← hcse, List.length_take]; omega
    have hone : ∀ u ∈ cs, u.oneCell' = true := by
      intro u hu
      obtain ⟨j, hj, rfl⟩ := List.mem_iff_getElem.1 hu
      have hjs : j / d.sz < ys.length := by
        rw [Nat.div_lt_iff_lt_mul hs0, ← hsl]; omega
      have hy : ys[j / d.sz]? = some ys[j / d.sz] := List.getElem?_eq_getElem hjs
      have hKj := hsrep.2 (j / d.sz) _ hy
      have hmem : cs[j] ∈ (src.drop (j / d.sz * d.sz)).take d.sz := by
        have hjl : j < src.length := by omega
        have e1 : cs[j] = src[j] := by simp [← hcse]
        rw [e1]
        have hd := Nat.div_add_mod j d.sz
        rw [Nat.mul_comm] at hd
        have hml := Nat.mod_lt j hs0
        refine List.mem_iff_getElem.2 ⟨j % d.sz, ?_, ?_⟩
        · rw [List.length_take, List.length_drop]; omega
        · rw [List.getElem_take, List.getElem_drop]
          congr 1
      exact d.K_one hKj _ hmem
    have hsrc : ∀ j u, cs[j]? = some u → W.cell? (ad.add j) = some u := by
      intro j u hu
      refine hsc j u ?_
      rw [← hcse, List.getElem?_take] at hu
      split at hu
      · exact hu
      · cases hu
    have hxl : min m xs.length * d.sz ≤ xs.length * d.sz := Nat.mul_le_mul_right _ (Nat.min_le_right _ _)
    have hcap : xs.length * d.sz ≤ cur.size := by rw [hcs]; exact Nat.mul_le_mul_right _ hnc
    have hr := run_copy_many (P := P) W t t' o.type e d.sz g xs.length cap ad m c cs ht hinfo hcl hsrc
      (fun j hj => by rw [cell_of_row W g _ cur e (0, 0) hh]; simp; omega) (fun j _ => blk_frozen hh _) hone
    obtain ⟨cur', h3, h4, h5⟩ := setCells_row cs 0 W cur hh (by omega)
    obtain ⟨s1, s2, s3, s4⟩ := setCells_same g cs 0 W
    refine fin _ (by rw [hv, hr]) ⟨hok, cs ++ inner.drop (min m xs.length * d.sz), ?_, ?_⟩ ⟨s1, s2, s3, by rw [s4]; exact Nat.le_refl _, fun k _ hk => setCells_far _ _ k (fun he => hk (by rw [hv, he]; simp [Value.ownBlock]))⟩
    · have hln : (ys.take (min m xs.length) ++ xs.drop (min m xs.length)).length = xs.length := by
        rw [List.length_append, List.length_take, List.length_drop]
        omega
      rw [hln]
      refine ⟨by rw [List.length_append, List.length_drop, hcl]; omega, .inr ⟨g, cap, cur', hv, hb, h3, hnc, hcm, by rw [h4, hcs], ?_⟩⟩
      rw [h5, List.take_zero, List.nil_append, Nat.zero_add, hcl]
      rw [List.take_append, hcl, List.take_of_length_le (by omega)]
      congr 1
      rw [← htake, List.drop_take]
    · refine Kd.reps_append ?_ ?_
      · exact htk.imp_ (fun p c hp => hK _ _ _ _ _ _ hp)
      · exact (Kd.reps_drop hrep).imp_ (fun p c hp => hfree _ _ _ _ _ hp _ _ _)
end
end Go.Proofs.YtdekmeanlcpenaaGreatDoor.OpenK

namespace Go.Proofs.YtdekmeanlcpenaaGreatDoor.Law
open Go.RowKit Go.Proofs.YtdekmeanlcpenaaGreatDoorW.PrintWords Go.Proofs.YtdekmeanlcpenaaGreatDoor.Mid Go.Proofs.YtdekmeanlcpenaaGreatDoor.Pick Go.Proofs.YtdekmeanlcpenaaGreatDoor.Sep

/-- What rows of cells say, said of the values. -/
theorem reps_flat {α : Type} {f : α → List Value} {sz : Nat} {R : α → List Value → Prop} (hR : ∀ x cs, R x cs → cs = f x) (hsz : ∀ x cs, R x cs → cs.length = sz) : ∀ {xs : List α} {cs : List Value}, Reps R sz xs cs → cs = (xs.map f).flatten ∧ ∀ x ∈ xs, R x (f x)
  | [], cs, h => by
    have h0 := h.1
    simp at h0
    subst h0
    exact ⟨rfl, fun x hx => by simp at hx⟩
  | x :: xs, cs, h => by
    have h0 := h.2 0 x rfl
    rw [Nat.zero_mul, List.drop_zero] at h0
    have hr : Reps R sz xs (cs.drop sz) := by
      refine ⟨by rw [List.length_drop, h.1, List.length_cons, Nat.succ_mul]; omega, fun j p hp => ?_⟩
      have h1 := h.2 (j + 1) p (by simpa using hp)
      rw [List.drop_drop]
      rw [Nat.succ_mul, Nat.add_comm] at h1
      exact h1
    obtain ⟨e, ha⟩ := reps_flat hR hsz hr
    have e0 := hR _ _ h0
    refine ⟨?_, fun y hy => ?_⟩
    · rw [List.map_cons, List.flatten_cons, ← e, ← e0, List.take_append_drop]
    · rcases List.mem_cons.1 hy with rfl | hy
      · rw [← e0]; exact h0
      · exact ha y hy
theorem flat_reps {α : Type} {f : α → List Value} {sz : Nat} {R : α → List Value → Prop} (hsz : ∀ x cs, R x cs → cs.length = sz) {xs : List α} (h : ∀ x ∈ xs, R x (f x)) : Reps R sz xs (xs.map f).flatten := by
  have hl : ∀ x ∈ xs, (f x).length = sz := fun x hx => hsz _ _ (h x hx)
  refine ⟨?_, fun j p hp => ?_⟩
  · clear h
    induction xs with
    | nil => simp
    | cons x xs ih =>
      rw [List.map_cons, List.flatten_cons, List.length_append, ih (fun y hy => hl y (by simp [hy])), hl x (by simp), List.length_cons, Nat.succ_mul]
      omega
  · rw [flat_get hl hp]
    exact h p (List.mem_of_getElem? hp)
section
variable {W : World} {b : Nat} {v : Value} {ok : Nat → Prop}
theorem idR_own {xs : List (List Int)} (h : idK.R 29 W b ok v xs) : W.ownsRow b 29 32 v xs.length (rowI xs) ∧ ∀ x ∈ xs, IdOk x := by
  obtain ⟨_, inner, ho, hr⟩ := h
  obtain ⟨e, ha⟩ := reps_flat (f := u8s) (fun x cs h => h.2) (fun x cs h => by rw [h.2, u8s_length, h.1.len]; rfl) hr
  subst e
  exact ⟨ho, fun x hx => (ha x hx).1⟩
theorem idR_of {xs : List (List Int)} (h : W.ownsRow b 29 32 v xs.length (rowI xs)) (ha : ∀ x ∈ xs, IdOk x) : idK.R 29 W b (fun _ => True) v xs :=
  ⟨fun _ _ => trivial, rowI xs, h, flat_reps (fun x cs h => by rw [h.2, u8s_length, h.1.len]; rfl) (fun x hx => ⟨ha x hx, rfl⟩)⟩
theorem resR_own {xs : List Res} (h : resK.R 33 W b ok v xs) : W.ownsRow b 33 65 v xs.length (rowR xs) ∧ ∀ x ∈ xs, ResOk x := by
  obtain ⟨_, inner, ho, hr⟩ := h
  obtain ⟨e, ha⟩ := reps_flat (f := resC) (fun x cs h => h.2) (fun x cs h => by rw [h.2, resC_length h.1]; rfl) hr
  subst e
  exact ⟨ho, fun x hx => (ha x hx).1⟩
theorem resR_of {xs : List Res} (h : W.ownsRow b 33 65 v xs.length (rowR xs)) (ha : ∀ x ∈ xs, ResOk x) : resK.R 33 W b (fun _ => True) v xs :=
  ⟨fun _ _ => trivial, rowR xs, h, flat_reps (fun x cs h => by rw [h.2, resC_length h.1]; rfl) (fun x hx => ⟨ha x hx, rfl⟩)⟩
end

/-- The desk: its block holds a slice of ids of the law's own. -/
structure DInv (w0 : World) (gd : Nat) (W : World) (vb : Value) (B : List (List Int)) : Prop where
  blk : W.heap[gd]? = some (.cells #[vb] 26 (0, 0))
  row : W.ownsRow w0.heap.size 29 32 vb B.length (rowI B)
  ok : ∀ x ∈ B, IdOk x
  bel : Below w0.heap.size w0 W
  old : w0.heap.size ≤ gd
theorem DInv.step {w0 : World} {gd : Nat} {W W1 : World} {vb : Value} {B : List (List Int)} (h : DInv w0 gd W vb B) (hb : Below W.heap.size W W1) : DInv w0 gd W1 vb B :=
  ⟨blk_below h.blk hb, own_loc h.row (fun g _ hl => hb.block g hl), h.ok, below_step h.bel hb, h.old⟩
theorem DInv.ne {w0 : World} {gd g n k : Nat} {W : World} {B : List (List Int)} (h : DInv w0 gd W (.slice (some ⟨g, 0, none⟩) n k) B) : gd ≠ g := by
  intro e
  subst e
  obtain ⟨cells, hc⟩ := own_typed h.row gd rfl
  rw [h.blk] at hc
  injection hc with hc
  injection hc with _ hc
  exact absurd hc (by decide)
theorem DInv.put {w0 : World} {gd g n k : Nat} {W : World} {B : List (List Int)} (h : DInv w0 gd W (.slice (some ⟨g, 0, none⟩) n k) B) {i : Nat} (hi : i < B.length) {x : List Int} (hx : IdOk x) :
    W.there g (i * 32) 32 ∧ W.grownBy (W.setCells g (i * 32) (u8s x)) (some g) ∧ DInv w0 gd (W.setCells g (i * 32) (u8s x)) (.slice (some ⟨g, 0, none⟩) n k) (B.set i x) := by
  obtain ⟨g', c', e, hb, hth, hown, hg⟩ := own_set h.row hi (cs := u8s x) (by rw [u8s_length, hx.len])
  injection e with e1 e2 e3
  injection e1 with e1
  injection e1 with e1
  subst e1
  rw [rowI, flat_set (rowI_len h.ok) hi] at hown
  refine ⟨hth, hg, blk_grown h.blk hg (fun e => h.ne (by injection e)), ?_, ?_, h.bel.grown hg h.bel.size (fun k hk => by injection hk with hk; omega), h.old⟩
  · rw [List.length_set]; exact hown
  · intro y hy
    rcases List.mem_or_eq_of_mem_set hy with hy | rfl
    · exact h.ok y hy
    · exact hx
theorem grown_set1 (W : World) (b j : Nat) (z : Value) : W.grownBy (W.setCell ⟨b, j, none⟩ z) (some b) :=
  ⟨rfl, rfl, rfl, by simp [World.setCell], fun _ _ hi => Below.heap_setCell _ _ _ _ (fun e => hi (by rw [e]))⟩
theorem DInv.new {w0 : World} {gd : Nat} {W W1 : World} {vb v : Value} {B B1 : List (List Int)} (h : DInv w0 gd W vb B) (hg : W.grownBy W1 none) (hr : W1.ownsRow w0.heap.size 29 32 v B1.length (rowI B1)) (ha : ∀ x ∈ B1, IdOk x) (hb : Below w0.heap.size w0 W1) :
    W1.heap[gd]? = some (.cells #[vb] 26 (0, 0)) ∧ DInv w0 gd (W1.setCell ⟨gd, 0, none⟩ v) v B1 := by
  have hb1 : W1.heap[gd]? = some (.cells #[vb] 26 (0, 0)) := blk_grown h.blk hg (by simp)
  refine ⟨hb1, one_setCell hb1, own_loc hr (fun g hg _ => Below.heap_setCell _ _ _ _ (fun e => ?_)), ha, hb.setCell (p := ⟨gd, 0, none⟩) h.old _, h.old⟩
  obtain ⟨cells, hc⟩ := own_typed hr g hg
  replace e : g = gd := e
  subst e
  rw [hb1] at hc
  injection hc with hc
  injection hc with _ hc
  exact absurd hc (by decide)
theorem DInv.grown {w0 : World} {gd g n k : Nat} {W W1 : World} {B B1 : List (List Int)} (h : DInv w0 gd W (.slice (some ⟨g, 0, none⟩) n k) B) (hg : W.grownBy W1 (Value.slice (some ⟨g, 0, none⟩) n k).ownBlock)
    (hr : W1.ownsRow w0.heap.size 29 32 (.slice (some ⟨g, 0, none⟩) n k) B1.length (rowI B1)) (ha : ∀ x ∈ B1, IdOk x) (hb : Below w0.heap.size w0 W1) : DInv w0 gd W1 (.slice (some ⟨g, 0, none⟩) n k) B1 :=
  ⟨blk_grown h.blk hg (by simp [Value.ownBlock]; exact h.ne), hr, ha, hb, h.old⟩

/-- What a lay may have written: the desk's block, the row that lay there, and new memory. -/
structure Kp (W W1 : World) (gd : Nat) (v0 : Value) : Prop where
  size : W.heap.size ≤ W1.heap.size
  keep : ∀ k, k < W.heap.size → k ≠ gd → some k ≠ v0.ownBlock → W1.heap[k]? = W.heap[k]?
theorem Kp.refl (W : World) (gd : Nat) (v0 : Value) : Kp W W gd v0 := ⟨Nat.le_refl _, fun _ _ _ _ => rfl⟩
theorem Kp.grown {W W1 W2 : World} {gd : Nat} {v0 : Value} {row : Option Nat} (h : Kp W W1 gd v0) (hg : W1.grownBy W2 row) (hr : ∀ k, row = some k → k = gd ∨ some k = v0.ownBlock ∨ W.heap.size ≤ k) : Kp W W2 gd v0 :=
  ⟨Nat.le_trans h.size hg.size, fun k hk h1 h2 => by
    rw [← h.keep k hk h1 h2]
    refine hg.block k (Nat.lt_of_lt_of_le hk h.size) (fun e => ?_)
    rcases hr k e.symm with h3 | h3 | h3
    · exact h1 h3
    · exact h2 h3
    · omega⟩
theorem Kp.set {W W1 : World} {gd : Nat} {v0 : Value} (h : Kp W W1 gd v0) {g : Nat} (hg : g = gd ∨ some g = v0.ownBlock ∨ W.heap.size ≤ g) (j : Nat) (u : Value) : Kp W (W1.setCell ⟨g, j, none⟩ u) gd v0 :=
  h.grown (grown_set1 W1 g j u) (fun k e => by cases e; exact hg)
theorem Kp.below {W W1 W2 : World} {gd : Nat} {v0 : Value} (h : Kp W W1 gd v0) (hb : Below W1.heap.size W1 W2) : Kp W W2 gd v0 :=
  ⟨Nat.le_trans h.size hb.size, fun k hk h1 h2 => (hb.block k (Nat.lt_of_lt_of_le hk h.size)).trans (h.keep k hk h1 h2)⟩
/-- Where a row lies behind a lay. -/
def LiesAt (W : World) (v0 v : Value) : Prop := ∀ k, v.ownBlock = some k → some k = v0.ownBlock ∨ W.heap.size ≤ k

def b1 (n : Int) : List Int := n :: List.replicate 31 0
theorem b1_ok {n : Int} (h : 0 ≤ n ∧ n ≤ 255) : IdOk (b1 n) := ⟨rfl, fun u hu => by
  rcases List.mem_cons.1 hu with rfl | hu
  · exact h
  · rw [List.eq_of_mem_replicate hu]; decide⟩
/-- So many ids of the desk are marked. -/
def markD (B : List (List Int)) (i : Nat) : List (List Int) := List.replicate i (b1 171) ++ B.drop i
theorem markD_set (B : List (List Int)) (i : Nat) (h : i < B.length) : (markD B i).set i (b1 171) = markD B (i + 1) := by
  rw [markD, markD, List.set_append_right _ _ (by simp), List.length_replicate, Nat.sub_self, List.drop_eq_getElem_cons h, List.set_cons_zero, List.replicate_succ', List.append_assoc]
  rfl
theorem markD_length (B : List (List Int)) (i : Nat) (h : i ≤ B.length) : (markD B i).length = B.length := by simp [markD]; omega
def deskS (data : List (List Int)) (n : Nat) : List (List Int) := data ++ List.replicate (n - data.length) (b1 171)
theorem deskS_length {data : List (List Int)} {n : Nat} (h : data.length ≤ n) : (deskS data n).length = n := by simp [deskS]; omega
end Go.Proofs.YtdekmeanlcpenaaGreatDoor.Law

namespace Go.Proofs.YtdekmeanlcpenaaGreatDoor.Law
open Go.RowKit Go.Proofs.YtdekmeanlcpenaaGreatDoorW.PrintWords Go.Proofs.YtdekmeanlcpenaaGreatDoor.Mid Go.Proofs.YtdekmeanlcpenaaGreatDoor.Pick Go.Proofs.YtdekmeanlcpenaaGreatDoor.Sep
attribute [local go_sem ↓ high] load33_eq load29_eq build69_eq build33_eq build29_eq
attribute [local simp] rowOf_drew rowOf_drewN
attribute [local go_sem high] load33_row load29_row rowOf_drew rowOf_drewN
set_option maxHeartbeats 2000000
set_option maxRecDepth 100000

section
variable {P : Program} {ops : Array Oper} {rest : List Oper} {op : Oper} {a : Act} {w : World} {Q : Exit → Act → World → Prop}
theorem wpList_store_cells (hgd : op.guard = none) (hd : op.dst = none) (ty : TypeId) (x y : Operand) (ho : op.op = .store ty x y) (b o : Nat) (cs : List Value) (hx : a.eval x = .pointer (some ⟨b, o, none⟩)) (hy : a.eval y = .agg cs.toArray)
    (ht : w.there b o cs.length) (hi : (P.info? ty).map (·.size) = some cs.length) (h1 : ∀ v ∈ cs, v.oneCell' = true) (h : wpList P ops Q rest a (w.setCells b o cs)) : wpList P ops Q (op :: rest) a w :=
  wpList_store_mid hgd ty x y ho b o cs.toArray hx hy (by simpa using ht) (by simpa using hi) (all_oneCell_toArray h1) (by rw [hd]; exact h)
end
/-- The result that has this code alone. -/
def codeR (n : Int) : Res := ⟨z32, z32, n⟩
theorem codeR_ok {n : Int} (h : -9223372036854775808 ≤ n ∧ n ≤ 9223372036854775807) : ResOk (codeR n) := ⟨z32_ok, z32_ok, h⟩
theorem codeR_len (n : Int) : (resC (codeR n)).length = 65 := by simp [resC, codeR, u8s, z32]

theorem bldCode (w : World) (n : Int) : (bld 33 #[(2, .int .i64 n)]).run Tryz.prog w = .ok (.agg (resC (codeR n)).toArray) w := bld33_code w n
attribute [local go_sem high] bldCode
theorem mark_any (A : Option Addr) (n c : Nat) (code : Int) (xs : List Value) (b : Nat) (w : World) (h : w.ownsRow b 33 65 (.slice A n c) n xs) (hn : n ≤ 1000000) :
    Calls Tryz.prog 14 #[.slice A n c, .int .i64 code] w fun e w' => e = .returned (.tuple #[]) ∧ w'.ownsRow b 33 65 (.slice A n c) n (reps n (resC (codeR code))) ∧ w.grownBy w' (Value.slice A n c).ownBlock := by
  have HO := Aside0.mk h
  have hxl : Aside0 (xs.length = n * 65) := ⟨h.1⟩
  clear h
  go_enter Tryz.func14, Tryz.ntmps14
  go_wp2
  go_loopg [4] n (fun k v4 w' => ∃ i : Nat, v4 = .int .i64 i ∧ i + k = n ∧ Aside0 (w'.ownsRow b 33 65 (.slice A n c) n (reps i (resC (codeR code)) ++ xs.drop (i * 65)) ∧ w.grownBy w' (Value.slice A n c).ownBlock))
  case atStart => exact ⟨0, rfl, by omega, ⟨by rw [Nat.zero_mul, List.drop_zero]; exact HO.out, World.grownBy.refl _ _⟩⟩
  case round =>
    clear HO
    obtain ⟨i, rfl, hik, HI⟩ := hrel
    cases gk with
    | zero =>
      have hd : decide (i < n) = false := by simp; omega
      have hi : Aside0 (i = n) := ⟨by omega⟩
      clear hik
      go_wp2
      go_end0
      refine ⟨rfl, ?_, HI.out.2⟩
      have := HI.out.1
      rw [hi.out, List.drop_of_length_le (by rw [hxl.out]; exact Nat.le_refl _), List.append_nil] at this
      exact this
    | succ k =>
      have hi : i < n := by omega
      have hi1 : (i : Int) < (n : Int) := by omega
      obtain ⟨g, cap, hv, hb, hth, hown, hgr⟩ := own_set HI.out.1 hi (codeR_len code)
      injection hv with e1 e2 e3
      subst e1 e3
      have Hth : Aside0 (wr.there g (i * 65) (resC (codeR code)).length) := ⟨by rw [codeR_len]; exact hth⟩
      have Hown := Aside0.mk hown
      have Hgr := Aside0.mk hgr
      clear hth hown hgr
      go_wp2_with (first
        | (refine wpList_store_cells (ty := 33) (x := .tmp 15) (y := .tmp 14) (b := g) (o := i * 65) (cs := resC (codeR code)) ?_ ?_ ?_ ?_ ?_ ?_ ?_ ?_ ?_
           rotate_left 2
           focus with_reducible exact rfl
           focus exact rfl
           focus exact rfl
           focus exact Hth.out
           focus (rw [codeR_len]; exact info33)
           focus exact resC_one
           rotate_left 1
           focus exact rfl
           focus exact rfl)
        | go_in)
      go_roundg k
      case measure => omega
      case rel =>
        refine ⟨i + 1, by go_num, by omega, ⟨?_, World.grownBy.trans HI.out.2 Hgr.out⟩⟩
        have h1 := Hown.out
        have hrl : (reps i (resC (codeR code))).length = i * 65 := by rw [reps_length, codeR_len]
        rw [List.take_append_of_le_length (by omega), List.take_of_length_le (by omega), List.drop_append, List.drop_of_length_le (by omega), List.nil_append, hrl, List.drop_drop] at h1
        rw [reps_succ]
        have e : i * 65 + (i * 65 + 65 - i * 65) = (i + 1) * 65 := by omega
        rw [e] at h1
        exact h1
end Go.Proofs.YtdekmeanlcpenaaGreatDoor.Law

namespace Go.Proofs.YtdekmeanlcpenaaGreatDoor.Law
open Go.RowKit Go.Proofs.YtdekmeanlcpenaaGreatDoorW.PrintWords Go.Proofs.YtdekmeanlcpenaaGreatDoor.Mid Go.Proofs.YtdekmeanlcpenaaGreatDoor.Pick Go.Proofs.YtdekmeanlcpenaaGreatDoor.Sep
attribute [local go_sem ↓ high] load33_eq load29_eq build69_eq build33_eq build29_eq
attribute [local simp] rowOf_drew rowOf_drewN
attribute [local go_sem high] load33_row load29_row rowOf_drew rowOf_drewN
set_option maxHeartbeats 2000000
set_option maxRecDepth 100000

def z29v : Value := .agg (u8s z32).toArray
theorem info29full : (Tryz.prog.info? 29).map (fun i => (i.zero, i.size, i.bytes)) = some (some z29v, 32, 32) := by kernel_rfl
def z33v : Value := .agg (resC (codeR 0)).toArray
theorem info33full' : (Tryz.prog.info? 33).map (fun i => (i.zero, i.size, i.bytes)) = some (some z33v, 65, 72) := by kernel_rfl
theorem bldMark (w : World) : (bld 29 #[(0, .int .u8 171)]).run Tryz.prog w = .ok (.agg (u8s (b1 171)).toArray) w := bld29_one w 171
theorem bldSeven (w : World) : (bld 29 #[(0, .int .u8 7)]).run Tryz.prog w = .ok (.agg (u8s (b1 7)).toArray) w := bld29_one w 7
attribute [local go_sem high] bldMark bldSeven

theorem desk_lay_any (w0 : World) (gd : Nat) (W : World) (vb : Value) (B : List (List Int)) (A : Option Addr) (c : Nat) (data : List (List Int)) (hI : DInv w0 gd W vb B) (hC : idK.C w0 A data.length data) (hda : ∀ x ∈ data, IdOk x) (hd : data.length ≤ 1000) (hB : B.length ≤ 1000000) :
    Calls Tryz.prog 10 #[.pointer (some ⟨gd, 0, none⟩), .slice A data.length c] W fun e w' => ∃ g k n, e = .returned (.slice (some ⟨g, 0, none⟩) data.length k) ∧ data.length + 3 ≤ n ∧ n ≤ 1000000 ∧ DInv w0 gd w' (.slice (some ⟨g, 0, none⟩) n k) (deskS data n) ∧ Kp W w' gd vb ∧ LiesAt W vb (.slice (some ⟨g, 0, none⟩) n k) := by
  have HI := Aside0.mk hI
  have HC := Aside0.mk hC
  have HDA := Aside0.mk hda
  obtain ⟨v0, hv0⟩ : ∃ v0, vb = v0 := ⟨_, rfl⟩
  have HV0 := Aside0.mk hv0
  rw [hv0]
  clear hv0 hda
  obtain ⟨Ab, kb, rfl⟩ := own_slice hI.row
  have hc0 := cell_of_one hI.blk
  have hf0 := free_of_one hI.blk
  clear hI hC
  obtain ⟨N, hN⟩ : ∃ N, 2 * data.length + 6 = N := ⟨_, rfl⟩
  have hN1 : 2 * (data.length : Int) + 6 = (N : Int) := by omega
  have hN2 : N ≤ 700000 := by omega
  have hN3 : data.length + 3 ≤ N := by omega
  clear hN
  go_enter Tryz.func10, Tryz.ntmps10
  go_upto_if 14 with (fail)
  go_cut [15, 16, 17, 18, 19, 20, 21, 22] (fun _ _ _ _ _ _ _ _ wc => ∃ (vb : Value) (B : List (List Int)), data.length + 3 ≤ B.length ∧ B.length ≤ 1000000 ∧ Aside0 (DInv w0 gd wc vb B ∧ Kp W wc gd v0 ∧ LiesAt W v0 vb))
  case first =>
    by_cases hs : B.length < data.length + 3
    · have hs1 : (B.length : Int) < (data.length : Int) + 3 := by omega
      go_wp2_with (at_make; go_loud (refine Kd.R_make idK (w0 := w0) w0.heap.size 29 rfl rfl 23 _ _ rfl (N : Int) rfl rfl Tryz.underlying23 z29v 32 info29full rfl (by decide) (by decide) z32 (ok := fun _ => True) (okp := fun _ => False) (id_M z32_ok) (fun _ _ => trivial) trivial (by omega) (by simp; omega) HI.out.bel HI.out.bel.size ?_); intro v2 w2 ho2 hb2 hg2 hat2; rw [Int.toNat_natCast] at ho2; obtain ⟨A2, k2, e2⟩ := Kd.R_slice ho2; rw [List.length_replicate] at e2; subst e2; have HD2 := Aside0.mk (HI.out.new hg2 (idR_own ho2).1 (idR_own ho2).2 hb2); have hc2 := cell_of_one HD2.out.1; have hf2 := free_of_one HD2.out.1; have HK2 : Aside0 (Kp W (w2.setCell ⟨gd, 0, none⟩ (.slice A2 N k2)) gd v0 ∧ LiesAt W v0 (.slice A2 N k2)) := ⟨((Kp.refl W gd v0).grown hg2 (fun _ e => by cases e)).set (.inl rfl) _ _, fun k hk => by obtain ⟨b, hb, hb'⟩ := hat2; rw [hb] at hk; injection hk with hk; exact .inr (by omega)⟩)
      go_meet
      case rel => exact ⟨_, _, by simp; omega, by simp; omega, ⟨HD2.out.2, HK2.out⟩⟩
    · have hs1 : decide ((B.length : Int) < (data.length : Int) + 3) = false := by simp; omega
      go_wp2
      go_meet
      case rel => exact ⟨_, B, by omega, hB, ⟨HI.out, Kp.refl _ _ _, fun k hk => .inl (by rw [← HV0.out]; exact hk.symm)⟩⟩
  case rest =>
    obtain ⟨vb, B, hb5, hb6, HI3⟩ := hcut
    have HI := Aside0.mk HI3.out.1
    obtain ⟨g, k1, e1, hg1⟩ : ∃ g k1, vb = .slice (some ⟨g, 0, none⟩) B.length k1 ∧ B.length ≤ k1 := by
      rcases HI.out.row.2 with ⟨_, h0⟩ | ⟨g, cap, cur, hv, hb, hh, hnc, hcm, hcs, htake⟩
      · omega
      · exact ⟨g, cap, hv, hnc⟩
    subst e1
    obtain ⟨n, hn⟩ : ∃ n, B.length = n := ⟨_, rfl⟩
    rw [hn] at HI hb5 hb6 hg1
    have HN := Aside0.mk hn
    have hk := hg1
    have HG : Aside0 (g = gd ∨ some g = v0.ownBlock ∨ W.heap.size ≤ g) := ⟨.inr (HI3.out.2.2 g rfl)⟩
    have HAT := Aside0.mk HI3.out.2.2
    rw [hn] at HAT
    have HK0 := Aside0.mk HI3.out.2.1
    clear hc0 hf0 hn hN1 hN2 hN3 hB HI3
    go_wp2_with fail
    go_loopg [5] n (fun k' v5 w' => ∃ i : Nat, v5 = .int .i64 i ∧ i + k' = n ∧ Aside0 (DInv w0 gd w' (.slice (some ⟨g, 0, none⟩) n k1) (markD B i)) ∧ Aside0 (Kp W w' gd v0))
    case atStart => exact ⟨0, rfl, by omega, HI, HK0⟩
    case round =>
      clear HI HK0
      obtain ⟨i, rfl, hik, HI, HK⟩ := hrel
      have hc1 := cell_of_one HI.out.blk
      have hf1 := free_of_one HI.out.blk
      cases gk with
      | zero =>
        have hi : i = n := by omega
        subst hi
        have hm : markD B i = List.replicate i (b1 171) := by rw [markD, List.drop_eq_nil_of_le (by have := HN.out; omega), List.append_nil]
        have hr := idR_of HI.out.row HI.out.ok
        rw [hm] at hr
        have HR := Aside0.mk hr
        have hn3 : (data.length : Int) ≤ (k1 : Int) := by omega
        have HFIN : Aside0 (data.take (min data.length (List.replicate i (b1 171)).length) ++ (List.replicate i (b1 171)).drop (min data.length (List.replicate i (b1 171)).length) = deskS data i) := ⟨by
          rw [List.length_replicate, Nat.min_eq_left (by omega), List.take_length, List.drop_replicate, deskS]⟩
        clear hm hr hik
        go_wp2_with ((with_reducible refine gate_builtin (b := .copy) (xs := #[.tmp 42, .tmp 43]) rfl ?_); go_loud (refine OpenK.R_copy_many idK (w0 := w0) w0.heap.size rfl (.tmp 42) (.tmp 43) 23 23 29 rfl Tryz.underlying23 info29 (by decide) (fun _ _ _ _ _ h _ _ _ => h) (fun _ _ _ _ _ _ h => h) (.slice (some ⟨g, 0, none⟩) i k1) (List.replicate i (b1 171)) data A data.length c (fun _ => True) rfl rfl HR.out (Kd.C_below HC.out HI.out.bel) HI.out.bel HI.out.bel.size ?_); intro w3 ho3 hb3 hg3; rw [HFIN.out] at ho3; have H3 := Aside0.mk (HI.out.grown hg3 (idR_own ho3).1 (idR_own ho3).2 hb3); have HK3 := Aside0.mk (HK.out.grown hg3 (fun k e => by simp [Value.ownBlock] at e; subst e; exact HG.out)); have hc3 := cell_of_one H3.out.blk; clear ho3 hb3 hg3)
        go_ret
        exact ⟨g, k1, i, rfl, hb5, hb6, H3.out, HK3.out, HAT.out⟩
      | succ k' =>
        have hi : i < n := by omega
        have hi1 : (i : Int) < (n : Int) := by omega
        have hP := HI.out.put (i := i) (by rw [markD_length _ _ (by rw [HN.out]; omega), HN.out]; exact hi) (b1_ok (n := 171) (by decide))
        rw [markD_set B i (by rw [HN.out]; exact hi)] at hP
        have HNX := Aside0.mk hP.2.2
        have HTH : Aside0 (wr.there g (i * 32) (u8s (b1 171)).length) := ⟨hP.1⟩
        have HKX := Aside0.mk (HK.out.grown hP.2.1 (fun k e => by injection e with e; subst e; exact HG.out))
        clear hP
        go_wp2_with (first
          | (refine wpList_store_cells (ty := 29) (x := .tmp 38) (y := .tmp 37) (b := g) (o := i * 32) (cs := u8s (b1 171)) ?_ ?_ ?_ ?_ ?_ ?_ ?_ ?_ ?_
             rotate_left 2
             focus with_reducible exact rfl
             focus exact rfl
             focus exact rfl
             focus exact HTH.out
             focus exact info29
             focus exact u8s_one
             rotate_left 1
             focus exact rfl
             focus exact rfl)
          | go_in)
        go_roundg k'
        case measure => omega
        case rel => exact ⟨i + 1, by go_num, by omega, HNX, HKX⟩
end Go.Proofs.YtdekmeanlcpenaaGreatDoor.Law

namespace Go.Proofs.YtdekmeanlcpenaaGreatDoor.Law
open Go.RowKit Go.Proofs.YtdekmeanlcpenaaGreatDoorW.PrintWords Go.Proofs.YtdekmeanlcpenaaGreatDoor.Mid Go.Proofs.YtdekmeanlcpenaaGreatDoor.Pick Go.Proofs.YtdekmeanlcpenaaGreatDoor.Sep
attribute [local go_sem ↓ high] load33_eq load29_eq build69_eq build33_eq build29_eq
attribute [local simp] rowOf_drew rowOf_drewN
attribute [local go_sem high] load33_row load29_row rowOf_drew rowOf_drewN bldMark bldSeven
set_option maxHeartbeats 2000000
set_option maxRecDepth 100000

/-- So many ids of the desk are done with. -/
def doneD (B : List (List Int)) (i : Nat) : List (List Int) := List.replicate i (b1 7) ++ B.drop i
theorem doneD_set (B : List (List Int)) (i : Nat) (h : i < B.length) : (doneD B i).set i (b1 7) = doneD B (i + 1) := by
  rw [doneD, doneD, List.set_append_right _ _ (by simp), List.length_replicate, Nat.sub_self, List.drop_eq_getElem_cons h, List.set_cons_zero, List.replicate_succ', List.append_assoc]
  rfl
theorem doneD_length (B : List (List Int)) (i : Nat) (h : i ≤ B.length) : (doneD B i).length = B.length := by simp [doneD]; omega
theorem doneD_at (B : List (List Int)) (i : Nat) : (doneD B i)[i]? = B[i]? := by
  rw [doneD, List.getElem?_append_right (by simp), List.length_replicate, Nat.sub_self, List.getElem?_drop, Nat.add_zero]
theorem deskS_lo {data : List (List Int)} {n i : Nat} (h : i < data.length) : (deskS data n)[i]? = data[i]? := by
  rw [deskS, List.getElem?_append_left h]
theorem deskS_hi {data : List (List Int)} {n i : Nat} (h : data.length ≤ i) (hn : i < n) : (deskS data n)[i]? = some (b1 171) := by
  rw [deskS, List.getElem?_append_right h, List.getElem?_replicate, if_pos (by omega)]

theorem bdrN (w : World) (n : Nat) : Below w.heap.size w (w.drewN n) := ⟨rfl, rfl, rfl, Nat.le_refl _, fun _ _ => rfl⟩

theorem desk_lies_any (w0 : World) (gd : Nat) (W : World) (g n k : Nat) (A : Option Addr) (c : Nat) (data : List (List Int)) (hI : DInv w0 gd W (.slice (some ⟨g, 0, none⟩) n k) (deskS data n)) (hC : idK.C w0 A data.length data) (hd : data.length ≤ n) (hn : n ≤ 1000000) :
    Calls Tryz.prog 13 #[.pointer (some ⟨gd, 0, none⟩), .slice A data.length c] W fun e w' => e = .returned (.bool true) ∧ DInv w0 gd w' (.slice (some ⟨g, 0, none⟩) n k) (doneD (deskS data n) n) ∧ Kp W w' gd (.slice (some ⟨g, 0, none⟩) n k) := by
  have HI0 := Aside0.mk hI
  have HC := Aside0.mk hC
  clear hI hC
  go_enter Tryz.func13, Tryz.ntmps13
  go_wp2
  go_loopg [5, 6] n (fun k' v5 v6 w' => v5 = .bool true ∧ ∃ i : Nat, v6 = .int .i64 i ∧ i + k' = n ∧ Aside0 (DInv w0 gd w' (.slice (some ⟨g, 0, none⟩) n k) (doneD (deskS data n) i)) ∧ Aside0 (Kp W w' gd (.slice (some ⟨g, 0, none⟩) n k)))
  case atStart => exact ⟨rfl, 0, rfl, by omega, ⟨HI0.out⟩, ⟨Kp.refl _ _ _⟩⟩
  case round =>
    clear HI0
    obtain ⟨rfl, i, rfl, hik, HI, HK⟩ := hrel
    have hc1 := cell_of_one HI.out.blk
    cases gk with
    | zero =>
      have hi : i = n := by omega
      subst hi
      go_wp2
      go_ret
      exact ⟨rfl, HI.out, HK.out⟩
    | succ k' =>
      have hi : i < n := by omega
      have hi1 : (i : Int) < (n : Int) := by omega
      have hdl : (deskS data n).length = n := deskS_length hd
      have hbl : (doneD (deskS data n) i).length = n := by rw [doneD_length _ _ (by omega), hdl]
      obtain ⟨x, hx⟩ : ∃ x, (deskS data n)[i]? = some x := ⟨_, List.getElem?_eq_getElem (by omega)⟩
      have hxd : (doneD (deskS data n) i)[i]? = some x := by rw [doneD_at _ _]; exact hx
      have hxo : IdOk x := HI.out.ok x (List.mem_of_getElem? hxd)
      have hrow : rowOf wr ⟨g, i * 32, none⟩ 32 = some (u8s x) := by
        obtain ⟨g', cap, e, ha⟩ := own_at HI.out.row (i := i) (by omega)
        injection e with e1 _ _
        injection e1 with e1
        injection e1 with e1
        subst e1
        rw [rowI, flat_get (rowI_len HI.out.ok) hxd] at ha
        exact ha.id hxo
      have HXO := Aside0.mk hxo
      by_cases hl : i < data.length
      · have hl1 : (i : Int) < (data.length : Int) := by omega
        have d1 : decide (i < data.length) = true := by simp; omega
        have d2 : decide ((i : Int) < (data.length : Int)) = true := by simp; omega
        have d3 : decide (data.length ≤ i) = false := by simp; omega
        have d4 : decide ((data.length : Int) ≤ (i : Int)) = false := by simp; omega
        obtain ⟨ad, y, e, hy, hyo, hat⟩ := id_at (Kd.C_below HC.out HI.out.bel) i hl
        cases e
        have e : y = x := by
          rw [deskS_lo hl, hy] at hx
          exact Option.some.inj hx
        subst e
        have hrow2 := hat.id hyo
        have heq : ∀ u, (Op.equalIn 10000 29 (.agg (u8s y).toArray) (.agg (u8s y).toArray)).run Tryz.prog u = .ok true u := fun u => by rw [eqI29 u _ _ HXO.out HXO.out, decide_eq_true rfl]
        clear hat hy hyo hx hxd hxo hdl
        go_wp2
        go_quiet (fail)
        have HI2 := HI.out.step (bdrN wr nq)
        have hP := HI2.put (i := i) (by omega) (b1_ok (n := 7) (by decide))
        rw [doneD_set _ i (by rw [deskS_length hd]; exact hi)] at hP
        have HNX := Aside0.mk hP.2.2
        have HTH : Aside0 ((wr.drewN nq).there g (i * 32) (u8s (b1 7)).length) := ⟨hP.1⟩
        have HKX := Aside0.mk ((HK.out.below (bdrN wr nq)).grown hP.2.1 (fun k e => by injection e with e; subst e; exact .inr (.inl rfl)))
        clear hP HI2
        go_wp2_with (first
          | (refine wpList_store_cells (ty := 29) (x := .tmp 57) (y := .tmp 56) (b := g) (o := i * 32) (cs := u8s (b1 7)) ?_ ?_ ?_ ?_ ?_ ?_ ?_ ?_ ?_
             rotate_left 2
             focus with_reducible exact rfl
             focus exact rfl
             focus exact rfl
             focus exact HTH.out
             focus exact info29
             focus exact u8s_one
             rotate_left 1
             focus exact rfl
             focus exact rfl)
          | go_in)
        go_roundg k'
        case measure => omega
        case rel => exact ⟨rfl, i + 1, by go_num, by omega, HNX, HKX⟩
      · have d1 : decide (i < data.length) = false := by simp; omega
        have d2 : decide ((i : Int) < (data.length : Int)) = false := by simp; omega
        have d3 : decide (data.length ≤ i) = true := by simp; omega
        have d4 : decide ((data.length : Int) ≤ (i : Int)) = true := by simp; omega
        have e : x = b1 171 := by
          rw [deskS_hi (by omega) hi] at hx
          exact (Option.some.inj hx).symm
        subst e
        have heq : ∀ u, (Op.equalIn 10000 29 (.agg (u8s (b1 171)).toArray) (.agg (u8s (b1 171)).toArray)).run Tryz.prog u = .ok true u := fun u => by rw [eqI29 u _ _ HXO.out HXO.out, decide_eq_true rfl]
        clear hx hxd hxo hdl
        go_wp2
        go_quiet (fail)
        have HI2 := HI.out.step (bdrN wr nq)
        have hP := HI2.put (i := i) (by omega) (b1_ok (n := 7) (by decide))
        rw [doneD_set _ i (by rw [deskS_length hd]; exact hi)] at hP
        have HNX := Aside0.mk hP.2.2
        have HTH : Aside0 ((wr.drewN nq).there g (i * 32) (u8s (b1 7)).length) := ⟨hP.1⟩
        have HKX := Aside0.mk ((HK.out.below (bdrN wr nq)).grown hP.2.1 (fun k e => by injection e with e; subst e; exact .inr (.inl rfl)))
        clear hP HI2
        go_wp2_with (first
          | (refine wpList_store_cells (ty := 29) (x := .tmp 57) (y := .tmp 56) (b := g) (o := i * 32) (cs := u8s (b1 7)) ?_ ?_ ?_ ?_ ?_ ?_ ?_ ?_ ?_
             rotate_left 2
             focus with_reducible exact rfl
             focus exact rfl
             focus exact rfl
             focus exact HTH.out
             focus exact info29
             focus exact u8s_one
             rotate_left 1
             focus exact rfl
             focus exact rfl)
          | go_in)
        go_roundg k'
        case measure => omega
        case rel => exact ⟨rfl, i + 1, by go_num, by omega, HNX, HKX⟩
end Go.Proofs.YtdekmeanlcpenaaGreatDoor.Law
