import Derived.Test.YtoefligelajfkaaClW3
import Derived.BigQuiet
import Derived.Deep.RegionHeld3
import Derived.Deep.DrawnRows
import Derived.Test.YtoefligelajfkaaPBlockOpensx0
import Derived.Test.YtoefligelajfkaaPBlockOpensx1
import Derived.Test.YtoefligelajfkaaClW2
namespace Go.Proofs.Ytoefligelajfkaa.Own
open Go.RowKit Go.Proofs.YtoefligelajfkaaW.PrintWords Go.Proofs.YtoefligelajfkaaW.PrintLast Go.Proofs.YtoefligelajfkaaW.PrintMore Go.Proofs.Ytoefligelajfkaa.Press Go.Proofs.Ytoefligelajfkaa.Sep Go.Proofs.Ytoefligelajfkaa.Block

theorem flatMap_set {k : IntKind} : ∀ (rs : List BRow) (i : Nat) (x : BRow) (g : SlV), rs[i]? = some x → (rs.flatMap (encE k)).set (i * 3 + 1) g.v = (rs.set i ⟨x.l, g, x.mark⟩).flatMap (encE k)
  | [], i, x, g, h => by simp at h
  | y :: r, 0, x, g, h => by
    simp at h
    subst h
    simp [encE]
  | y :: r, i + 1, x, g, h => by
    simp only [List.getElem?_cons_succ] at h
    rw [List.flatMap_cons, List.set_cons_succ, List.flatMap_cons, ← flatMap_set r i x g h]
    rw [show (i + 1) * 3 + 1 = 3 + (i * 3 + 1) from by omega, List.set_append_right _ _ (by simp [encE])]
    rw [show 3 + (i * 3 + 1) - (encE k y).length = i * 3 + 1 from by simp [encE]]
theorem own_putN {W : World} {b e sz n c g : Nat} {xs : List Value} (h : W.ownsRow b e sz (.slice (some ⟨g, 0, none⟩) n c) n xs) (i : Nat) (u : Value) : (W.setCell ⟨g, i, none⟩ u).ownsRow b e sz (.slice (some ⟨g, 0, none⟩) n c) n (xs.set i u) := by
  rcases h.2 with ⟨e1, h0⟩ | ⟨g', cap, cur, e1, hb, hh, hnc, hcm, hcs, htake⟩
  · cases e1
  · cases e1
    refine ⟨by rw [List.length_set]; exact h.1, .inr ⟨g, c, _, rfl, hb, blk_set hh i u, hnc, hcm, by simp [hcs], ?_⟩⟩
    rw [← htake, Array.toList_setIfInBounds, List.take_set]

section
variable {b kb R : Nat} {vr vl : SlV} {rs ls : List BRow} {X : Col → Pr} {c : Nat → Col} {w0 W W1 : World}
theorem ent_mono {b e sz R R' : Nat} {l g : SlV} {p q : List Value} {F : Nat → Prop} {W : World} (hR : R ≤ R') (h : (entP b e sz l g p q R).p F W) : (entP b e sz l g p q R').p F W := by
  obtain ⟨n, r, h1, h2, h3⟩ := h
  exact ⟨n, r, by omega, h2, h3⟩
theorem st_mono {R' : Nat} (hR : R ≤ R') (h : Store b w0 W c (stS b kb R vr vl rs ls X)) : Store b w0 W c (stS b kb R' vr vl rs ls X) := by
  refine ⟨h.bel, fun K => ?_⟩
  have h1 := h.all K
  cases K with
  | row k =>
    simp only [stS] at h1 ⊢
    cases hk : rs[k]? with
    | none => exact trivial
    | some r => rw [hk] at h1; exact ent_mono hR h1
  | lst k =>
    simp only [stS] at h1 ⊢
    cases hk : ls[k]? with
    | none => exact trivial
    | some r => rw [hk] at h1; exact ent_mono hR h1
  | _ => exact h1
/-- An entry's row has grown by one. -/
theorem st_grow (h : Store b w0 W c (stS b kb R vr vl rs ls X)) {k gr : Nat} {r : BRow} (hgr : vr.A = some ⟨gr, 0, none⟩) (hr : rs[k]? = some r) {v1 : Value} {n t : Nat} (hn : n ≤ 1000000) (ht : t ≤ R) (hE : Ent b 5 1 r.l r.g (pB r.mark) (pB (r.mark + 1)) n t (fun g => c g = .row k) W)
    (hv : W1.ownsRow b 5 1 v1 (n + t + 1) ((reps n (pB r.mark) ++ reps t (pB (r.mark + 1))) ++ pB (r.mark + 1))) (hB : Below b w0 W1) (hg : W.grownBy W1 r.g.v.ownBlock) (ho : W1.ownsRow b 5 1 r.g.v (n + t) (reps n (pB r.mark) ++ reps t (pB (r.mark + 1))))
    (hat : (∃ A c, r.g.v = .slice A (n + t) c ∧ v1 = .slice A (n + t + 1) c) ∨ ∃ k, v1.ownBlock = some k ∧ W.heap.size ≤ k) :
    ∃ A1 n1 k1, v1 = .slice A1 n1 k1 ∧ W1.cell? ⟨kb, 0, none⟩ = some vr.v ∧ W1.cell? ⟨gr, k * 3 + 2, none⟩ = some (.int .u8 r.mark) ∧ W1.cell? ⟨gr, k * 3 + 1, none⟩ = some r.g.v ∧ W1.frozen? ⟨gr, k * 3 + 1, none⟩ = false ∧ ∃ c', Store b w0 (W1.setCell ⟨gr, k * 3 + 1, none⟩ v1) c' (stS b kb (R + 1) vr vl (rs.set k ⟨r.l, ⟨A1, n1, k1⟩, r.mark⟩) ls X) := by
  obtain ⟨g1, rfl, hE1⟩ := Ent.grow (F' := fun g => (if g < W.heap.size then c g else .row k) = .row k) rfl hE (fun g hl hF => by simp only [if_pos hl]; exact hF) (fun g hl => by simp [show ¬ g < W.heap.size from by omega]) hv hg ho hat
  have h0 := st_mono (Nat.le_succ R) h
  have hcol : ∀ g, r.g.v.ownBlock = some g → c g = .row k := hE.gF
  have h1 := h0.mod (.row k) (W1 := W1) (entP b 5 1 r.l g1 (pB r.mark) (pB (r.mark + 1)) (R + 1)) hB (c' := fun g => if g < W.heap.size then c g else .row k) (fun g hl _ => by simp [hl])
    (fun g hl hgc => hg.block g hl (fun e => hgc (hcol g e.symm))) ⟨n, t + 1, by omega, hn, hE1⟩
  have hro := h1.all .rows
  have hrc := (st_rows h).2.1
  have hrn := (st_rows h).2.2
  have hro' := st_rows h
  have hk := (List.getElem?_eq_some_iff.1 hr).1
  rw [if_neg (by simp)] at hro
  replace hro : W1.ownsRow b 88 3 vr.v vr.n (rs.flatMap (encE .u8)) ∧ ∀ g, vr.v.ownBlock = some g → (if g < W.heap.size then c g else .row k) = .rows := hro
  obtain ⟨gr', cp, e1, hcp, h4, h5⟩ := own_cell hro.1 (by omega)
  obtain ⟨vA, vn, vc⟩ := vr
  injection e1 with e2 e3 e4
  simp only at hrn hgr
  rw [hgr] at e2
  cases e2
  subst e4 hrn hgr
  have hbr := own_base hro.1 gr rfl
  have hcr := hro.2 gr rfl
  have hbk1 := h1.all .book
  rw [if_neg (by simp)] at hbk1
  replace hbk1 : W1.heap[kb]? = some (.cells #[SlV.v ⟨some ⟨gr, 0, none⟩, rs.length, vc⟩, vl.v] 74 (0, 0)) := hbk1.1
  refine ⟨g1.A, g1.n, g1.c, rfl, by rw [blk_cell hbk1]; rfl, h4 _ _ (flatMap_at rs k r hr 2 _ rfl), h4 _ _ (flatMap_at rs k r hr 1 _ rfl), h5 _, fun g => if g < W.heap.size then c g else .row k, ?_⟩
  have h6 := h1.mod .rows (W1 := W1.setCell ⟨gr, k * 3 + 1, none⟩ g1.v) (rowP b 88 3 ⟨some ⟨gr, 0, none⟩, rs.length, vc⟩ ((rs.set k ⟨r.l, g1, r.mark⟩).flatMap (encE .u8))) (hB.setCell hbr _) (c' := fun g => if g < W.heap.size then c g else .row k) (fun _ _ _ => rfl)
    (fun j _ hj => Below.heap_setCell W1 _ _ j (fun e => hj (by rw [e]; exact hcr))) ⟨by rw [← flatMap_set rs k r g1 hr]; exact own_putN hro.1 _ _, hro.2⟩
  refine ⟨h6.bel, fun K => ?_⟩
  have h7 := h6.all K
  cases K with
  | row j =>
    simp only [stS] at h7 ⊢
    by_cases hj : j = k
    · subst hj
      rw [List.getElem?_set_self hk]
      rw [if_neg (by simp), if_pos rfl] at h7
      exact h7
    · rw [List.getElem?_set_ne (fun e => hj e.symm)]
      rw [if_neg (by simp), if_neg (by simp [hj])] at h7
      exact h7
  | rows => exact h7
  | _ => exact h7
/-- An entry of the lists has grown by one. -/
theorem st_growL (h : Store b w0 W c (stS b kb R vr vl rs ls X)) {k gr : Nat} {r : BRow} (hgr : vl.A = some ⟨gr, 0, none⟩) (hr : ls[k]? = some r) {v1 : Value} {n t : Nat} (hn : n ≤ 1000000) (ht : t ≤ R) (hE : Ent b 58 4 r.l r.g (pL r.mark) (pL (r.mark + 1)) n t (fun g => c g = .lst k) W)
    (hv : W1.ownsRow b 58 4 v1 (n + t + 1) ((reps n (pL r.mark) ++ reps t (pL (r.mark + 1))) ++ pL (r.mark + 1))) (hB : Below b w0 W1) (hg : W.grownBy W1 r.g.v.ownBlock) (ho : W1.ownsRow b 58 4 r.g.v (n + t) (reps n (pL r.mark) ++ reps t (pL (r.mark + 1))))
    (hat : (∃ A c, r.g.v = .slice A (n + t) c ∧ v1 = .slice A (n + t + 1) c) ∨ ∃ k, v1.ownBlock = some k ∧ W.heap.size ≤ k) :
    ∃ A1 n1 k1, v1 = .slice A1 n1 k1 ∧ W1.cell? ⟨kb, 1, none⟩ = some vl.v ∧ W1.cell? ⟨gr, k * 3 + 2, none⟩ = some (.int .i64 r.mark) ∧ W1.cell? ⟨gr, k * 3 + 1, none⟩ = some r.g.v ∧ W1.frozen? ⟨gr, k * 3 + 1, none⟩ = false ∧ ∃ c', Store b w0 (W1.setCell ⟨gr, k * 3 + 1, none⟩ v1) c' (stS b kb (R + 1) vr vl rs (ls.set k ⟨r.l, ⟨A1, n1, k1⟩, r.mark⟩) X) := by
  obtain ⟨g1, rfl, hE1⟩ := Ent.grow (F' := fun g => (if g < W.heap.size then c g else .lst k) = .lst k) rfl hE (fun g hl hF => by simp only [if_pos hl]; exact hF) (fun g hl => by simp [show ¬ g < W.heap.size from by omega]) hv hg ho hat
  have h0 := st_mono (Nat.le_succ R) h
  have hcol : ∀ g, r.g.v.ownBlock = some g → c g = .lst k := hE.gF
  have h1 := h0.mod (.lst k) (W1 := W1) (entP b 58 4 r.l g1 (pL r.mark) (pL (r.mark + 1)) (R + 1)) hB (c' := fun g => if g < W.heap.size then c g else .lst k) (fun g hl _ => by simp [hl])
    (fun g hl hgc => hg.block g hl (fun e => hgc (hcol g e.symm))) ⟨n, t + 1, by omega, hn, hE1⟩
  have hro := h1.all .lists
  have hrc := (st_lists h).2.1
  have hrn := (st_lists h).2.2
  have hro' := st_lists h
  have hk := (List.getElem?_eq_some_iff.1 hr).1
  rw [if_neg (by simp)] at hro
  replace hro : W1.ownsRow b 90 3 vl.v vl.n (ls.flatMap (encE .i64)) ∧ ∀ g, vl.v.ownBlock = some g → (if g < W.heap.size then c g else .lst k) = .lists := hro
  obtain ⟨gr', cp, e1, hcp, h4, h5⟩ := own_cell hro.1 (by omega)
  obtain ⟨vA, vn, vc⟩ := vl
  injection e1 with e2 e3 e4
  simp only at hrn hgr
  rw [hgr] at e2
  cases e2
  subst e4 hrn hgr
  have hbr := own_base hro.1 gr rfl
  have hcr := hro.2 gr rfl
  have hbk1 := h1.all .book
  rw [if_neg (by simp)] at hbk1
  replace hbk1 : W1.heap[kb]? = some (.cells #[vr.v, SlV.v ⟨some ⟨gr, 0, none⟩, ls.length, vc⟩] 74 (0, 0)) := hbk1.1
  refine ⟨g1.A, g1.n, g1.c, rfl, by rw [blk_cell hbk1]; rfl, h4 _ _ (flatMap_at ls k r hr 2 _ rfl), h4 _ _ (flatMap_at ls k r hr 1 _ rfl), h5 _, fun g => if g < W.heap.size then c g else .lst k, ?_⟩
  have h6 := h1.mod .lists (W1 := W1.setCell ⟨gr, k * 3 + 1, none⟩ g1.v) (rowP b 90 3 ⟨some ⟨gr, 0, none⟩, ls.length, vc⟩ ((ls.set k ⟨r.l, g1, r.mark⟩).flatMap (encE .i64))) (hB.setCell hbr _) (c' := fun g => if g < W.heap.size then c g else .lst k) (fun _ _ _ => rfl)
    (fun j _ hj => Below.heap_setCell W1 _ _ j (fun e => hj (by rw [e]; exact hcr))) ⟨by rw [← flatMap_set ls k r g1 hr]; exact own_putN hro.1 _ _, hro.2⟩
  refine ⟨h6.bel, fun K => ?_⟩
  have h7 := h6.all K
  cases K with
  | lst j =>
    simp only [stS] at h7 ⊢
    by_cases hj : j = k
    · subst hj
      rw [List.getElem?_set_self hk]
      rw [if_neg (by simp), if_pos rfl] at h7
      exact h7
    · rw [List.getElem?_set_ne (fun e => hj e.symm)]
      rw [if_neg (by simp), if_neg (by simp [hj])] at h7
      exact h7
  | lists => exact h7
  | _ => exact h7
end

theorem info5' : (Try.prog.info? 5).map (fun i => (i.zero, i.size, i.bytes)) = some (some (.int .u8 0), 1, 1) := by kernel_rfl
theorem Ent.drew {b e sz : Nat} {l g : SlV} {p q : List Value} {n r : Nat} {F : Nat → Prop} {W : World} (h : Ent b e sz l g p q n r F W) : Ent b e sz l g p q n r F W.drew :=
  ⟨h.ln, h.gn, own_loc h.lo (fun _ _ _ => rfl), own_loc h.go (fun _ _ _ => rfl), h.lF, h.gF, h.rel⟩
/-- The rows after some growing: the same but for what has grown. -/
def Like (rs rs' : List BRow) : Prop := rs'.length = rs.length ∧ ∀ (k : Nat) (r' : BRow), rs'[k]? = some r' → ∃ r : BRow, rs[k]? = some r ∧ r'.l = r.l ∧ r'.mark = r.mark
theorem Like.refl (rs : List BRow) : Like rs rs := ⟨rfl, fun _ r' h => ⟨r', h, rfl, rfl⟩⟩
theorem Like.set {rs rs' : List BRow} (h : Like rs rs') {k : Nat} {r : BRow} (hr : rs'[k]? = some r) (g : SlV) : Like rs (rs'.set k ⟨r.l, g, r.mark⟩) := by
  refine ⟨by rw [List.length_set]; exact h.1, fun j r' hj => ?_⟩
  by_cases hjk : j = k
  · subst hjk
    rw [List.getElem?_set_self (List.getElem?_eq_some_iff.1 hr).1] at hj
    cases hj
    exact h.2 j r hr
  · rw [List.getElem?_set_ne (fun e => hjk e.symm)] at hj
    exact h.2 j r' hj
theorem Like.mark {rs rs' : List BRow} (h : Like rs rs') {p : Int → Prop} (hp : ∀ r ∈ rs, p r.mark) : ∀ r ∈ rs', p r.mark := by
  intro r' hr'
  obtain ⟨k, hk, e⟩ := List.getElem_of_mem hr'
  obtain ⟨r, h1, h2, h3⟩ := h.2 k r' (by rw [List.getElem?_eq_getElem hk, e])
  rw [h3]
  exact hp r (List.mem_of_getElem? h1)

theorem info58' : (Try.prog.info? 58).map (fun i => (i.zero, i.size, i.bytes)) = some (some (.agg #[.int .i64 0, .int .i64 0, .int .i64 0, .int .i64 0]), 4, 32) := by kernel_rfl
structure GrowL (kb gr i ln kr : Nat) (gA : Option Addr) (gn gc : Nat) (m : Int) (w : World) : Prop where
  c0 : w.cell? ⟨kb, 1, none⟩ = some (.slice (some ⟨gr, 0, none⟩) ln kr)
  c1 : w.cell? ⟨gr, i * 3 + 1, none⟩ = some (.slice gA gn gc)
  c2 : w.cell? ⟨gr, i * 3 + 2, none⟩ = some (.int .i64 m)
/-- The cells that the region reads. -/
structure GrowS (kb gr i ln kr : Nat) (gA : Option Addr) (gn gc : Nat) (m : Int) (w : World) : Prop where
  c0 : w.cell? ⟨kb, 0, none⟩ = some (.slice (some ⟨gr, 0, none⟩) ln kr)
  c1 : w.cell? ⟨gr, i * 3 + 1, none⟩ = some (.slice gA gn gc)
  c2 : w.cell? ⟨gr, i * 3 + 2, none⟩ = some (.int .u8 m)

attribute [local go_sem ↓] Go.wp_at_zero Go.wp_at_succ
set_option maxHeartbeats 8000000 in
set_option maxRecDepth 100000 in
theorem grow_any (b kb R : Nat) (vr vl : SlV) (rs ls : List BRow) (X : Col → Pr) (c : Nat → Col) (w0 w : World) (hb0 : b ≤ w0.heap.size) (hR : R ≤ 100000000000)
    (H : Store b w0 w c (stS b kb R vr vl rs ls X)) (hrs : rs.length ≤ 100000000) (hls : ls.length ≤ 100000000) (hm : ∀ r ∈ rs, 0 ≤ r.mark ∧ r.mark ≤ 200) (hml : ∀ r ∈ ls, 0 ≤ r.mark ∧ r.mark ≤ 1000000000) :
    Calls Try.prog 49 #[.pointer (some ⟨kb, 0, none⟩)] w fun e w' => e = .returned (.tuple #[]) ∧ ∃ c' rs' ls', Like rs rs' ∧ Like ls ls' ∧ Store b w0 w' c' (stS b kb (R + 64 * (rs.length + ls.length)) vr vl rs' ls' X) := by
  have HM := Aside0.mk hm
  have HML := Aside0.mk hml
  have hrn : vr.n = rs.length := (st_rows H).2.2
  have hln : vl.n = ls.length := (st_lists H).2.2
  obtain ⟨Ar, nr, kr⟩ := vr
  obtain ⟨Al, nl, kl⟩ := vl
  simp only at hrn hln
  subst hrn hln
  have H0 : Aside0 (∃ c' rs', Like rs rs' ∧ Store b w0 w c' (stS b kb (R + 64 * 0) ⟨Ar, rs.length, kr⟩ ⟨Al, ls.length, kl⟩ rs' ls X)) := ⟨c, rs, Like.refl _, H⟩
  clear H hm hml
  go_enter Try.func49, Try.ntmps49
  go_wp2
  go_loopg [2, 3] rs.length (fun k v2 v3 w' => ∃ i : Nat, v2 = .int .i64 i ∧ i + k = rs.length ∧ Aside0 (∃ c' rs', Like rs rs' ∧ Store b w0 w' c' (stS b kb (R + 64 * i) ⟨Ar, rs.length, kr⟩ ⟨Al, ls.length, kl⟩ rs' ls X)))
  case atStart => exact ⟨0, rfl, by omega, H0⟩
  case round =>
    clear H0
    obtain ⟨i, rfl, hik, HS⟩ := hrel
    have hc0 : wr.cell? ⟨kb, 0, none⟩ = some (.slice Ar rs.length kr) := by
      obtain ⟨c1, rs1, hL, hS⟩ := HS.out
      rw [blk_cell (st_book hS).1]; rfl
    cases gk with
    | zero =>
      obtain rfl : i = rs.length := by omega
      go_wp2
      have H1 : Aside0 (∃ c' rs' ls', Like rs rs' ∧ Like ls ls' ∧ Store b w0 wr c' (stS b kb (R + 64 * rs.length + 64 * 0) ⟨Ar, rs.length, kr⟩ ⟨Al, ls.length, kl⟩ rs' ls' X)) := by
        obtain ⟨c1, rs1, h1, h2⟩ := HS.out
        exact ⟨c1, rs1, ls, h1, Like.refl _, h2⟩
      clear HS hik hc0
      go_loopg [4, 5] ls.length (fun k v4 v5 w' => ∃ i : Nat, v4 = .int .i64 i ∧ i + k = ls.length ∧ Aside0 (∃ c' rs' ls', Like rs rs' ∧ Like ls ls' ∧ Store b w0 w' c' (stS b kb (R + 64 * rs.length + 64 * i) ⟨Ar, rs.length, kr⟩ ⟨Al, ls.length, kl⟩ rs' ls' X)))
      case atStart => exact ⟨0, rfl, by omega, H1⟩
      case round =>
        clear H1
        obtain ⟨i, rfl, hik, HS⟩ := hrel
        have hc0 : wr.cell? ⟨kb, 1, none⟩ = some (.slice Al ls.length kl) := by
          obtain ⟨c1, rs1, ls1, h1, h2, hS⟩ := HS.out
          rw [blk_cell (st_book hS).1]; rfl
        cases gk with
        | zero =>
          obtain rfl : i = ls.length := by omega
          go_wp2
          go_end0
          refine ⟨rfl, ?_⟩
          obtain ⟨c1, rs1, ls1, h1, h2, hS⟩ := HS.out
          exact ⟨c1, rs1, ls1, h1, h2, by rw [Nat.mul_add, ← Nat.add_assoc]; exact hS⟩
        | succ k =>
          have hi : i < ls.length := by omega
          have hi2 : (i : Int) < (ls.length : Int) := by omega
          obtain ⟨M, hM⟩ : ∃ M : Nat, M = if i < 64 then 64 else 2 := ⟨_, rfl⟩
          have hM2 : 2 ≤ M ∧ M ≤ 64 := by rw [hM]; split <;> omega
          have HMM := Aside0.mk hM
          clear hM
          go_wp2
          clear hc0
          go_loopg [5] M (fun q v5 w' => ∃ j : Nat, v5 = .int .i64 j ∧ j + q = M ∧ Aside0 (∃ c' rs' ls', Like rs rs' ∧ Like ls ls' ∧ Store b w0 w' c' (stS b kb (R + 64 * rs.length + 64 * i + j) ⟨Ar, rs.length, kr⟩ ⟨Al, ls.length, kl⟩ rs' ls' X)))
          case atStart => exact ⟨0, rfl, by omega, HS⟩
          case round =>
            clear HS
            obtain ⟨j, rfl, hjq, HS⟩ := hrel
            cases gk with
            | zero =>
              obtain rfl : j = M := by omega
              have e1 : decide ((j : Int) < 2) = false := by simp; omega
              by_cases hi64 : i < 64
              · have hj64 : j = 64 := by rw [HMM.out, if_pos hi64]
                have e2 : decide ((i : Int) < 64) = true := by simp; omega
                have e3 : decide ((j : Int) < 64) = false := by simp; omega
                have HJ := Aside0.mk hj64
                clear hj64 hM2
                go_wp2
                go_roundg k
                case measure => omega
                case rel => exact ⟨i + 1, by go_num, by omega, by have := HJ.out; rw [show R + 64 * rs.length + 64 * (i + 1) = R + 64 * rs.length + 64 * i + j from by omega]; exact HS⟩
              · have hj64 : j ≤ 64 := by omega
                have e2 : decide ((i : Int) < 64) = false := by simp; omega
                clear hM2
                go_wp2
                go_roundg k
                case measure => omega
                case rel =>
                  refine ⟨i + 1, by go_num, by omega, ⟨?_⟩⟩
                  obtain ⟨c1, rs1, ls1, h1, h3, h2⟩ := HS.out
                  exact ⟨c1, rs1, ls1, h1, h3, st_mono (by omega) h2⟩
            | succ q =>
              have hj : j < M := by omega
              have hG : Aside0 (decide ((j : Int) < 2) = true ∨ decide ((j : Int) < 2) = false ∧ decide ((i : Int) < 64) = true ∧ decide ((j : Int) < 64) = true) := by
                constructor
                by_cases h2 : j < 2
                · left; simp; omega
                · right
                  have hM3 := HMM.out
                  have hi64 : i < 64 := by
                    by_cases h : i < 64
                    · exact h
                    · rw [if_neg h] at hM3; omega
                  simp; omega
              obtain ⟨c1, rs1, ls1, hLr, hL, hS⟩ := HS.out
              have hrl : ls1.length = ls.length := hL.1
              obtain ⟨r, hr⟩ : ∃ r, ls1[i]? = some r := ⟨_, List.getElem?_eq_getElem (by omega)⟩
              obtain ⟨gr, cap, e, hcap, h0, h1, h2, n, t, htR, hn, hE⟩ := st_entryL hS hr
              injection e with e1 e2 e3
              subst e1 e3
              obtain ⟨hm0, hm1⟩ := hL.mark (p := fun m => 0 ≤ m ∧ m ≤ 1000000000) HML.out r (List.mem_of_getElem? hr)
              obtain ⟨⟨lA, ln, lc⟩, ⟨gA, gn, gc⟩, m⟩ := r
              obtain rfl : gn = n + t := hE.gn
              replace h0 : wr.cell? ⟨gr, i * 3, none⟩ = some (.slice lA ln lc) := h0
              replace h1 : wr.cell? ⟨gr, i * 3 + 1, none⟩ = some (.slice gA (n + t) gc) := h1
              replace h2 : wr.cell? ⟨gr, i * 3 + 2, none⟩ = some (.int .i64 m) := h2
              replace hm0 : 0 ≤ m := hm0
              replace hm1 : m ≤ 1000000000 := hm1
              have hc0 : wr.cell? ⟨kb, 1, none⟩ = some (.slice (some ⟨gr, 0, none⟩) ls.length kl) := by rw [blk_cell (st_book hS).1]; rfl
              have hnt : n + t ≤ 2000000000000 := by omega
              have hS' := hS.below hb0 (below_drew (Below.refl _ _))
              have hE' := Ent.drew hE
              have hw8 : IntKind.i64.wrap (m + 1) = m + 1 := IntWalk.i64_in _ (by omega)
              have HE := Aside0.mk (And.intro hS' (And.intro hL (And.intro hr (And.intro hE' hLr))))
              clear hS' hE' hE hr hL hLr hS e2 hrl HS
              have hi0 : (0 : Int) ≤ (i : Int) := by omega
              have hrg : wr.drew.heap[gr]? = wr.heap[gr]? := rfl
              have hc0a : ∀ o, (wr.alloc o).cell? ⟨kb, 1, none⟩ = some (.slice (some ⟨gr, 0, none⟩) ls.length kl) := fun o => pw_cell_below (below_alloc (Below.refl _ _) o) hc0
              have h2a : ∀ o, (wr.alloc o).cell? ⟨gr, i * 3 + 2, none⟩ = some (.int .i64 m) := fun o => pw_cell_below (below_alloc (Below.refl _ _) o) h2
              have h1a : ∀ o, (wr.alloc o).cell? ⟨gr, i * 3 + 1, none⟩ = some (.slice gA (n + t) gc) := fun o => pw_cell_below (below_alloc (Below.refl _ _) o) h1
              have hkg : kb ≠ gr := by
                intro e
                have h3 := (st_book HE.out.1).2.2
                have h4 := (st_lists HE.out.1).2.1 gr rfl
                rw [e, h4] at h3
                cases h3
              have hG0 : GrowL kb gr i ls.length kl gA (n + t) gc m wr.drew := ⟨hc0, h1, h2⟩
              rcases hG.out with e1 | ⟨e1, e2, e3⟩
              all_goals clear hG
              all_goals go_wp2
              all_goals
                refine wp_region_K (GrowL kb gr i ls.length kl gA (n + t) gc m) 27 (by kernel_rfl) ?_
                refine wpAnyK_take (i := 0) (v := ?_) rfl (by kernel_rfl) (by decide) (by kernel_rfl) (by kernel_rfl) (by kernel_rfl) (fun _ _ _ h => h) (Or.inl ⟨by rfl, ?_⟩) hG0 ?_
                rotate_left
                · (intro wG hG; obtain ⟨g0, g1, g2⟩ := hG; go_simp; try with_reducible rfl)
                simp only [Act.put, List.setIfInBounds_toArray, List.set]
                refine wpAnyK_take (i := 1) (v := ?_) rfl (by kernel_rfl) (by decide) (by kernel_rfl) (by kernel_rfl) (by kernel_rfl) (fun _ _ _ h => h) (Or.inl ⟨by rfl, ?_⟩) hG0 ?_
                rotate_left
                · (intro wG hG; obtain ⟨g0, g1, g2⟩ := hG; go_simp; try with_reducible rfl)
                simp only [Act.put, List.setIfInBounds_toArray, List.set]
                refine wpAnyK_take (i := 2) (v := ?_) rfl (by kernel_rfl) (by decide) (by kernel_rfl) (by kernel_rfl) (by kernel_rfl) (fun _ _ _ h => h) (Or.inl ⟨by rfl, ?_⟩) hG0 ?_
                rotate_left
                · (intro wG hG; obtain ⟨g0, g1, g2⟩ := hG; go_simp; try with_reducible rfl)
                simp only [Act.put, List.setIfInBounds_toArray, List.set]
                refine wpAnyK_take (i := 3) (v := ?_) rfl (by kernel_rfl) (by decide) (by kernel_rfl) (by kernel_rfl) (by kernel_rfl) (fun _ _ _ h => h) (Or.inl ⟨by rfl, ?_⟩) hG0 ?_
                rotate_left
                · (intro wG hG; obtain ⟨g0, g1, g2⟩ := hG; go_simp; try with_reducible rfl)
                simp only [Act.put, List.setIfInBounds_toArray, List.set]
                refine wpAnyK_take (i := 4) (v := ?_) rfl (by kernel_rfl) (by decide) (by kernel_rfl) (by kernel_rfl) (by kernel_rfl) (fun _ _ _ h => h) (Or.inl ⟨by rfl, ?_⟩) hG0 ?_
                rotate_left
                · (intro wG hG; obtain ⟨g0, g1, g2⟩ := hG; go_simp; try with_reducible rfl)
                simp only [Act.put, List.setIfInBounds_toArray, List.set]
                refine wpAnyK_take (i := 5) (v := ?_) rfl (by kernel_rfl) (by decide) (by kernel_rfl) (by kernel_rfl) (by kernel_rfl) (fun _ _ _ h => h) (Or.inl ⟨by rfl, ?_⟩) hG0 ?_
                rotate_left
                · (intro wG hG; obtain ⟨g0, g1, g2⟩ := hG; go_simp; try with_reducible rfl)
                simp only [Act.put, List.setIfInBounds_toArray, List.set]
                refine wpAnyK_take (i := 6) (v := ?_) rfl (by kernel_rfl) (by decide) (by kernel_rfl) (by kernel_rfl) (by kernel_rfl) (fun _ _ _ h => h) (Or.inl ⟨by rfl, ?_⟩) hG0 ?_
                rotate_left
                · (intro wG hG; obtain ⟨g0, g1, g2⟩ := hG; go_simp; try with_reducible rfl)
                simp only [Act.put, List.setIfInBounds_toArray, List.set]
                refine wpAnyK_take (i := 7) (v := ?_) rfl (by kernel_rfl) (by decide) (by kernel_rfl) (by kernel_rfl) (by kernel_rfl) (fun _ _ _ h => h) (Or.inl ⟨by rfl, ?_⟩) hG0 ?_
                rotate_left
                · (intro wG hG; obtain ⟨g0, g1, g2⟩ := hG; go_simp; try with_reducible rfl)
                simp only [Act.put, List.setIfInBounds_toArray, List.set]
                refine wpAnyK_take (i := 8) (v := ?_) rfl (by kernel_rfl) (by decide) (by kernel_rfl) (by kernel_rfl) (by kernel_rfl) (fun _ _ _ h => h) (Or.inl ⟨by rfl, ?_⟩) hG0 ?_
                rotate_left
                · (intro wG hG; obtain ⟨g0, g1, g2⟩ := hG; go_simp; try with_reducible rfl)
                simp only [Act.put, List.setIfInBounds_toArray, List.set]
                refine wpAnyK_take (i := 9) (v := ?_) rfl (by kernel_rfl) (by decide) (by kernel_rfl) (by kernel_rfl) (by kernel_rfl) (fun _ _ _ h => h) (Or.inl ⟨by rfl, ?_⟩) hG0 ?_
                rotate_left
                · (intro wG hG; obtain ⟨g0, g1, g2⟩ := hG; go_simp; try with_reducible rfl)
                simp only [Act.put, List.setIfInBounds_toArray, List.set]
                refine wpAnyK_take (i := 10) (v := ?_) rfl (by kernel_rfl) (by decide) (by kernel_rfl) (by kernel_rfl) (by kernel_rfl) (fun _ _ _ h => h) (Or.inl ⟨by rfl, ?_⟩) hG0 ?_
                rotate_left
                · (intro wG hG; obtain ⟨g0, g1, g2⟩ := hG; go_simp; try with_reducible rfl)
                simp only [Act.put, List.setIfInBounds_toArray, List.set]
                refine wpAnyK_take (i := 11) (v := ?_) rfl (by kernel_rfl) (by decide) (by kernel_rfl) (by kernel_rfl) (by kernel_rfl) (fun _ _ _ h => h) (Or.inl ⟨by rfl, ?_⟩) hG0 ?_
                rotate_left
                · (intro wG hG; obtain ⟨g0, g1, g2⟩ := hG; go_simp; try with_reducible rfl)
                simp only [Act.put, List.setIfInBounds_toArray, List.set]
                refine wpAnyK_take (i := 12) (v := ?_) rfl (by kernel_rfl) (by decide) (by kernel_rfl) (by kernel_rfl) (by kernel_rfl) (fun _ _ _ h => h) (Or.inl ⟨by rfl, ?_⟩) hG0 ?_
                rotate_left
                · (intro wG hG; obtain ⟨g0, g1, g2⟩ := hG; go_simp; try with_reducible rfl)
                simp only [Act.put, List.setIfInBounds_toArray, List.set]
                refine wpAnyK_take (i := 13) (v := ?_) rfl (by kernel_rfl) (by decide) (by kernel_rfl) (by kernel_rfl) (by kernel_rfl) (fun _ _ _ h => h) (Or.inl ⟨by rfl, ?_⟩) hG0 ?_
                rotate_left
                · (intro wG hG; obtain ⟨g0, g1, g2⟩ := hG; go_simp; try with_reducible rfl)
                simp only [Act.put, List.setIfInBounds_toArray, List.set]
                refine wpAnyK_take (i := 14) (v := ?_) rfl (by kernel_rfl) (by decide) (by kernel_rfl) (by kernel_rfl) (by kernel_rfl) (fun _ _ _ h => h) (Or.inl ⟨by rfl, ?_⟩) hG0 ?_
                rotate_left
                · (intro wG hG; obtain ⟨g0, g1, g2⟩ := hG; go_simp; try with_reducible rfl)
                simp only [Act.put, List.setIfInBounds_toArray, List.set]
                refine wpAnyK_take (i := 15) (v := ?_) rfl (by kernel_rfl) (by decide) (by kernel_rfl) (by kernel_rfl) (by kernel_rfl) (fun _ _ _ h => h) (Or.inl ⟨by rfl, ?_⟩) hG0 ?_
                rotate_left
                · (intro wG hG; obtain ⟨g0, g1, g2⟩ := hG; go_simp; try with_reducible rfl)
                simp only [Act.put, List.setIfInBounds_toArray, List.set]
                refine wpAnyK_take (i := 16) (v := ?_) rfl (by kernel_rfl) (by decide) (by kernel_rfl) (by kernel_rfl) (by kernel_rfl) (fun _ _ _ h => h) (Or.inl ⟨by rfl, ?_⟩) hG0 ?_
                rotate_left
                · (intro wG hG; obtain ⟨g0, g1, g2⟩ := hG; go_simp; try with_reducible rfl)
                simp only [Act.put, List.setIfInBounds_toArray, List.set]
                refine wpAnyK_take (i := 17) (v := ?_) rfl (by kernel_rfl) (by decide) (by kernel_rfl) (by kernel_rfl) (by kernel_rfl) (fun _ _ _ h => h) (Or.inl ⟨by rfl, ?_⟩) hG0 ?_
                rotate_left
                · (intro wG hG; obtain ⟨g0, g1, g2⟩ := hG; go_simp; try with_reducible rfl)
                simp only [Act.put, List.setIfInBounds_toArray, List.set]
                refine wpAnyK_take (i := 18) (v := ?_) rfl (by kernel_rfl) (by decide) (by kernel_rfl) (by kernel_rfl) (by kernel_rfl) (fun _ _ _ h => h) (Or.inl ⟨by rfl, ?_⟩) hG0 ?_
                rotate_left
                · (intro wG hG; obtain ⟨g0, g1, g2⟩ := hG; go_simp; try with_reducible rfl)
                simp only [Act.put, List.setIfInBounds_toArray, List.set]
                refine wpAnyK_take (i := 19) (v := ?_) rfl (by kernel_rfl) (by decide) (by kernel_rfl) (by kernel_rfl) (by kernel_rfl) (fun _ _ _ h => h) (Or.inl ⟨by rfl, ?_⟩) hG0 ?_
                rotate_left
                · (intro wG hG; obtain ⟨g0, g1, g2⟩ := hG; go_simp; try with_reducible rfl)
                simp only [Act.put, List.setIfInBounds_toArray, List.set]
                refine wpAnyK_take (i := 20) (v := ?_) rfl (by kernel_rfl) (by decide) (by kernel_rfl) (by kernel_rfl) (by kernel_rfl) (fun _ _ _ h => h) (Or.inl ⟨by rfl, ?_⟩) hG0 ?_
                rotate_left
                · (intro wG hG; obtain ⟨g0, g1, g2⟩ := hG; go_simp; try with_reducible rfl)
                simp only [Act.put, List.setIfInBounds_toArray, List.set]
                refine wpAnyK_take (i := 21) (v := ?_) rfl (by kernel_rfl) (by decide) (by kernel_rfl) (by kernel_rfl) (by kernel_rfl) (fun _ _ _ h => h) (Or.inl ⟨by rfl, ?_⟩) hG0 ?_
                rotate_left
                · (intro wG hG; obtain ⟨g0, g1, g2⟩ := hG; go_simp; try with_reducible rfl)
                simp only [Act.put, List.setIfInBounds_toArray, List.set]
                refine wpAnyK_take (i := 22) (v := ?_) rfl (by kernel_rfl) (by decide) (by kernel_rfl) (by kernel_rfl) (by kernel_rfl) (fun _ _ _ h => h) (Or.inl ⟨by rfl, ?_⟩) hG0 ?_
                rotate_left
                · (intro wG hG; obtain ⟨g0, g1, g2⟩ := hG; go_simp; try with_reducible rfl)
                simp only [Act.put, List.setIfInBounds_toArray, List.set]
                refine wpAnyK_one (i := 23) (by kernel_rfl) rfl (by rfl) ?_
                go_simp
                refine ⟨⟨hc0a _, h1a _, h2a _⟩, ?_⟩
                refine wpAnyK_one (i := 24) (by kernel_rfl) rfl (by rfl) ?_
                refine wp_append_row (w0 := w0) b (.tmp 86) (.tmp 97) 47 58 _ 4 32 (by rfl) Try.underlying47 info58' (by rfl) (by decide) (by decide) (.slice gA (n + t) gc) (n + t) (reps n (pL m) ++ reps t (pL (m + 1))) (pL (m + 1)) (by rfl) (by rfl) (by rfl) (fun u hu => by simp only [pL, List.mem_cons, List.not_mem_nil, or_false] at hu; rcases hu with rfl | rfl | rfl | rfl <;> rfl) HE.out.2.2.2.1.go HE.out.1.bel (Nat.le_trans hb0 HE.out.1.bel.size) (by omega) ?_
                intro v1 w1 hv1 hB1 hg1 ho1 hat1
                obtain ⟨A1, n1, k1, rfl, hq0, hq3, hq1, hf1, hst⟩ := st_growL HE.out.1 rfl HE.out.2.2.1 hn htR HE.out.2.2.2.1 hv1 hB1 hg1 ho1 hat1
                have hG1 : GrowL kb gr i ls.length kl gA (n + t) gc m w1 := ⟨hq0, hq1, hq3⟩
                have hq2 : w1.cell? ⟨gr, i * 3 + 1, none⟩ = some (.slice gA (n + t) gc) := hq1
                have HST := Aside0.mk hst
                clear hst hv1 hB1 hg1 ho1 hat1 hq0 hq1 hq3
                refine ⟨fun _ => hG1, ?_⟩
                simp only [Act.put, List.setIfInBounds_toArray, List.set]
                refine wpAnyK_one (i := 25) (by kernel_rfl) rfl (by rfl) ?_
                go_simp
                refine wpAnyK_one (i := 26) (by kernel_rfl) rfl (by rfl) ?_
                go_simp
                refine wpAnyK_one (i := 27) (by kernel_rfl) rfl (by rfl) ?_
                go_simp
                refine ⟨by kernel_rfl, ?_⟩
                clear hG1 hq2 hf1 hc0a h1a h2a hkg h0 h1 h2 hc0
                go_wp2
                go_roundg q
                case measure => omega
                case rel =>
                  refine ⟨j + 1, by go_num, by omega, ⟨?_⟩⟩
                  obtain ⟨c2, h2⟩ := HST.out
                  exact ⟨c2, _, _, HE.out.2.2.2.2, Like.set HE.out.2.1 HE.out.2.2.1 _, h2⟩
    | succ k =>
      have hi : i < rs.length := by omega
      have hi2 : (i : Int) < (rs.length : Int) := by omega
      obtain ⟨M, hM⟩ : ∃ M : Nat, M = if i < 64 then 64 else 2 := ⟨_, rfl⟩
      have hM2 : 2 ≤ M ∧ M ≤ 64 := by rw [hM]; split <;> omega
      have HMM := Aside0.mk hM
      clear hM
      go_wp2
      clear hc0
      go_loopg [3] M (fun q v3 w' => ∃ j : Nat, v3 = .int .i64 j ∧ j + q = M ∧ Aside0 (∃ c' rs', Like rs rs' ∧ Store b w0 w' c' (stS b kb (R + 64 * i + j) ⟨Ar, rs.length, kr⟩ ⟨Al, ls.length, kl⟩ rs' ls X)))
      case atStart => exact ⟨0, rfl, by omega, HS⟩
      case round =>
        clear HS
        obtain ⟨j, rfl, hjq, HS⟩ := hrel
        cases gk with
        | zero =>
          obtain rfl : j = M := by omega
          have e1 : decide ((j : Int) < 2) = false := by simp; omega
          by_cases hi64 : i < 64
          · have hj64 : j = 64 := by rw [HMM.out, if_pos hi64]
            have e2 : decide ((i : Int) < 64) = true := by simp; omega
            have e3 : decide ((j : Int) < 64) = false := by simp; omega
            have HJ := Aside0.mk hj64
            clear hj64 hM2
            go_wp2
            go_roundg k
            case measure => omega
            case rel => exact ⟨i + 1, by go_num, by omega, by have := HJ.out; rw [show R + 64 * (i + 1) = R + 64 * i + j from by omega]; exact HS⟩
          · have hj64 : j ≤ 64 := by omega
            have e2 : decide ((i : Int) < 64) = false := by simp; omega
            clear hM2
            go_wp2
            go_roundg k
            case measure => omega
            case rel =>
              refine ⟨i + 1, by go_num, by omega, ⟨?_⟩⟩
              obtain ⟨c1, rs1, h1, h2⟩ := HS.out
              exact ⟨c1, rs1, h1, st_mono (by omega) h2⟩
        | succ q =>
          have hj : j < M := by omega
          have hG : Aside0 (decide ((j : Int) < 2) = true ∨ decide ((j : Int) < 2) = false ∧ decide ((i : Int) < 64) = true ∧ decide ((j : Int) < 64) = true) := by
            constructor
            by_cases h2 : j < 2
            · left; simp; omega
            · right
              have hM3 := HMM.out
              have hi64 : i < 64 := by
                by_cases h : i < 64
                · exact h
                · rw [if_neg h] at hM3; omega
              simp; omega
          obtain ⟨c1, rs1, hL, hS⟩ := HS.out
          have hrl : rs1.length = rs.length := hL.1
          obtain ⟨r, hr⟩ : ∃ r, rs1[i]? = some r := ⟨_, List.getElem?_eq_getElem (by omega)⟩
          obtain ⟨gr, cap, e, hcap, h0, h1, h2, n, t, htR, hn, hE⟩ := st_entry hS hr
          injection e with e1 e2 e3
          subst e1 e3
          obtain ⟨hm0, hm1⟩ := hL.mark (p := fun m => 0 ≤ m ∧ m ≤ 200) HM.out r (List.mem_of_getElem? hr)
          obtain ⟨⟨lA, ln, lc⟩, ⟨gA, gn, gc⟩, m⟩ := r
          obtain rfl : gn = n + t := hE.gn
          replace h0 : wr.cell? ⟨gr, i * 3, none⟩ = some (.slice lA ln lc) := h0
          replace h1 : wr.cell? ⟨gr, i * 3 + 1, none⟩ = some (.slice gA (n + t) gc) := h1
          replace h2 : wr.cell? ⟨gr, i * 3 + 2, none⟩ = some (.int .u8 m) := h2
          replace hm0 : 0 ≤ m := hm0
          replace hm1 : m ≤ 200 := hm1
          have hc0 : wr.cell? ⟨kb, 0, none⟩ = some (.slice (some ⟨gr, 0, none⟩) rs.length kr) := by rw [blk_cell (st_book hS).1]; rfl
          have hnt : n + t ≤ 2000000000000 := by omega
          have hS' := hS.below hb0 (below_drew (Below.refl _ _))
          have hE' := Ent.drew hE
          have hw8 : IntKind.u8.wrap (m + 1) = m + 1 := IntWalk.u8_in _ (by omega)
          have HE := Aside0.mk (And.intro hS' (And.intro hL (And.intro hr hE')))
          clear hS' hE' hE hr hL hS e2 hrl HS
          have hi0 : (0 : Int) ≤ (i : Int) := by omega
          have hrg : wr.drew.heap[gr]? = wr.heap[gr]? := rfl
          have hc0a : ∀ o, (wr.alloc o).cell? ⟨kb, 0, none⟩ = some (.slice (some ⟨gr, 0, none⟩) rs.length kr) := fun o => pw_cell_below (below_alloc (Below.refl _ _) o) hc0
          have h2a : ∀ o, (wr.alloc o).cell? ⟨gr, i * 3 + 2, none⟩ = some (.int .u8 m) := fun o => pw_cell_below (below_alloc (Below.refl _ _) o) h2
          have h1a : ∀ o, (wr.alloc o).cell? ⟨gr, i * 3 + 1, none⟩ = some (.slice gA (n + t) gc) := fun o => pw_cell_below (below_alloc (Below.refl _ _) o) h1
          have hkg : kb ≠ gr := by
            intro e
            have h3 := (st_book HE.out.1).2.2
            have h4 := (st_rows HE.out.1).2.1 gr rfl
            rw [e, h4] at h3
            cases h3
          have hG0 : GrowS kb gr i rs.length kr gA (n + t) gc m wr.drew := ⟨hc0, h1, h2⟩
          rcases hG.out with e1 | ⟨e1, e2, e3⟩
          all_goals clear hG
          all_goals go_wp2
          all_goals
            refine wp_region_K (GrowS kb gr i rs.length kr gA (n + t) gc m) 26 (by kernel_rfl) ?_
            refine wpAnyK_take (i := 0) (v := ?_) rfl (by kernel_rfl) (by decide) (by kernel_rfl) (by kernel_rfl) (by kernel_rfl) (fun _ _ _ h => h) (Or.inl ⟨by rfl, ?_⟩) hG0 ?_
            rotate_left
            · (intro wG hG; obtain ⟨g0, g1, g2⟩ := hG; go_simp; try with_reducible rfl)
            simp only [Act.put, List.setIfInBounds_toArray, List.set]
            refine wpAnyK_take (i := 1) (v := ?_) rfl (by kernel_rfl) (by decide) (by kernel_rfl) (by kernel_rfl) (by kernel_rfl) (fun _ _ _ h => h) (Or.inl ⟨by rfl, ?_⟩) hG0 ?_
            rotate_left
            · (intro wG hG; obtain ⟨g0, g1, g2⟩ := hG; go_simp; try with_reducible rfl)
            simp only [Act.put, List.setIfInBounds_toArray, List.set]
            refine wpAnyK_take (i := 2) (v := ?_) rfl (by kernel_rfl) (by decide) (by kernel_rfl) (by kernel_rfl) (by kernel_rfl) (fun _ _ _ h => h) (Or.inl ⟨by rfl, ?_⟩) hG0 ?_
            rotate_left
            · (intro wG hG; obtain ⟨g0, g1, g2⟩ := hG; go_simp; try with_reducible rfl)
            simp only [Act.put, List.setIfInBounds_toArray, List.set]
            refine wpAnyK_take (i := 3) (v := ?_) rfl (by kernel_rfl) (by decide) (by kernel_rfl) (by kernel_rfl) (by kernel_rfl) (fun _ _ _ h => h) (Or.inl ⟨by rfl, ?_⟩) hG0 ?_
            rotate_left
            · (intro wG hG; obtain ⟨g0, g1, g2⟩ := hG; go_simp; try with_reducible rfl)
            simp only [Act.put, List.setIfInBounds_toArray, List.set]
            refine wpAnyK_take (i := 4) (v := ?_) rfl (by kernel_rfl) (by decide) (by kernel_rfl) (by kernel_rfl) (by kernel_rfl) (fun _ _ _ h => h) (Or.inl ⟨by rfl, ?_⟩) hG0 ?_
            rotate_left
            · (intro wG hG; obtain ⟨g0, g1, g2⟩ := hG; go_simp; try with_reducible rfl)
            simp only [Act.put, List.setIfInBounds_toArray, List.set]
            refine wpAnyK_take (i := 5) (v := ?_) rfl (by kernel_rfl) (by decide) (by kernel_rfl) (by kernel_rfl) (by kernel_rfl) (fun _ _ _ h => h) (Or.inl ⟨by rfl, ?_⟩) hG0 ?_
            rotate_left
            · (intro wG hG; obtain ⟨g0, g1, g2⟩ := hG; go_simp; try with_reducible rfl)
            simp only [Act.put, List.setIfInBounds_toArray, List.set]
            refine wpAnyK_take (i := 6) (v := ?_) rfl (by kernel_rfl) (by decide) (by kernel_rfl) (by kernel_rfl) (by kernel_rfl) (fun _ _ _ h => h) (Or.inl ⟨by rfl, ?_⟩) hG0 ?_
            rotate_left
            · (intro wG hG; obtain ⟨g0, g1, g2⟩ := hG; go_simp; try with_reducible rfl)
            simp only [Act.put, List.setIfInBounds_toArray, List.set]
            refine wpAnyK_take (i := 7) (v := ?_) rfl (by kernel_rfl) (by decide) (by kernel_rfl) (by kernel_rfl) (by kernel_rfl) (fun _ _ _ h => h) (Or.inl ⟨by rfl, ?_⟩) hG0 ?_
            rotate_left
            · (intro wG hG; obtain ⟨g0, g1, g2⟩ := hG; go_simp; try with_reducible rfl)
            simp only [Act.put, List.setIfInBounds_toArray, List.set]
            refine wpAnyK_take (i := 8) (v := ?_) rfl (by kernel_rfl) (by decide) (by kernel_rfl) (by kernel_rfl) (by kernel_rfl) (fun _ _ _ h => h) (Or.inl ⟨by rfl, ?_⟩) hG0 ?_
            rotate_left
            · (intro wG hG; obtain ⟨g0, g1, g2⟩ := hG; go_simp; try with_reducible rfl)
            simp only [Act.put, List.setIfInBounds_toArray, List.set]
            refine wpAnyK_take (i := 9) (v := ?_) rfl (by kernel_rfl) (by decide) (by kernel_rfl) (by kernel_rfl) (by kernel_rfl) (fun _ _ _ h => h) (Or.inl ⟨by rfl, ?_⟩) hG0 ?_
            rotate_left
            · (intro wG hG; obtain ⟨g0, g1, g2⟩ := hG; go_simp; try with_reducible rfl)
            simp only [Act.put, List.setIfInBounds_toArray, List.set]
            refine wpAnyK_take (i := 10) (v := ?_) rfl (by kernel_rfl) (by decide) (by kernel_rfl) (by kernel_rfl) (by kernel_rfl) (fun _ _ _ h => h) (Or.inl ⟨by rfl, ?_⟩) hG0 ?_
            rotate_left
            · (intro wG hG; obtain ⟨g0, g1, g2⟩ := hG; go_simp; try with_reducible rfl)
            simp only [Act.put, List.setIfInBounds_toArray, List.set]
            refine wpAnyK_take (i := 11) (v := ?_) rfl (by kernel_rfl) (by decide) (by kernel_rfl) (by kernel_rfl) (by kernel_rfl) (fun _ _ _ h => h) (Or.inl ⟨by rfl, ?_⟩) hG0 ?_
            rotate_left
            · (intro wG hG; obtain ⟨g0, g1, g2⟩ := hG; go_simp; try with_reducible rfl)
            simp only [Act.put, List.setIfInBounds_toArray, List.set]
            refine wpAnyK_take (i := 12) (v := ?_) rfl (by kernel_rfl) (by decide) (by kernel_rfl) (by kernel_rfl) (by kernel_rfl) (fun _ _ _ h => h) (Or.inl ⟨by rfl, ?_⟩) hG0 ?_
            rotate_left
            · (intro wG hG; obtain ⟨g0, g1, g2⟩ := hG; go_simp; try with_reducible rfl)
            simp only [Act.put, List.setIfInBounds_toArray, List.set]
            refine wpAnyK_take (i := 13) (v := ?_) rfl (by kernel_rfl) (by decide) (by kernel_rfl) (by kernel_rfl) (by kernel_rfl) (fun _ _ _ h => h) (Or.inl ⟨by rfl, ?_⟩) hG0 ?_
            rotate_left
            · (intro wG hG; obtain ⟨g0, g1, g2⟩ := hG; go_simp; try with_reducible rfl)
            simp only [Act.put, List.setIfInBounds_toArray, List.set]
            refine wpAnyK_take (i := 14) (v := ?_) rfl (by kernel_rfl) (by decide) (by kernel_rfl) (by kernel_rfl) (by kernel_rfl) (fun _ _ _ h => h) (Or.inl ⟨by rfl, ?_⟩) hG0 ?_
            rotate_left
            · (intro wG hG; obtain ⟨g0, g1, g2⟩ := hG; go_simp; try with_reducible rfl)
            simp only [Act.put, List.setIfInBounds_toArray, List.set]
            refine wpAnyK_take (i := 15) (v := ?_) rfl (by kernel_rfl) (by decide) (by kernel_rfl) (by kernel_rfl) (by kernel_rfl) (fun _ _ _ h => h) (Or.inl ⟨by rfl, ?_⟩) hG0 ?_
            rotate_left
            · (intro wG hG; obtain ⟨g0, g1, g2⟩ := hG; go_simp; try with_reducible rfl)
            simp only [Act.put, List.setIfInBounds_toArray, List.set]
            refine wpAnyK_take (i := 16) (v := ?_) rfl (by kernel_rfl) (by decide) (by kernel_rfl) (by kernel_rfl) (by kernel_rfl) (fun _ _ _ h => h) (Or.inl ⟨by rfl, ?_⟩) hG0 ?_
            rotate_left
            · (intro wG hG; obtain ⟨g0, g1, g2⟩ := hG; go_simp; try with_reducible rfl)
            simp only [Act.put, List.setIfInBounds_toArray, List.set]
            refine wpAnyK_take (i := 17) (v := ?_) rfl (by kernel_rfl) (by decide) (by kernel_rfl) (by kernel_rfl) (by kernel_rfl) (fun _ _ _ h => h) (Or.inl ⟨by rfl, ?_⟩) hG0 ?_
            rotate_left
            · (intro wG hG; obtain ⟨g0, g1, g2⟩ := hG; go_simp; try with_reducible rfl)
            simp only [Act.put, List.setIfInBounds_toArray, List.set]
            refine wpAnyK_take (i := 18) (v := ?_) rfl (by kernel_rfl) (by decide) (by kernel_rfl) (by kernel_rfl) (by kernel_rfl) (fun _ _ _ h => h) (Or.inl ⟨by rfl, ?_⟩) hG0 ?_
            rotate_left
            · (intro wG hG; obtain ⟨g0, g1, g2⟩ := hG; go_simp; try with_reducible rfl)
            simp only [Act.put, List.setIfInBounds_toArray, List.set]
            refine wpAnyK_take (i := 19) (v := ?_) rfl (by kernel_rfl) (by decide) (by kernel_rfl) (by kernel_rfl) (by kernel_rfl) (fun _ _ _ h => h) (Or.inl ⟨by rfl, ?_⟩) hG0 ?_
            rotate_left
            · (intro wG hG; obtain ⟨g0, g1, g2⟩ := hG; go_simp; try with_reducible rfl)
            simp only [Act.put, List.setIfInBounds_toArray, List.set]
            refine wpAnyK_take (i := 20) (v := ?_) rfl (by kernel_rfl) (by decide) (by kernel_rfl) (by kernel_rfl) (by kernel_rfl) (fun _ _ _ h => h) (Or.inl ⟨by rfl, ?_⟩) hG0 ?_
            rotate_left
            · (intro wG hG; obtain ⟨g0, g1, g2⟩ := hG; go_simp; try with_reducible rfl)
            simp only [Act.put, List.setIfInBounds_toArray, List.set]
            refine wpAnyK_take (i := 21) (v := ?_) rfl (by kernel_rfl) (by decide) (by kernel_rfl) (by kernel_rfl) (by kernel_rfl) (fun _ _ _ h => h) (Or.inl ⟨by rfl, ?_⟩) hG0 ?_
            rotate_left
            · (intro wG hG; obtain ⟨g0, g1, g2⟩ := hG; go_simp; try with_reducible rfl)
            simp only [Act.put, List.setIfInBounds_toArray, List.set]
            refine wpAnyK_one (i := 22) (by kernel_rfl) rfl (by rfl) ?_
            go_simp
            refine ⟨⟨hc0a _, h1a _, h2a _⟩, ?_⟩
            refine wpAnyK_one (i := 23) (by kernel_rfl) rfl (by rfl) ?_
            refine wp_append_row (w0 := w0) b (.tmp 39) (.tmp 49) 22 5 _ 1 1 (by rfl) Try.underlying22 info5' (by rfl) (by decide) (by decide) (.slice gA (n + t) gc) (n + t) (reps n (pB m) ++ reps t (pB (m + 1))) (pB (m + 1)) (by rfl) (by rfl) (by rfl) (fun u hu => by simp only [pB, List.mem_cons, List.not_mem_nil, or_false] at hu; subst hu; rfl) HE.out.2.2.2.go HE.out.1.bel (Nat.le_trans hb0 HE.out.1.bel.size) (by omega) ?_
            intro v1 w1 hv1 hB1 hg1 ho1 hat1
            obtain ⟨A1, n1, k1, rfl, hq0, hq3, hq1, hf1, hst⟩ := st_grow HE.out.1 rfl HE.out.2.2.1 hn htR HE.out.2.2.2 hv1 hB1 hg1 ho1 hat1
            have hG1 : GrowS kb gr i rs.length kr gA (n + t) gc m w1 := ⟨hq0, hq1, hq3⟩
            have hq2 : w1.cell? ⟨gr, i * 3 + 1, none⟩ = some (.slice gA (n + t) gc) := hq1
            have HST := Aside0.mk hst
            clear hst hv1 hB1 hg1 ho1 hat1 hq0 hq1 hq3
            refine ⟨fun _ => hG1, ?_⟩
            simp only [Act.put, List.setIfInBounds_toArray, List.set]
            refine wpAnyK_one (i := 24) (by kernel_rfl) rfl (by rfl) ?_
            go_simp
            refine wpAnyK_one (i := 25) (by kernel_rfl) rfl (by rfl) ?_
            go_simp
            refine wpAnyK_one (i := 26) (by kernel_rfl) rfl (by rfl) ?_
            go_simp
            refine ⟨by kernel_rfl, ?_⟩
            clear hG1 hq2 hf1 hc0a h1a h2a hkg h0 h1 h2 hc0
            go_wp2
            go_roundg q
            case measure => omega
            case rel =>
              refine ⟨j + 1, by go_num, by omega, ⟨?_⟩⟩
              obtain ⟨c2, h2⟩ := HST.out
              exact ⟨c2, _, Like.set HE.out.2.1 HE.out.2.2.1 _, h2⟩
end Go.Proofs.Ytoefligelajfkaa.Own

namespace Go.Proofs.Ytoefligelajfkaa.Block
open Go.RowKit Go.Proofs.YtoefligelajfkaaW.PrintWords Go.Proofs.YtoefligelajfkaaW.PrintLast Go.Proofs.YtoefligelajfkaaW.PrintMore Go.Proofs.Ytoefligelajfkaa.Press
open Go.Proofs.Ytoefligelajfkaa.PBlockOpens (S58 k58 z58 k58_open k58_mk k58_mkM k58_openM rd_T58 at_T58 block_isSize.f block_isSize.calls)

/-- The piece that stands at a place. -/
def pieceAt (l : List Int) (size at_ : Nat) : List Int := (l.drop at_).take (min size (l.length - at_))
theorem pieceAt_length (l : List Int) (size at_ : Nat) : (pieceAt l size at_).length = min size (l.length - at_) := by simp [pieceAt]
/-- What is left of a Pack. -/
def bpR (l : List Int) (size : Nat) : Nat → List Int → List S58 → Nat → List Int × List S58
  | 0, out, bl, _ => (out, bl)
  | k + 1, out, bl, at_ => if at_ < l.length then bpR l size k (out ++ pieceS (pieceAt l size at_)) (bl ++ [blockS out.length (pieceAt l size at_)]) (at_ + size) else (out, bl)
def isSize (size : Int) : Prop := 16 ≤ size ∧ size ≤ 4096
instance (size : Int) : Decidable (isSize size) := inferInstanceAs (Decidable (_ ∧ _))
def bpackS (l : List Int) (size : Int) : List Int × List S58 × Int :=
  if ¬ isSize size then ([], [], 1) else if l.length > 65536 then ([], [], 2) else ((bpR l size.toNat l.length [] [] 0).1, (bpR l size.toNat l.length [] [] 0).2, 0)
theorem pieceS_length (l : List Int) : (pieceS l).length ≤ l.length := by unfold pieceS; split <;> omega

theorem isSize_f (size : Int) : block_isSize.f size = some (decide (isSize size)) := by
  unfold block_isSize.f isSize
  by_cases h : 16 ≤ size
  · rw [if_pos h]; simp [h]
  · rw [if_neg h]; simp [h]

theorem piece_C {w : World} {A : Option Addr} {l : List Int} (size at_ : Nat) (h : Kd.C (Kd.int .u8) w A l.length l) (hat : at_ < l.length) : Kd.C (Kd.int .u8) w (A.map fun x => x.add at_) (pieceAt l size at_).length (pieceAt l size at_) := by
  have h1 := Kd.C_drop (c := l.length) (m := at_) h (by omega) (Nat.le_refl _)
  rw [if_neg (by omega)] at h1
  rw [show (Kd.int .u8).sz = 1 from rfl, Nat.mul_one] at h1
  have h2 := Kd.C_take (m := min size (l.length - at_)) h1 (by simp; omega)
  simpa [pieceAt] using h2

structure BInv (w : World) (l : List Int) (size : Nat) (rs : List Int × List S58) (wr : World) (k : Nat) (out : List Int) (bl : List S58) (at_ : Nat) (vo vb : Value) : Prop where
  inv : LInv w w.heap.size w.heap.size (w.heap.size + 1) wr vo vb out bl
  fuel : l.length ≤ at_ + k
  run : bpR l size k out bl at_ = rs
  olen : out.length ≤ at_
  blen : bl.length ≤ at_
  at_le : at_ ≤ 70000

set_option maxHeartbeats 4000000 in
theorem bpack_walk (A0 : Option Addr) (c0 : Nat) (l0 : List Int) (size : Nat) (w : World) (hr0 : Kd.C (Kd.int .u8) w A0 l0.length l0) (hby : ∀ x ∈ l0, 0 ≤ x ∧ x ≤ 255) (hc0 : l0.length ≤ c0) (hl : l0.length ≤ 65536) (hs1 : 16 ≤ size) (hs2 : size ≤ 4096) :
    Calls Try.prog 31 #[.slice A0 l0.length c0, .int .i64 size] w fun e w' => ∃ vo vb, e = .returned (.tuple #[vo, vb, .int .i64 0]) ∧
      Kd.R (Kd.int .u8) 5 w' w.heap.size (fun _ => True) vo (bpR l0 size l0.length [] [] 0).1 ∧ k58.R 58 w' w.heap.size (fun _ => True) vb (bpR l0 size l0.length [] [] 0).2 ∧ Below w.heap.size w w' := by
  obtain ⟨rs, hrs⟩ : ∃ rs, bpR l0 size l0.length [] [] 0 = rs := ⟨_, rfl⟩
  rw [hrs]
  have HRS := Aside0.mk hrs
  have HR0 := Aside0.mk hr0
  clear hrs hr0
  have hz : block_isSize.f (size : Int) = some true := by rw [isSize_f, decide_eq_true (show isSize (size : Int) from ⟨by omega, by omega⟩)]
  have HZ := Aside0.mk hz
  clear hz
  have hl1 : (l0.length : Int) ≤ 65536 := by omega
  have hl2 : decide ((65536 : Int) < (l0.length : Int)) = false := by simp; omega
  have hl3 : decide (65536 < l0.length) = false := by simp; omega
  go_enter Try.func31, Try.ntmps31
  go_upto_region 9 with (go_at_call 55; refine (block_isSize.calls _ _ _ HZ.out).mono ?_; rintro e w1 ⟨rfl, ⟨nd, rfl⟩⟩)
  have hB0 : BInv w l0 size rs (((w.drewN nd).alloc (.cells #[.slice none 0 0] 22)).alloc (.cells #[.slice none 0 0] 47)) l0.length [] [] 0 (.slice none 0 0) (.slice none 0 0) := by
    refine ⟨⟨?_, ?_, Kd.R_nil _ _ _ _ _, Kd.R_nil _ _ _ _ _, Nat.le_refl _, Nat.le_succ _, below_alloc (below_alloc (pw_below_drewN (Below.refl _ _) _) _) _⟩, by omega, HRS.out, by simp, by simp, by omega⟩
    · have h1 := heap_alloc_new (w.drewN nd) (.cells #[.slice none 0 0] 22)
      have e : (w.drewN nd).heap.size = w.heap.size := by simp
      rw [e] at h1
      exact block_below (n := ((w.drewN nd).alloc (.cells #[.slice none 0 0] 22)).heap.size) ((Below.refl _ _).alloc (Nat.le_refl _) _) (by simp) h1
    · have h2 := heap_alloc_new ((w.drewN nd).alloc (.cells #[.slice none 0 0] 22)) (.cells #[.slice none 0 0] 47)
      have e : ((w.drewN nd).alloc (.cells #[.slice none 0 0] 22)).heap.size = w.heap.size + 1 := by simp
      rw [e] at h2
      exact h2
  have HB0 := Aside0.mk hB0
  clear hB0
  generalize ((w.drewN nd).alloc (.cells #[.slice none 0 0] 22)).alloc (.cells #[.slice none 0 0] 47) = w1 at HB0
  go_loopg [10] l0.length (fun k v10 w' => ∃ (at_ : Nat) (out : List Int) (bl : List S58) (vo vb : Value), v10 = .int .i64 at_ ∧ Aside0 (BInv w l0 size rs w' k out bl at_ vo vb))
  case atStart => exact ⟨0, [], [], _, _, rfl, HB0⟩
  case round =>
    clear HB0
    obtain ⟨at_, out, bl, vo, vb, rfl, HB⟩ := hrel
    have hat0 := HB.out.at_le
    by_cases hat : at_ < l0.length
    · have hat1 : (at_ : Int) < (l0.length : Int) := by omega
      obtain ⟨k, rfl⟩ : ∃ k, gk = k + 1 := ⟨gk - 1, by have := HB.out.fuel; omega⟩
      obtain ⟨en, hen⟩ : ∃ en : Nat, en = min (at_ + size) l0.length := ⟨_, rfl⟩
      have hmin : (if (l0.length : Int) < (at_ : Int) + (size : Int) then (l0.length : Int) else (at_ : Int) + (size : Int)) = (en : Int) := by split <;> omega
      have he1 : at_ ≤ en := by omega
      have he2 : en ≤ c0 := by omega
      have he3 : (at_ : Int) ≤ (en : Int) := by omega
      have he4 : (en : Int) ≤ (c0 : Int) := by omega
      have HEN := Aside0.mk hen
      clear hen
      obtain ⟨pc, hpc⟩ : ∃ pc, pc = pieceAt l0 size at_ := ⟨_, rfl⟩
      have hpl : pc.length = en - at_ := by rw [hpc, pieceAt_length, HEN.out]; omega
      have hpb : ∀ x ∈ pc, 0 ≤ x ∧ x ≤ 255 := by rw [hpc]; exact fun x hx => hby x (List.mem_of_mem_drop (List.mem_of_mem_take hx))
      have hpn : pc.length ≤ 4096 := by rw [hpc, pieceAt_length]; omega
      have hpC := piece_C (w := wr) size at_ (Kd.C_below HR0.out HB.out.inv.bel) hat
      rw [← hpc] at hpC
      have hrun := HB.out.run
      rw [bpR, if_pos hat, ← hpc] at hrun
      have hlay := lay_any w w.heap.size w.heap.size (w.heap.size + 1) _ (en - at_) pc wr vo vb out bl HB.out.inv hpC hpb hpn (by have := HB.out.olen; omega) (by have := HB.out.blen; omega)
      rw [hpl] at hlay
      have HLAY := Aside0.mk hlay
      have HRUN := Aside0.mk hrun
      have hps := pieceS_length pc
      have hpl2 : pc.length ≤ size := by rw [hpc, pieceAt_length]; omega
      clear hlay hrun hpC hpc hpb
      go_wp2_with (go_at_call 56; refine HLAY.out.mono ?_; rintro e w5 ⟨rfl, vo5, vb5, hI5⟩; have HI5 := Aside0.mk hI5; clear hI5)
      go_roundg k
      case measure => omega
      case rel =>
        exact ⟨at_ + size, _, _, vo5, vb5, by go_num, ⟨⟨HI5.out, by have := HB.out.fuel; omega, HRUN.out, by have := HB.out.olen; simp; omega, by have := HB.out.blen; simp; omega, by omega⟩⟩⟩
    · have hat1 : (l0.length : Int) ≤ (at_ : Int) := by omega
      have hr := HB.out.run
      have : bpR l0 size gk out bl at_ = (out, bl) := by cases gk <;> simp [bpR, hat]
      rw [this] at hr
      subst hr
      clear this
      obtain ⟨Ao, ko, rfl⟩ := Kd.R_slice HB.out.inv.ro
      obtain ⟨Ab, kb, rfl⟩ := Kd.R_slice HB.out.inv.rb
      have hco := cell_of_one HB.out.inv.bo
      have hcb := cell_of_one HB.out.inv.bb
      go_wp2
      go_quiet (fail)
      go_wp2
      go_ret3
      exact ⟨_, _, rfl, Kd.R_drewN HB.out.inv.ro _, Kd.R_drewN HB.out.inv.rb _, pw_below_drewN HB.out.inv.bel _⟩

/-- block.Pack of any row and size. -/
theorem bpack_any (A0 : Option Addr) (c0 : Nat) (l0 : List Int) (size : Int) (w : World) (hr0 : Kd.C (Kd.int .u8) w A0 l0.length l0) (hby : ∀ x ∈ l0, 0 ≤ x ∧ x ≤ 255) (hc0 : l0.length ≤ c0) (hl : l0.length ≤ 140737488355328) :
    Calls Try.prog 31 #[.slice A0 l0.length c0, .int .i64 size] w fun e w' => ∃ vo vb, e = .returned (.tuple #[vo, vb, .int .i64 (bpackS l0 size).2.2]) ∧
      Kd.R (Kd.int .u8) 5 w' w.heap.size (fun _ => True) vo (bpackS l0 size).1 ∧ k58.R 58 w' w.heap.size (fun _ => True) vb (bpackS l0 size).2.1 ∧ Below w.heap.size w w' := by
  by_cases hs : isSize size
  · by_cases hb : l0.length > 65536
    · have e : bpackS l0 size = ([], [], 2) := by unfold bpackS; rw [if_neg (fun h => h hs), if_pos hb]
      rw [e]
      have hz : block_isSize.f size = some true := by rw [isSize_f, decide_eq_true hs]
      have hl1 : (65536 : Int) < (l0.length : Int) := by omega
      go_enter Try.func31, Try.ntmps31
      go_wp2_with (go_at_call 55; refine (block_isSize.calls _ _ _ hz).mono ?_; rintro e w1 ⟨rfl, ⟨nd, rfl⟩⟩)
      go_ret3
      exact ⟨_, _, rfl, Kd.R_nil _ _ _ _ _, Kd.R_nil _ _ _ _ _, pw_below_drewN (Below.refl _ _) _⟩
    · have hs' := hs
      obtain ⟨h1, h2⟩ := hs'
      obtain ⟨n, rfl⟩ := Int.eq_ofNat_of_zero_le (a := size) (by omega)
      have e : bpackS l0 (n : Int) = ((bpR l0 n l0.length [] [] 0).1, (bpR l0 n l0.length [] [] 0).2, 0) := by unfold bpackS; rw [if_neg (fun h => h hs), if_neg hb, Int.toNat_natCast]
      rw [e]
      exact bpack_walk A0 c0 l0 n w hr0 hby hc0 (by omega) (by omega) (by omega)
  · have e : bpackS l0 size = ([], [], 1) := by unfold bpackS; rw [if_pos hs]
    rw [e]
    have hz : block_isSize.f size = some false := by rw [isSize_f, decide_eq_false hs]
    go_enter Try.func31, Try.ntmps31
    go_wp2_with (go_at_call 55; refine (block_isSize.calls _ _ _ hz).mono ?_; rintro e w1 ⟨rfl, ⟨nd, rfl⟩⟩)
    go_ret3
    exact ⟨_, _, rfl, Kd.R_nil _ _ _ _ _, Kd.R_nil _ _ _ _ _, pw_below_drewN (Below.refl _ _) _⟩
end Go.Proofs.Ytoefligelajfkaa.Block

namespace Go.Proofs.Ytoefligelajfkaa.Block
open Go.RowKit Go.Proofs.YtoefligelajfkaaW.PrintWords Go.Proofs.Ytoefligelajfkaa.PBlockOpens

/-- What Valid asks of one block: so many bytes of the row are left, and it stands there. -/
structure vOk (size row at_ : Int) (b : S58) : Prop where
  raw : b.f2 = min size row
  lo : 1 ≤ b.f1
  hi : b.f1 ≤ min size row
  s0 : 0 ≤ b.f3
  s1 : b.f3 ≤ 4294967295
  pos : b.f0 = at_
  a0 : 0 ≤ at_
  a1 : at_ ≤ 2147483647
theorem vOk_iff (size row at_ : Int) (b : S58) : vOk size row at_ b ↔ (b.f2 = min size row ∧ 1 ≤ b.f1 ∧ b.f1 ≤ min size row ∧ 0 ≤ b.f3 ∧ b.f3 ≤ 4294967295 ∧ b.f0 = at_ ∧ 0 ≤ at_ ∧ at_ ≤ 2147483647) :=
  ⟨fun ⟨a, b, c, d, e, f, g, h⟩ => ⟨a, b, c, d, e, f, g, h⟩, fun ⟨a, b, c, d, e, f, g, h⟩ => ⟨a, b, c, d, e, f, g, h⟩⟩
instance (size row at_ : Int) (b : S58) : Decidable (vOk size row at_ b) := decidable_of_iff _ (vOk_iff size row at_ b).symm

def validR (size : Int) : List S58 → Int → Int → Bool
  | [], _, _ => true
  | b :: t, row, at_ => decide (vOk size row at_ b) && validR size t (row - min size row) (at_ + b.f1)
def validS (bl : List S58) (row size : Int) : Bool :=
  if row < 0 ∨ row > 65536 ∨ ¬ isSize size ∨ (bl.length : Int) ≠ (row + size - 1) / size then false else validR size bl row (bl.headD z58).f0

theorem validR_ok {size row at_ : Int} {b : S58} {t : List S58} (h : vOk size row at_ b) : validR size (b :: t) row at_ = validR size t (row - min size row) (at_ + b.f1) := by rw [validR, decide_eq_true h, Bool.true_and]
theorem validR_no {size row at_ : Int} {b : S58} {t : List S58} (h : ¬ vOk size row at_ b) : validR size (b :: t) row at_ = false := by rw [validR, decide_eq_false h, Bool.false_and]
theorem drop_consB (l : List S58) (i : Nat) (h : i < l.length) : l.drop i = rd_T58 l (i : Int) :: l.drop (i + 1) := by
  rw [List.drop_eq_getElem_cons h, rd_T58, Int.toNat_natCast, List.getD_eq_getElem?_getD, List.getElem?_eq_getElem h]; rfl
end Go.Proofs.Ytoefligelajfkaa.Block

namespace Go.Proofs.Ytoefligelajfkaa.Block
open Go.RowKit Go.Proofs.YtoefligelajfkaaW.PrintWords Go.Proofs.YtoefligelajfkaaW.PrintLast Go.Proofs.YtoefligelajfkaaW.PrintMore Go.Proofs.Ytoefligelajfkaa.Press
open Go.Proofs.Ytoefligelajfkaa.PBlockOpens (S58 k58 z58 k58_open k58_mk k58_mkM k58_openM rd_T58 at_T58)

def badB (l : List Int) (b : S58) : Prop := b.f2 < 1 ∨ b.f2 > 4096 ∨ b.f1 < 1 ∨ b.f1 > b.f2 ∨ (l.length : Int) ≠ b.f1 ∨ (sumS l : Int) ≠ b.f3
instance (l : List Int) (b : S58) : Decidable (badB l b) := inferInstanceAs (Decidable (_ ∨ _))
/-- What Open answers. -/
def openS (l : List Int) (b : S58) : List Int × Int :=
  if badB l b then ([], 110) else if b.f1 = b.f2 then (l, 0) else if (unpackS l b.f2).2 ≠ 0 then ([], 110) else ((unpackS l b.f2).1, 0)

/-- The boxed block behind a call. -/
structure Boxed (w : World) (b : Nat) (x0 x1 x2 x3 : Int) : Prop where
  c0 : w.cell? ⟨b, 0, none⟩ = some (.int .i64 x0)
  c1 : w.cell? ⟨b, 1, none⟩ = some (.int .i64 x1)
  c2 : w.cell? ⟨b, 2, none⟩ = some (.int .i64 x2)
  c3 : w.cell? ⟨b, 3, none⟩ = some (.int .i64 x3)
theorem Boxed.of {w : World} {b : Nat} {x0 x1 x2 x3 : Int} (h : w.heap[b]? = some (.cells #[.int .i64 x0, .int .i64 x1, .int .i64 x2, .int .i64 x3] 58 (0, 0))) : Boxed w b x0 x1 x2 x3 := by
  constructor <;> simp [World.cell?, h]
theorem boxed_below {w w5 : World} {x0 x1 x2 x3 : Int} (hb5 : Below ((w.alloc (.cells #[.int .i64 x0, .int .i64 x1, .int .i64 x2, .int .i64 x3] 58)).drew).heap.size ((w.alloc (.cells #[.int .i64 x0, .int .i64 x1, .int .i64 x2, .int .i64 x3] 58)).drew) w5) : Boxed w5 w.heap.size x0 x1 x2 x3 := by
  refine Boxed.of (block_below hb5 ?_ (heap_alloc_new w (.cells #[.int .i64 x0, .int .i64 x1, .int .i64 x2, .int .i64 x3] 58)))
  show w.heap.size < (w.alloc _).heap.size
  simp


theorem boxed_bel {w w5 : World} {o : Obj} (hb5 : Below ((w.alloc o).drew).heap.size ((w.alloc o).drew) w5) : Below w.heap.size w w5 :=
  bel_next (Below.drew ((Below.refl _ _).alloc (Nat.le_refl _) o)) (by show w.heap.size ≤ (w.alloc o).heap.size; simp) hb5

attribute [local go_sem ↓] Go.wp_at_zero Go.wp_at_succ
set_option maxHeartbeats 4000000 in
theorem bopen_sum (A0 : Option Addr) (c0 : Nat) (l0 : List Int) (n : Nat) (x0 x3 : Int) (ns : Nat) (w : World) (hr0 : Kd.C (Kd.int .u8) w A0 l0.length l0) (hby : ∀ x ∈ l0, 0 ≤ x ∧ x ≤ 255) (h1 : 1 ≤ l0.length) (h2 : l0.length ≤ n) (h3 : n ≤ 4096) (hns : sumS l0 = ns) (h6 : (ns : Int) ≠ x3) :
    Calls Try.prog 39 #[.slice A0 l0.length c0, .agg #[.int .i64 x0, .int .i64 l0.length, .int .i64 n, .int .i64 x3]] w fun e w' => e = .returned (.tuple #[.slice none 0 0, .int .i64 110]) ∧ Below w.heap.size w w' := by
  have HR0 := Aside0.mk hr0
  have HNS := Aside0.mk hns
  have g1 : decide ((n : Int) < 1) = false := by simp; omega
  have g2 : decide ((4096 : Int) < (n : Int)) = false := by simp; omega
  have g3 : decide ((l0.length : Int) < 1) = false := by simp; omega
  have g4 : decide ((n : Int) < (l0.length : Int)) = false := by simp; omega
  have g4b : decide (n < l0.length) = false := by simp; omega
  have g5 : ((l0.length : Int) != (l0.length : Int)) = false := by simp
  have g6 : ((ns : Int) != x3) = true := by simpa using h6
  clear hr0 hns h6
  go_enter Try.func39, Try.ntmps39
  go_wp2_with fail
  go_region_held3 (fun w' => w'.cell? ⟨w.heap.size, 1, none⟩ = some (.int .i64 l0.length) ∧ w'.cell? ⟨w.heap.size, 2, none⟩ = some (.int .i64 n) ∧ w'.cell? ⟨w.heap.size, 3, none⟩ = some (.int .i64 x3)) (go_keep)
    (first | (go_at_call 45; refine (sum_any _ _ _ _ (Kd.C_below HR0.out ((Below.refl _ _).alloc (Nat.le_refl _) _).drew) hby (by omega)).mono ?_; rw [HNS.out]; rintro e w5 ⟨rfl, hb5⟩; obtain ⟨b0, b1, b2, b3⟩ := boxed_below hb5))
  go_wp2
  go_ret2
  exact ⟨rfl, boxed_bel hb5⟩

set_option maxHeartbeats 4000000 in
theorem bopen_copy (A0 : Option Addr) (c0 : Nat) (l0 : List Int) (x0 : Int) (ns : Nat) (w : World) (hr0 : Kd.C (Kd.int .u8) w A0 l0.length l0) (hby : ∀ x ∈ l0, 0 ≤ x ∧ x ≤ 255) (h1 : 1 ≤ l0.length) (h3 : l0.length ≤ 4096) (hns : sumS l0 = ns) :
    Calls Try.prog 39 #[.slice A0 l0.length c0, .agg #[.int .i64 x0, .int .i64 l0.length, .int .i64 l0.length, .int .i64 ns]] w fun e w' => ∃ v, e = .returned (.tuple #[v, .int .i64 0]) ∧
      Kd.R (Kd.int .u8) 5 w' w.heap.size (fun _ => True) v l0 ∧ Below w.heap.size w w' := by
  have HR0 := Aside0.mk hr0
  have HNS := Aside0.mk hns
  have g1 : decide ((l0.length : Int) < 1) = false := by simp; omega
  have g2 : decide ((4096 : Int) < (l0.length : Int)) = false := by simp; omega
  have g3 : decide ((l0.length : Int) < 1) = false := by simp; omega
  have g4 : decide ((l0.length : Int) < (l0.length : Int)) = false := by simp
  have g4b : decide (l0.length < l0.length) = false := by simp
  have g5 : ((l0.length : Int) != (l0.length : Int)) = false := by simp
  clear hr0 hns
  go_enter Try.func39, Try.ntmps39
  go_wp2_with fail
  go_region_held3 (fun w' => w'.cell? ⟨w.heap.size, 1, none⟩ = some (.int .i64 l0.length) ∧ w'.cell? ⟨w.heap.size, 2, none⟩ = some (.int .i64 l0.length) ∧ w'.cell? ⟨w.heap.size, 3, none⟩ = some (.int .i64 ns)) (go_keep)
    (first | (go_at_call 45; refine (sum_any _ _ _ _ (Kd.C_below HR0.out ((Below.refl _ _).alloc (Nat.le_refl _) _).drew) hby (by omega)).mono ?_; rw [HNS.out]; rintro e w5 ⟨rfl, hb5⟩; obtain ⟨b0, b1, b2, b3⟩ := boxed_below hb5))
  have HB := Aside0.mk (boxed_bel hb5)
  go_wp2_with (first
        | (at_make; go_loud (refine Kd.R_make (Kd.int .u8) (w0 := w) w.heap.size 5 rfl rfl 22 _ _ rfl (l0.length : Int) rfl rfl Try.underlying22 (.int .u8 0) 1 info5 rfl (by decide) (by omega) 0 (ok := fun _ => True) (okp := fun _ => False) rfl (fun _ _ => trivial) trivial (by omega) (by simp; omega) HB.out HB.out.size ?_); intro v2 w2 ho2 hb2 hg2 hat2)
        | ((with_reducible refine gate_builtin (b := .copy) (xs := #[.tmp 51, .tmp 52]) rfl ?_); go_loud (refine Kd.R_copy (0 : Int) (w0 := w) w.heap.size rfl (.tmp 51) (.tmp 52) 22 22 5 rfl Try.underlying22 (by kernel_rfl) v2 (List.replicate l0.length 0) l0 A0 l0.length c0 (fun _ => True) rfl rfl ho2 (Kd.C_below HR0.out hb2) hb2 hb2.size ?_); intro w3 ho3 hb3 hg3))
  go_ret2
  have ho3' : Kd.R (Kd.int .u8) 5 w3 w.heap.size (fun _ => True) v2 l0 := by
    have e : l0.take (min l0.length (List.replicate l0.length (0 : Int)).length) ++ (List.replicate l0.length (0 : Int)).drop (min l0.length (List.replicate l0.length (0 : Int)).length) = l0 := by simp
    have h := ho3
    rw [e] at h
    exact h
  exact ⟨_, rfl, ho3', hb3⟩

set_option maxHeartbeats 4000000 in
theorem bopen_press (A0 : Option Addr) (c0 : Nat) (l0 : List Int) (n : Nat) (x0 : Int) (ns : Nat) (r : List Int × Int) (w : World) (hr0 : Kd.C (Kd.int .u8) w A0 l0.length l0) (hby : ∀ x ∈ l0, 0 ≤ x ∧ x ≤ 255) (h1 : 1 ≤ l0.length) (h2 : l0.length < n) (h3 : n ≤ 4096) (hns : sumS l0 = ns) (hu : unpackS l0 n = r) :
    Calls Try.prog 39 #[.slice A0 l0.length c0, .agg #[.int .i64 x0, .int .i64 l0.length, .int .i64 n, .int .i64 ns]] w fun e w' => ∃ v, e = .returned (.tuple #[v, .int .i64 (if r.2 = 0 then 0 else 110)]) ∧
      Kd.R (Kd.int .u8) 5 w' w.heap.size (fun _ => True) v (if r.2 = 0 then r.1 else []) ∧ Below w.heap.size w w' := by
  obtain ⟨r1, r2⟩ := r
  have HR0 := Aside0.mk hr0
  have HNS := Aside0.mk hns
  have g1 : decide ((n : Int) < 1) = false := by simp; omega
  have g2 : decide ((4096 : Int) < (n : Int)) = false := by simp; omega
  have g3 : decide ((l0.length : Int) < 1) = false := by simp; omega
  have g4 : decide ((n : Int) < (l0.length : Int)) = false := by simp; omega
  have g4b : decide (n < l0.length) = false := by simp; omega
  have g5 : ((l0.length : Int) != (l0.length : Int)) = false := by simp
  have HU := Aside0.mk hu
  have g7 : ((l0.length : Int) == (n : Int)) = false := by simp; omega
  have g7b : (l0.length == n) = false := by simp; omega
  clear hr0 hns hu
  by_cases h0 : r2 = 0
  · subst h0
    simp only [if_true]
    go_enter Try.func39, Try.ntmps39
    go_wp2_with fail
    go_region_held3 (fun w' => w'.cell? ⟨w.heap.size, 1, none⟩ = some (.int .i64 l0.length) ∧ w'.cell? ⟨w.heap.size, 2, none⟩ = some (.int .i64 n) ∧ w'.cell? ⟨w.heap.size, 3, none⟩ = some (.int .i64 ns)) (go_keep)
      (first | (go_at_call 45; refine (sum_any _ _ _ _ (Kd.C_below HR0.out ((Below.refl _ _).alloc (Nat.le_refl _) _).drew) hby (by omega)).mono ?_; rw [HNS.out]; rintro e w5 ⟨rfl, hb5⟩; obtain ⟨b0, b1, b2, b3⟩ := boxed_below hb5))
    have HB := Aside0.mk (boxed_bel hb5)
    go_wp2_with (first
      | (go_at_call 25; refine (unpack_any _ _ l0 n _ (Kd.C_below HR0.out HB.out) hby (by omega)).mono ?_; rw [HU.out]; rintro e w6 ⟨v6, rfl, hR6, hB6⟩; obtain ⟨A6, k6, rfl⟩ := Kd.R_slice hR6; have H6 := Aside0.mk (⟨hR6, hB6⟩ : _ ∧ _); clear hR6 hB6))
    go_ret2
    exact ⟨_, rfl, Kd.R_lower H6.out.1 HB.out.size, below_step HB.out H6.out.2⟩
  · have g8 : (r2 != 0) = true := by simpa using h0
    simp only [h0, if_false]
    clear h0
    go_enter Try.func39, Try.ntmps39
    go_wp2_with fail
    go_region_held3 (fun w' => w'.cell? ⟨w.heap.size, 1, none⟩ = some (.int .i64 l0.length) ∧ w'.cell? ⟨w.heap.size, 2, none⟩ = some (.int .i64 n) ∧ w'.cell? ⟨w.heap.size, 3, none⟩ = some (.int .i64 ns)) (go_keep)
      (first | (go_at_call 45; refine (sum_any _ _ _ _ (Kd.C_below HR0.out ((Below.refl _ _).alloc (Nat.le_refl _) _).drew) hby (by omega)).mono ?_; rw [HNS.out]; rintro e w5 ⟨rfl, hb5⟩; obtain ⟨b0, b1, b2, b3⟩ := boxed_below hb5))
    have HB := Aside0.mk (boxed_bel hb5)
    go_wp2_with (first
      | (go_at_call 25; refine (unpack_any _ _ l0 n _ (Kd.C_below HR0.out HB.out) hby (by omega)).mono ?_; rw [HU.out]; rintro e w6 ⟨v6, rfl, hR6, hB6⟩; obtain ⟨A6, k6, rfl⟩ := Kd.R_slice hR6; have H6 := Aside0.mk (⟨hR6, hB6⟩ : _ ∧ _); clear hR6 hB6))
    go_ret2
    exact ⟨_, rfl, Kd.R_nil _ _ _ _ _, below_step HB.out H6.out.2⟩
set_option maxHeartbeats 4000000 in
theorem bopen_any (A0 : Option Addr) (c0 : Nat) (l0 : List Int) (x0 x1 x2 x3 : Int) (w : World) (hr0 : Kd.C (Kd.int .u8) w A0 l0.length l0) (hby : ∀ x ∈ l0, 0 ≤ x ∧ x ≤ 255) (hl : l0.length ≤ 140737488355328) :
    Calls Try.prog 39 #[.slice A0 l0.length c0, .agg #[.int .i64 x0, .int .i64 x1, .int .i64 x2, .int .i64 x3]] w fun e w' => ∃ v, e = .returned (.tuple #[v, .int .i64 (openS l0 ⟨x0, x1, x2, x3⟩).2]) ∧
      Kd.R (Kd.int .u8) 5 w' w.heap.size (fun _ => True) v (openS l0 ⟨x0, x1, x2, x3⟩).1 ∧ Below w.heap.size w w' := by
  have HR0 := Aside0.mk hr0
  clear hr0
  by_cases h1 : x2 < 1
  · skip
    have hs : openS l0 ⟨x0, x1, x2, x3⟩ = ([], 110) := by unfold openS; rw [if_pos (.inl h1)]
    rw [hs]
    go_enter Try.func39, Try.ntmps39
    go_wp2
    go_quiet (fail)
    go_wp2
    go_ret2
    exact ⟨_, rfl, Kd.R_nil _ _ _ _ _, pw_below_drewN (below_alloc (Below.refl _ _) _) _⟩
  by_cases h2 : x2 > 4096
  · have g2 : (4096 : Int) < x2 := h2
    have g1 : decide (x2 < 1) = false := by simp; omega
    have hs : openS l0 ⟨x0, x1, x2, x3⟩ = ([], 110) := by unfold openS; rw [if_pos (.inr (.inl h2))]
    rw [hs]
    go_enter Try.func39, Try.ntmps39
    go_wp2
    go_quiet (fail)
    go_wp2
    go_ret2
    exact ⟨_, rfl, Kd.R_nil _ _ _ _ _, pw_below_drewN (below_alloc (Below.refl _ _) _) _⟩
  by_cases h3 : x1 < 1
  · have g1 : decide (x2 < 1) = false := by simp; omega
    have g2 : decide ((4096 : Int) < x2) = false := by simp; omega
    have hs : openS l0 ⟨x0, x1, x2, x3⟩ = ([], 110) := by unfold openS; rw [if_pos (.inr (.inr (.inl h3)))]
    rw [hs]
    go_enter Try.func39, Try.ntmps39
    go_wp2
    go_quiet (fail)
    go_wp2
    go_ret2
    exact ⟨_, rfl, Kd.R_nil _ _ _ _ _, pw_below_drewN (below_alloc (Below.refl _ _) _) _⟩
  by_cases h4 : x1 > x2
  · have g1 : decide (x2 < 1) = false := by simp; omega
    have g2 : decide ((4096 : Int) < x2) = false := by simp; omega
    have g3 : decide (x1 < 1) = false := by simp; omega
    have g4 : x2 < x1 := h4
    have hs : openS l0 ⟨x0, x1, x2, x3⟩ = ([], 110) := by unfold openS; rw [if_pos (.inr (.inr (.inr (.inl h4))))]
    rw [hs]
    go_enter Try.func39, Try.ntmps39
    go_wp2
    go_quiet (fail)
    go_wp2
    go_ret2
    exact ⟨_, rfl, Kd.R_nil _ _ _ _ _, pw_below_drewN (below_alloc (Below.refl _ _) _) _⟩
  have g1 : decide (x2 < 1) = false := by simp; omega
  have g2 : decide ((4096 : Int) < x2) = false := by simp; omega
  have g3 : decide (x1 < 1) = false := by simp; omega
  have g4 : decide (x2 < x1) = false := by simp; omega
  by_cases h5 : (l0.length : Int) ≠ x1
  · have g5 : ((l0.length : Int) != x1) = true := by simpa using h5
    have hs : openS l0 ⟨x0, x1, x2, x3⟩ = ([], 110) := by unfold openS; rw [if_pos (.inr (.inr (.inr (.inr (.inl h5)))))]
    rw [hs]
    go_enter Try.func39, Try.ntmps39
    go_wp2
    go_quiet (fail)
    go_wp2
    go_ret2
    exact ⟨_, rfl, Kd.R_nil _ _ _ _ _, pw_below_drewN (below_alloc (Below.refl _ _) _) _⟩
  have h5' : x1 = (l0.length : Int) := by simpa using (Eq.symm (Classical.not_not.1 h5))
  subst h5'
  obtain ⟨n, rfl⟩ := Int.eq_ofNat_of_zero_le (a := x2) (by omega)
  have hr0 := HR0.out
  by_cases h6 : (sumS l0 : Int) ≠ x3
  · have hs : openS l0 ⟨x0, l0.length, n, x3⟩ = ([], 110) := by unfold openS; rw [if_pos (.inr (.inr (.inr (.inr (.inr h6)))))]
    rw [hs]
    exact (bopen_sum A0 c0 l0 n x0 x3 _ w hr0 hby (by omega) (by omega) (by omega) rfl h6).mono fun e w' ⟨he, hb⟩ => ⟨_, he, Kd.R_nil _ _ _ _ _, hb⟩
  · have h6' : x3 = (sumS l0 : Int) := (Classical.not_not.1 h6).symm
    subst h6'
    have hbad : ¬ badB l0 ⟨x0, l0.length, n, sumS l0⟩ := by
      unfold badB
      simp only [not_or]
      exact ⟨h1, h2, h3, h4, h5, h6⟩
    by_cases h7 : l0.length = n
    · subst h7
      have hs : openS l0 ⟨x0, l0.length, l0.length, sumS l0⟩ = (l0, 0) := by unfold openS; rw [if_neg hbad, if_pos rfl]
      rw [hs]
      exact bopen_copy A0 c0 l0 x0 _ w hr0 hby (by omega) (by omega) rfl
    · have hs : openS l0 ⟨x0, l0.length, n, sumS l0⟩ = (if (unpackS l0 n).2 = 0 then (unpackS l0 n).1 else [], if (unpackS l0 n).2 = 0 then 0 else 110) := by
        unfold openS
        rw [if_neg hbad, if_neg (by simp; omega)]
        by_cases hu : (unpackS l0 n).2 = 0 <;> simp [hu]
      rw [hs]
      exact bopen_press A0 c0 l0 n x0 _ _ w hr0 hby (by omega) (by omega) (by omega) rfl rfl
end Go.Proofs.Ytoefligelajfkaa.Block

namespace Go.Proofs.Ytoefligelajfkaa.Block
open Go.Proofs.Ytoefligelajfkaa.PBlockOpens Go.Proofs.Ytoefligelajfkaa.Press

/-- The pieces of a row from a place on. -/
def chunksR (l : List Int) (size : Nat) : Nat → Nat → List (List Int)
  | 0, _ => []
  | k + 1, at_ => if at_ < l.length then pieceAt l size at_ :: chunksR l size k (at_ + size) else []
def blocksR : Nat → List (List Int) → List S58
  | _, [] => []
  | n, p :: t => blockS n p :: blocksR (n + (pieceS p).length) t
def catS : List (List Int) → List Int
  | [] => []
  | p :: t => pieceS p ++ catS t

theorem bpR_eq (l : List Int) (size : Nat) : ∀ (k at_ : Nat) (out : List Int) (bl : List S58), bpR l size k out bl at_ = (out ++ catS (chunksR l size k at_), bl ++ blocksR out.length (chunksR l size k at_)) := by
  intro k
  induction k with
  | zero => intro at_ out bl; simp [bpR, chunksR, catS, blocksR]
  | succ k ih =>
    intro at_ out bl
    rw [bpR, chunksR]
    split
    · rw [ih, catS, blocksR, List.length_append, List.append_assoc, List.append_assoc]; rfl
    · simp [catS, blocksR]

theorem chunks_flat (l : List Int) (size : Nat) (hs : 1 ≤ size) : ∀ (k at_ : Nat), l.length ≤ at_ + k → (chunksR l size k at_).flatten = l.drop at_ := by
  intro k
  induction k with
  | zero => intro at_ h; rw [chunksR, List.drop_eq_nil_of_le (by omega)]; rfl
  | succ k ih =>
    intro at_ h
    rw [chunksR]
    split
    · rw [List.flatten_cons, ih _ (by omega), pieceAt]
      by_cases hm : size ≤ l.length - at_
      · rw [Nat.min_eq_left hm]
        rw [← List.drop_drop, List.take_append_drop]
      · rw [Nat.min_eq_right (by omega), show l.drop (at_ + size) = [] from List.drop_eq_nil_of_le (by omega), List.append_nil, List.take_of_length_le (by simp)]
    · rw [List.drop_eq_nil_of_le (by omega)]; rfl
theorem chunks_mem (l : List Int) (size : Nat) (hs : 1 ≤ size) : ∀ (k at_ : Nat) (p : List Int), p ∈ chunksR l size k at_ → 1 ≤ p.length ∧ p.length ≤ size ∧ ∀ x ∈ p, x ∈ l := by
  intro k
  induction k with
  | zero => intro at_ p h; simp [chunksR] at h
  | succ k ih =>
    intro at_ p h
    rw [chunksR] at h
    split at h
    · rcases List.mem_cons.1 h with rfl | h
      · refine ⟨?_, ?_, fun x hx => List.mem_of_mem_drop (List.mem_of_mem_take hx)⟩ <;> rw [pieceAt_length] <;> omega
      · exact ih _ _ h
    · simp at h
theorem chunks_len (l : List Int) (size : Nat) (hs : 1 ≤ size) : ∀ (k at_ : Nat), at_ ≤ l.length → l.length ≤ at_ + k → (chunksR l size k at_).length = (l.length - at_ + size - 1) / size := by
  intro k
  induction k with
  | zero =>
    intro at_ h0 h
    rw [chunksR, show l.length - at_ = 0 by omega, Nat.div_eq_of_lt (by omega)]; rfl
  | succ k ih =>
    intro at_ h0 h
    rw [chunksR]
    split
    · rename_i hlt
      rw [List.length_cons]
      by_cases hm : at_ + size ≤ l.length
      · rw [ih _ hm (by omega), show l.length - at_ + size - 1 = (l.length - (at_ + size) + size - 1) + size by omega, Nat.add_div_right _ (by omega)]
      · have e : chunksR l size k (at_ + size) = [] := by
          cases k with
          | zero => rfl
          | succ k => rw [chunksR, if_neg (by omega)]
        rw [e, show l.length - at_ + size - 1 = (l.length - at_ - 1) + size by omega, Nat.add_div_right _ (by omega), Nat.div_eq_of_lt (by omega)]; rfl
    · rw [show l.length - at_ = 0 by omega, Nat.div_eq_of_lt (by omega)]; rfl
theorem blocks_len : ∀ (cs : List (List Int)) (n : Nat), (blocksR n cs).length = cs.length := by
  intro cs
  induction cs with
  | nil => intro n; rfl
  | cons p t ih => intro n; rw [blocksR, List.length_cons, ih, List.length_cons]

theorem pieceS_pos {p : List Int} (h1 : 1 ≤ p.length) (h2 : p.length ≤ 4096) : 1 ≤ (pieceS p).length := by
  unfold pieceS
  split
  · exact h1
  · have h := pack_unpack p h2
    cases e : (packS p).1 with
    | nil =>
      rw [e] at h
      have h0 : unpackS [] p.length = ([], 41) := by
        unfold unpackS
        rw [if_neg (by omega)]
        simp only [uR, if_true]
        unfold fin
        rw [if_pos (by simp; omega)]
      rw [h0] at h
      have := congrArg Prod.snd h
      have h2 : (41 : Int) = 0 := this
      omega
    | cons a t => simp
theorem sumS_le (l : List Int) : sumS l ≤ 4294967295 := by unfold sumS; omega
theorem blocks_valid (l : List Int) (size : Nat) (hs1 : 1 ≤ size) (hs2 : size ≤ 4096) (hby : ∀ x ∈ l, 0 ≤ x ∧ x ≤ 255) : ∀ (k at_ n : Nat), n ≤ at_ → at_ ≤ 100000 → l.length ≤ at_ + k → l.length ≤ 70000 →
    validR size (blocksR n (chunksR l size k at_)) ((l.length - at_ : Nat) : Int) n = true := by
  intro k
  induction k with
  | zero => intro at_ n h0 _ _ _; rfl
  | succ k ih =>
    intro at_ n h0 h1 h2 h3
    rw [chunksR]
    split
    · rename_i hlt
      have hp : (pieceAt l size at_).length = min size (l.length - at_) := pieceAt_length l size at_
      have hpb : ∀ x ∈ pieceAt l size at_, 0 ≤ x ∧ x ≤ 255 := fun x hx => hby x (List.mem_of_mem_drop (List.mem_of_mem_take hx))
      have hpos := pieceS_pos (p := pieceAt l size at_) (by omega) (by omega)
      have hle := pieceS_length (pieceAt l size at_)
      have hsum := sumS_le (pieceS (pieceAt l size at_))
      rw [blocksR, validR_ok ⟨by simp only [blockS]; omega, by simp only [blockS]; omega, by simp only [blockS]; omega, by simp only [blockS]; omega, by simp only [blockS]; omega, by simp only [blockS], by omega, by omega⟩]
      simp only [blockS]
      have e1 : ((l.length - at_ : Nat) : Int) - min (size : Int) ((l.length - at_ : Nat) : Int) = ((l.length - (at_ + size) : Nat) : Int) := by omega
      rw [e1, ← Int.natCast_add]
      exact ih (at_ + size) _ (by omega) (by omega) (by omega) h3
    · rfl

/-- All that a Pack of a fitting row answers. -/
theorem bpack_fits (l : List Int) (size : Nat) (hs : 16 ≤ size) (hs2 : size ≤ 4096) (hl : l.length ≤ 65536) : bpackS l size = (catS (chunksR l size l.length 0), blocksR 0 (chunksR l size l.length 0), 0) := by
  unfold bpackS
  rw [if_neg (fun h => h ⟨by omega, by omega⟩), if_neg (by omega), Int.toNat_natCast, bpR_eq]
  simp
theorem head_f0 (cs : List (List Int)) : ((blocksR 0 cs).headD z58).f0 = 0 := by cases cs <;> rfl
theorem back_valid (l : List Int) (size : Nat) (hs : 16 ≤ size) (hs2 : size ≤ 4096) (hl : l.length ≤ 65536) (hby : ∀ x ∈ l, 0 ≤ x ∧ x ≤ 255) : validS (blocksR 0 (chunksR l size l.length 0)) l.length size = true := by
  have h1 := chunks_len l size (by omega) l.length 0 (by omega) (by omega)
  rw [Nat.sub_zero] at h1
  unfold validS
  rw [if_neg, head_f0]
  · have := blocks_valid l size (by omega) hs2 hby l.length 0 0 (by omega) (by omega) (by omega) (by omega)
    rw [Nat.sub_zero] at this
    exact this
  · simp only [not_or, Classical.not_not]
    refine ⟨by omega, by omega, ⟨by omega, by omega⟩, ?_⟩
    rw [blocks_len, h1]
    have e : ((l.length : Int) + (size : Int) - 1) = ((l.length + size - 1 : Nat) : Int) := by omega
    rw [e]
    exact Int.natCast_ediv _ _
theorem back_invalid (l : List Int) (size : Nat) (hs : 16 ≤ size) (_hs2 : size ≤ 4096) (_hl : l.length ≤ 65536) : validS (blocksR 0 (chunksR l size l.length 0)) ((l.length : Int) + size) size = false := by
  have h1 := chunks_len l size (by omega) l.length 0 (by omega) (by omega)
  rw [Nat.sub_zero] at h1
  unfold validS
  rw [if_pos]
  refine .inr (.inr (.inr ?_))
  rw [blocks_len, h1]
  have e : ((l.length : Int) + (size : Int) + (size : Int) - 1) = (((l.length + size - 1) + size : Nat) : Int) := by omega
  rw [e, ← Int.natCast_ediv, Nat.add_div_right _ (by omega)]
  omega
theorem cat_len (cs : List (List Int)) : (catS cs).length ≤ cs.flatten.length := by
  induction cs with
  | nil => simp [catS]
  | cons p t ih =>
    have := pieceS_length p
    rw [catS, List.flatten_cons, List.length_append, List.length_append]; omega
theorem back_len (l : List Int) (size : Nat) (hs : 16 ≤ size) : (catS (chunksR l size l.length 0)).length ≤ l.length := by
  have h := cat_len (chunksR l size l.length 0)
  rw [chunks_flat l size (by omega) _ _ (by omega), List.drop_zero] at h
  exact h

theorem cat_append (a b : List (List Int)) : catS (a ++ b) = catS a ++ catS b := by
  induction a with
  | nil => rfl
  | cons p t ih => rw [List.cons_append, catS, catS, ih, List.append_assoc]
theorem blocks_append (a b : List (List Int)) : ∀ n, blocksR n (a ++ b) = blocksR n a ++ blocksR (n + (catS a).length) b := by
  induction a with
  | nil => intro n; rfl
  | cons p t ih =>
    intro n
    rw [List.cons_append, blocksR, blocksR, ih, catS, List.length_append, Nat.add_assoc]; rfl
theorem blocks_get (a : List (List Int)) (p : List Int) (b : List (List Int)) : rd_T58 (blocksR 0 (a ++ p :: b)) (a.length : Int) = blockS (catS a).length p := by
  rw [rd_T58, Int.toNat_natCast, blocks_append, List.getD_eq_getElem?_getD, List.getElem?_append_right (by rw [blocks_len]; exact Nat.le_refl _), blocks_len, Nat.sub_self, blocksR, Nat.zero_add]; rfl
theorem cat_mid (a : List (List Int)) (p : List Int) (b : List (List Int)) : ((catS (a ++ p :: b)).take ((catS a).length + (pieceS p).length)).drop (catS a).length = pieceS p := by
  rw [cat_append, catS, ← List.append_assoc, List.take_left' (by rw [List.length_append]), List.drop_left' rfl]
theorem open_piece {p : List Int} (n : Nat) (h1 : 1 ≤ p.length) (h2 : p.length ≤ 4096) : openS (pieceS p) (blockS n p) = (p, 0) := by
  have hpos := pieceS_pos h1 h2
  have hle := pieceS_length p
  unfold openS
  rw [if_neg]
  · by_cases he : (pieceS p).length = p.length
    · have e : pieceS p = p := by
        unfold pieceS at he ⊢
        split
        · rfl
        · rename_i hn
          rw [if_neg hn] at he
          omega
      rw [if_pos (by simp only [blockS]; omega), e]
    · have e : pieceS p = (packS p).1 := by
        unfold pieceS at he ⊢
        split
        · rename_i hn
          rw [if_pos hn] at he
          exact absurd rfl he
        · rfl
      have h := pack_unpack p h2
      rw [if_neg (by simp only [blockS]; omega), e]
      have hu : unpackS (packS p).1 (blockS n p).f2 = (p, 0) := h
      have h0 : ¬ (unpackS (packS p).1 (blockS n p).f2).2 ≠ 0 := by rw [hu]; simp
      rw [if_neg h0, hu]
  · unfold badB
    simp only [blockS]
    omega
theorem piece_bytes {p : List Int} (hby : ∀ x ∈ p, 0 ≤ x ∧ x ≤ 255) : ∀ x ∈ pieceS p, 0 ≤ x ∧ x ≤ 255 := by
  unfold pieceS
  split
  · exact hby
  · exact packS_bytes p hby
end Go.Proofs.Ytoefligelajfkaa.Block

namespace Go.Proofs.Ytoefligelajfkaa.PBlockOpens
open Go.RowKit Go.Proofs.YtoefligelajfkaaW.PrintWords Go.Proofs.YtoefligelajfkaaW.PrintLast Go.Proofs.YtoefligelajfkaaW.PrintMore
attribute [local go_sem] max2_int min2_int max_two min_two max_three min_three max_four min_four   -- for this text's walks alone
set_option linter.unusedVariables false
set_option linter.unusedSimpArgs false

/-! ### block_Cover: function 42 -/
def block_Cover.f (a0 : Int) (a1 : Int) (a2 : Int) : Option (Int × Int) := (block_isSize.f a0).bind fun t116 => (if t116 = true then (if a1 < 0 then (some (0, 0)) else (if a1 > 2147483647 then (some (0, 0)) else (if a2 < 1 then (some (0, 0)) else (if a2 > 2147483647 then (some (0, 0)) else (if a0 = 0 then (none) else (some (wrap64 (Int.tdiv a1 a0), wrap64 ((wrap64 (Int.tdiv (wrap64 ((wrap64 (a1 + a2)) - 1)) a0)) + 1)))))))) else (some (0, 0)))
set_option maxHeartbeats 8000000 in
set_option maxRecDepth 100000 in
theorem block_Cover.calls (a0 : Int) (a1 : Int) (a2 : Int) (r1 : Int) (r2 : Int) (w : World) (h : block_Cover.f a0 a1 a2 = some (r1, r2)) :
    Calls Try.prog 42 #[.int .i64 a0, .int .i64 a1, .int .i64 a2] w fun e w' => e = .returned (.tuple #[.int .i64 r1, .int .i64 r2]) ∧ Drawn0 w w' := by
  have H : ((block_isSize.f a0).bind fun t116 => (if t116 = true then (if a1 < 0 then (some (0, 0)) else (if a1 > 2147483647 then (some (0, 0)) else (if a2 < 1 then (some (0, 0)) else (if a2 > 2147483647 then (some (0, 0)) else (if a0 = 0 then (none) else (some (wrap64 (Int.tdiv a1 a0), wrap64 ((wrap64 (Int.tdiv (wrap64 ((wrap64 (a1 + a2)) - 1)) a0)) + 1)))))))) else (some (0, 0)))) = some (r1, r2) := h
  clear h
  replace H := Option.bind_eq_some_iff.mp H
  obtain ⟨t116, A40, H⟩ := H
  replace H : (if t116 = true then (if a1 < 0 then (some (0, 0)) else (if a1 > 2147483647 then (some (0, 0)) else (if a2 < 1 then (some (0, 0)) else (if a2 > 2147483647 then (some (0, 0)) else (if a0 = 0 then (none) else (some (wrap64 (Int.tdiv a1 a0), wrap64 ((wrap64 (Int.tdiv (wrap64 ((wrap64 (a1 + a2)) - 1)) a0)) + 1)))))))) else (some (0, 0))) = some (r1, r2) := H
  have A4 := Aside0.mk A40
  clear A40
  by_cases c5 : t116 = true
  · subst c5
    have H1 : (if a1 < 0 then (some (0, 0)) else (if a1 > 2147483647 then (some (0, 0)) else (if a2 < 1 then (some (0, 0)) else (if a2 > 2147483647 then (some (0, 0)) else (if a0 = 0 then (none) else (some (wrap64 (Int.tdiv a1 a0), wrap64 ((wrap64 (Int.tdiv (wrap64 ((wrap64 (a1 + a2)) - 1)) a0)) + 1)))))))) = some (r1, r2) := by rw [if_pos rfl] at H; exact H
    clear H
    have H := H1
    clear H1
    by_cases c6 : a1 < 0
    · rw [if_pos c6] at H
      have c6b0 : decide (a1 < 0) = true := decide_eq_true c6
      clear c6
      simp only [Option.some.injEq, Prod.mk.injEq] at H
      obtain ⟨rfl, rfl⟩ := H
      go_enter Try.func42, Try.ntmps42
      go_wp2_with (first | (go_at_call 55; (with_reducible refine (block_isSize.calls a0 true _ A4.out).mono ?_); rintro e w' ⟨rfl, ⟨nd, rfl⟩⟩; (try first | exact ⟨rfl, _, World.drewN_drewN _ _ _⟩ | exact ⟨rfl, _, Eq.trans (World.drewN_drewN _ _ _) (congrArg (World.drewN _) (Nat.add_assoc _ _ _))⟩)))
      repeat (go_quiet (first | (go_at_call 55; (with_reducible refine (block_isSize.calls a0 true _ A4.out).mono ?_); rintro e w' ⟨rfl, ⟨nd, rfl⟩⟩; (try first | exact ⟨rfl, _, World.drewN_drewN _ _ _⟩ | exact ⟨rfl, _, Eq.trans (World.drewN_drewN _ _ _) (congrArg (World.drewN _) (Nat.add_assoc _ _ _))⟩))); try go_wp2_with (first | (go_at_call 55; (with_reducible refine (block_isSize.calls a0 true _ A4.out).mono ?_); rintro e w' ⟨rfl, ⟨nd, rfl⟩⟩; (try first | exact ⟨rfl, _, World.drewN_drewN _ _ _⟩ | exact ⟨rfl, _, Eq.trans (World.drewN_drewN _ _ _) (congrArg (World.drewN _) (Nat.add_assoc _ _ _))⟩))))
      go_ret2
      exact ⟨by first | rfl | (simp; done) | (simp [*]; done), by repeat (first | exact Drawn0.refl _ | apply Drawn0.step)⟩
    · rw [if_neg c6] at H
      have c6b0 : decide (a1 < 0) = false := decide_eq_false c6
      clear c6
      by_cases c7 : a1 > 2147483647
      · rw [if_pos c7] at H
        have c7b0 : decide (2147483647 < a1) = true := decide_eq_true c7
        clear c7
        simp only [Option.some.injEq, Prod.mk.injEq] at H
        obtain ⟨rfl, rfl⟩ := H
        go_enter Try.func42, Try.ntmps42
        go_wp2_with (first | (go_at_call 55; (with_reducible refine (block_isSize.calls a0 true _ A4.out).mono ?_); rintro e w' ⟨rfl, ⟨nd, rfl⟩⟩; (try first | exact ⟨rfl, _, World.drewN_drewN _ _ _⟩ | exact ⟨rfl, _, Eq.trans (World.drewN_drewN _ _ _) (congrArg (World.drewN _) (Nat.add_assoc _ _ _))⟩)))
        repeat (go_quiet (first | (go_at_call 55; (with_reducible refine (block_isSize.calls a0 true _ A4.out).mono ?_); rintro e w' ⟨rfl, ⟨nd, rfl⟩⟩; (try first | exact ⟨rfl, _, World.drewN_drewN _ _ _⟩ | exact ⟨rfl, _, Eq.trans (World.drewN_drewN _ _ _) (congrArg (World.drewN _) (Nat.add_assoc _ _ _))⟩))); try go_wp2_with (first | (go_at_call 55; (with_reducible refine (block_isSize.calls a0 true _ A4.out).mono ?_); rintro e w' ⟨rfl, ⟨nd, rfl⟩⟩; (try first | exact ⟨rfl, _, World.drewN_drewN _ _ _⟩ | exact ⟨rfl, _, Eq.trans (World.drewN_drewN _ _ _) (congrArg (World.drewN _) (Nat.add_assoc _ _ _))⟩))))
        go_ret2
        exact ⟨by first | rfl | (simp; done) | (simp [*]; done), by repeat (first | exact Drawn0.refl _ | apply Drawn0.step)⟩
      · rw [if_neg c7] at H
        have c7b0 : decide (2147483647 < a1) = false := decide_eq_false c7
        clear c7
        by_cases c8 : a2 < 1
        · rw [if_pos c8] at H
          have c8b0 : decide (a2 < 1) = true := decide_eq_true c8
          clear c8
          simp only [Option.some.injEq, Prod.mk.injEq] at H
          obtain ⟨rfl, rfl⟩ := H
          go_enter Try.func42, Try.ntmps42
          go_wp2_with (first | (go_at_call 55; (with_reducible refine (block_isSize.calls a0 true _ A4.out).mono ?_); rintro e w' ⟨rfl, ⟨nd, rfl⟩⟩; (try first | exact ⟨rfl, _, World.drewN_drewN _ _ _⟩ | exact ⟨rfl, _, Eq.trans (World.drewN_drewN _ _ _) (congrArg (World.drewN _) (Nat.add_assoc _ _ _))⟩)))
          repeat (go_quiet (first | (go_at_call 55; (with_reducible refine (block_isSize.calls a0 true _ A4.out).mono ?_); rintro e w' ⟨rfl, ⟨nd, rfl⟩⟩; (try first | exact ⟨rfl, _, World.drewN_drewN _ _ _⟩ | exact ⟨rfl, _, Eq.trans (World.drewN_drewN _ _ _) (congrArg (World.drewN _) (Nat.add_assoc _ _ _))⟩))); try go_wp2_with (first | (go_at_call 55; (with_reducible refine (block_isSize.calls a0 true _ A4.out).mono ?_); rintro e w' ⟨rfl, ⟨nd, rfl⟩⟩; (try first | exact ⟨rfl, _, World.drewN_drewN _ _ _⟩ | exact ⟨rfl, _, Eq.trans (World.drewN_drewN _ _ _) (congrArg (World.drewN _) (Nat.add_assoc _ _ _))⟩))))
          go_ret2
          exact ⟨by first | rfl | (simp; done) | (simp [*]; done), by repeat (first | exact Drawn0.refl _ | apply Drawn0.step)⟩
        · rw [if_neg c8] at H
          have c8b0 : decide (a2 < 1) = false := decide_eq_false c8
          clear c8
          by_cases c9 : a2 > 2147483647
          · rw [if_pos c9] at H
            have c9b0 : decide (2147483647 < a2) = true := decide_eq_true c9
            clear c9
            simp only [Option.some.injEq, Prod.mk.injEq] at H
            obtain ⟨rfl, rfl⟩ := H
            go_enter Try.func42, Try.ntmps42
            go_wp2_with (first | (go_at_call 55; (with_reducible refine (block_isSize.calls a0 true _ A4.out).mono ?_); rintro e w' ⟨rfl, ⟨nd, rfl⟩⟩; (try first | exact ⟨rfl, _, World.drewN_drewN _ _ _⟩ | exact ⟨rfl, _, Eq.trans (World.drewN_drewN _ _ _) (congrArg (World.drewN _) (Nat.add_assoc _ _ _))⟩)))
            repeat (go_quiet (first | (go_at_call 55; (with_reducible refine (block_isSize.calls a0 true _ A4.out).mono ?_); rintro e w' ⟨rfl, ⟨nd, rfl⟩⟩; (try first | exact ⟨rfl, _, World.drewN_drewN _ _ _⟩ | exact ⟨rfl, _, Eq.trans (World.drewN_drewN _ _ _) (congrArg (World.drewN _) (Nat.add_assoc _ _ _))⟩))); try go_wp2_with (first | (go_at_call 55; (with_reducible refine (block_isSize.calls a0 true _ A4.out).mono ?_); rintro e w' ⟨rfl, ⟨nd, rfl⟩⟩; (try first | exact ⟨rfl, _, World.drewN_drewN _ _ _⟩ | exact ⟨rfl, _, Eq.trans (World.drewN_drewN _ _ _) (congrArg (World.drewN _) (Nat.add_assoc _ _ _))⟩))))
            go_ret2
            exact ⟨by first | rfl | (simp; done) | (simp [*]; done), by repeat (first | exact Drawn0.refl _ | apply Drawn0.step)⟩
          · rw [if_neg c9] at H
            have c9b0 : decide (2147483647 < a2) = false := decide_eq_false c9
            clear c9
            by_cases c10 : a0 = 0
            · rw [if_pos c10] at H
              exact absurd H (by simp)
            · rw [if_neg c10] at H
              have c10b0 : (a0 == 0) = false := beq_eq_false_iff_ne.mpr c10
              have c10b1 : (a0 != 0) = true := bne_iff_ne.mpr c10
              simp only [Option.some.injEq, Prod.mk.injEq] at H
              obtain ⟨rfl, rfl⟩ := H
              go_enter Try.func42, Try.ntmps42
              go_wp2_with (first | (go_at_call 55; (with_reducible refine (block_isSize.calls a0 true _ A4.out).mono ?_); rintro e w' ⟨rfl, ⟨nd, rfl⟩⟩; (try first | exact ⟨rfl, _, World.drewN_drewN _ _ _⟩ | exact ⟨rfl, _, Eq.trans (World.drewN_drewN _ _ _) (congrArg (World.drewN _) (Nat.add_assoc _ _ _))⟩)))
              repeat (go_quiet (first | (go_at_call 55; (with_reducible refine (block_isSize.calls a0 true _ A4.out).mono ?_); rintro e w' ⟨rfl, ⟨nd, rfl⟩⟩; (try first | exact ⟨rfl, _, World.drewN_drewN _ _ _⟩ | exact ⟨rfl, _, Eq.trans (World.drewN_drewN _ _ _) (congrArg (World.drewN _) (Nat.add_assoc _ _ _))⟩))); try go_wp2_with (first | (go_at_call 55; (with_reducible refine (block_isSize.calls a0 true _ A4.out).mono ?_); rintro e w' ⟨rfl, ⟨nd, rfl⟩⟩; (try first | exact ⟨rfl, _, World.drewN_drewN _ _ _⟩ | exact ⟨rfl, _, Eq.trans (World.drewN_drewN _ _ _) (congrArg (World.drewN _) (Nat.add_assoc _ _ _))⟩))))
              go_ret2
              exact ⟨by first | rfl | (simp; done) | (simp [*]; done), by repeat (first | exact Drawn0.refl _ | apply Drawn0.step)⟩
  · replace c5 := Bool.eq_false_iff.mpr c5
    subst c5
    have H1 : (some (0, 0)) = some (r1, r2) := by rw [if_neg (show ¬ (false = true) by decide)] at H; exact H
    clear H
    have H := H1
    clear H1
    simp only [Option.some.injEq, Prod.mk.injEq] at H
    obtain ⟨rfl, rfl⟩ := H
    go_enter Try.func42, Try.ntmps42
    go_wp2_with (first | (go_at_call 55; (with_reducible refine (block_isSize.calls a0 false _ A4.out).mono ?_); rintro e w' ⟨rfl, ⟨nd, rfl⟩⟩; (try first | exact ⟨rfl, _, World.drewN_drewN _ _ _⟩ | exact ⟨rfl, _, Eq.trans (World.drewN_drewN _ _ _) (congrArg (World.drewN _) (Nat.add_assoc _ _ _))⟩)))
    repeat (go_quiet (first | (go_at_call 55; (with_reducible refine (block_isSize.calls a0 false _ A4.out).mono ?_); rintro e w' ⟨rfl, ⟨nd, rfl⟩⟩; (try first | exact ⟨rfl, _, World.drewN_drewN _ _ _⟩ | exact ⟨rfl, _, Eq.trans (World.drewN_drewN _ _ _) (congrArg (World.drewN _) (Nat.add_assoc _ _ _))⟩))); try go_wp2_with (first | (go_at_call 55; (with_reducible refine (block_isSize.calls a0 false _ A4.out).mono ?_); rintro e w' ⟨rfl, ⟨nd, rfl⟩⟩; (try first | exact ⟨rfl, _, World.drewN_drewN _ _ _⟩ | exact ⟨rfl, _, Eq.trans (World.drewN_drewN _ _ _) (congrArg (World.drewN _) (Nat.add_assoc _ _ _))⟩))))
    go_ret2
    exact ⟨by first | rfl | (simp; done) | (simp [*]; done), by repeat (first | exact Drawn0.refl _ | apply Drawn0.step)⟩

-- NOT PRINTED: function 37 (freightlaw11_known)

end Go.Proofs.Ytoefligelajfkaa.PBlockOpens

namespace Go.Proofs.Ytoefligelajfkaa.Block
open Go.Proofs.Ytoefligelajfkaa.PBlockOpens Go.Proofs.Ytoefligelajfkaa.Press
/-- The row of the law's own example, what it packs to, and its blocks. -/
def rowK : List Int := [48,49,50,51,52,53,54,55,56,57,97,98,99,100,101,102,120,120,120,120,120,120,120,120,120,120,120,120,120,120,120,120,121,122]
def outK : List Int := [48, 49, 50, 51, 52, 53, 54, 55, 56, 57, 97, 98, 99, 100, 101, 102, 2, 120, 0, 12, 121, 122]
def blK : List S58 := [⟨0, 16, 16, 1757737011⟩, ⟨16, 4, 16, 3625542228⟩, ⟨20, 2, 2, 267667554⟩]
def xK : List Int := List.replicate 16 120
theorem bpack_known : bpackS rowK 16 = (outK, blK, 0) := by kernel_rfl
theorem open_known : openS [2, 120, 0, 12] ⟨16, 4, 16, 3625542228⟩ = (xK, 0) := by kernel_rfl
theorem valid_known : validS blK 34 16 = true := by kernel_rfl
theorem valid_known' : validS blK 35 16 = false := by kernel_rfl
theorem cover_known : block_Cover.f 16 15 2 = some (0, 2) := by kernel_rfl
end Go.Proofs.Ytoefligelajfkaa.Block

namespace Go.Proofs.Ytoefligelajfkaa.Block
open Go.RowKit Go.Proofs.YtoefligelajfkaaW.PrintWords Go.Proofs.YtoefligelajfkaaW.PrintLast Go.Proofs.YtoefligelajfkaaW.PrintMore Go.Proofs.Ytoefligelajfkaa.Press
open Go.Proofs.Ytoefligelajfkaa.PBlockOpens (S58 k58 z58 k58_open k58_mk k58_mkM k58_openM rd_T58 at_T58 block_isSize.f block_isSize.calls)
attribute [local go_sem] max2_int min2_int max_two min_two

theorem add_0 (a : Addr) : a.add 0 = a := by unfold Addr.add; simp

set_option maxHeartbeats 4000000 in
theorem valid_walk (A0 : Option Addr) (c0 : Nat) (bl : List S58) (row size : Nat) (w : World) (hr0 : k58.C w A0 bl.length bl) (hl : bl.length ≤ 140737488355328) (hrow : row ≤ 65536) (hs1 : 16 ≤ size) (hs2 : size ≤ 4096) (hlen : (bl.length : Int) = ((row : Int) + (size : Int) - 1) / (size : Int)) :
    Calls Try.prog 40 #[.slice A0 bl.length c0, .int .i64 row, .int .i64 size] w fun e w' => e = .returned (.bool (validR size bl row (bl.headD z58).f0)) ∧ Below w.heap.size w w' := by
  obtain ⟨rs, hrs⟩ : ∃ rs, validR size bl row (bl.headD z58).f0 = rs := ⟨_, rfl⟩
  rw [hrs]
  have HR0 := Aside0.mk hr0
  clear hr0
  have hz : block_isSize.f (size : Int) = some true := by rw [isSize_f, decide_eq_true (show isSize (size : Int) from ⟨by omega, by omega⟩)]
  have HZ := Aside0.mk hz
  clear hz
  have g1 : decide ((row : Int) < 0) = false := by simp
  have g2 : decide ((65536 : Int) < (row : Int)) = false := by simp; omega
  by_cases hn : bl = []
  · subst hn
    have g3 : ((0 : Int) != ((row : Int) + (size : Int) - 1) / (size : Int)) = false := by simpa using hlen
    have hrt : rs = true := by rw [← hrs]; rfl
    subst hrt
    clear hlen hrs
    go_enter Try.func40, Try.ntmps40
    go_wp2_with (go_at_call 55; refine (block_isSize.calls _ _ _ HZ.out).mono ?_; rintro e w1 ⟨rfl, ⟨nd, rfl⟩⟩)
    go_loopg [42] 1 (fun k v42 w' => v42 = .int .i64 0 ∧ w' = w.drewN nd)
    case atStart => exact ⟨rfl, rfl⟩
    case round =>
      obtain ⟨rfl, rfl⟩ := hrel
      go_wp2
      go_ret
      exact ⟨rfl, pw_below_drewN (Below.refl _ _) _⟩
  have hn0 : 0 < bl.length := List.length_pos_iff.2 hn
  obtain ⟨a0, ha0⟩ : ∃ a0 : Int, (rd_T58 bl 0).f0 = a0 := ⟨_, rfl⟩
  have hr2 : validR size (bl.drop 0) row a0 = rs := by
    rw [← hrs, ← ha0]
    cases bl with
    | nil => exact absurd rfl hn
    | cons b t => rfl
  have HRS := Aside0.mk hr2
  have hgt : (0 : Int) < (bl.length : Int) := by omega
  have g3 : ((bl.length : Int) != ((row : Int) + (size : Int) - 1) / (size : Int)) = false := by simpa using hlen
  obtain ⟨ad, rfl, hc0, -, -, -⟩ := at_T58 HR0.out 0 (by omega) hgt
  rw [ha0] at hc0
  simp only [Int.toNat_zero, Nat.zero_mul, add_0] at hc0
  clear hr2 ha0 hrs hlen hn
  go_enter Try.func40, Try.ntmps40
  go_wp2_with (go_at_call 55; refine (block_isSize.calls _ _ _ HZ.out).mono ?_; rintro e w1 ⟨rfl, ⟨nd, rfl⟩⟩)
  have HB : Aside0 (Below w.heap.size w (w.drewN nd)) := ⟨pw_below_drewN (Below.refl _ _) _⟩
  generalize w.drewN nd = w1 at HB
  go_loopg [1, 7, 42] bl.length (fun k v1 v7 v42 w' => ∃ (rw_ : Nat) (at_ : Int) (j : Nat), v1 = .int .i64 rw_ ∧ v7 = .int .i64 at_ ∧ v42 = .int .i64 j ∧ j + k = bl.length ∧ rw_ ≤ 65536 ∧ Aside0 (validR size (bl.drop j) rw_ at_ = rs ∧ Below w.heap.size w w'))
  case atStart => exact ⟨row, a0, 0, rfl, rfl, rfl, by omega, hrow, ⟨HRS.out, HB.out⟩⟩
  case round =>
    clear HRS HB hc0 g1 g2 g3
    obtain ⟨rw_, at_, j, rfl, rfl, rfl, hjk, hrw, HI⟩ := hrel
    cases gk with
    | zero =>
      have hj : j = bl.length := by omega
      subst hj
      have hr := HI.out.1
      rw [List.drop_length] at hr
      have hrt : rs = true := by rw [← hr]; rfl
      subst hrt
      clear hr
      go_wp2
      go_ret
      exact ⟨rfl, HI.out.2⟩
    | succ k =>
      have hj : j < bl.length := by omega
      have hj1 : (j : Int) < (bl.length : Int) := by omega
      obtain ⟨ad2, e2, h0, h1, h2, h3⟩ := at_T58 (Kd.C_below HR0.out HI.out.2) (j : Int) (by omega) hj1
      cases e2
      have hrun := HI.out.1
      rw [drop_consB bl j hj] at hrun
      simp only [Int.toNat_natCast] at h0 h1 h2 h3
      obtain ⟨b, hb⟩ : ∃ b, rd_T58 bl (j : Int) = b := ⟨_, rfl⟩
      rw [hb] at h0 h1 h2 h3 hrun
      obtain ⟨y0, y1, y2, y3⟩ := b
      clear hb
      obtain ⟨raw, hraw⟩ : ∃ raw : Nat, raw = min size rw_ := ⟨_, rfl⟩
      have hmin : (if rw_ < size then (rw_ : Int) else (size : Int)) = (raw : Int) := by split <;> omega
      have hraw1 : raw ≤ rw_ := by omega
      have hraw2 : (raw : Int) = min (size : Int) (rw_ : Int) := by omega
      have HRUN := Aside0.mk hrun
      have HRAW := Aside0.mk hraw2
      clear hraw2 hraw
      simp only [] at h0 h1 h2 h3
      by_cases c1 : y2 ≠ (raw : Int)
      · have HF : Aside0 (rs = false) := ⟨by rw [← hrun]; exact validR_no (fun h => by have := HRAW.out; have h' := h.raw; (try simp only [] at h'); omega)⟩
        have f1 : (y2 != (raw : Int)) = true := by simpa using c1
        clear c1 hrun HRUN
        go_wp2
        go_ret
        exact ⟨by rw [HF.out]; rfl, bel_next HI.out.2 HI.out.2.size ((Below.refl _ _).alloc (Nat.le_refl _) _)⟩
      have f1 : (y2 != (raw : Int)) = false := by simpa using c1
      by_cases c2 : y1 < 1
      · have HF : Aside0 (rs = false) := ⟨by rw [← hrun]; exact validR_no (fun h => by have := HRAW.out; have h' := h.lo; (try simp only [] at h'); omega)⟩
        have f2 : decide (y1 < 1) = true := by simpa using c2
        clear c2 hrun HRUN
        go_wp2
        go_ret
        exact ⟨by rw [HF.out]; rfl, bel_next HI.out.2 HI.out.2.size ((Below.refl _ _).alloc (Nat.le_refl _) _)⟩
      have f2 : decide (y1 < 1) = false := by simp; omega
      by_cases c3 : y1 > (raw : Int)
      · have HF : Aside0 (rs = false) := ⟨by rw [← hrun]; exact validR_no (fun h => by have := HRAW.out; have h' := h.hi; (try simp only [] at h'); omega)⟩
        have f3 : decide ((raw : Int) < y1) = true := by simpa using c3
        clear c3 hrun HRUN
        go_wp2
        go_ret
        exact ⟨by rw [HF.out]; rfl, bel_next HI.out.2 HI.out.2.size ((Below.refl _ _).alloc (Nat.le_refl _) _)⟩
      have f3 : decide ((raw : Int) < y1) = false := by simp; omega
      by_cases c4 : y3 < 0
      · have HF : Aside0 (rs = false) := ⟨by rw [← hrun]; exact validR_no (fun h => by have := HRAW.out; have h' := h.s0; (try simp only [] at h'); omega)⟩
        have f4 : decide (y3 < 0) = true := by simpa using c4
        clear c4 hrun HRUN
        go_wp2
        go_ret
        exact ⟨by rw [HF.out]; rfl, bel_next HI.out.2 HI.out.2.size ((Below.refl _ _).alloc (Nat.le_refl _) _)⟩
      have f4 : decide (y3 < 0) = false := by simp; omega
      by_cases c5 : y3 > 4294967295
      · have HF : Aside0 (rs = false) := ⟨by rw [← hrun]; exact validR_no (fun h => by have := HRAW.out; have h' := h.s1; (try simp only [] at h'); omega)⟩
        have f5 : decide ((4294967295 : Int) < y3) = true := by simpa using c5
        clear c5 hrun HRUN
        go_wp2
        go_ret
        exact ⟨by rw [HF.out]; rfl, bel_next HI.out.2 HI.out.2.size ((Below.refl _ _).alloc (Nat.le_refl _) _)⟩
      have f5 : decide ((4294967295 : Int) < y3) = false := by simp; omega
      by_cases c6 : y0 ≠ at_
      · have HF : Aside0 (rs = false) := ⟨by rw [← hrun]; exact validR_no (fun h => by have := HRAW.out; have h' := h.pos; (try simp only [] at h'); omega)⟩
        have f6 : (y0 != at_) = true := by simpa using c6
        clear c6 hrun HRUN
        go_wp2
        go_ret
        exact ⟨by rw [HF.out]; rfl, bel_next HI.out.2 HI.out.2.size ((Below.refl _ _).alloc (Nat.le_refl _) _)⟩
      have f6 : (y0 != at_) = false := by simpa using c6
      by_cases c7 : at_ < 0
      · have HF : Aside0 (rs = false) := ⟨by rw [← hrun]; exact validR_no (fun h => by have := HRAW.out; have h' := h.a0; (try simp only [] at h'); omega)⟩
        have f7 : decide (at_ < 0) = true := by simpa using c7
        clear c7 hrun HRUN
        go_wp2
        go_ret
        exact ⟨by rw [HF.out]; rfl, bel_next HI.out.2 HI.out.2.size ((Below.refl _ _).alloc (Nat.le_refl _) _)⟩
      have f7 : decide (at_ < 0) = false := by simp; omega
      by_cases c8 : at_ > 2147483647
      · have HF : Aside0 (rs = false) := ⟨by rw [← hrun]; exact validR_no (fun h => by have := HRAW.out; have h' := h.a1; (try simp only [] at h'); omega)⟩
        have f8 : decide ((2147483647 : Int) < at_) = true := by simpa using c8
        clear c8 hrun HRUN
        go_wp2
        go_ret
        exact ⟨by rw [HF.out]; rfl, bel_next HI.out.2 HI.out.2.size ((Below.refl _ _).alloc (Nat.le_refl _) _)⟩
      have f8 : decide ((2147483647 : Int) < at_) = false := by simp; omega
      have hok : vOk (size : Int) (rw_ : Int) at_ ⟨y0, y1, y2, y3⟩ := by
        have := HRAW.out
        exact ⟨by simp only []; omega, by simp only []; omega, by simp only []; omega, by simp only []; omega, by simp only []; omega, by simp only []; omega, by omega, by omega⟩
      rw [validR_ok hok] at hrun
      have hrun2 : Aside0 (validR size (bl.drop (j + 1)) ((rw_ - raw : Nat) : Int) (at_ + y1) = rs) := ⟨by
        have := HRAW.out
        rw [← hrun, ← this]
        simp only []
        congr 1
        omega⟩
      have hsub : (rw_ : Int) - (raw : Int) = ((rw_ - raw : Nat) : Int) := by omega
      clear hrun HRUN hok
      go_wp2
      go_roundg k
      case measure => omega
      case rel => exact ⟨rw_ - raw, at_ + y1, j + 1, by go_num, rfl, by go_num, by omega, by omega, ⟨hrun2.out, bel_next HI.out.2 HI.out.2.size ((Below.refl _ _).alloc (Nat.le_refl _) _)⟩⟩

theorem valid_any (A0 : Option Addr) (c0 : Nat) (bl : List S58) (row size : Int) (w : World) (hr0 : k58.C w A0 bl.length bl) (hl : bl.length ≤ 140737488355328) :
    Calls Try.prog 40 #[.slice A0 bl.length c0, .int .i64 row, .int .i64 size] w fun e w' => e = .returned (.bool (validS bl row size)) ∧ Below w.heap.size w w' := by
  by_cases h1 : row < 0
  · have e : validS bl row size = false := by unfold validS; rw [if_pos (.inl h1)]
    rw [e]
    go_enter Try.func40, Try.ntmps40
    go_wp2
    go_ret
    exact ⟨rfl, Below.refl _ _⟩
  have g1 : decide (row < 0) = false := by simp; omega
  by_cases h2 : row > 65536
  · have e : validS bl row size = false := by unfold validS; rw [if_pos (.inr (.inl h2))]
    rw [e]
    have g2 : (65536 : Int) < row := h2
    go_enter Try.func40, Try.ntmps40
    go_wp2
    go_ret
    exact ⟨rfl, Below.refl _ _⟩
  have g2 : decide ((65536 : Int) < row) = false := by simp; omega
  by_cases hz : isSize size
  · have HZ := Aside0.mk (show block_isSize.f size = some true by rw [isSize_f, decide_eq_true hz])
    by_cases h4 : (bl.length : Int) ≠ (row + size - 1) / size
    · have e : validS bl row size = false := by unfold validS; rw [if_pos (.inr (.inr (.inr h4)))]
      rw [e]
      have hz' := hz
      obtain ⟨z1, z2⟩ := hz'
      have g4 : ((bl.length : Int) != (row + size - 1) / size) = true := by simpa using h4
      clear h4 hz e
      go_enter Try.func40, Try.ntmps40
      go_wp2_with (go_at_call 55; refine (block_isSize.calls _ _ _ HZ.out).mono ?_; rintro e w1 ⟨rfl, ⟨nd, rfl⟩⟩)
      go_ret
      exact ⟨rfl, pw_below_drewN (Below.refl _ _) _⟩
    · have hz' := hz
      obtain ⟨z1, z2⟩ := hz'
      obtain ⟨r, rfl⟩ := Int.eq_ofNat_of_zero_le (a := row) (by omega)
      obtain ⟨s, rfl⟩ := Int.eq_ofNat_of_zero_le (a := size) (by omega)
      have e : validS bl (r : Int) (s : Int) = validR s bl r (bl.headD z58).f0 := by
        unfold validS
        rw [if_neg]
        simp only [not_or, Classical.not_not]
        exact ⟨h1, h2, hz, Classical.not_not.1 h4⟩
      rw [e]
      exact valid_walk A0 c0 bl r s w hr0 hl (by omega) (by omega) (by omega) (Classical.not_not.1 h4)
  · have HZ := Aside0.mk (show block_isSize.f size = some false by rw [isSize_f, decide_eq_false hz])
    have e : validS bl row size = false := by unfold validS; rw [if_pos (.inr (.inr (.inl hz)))]
    rw [e]
    clear hz e
    go_enter Try.func40, Try.ntmps40
    go_wp2_with (go_at_call 55; refine (block_isSize.calls _ _ _ HZ.out).mono ?_; rintro e w1 ⟨rfl, ⟨nd, rfl⟩⟩)
    go_ret
    exact ⟨rfl, pw_below_drewN (Below.refl _ _) _⟩
end Go.Proofs.Ytoefligelajfkaa.Block

namespace Go.Proofs.Ytoefligelajfkaa.Block
open Go.RowKit Go.Proofs.YtoefligelajfkaaW.PrintWords Go.Proofs.YtoefligelajfkaaW.PrintLast Go.Proofs.YtoefligelajfkaaW.PrintMore Go.Proofs.Ytoefligelajfkaa.Press
open Go.Proofs.Ytoefligelajfkaa.PBlockOpens (S58 k58 z58 k58_open k58_mk k58_mkM k58_openM rd_T58 at_T58 block_Cover.f block_Cover.calls freightlaw11_num.f freightlaw11_num.calls)

structure CellsK (w : World) (g : Nat) : Prop where
  a0 : w.cell? ⟨g, 0, none⟩ = some (.int .i64 0)
  a1 : w.cell? ⟨g, 1, none⟩ = some (.int .i64 16)
  a2 : w.cell? ⟨g, 2, none⟩ = some (.int .i64 16)
  a3 : w.cell? ⟨g, 3, none⟩ = some (.int .i64 1757737011)
  b0 : w.cell? ⟨g, 4, none⟩ = some (.int .i64 16)
  b1 : w.cell? ⟨g, 5, none⟩ = some (.int .i64 4)
  b2 : w.cell? ⟨g, 6, none⟩ = some (.int .i64 16)
  b3 : w.cell? ⟨g, 7, none⟩ = some (.int .i64 3625542228)
  c0 : w.cell? ⟨g, 8, none⟩ = some (.int .i64 20)
  c1 : w.cell? ⟨g, 9, none⟩ = some (.int .i64 2)
  c2 : w.cell? ⟨g, 10, none⟩ = some (.int .i64 2)
  c3 : w.cell? ⟨g, 11, none⟩ = some (.int .i64 267667554)
theorem cellsK {w : World} {g : Nat} (h : k58.C w (some ⟨g, 0, none⟩) 3 blK) : CellsK w g := by
  obtain ⟨ad, e, a0, a1, a2, a3⟩ := at_T58 h 0 (by omega) (by omega)
  cases e
  obtain ⟨ad, e, b0, b1, b2, b3⟩ := at_T58 h 1 (by omega) (by omega)
  cases e
  obtain ⟨ad, e, c0, c1, c2, c3⟩ := at_T58 h 2 (by omega) (by omega)
  cases e
  exact ⟨a0, a1, a2, a3, b0, b1, b2, b3, c0, c1, c2, c3⟩

theorem valid_34 (A : Option Addr) (c : Nat) (w : World) (h : k58.C w A blK.length blK) : Calls Try.prog 40 #[.slice A 3 c, .int .i64 34, .int .i64 16] w fun e w' => e = .returned (.bool true) ∧ Below w.heap.size w w' := by
  have := valid_any A c blK 34 16 w h (by decide)
  rw [valid_known] at this
  exact this
theorem valid_35 (A : Option Addr) (c : Nat) (w : World) (h : k58.C w A blK.length blK) : Calls Try.prog 40 #[.slice A 3 c, .int .i64 35, .int .i64 16] w fun e w' => e = .returned (.bool false) ∧ Below w.heap.size w w' := by
  have := valid_any A c blK 35 16 w h (by decide)
  rw [valid_known'] at this
  exact this
theorem known_str {w : World} {b : Nat} {A : Option Addr} {k : Nat} (h : Kd.R (Kd.int .u8) 5 w b (fun _ => True) (.slice A 16 k) xK) (nd : Nat) :
    (convert 22 9 (.slice A 16 k)).run Try.prog (w.drewN nd) = .ok (.string ⟨#[120, 120, 120, 120, 120, 120, 120, 120, 120, 120, 120, 120, 120, 120, 120, 120]⟩) (w.drewN nd) := by
  have h1 := Kd.C_string (P := Try.prog) (src := 22) (dst := 9) (c := k) Try.underlying22 Try.underlying5 Try.underlying9 (Kd.C_drewN (Kd.R_reads' h).2.2 nd)
  exact h1

set_option maxHeartbeats 4000000 in
theorem known_any (w : World) : Calls Try.prog 37 #[] w fun e w' => e = .returned (.bool true) ∧ Below w.heap.size w w' := by
  have kc := fun (w : World) (C : Array Value) (n c : Nat) => Lib.run_convert_bytes_const (P := Try.prog) w 22 5 C n c Try.underlying22 Try.underlying5
  go_enter Try.func37, Try.ntmps37
  go_upto_region 5 with (first
    | (go_at_call 31; refine (bpack_any (some ⟨w.heap.size, 0, none⟩) 34 rowK 16 _ (lit_mark w rowK (34, 35) (by decide)) (by decide) (by decide) (by decide)).mono ?_; rw [bpack_known]; rintro e w1 ⟨vo, vb, rfl, hRo, hRb, hB1⟩; obtain ⟨go, co, e1, hgo1, hgo2, -⟩ := Kd.R_form hRo (by decide); rw [show outK.length = 22 from rfl] at e1; subst e1; obtain ⟨gb, cb, e2, hgb1, hgb2, -⟩ := Kd.R_form hRb (by decide); rw [show blK.length = 3 from rfl] at e2; subst e2; obtain ⟨a0, a1, a2, a3, b0, b1, b2, b3, d0, d1, d2, d3⟩ := cellsK (Kd.R_reads' hRb).2.2; have HRO := Aside0.mk hRo; have HRB := Aside0.mk hRb; have HB1 := Aside0.mk (below_step (below_alloc (Below.refl _ _) _) hB1); clear hRo hRb hB1)
    | (go_at_call 34; refine (freightlaw11_num.calls _ _ _ rfl).mono ?_; rintro e w2 ⟨rfl, ⟨nd, rfl⟩⟩))
  have HW : Aside0 (CellsK (w1.drewN nd) gb ∧ Kd.R (Kd.int .u8) 5 (w1.drewN nd) w.heap.size (fun _ => True) (.slice (some ⟨go, 0, none⟩) 22 co) outK ∧ k58.R 58 (w1.drewN nd) w.heap.size (fun _ => True) (.slice (some ⟨gb, 0, none⟩) 3 cb) blK ∧ Below w.heap.size w (w1.drewN nd)) :=
    ⟨cellsK (Kd.R_reads' (Kd.R_drewN HRB.out nd)).2.2, Kd.R_lower (Kd.R_drewN HRO.out nd) (by simp), Kd.R_lower (Kd.R_drewN HRB.out nd) (by simp), pw_below_drewN HB1.out _⟩
  clear a0 a1 a2 a3 b0 b1 b2 b3 d0 d1 d2 d3 HRO HRB HB1 hgo1 hgb1 hgo2 hgb2
  generalize w1.drewN nd = W at HW
  obtain ⟨-, -, -, -, b0, b1, b2, b3, -, -, -, -⟩ := HW.out.1
  have hco := (Kd.R_reads' HW.out.2.1).2.1
  have hco1 : (20 : Int) ≤ (co : Int) := by omega
  have hco2 : co ≠ 16 := by omega
  have hsrc : Kd.C (Kd.int .u8) W (some ⟨go, 16, none⟩) 4 [2, 120, 0, 12] := by
    have h := Kd.C_mid (lo := 16) (hi := 20) (c := co) (Kd.R_reads' HW.out.2.1).2.2 (by omega) (by decide) hco
    rw [if_neg hco2] at h
    exact h
  have HS := Aside0.mk hsrc
  have HE := Aside0.mk (Kd.R_drew (empty_row W w.heap.size HW.out.2.2.2.size))
  have HBE := Aside0.mk (Below.drew (HW.out.2.2.2.alloc HW.out.2.2.2.size (.cells #[] 5)))
  have HRE := Aside0.mk (Kd.R_drew (Kd.R_alloc HW.out.2.2.1 (.cells #[] 5)))
  clear hsrc
  go_region_held3 (fun w' => w'.cell? ⟨gb, 4, none⟩ = some (.int .i64 16) ∧ w'.cell? ⟨gb, 5, none⟩ = some (.int .i64 4) ∧ w'.cell? ⟨gb, 6, none⟩ = some (.int .i64 16) ∧ w'.cell? ⟨gb, 7, none⟩ = some (.int .i64 3625542228)) (go_keep)
    (first
      | (refine Kd.R_append_rows_step (Kd.int .u8) (w0 := w) w.heap.size rfl (.tmp 66) (.tmp 68) 22 5 (.int .u8 0) 1 rfl Try.underlying22 info5 rfl (by decide) (by omega) (.slice (some ⟨W.heap.size, 0, none⟩) 0 0) [] [2, 120, 0, 12] (some ⟨go, 16, none⟩) 4 (co - 16) (fun _ => True) (fun _ => False) rfl rfl HE.out (Kd.C_drew (Kd.C_alloc HS.out _)) (fun _ _ h => h) (fun _ hk => hk.elim) (fun _ _ => trivial) HBE.out HBE.out.size (by simp) ?_; intro v3 w3 ho3 hb3 hg3 hat3; have ho3' : Kd.R (Kd.int .u8) 5 w3 w.heap.size (fun _ => True) v3 [2, 120, 0, 12] := ho3; obtain ⟨A3, k3, rfl⟩ := Kd.R_slice ho3'; have hRb3 := Kd.R_over' (v := .slice (some ⟨W.heap.size, 0, none⟩) 0 0) (e' := 5) HRE.out (Kd.R_typed HE.out) (by decide) hg3; obtain ⟨-, -, -, -, d0, d1, d2, d3, -, -, -, -⟩ := cellsK (Kd.R_reads' hRb3).2.2)
      | (go_simp; go_at_call 39; refine (bopen_any A3 k3 [2, 120, 0, 12] 16 4 16 3625542228 _ (Kd.R_reads' ho3').2.2 (by decide) (by decide)).mono ?_; rw [open_known]; rintro e w4 ⟨v4, rfl, hR4, hB4⟩; have hRb4 := Kd.R_below hRb3 hB4; obtain ⟨-, -, -, -, d0, d1, d2, d3, -, -, -, -⟩ := cellsK (Kd.R_reads' hRb4).2.2))
  have HX : Aside0 (Kd.R (Kd.int .u8) 5 w4 w.heap.size (fun _ => True) v4 xK ∧ k58.R 58 w4 w.heap.size (fun _ => True) (.slice (some ⟨gb, 0, none⟩) 3 cb) blK ∧ Below w.heap.size w w4) := ⟨Kd.R_lower hR4 hb3.size, hRb4, below_step hb3 hB4⟩
  obtain ⟨A4, k4, e4⟩ := Kd.R_slice HX.out.1
  rw [show xK.length = 16 from rfl] at e4
  subst e4
  clear hR4 hRb4 hB4 hRb3 ho3' ho3 hb3 hg3 hat3 HS HE HBE HRE HW b0 b1 b2 b3 d0 d1 d2 d3 hco hco1 hco2 kc
  go_upto_region 7 with (go_at_call 42; refine (block_Cover.calls 16 15 2 0 2 _ cover_known).mono ?_; rintro e w5 ⟨rfl, ⟨nd5, rfl⟩⟩)
  have HY : Aside0 (Kd.R (Kd.int .u8) 5 (w4.drewN nd5) w.heap.size (fun _ => True) (.slice A4 16 k4) xK ∧ k58.R 58 (w4.drewN nd5) w.heap.size (fun _ => True) (.slice (some ⟨gb, 0, none⟩) 3 cb) blK ∧ Below w.heap.size w (w4.drewN nd5)) :=
    ⟨Kd.R_drewN HX.out.1 _, Kd.R_drewN HX.out.2.1 _, pw_below_drewN HX.out.2.2 _⟩
  clear HX
  generalize w4.drewN nd5 = W4 at HY
  go_wp2_with (first
    | (go_at_call 34; refine (freightlaw11_num.calls _ _ _ rfl).mono ?_; rintro e w2 ⟨rfl, ⟨nd6, rfl⟩⟩; have hst := known_str HY.out.1 nd6)
    | (go_at_call 40; (with_reducible refine (valid_34 _ _ _ (Kd.R_reads' (Kd.R_drewN HY.out.2.1 nd6)).2.2).mono ?_); rintro e w7 ⟨rfl, hB7⟩)
    | (go_at_call 40; (with_reducible refine (valid_35 _ _ _ (Kd.R_reads' (Kd.R_below (Kd.R_drewN HY.out.2.1 nd6) hB7)).2.2).mono ?_); rintro e w8 ⟨rfl, hB8⟩))
  go_ret
  exact ⟨rfl, below_step (below_step (pw_below_drewN HY.out.2.2 _) hB7) hB8⟩
end Go.Proofs.Ytoefligelajfkaa.Block
