import Derived.ArgAppend
import Derived.Test.YtoefligelajfkaaWMore
import Derived.Test.YtoefligelajfkaaPPressSpoiltx0
import Derived.RegionTactic
import Derived.ChangeAlike
import Derived.Outline
import Derived.Maps.Keyed
import Derived.WideKeyEntry
import Derived.WideKeyPair
import Derived.Scope
import Derived.Test.YtoefligelajfkaaPPressSpoiltx2
import Derived.WalkMore
namespace Go.Proofs.Ytoefligelajfkaa.Sep
open Go.RowKit Go.Proofs.YtoefligelajfkaaW.PrintWords Go.Proofs.YtoefligelajfkaaW.PrintLast Go.Proofs.YtoefligelajfkaaW.PrintMore

theorem below_none {W W1 : World} (hg : W.grownBy W1 none) : Below W.heap.size W W1 := ⟨hg.os, hg.tape, hg.output, hg.size, fun k hk => hg.block k hk (by simp)⟩

/-- append onto a row of one's own: what comes of it, and that the row itself reads as before. -/
theorem run_append_row {P : Program} (w : World) (base : Nat) (t ty e : TypeId) (z : Value) (size bytes : Nat) (ht : P.underlying t = some (.slice e))
    (hinfo : (P.info? e).map (fun i => (i.zero, i.size, i.bytes)) = some (some z, size, bytes)) (hz : z.cells.size = size) (hs0 : 0 < size) (hb0 : 0 < bytes)
    (v : Value) (n : Nat) (xs : List Value) (HO : w.ownsRow base e size v n xs) (ad : Addr) (m c : Nat) (news : List Value) (hnl : news.length = m * size)
    (hnews : ∀ j u, news[j]? = some u → w.cell? (ad.add j) = some u) (h1 : ∀ u ∈ news, u.oneCell' = true) (hm0 : 0 < m) (hb : (n + m) * bytes ≤ 140737488355328) (hbase : base ≤ w.heap.size) :
    ∃ v1 w1, (Builtin.append_ #[t, t] ty #[v, .slice (some ad) m c]).run P w = .ok v1 w1 ∧ w1.ownsRow base e size v1 (n + m) (xs ++ news) ∧ w.grownBy w1 v.ownBlock ∧ w1.ownsRow base e size v n xs ∧
      ((∃ A k, v = .slice A n k ∧ v1 = .slice A (n + m) k) ∨ ∃ k, v1.ownBlock = some k ∧ w.heap.size ≤ k) := by
  obtain ⟨i0, hi, hzz⟩ := Option.map_eq_some_iff.1 hinfo
  simp only [Prod.mk.injEq] at hzz
  obtain ⟨hz0, hz1, hz2⟩ := hzz
  have hlen : n + m ≤ 140737488355328 := Nat.le_trans (Nat.le_mul_of_pos_right _ hb0) hb
  have h63 : n + m ≤ maxLen := by unfold maxLen; omega
  have grow : ∀ v' w', w'.ownsRow w.heap.size e size v' (n + m) (xs ++ news) → w.grownBy w' none →
      w'.ownsRow base e size v' (n + m) (xs ++ news) ∧ w.grownBy w' v.ownBlock ∧ w'.ownsRow base e size v n xs ∧ ((∃ A k, v = .slice A n k ∧ v' = .slice A (n + m) k) ∨ ∃ k, v'.ownBlock = some k ∧ w.heap.size ≤ k) := by
    intro v' w' hown hg
    have hf : ∃ k, v'.ownBlock = some k ∧ w.heap.size ≤ k := by
      rcases hown.2 with ⟨_, h0⟩ | ⟨g, cap, cur, hv, hb, _⟩
      · omega
      · exact ⟨g, by rw [hv]; rfl, by omega⟩
    exact ⟨own_less hown hbase, ⟨hg.os, hg.tape, hg.output, hg.size, fun k hk _ => hg.block k hk (by simp)⟩, own_move HO (fun k hk => hg.block k (by obtain ⟨cells, hc⟩ := own_typed HO k hk; exact blk_lt hc) (by simp)), .inr hf⟩
  rcases HO.2 with ⟨rfl, h0⟩ | ⟨g, cap, cur, rfl, hbg, hh, hnc, hcm, hcs, htake⟩
  · subst h0
    have hx0 : xs = [] := List.length_eq_zero_iff.1 (by have := HO.1; omega)
    subst hx0
    obtain ⟨v', w', hrun, r1, r2, _⟩ := run_append_own (P := P) w w.heap.size t ty e i0 z size bytes ht hi hz0 hz1 hz2 hz hs0 (.slice none 0 0) 0 [] (World.ownsRow_nil w _ e size) ad m c news hnl hnews h1 h63 hb (Nat.le_refl _)
    exact ⟨v', w', hrun, grow v' w' r1 r2⟩
  · have hnsz : n * size ≤ cur.size := by rw [hcs]; exact Nat.mul_le_mul_right _ hnc
    have hxl : xs.length = n * size := HO.1
    have holds : ∀ j u, xs[j]? = some u → w.cell? ⟨g, 0 + j, none⟩ = some u := by
      intro j u hu
      rw [Nat.zero_add, blk_cell hh, ← Array.getElem?_toList]
      rw [← htake, List.getElem?_take] at hu
      split at hu
      · exact hu
      · cases hu
    by_cases hr : n + m ≤ cap
    · have hf : n * size + m * size ≤ cur.size := by
        rw [hcs, ← Nat.add_mul]
        exact Nat.mul_le_mul_right _ hr
      subst hz1
      have hrun := run_append_room_cells (P := P) w t ty e i0 ht hi g 0 n cap ad m c news hnl hnews h1 hr
        (fun j hj => by rw [blk_cell hh]; rw [hnl] at hj; simp; omega) (fun j hj => blk_frozen hh _)
      rw [Nat.zero_add] at hrun
      obtain ⟨cur', h3, h4, h5⟩ := setCells_row news (n * i0.size) w cur hh (by rw [hnl]; exact hf)
      obtain ⟨s1, s2, s3, s4⟩ := setCells_same g news (n * i0.size) w
      have hg : w.grownBy (w.setCells g (n * i0.size) news) (some g) := ⟨s1, s2, s3, by rw [s4]; exact Nat.le_refl _, fun k _ hk => setCells_far _ _ k (fun he => hk (by rw [he]))⟩
      refine ⟨_, _, hrun, ?_, hg, ?_, .inl ⟨_, _, rfl, rfl⟩⟩
      · refine ⟨by rw [List.length_append, hxl, hnl, Nat.add_mul], .inr ⟨g, cap, cur', rfl, hbg, h3, hr, hcm, by rw [h4, hcs], ?_⟩⟩
        rw [h5, htake, Nat.add_mul, List.take_append_of_le_length (by rw [List.length_append, hxl, hnl]; exact Nat.le_refl _)]
        exact List.take_of_length_le (by rw [List.length_append, hxl, hnl]; exact Nat.le_refl _)
      · refine ⟨HO.1, .inr ⟨g, cap, cur', rfl, hbg, h3, by omega, hcm, by rw [h4, hcs], ?_⟩⟩
        rw [h5, htake, List.append_assoc, List.take_append_of_le_length (by omega)]
        exact List.take_of_length_le (by omega)
    · obtain ⟨v', w', hrun, r1, r2⟩ := run_append_arg_grows (P := P) w t ty e i0 z size bytes ht hi hz0 hz1 hz2 hz hs0 ⟨g, 0, none⟩ n cap xs hxl (fun j u hj => by rw [Addr.add_lit]; exact holds j u hj) ad m c news hnl hnews (by omega) h63 hb
      exact ⟨v', w', hrun, grow v' w' r1 r2⟩

section
variable {P : Program} {ops : Array Oper} {o : Oper} {a : Act} {K : Act → World → Prop} {Q : Exit → Act → World → Prop}
/-- append(v, y), y one element that lies in a new block: the law at the operation. -/
theorem wp_append_row {w0 W : World} (base : Nat) (s x : Operand) (t e : TypeId) (z : Value) (size bytes : Nat) (ho : o.op = .call { callee := .builtin .append, args := #[s, x], argTypes := #[t, t] })
    (ht : P.underlying t = some (.slice e)) (hinfo : (P.info? e).map (fun i => (i.zero, i.size, i.bytes)) = some (some z, size, bytes)) (hz : z.cells.size = size) (hs0 : 0 < size) (hb0 : 0 < bytes)
    (v : Value) (n : Nat) (xs ys : List Value) (hs : a.eval s = v) (hx : a.eval x = .slice (some ⟨W.heap.size, 0, none⟩) 1 1) (hys : ys.length = size) (h1 : ∀ u ∈ ys, u.oneCell' = true)
    (HO : W.ownsRow base e size v n xs) (HB : Below base w0 W) (hbase : base ≤ W.heap.size) (hl : (n + 1) * bytes ≤ 140737488355328)
    (h : ∀ v1 w1, w1.ownsRow base e size v1 (n + 1) (xs ++ ys) → Below base w0 w1 → W.grownBy w1 v.ownBlock → w1.ownsRow base e size v n xs →
      ((∃ A c, v = .slice A n c ∧ v1 = .slice A (n + 1) c) ∨ ∃ k, v1.ownBlock = some k ∧ W.heap.size ≤ k) → K (a.put o.dst v1) w1) :
    o.wp P a (W.alloc (.cells ys.toArray e)) K Q := by
  have hnews : ∀ j u, ys[j]? = some u → (W.alloc (.cells ys.toArray e)).cell? ((⟨W.heap.size, 0, none⟩ : Addr).add j) = some u := by
    simpa using World.news_of_block (cs := ys.toArray) (t := e) (fr := (0, 0)) (heap_alloc_new W (.cells ys.toArray e))
  have HO' : (W.alloc (.cells ys.toArray e)).ownsRow base e size v n xs := pw_own_below HO (below_alloc (Below.refl _ _) _)
  obtain ⟨v1, w1, hrun, r1, r2, r3, r4⟩ := run_append_row (P := P) (W.alloc (.cells ys.toArray e)) base t o.type e z size bytes ht hinfo hz hs0 hb0 v n xs HO' ⟨W.heap.size, 0, none⟩ 1 1 ys (by rw [hys]; omega) hnews h1 (by omega) hl (by simp; omega)
  have hg2 : W.grownBy w1 v.ownBlock := World.grownBy.trans (World.grownBy_alloc W _ _) r2
  unfold Oper.wp
  simp only [execOp, ho, resolve, invoke, builtin, Sem.run_bind, Sem.run_pure, Result.andThen_ok, List.map_toArray, List.map_cons, List.map_nil, hs, hx, hrun]
  refine h v1 w1 r1 (HB.grown hg2 hbase (fun k hk => own_base HO k hk)) hg2 r3 ?_
  rcases r4 with r4 | ⟨k, hk, hlk⟩
  · exact .inl r4
  · exact .inr ⟨k, hk, by simp at hlk; omega⟩

theorem wpList_append_row {rest : List Oper} {w0 W : World} (base : Nat) (hgd : o.guard = none) (s x : Operand) (t e : TypeId) (z : Value) (size bytes : Nat) (ho : o.op = .call { callee := .builtin .append, args := #[s, x], argTypes := #[t, t] })
    (ht : P.underlying t = some (.slice e)) (hinfo : (P.info? e).map (fun i => (i.zero, i.size, i.bytes)) = some (some z, size, bytes)) (hz : z.cells.size = size) (hs0 : 0 < size) (hb0 : 0 < bytes)
    (v : Value) (n : Nat) (xs ys : List Value) (hs : a.eval s = v) (hx : a.eval x = .slice (some ⟨W.heap.size, 0, none⟩) 1 1) (hys : ys.length = size) (h1 : ∀ u ∈ ys, u.oneCell' = true)
    (HO : W.ownsRow base e size v n xs) (HB : Below base w0 W) (hbase : base ≤ W.heap.size) (hl : (n + 1) * bytes ≤ 140737488355328)
    (h : ∀ v1 w1, w1.ownsRow base e size v1 (n + 1) (xs ++ ys) → Below base w0 w1 → W.grownBy w1 v.ownBlock → w1.ownsRow base e size v n xs →
      ((∃ A c, v = .slice A n c ∧ v1 = .slice A (n + 1) c) ∨ ∃ k, v1.ownBlock = some k ∧ W.heap.size ≤ k) → wpList P ops Q rest (a.put o.dst v1) w1) :
    wpList P ops Q (o :: rest) a (W.alloc (.cells ys.toArray e)) :=
  wpList_plain hgd fun _ hK => wp_append_row base s x t e z size bytes ho ht hinfo hz hs0 hb0 v n xs ys hs hx hys h1 HO HB hbase hl fun v1 w1 g1 g2 g3 g4 g5 => hK _ _ (h v1 w1 g1 g2 g3 g4 g5)

theorem step_append_row {E : Prop} {w0 W : World} (base : Nat) (hgd : o.guard = none) (s x : Operand) (t e : TypeId) (z : Value) (size bytes : Nat) (ho : o.op = .call { callee := .builtin .append, args := #[s, x], argTypes := #[t, t] })
    (ht : P.underlying t = some (.slice e)) (hinfo : (P.info? e).map (fun i => (i.zero, i.size, i.bytes)) = some (some z, size, bytes)) (hz : z.cells.size = size) (hs0 : 0 < size) (hb0 : 0 < bytes)
    (v : Value) (n : Nat) (xs ys : List Value) (hs : a.eval s = v) (hx : a.eval x = .slice (some ⟨W.heap.size, 0, none⟩) 1 1) (hys : ys.length = size) (h1 : ∀ u ∈ ys, u.oneCell' = true)
    (HO : W.ownsRow base e size v n xs) (HB : Below base w0 W) (hbase : base ≤ W.heap.size) (hl : (n + 1) * bytes ≤ 140737488355328)
    (h : ∀ v1 w1, w1.ownsRow base e size v1 (n + 1) (xs ++ ys) → Below base w0 w1 → W.grownBy w1 v.ownBlock → w1.ownsRow base e size v n xs →
      ((∃ A c, v = .slice A n c ∧ v1 = .slice A (n + 1) c) ∨ ∃ k, v1.ownBlock = some k ∧ W.heap.size ≤ k) → K (a.put o.dst v1) w1) :
    if Region.wanted o (yielded ops a.tmps) = true then Oper.wp P o a (W.alloc (.cells ys.toArray e)) K Q else E := by
  have hw : Region.wanted o (yielded ops a.tmps) = true := by simp [Region.wanted, hgd]
  rw [if_pos hw]
  exact wp_append_row base s x t e z size bytes ho ht hinfo hz hs0 hb0 v n xs ys hs hx hys h1 HO HB hbase hl h
end
end Go.Proofs.Ytoefligelajfkaa.Sep

namespace Go.Proofs.Ytoefligelajfkaa.Press
open Go.RowKit Go.Proofs.YtoefligelajfkaaW.PrintWords Go.Proofs.YtoefligelajfkaaW.PrintLast Go.Proofs.YtoefligelajfkaaW.PrintMore

theorem cell_alloc {W : World} {a : Addr} {v : Value} (h : W.cell? a = some v) (o : Obj) : (W.alloc o).cell? a = some v :=
  (World.cell?_alloc_lt _ _ _ (World.block_lt_of_cell? W a h)).trans h

set_option maxHeartbeats 800000 in
theorem gram_any (A0 : Option Addr) (c0 : Nat) (l0 : List Int) (i j1 j2 : Int) (w : World) (hr0 : Kd.C (Kd.int .u8) w A0 l0.length l0)
    (h0i : 0 ≤ i) (hi : i + 3 ≤ l0.length) (hj1 : IntKind.i64.wrap (i + 1) = j1) (hj2 : IntKind.i64.wrap (i + 2) = j2) (hl : l0.length ≤ 140737488355328) :
    Calls Try.prog 51 #[.slice A0 l0.length c0, .int .i64 i] w fun e w' =>
      e = .returned (.agg #[.int .u8 (rd l0 i), .int .u8 (rd l0 j1), .int .u8 (rd l0 j2)]) ∧ Below w.heap.size w w' := by
  have g1 : j1 = i + 1 := hj1.symm.trans (IntWalk.i64_in _ (by omega))
  have g2 : j2 = i + 2 := hj2.symm.trans (IntWalk.i64_in _ (by omega))
  have p0 : 0 ≤ i := h0i
  have q0 : i < l0.length := by omega
  have p1 : 0 ≤ j1 := by omega
  have q1 : j1 < l0.length := by omega
  have p2 : 0 ≤ j2 := by omega
  have q2 : j2 < l0.length := by omega
  clear g1 g2 hi h0i hl
  obtain ⟨ad, e0, h0⟩ := Kd.at_int hr0 i (by omega) (by omega)
  obtain ⟨ad1, e1, h1⟩ := Kd.at_int hr0 j1 (by omega) (by omega)
  obtain ⟨ad2, e2, h2⟩ := Kd.at_int hr0 j2 (by omega) (by omega)
  cases e0; cases e1; cases e2
  have k0 := cell_alloc h0 (.cells #[.int .u8 0, .int .u8 0, .int .u8 0] 81)
  have k1 := cell_alloc h1 (.cells #[.int .u8 0, .int .u8 0, .int .u8 0] 81)
  have k2 := cell_alloc h2 (.cells #[.int .u8 0, .int .u8 0, .int .u8 0] 81)
  clear hr0 h0 h1 h2
  replace p0 := eq_true p0
  replace p1 := eq_true p1
  replace p2 := eq_true p2
  replace q0 := eq_true q0
  replace q1 := eq_true q1
  replace q2 := eq_true q2
  go_enter Try.func51, Try.ntmps51
  go_wp2
  go_region
  all_goals
    go_wp2
    refine bodyPost_ret (v := .agg #[.int .u8 (rd l0 i), .int .u8 (rd l0 j1), .int .u8 (rd l0 j2)]) (by simp [results, Try.results51, go_sem]) rfl ⟨rfl, ?_⟩
    exact ((Below.refl _ _).alloc (Nat.le_refl _) _).drew
end Go.Proofs.Ytoefligelajfkaa.Press

namespace Go.Proofs.Ytoefligelajfkaa.Press
open Go.RowKit Go.Proofs.YtoefligelajfkaaW.PrintWords Go.Proofs.YtoefligelajfkaaW.PrintLast Go.Proofs.YtoefligelajfkaaW.PrintMore
open Go.Maps (Keyed)
open Go.ChangeMaps (setBlock heap_setBlock_same heap_setBlock_other)

/-- The entries of a map of lists of numbers, each in a row of its own; nothing was ever taken out. -/
structure GE (P : Program) (k : TypeId) (w : World) (base : Nat) (g : Value → List Int) (es : Array MapEntry) (clock : Nat) : Prop where
  key : ∀ (i : Nat) (x : MapEntry), es[i]? = some x → ∃ l, keyOf P k x.key = some l
  own : ∀ (i : Nat) (x : MapEntry), es[i]? = some x → (Kd.int .i64).R 3 w base (fun _ => True) x.val (g x.key)
  born : ∀ (i : Nat) (x : MapEntry), es[i]? = some x → x.born = i
  clk : clock = es.size
  dist : ∀ (i j : Nat) (x y : MapEntry), es[i]? = some x → es[j]? = some y → x.key = y.key → i = j
  no : ∀ v, (∀ (i : Nat) (x : MapEntry), es[i]? = some x → x.key ≠ v) → g v = []
  apart : ∀ (i j : Nat) (x y : MapEntry), es[i]? = some x → es[j]? = some y → i ≠ j → x.val.ownBlock = none ∨ x.val.ownBlock ≠ y.val.ownBlock

/-- Block b is a map that tells of each key the list that g tells. -/
def Grp (P : Program) (k : TypeId) (w : World) (b base : Nat) (g : Value → List Int) : Prop :=
  ∃ es clock, w.heap[b]? = some (.map es clock) ∧ GE P k w base g es clock

section
variable {P : Program} {k t e : TypeId} {w : World} {b base : Nat} {g : Value → List Int}

theorem Grp.lt (h : Grp P k w b base g) : b < w.heap.size := by
  obtain ⟨es, clock, hb, _⟩ := h
  exact (Array.getElem?_eq_some_iff.1 hb).1

theorem Grp.made (P : Program) (k : TypeId) (w : World) (base : Nat) : Grp P k (w.alloc (.map #[] 0)) w.heap.size base (fun _ => []) :=
  ⟨#[], 0, heap_alloc_new w _, ⟨by simp, by simp, by simp, rfl, by simp, fun _ _ => rfl, by simp⟩⟩

/-- Whatever turns a block that is neither the map's nor a row of its type. -/
theorem Grp.step {w1 : World} (h : Grp P k w b base g) (hs : ∀ j, j < w.heap.size → (j = b ∨ ∃ cells, w.heap[j]? = some (.cells cells 3 (0, 0))) → w1.heap[j]? = w.heap[j]?) : Grp P k w1 b base g := by
  have hlt := h.lt
  obtain ⟨es, clock, hb, G⟩ := h
  refine ⟨es, clock, (hs b hlt (.inl rfl)).trans hb, ⟨G.key, fun i x hx => ?_, G.born, G.clk, G.dist, G.no, G.apart⟩⟩
  have ho := G.own i x hx
  refine Kd.R_mono (Kd.R_move (Kd.R_bound ho) ?_) (fun _ _ => trivial)
  rintro j ⟨_, _, hj, q, hq, cells, hc⟩
  refine hs j hj (.inr ⟨cells, ?_⟩)
  have : q = 3 := by simpa [Kd.int, Kd.scalar] using hq
  rw [this] at hc
  exact hc

theorem Grp.below {w1 : World} (h : Grp P k w b base g) (hb : Below w.heap.size w w1) : Grp P k w1 b base g := h.step fun j hj _ => hb.block j hj

/-- A row of another type was written. -/
theorem Grp.grown {w1 : World} {v : Value} {b' e' s n : Nat} {xs : List Value} (h : Grp P k w b base g) (hv : w.ownsRow b' e' s v n xs) (hne : e' ≠ 3) (hg : w.grownBy w1 v.ownBlock) : Grp P k w1 b base g := by
  obtain ⟨es, clock, hb, G⟩ := h
  refine Grp.step ⟨es, clock, hb, G⟩ fun j hj hc => hg.block j hj ?_
  intro he
  obtain ⟨cells, hcells⟩ := own_typed hv j he.symm
  rcases hc with rfl | ⟨cells', hc⟩
  · rw [hb] at hcells; cases hcells
  · rw [hc] at hcells
    injection hcells with hcells
    injection hcells with _ ht
    exact hne ht.symm

theorem entry_at {es : Array MapEntry} {i : Nat} {x : MapEntry} (h : es.toList[i]? = some x) : es[i]? = some x := by simpa using h

theorem GE.find {es : Array MapEntry} {clock : Nat} (G : GE P k w base g es clock) (K : Keyed P k) {key : Value} {kl : Lit} (hkey : keyOf P k key = some kl) :
    ((Instr.findKey k key es.toList).run P w = .ok none w ∧ ∀ (i : Nat) (x : MapEntry), es[i]? = some x → x.key ≠ key) ∨
    ∃ j x, (Instr.findKey k key es.toList).run P w = .ok (some (j, x.val)) w ∧ es[j]? = some x ∧ x.key = key := by
  rcases K.find w hkey es.toList (fun x hx => by
    obtain ⟨i, hi⟩ := List.mem_iff_getElem?.1 hx
    exact G.key i x (entry_at hi)) with ⟨h1, h2⟩ | ⟨j, x, h1, h2, h3⟩
  · exact .inl ⟨h1, fun i x hx => h2 x (List.mem_of_getElem? (by simpa using hx))⟩
  · exact .inr ⟨j, x, h1, entry_at h2, h3⟩

theorem Grp.lookup (h : Grp P k w b base g) (K : Keyed P k) (ht : P.underlying t = some (.map k e)) (hz : (zeroValue e).run P w = .ok (.slice none 0 0) w) {key : Value} {kl : Lit} (hkey : keyOf P k key = some kl) :
    ∃ v, (Instr.lookup t (.map (some b)) key false).run P w = .ok v w ∧ (Kd.int .i64).R 3 w base (fun _ => True) v (g key) := by
  obtain ⟨es, clock, hb, G⟩ := h
  rcases G.find K hkey with ⟨h1, h2⟩ | ⟨j, x, h1, h2, h3⟩
  · refine ⟨.slice none 0 0, by simp [Instr.lookup, run_underlying ht, MapKept.run_getObj_map hb, K.check w _ hkey, h1, hz, Result.andThen], ?_⟩
    rw [G.no key h2]
    exact Kd.R_nil _ _ _ _ _
  · refine ⟨x.val, by simp [Instr.lookup, run_underlying ht, MapKept.run_getObj_map hb, K.check w _ hkey, h1, Result.andThen], ?_⟩
    rw [← h3]
    exact G.own j x h2

/-- What g tells, but of one key. -/
noncomputable def upd (g : Value → List Int) (key : Value) (xs : List Int) (v : Value) : List Int := open Classical in if v = key then xs else g v
theorem upd_same (g : Value → List Int) (key : Value) (xs : List Int) : upd g key xs key = xs := by simp [upd]
theorem upd_other (g : Value → List Int) {key v : Value} (xs : List Int) (h : v ≠ key) : upd g key xs v = g v := by simp [upd, h]

/-- 'm[k] op= ..': the entry is there, whatever is done to its row and to new blocks, it is stored back. -/
theorem Grp.entry (h : Grp P k w b base g) (K : Keyed P k) (ht : P.underlying t = some (.map k e)) (hz : ∀ u : World, (zeroValue e).run P u = .ok (.slice none 0 0) u) {key : Value} {kl : Lit} (hkey : keyOf P k key = some kl) :
    ∃ (v : Value) (st : Nat) (w1 : World), (Instr.mapEntry t (.map (some b)) key).run P w = .ok (.tuple #[v, goInt st]) w1 ∧ (Kd.int .i64).R 3 w1 base (fun _ => True) v (g key) ∧ w.grownBy w1 (some b) ∧ w1.heap.size = w.heap.size ∧
      ∀ (w2 : World) (v' : Value) (zs : List Int), w1.grownBy w2 v.ownBlock → (Kd.int .i64).R 3 w2 base (fun _ => True) v' zs → (v'.ownBlock = v.ownBlock ∨ ∃ q, v'.ownBlock = some q ∧ w1.heap.size ≤ q) →
        ∃ w3, (Instr.entryStore t (.map (some b)) (goInt st) v').run P w2 = .ok () w3 ∧ Grp P k w3 b base (upd g key zs) ∧ w2.grownBy w3 (some b) := by
  obtain ⟨es, clock, hb, G⟩ := h
  -- what is alike in both cases: es1 is the array with the entry at place j
  have main : ∀ (es1 : Array MapEntry) (j : Nat) (x : MapEntry), es1[j]? = some x → x.key = key → x.born = j →
      GE P k (setBlock w b (.map es1 es1.size)) base g es1 es1.size →
      ∀ (w2 : World) (v' : Value) (zs : List Int), (setBlock w b (.map es1 es1.size)).grownBy w2 x.val.ownBlock → (Kd.int .i64).R 3 w2 base (fun _ => True) v' zs →
        (v'.ownBlock = x.val.ownBlock ∨ ∃ q, v'.ownBlock = some q ∧ (setBlock w b (.map es1 es1.size)).heap.size ≤ q) →
        ∃ w3, (Instr.entryStore t (.map (some b)) (goInt j) v').run P w2 = .ok () w3 ∧ Grp P k w3 b base (upd g key zs) ∧ w2.grownBy w3 (some b) := by
    intro es1 j x hx hxk hxb G1 w2 v' zs hg hR hloc
    have hb1 : (setBlock w b (.map es1 es1.size)).heap[b]? = some (.map es1 es1.size) := heap_setBlock_same hb _
    have hxo := G1.own j x hx
    have hne : some b ≠ x.val.ownBlock := by
      intro he
      obtain ⟨cells, hc⟩ := Kd.R_typed hxo b he.symm
      rw [hb1] at hc; cases hc
    have hb2 : w2.heap[b]? = some (.map es1 es1.size) := (hg.block b (Array.getElem?_eq_some_iff.1 hb1).1 hne).trans hb1
    have hj : j < es1.size := (Array.getElem?_eq_some_iff.1 hx).1
    have hidx : es1.findIdx? (fun e => ((e.born : Nat) : Int) == ((j : Nat) : Int)) = some j := by
      rw [Array.findIdx?_eq_some_iff_getElem]
      refine ⟨hj, ?_, ?_⟩
      · have := G1.born j es1[j] (by simp [hj])
        simp [this]
      · intro i hi
        have := G1.born i (es1[i]'(by omega)) (by simp)
        simp [this]; omega
    have get : ∀ i y, (es1.modify j (fun e => { e with val := v' }))[i]? = some y → ∃ z, es1[i]? = some z ∧ y.key = z.key ∧ y.born = z.born ∧ ((i = j ∧ y.val = v') ∨ (i ≠ j ∧ y.val = z.val)) := by
      intro i y hy
      rw [Array.getElem?_modify] at hy
      by_cases hij : j = i
      · subst hij
        rw [if_pos rfl, hx] at hy
        simp at hy
        subst hy
        exact ⟨x, hx, rfl, rfl, .inl ⟨rfl, rfl⟩⟩
      · rw [if_neg hij] at hy
        exact ⟨y, hy, rfl, rfl, .inr ⟨fun e => hij e.symm, rfl⟩⟩
    have hsz : (es1.modify j (fun e => { e with val := v' })).size = es1.size := by simp
    refine ⟨setBlock w2 b (.map (es1.modify j (fun e => { e with val := v' })) es1.size), ?_, ⟨_, _, heap_setBlock_same hb2 _, ?_⟩, ?_⟩
    · simp [Instr.entryStore, MapKept.run_getObj_map hb2, asInt, asIntOf, goInt, hidx, MapKept.run_setObj_map _ hb2, Result.andThen, setBlock]
    · have stay : ∀ {v : Value} {ys : List Int}, (Kd.int .i64).R 3 w2 base (fun _ => True) v ys → (Kd.int .i64).R 3 (setBlock w2 b (.map (es1.modify j (fun e => { e with val := v' })) es1.size)) base (fun _ => True) v ys := by
        intro v ys hv
        refine Kd.R_mono (Kd.R_move (Kd.R_bound hv) ?_) (fun _ _ => trivial)
        rintro i ⟨_, _, hi, q, hq, cells, hc⟩
        refine heap_setBlock_other hb2 _ ?_
        rintro rfl
        rw [hb2] at hc; cases hc
      have old : ∀ i y, es1[i]? = some y → i ≠ j → (Kd.int .i64).R 3 w2 base (fun _ => True) y.val (g y.key) := by
        intro i y hy hij
        refine Kd.R_mono (Kd.R_grown (Kd.R_of_own (ok := fun k => some k ≠ x.val.ownBlock) (Kd.own_of_R (G1.own i y hy)) (fun k hk => ?_)) hg (fun k h => h)) (fun _ _ => trivial)
        rcases G1.apart i j y x hy hx hij with h | h
        · rw [h] at hk; cases hk
        · rw [← hk]; exact h
      refine ⟨?_, ?_, ?_, hsz.symm, ?_, ?_, ?_⟩
      · intro i y hy
        obtain ⟨z, hz1, e1, _⟩ := get i y hy
        rw [e1]; exact G1.key i z hz1
      · intro i y hy
        obtain ⟨z, hz1, e1, _, ⟨rfl, e2⟩ | ⟨hij, e2⟩⟩ := get i y hy
        · have : z = x := by rw [hx] at hz1; exact (Option.some.inj hz1).symm
          subst this
          rw [e1, e2, hxk, upd_same]
          exact stay hR
        · have hk : z.key ≠ key := fun he => hij (G1.dist i j z x hz1 hx (he.trans hxk.symm))
          rw [e1, e2, upd_other _ _ hk]
          exact stay (old i z hz1 hij)
      · intro i y hy
        obtain ⟨z, hz1, _, e1, _⟩ := get i y hy
        rw [e1]; exact G1.born i z hz1
      · intro i i' y y' hy hy' he
        obtain ⟨z, hz1, e1, _⟩ := get i y hy
        obtain ⟨z', hz1', e1', _⟩ := get i' y' hy'
        exact G1.dist i i' z z' hz1 hz1' (by rw [← e1, ← e1', he])
      · intro v hv
        have hvk : v ≠ key := by
          rintro rfl
          refine hv j { x with val := v' } ?_ hxk
          rw [Array.getElem?_modify, if_pos rfl, hx]; rfl
        rw [upd_other _ _ hvk]
        refine G1.no v fun i z hz1 he => ?_
        by_cases hij : j = i
        · subst hij
          have : z = x := by rw [hx] at hz1; exact (Option.some.inj hz1).symm
          subst this
          exact hvk (he.symm.trans hxk)
        · refine hv i z ?_ he
          rw [Array.getElem?_modify, if_neg hij]; exact hz1
      · have new_old : ∀ i y, es1[i]? = some y → i ≠ j → (v'.ownBlock = none ∨ v'.ownBlock ≠ y.val.ownBlock) ∧ (y.val.ownBlock = none ∨ y.val.ownBlock ≠ v'.ownBlock) := by
          intro i y hy hij
          rcases hloc with h | ⟨q, h, hq⟩
          · rw [h]
            exact ⟨G1.apart j i x y hx hy (fun e => hij e.symm), G1.apart i j y x hy hx hij⟩
          · have hne : y.val.ownBlock ≠ v'.ownBlock := by
              intro he
              have := Kd.R_lt (G1.own i y hy) q (he.trans h)
              omega
            exact ⟨.inr fun e => hne e.symm, .inr hne⟩
        intro i i' y y' hy hy' hne'
        obtain ⟨z, hz1, _, _, ⟨hi1, e2⟩ | ⟨hij, e2⟩⟩ := get i y hy <;> obtain ⟨z', hz1', _, _, ⟨hi1', e2'⟩ | ⟨hij', e2'⟩⟩ := get i' y' hy'
        · exact absurd (hi1.trans hi1'.symm) hne'
        · rw [e2, e2']; exact (new_old i' z' hz1' hij').1
        · rw [e2, e2']; exact (new_old i z hz1 hij).2
        · rw [e2, e2']; exact G1.apart i i' z z' hz1 hz1' hne'
    · exact ⟨rfl, rfl, rfl, by simp [setBlock], fun i _ hi => heap_setBlock_other hb2 _ (fun e => hi (by rw [e]))⟩
  have stay1 : ∀ (es1 : Array MapEntry) (c1 : Nat) {v : Value} {ys : List Int}, (Kd.int .i64).R 3 w base (fun _ => True) v ys → (Kd.int .i64).R 3 (setBlock w b (.map es1 c1)) base (fun _ => True) v ys := by
    intro es1 c1 v ys hv
    refine Kd.R_mono (Kd.R_move (Kd.R_bound hv) ?_) (fun _ _ => trivial)
    rintro i ⟨_, _, hi, q, hq, cells, hc⟩
    refine heap_setBlock_other hb _ ?_
    rintro rfl
    rw [hb] at hc; cases hc
  have grow1 : ∀ (es1 : Array MapEntry) (c1 : Nat), w.grownBy (setBlock w b (.map es1 c1)) (some b) := fun es1 c1 => ⟨rfl, rfl, rfl, by simp [setBlock], fun i _ hi => heap_setBlock_other hb _ (fun e => hi (by rw [e]))⟩
  rcases G.find K hkey with ⟨h1, h2⟩ | ⟨j, x, h1, h2, h3⟩
  · have hsz : (es.push ⟨key, .slice none 0 0, clock⟩).size = es.size + 1 := by simp
    have get : ∀ i y, (es.push (⟨key, .slice none 0 0, clock⟩ : MapEntry))[i]? = some y → es[i]? = some y ∨ (i = es.size ∧ y = ⟨key, .slice none 0 0, clock⟩) := by
      intro i y hy
      rw [Array.getElem?_push] at hy
      split at hy
      · exact .inr ⟨by assumption, (Option.some.inj hy).symm⟩
      · exact .inl hy
    have G1 : GE P k (setBlock w b (.map (es.push ⟨key, .slice none 0 0, clock⟩) (es.push ⟨key, .slice none 0 0, clock⟩).size)) base g (es.push ⟨key, .slice none 0 0, clock⟩) (es.push ⟨key, .slice none 0 0, clock⟩).size := by
      refine ⟨?_, ?_, ?_, rfl, ?_, ?_, ?_⟩
      · intro i y hy
        rcases get i y hy with h | ⟨_, rfl⟩
        · exact G.key i y h
        · exact ⟨kl, hkey⟩
      · intro i y hy
        rcases get i y hy with h | ⟨_, rfl⟩
        · exact stay1 _ _ (G.own i y h)
        · rw [G.no key h2]; exact Kd.R_nil _ _ _ _ _
      · intro i y hy
        rcases get i y hy with h | ⟨h, rfl⟩
        · exact G.born i y h
        · exact G.clk.trans h.symm
      · intro i i' y y' hy hy' he
        rcases get i y hy with h | ⟨h, rfl⟩ <;> rcases get i' y' hy' with h' | ⟨h', rfl⟩
        · exact G.dist i i' y y' h h' he
        · exact absurd he (h2 i y h)
        · exact absurd he.symm (h2 i' y' h')
        · exact h.trans h'.symm
      · intro v hv
        refine G.no v fun i y hy => hv i y ?_
        rw [Array.getElem?_push, if_neg (by have := (Array.getElem?_eq_some_iff.1 hy).1; omega)]
        exact hy
      · intro i i' y y' hy hy' hne
        rcases get i y hy with h | ⟨h, rfl⟩ <;> rcases get i' y' hy' with h' | ⟨h', rfl⟩
        · exact G.apart i i' y y' h h' hne
        · cases hq : y.val.ownBlock with
          | none => exact .inl rfl
          | some q => exact .inr (by simp [Value.ownBlock])
        · exact .inl rfl
        · exact absurd (h.trans h'.symm) hne
    have hx : (es.push (⟨key, .slice none 0 0, clock⟩ : MapEntry))[es.size]? = some ⟨key, .slice none 0 0, clock⟩ := by simp
    refine ⟨.slice none 0 0, es.size, _, ?_, ?_, grow1 _ _, by simp [setBlock], main _ es.size ⟨key, .slice none 0 0, clock⟩ hx rfl G.clk G1⟩
    · rw [hsz, ← G.clk]
      simp [Instr.mapEntry, run_underlying ht, MapKept.run_getObj_map hb, K.check w false hkey, h1, hz, MapKept.run_setObj_map _ hb, Result.andThen, setBlock]
    · rw [G.no key h2]; exact Kd.R_nil _ _ _ _ _
  · have hmod : es.modify j (fun e => { e with key := key }) = es := by
      apply Array.ext_getElem?
      intro i
      rw [Array.getElem?_modify]
      split
      · rename_i h; subst h; rw [h2]; simp [← h3]
      · rfl
    have G1 : GE P k (setBlock w b (.map es es.size)) base g es es.size := ⟨G.key, fun i y hy => stay1 _ _ (G.own i y hy), G.born, rfl, G.dist, G.no, G.apart⟩
    refine ⟨x.val, j, _, ?_, by rw [← h3]; exact stay1 _ _ (G.own j x h2), grow1 _ _, by simp [setBlock], main es j x h2 h3 (G.born j x h2) G1⟩
    have hj : j < es.size := (Array.getElem?_eq_some_iff.1 h2).1
    have hx : es[j] = x := (Array.getElem?_eq_some_iff.1 h2).2
    rw [← G.clk]
    simp [Instr.mapEntry, run_underlying ht, MapKept.run_getObj_map hb, K.check w false hkey, h1, h2, h3, K.stays w hkey, hmod, G.born j x h2, MapKept.run_setObj_map _ hb, Result.andThen, setBlock]
end
end Go.Proofs.Ytoefligelajfkaa.Press

namespace Go.Proofs.Ytoefligelajfkaa.Press

/-- From n on, as long as the bytes are alike, at most to 'most'. -/
def grow (l : List Int) (f a most : Nat) : Nat → Nat → Nat
  | 0, n => n
  | k + 1, n => if n < most ∧ l.getD (f + n) 0 = l.getD (a + n) 0 then grow l f a most k (n + 1) else n

/-- The search: the places from the nearest on. -/
def findL (l : List Int) (at_ most : Nat) : List Int → Nat → Nat → Nat × Nat
  | [], len, dist => (len, dist)
  | f :: rest, len, dist =>
    if at_ - f.toNat > 1024 then (len, dist)
    else if grow l f.toNat at_ most (most - 3) 3 > len then
      (if grow l f.toNat at_ most (most - 3) 3 = most then (grow l f.toNat at_ most (most - 3) 3, at_ - f.toNat) else findL l at_ most rest (grow l f.toNat at_ most (most - 3) 3) (at_ - f.toNat))
    else if len = most then (len, dist) else findL l at_ most rest len dist

/-- What 'find' answers, the places told (rising). -/
def findS (places : List Int) (l : List Int) (at_ : Nat) : Nat × Nat :=
  if l.length < at_ + 3 then (0, 0) else findL l at_ (min 66 (l.length - at_)) places.reverse 0 0

theorem grow_succ (l : List Int) (f a most k n : Nat) : grow l f a most (k + 1) n = if n < most ∧ l.getD (f + n) 0 = l.getD (a + n) 0 then grow l f a most k (n + 1) else n := rfl
theorem grow_le (l : List Int) (f a most : Nat) : ∀ k n, n ≤ most → grow l f a most k n ≤ most ∧ n ≤ grow l f a most k n := by
  intro k
  induction k with
  | zero => intro n h; exact ⟨h, Nat.le_refl _⟩
  | succ k ih =>
    intro n h
    unfold grow
    split
    · rename_i hc
      have := ih (n + 1) (by omega)
      omega
    · exact ⟨h, Nat.le_refl _⟩

end Go.Proofs.Ytoefligelajfkaa.Press

namespace Go.Proofs.Ytoefligelajfkaa.Press

/-- So many bytes more, each the one that stands so far back. -/
def copyB (back : Nat) : Nat → List Int → List Int
  | 0, out => out
  | k + 1, out => copyB back k (out ++ [out.getD (out.length - back) 0])

/-- The end of an Unpack. -/
def fin (n : Int) (out : List Int) : List Int × Int := if (out.length : Int) < n then ([], 41) else (out, 0)

/-- What is left of an Unpack: the packed bytes that are left, what came so far, what is left of the flag, the items taken of it. -/
def uR (n : Int) : List Int → List Int → Int → Nat → List Int × Int
  | [], out, g, items => if items = 8 then fin n out else if g = 0 then fin n out else ([], 40)
  | [x], out, g, items => if items = 8 then ([], 40) else if g % 2 = 1 then ([], 40) else if (out.length : Int) = n then ([], 41) else uR n [] (out ++ [x]) (g / 2) (items + 1)
  | x :: y :: r, out, g, items =>
    if items = 8 then uR n (y :: r) out x 0
    else if g % 2 = 1 then
      if (out.length : Int) < (256 * x + y) / 64 + 1 then ([], 40)
      else if n < out.length + ((256 * x + y) % 64 + 3) then ([], 41)
      else uR n r (copyB ((256 * x + y) / 64 + 1).toNat ((256 * x + y) % 64 + 3).toNat out) (g / 2) (items + 1)
    else if (out.length : Int) = n then ([], 41)
    else uR n (y :: r) (out ++ [x]) (g / 2) (items + 1)

def unpackS (p : List Int) (n : Int) : List Int × Int := if n < 0 ∨ n > 4096 then ([], 1) else uR n p [] 0 8

theorem uR_eight (n : Int) (p out : List Int) (g g' : Int) : uR n p out g 8 = uR n p out g' 8 := by
  match p with
  | [] => simp [uR]
  | [x] => simp [uR]
  | x :: y :: r => simp [uR]

theorem copyB_length (back k : Nat) : ∀ out, (copyB back k out).length = out.length + k := by
  induction k with
  | zero => intro out; rfl
  | succ k ih => intro out; rw [copyB, ih]; simp; omega

theorem drop_cons (l : List Int) (i : Nat) (h : i < l.length) : l.drop i = l.getD i 0 :: l.drop (i + 1) := by
  rw [List.drop_eq_getElem_cons h, List.getD_eq_getElem?_getD, List.getElem?_eq_getElem h]; rfl

section
variable {n : Int} {l out : List Int} {g : Int} {i items : Nat}
theorem uR_g1 (h : i + 1 = l.length) : uR n (l.drop i) out g 8 = ([], 40) := by
  rw [drop_cons l i (by omega), h, List.drop_length]; simp [uR]
theorem uR_g2 (h : i + 1 < l.length) : uR n (l.drop i) out g 8 = uR n (l.drop (i + 1)) out (l.getD i 0) 0 := by
  rw [drop_cons l i (by omega), drop_cons l (i + 1) h]; simp [uR]
theorem uR_e8 : uR n (l.drop l.length) out g 8 = fin n out := by
  rw [List.drop_length]; simp [uR]
theorem uR_i0 (h : items ≠ 8) (hg : g = 0) : uR n (l.drop l.length) out g items = fin n out := by
  rw [List.drop_length]; simp [uR, h, hg]
theorem uR_i1 (h : items ≠ 8) (hg : g ≠ 0) : uR n (l.drop l.length) out g items = ([], 40) := by
  rw [List.drop_length]; simp [uR, h, hg]
theorem uR_m1 (h : items ≠ 8) (hg : g % 2 = 1) (hi : i + 1 = l.length) : uR n (l.drop i) out g items = ([], 40) := by
  rw [drop_cons l i (by omega), hi, List.drop_length]; simp [uR, h, hg]
theorem uR_m2 (h : items ≠ 8) (hg : g % 2 = 1) (hi : i + 1 < l.length) {v : Int} (hv : v = 256 * l.getD i 0 + l.getD (i + 1) 0) :
    uR n (l.drop i) out g items = if (out.length : Int) < v / 64 + 1 then ([], 40) else if n < out.length + (v % 64 + 3) then ([], 41)
      else uR n (l.drop (i + 2)) (copyB (v / 64 + 1).toNat (v % 64 + 3).toNat out) (g / 2) (items + 1) := by
  rw [drop_cons l i (by omega), drop_cons l (i + 1) hi, hv]; simp [uR, h, hg]
theorem uR_l1 (h : items ≠ 8) (hg : g % 2 ≠ 1) (hi : i < l.length) (hn : (out.length : Int) = n) : uR n (l.drop i) out g items = ([], 41) := by
  rw [drop_cons l i hi]
  generalize l.drop (i + 1) = d
  cases d with
  | nil => rw [uR, if_neg h, if_neg hg, if_pos hn]
  | cons y r => rw [uR, if_neg h, if_neg hg, if_pos hn]
theorem uR_l2 (h : items ≠ 8) (hg : g % 2 ≠ 1) (hi : i < l.length) (hn : (out.length : Int) ≠ n) : uR n (l.drop i) out g items = uR n (l.drop (i + 1)) (out ++ [l.getD i 0]) (g / 2) (items + 1) := by
  rw [drop_cons l i hi]
  generalize l.drop (i + 1) = d
  generalize l.getD i 0 = x
  cases d with
  | nil => exact (show (if items = 8 then _ else if g % 2 = 1 then _ else if (out.length : Int) = n then _ else _) = _ by rw [if_neg h, if_neg hg, if_neg hn])
  | cons y r => rw [uR, if_neg h, if_neg hg, if_neg hn]
end


theorem unpackS_a : unpackS [2, 97, 0, 3] 7 = ([97, 97, 97, 97, 97, 97, 97], 0) := by decide
end Go.Proofs.Ytoefligelajfkaa.Press

namespace Go.Proofs.Ytoefligelajfkaa.Press

/-- As Q; by a goto: J of its label. -/
def jumps (J : Nat → Act → World → Prop) (Q : Exit → Act → World → Prop) : Exit → Act → World → Prop
  | .goto l, a, w => J l a w
  | e, a, w => Q e a w

section
variable {P : Program} {a : Act} {w : World} {Q : Exit → Act → World → Prop}

/-- A scope with several labels: what holds at a jump to each, with a number that every pass lowers. -/
theorem wp_scope_multi {c : Code} (L : Nat → Option Code) (hL : ∀ l rest, L l = some rest → findLabel c l = some rest) (J : Nat → Nat → Act → World → Prop)
    (first : c.wp P (jumps (fun l a' w' => (L l).isSome = true ∧ ∃ n, J n l a' w') Q) a w)
    (pass : ∀ n l rest a w, L l = some rest → J n l a w → rest.wp P (jumps (fun l' a' w' => (L l').isSome = true ∧ ∃ n', n' < n ∧ J n' l' a' w') Q) a w) : (Code.scope c).wp P Q a w := by
  intro b k cs
  have key : ∀ n l rest a w, L l = some rest → J n l a w → ∃ e a' w', Q e a' w' ∧ Arrives P (lone (b.at a (.code rest :: .inScope c :: k)) cs w) b k cs e a' w' := by
    intro n
    induction n using Nat.strongRecOn with
    | _ n ih =>
      intro l rest a w hl hJ
      obtain ⟨e, a₁, w₁, hq, harr⟩ := pass n l rest a w hl hJ b (.inScope c :: k) cs
      cases e with
      | normal => exact ⟨.normal, a₁, w₁, hq, Steps.trans harr (.one step_inScope)⟩
      | exit id => exact ⟨.exit id, a₁, w₁, hq, fun k' hk => harr k' (by simp [exitTo, hk])⟩
      | goto l' =>
        obtain ⟨hs, n', hlt, hJ'⟩ := hq
        obtain ⟨rest', hl'⟩ := Option.isSome_iff_exists.1 hs
        have hg : gotoIn l' (.inScope c :: k) = some (.code rest' :: .inScope c :: k) := by simp [gotoIn, hL l' rest' hl']
        obtain ⟨e₂, a₂, w₂, hq₂, harr₂⟩ := ih n' hlt l' rest' a₁ w₁ hl' hJ'
        exact ⟨e₂, a₂, w₂, hq₂, .of_steps (harr _ hg) harr₂⟩
      | ret => exact ⟨_, a₁, w₁, hq, harr⟩
      | panic ch => exact ⟨_, a₁, w₁, hq, harr⟩
      | outgrown => exact ⟨_, a₁, w₁, hq, harr⟩
  obtain ⟨e, a₁, w₁, hq, harr⟩ := first b (.inScope c :: k) cs
  cases e with
  | normal => exact ⟨.normal, a₁, w₁, hq, .head step_scope (Steps.trans harr (.one step_inScope))⟩
  | exit id => exact ⟨.exit id, a₁, w₁, hq, fun k' hk => .head step_scope (harr k' (by simp [exitTo, hk]))⟩
  | goto l' =>
    obtain ⟨hs, n', hJ'⟩ := hq
    obtain ⟨rest', hl'⟩ := Option.isSome_iff_exists.1 hs
    have hg : gotoIn l' (.inScope c :: k) = some (.code rest' :: .inScope c :: k) := by simp [gotoIn, hL l' rest' hl']
    obtain ⟨e₂, a₂, w₂, hq₂, harr₂⟩ := key n' l' rest' a₁ w₁ hl' hJ'
    exact ⟨e₂, a₂, w₂, hq₂, .of_steps (.head step_scope (harr _ hg)) harr₂⟩
  | ret => exact ⟨_, a₁, w₁, hq, .of_steps (.one step_scope) harr⟩
  | panic ch => exact ⟨_, a₁, w₁, hq, .of_steps (.one step_scope) harr⟩
  | outgrown => exact ⟨_, a₁, w₁, hq, .of_steps (.one step_scope) harr⟩

theorem jumps_mono {J J' : Nat → Act → World → Prop} (h : ∀ l a w, J l a w → J' l a w) : ∀ e a w, jumps J Q e a w → jumps J' Q e a w := by
  intro e a w hq
  cases e with
  | goto l => exact h _ _ _ hq
  | normal => exact hq
  | exit id => exact hq
  | ret => exact hq
  | panic ch => exact hq
  | outgrown => exact hq

def below3 (J : Nat → Nat → Act → World → Prop) (n : Nat) (l : Nat) (a : Act) (w : World) : Prop := (l = 0 ∨ l = 1 ∨ l = 2) ∧ ∃ n', n' < n ∧ J n' l a w
def some3 (J : Nat → Nat → Act → World → Prop) (l : Nat) (a : Act) (w : World) : Prop := (l = 0 ∨ l = 1 ∨ l = 2) ∧ ∃ n', J n' l a w

/-- Three labels: 1 falls into 2, the begin falls into 1. -/
theorem wp_scope_three {c r0 r1 r2 : Code} (J : Nat → Nat → Act → World → Prop) (h0 : findLabel c 0 = some (.seq .skip r0)) (h1 : findLabel c 1 = some (.seq .skip r1)) (h2 : findLabel c 2 = some (.seq .skip r2))
    (p0 : ∀ n a w, J n 0 a w → r0.wp P (jumps (below3 J n) Q) a w)
    (p2 : ∀ n a w, J n 2 a w → r2.wp P (jumps (below3 J n) Q) a w)
    (p1 : ∀ n a w, J n 1 a w → (∀ n' a w, n' < n → J n' 2 a w → r2.wp P (jumps (below3 J n) Q) a w) → r1.wp P (jumps (below3 J n) Q) a w)
    (first : (∀ n' a w, J n' 1 a w → r1.wp P (jumps (some3 J) Q) a w) → c.wp P (jumps (some3 J) Q) a w) : (Code.scope c).wp P Q a w := by
  have le3 : ∀ {n n' : Nat}, n' ≤ n → ∀ l a w, below3 J n' l a w → below3 J n l a w := fun hle l a w ⟨hl, m, hm, hJ⟩ => ⟨hl, m, Nat.lt_of_lt_of_le hm hle, hJ⟩
  have q1 : ∀ n a w, J n 1 a w → r1.wp P (jumps (below3 J n) Q) a w := fun n a w hJ => p1 n a w hJ fun n' a w hlt hJ' => wp_mono (p2 n' a w hJ') (jumps_mono (le3 (Nat.le_of_lt hlt)))
  refine wp_scope_multi (fun l => if l = 0 then some (Code.seq .skip r0) else if l = 1 then some (Code.seq .skip r1) else if l = 2 then some (Code.seq .skip r2) else none) ?_ J ?_ ?_
  · intro l rest hl
    split at hl
    · subst l; rw [h0]; exact hl
    · split at hl
      · subst l; rw [h1]; exact hl
      · split at hl
        · subst l; rw [h2]; exact hl
        · cases hl
  · refine wp_mono (first fun n' a w hJ => wp_mono (q1 n' a w hJ) (jumps_mono fun l a w ⟨hl, m, _, hJ⟩ => ⟨hl, m, hJ⟩)) (jumps_mono ?_)
    rintro l a w ⟨rfl | rfl | rfl, n, hJ⟩ <;> exact ⟨rfl, n, hJ⟩
  · intro n l rest a w hl hJ
    have fin : ∀ l a w, below3 J n l a w → (Option.isSome (if l = 0 then some (Code.seq .skip r0) else if l = 1 then some (Code.seq .skip r1) else if l = 2 then some (Code.seq .skip r2) else none) = true ∧ ∃ n', n' < n ∧ J n' l a w) := by
      rintro l a w ⟨rfl | rfl | rfl, n', hlt, hJ⟩ <;> exact ⟨rfl, n', hlt, hJ⟩
    split at hl
    · subst l; cases hl; exact wp_seq (wp_skip (wp_mono (p0 n a w hJ) (jumps_mono fin)))
    · split at hl
      · subst l; cases hl; exact wp_seq (wp_skip (wp_mono (q1 n a w hJ) (jumps_mono fin)))
      · split at hl
        · subst l; cases hl; exact wp_seq (wp_skip (wp_mono (p2 n a w hJ) (jumps_mono fin)))
        · cases hl
end
end Go.Proofs.Ytoefligelajfkaa.Press

namespace Go.Proofs.Ytoefligelajfkaa.Press
open Go.RowKit Go.Proofs.YtoefligelajfkaaW.PrintWords Go.Proofs.YtoefligelajfkaaW.PrintLast Go.Proofs.YtoefligelajfkaaW.PrintMore

def UFrame (A0 : Option Addr) (c0 : Nat) (l0 : List Int) (n : Int) (vo : Value) (at_ : Nat) (u7 u9 : Value) (a : Act) : Prop :=
  ∃ u10 u11 u12 u13 u14 u15 u16 u17 u18 u19 u20 u21 u22 u23 u24 u25 u26 u27 u28 u29 u30 u31 u32 u33 u34 u35 u36 u37 u38 u39 u40 u41 u42 u43 u44 u45 u46 u47 u48 u49 u50 u51 u52 u53 u54 u55 u56 u57 u58 u59 u60 u61 u62 u63 u64 u65 u66 u67 u68 u69 u70 u71 u72 u73 u74 u75 u76 u77 u78 u79 u80 u81 u82 u83 u84 u85 u86 u87 u88 u89 u90 u91 u92 u93 u94 u95 u96 u97 u98 u99 u100 u101 u102 u103 u104 u105 u106 u107 u108 u109 u110 u111 u112 u113 u114 u115 u116 u117 u118 u119 : Value, a = { tmps := #[.slice A0 l0.length c0, .int .i64 n, undef, undef, .slice none 0 0, .int .i64 0, vo, u7, .int .i64 (at_ : Int), u9, u10, u11, u12, u13, u14, u15, u16, u17, u18, u19, u20, u21, u22, u23, u24, u25, u26, u27, u28, u29, u30, u31, u32, u33, u34, u35, u36, u37, u38, u39, u40, u41, u42, u43, u44, u45, u46, u47, u48, u49, u50, u51, u52, u53, u54, u55, u56, u57, u58, u59, u60, u61, u62, u63, u64, u65, u66, u67, u68, u69, u70, u71, u72, u73, u74, u75, u76, u77, u78, u79, u80, u81, u82, u83, u84, u85, u86, u87, u88, u89, u90, u91, u92, u93, u94, u95, u96, u97, u98, u99, u100, u101, u102, u103, u104, u105, u106, u107, u108, u109, u110, u111, u112, u113, u114, u115, u116, u117, u118, u119], defers := [] }

def UJ (w0 : World) (A0 : Option Addr) (c0 : Nat) (l0 : List Int) (n : Int) (rs : List Int × Int) (m l : Nat) (a : Act) (w : World) : Prop :=
  ∃ (out : List Int) (vo : Value) (at_ : Nat) (u7 u9 : Value), UFrame A0 c0 l0 n vo at_ u7 u9 a ∧ at_ ≤ l0.length ∧ (out.length : Int) ≤ n ∧ Kd.R (Kd.int .u8) 5 w w0.heap.size (fun _ => True) vo out ∧ Below w0.heap.size w0 w ∧
    ((l = 0 ∧ fin n out = rs) ∨ (l = 1 ∧ uR n (l0.drop at_) out 0 8 = rs ∧ m = 2 * (l0.length - at_) + 1) ∨
     (l = 2 ∧ ∃ (flag : Int) (items : Nat), u7 = .int .u8 flag ∧ u9 = .int .i64 items ∧ items ≤ 8 ∧ 0 ≤ flag ∧ flag ≤ 255 ∧ uR n (l0.drop at_) out (flag / 2 ^ items) items = rs ∧ m = 2 * (l0.length - at_) + 2))

theorem half_pow (f : Int) (i : Nat) : f / 2 ^ (i + 1) = f / 2 ^ i / 2 := by
  rw [Int.pow_succ, Int.ediv_ediv_of_nonneg (Int.le_of_lt (Int.pow_pos (by omega)))]
theorem i64_join8 (x y : Int) (h0 : 0 ≤ x) (h1 : x ≤ 255) (h2 : 0 ≤ y) (h3 : y ≤ 255) : bits .or .i64 (x * 256) y = x * 256 + y :=
  bits_join .i64 16 (by decide) (fun n a b => IntWalk.i64_in n (by omega)) 8 (x * 256) y (by omega) (by omega) (by omega) (by omega) (by omega) (by omega)
theorem i64_and63 (x : Int) (h0 : 0 ≤ x) (h1 : x ≤ 65535) : bits .and .i64 x 63 = x % 64 :=
  bits_mask .i64 16 (by decide) (fun n a b => IntWalk.i64_in n (by omega)) 6 (by decide) x h0 (by omega)
theorem rd_byte {l : List Int} (h : ∀ x ∈ l, 0 ≤ x ∧ x ≤ 255) (i : Int) : 0 ≤ rd l i ∧ rd l i ≤ 255 := by
  unfold rd
  rw [List.getD_eq_getElem?_getD]
  cases hi : l[i.toNat]? with
  | none => simp
  | some x => exact h x (List.mem_of_getElem? hi)
theorem info5 : (Try.prog.info? 5).map (fun i => (i.zero, i.size, i.bytes)) = some (some (.int .u8 0), 1, 1) := by kernel_rfl

set_option maxHeartbeats 4000000 in
set_option maxRecDepth 100000 in
theorem unpack_walk (A0 : Option Addr) (c0 : Nat) (l0 : List Int) (N : Nat) (w : World) (hr0 : Kd.C (Kd.int .u8) w A0 l0.length l0) (hby : ∀ x ∈ l0, 0 ≤ x ∧ x ≤ 255)
    (hl : l0.length ≤ 140737488355328) (hn : N ≤ 4096) :
    Calls Try.prog 25 #[.slice A0 l0.length c0, .int .i64 (N : Int)] w fun e w' => ∃ v, e = .returned (.tuple #[v, .int .i64 (uR N l0 [] 0 8).2]) ∧
      Kd.R (Kd.int .u8) 5 w' w.heap.size (fun _ => True) v (uR N l0 [] 0 8).1 ∧ Below w.heap.size w w' := by
  obtain ⟨i0, hi, hz0, hz1, hz2⟩ := info_parts info5
  have HI := Aside0.mk hi
  have HZ0 := Aside0.mk hz0
  have HZ1 := Aside0.mk hz1
  have HZ2 := Aside0.mk hz2
  clear hi hz0 hz1 hz2
  have hd0 : decide ((N : Int) < 0) = false := by simp
  have hd1 : decide ((N : Int) > 4096) = false := by simp; omega
  have hd2 : decide ((4096 : Int) < N) = false := by simp; omega
  obtain ⟨rs, hrs⟩ : ∃ rs, uR N l0 [] 0 8 = rs := ⟨_, rfl⟩
  rw [hrs]
  have HRS := Aside0.mk hrs
  clear hrs
  go_enter Try.func25, Try.ntmps25
  go_wp2
  refine wp_scope_three (UJ w A0 c0 l0 N rs) rfl rfl rfl ?_ ?_ ?_ ?_
  · intro m a w' hJ
    obtain ⟨out, vo, at_, u7, u9, hF, _, _, HR, HB, h0 | ⟨h, _⟩ | ⟨h, _⟩⟩ := hJ
    case inr.inl => cases h
    case inr.inr => cases h
    obtain ⟨_, h0⟩ := h0
    unfold UFrame at hF
    iterate 110 (obtain ⟨_, hF⟩ := hF)
    subst hF
    have HO := Aside0.mk HR
    obtain ⟨Ao, co, eo⟩ := Kd.R_slice HR
    clear HR
    subst eo
    have HB' := Aside0.mk HB
    clear HB
    unfold fin at h0
    by_cases hlt : (out.length : Int) < N
    · rw [if_pos hlt] at h0
      subst h0
      have hlt' : decide (out.length < N) = true := by simp; omega
      go_wp2
      simp only [jumps]
      go_ret2
      exact ⟨_, rfl, Kd.R_nil _ _ _ _ _, HB'.out⟩
    · rw [if_neg hlt] at h0
      subst h0
      have hlt' : decide (out.length < N) = false := by simp; omega
      go_wp2
      simp only [jumps]
      go_ret2
      exact ⟨_, rfl, HO.out, HB'.out⟩
  · intro m a w' hJ
    obtain ⟨out, vo, at_, u7, u9, hF, hat, hol, HR, HB, ⟨h, _⟩ | ⟨h, _⟩ | ⟨_, flag, items, rfl, rfl, hi8, hf0, hf1, hu, hm⟩⟩ := hJ
    case inl => cases h
    case inr.inl => cases h
    unfold UFrame at hF
    iterate 110 (obtain ⟨_, hF⟩ := hF)
    subst hF
    have HO := Aside0.mk HR
    have HB' := Aside0.mk HB
    clear HB
    have HU := Aside0.mk hu
    clear hu
    have HM := Aside0.mk hm
    clear hm
    have HM1 := Aside0.mk hn
    obtain ⟨Ao, co, eo⟩ := Kd.R_slice HR
    clear HR
    subst eo
    by_cases h8 : items = 8
    · subst h8
      go_wp2
      go_step3
      show below3 _ _ 1 _ _
      refine ⟨Or.inr (Or.inl rfl), _, ?_, out, _, at_, .int .u8 flag, .int .i64 8, ?_, hat, hol, HO.out, HB'.out, Or.inr (Or.inl ⟨rfl, (uR_eight _ _ _ _ _).trans HU.out, rfl⟩)⟩
      · rw [HM.out]; omega
      · unfold UFrame
        repeat apply Exists.intro
        rfl
    · have h8' : ((items : Int) == 8) = false := by simp; omega
      have h8'' : (items == 8) = false := by simp; omega
      by_cases he : at_ = l0.length
      · have he' : (at_ == l0.length) = true := by simp [he]
        have HE := Aside0.mk he
        clear he
        by_cases hz : flag / 2 ^ items = 0
        · have hz' : (flag / 2 ^ items != 0) = false := by simp [hz]
          have HZ := Aside0.mk hz
          clear hz
          go_wp2
          go_step3
          show below3 _ _ 0 _ _
          refine ⟨Or.inl rfl, 0, by rw [HM.out]; omega, out, _, at_, .int .u8 flag, .int .i64 items, ?_, hat, hol, HO.out, HB'.out, Or.inl ⟨rfl, ?_⟩⟩
          · unfold UFrame
            repeat apply Exists.intro
            rfl
          · have h1 := HU.out
            rw [HE.out, uR_i0 h8 HZ.out] at h1
            exact h1
        · have hz' : (flag / 2 ^ items != 0) = true := by simp [hz]
          have HZ := Aside0.mk hz
          clear hz
          go_wp2
          simp only [jumps]
          have h1 := HU.out
          rw [HE.out, uR_i1 h8 HZ.out] at h1
          subst h1
          go_ret2
          exact ⟨_, rfl, Kd.R_nil _ _ _ _ _, HB'.out⟩
      · have he' : (at_ == l0.length) = false := by simp [he]
        have hlt : at_ < l0.length := by omega
        have hfb : 0 ≤ flag / 2 ^ items ∧ flag / 2 ^ items < 256 := by
          have hp : (1 : Int) ≤ 2 ^ items := by exact_mod_cast Nat.one_le_two_pow
          exact ⟨Int.ediv_nonneg hf0 (by omega), by have := Int.ediv_le_self (2 ^ items) hf0; omega⟩
        have hand : bits .and .u8 (flag / 2 ^ items) 1 = flag / 2 ^ items % 2 := bits_mask .u8 8 (by decide) wraps_u8 1 (by decide) _ hfb.1 hfb.2
        clear he
        by_cases hg : flag / 2 ^ items % 2 = 1
        · have hg' : (bits .and .u8 (flag / 2 ^ items) 1 == 1) = true := by rw [hand, hg]; rfl
          have HG := Aside0.mk hg
          clear hg hand
          by_cases h2 : at_ + 2 ≤ l0.length
          · have h2' : (at_ : Int) + 2 ≤ (l0.length : Int) := by omega
            obtain ⟨ad, e0, hx⟩ := Kd.at_int (Kd.C_below hr0 HB'.out) (at_ : Int) (by omega) (by omega)
            cases e0
            obtain ⟨j1, hj1⟩ : ∃ j1 : Nat, j1 = at_ + 1 := ⟨_, rfl⟩
            obtain ⟨ad', e1, hx1⟩ := Kd.at_int (Kd.C_below hr0 HB'.out) (j1 : Int) (by omega) (by omega)
            cases e1
            simp only [Int.toNat_natCast] at hx hx1
            have hj2 : (at_ : Int) + 1 = (j1 : Int) := by omega
            have hj3 : IntKind.i64.wrap ((at_ : Int) + 1) = (j1 : Int) := by rw [hj2]; exact IntWalk.i64_in _ (by omega)
            have hj4 : j1 < l0.length := by omega
            have hb0 := rd_byte hby (at_ : Int)
            have hb1 := rd_byte hby (j1 : Int)
            have HJ1 := Aside0.mk hj1
            clear hj1
            obtain ⟨v, hv⟩ : ∃ v : Int, v = 256 * rd l0 at_ + rd l0 j1 := ⟨_, rfl⟩
            have hv1 : bits .or .i64 (rd l0 (at_ : Int) * 256) (rd l0 (j1 : Int)) = v := by
              rw [hv, show 256 * rd l0 (at_ : Int) = rd l0 (at_ : Int) * 256 by omega]
              exact i64_join8 _ _ hb0.1 hb0.2 hb1.1 hb1.2
            have hv2 : 0 ≤ v := by omega
            have hv3 : v ≤ 65535 := by omega
            obtain ⟨bk, hbk⟩ : ∃ bk : Nat, v / 64 + 1 = (bk : Int) := ⟨(v / 64 + 1).toNat, by omega⟩
            obtain ⟨K, hK⟩ : ∃ K : Nat, v % 64 + 3 = (K : Int) := ⟨(v % 64 + 3).toNat, by omega⟩
            have hv4 : bits .and .i64 v 63 = v % 64 := i64_and63 v hv2 hv3
            have hbk1 : 1 ≤ bk := by omega
            have hbk2 : bk ≤ 1025 := by omega
            have hK1 : 3 ≤ K := by omega
            have hK2 : K ≤ 66 := by omega
            have h1 := HU.out
            rw [uR_m2 h8 HG.out (by have := HJ1.out; omega) (v := v) (by rw [hv]; simp [rd, HJ1.out]), hbk, hK] at h1
            simp only [Int.toNat_natCast] at h1
            have HV := Aside0.mk hv
            clear hv
            by_cases hc1 : (out.length : Int) < bk
            · rw [if_pos hc1] at h1
              subst h1
              go_wp2
              go_quiet (fail)
              go_wp2
              simp only [jumps]
              go_ret2
              exact ⟨_, rfl, Kd.R_nil _ _ _ _ _, pw_below_drewN HB'.out _⟩
            · rw [if_neg hc1] at h1
              have hc1' : (bk : Int) ≤ out.length := by omega
              by_cases hc2 : (N : Int) < out.length + K
              · rw [if_pos hc2] at h1
                subst h1
                go_wp2
                go_quiet (fail)
                go_wp2
                simp only [jumps]
                go_ret2
                exact ⟨_, rfl, Kd.R_nil _ _ _ _ _, pw_below_drewN HB'.out _⟩
              · rw [if_neg hc2] at h1
                have hc2' : (out.length : Int) + K ≤ N := by omega
                have hcb : decide (out.length < bk) = false := by simp; omega
                clear hc1 hc2
                have H1 := Aside0.mk h1
                clear h1
                go_wp2
                go_quiet (fail)
                go_wp2
                have HA0 := Aside0.mk (⟨Kd.R_drewN HO.out nq, pw_below_drewN HB'.out nq⟩ : Kd.R (Kd.int .u8) 5 (w'.drewN nq) w.heap.size (fun _ => True) (.slice Ao out.length co) out ∧ Below w.heap.size w (w'.drewN nq))
                clear HO HB' hx hx1 hv1 hv4 hbk hK
                generalize World.drewN w' nq = wq at HA0
                go_loopg [6, 12] K (fun k v6 v12 w2 => ∃ out2 : List Int, v12 = .int .i64 (k : Int) ∧ k ≤ K ∧ Aside0 (copyB bk k out2 = copyB bk K out ∧ Kd.R (Kd.int .u8) 5 w2 w.heap.size (fun _ => True) v6 out2 ∧ Below w.heap.size w w2) ∧ Aside0 (out2.length + k = out.length + K))
                case atStart => exact ⟨out, rfl, Nat.le_refl _, ⟨rfl, HA0.out.1, HA0.out.2⟩, ⟨rfl⟩⟩
                case round =>
                  obtain ⟨out2, rfl, hkK, HA, HLN⟩ := hrel
                  have hlen1 : out2.length + gk ≤ out.length + K := by rw [HLN.out]; omega
                  have hlen3 : out.length + K ≤ out2.length + gk := by rw [HLN.out]; omega
                  by_cases hk0 : gk = 0
                  · subst hk0
                    obtain ⟨Ao2, co2, eo2⟩ := Kd.R_slice HA.out.2.1
                    subst eo2
                    go_wp2
                    go_step3
                    show below3 _ _ 2 _ _
                    have h1 := H1.out
                    have h2 := HA.out.1
                    simp only [copyB] at h2
                    refine ⟨Or.inr (Or.inr rfl), 2 * (l0.length - (at_ + 2)) + 2, by rw [HM.out]; omega, out2, _, at_ + 2, .int .u8 flag, .int .i64 (items + 1 : Nat), ?_, by omega, by omega, HA.out.2.1, HA.out.2.2, Or.inr (Or.inr ⟨rfl, flag, items + 1, rfl, rfl, by omega, hf0, hf1, ?_, rfl⟩)⟩
                    · unfold UFrame
                      repeat apply Exists.intro
                      rfl
                    · rw [h2, half_pow]; exact h1
                  · have hk0' : (0 : Int) < (gk : Int) := by omega
                    obtain ⟨Ao2, co2, eo2⟩ := Kd.R_slice HA.out.2.1
                    subst eo2
                    obtain ⟨ji, hji⟩ : ∃ ji : Nat, (out2.length : Int) - (bk : Int) = (ji : Int) := ⟨out2.length - bk, by omega⟩
                    have hji2 : ji < out2.length := by omega
                    have hji3 : (ji : Int) < (out2.length : Int) := by omega
                    obtain ⟨ad3, e3, hx3⟩ := Kd.at_int (Kd.R_reads' HA.out.2.1).2.2 (ji : Int) (by omega) (by omega)
                    cases e3
                    simp only [Int.toNat_natCast] at hx3
                    obtain ⟨k', rfl⟩ : ∃ k', gk = k' + 1 := ⟨gk - 1, by omega⟩
                    have hlen2 : out2.length ≤ 4096 := by omega
                    have HJ := Aside0.mk hji
                    go_wp2_with (at_builtin; refine Kd.R_append (Kd.int .u8) (w0 := w) w.heap.size rfl (.tmp 88) (.tmp 96) 22 5 (.int .u8 0) 1 rfl Try.underlying22 info5 rfl (by decide) (by omega) (.slice (some ad3) out2.length co2) out2 (rd out2 ji) [.int .u8 (rd out2 ji)] (fun _ => True) (fun _ => False) rfl rfl rfl (fun _ hk => hk.elim) (fun _ _ => trivial) HA.out.2.1 HA.out.2.2 HA.out.2.2.size (by omega) ?_; intro v1 w1 ho hb hg hat')
                    go_roundg k'
                    case measure => omega
                    case rel =>
                      refine ⟨out2 ++ [rd out2 ji], by go_num, by omega, ⟨?_, ho, hb⟩, ⟨by simp; omega⟩⟩
                      rw [← HA.out.1, copyB]
                      have : out2.length - bk = ji := by have := HJ.out; omega
                      rw [this]
                      simp [rd]
          · have h2' : (l0.length : Int) < (at_ : Int) + 2 := by omega
            go_wp2
            simp only [jumps]
            have h1 := HU.out
            rw [uR_m1 h8 HG.out (by omega)] at h1
            subst h1
            go_ret2
            exact ⟨_, rfl, Kd.R_nil _ _ _ _ _, HB'.out⟩
        · have hg' : (bits .and .u8 (flag / 2 ^ items) 1 == 1) = false := by rw [hand]; simpa using hg
          have HG := Aside0.mk hg
          clear hg hand
          by_cases hN : (out.length : Int) = N
          · have hN' : ((out.length : Int) == (N : Int)) = true := by simpa using hN
            have hN'' : (out.length == N) = true := by simp; omega
            have HN := Aside0.mk hN
            clear hN
            go_wp2
            simp only [jumps]
            have h1 := HU.out
            rw [uR_l1 h8 HG.out hlt HN.out] at h1
            subst h1
            go_ret2
            exact ⟨_, rfl, Kd.R_nil _ _ _ _ _, HB'.out⟩
          · have hN' : ((out.length : Int) == (N : Int)) = false := by simpa using hN
            have hN'' : (out.length == N) = false := by simp; omega
            have HN := Aside0.mk hN
            clear hN
            obtain ⟨ad, e0, hx⟩ := Kd.at_int (Kd.C_below hr0 HB'.out) (at_ : Int) (by omega) (by omega)
            cases e0
            simp only [Int.toNat_natCast] at hx
            go_wp2_with (at_builtin; refine Kd.R_append (Kd.int .u8) (w0 := w) w.heap.size rfl (.tmp 104) (.tmp 109) 22 5 (.int .u8 0) 1 rfl Try.underlying22 info5 rfl (by decide) (by omega) (.slice Ao out.length co) out (rd l0 at_) [.int .u8 (rd l0 at_)] (fun _ => True) (fun _ => False) rfl rfl rfl (fun _ hk => hk.elim) (fun _ _ => trivial) HO.out HB'.out HB'.out.size (by omega) ?_; intro v1 w1 ho hb hg hat')
            go_step3
            show below3 _ _ 2 _ _
            have h1 := HU.out
            rw [uR_l2 h8 HG.out hlt HN.out] at h1
            refine ⟨Or.inr (Or.inr rfl), 2 * (l0.length - (at_ + 1)) + 2, by rw [HM.out]; omega, out ++ [rd l0 at_], _, at_ + 1, .int .u8 flag, .int .i64 (items + 1 : Nat), ?_, by omega, ?_, ho, hb, Or.inr (Or.inr ⟨rfl, flag, items + 1, rfl, rfl, by omega, hf0, hf1, ?_, rfl⟩)⟩
            · unfold UFrame
              repeat apply Exists.intro
              rfl
            · simp; have := HN.out; omega
            · rw [← h1, half_pow]; simp [rd]
  · intro m a w' hJ hitem
    obtain ⟨out, vo, at_, u7, u9, hF, hat, hol, HR, HB, ⟨h, _⟩ | ⟨_, hu, hm⟩ | ⟨h, _⟩⟩ := hJ
    case inl => cases h
    case inr.inr => cases h
    unfold UFrame at hF
    iterate 110 (obtain ⟨_, hF⟩ := hF)
    subst hF
    have HO := Aside0.mk HR
    clear HR
    have HB' := Aside0.mk HB
    clear HB
    have HU := Aside0.mk hu
    clear hu
    have HM := Aside0.mk hm
    clear hm
    have HM1 := Aside0.mk hn
    by_cases he : at_ = l0.length
    · have he' : (at_ == l0.length) = true := by simp [he]
      have HE := Aside0.mk he
      clear he
      go_wp2
      go_step3
      show below3 _ _ 0 _ _
      refine ⟨Or.inl rfl, 0, by rw [HM.out]; omega, out, vo, at_, u7, u9, ?_, hat, hol, HO.out, HB'.out, Or.inl ⟨rfl, ?_⟩⟩
      · unfold UFrame
        repeat apply Exists.intro
        rfl
      · have h1 := HU.out
        rw [HE.out, List.drop_length] at h1
        simpa [uR] using h1
    · have he' : (at_ == l0.length) = false := by simp [he]
      have hlt : at_ < l0.length := by omega
      clear he
      obtain ⟨ad, e0, hx⟩ := Kd.at_int (Kd.C_below hr0 HB'.out) (at_ : Int) (by omega) (by omega)
      cases e0
      simp only [Int.toNat_natCast] at hx
      go_wp2
      · have hq : ((at_ : Int) + 1 == (l0.length : Int)) = true := by assumption
        simp only [jumps]
        have h1 := HU.out
        rw [uR_g1 (by simp at hq; omega : at_ + 1 = l0.length)] at h1
        subst h1
        go_ret2
        exact ⟨_, rfl, Kd.R_nil _ _ _ _ _, HB'.out⟩
      · have hq : ((at_ : Int) + 1 == (l0.length : Int)) = false := by assumption
        have hq' : at_ + 1 ≠ l0.length := by simp at hq; omega
        go_step3
        go_step
        go_step
        refine hitem (2 * (l0.length - (at_ + 1)) + 2) _ _ (by rw [HM.out]; omega) ?_
        have h1 := HU.out
        rw [uR_g2 (by omega)] at h1
        refine ⟨out, vo, at_ + 1, _, _, ?_, by omega, hol, HO.out, HB'.out, Or.inr (Or.inr ⟨rfl, rd l0 at_, 0, rfl, rfl, by omega, ?_, ?_, ?_, rfl⟩)⟩
        · unfold UFrame
          repeat apply Exists.intro
          rfl
        · exact (rd_byte hby at_).1
        · exact (rd_byte hby at_).2
        · simpa [rd] using h1
  · intro hgroup
    go_wp2_with (at_make; refine wpList_make_own _ rfl _ _ 22 rfl w.heap.size 5 i0 (.int .u8 0) 1 Try.underlying22 HI.out HZ0.out HZ1.out .i64 .i64 _ N rfl rfl rfl (by rw [HZ2.out]; omega) (by simp only [maxLen]; omega) (Nat.le_refl _) ?_)
    intro w1 hown hgrow
    go_wp2
    go_step3
    go_step
    go_step
    refine hgroup (2 * (l0.length - 0) + 1) _ _ ?_
    refine ⟨[], _, 0, .int .u8 0, .int .i64 0, ?_, Nat.zero_le _, by simp, Kd.R_of_own (by simp [encs]; exact hown) (fun _ _ => trivial), (Below.refl _ _).grown hgrow (Nat.le_refl _) (by simp), Or.inr (Or.inl ⟨rfl, HRS.out, rfl⟩)⟩
    unfold UFrame
    repeat apply Exists.intro
    rfl

/-- press.Unpack of any bytes and any number: what 'unpackS' says; new memory. -/
theorem unpack_any (A0 : Option Addr) (c0 : Nat) (l0 : List Int) (n : Int) (w : World) (hr0 : Kd.C (Kd.int .u8) w A0 l0.length l0) (hby : ∀ x ∈ l0, 0 ≤ x ∧ x ≤ 255)
    (hl : l0.length ≤ 140737488355328) :
    Calls Try.prog 25 #[.slice A0 l0.length c0, .int .i64 n] w fun e w' => ∃ v, e = .returned (.tuple #[v, .int .i64 (unpackS l0 n).2]) ∧
      Kd.R (Kd.int .u8) 5 w' w.heap.size (fun _ => True) v (unpackS l0 n).1 ∧ Below w.heap.size w w' := by
  by_cases h : n < 0 ∨ n > 4096
  · have hs : unpackS l0 n = ([], 1) := by unfold unpackS; rw [if_pos h]
    rw [hs]
    by_cases h0 : n < 0
    · have hd : decide (n < 0) = true := by simpa using h0
      go_enter Try.func25, Try.ntmps25
      go_wp2
      go_step3
      go_wp2
      rw [Exit.noGoto_ret]
      go_ret2
      exact ⟨_, rfl, Kd.R_nil _ _ _ _ _, Below.refl _ _⟩
    · have h1 : 4096 < n := by omega
      have hd : decide (n < 0) = false := by simpa using h0
      have hd2 : decide (4096 < n) = true := by simpa using h1
      go_enter Try.func25, Try.ntmps25
      go_wp2
      go_step3
      go_wp2
      rw [Exit.noGoto_ret]
      go_ret2
      exact ⟨_, rfl, Kd.R_nil _ _ _ _ _, Below.refl _ _⟩
  · obtain ⟨N, rfl⟩ := Int.eq_ofNat_of_zero_le (show 0 ≤ n by omega)
    have hs : unpackS l0 (N : Int) = uR N l0 [] 0 8 := by unfold unpackS; rw [if_neg h]
    rw [hs]
    exact unpack_walk A0 c0 l0 N w hr0 hby hl (by omega)
end Go.Proofs.Ytoefligelajfkaa.Press

namespace Go.Proofs.Ytoefligelajfkaa.Press
open Go.RowKit Go.Proofs.YtoefligelajfkaaW.PrintWords Go.Proofs.YtoefligelajfkaaW.PrintLast Go.Proofs.YtoefligelajfkaaW.PrintMore Go.Proofs.Ytoefligelajfkaa.PPressSpoilt

theorem w64 {x : Int} (h0 : -9223372036854775808 ≤ x) (h1 : x ≤ 9223372036854775807) : wrap64 x = x := IntWalk.wrap64_in x ⟨h0, h1⟩

theorem rd_nat (l : List Int) (i : Nat) : rd l (i : Int) = l.getD i 0 := by simp [rd]

/-- The reference's inner loop copies. -/
theorem ref_copy (p : List Int) (n : Int) (at_ g bit v : Int) (bk : Nat) (hv0 : 0 ≤ v) (hv1 : v ≤ 65535) (hbk : v / 64 + 1 = bk) (K : Nat) : ∀ (k : Nat) (out : List Int), bk ≤ out.length → out.length + K ≤ 5000 →
    freightref4_Unpack.l2 (k + K + 1) p n out at_ g bit v (K : Int) = freightref4_Unpack.l1 k p n (copyB bk K out) at_ g (wrap64 (bit + 1)) := by
  induction K with
  | zero =>
    intro k out _ _
    show freightref4_Unpack.l2 (k + 1) p n out at_ g bit v 0 = _
    simp only [freightref4_Unpack.l2]
    rw [if_neg (by omega)]
    rfl
  | succ K ih =>
    intro k out hb hl
    obtain ⟨m, hm⟩ : ∃ m, m = k + K + 1 := ⟨_, rfl⟩
    rw [show k + (K + 1) + 1 = m + 1 by omega]
    simp only [freightref4_Unpack.l2]
    subst hm
    have ht : Int.tdiv v 64 = v / 64 := Int.tdiv_eq_ediv_of_nonneg hv0
    rw [ht, w64 (x := v / 64) (by omega) (by omega), w64 (x := (out.length : Int) - v / 64) (by omega) (by omega), w64 (x := (out.length : Int) - v / 64 - 1) (by omega) (by omega)]
    rw [if_pos (by omega), if_pos (by omega), if_pos (by omega), if_pos (by omega), w64 (by omega) (by omega)]
    have e1 : ((K + 1 : Nat) : Int) - 1 = (K : Int) := by omega
    have e2 : (out.length : Int) - v / 64 - 1 = ((out.length - bk : Nat) : Int) := by omega
    rw [e1, e2, rd_nat, ih k (out ++ [out.getD (out.length - bk) 0]) (by simp; omega) (by simp; omega)]
    rfl

/-- What is left of the flag fits into the bits that are left. -/
structure Fits (g : Int) (bit : Nat) : Prop where mk :: (out : g < 2 ^ (8 - bit))
theorem Fits.half {g : Int} {bit : Nat} (h : Fits g bit) (hb : bit ≤ 7) : Fits (g / 2) (bit + 1) := by
  refine ⟨?_⟩
  have h1 := h.out
  have e : 8 - bit = (8 - (bit + 1)) + 1 := by omega
  rw [e, Int.pow_succ] at h1
  generalize (2 : Int) ^ (8 - (bit + 1)) = q at h1 ⊢
  omega
theorem Fits.le {g : Int} {bit : Nat} (h : Fits g bit) : g < 256 := by
  have h1 := h.out
  have h2 : (2 : Int) ^ (8 - bit) ≤ 2 ^ 8 := by exact_mod_cast (Nat.pow_le_pow_right (by omega) (by omega) : 2 ^ (8 - bit) ≤ 2 ^ 8)
  generalize (2 : Int) ^ (8 - bit) = q at h1 h2
  omega
theorem Fits.last {g : Int} (h : Fits g 7) : g < 2 := h.out
theorem Fits.byte {g : Int} (h : g ≤ 255) : Fits g 0 := ⟨by show g < 256; omega⟩

theorem w64n {x : Int} {n : Nat} (h : x = n) (hn : n ≤ 9223372036854775807) : wrap64 x = n := by rw [h, w64 (by omega) (by omega)]

set_option maxHeartbeats 1000000 in
theorem ref_run (p : List Int) (N : Nat) (hN : N ≤ 4096) (hp : p.length ≤ 140737488355328) (hby : ∀ x ∈ p, 0 ≤ x ∧ x ≤ 255) :
    ∀ (M d : Nat) (k at_ bit : Nat) (g : Int) (out : List Int), M = 80 * d + (9 - bit) → d + at_ = p.length → out.length ≤ N → bit ≤ 8 → M + 1 ≤ k → 0 ≤ g → Fits g bit →
      freightref4_Unpack.l1 k p N out at_ g bit = some (uR N (p.drop at_) out g bit) ∧ (bit = 8 → freightref4_Unpack.l0 (k - 1) p N out at_ = some (uR N (p.drop at_) out 0 8)) := by
  intro M
  induction M using Nat.strongRecOn with
  | _ M ih =>
    intro d k at_ bit g out hM hd ho hb hk hg0 hg1
    have L0 : bit = 8 → freightref4_Unpack.l0 (k - 1) p N out at_ = some (uR N (p.drop at_) out 0 8) := by
      rintro rfl
      obtain ⟨k, rfl⟩ : ∃ m, k = m + 2 := ⟨k - 2, by omega⟩
      show freightref4_Unpack.l0 (k + 1) p N out at_ = _
      simp only [freightref4_Unpack.l0]
      by_cases h : at_ < p.length
      · rw [if_pos (by omega), if_pos (by omega), w64n (n := at_ + 1) (by omega) (by omega)]
        by_cases h1 : at_ + 1 = p.length
        · rw [if_pos (by omega), uR_g1 h1]
        · have hb0 := rd_byte hby (at_ : Int)
          rw [if_neg (by omega), uR_g2 (by omega), w64 (x := rd p (at_ : Int)) (by omega) (by omega)]
          have := (ih (80 * (d - 1) + 9) (by omega) (d - 1) k (at_ + 1) 0 (rd p at_) out rfl (by omega) ho (by omega) (by omega) hb0.1 (Fits.byte hb0.2)).1
          rw [rd_nat] at this
          rw [rd_nat]
          exact this
      · have : at_ = p.length := by omega
        subst this
        rw [if_neg (by omega), uR_e8]
        simp only [fin]
        by_cases hf : (out.length : Int) < N
        · rw [if_pos hf, if_pos hf]
        · rw [if_neg hf, if_neg hf]
    refine ⟨?_, L0⟩
    obtain ⟨k, rfl⟩ : ∃ m, k = m + 1 := ⟨k - 1, by omega⟩
    simp only [freightref4_Unpack.l1]
    by_cases h8 : bit = 8
    · rw [if_neg (by omega)]
      have := L0 h8
      simp only [Nat.add_sub_cancel] at this
      rw [this, h8, uR_eight]
    · clear L0
      rw [if_pos (by omega)]
      have hg256 := hg1.le
      have hgh := hg1.half (by omega)
      rw [Int.tmod_eq_emod_of_nonneg hg0, Int.tdiv_eq_ediv_of_nonneg hg0, w64 (x := g / 2) (by omega) (by omega), w64n (x := (bit : Int) + 1) (n := bit + 1) (by omega) (by omega)]
      by_cases he : at_ = p.length
      · subst he
        rw [if_pos rfl]
        have h3 := (ih (80 * d + (9 - (bit + 1))) (by omega) d k p.length (bit + 1) (g / 2) out rfl hd ho (by omega) (by omega) (by omega) hgh).1
        clear ih
        by_cases hz : g = 0
        · rw [if_neg (by omega), uR_i0 h8 hz, h3]
          by_cases h7 : bit + 1 = 8
          · rw [h7, uR_e8]
          · rw [uR_i0 h7 (by omega)]
        · rw [uR_i1 h8 hz]
          by_cases h1 : g % 2 = 1
          · rw [if_pos h1]
          · rw [if_neg h1, h3]
            have h7 : bit + 1 ≠ 8 := by
              intro h7
              obtain rfl : bit = 7 := by omega
              have := hg1.last
              omega
            rw [uR_i1 h7 (by omega)]
      · rw [if_neg (by omega)]
        have hlt : at_ < p.length := by omega
        have hb0 := rd_byte hby (at_ : Int)
        by_cases h1 : g % 2 = 1
        · rw [if_pos h1, w64n (x := (at_ : Int) + 1) (n := at_ + 1) (by omega) (by omega)]
          by_cases h2 : at_ + 1 = p.length
          · rw [if_pos (by omega), uR_m1 h8 h1 h2]
          · have hb1 := rd_byte hby ((at_ + 1 : Nat) : Int)
            rw [if_neg (by omega), if_pos (by omega), if_pos (by omega), if_pos (by omega), if_pos (by omega)]
            rw [w64 (x := rd p (at_ : Int)) (by omega) (by omega), w64 (x := rd p ((at_ + 1 : Nat) : Int)) (by omega) (by omega), w64 (x := 256 * rd p (at_ : Int)) (by omega) (by omega)]
            obtain ⟨v, hv⟩ : ∃ v : Int, v = 256 * rd p (at_ : Int) + rd p ((at_ + 1 : Nat) : Int) := ⟨_, rfl⟩
            rw [← hv]
            have hv0 : 0 ≤ v := by omega
            have hv1 : v ≤ 65535 := by omega
            rw [w64 (x := v) (by omega) (by omega), Int.tdiv_eq_ediv_of_nonneg hv0, Int.tmod_eq_emod_of_nonneg hv0, w64 (x := v / 64) (by omega) (by omega), w64 (x := v / 64 + 1) (by omega) (by omega),
              w64 (x := (out.length : Int) + v % 64) (by omega) (by omega), w64 (x := (out.length : Int) + v % 64 + 3) (by omega) (by omega), w64 (x := v % 64 + 3) (by omega) (by omega), w64n (x := (at_ : Int) + 2) (n := at_ + 2) (by omega) (by omega)]
            rw [uR_m2 h8 h1 (by omega) (v := v) (by rw [hv, rd_nat, rd_nat])]
            clear hv hb0 hb1
            by_cases c1 : (out.length : Int) < v / 64 + 1
            · rw [if_pos (by omega), if_pos c1]
            · rw [if_neg (by omega), if_neg c1]
              by_cases c2 : (N : Int) < out.length + (v % 64 + 3)
              · rw [if_pos (by omega), if_pos c2]
              · rw [if_neg (by omega), if_neg c2]
                obtain ⟨bk, hbk⟩ : ∃ bk : Nat, v / 64 + 1 = (bk : Int) := ⟨(v / 64 + 1).toNat, by omega⟩
                obtain ⟨K, hK⟩ : ∃ K : Nat, v % 64 + 3 = (K : Int) := ⟨(v % 64 + 3).toNat, by omega⟩
                obtain ⟨k', rfl⟩ : ∃ k', k = k' + K + 1 := ⟨k - K - 1, by omega⟩
                have h3 := (ih (80 * (d - 2) + (9 - (bit + 1))) (by omega) (d - 2) k' (at_ + 2) (bit + 1) (g / 2) (copyB bk K out) rfl (by omega) (by rw [copyB_length]; omega) (by omega) (by omega) (by omega) hgh).1
                have h4 := ref_copy p N ((at_ + 2 : Nat) : Int) (g / 2) bit v bk hv0 hv1 hbk K k' out (by omega) (by omega)
                rw [w64n (x := (bit : Int) + 1) (n := bit + 1) (by omega) (by omega)] at h4
                rw [hbk, hK]
                exact h4.trans h3
        · rw [if_neg h1]
          by_cases h2 : (out.length : Int) = N
          · rw [if_pos h2, uR_l1 h8 h1 hlt h2]
          · rw [if_neg h2, if_pos (by omega), if_pos (by omega), if_pos (by omega), uR_l2 h8 h1 hlt h2, w64n (x := (at_ : Int) + 1) (n := at_ + 1) (by omega) (by omega), rd_nat]
            exact (ih (80 * (d - 1) + (9 - (bit + 1))) (by omega) (d - 1) k (at_ + 1) (bit + 1) (g / 2) (out ++ [p.getD at_ 0]) rfl (by omega) (by simp; omega) (by omega) (by omega) (by omega) hgh).1

theorem ref_unpack_f (p : List Int) (n : Int) (hp : p.length ≤ 140737488355328) (hby : ∀ x ∈ p, 0 ≤ x ∧ x ≤ 255) :
    ∃ k, freightref4_Unpack.f k p n = some (unpackS p n) := by
  unfold unpackS
  by_cases h0 : n < 0
  · refine ⟨1, ?_⟩
    unfold freightref4_Unpack.f
    rw [if_pos h0, if_pos (by omega)]
    rfl
  · by_cases h1 : n > 4096
    · refine ⟨1, ?_⟩
      unfold freightref4_Unpack.f
      rw [if_neg h0, if_pos (by omega)]
      simp [freightref4_Unpack.j0, h1]
    · obtain ⟨N, rfl⟩ := Int.eq_ofNat_of_zero_le (show 0 ≤ n by omega)
      have := (ref_run p N (by omega) hp hby (80 * p.length + 1) p.length (80 * p.length + 3) 0 8 0 [] (by omega) (by omega) (by simp) (by omega) (by omega) (by omega) ⟨by simp⟩).2 rfl
      refine ⟨80 * p.length + 3, ?_⟩
      unfold freightref4_Unpack.f
      rw [if_neg h0, if_neg (by omega)]
      show freightref4_Unpack.j0 ((80 * p.length + 2) + 1) p _ (decide ((N : Int) > 4096)) = _
      simp only [freightref4_Unpack.j0]
      rw [if_neg (by simpa using h1)]
      simpa using this

/-- freightref4.Unpack: the same. -/
theorem ref_unpack_any (A0 : Option Addr) (c0 : Nat) (l0 : List Int) (n : Int) (w : World) (hr0 : Kd.C (Kd.int .u8) w A0 l0.length l0) (hby : ∀ x ∈ l0, 0 ≤ x ∧ x ≤ 255) (hc0 : l0.length ≤ c0)
    (hl : l0.length ≤ 140737488355328) :
    Calls Try.prog 26 #[.slice A0 l0.length c0, .int .i64 n] w fun e w' => ∃ v, e = .returned (.tuple #[v, .int .i64 (unpackS l0 n).2]) ∧
      Kd.R (Kd.int .u8) 5 w' w.heap.size (fun _ => True) v (unpackS l0 n).1 ∧ Below w.heap.size w w' := by
  obtain ⟨k, hk⟩ := ref_unpack_f l0 n hl hby
  exact freightref4_Unpack.calls k A0 c0 l0 n (unpackS l0 n).1 (unpackS l0 n).2 w hr0 hc0 hk
end Go.Proofs.Ytoefligelajfkaa.Press

namespace Go.Proofs.Ytoefligelajfkaa.Press
open Go.RowKit Go.Proofs.YtoefligelajfkaaW.PrintWords Go.Proofs.YtoefligelajfkaaW.PrintLast Go.Proofs.YtoefligelajfkaaW.PrintMore
open Go.Maps (Keyed)
open Go.WideMaps (ArrKey)
attribute [local go_sem] min2_int min_two

theorem arr81 : ArrKey Try.prog 81 5 3 := ⟨Try.underlying81, by kernel_rfl, by kernel_rfl, by kernel_rfl⟩
theorem K81 : Keyed Try.prog 81 := Keyed.of_law arr81.law
theorem zero83 (w : World) : (zeroValue 83).run Try.prog w = .ok (.slice none 0 0) w := by kernel_rfl
def key3 (a b c : Int) : Value := .agg #[.int .u8 a, .int .u8 b, .int .u8 c]
def keyAt (l : List Int) (i : Nat) : Value := key3 (l.getD i 0) (l.getD (i + 1) 0) (l.getD (i + 2) 0)
theorem wf_u8 {a : Int} (h : 0 ≤ a ∧ a ≤ 255) : (Lit.int .u8 a).wf = true := by
  simp [Lit.wf, IntKind.min, IntKind.max, IntKind.bits, IntKind.signed]; omega
theorem keyOf_key3 {a b c : Int} (wa : (Lit.int .u8 a).wf = true) (wb : (Lit.int .u8 b).wf = true) (wc : (Lit.int .u8 c).wf = true) : ∃ l, keyOf Try.prog 81 (key3 a b c) = some l := by
  have hkt := arr81.keyType ⟨_, rfl⟩
  obtain ⟨m, hm⟩ : ∃ m, Try.prog.types.size = m + 1 := ⟨_, rfl⟩
  unfold keyOf key3
  simp only [arr81.hu]
  rw [if_pos (by simp [hkt, Value.formed, arr81.hu, arr81.size]), hm]
  unfold Program.keyLits
  simp only [arr81.hu, Value.cells]
  rw [if_pos (by rw [arr81.size]; rfl), show List.range 3 = [0, 1, 2] from rfl, List.mapM_cons, List.mapM_cons, List.mapM_cons, List.mapM_nil]
  simp [arr81.one, Program.keyLits, Try.underlying5, wa, wb, wc]
theorem rd_mem {l : List Int} {j : Nat} (h : j < l.length) : rd l (j : Int) ∈ l := by
  rw [rd, Int.toNat_natCast, List.getD_eq_getElem?_getD, List.getElem?_eq_getElem h]
  exact List.getElem_mem h
theorem keyOf_at {l : List Int} (hby : ∀ x ∈ l, 0 ≤ x ∧ x ≤ 255) (i : Nat) : ∃ k, keyOf Try.prog 81 (keyAt l i) = some k := by
  have h := fun j : Nat => wf_u8 (by have := rd_byte hby (j : Int); simpa [rd] using this : 0 ≤ l.getD j 0 ∧ l.getD j 0 ≤ 255)
  exact keyOf_key3 (h _) (h _) (h _)

theorem gram_at (A0 : Option Addr) (c0 : Nat) (l0 : List Int) (i : Nat) (w : World) (hr0 : Kd.C (Kd.int .u8) w A0 l0.length l0) (hi : i + 3 ≤ l0.length) (hl : l0.length ≤ 140737488355328) :
    Calls Try.prog 51 #[.slice A0 l0.length c0, .int .i64 i] w fun e w' => e = .returned (keyAt l0 i) ∧ Below w.heap.size w w' := by
  refine (gram_any A0 c0 l0 i (i + 1 : Nat) (i + 2 : Nat) w hr0 (by omega) (by omega) (by rw [IntWalk.i64_in _ (by omega)]; omega) (by rw [IntWalk.i64_in _ (by omega)]; omega) hl).mono ?_
  rintro e w' ⟨rfl, hb⟩
  refine ⟨?_, hb⟩
  simp only [rd, Int.toNat_natCast, keyAt, key3]

set_option maxHeartbeats 4000000 in
theorem find_walk (b base : Nat) (G : Value → List Int) (A0 : Option Addr) (c0 : Nat) (l0 : List Int) (p : Nat) (w : World) (hG : Grp Try.prog 81 w b base G)
    (hr0 : Kd.C (Kd.int .u8) w A0 l0.length l0) (hby : ∀ x ∈ l0, 0 ≤ x ∧ x ≤ 255) (hl : l0.length ≤ 4096) (hi : p + 3 ≤ l0.length)
    (hpl : ∀ x ∈ G (keyAt l0 p), 0 ≤ x ∧ x < p) (hpn : (G (keyAt l0 p)).length ≤ 4096) :
    Calls Try.prog 50 #[.map (some b), .slice A0 l0.length c0, .int .i64 p] w fun e w' =>
      e = .returned (.tuple #[.int .i64 (findS (G (keyAt l0 p)) l0 p).1, .int .i64 (findS (G (keyAt l0 p)) l0 p).2]) ∧ Below w.heap.size w w' := by
  obtain ⟨kl, hkl⟩ := keyOf_at hby p
  obtain ⟨places, hpd⟩ : ∃ places, G (keyAt l0 p) = places := ⟨_, rfl⟩
  obtain ⟨rs, hrs⟩ : ∃ rs, findS places l0 p = rs := ⟨_, rfl⟩
  rw [hpd] at hpl hpn ⊢
  rw [hrs]
  have HPL := hpn
  have HRS := Aside0.mk hrs
  have HPD := Aside0.mk hpd
  clear hrs hpd
  obtain ⟨most, hm⟩ : ∃ most : Nat, most = min 66 (l0.length - p) := ⟨_, rfl⟩
  have hmin : (if (l0.length : Int) - (p : Int) < 66 then (l0.length : Int) - (p : Int) else 66) = (most : Int) := by split <;> omega
  have hmo : 3 ≤ most := by omega
  have hmo1 : most ≤ 66 := by omega
  have hmo2 : p + most ≤ l0.length := by omega
  have hp3 : decide ((l0.length : Int) < (p : Int) + 3) = false := by simp; omega
  have hp4 : (p : Int) + 3 ≤ (l0.length : Int) := by omega
  have HM := Aside0.mk hm
  clear hm
  have HP := Aside0.mk hpl
  clear hpl hpn
  have HR0 := Aside0.mk hr0
  clear hr0
  have HK := Aside0.mk hkl
  clear hkl
  go_enter Try.func50, Try.ntmps50
  go_wp2
  go_step3
  go_wp2_with (go_at_call 51; refine (gram_at _ _ _ _ _ HR0.out hi (by omega)).mono ?_; rintro e w1 ⟨rfl, hb⟩; obtain ⟨v, hlk, hv⟩ := (hG.below hb).lookup K81 Try.underlying78 (zero83 _) HK.out; rw [HPD.out] at hv; have HB := Aside0.mk hb; clear hb; obtain ⟨Av, cv, ev⟩ := Kd.R_slice hv; have HV := Aside0.mk hv; clear hv; subst ev)
  clear hmin HK hG
  go_step3
  go_step
  go_step
  go_wp2
  go_loopg [8, 9, 12] (places.length) (fun k v8 v9 v12 w' => ∃ (iv : Int) (len dist : Nat), v8 = .int .i64 len ∧ v9 = .int .i64 dist ∧ v12 = .int .i64 iv ∧ k ≤ places.length ∧ len ≤ 66 ∧ Aside0 (iv + 1 = (k : Int)) ∧ Aside0 (findL l0 p most ((places.take k).reverse) len dist = rs) ∧ Aside0 (Below w1.heap.size w1 w'))
  case atStart =>
    refine ⟨_, 0, 0, rfl, rfl, rfl, Nat.le_refl _, by omega, ⟨by omega⟩, ⟨?_⟩, ⟨Below.refl _ _⟩⟩
    rw [← HRS.out, findS, if_neg (by omega), HM.out, List.take_length]
  case round =>
    obtain ⟨iv, len, dist, rfl, rfl, rfl, hk, hlen, HIV, HFL, HB1⟩ := hrel
    cases gk with
    | zero =>
      obtain rfl : iv = -1 := by have := HIV.out; omega
      go_wp2
      rw [Exit.noGoto_ret]
      have h := HFL.out
      simp only [List.take_zero, List.reverse_nil, findL] at h
      subst h
      go_ret2
      exact ⟨rfl, below_step HB.out HB1.out⟩
    | succ j =>
      obtain rfl : iv = (j : Int) := by have := HIV.out; omega
      have hjl : j < places.length := by omega
      have hj0 : (0 : Int) ≤ (j : Int) := by omega
      obtain ⟨f, hf⟩ : ∃ f : Nat, rd places (j : Int) = (f : Int) := ⟨(rd places (j : Int)).toNat, by have := HP.out _ (rd_mem hjl); omega⟩
      have hfp : f < p := by have := HP.out _ (rd_mem hjl); omega
      have hsplit : (places.take (j + 1)).reverse = (f : Int) :: (places.take j).reverse := by
        rw [List.take_succ_eq_append_getElem hjl, List.reverse_append]
        have : places[j] = (f : Int) := by rw [← hf, rd_nat, List.getD_eq_getElem?_getD, List.getElem?_eq_getElem hjl]; rfl
        rw [this]; rfl
      have hfl := HFL.out
      rw [hsplit, findL, Int.toNat_natCast] at hfl
      clear hsplit
      obtain ⟨ad, e0, hx⟩ := Kd.at_int (Kd.C_below (Kd.R_reads' HV.out).2.2 HB1.out) (j : Int) (by omega) (by omega)
      cases e0
      rw [hf] at hx
      simp only [Int.toNat_natCast] at hx
      have hdist : (p : Int) - (f : Int) = ((p - f : Nat) : Int) := by omega
      obtain ⟨dd, hdd⟩ : ∃ dd : Nat, dd = p - f := ⟨_, rfl⟩
      rw [← hdd] at hdist hfl
      by_cases hfar : dd > 1024
      · rw [if_pos hfar] at hfl
        subst hfl
        have hfar' : (1024 : Int) < (dd : Int) := by omega
        have HF := Aside0.mk hf
        clear hf
        go_wp2
        rw [Exit.noGoto_ret]
        go_ret2
        exact ⟨rfl, below_step HB.out HB1.out⟩
      · rw [if_neg hfar] at hfl
        have hfar' : (dd : Int) ≤ 1024 := by omega
        have HF := Aside0.mk hf
        have HDD := Aside0.mk hdd
        clear hf hdd
        have HFL2 := Aside0.mk hfl
        clear hfl HFL
        go_wp2
        go_loopg [14] (most - 3) (fun k v14 w' => ∃ n : Nat, v14 = .int .i64 n ∧ 3 ≤ n ∧ n + k = most ∧ Aside0 (grow l0 f p most k n = grow l0 f p most (most - 3) 3) ∧ Aside0 (Below w1.heap.size w1 w'))
        case atStart => exact ⟨3, rfl, by omega, by omega, ⟨rfl⟩, HB1⟩
        case round =>
          obtain ⟨n, rfl, hn3, hnk, HGR, HB2⟩ := hrel
          by_cases hnm : n < most
          · obtain ⟨k', rfl⟩ : ∃ k', gk = k' + 1 := ⟨gk - 1, by omega⟩
            obtain ⟨j1, hj1⟩ : ∃ j1 : Nat, j1 = f + n := ⟨_, rfl⟩
            obtain ⟨j2, hj2⟩ : ∃ j2 : Nat, j2 = p + n := ⟨_, rfl⟩
            obtain ⟨ad1, e1, hx1⟩ := Kd.at_int (Kd.C_below (Kd.C_below HR0.out HB.out) HB2.out) (j1 : Int) (by omega) (by omega)
            cases e1
            obtain ⟨ad2, e2, hx2⟩ := Kd.at_int (Kd.C_below (Kd.C_below HR0.out HB.out) HB2.out) (j2 : Int) (by omega) (by omega)
            cases e2
            simp only [Int.toNat_natCast] at hx1 hx2
            have hs1 : (f : Int) + (n : Int) = (j1 : Int) := by omega
            have hs2 : (p : Int) + (n : Int) = (j2 : Int) := by omega
            have hw1 : IntKind.i64.wrap ((f : Int) + (n : Int)) = (j1 : Int) := by rw [hs1]; exact IntWalk.i64_in _ (by omega)
            have hw2 : IntKind.i64.wrap ((p : Int) + (n : Int)) = (j2 : Int) := by rw [hs2]; exact IntWalk.i64_in _ (by omega)
            have hb1 : j1 < l0.length := by omega
            have hb2 : j2 < l0.length := by omega
            have hb3 : (j1 : Int) < (l0.length : Int) := by omega
            have hb4 : (j2 : Int) < (l0.length : Int) := by omega
            have hnm1 : decide (n < most) = true := by simp; omega
            have hnm2 : (n : Int) < (most : Int) := by omega
            have hgr := HGR.out
            rw [grow_succ] at hgr
            rw [← hj1, ← hj2, ← rd_nat, ← rd_nat] at hgr
            have HJ := Aside0.mk (⟨hj1, hj2⟩ : j1 = f + n ∧ j2 = p + n)
            clear hj1 hj2
            by_cases heq : rd l0 (j1 : Int) = rd l0 (j2 : Int)
            · rw [if_pos ⟨hnm, heq⟩] at hgr
              have heq' : (rd l0 (j1 : Int) == rd l0 (j2 : Int)) = true := by rw [heq]; simp
              have HQ := Aside0.mk heq
              clear heq
              have HGR2 := Aside0.mk hgr
              clear hgr HGR
              go_wp2
              go_quiet (fail)
              go_wp2
              go_roundg k'
              case measure => omega
              case rel => exact ⟨n + 1, by go_num, by omega, by omega, HGR2, ⟨pw_below_drewN HB2.out _⟩⟩
            · rw [if_neg (fun h => heq h.2)] at hgr
              have heq' : (rd l0 (j1 : Int) == rd l0 (j2 : Int)) = false := by simpa using heq
              have HGR3 : Aside0 (grow l0 f p most (most - 3) 3 = n) := ⟨hgr.symm⟩
              clear hgr HGR heq
              have hfl := HFL2.out
              rw [HGR3.out] at hfl
              by_cases hn : n > len
              · rw [if_pos hn] at hfl
                have hn1 : (len : Int) < (n : Int) := by omega
                have hn2 : decide (len < n) = true := by simp; omega
                by_cases hme : n = most
                · rw [if_pos hme] at hfl
                  subst hfl
                  have hme1 : ((n : Int) == (most : Int)) = true := by simp; omega
                  have hme2 : (n == most) = true := by simp; omega
                  clear hme
                  go_wp2
                  go_quiet (fail)
                  go_wp2
                  rw [Exit.noGoto_ret]
                  go_ret2
                  exact ⟨rfl, below_step HB.out (pw_below_drewN HB2.out _)⟩
                · rw [if_neg hme] at hfl
                  have hme1 : ((n : Int) == (most : Int)) = false := by simp; omega
                  have hme2 : (n == most) = false := by simp; omega
                  have HFL3 := Aside0.mk hfl
                  clear hme hfl
                  go_wp2
                  go_quiet (fail)
                  go_wp2
                  go_roundg j
                  case measure => omega
                  case rel => exact ⟨_, n, dd, rfl, rfl, rfl, by omega, by omega, ⟨by omega⟩, HFL3, ⟨(pw_below_drewN HB2.out _)⟩⟩
              · rw [if_neg hn] at hfl
                have hn1 : (n : Int) ≤ (len : Int) := by omega
                have hn2 : decide (len < n) = false := by simp; omega
                by_cases hme : len = most
                · rw [if_pos hme] at hfl
                  subst hfl
                  have hme1 : ((len : Int) == (most : Int)) = true := by simp; omega
                  have hme2 : (len == most) = true := by simp; omega
                  clear hme
                  go_wp2
                  go_quiet (fail)
                  go_wp2
                  rw [Exit.noGoto_ret]
                  go_ret2
                  exact ⟨rfl, below_step HB.out (pw_below_drewN HB2.out _)⟩
                · rw [if_neg hme] at hfl
                  have hme1 : ((len : Int) == (most : Int)) = false := by simp; omega
                  have hme2 : (len == most) = false := by simp; omega
                  have HFL3 := Aside0.mk hfl
                  clear hme hfl
                  go_wp2
                  go_quiet (fail)
                  go_wp2
                  go_roundg j
                  case measure => omega
                  case rel => exact ⟨_, len, dist, rfl, rfl, rfl, by omega, by omega, ⟨by omega⟩, HFL3, ⟨(pw_below_drewN HB2.out _)⟩⟩
          · have hk0 : gk = 0 := by omega
            subst hk0
            have HGR3 : Aside0 (grow l0 f p most (most - 3) 3 = n) := ⟨HGR.out.symm⟩
            have hnm1 : decide (n < most) = false := by simp; omega
            have hnm2 : ((most : Nat) : Int) ≤ (n : Int) := by omega
            clear HGR
            have hfl := HFL2.out
            rw [HGR3.out] at hfl
            by_cases hn : n > len
            · rw [if_pos hn] at hfl
              have hn1 : (len : Int) < (n : Int) := by omega
              have hn2 : decide (len < n) = true := by simp; omega
              by_cases hme : n = most
              · rw [if_pos hme] at hfl
                subst hfl
                have hme1 : ((n : Int) == (most : Int)) = true := by simp; omega
                have hme2 : (n == most) = true := by simp; omega
                clear hme
                go_wp2
                go_quiet (fail)
                go_wp2
                rw [Exit.noGoto_ret]
                go_ret2
                exact ⟨rfl, below_step HB.out (pw_below_drewN HB2.out _)⟩
              · rw [if_neg hme] at hfl
                have hme1 : ((n : Int) == (most : Int)) = false := by simp; omega
                have hme2 : (n == most) = false := by simp; omega
                have HFL3 := Aside0.mk hfl
                clear hme hfl
                go_wp2
                go_quiet (fail)
                go_wp2
                go_roundg j
                case measure => omega
                case rel => exact ⟨_, n, dd, rfl, rfl, rfl, by omega, by omega, ⟨by omega⟩, HFL3, ⟨(pw_below_drewN HB2.out _)⟩⟩
            · rw [if_neg hn] at hfl
              have hn1 : (n : Int) ≤ (len : Int) := by omega
              have hn2 : decide (len < n) = false := by simp; omega
              by_cases hme : len = most
              · rw [if_pos hme] at hfl
                subst hfl
                have hme1 : ((len : Int) == (most : Int)) = true := by simp; omega
                have hme2 : (len == most) = true := by simp; omega
                clear hme
                go_wp2
                go_quiet (fail)
                go_wp2
                rw [Exit.noGoto_ret]
                go_ret2
                exact ⟨rfl, below_step HB.out (pw_below_drewN HB2.out _)⟩
              · rw [if_neg hme] at hfl
                have hme1 : ((len : Int) == (most : Int)) = false := by simp; omega
                have hme2 : (len == most) = false := by simp; omega
                have HFL3 := Aside0.mk hfl
                clear hme hfl
                go_wp2
                go_quiet (fail)
                go_wp2
                go_roundg j
                case measure => omega
                case rel => exact ⟨_, len, dist, rfl, rfl, rfl, by omega, by omega, ⟨by omega⟩, HFL3, ⟨(pw_below_drewN HB2.out _)⟩⟩

/-- find, whatever the place. -/
theorem find_any (b base : Nat) (G : Value → List Int) (A0 : Option Addr) (c0 : Nat) (l0 : List Int) (p : Nat) (w : World) (hG : Grp Try.prog 81 w b base G)
    (hr0 : Kd.C (Kd.int .u8) w A0 l0.length l0) (hby : ∀ x ∈ l0, 0 ≤ x ∧ x ≤ 255) (hl : l0.length ≤ 4096) (hp : p ≤ l0.length)
    (hpl : ∀ x ∈ G (keyAt l0 p), 0 ≤ x ∧ x < p) (hpn : (G (keyAt l0 p)).length ≤ 4096) :
    Calls Try.prog 50 #[.map (some b), .slice A0 l0.length c0, .int .i64 p] w fun e w' =>
      e = .returned (.tuple #[.int .i64 (findS (G (keyAt l0 p)) l0 p).1, .int .i64 (findS (G (keyAt l0 p)) l0 p).2]) ∧ Below w.heap.size w w' := by
  by_cases hi : p + 3 ≤ l0.length
  · exact find_walk b base G A0 c0 l0 p w hG hr0 hby hl hi hpl hpn
  · have hs : findS (G (keyAt l0 p)) l0 p = (0, 0) := by unfold findS; rw [if_pos (by omega)]
    rw [hs]
    have h1 : (l0.length : Int) < (p : Int) + 3 := by omega
    go_enter Try.func50, Try.ntmps50
    go_wp2
    go_step3
    go_wp2
    rw [Exit.noGoto_ret]
    go_ret2
    exact ⟨rfl, Below.refl _ _⟩
end Go.Proofs.Ytoefligelajfkaa.Press

namespace Go.Proofs.Ytoefligelajfkaa.Press

/-- Do the same three bytes stand at both places? -/
def gramEq (l : List Int) (q p : Nat) : Bool := decide (l.getD q 0 = l.getD p 0) && decide (l.getD (q + 1) 0 = l.getD (p + 1) 0) && decide (l.getD (q + 2) 0 = l.getD (p + 2) 0)

/-- The places ahead of 'at' at which the three bytes of p stand. -/
def places (l : List Int) (at_ p : Nat) : List Int := ((List.range at_).filter fun q => decide (q + 3 ≤ l.length) && gramEq l q p).map fun q : Nat => (q : Int)

/-- The match at a place. -/
def fnd (l : List Int) (at_ : Nat) : Nat × Nat := findS (places l at_ at_) l at_

def mark (out : List Int) (f b : Nat) : List Int := out.set f (out.getD f 0 + 2 ^ b)

def itemV (nb : Nat × Nat) : Int := (((nb.2 - 1) * 64 + (nb.1 - 3) : Nat) : Int)

/-- What is left of a Pack. -/
def packR (l : List Int) : Nat → List Int → Nat → Nat → Nat → List Int
  | 0, out, _, _, _ => out
  | k + 1, out, flag, items, at_ =>
    if at_ < l.length then
      (if (fnd l at_).1 = 0 then packR l k ((if items % 8 = 0 then out ++ [0] else out) ++ [l.getD at_ 0]) (if items % 8 = 0 then out.length else flag) (items + 1) (at_ + 1)
       else packR l k (mark ((if items % 8 = 0 then out ++ [0] else out) ++ [itemV (fnd l at_) / 256, itemV (fnd l at_) % 256]) (if items % 8 = 0 then out.length else flag) (items % 8))
          (if items % 8 = 0 then out.length else flag) (items + 1) (at_ + (fnd l at_).1))
    else out

def packS (l : List Int) : List Int × Int := if l.length > 4096 then ([], 2) else (packR l l.length [] 0 0 0, 0)

theorem places_mem {l : List Int} {at_ p : Nat} {x : Int} (h : x ∈ places l at_ p) : 0 ≤ x ∧ x < at_ := by
  unfold places at h
  obtain ⟨q, hq, rfl⟩ := List.mem_map.1 h
  have := List.mem_range.1 (List.mem_filter.1 hq).1
  omega

theorem places_length (l : List Int) (at_ p : Nat) : (places l at_ p).length ≤ at_ := by
  unfold places
  rw [List.length_map]
  exact Nat.le_trans (List.length_filter_le _ _) (by simp)

theorem findL_bounds (l : List Int) (at_ most : Nat) (hm : 3 ≤ most) : ∀ (ps : List Int) (len dist : Nat), (∀ x ∈ ps, 0 ≤ x ∧ x < at_) → (len = 0 ∨ (3 ≤ len ∧ len ≤ most ∧ 1 ≤ dist ∧ dist ≤ 1024 ∧ dist ≤ at_)) →
    ((findL l at_ most ps len dist).1 = 0 ∨ (3 ≤ (findL l at_ most ps len dist).1 ∧ (findL l at_ most ps len dist).1 ≤ most ∧ 1 ≤ (findL l at_ most ps len dist).2 ∧ (findL l at_ most ps len dist).2 ≤ 1024 ∧ (findL l at_ most ps len dist).2 ≤ at_)) := by
  intro ps
  induction ps with
  | nil => intro len dist _ h; exact h
  | cons f rest ih =>
    intro len dist hp h
    have hf := hp f (by simp)
    have hr : ∀ x ∈ rest, 0 ≤ x ∧ x < at_ := fun x hx => hp x (by simp [hx])
    have hg := grow_le l f.toNat at_ most (most - 3) 3 hm
    unfold findL
    split
    · exact h
    · split
      · split
        · exact .inr ⟨hg.2, hg.1, by omega, by omega, by omega⟩
        · exact ih _ _ hr (.inr ⟨hg.2, hg.1, by omega, by omega, by omega⟩)
      · split
        · exact h
        · exact ih _ _ hr h

theorem fnd_bounds (l : List Int) (at_ : Nat) : (fnd l at_).1 = 0 ∨ (3 ≤ (fnd l at_).1 ∧ (fnd l at_).1 ≤ 66 ∧ at_ + (fnd l at_).1 ≤ l.length ∧ 1 ≤ (fnd l at_).2 ∧ (fnd l at_).2 ≤ 1024 ∧ (fnd l at_).2 ≤ at_) := by
  unfold fnd findS
  split
  · exact .inl rfl
  · rcases findL_bounds l at_ (min 66 (l.length - at_)) (by omega) (places l at_ at_).reverse 0 0 (fun x hx => places_mem (List.mem_reverse.1 hx)) (.inl rfl) with h | h
    · exact .inl h
    · exact .inr ⟨h.1, by omega, by omega, h.2.2.1, h.2.2.2.1, h.2.2.2.2⟩

/-- What is known of the flag that is under way. -/
structure FlagOk (out : List Int) (flag b : Nat) : Prop where
  lt : flag < out.length
  lo : 0 ≤ out.getD flag 0
  hi : out.getD flag 0 < 2 ^ b

theorem FlagOk.append {out : List Int} {flag b : Nat} (h : FlagOk out flag b) (xs : List Int) : FlagOk (out ++ xs) flag b := by
  have e : (out ++ xs).getD flag 0 = out.getD flag 0 := by
    simp [List.getD_eq_getElem?_getD, List.getElem?_append_left h.lt]
  exact ⟨by have := h.lt; simp; omega, by rw [e]; exact h.lo, by rw [e]; exact h.hi⟩
theorem pow_succ_int (b : Nat) : (2 : Int) ^ (b + 1) = 2 ^ b + 2 ^ b := by rw [Int.pow_succ]; generalize (2 : Int) ^ b = q; omega
theorem pow_pos_int (b : Nat) : (0 : Int) < 2 ^ b := Int.pow_pos (by omega)
theorem FlagOk.up {out : List Int} {flag b : Nat} (h : FlagOk out flag b) : FlagOk out flag (b + 1) := by
  refine ⟨h.lt, h.lo, ?_⟩
  have h1 := h.hi
  have h2 := pow_pos_int b
  rw [pow_succ_int]
  generalize (2 : Int) ^ b = q at h1 h2 ⊢
  omega
theorem FlagOk.mark {out : List Int} {flag b : Nat} (h : FlagOk out flag b) : FlagOk (mark out flag b) flag (b + 1) := by
  have e : (Press.mark out flag b).getD flag 0 = out.getD flag 0 + 2 ^ b := by
    unfold Press.mark
    rw [List.getD_eq_getElem?_getD, List.getElem?_set_self h.lt]; rfl
  have h0 := h.lo
  have h1 := h.hi
  have h2 := pow_pos_int b
  refine ⟨by have := h.lt; simpa [Press.mark] using this, ?_, ?_⟩
  · rw [e]; generalize (2 : Int) ^ b = q at h1 h2 ⊢; omega
  · rw [e, pow_succ_int]; generalize (2 : Int) ^ b = q at h1 h2 ⊢; omega
theorem FlagOk.new (out : List Int) : FlagOk (out ++ [0]) out.length 0 := by
  refine ⟨by simp, ?_, ?_⟩ <;> simp [List.getD_eq_getElem?_getD]
theorem mark_length (out : List Int) (f b : Nat) : (mark out f b).length = out.length := by simp [mark]


theorem packS_abc : packS [97, 98, 99, 97, 98, 99, 97, 98] = ([8, 97, 98, 99, 0, 130], 0) := by decide
end Go.Proofs.Ytoefligelajfkaa.Press
