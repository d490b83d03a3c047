import Derived.Test.YtdekmeanlcpenaaGreatDoorGrN5
import Derived.Test.YtdekmeanlcpenaaGreatDoorGrN2
import Derived.ArgAppend
import Derived.Test.YtdekmeanlcpenaaGreatDoorWMore
import Derived.Test.YtdekmeanlcpenaaGreatDoorGrN3
import Derived.Test.YtdekmeanlcpenaaGreatDoorGrN4
namespace Go.Proofs.YtdekmeanlcpenaaGreatDoor.OpenK
open Go.ChangeShapes Go.WideShapes Go.Deep Go.Proofs.YtdekmeanlcpenaaGreatDoorW.PrintWords Go.Proofs.YtdekmeanlcpenaaGreatDoor.Mid

set_option maxRecDepth 100000
theorem arr29 : ∃ e, Tryz.prog.underlying 29 = some (.array 32 e) ∧ Tryz.prog.underlying e = some (.int .u8) ∧ Tryz.prog.cellsOf e = 1 := by
  refine ⟨5, ?_, ?_, ?_⟩ <;> kernel_rfl
theorem cells29 : Tryz.prog.cellsOf 29 = 32 := by kernel_rfl
theorem cells33 : Tryz.prog.cellsOf 33 = 65 := by kernel_rfl
theorem id_of_trod {H : Type} {enc : TypeId × Value → H} {w : World} {fuel : Nat} {cs : List Value} {x : DataW H × List MemPlace} (hx : DataW.trod enc Tryz.prog w 0 (fun _ => true) true fuel 29 cs = some x) : ∃ v, IdOk v ∧ cs = u8s v := by
  obtain ⟨e, hu, he, hc⟩ := arr29
  obtain ⟨xs, m, -, -, hl, hxl, hi⟩ := DataW.trod_array hu hx
  rw [cells29] at hl
  obtain ⟨f, hf⟩ := choose_lt (n := 32) (p := fun i (v : Int) => cs[i]? = some (.int .u8 v) ∧ 0 ≤ v ∧ v ≤ 255) (fun i hil => by
    have h1 := hi i hil
    rw [hc, Nat.mul_one, List.getElem?_eq_getElem (by omega)] at h1
    obtain ⟨n, e1, -, hw⟩ := DataW.trod_int he h1
    refine ⟨n, ?_, ?_⟩
    · rw [List.drop_eq_getElem_cons (by omega), List.take_succ_cons, List.take_zero] at e1
      rw [List.getElem?_eq_getElem (by omega)]
      injection e1 with e1
      rw [e1]
    · have h1 : IntKind.u8.min = 0 := rfl
      have h2 : IntKind.u8.max = 255 := rfl
      simp [Lit.wf, h1, h2] at hw
      omega)
  have hcs : cs = u8s ((List.range 32).map f) := by
    apply List.ext_getElem?
    intro i
    by_cases hil : i < 32
    · rw [(hf i hil).1, u8s, List.getElem?_map, List.getElem?_map, List.getElem?_range hil]
      rfl
    · rw [List.getElem?_eq_none (by omega), List.getElem?_eq_none (by simp [u8s]; omega)]
  have hok : IdOk ((List.range 32).map f) := ⟨by simp, fun u hu => by
    obtain ⟨i, hi, rfl⟩ := List.mem_map.1 hu
    exact (hf i (List.mem_range.1 hi)).2⟩
  exact ⟨_, hok, hcs⟩
theorem opens_id {H : Type} {enc : TypeId × Value → H} {w : World} : Opens Tryz.prog enc w idK 29 (fun x => IdOk x) := fun _ _ _ hx _ => by
  obtain ⟨v, h1, h2⟩ := id_of_trod hx
  exact ⟨v, ⟨h1, h2⟩, h1⟩
theorem opens23 {H : Type} {enc : TypeId × Value → H} {w : World} : Opens Tryz.prog enc w (Kd.slice 29 idK) 23 (fun l => l.length * 32 ≤ 140737488351232 ∧ ∀ x ∈ l, IdOk x) :=
  opens_slice Tryz.underlying23 cells29 (by kernel_rfl) opens_id
theorem str33 : ∃ f0 f1 f2 : Field, Tryz.prog.underlying 33 = some (.struct #[f0, f1, f2]) ∧ (f0.type = 29 ∧ f0.offset = 0) ∧ (f1.type = 29 ∧ f1.offset = 32) ∧ (f2.type = 3 ∧ f2.offset = 64) := by
  refine ⟨_, _, _, Tryz.underlying33, ?_, ?_, ?_⟩ <;> exact ⟨by kernel_rfl, by kernel_rfl⟩
theorem cells3 : Tryz.prog.cellsOf 3 = 1 := by kernel_rfl
theorem und3 : Tryz.prog.underlying 3 = some (.int .i64) := by kernel_rfl
theorem opens_res {H : Type} {enc : TypeId × Value → H} {w : World} : Opens Tryz.prog enc w resK 33 (fun x => ResOk x) := fun fuel cs x hx _ => by
  obtain ⟨f0, f1, f2, hu, ⟨t0, o0⟩, ⟨t1, o1⟩, ⟨t2, o2⟩⟩ := str33
  obtain ⟨xs, n, -, -, hl, hlen, hf⟩ := DataW.trod_struct hu hx
  rw [cells33] at hl
  match xs, hlen with
  | [y0, y1, y2], _ =>
    have h0 := hf 0 f0 rfl
    have h1 := hf 1 f1 rfl
    have h2 := hf 2 f2 rfl
    rw [t0, o0, cells29] at h0
    rw [t1, o1, cells29] at h1
    rw [t2, o2, cells3] at h2
    obtain ⟨a, ha, ea⟩ := id_of_trod h0
    obtain ⟨b, hb, eb⟩ := id_of_trod h1
    obtain ⟨m, em, -, hw⟩ := DataW.trod_int und3 h2
    have hm : -9223372036854775808 ≤ m ∧ m ≤ 9223372036854775807 := by
      have h1 : IntKind.i64.min = -9223372036854775808 := rfl
      have h2 : IntKind.i64.max = 9223372036854775807 := rfl
      simp [Lit.wf, h1, h2] at hw
      omega
    have hr : ResOk ⟨a, b, m⟩ := ⟨ha, hb, hm⟩
    refine ⟨⟨a, b, m⟩, ⟨hr, ?_⟩, hr⟩
    show cs = u8s a ++ (u8s b ++ [.int .i64 m])
    rw [← ea, ← eb, ← em, List.drop_zero]
    have e1 : cs = cs.take 32 ++ cs.drop 32 := (List.take_append_drop 32 cs).symm
    have e2 : cs.drop 32 = (cs.drop 32).take 32 ++ (cs.drop 32).drop 32 := (List.take_append_drop 32 _).symm
    have e3 : (cs.drop 32).drop 32 = (cs.drop 64).take 1 := by
      rw [List.drop_drop, List.take_of_length_le (by rw [List.length_drop]; omega)]
    rw [← e3, ← e2, ← e1]
theorem opens22 {H : Type} {enc : TypeId × Value → H} {w : World} : Opens Tryz.prog enc w (Kd.slice 33 resK) 22 (fun l => l.length * 72 ≤ 140737488351232 ∧ ∀ x ∈ l, ResOk x) :=
  haveI : Inhabited Res := ⟨⟨[], [], 0⟩⟩
  opens_slice Tryz.underlying22 cells33 (by kernel_rfl) opens_res
end Go.Proofs.YtdekmeanlcpenaaGreatDoor.OpenK

namespace Go.Proofs.YtdekmeanlcpenaaGreatDoor.Sep
open Go.RowKit Go.Proofs.YtdekmeanlcpenaaGreatDoorW.PrintWords Go.Proofs.YtdekmeanlcpenaaGreatDoorW.PrintLast Go.Proofs.YtdekmeanlcpenaaGreatDoorW.PrintMore

theorem below_none {W W1 : World} (hg : W.grownBy W1 none) : Below W.heap.size W W1 := ⟨hg.os, hg.tape, hg.output, hg.size, fun k hk => hg.block k hk (by simp)⟩

/-- append onto a row of one's own: what comes of it, and that the row itself reads as before. -/
theorem run_append_row {P : Program} (w : World) (base : Nat) (t ty e : TypeId) (z : Value) (size bytes : Nat) (ht : P.underlying t = some (.slice e))
    (hinfo : (P.info? e).map (fun i => (i.zero, i.size, i.bytes)) = some (some z, size, bytes)) (hz : z.cells.size = size) (hs0 : 0 < size) (hb0 : 0 < bytes)
    (v : Value) (n : Nat) (xs : List Value) (HO : w.ownsRow base e size v n xs) (ad : Addr) (m c : Nat) (news : List Value) (hnl : news.length = m * size)
    (hnews : ∀ j u, news[j]? = some u → w.cell? (ad.add j) = some u) (h1 : ∀ u ∈ news, u.oneCell' = true) (hm0 : 0 < m) (hb : (n + m) * bytes ≤ 140737488355328) (hbase : base ≤ w.heap.size) :
    ∃ v1 w1, (Builtin.append_ #[t, t] ty #[v, .slice (some ad) m c]).run P w = .ok v1 w1 ∧ w1.ownsRow base e size v1 (n + m) (xs ++ news) ∧ w.grownBy w1 v.ownBlock ∧ w1.ownsRow base e size v n xs ∧
      ((∃ A k, v = .slice A n k ∧ v1 = .slice A (n + m) k) ∨ ∃ k, v1.ownBlock = some k ∧ w.heap.size ≤ k) := by
  obtain ⟨i0, hi, hzz⟩ := Option.map_eq_some_iff.1 hinfo
  simp only [Prod.mk.injEq] at hzz
  obtain ⟨hz0, hz1, hz2⟩ := hzz
  have hlen : n + m ≤ 140737488355328 := Nat.le_trans (Nat.le_mul_of_pos_right _ hb0) hb
  have h63 : n + m ≤ maxLen := by unfold maxLen; omega
  have grow : ∀ v' w', w'.ownsRow w.heap.size e size v' (n + m) (xs ++ news) → w.grownBy w' none →
      w'.ownsRow base e size v' (n + m) (xs ++ news) ∧ w.grownBy w' v.ownBlock ∧ w'.ownsRow base e size v n xs ∧ ((∃ A k, v = .slice A n k ∧ v' = .slice A (n + m) k) ∨ ∃ k, v'.ownBlock = some k ∧ w.heap.size ≤ k) := by
    intro v' w' hown hg
    have hf : ∃ k, v'.ownBlock = some k ∧ w.heap.size ≤ k := by
      rcases hown.2 with ⟨_, h0⟩ | ⟨g, cap, cur, hv, hb, _⟩
      · omega
      · exact ⟨g, by rw [hv]; rfl, by omega⟩
    exact ⟨own_less hown hbase, ⟨hg.os, hg.tape, hg.output, hg.size, fun k hk _ => hg.block k hk (by simp)⟩, own_move HO (fun k hk => hg.block k (by obtain ⟨cells, hc⟩ := own_typed HO k hk; exact blk_lt hc) (by simp)), .inr hf⟩
  rcases HO.2 with ⟨rfl, h0⟩ | ⟨g, cap, cur, rfl, hbg, hh, hnc, hcm, hcs, htake⟩
  · subst h0
    have hx0 : xs = [] := List.length_eq_zero_iff.1 (by have := HO.1; omega)
    subst hx0
    obtain ⟨v', w', hrun, r1, r2, _⟩ := run_append_own (P := P) w w.heap.size t ty e i0 z size bytes ht hi hz0 hz1 hz2 hz hs0 (.slice none 0 0) 0 [] (World.ownsRow_nil w _ e size) ad m c news hnl hnews h1 h63 hb (Nat.le_refl _)
    exact ⟨v', w', hrun, grow v' w' r1 r2⟩
  · have hnsz : n * size ≤ cur.size := by rw [hcs]; exact Nat.mul_le_mul_right _ hnc
    have hxl : xs.length = n * size := HO.1
    have holds : ∀ j u, xs[j]? = some u → w.cell? ⟨g, 0 + j, none⟩ = some u := by
      intro j u hu
      rw [Nat.zero_add, blk_cell hh, ← Array.getElem?_toList]
      rw [← htake, List.getElem?_take] at hu
      split at hu
      · exact hu
      · cases hu
    by_cases hr : n + m ≤ cap
    · have hf : n * size + m * size ≤ cur.size := by
        rw [hcs, ← Nat.add_mul]
        exact Nat.mul_le_mul_right _ hr
      subst hz1
      have hrun := run_append_room_cells (P := P) w t ty e i0 ht hi g 0 n cap ad m c news hnl hnews h1 hr
        (fun j hj => by rw [blk_cell hh]; rw [hnl] at hj; simp; omega) (fun j hj => blk_frozen hh _)
      rw [Nat.zero_add] at hrun
      obtain ⟨cur', h3, h4, h5⟩ := setCells_row news (n * i0.size) w cur hh (by rw [hnl]; exact hf)
      obtain ⟨s1, s2, s3, s4⟩ := setCells_same g news (n * i0.size) w
      have hg : w.grownBy (w.setCells g (n * i0.size) news) (some g) := ⟨s1, s2, s3, by rw [s4]; exact Nat.le_refl _, fun k _ hk => setCells_far _ _ k (fun he => hk (by rw [he]))⟩
      refine ⟨_, _, hrun, ?_, hg, ?_, .inl ⟨_, _, rfl, rfl⟩⟩
      · refine ⟨by rw [List.length_append, hxl, hnl, Nat.add_mul], .inr ⟨g, cap, cur', rfl, hbg, h3, hr, hcm, by rw [h4, hcs], ?_⟩⟩
        rw [h5, htake, Nat.add_mul, List.take_append_of_le_length (by rw [List.length_append, hxl, hnl]; exact Nat.le_refl _)]
        exact List.take_of_length_le (by rw [List.length_append, hxl, hnl]; exact Nat.le_refl _)
      · refine ⟨HO.1, .inr ⟨g, cap, cur', rfl, hbg, h3, by omega, hcm, by rw [h4, hcs], ?_⟩⟩
        rw [h5, htake, List.append_assoc, List.take_append_of_le_length (by omega)]
        exact List.take_of_length_le (by omega)
    · obtain ⟨v', w', hrun, r1, r2⟩ := run_append_arg_grows (P := P) w t ty e i0 z size bytes ht hi hz0 hz1 hz2 hz hs0 ⟨g, 0, none⟩ n cap xs hxl (fun j u hj => by rw [Addr.add_lit]; exact holds j u hj) ad m c news hnl hnews (by omega) h63 hb
      exact ⟨v', w', hrun, grow v' w' r1 r2⟩

section
variable {P : Program} {ops : Array Oper} {o : Oper} {a : Act} {K : Act → World → Prop} {Q : Exit → Act → World → Prop}
/-- append(v, y), y one element that lies in a new block: the law at the operation. -/
theorem wp_append_row {w0 W : World} (base : Nat) (s x : Operand) (t e : TypeId) (z : Value) (size bytes : Nat) (ho : o.op = .call { callee := .builtin .append, args := #[s, x], argTypes := #[t, t] })
    (ht : P.underlying t = some (.slice e)) (hinfo : (P.info? e).map (fun i => (i.zero, i.size, i.bytes)) = some (some z, size, bytes)) (hz : z.cells.size = size) (hs0 : 0 < size) (hb0 : 0 < bytes)
    (v : Value) (n : Nat) (xs ys : List Value) (hs : a.eval s = v) (hx : a.eval x = .slice (some ⟨W.heap.size, 0, none⟩) 1 1) (hys : ys.length = size) (h1 : ∀ u ∈ ys, u.oneCell' = true)
    (HO : W.ownsRow base e size v n xs) (HB : Below base w0 W) (hbase : base ≤ W.heap.size) (hl : (n + 1) * bytes ≤ 140737488355328)
    (h : ∀ v1 w1, w1.ownsRow base e size v1 (n + 1) (xs ++ ys) → Below base w0 w1 → W.grownBy w1 v.ownBlock → w1.ownsRow base e size v n xs →
      ((∃ A c, v = .slice A n c ∧ v1 = .slice A (n + 1) c) ∨ ∃ k, v1.ownBlock = some k ∧ W.heap.size ≤ k) → K (a.put o.dst v1) w1) :
    o.wp P a (W.alloc (.cells ys.toArray e)) K Q := by
  have hnews : ∀ j u, ys[j]? = some u → (W.alloc (.cells ys.toArray e)).cell? ((⟨W.heap.size, 0, none⟩ : Addr).add j) = some u := by
    simpa using World.news_of_block (cs := ys.toArray) (t := e) (fr := (0, 0)) (heap_alloc_new W (.cells ys.toArray e))
  have HO' : (W.alloc (.cells ys.toArray e)).ownsRow base e size v n xs := pw_own_below HO (below_alloc (Below.refl _ _) _)
  obtain ⟨v1, w1, hrun, r1, r2, r3, r4⟩ := run_append_row (P := P) (W.alloc (.cells ys.toArray e)) base t o.type e z size bytes ht hinfo hz hs0 hb0 v n xs HO' ⟨W.heap.size, 0, none⟩ 1 1 ys (by rw [hys]; omega) hnews h1 (by omega) hl (by simp; omega)
  have hg2 : W.grownBy w1 v.ownBlock := World.grownBy.trans (World.grownBy_alloc W _ _) r2
  unfold Oper.wp
  simp only [execOp, ho, resolve, invoke, builtin, Sem.run_bind, Sem.run_pure, Result.andThen_ok, List.map_toArray, List.map_cons, List.map_nil, hs, hx, hrun]
  refine h v1 w1 r1 (HB.grown hg2 hbase (fun k hk => own_base HO k hk)) hg2 r3 ?_
  rcases r4 with r4 | ⟨k, hk, hlk⟩
  · exact .inl r4
  · exact .inr ⟨k, hk, by simp at hlk; omega⟩

theorem wpList_append_row {rest : List Oper} {w0 W : World} (base : Nat) (hgd : o.guard = none) (s x : Operand) (t e : TypeId) (z : Value) (size bytes : Nat) (ho : o.op = .call { callee := .builtin .append, args := #[s, x], argTypes := #[t, t] })
    (ht : P.underlying t = some (.slice e)) (hinfo : (P.info? e).map (fun i => (i.zero, i.size, i.bytes)) = some (some z, size, bytes)) (hz : z.cells.size = size) (hs0 : 0 < size) (hb0 : 0 < bytes)
    (v : Value) (n : Nat) (xs ys : List Value) (hs : a.eval s = v) (hx : a.eval x = .slice (some ⟨W.heap.size, 0, none⟩) 1 1) (hys : ys.length = size) (h1 : ∀ u ∈ ys, u.oneCell' = true)
    (HO : W.ownsRow base e size v n xs) (HB : Below base w0 W) (hbase : base ≤ W.heap.size) (hl : (n + 1) * bytes ≤ 140737488355328)
    (h : ∀ v1 w1, w1.ownsRow base e size v1 (n + 1) (xs ++ ys) → Below base w0 w1 → W.grownBy w1 v.ownBlock → w1.ownsRow base e size v n xs →
      ((∃ A c, v = .slice A n c ∧ v1 = .slice A (n + 1) c) ∨ ∃ k, v1.ownBlock = some k ∧ W.heap.size ≤ k) → wpList P ops Q rest (a.put o.dst v1) w1) :
    wpList P ops Q (o :: rest) a (W.alloc (.cells ys.toArray e)) :=
  wpList_plain hgd fun _ hK => wp_append_row base s x t e z size bytes ho ht hinfo hz hs0 hb0 v n xs ys hs hx hys h1 HO HB hbase hl fun v1 w1 g1 g2 g3 g4 g5 => hK _ _ (h v1 w1 g1 g2 g3 g4 g5)

theorem step_append_row {E : Prop} {w0 W : World} (base : Nat) (hgd : o.guard = none) (s x : Operand) (t e : TypeId) (z : Value) (size bytes : Nat) (ho : o.op = .call { callee := .builtin .append, args := #[s, x], argTypes := #[t, t] })
    (ht : P.underlying t = some (.slice e)) (hinfo : (P.info? e).map (fun i => (i.zero, i.size, i.bytes)) = some (some z, size, bytes)) (hz : z.cells.size = size) (hs0 : 0 < size) (hb0 : 0 < bytes)
    (v : Value) (n : Nat) (xs ys : List Value) (hs : a.eval s = v) (hx : a.eval x = .slice (some ⟨W.heap.size, 0, none⟩) 1 1) (hys : ys.length = size) (h1 : ∀ u ∈ ys, u.oneCell' = true)
    (HO : W.ownsRow base e size v n xs) (HB : Below base w0 W) (hbase : base ≤ W.heap.size) (hl : (n + 1) * bytes ≤ 140737488355328)
    (h : ∀ v1 w1, w1.ownsRow base e size v1 (n + 1) (xs ++ ys) → Below base w0 w1 → W.grownBy w1 v.ownBlock → w1.ownsRow base e size v n xs →
      ((∃ A c, v = .slice A n c ∧ v1 = .slice A (n + 1) c) ∨ ∃ k, v1.ownBlock = some k ∧ W.heap.size ≤ k) → K (a.put o.dst v1) w1) :
    if Region.wanted o (yielded ops a.tmps) = true then Oper.wp P o a (W.alloc (.cells ys.toArray e)) K Q else E := by
  have hw : Region.wanted o (yielded ops a.tmps) = true := by simp [Region.wanted, hgd]
  rw [if_pos hw]
  exact wp_append_row base s x t e z size bytes ho ht hinfo hz hs0 hb0 v n xs ys hs hx hys h1 HO HB hbase hl h
end
end Go.Proofs.YtdekmeanlcpenaaGreatDoor.Sep

namespace Go.Proofs.YtdekmeanlcpenaaGreatDoor.Sep
open Go.RowKit Go.Proofs.YtdekmeanlcpenaaGreatDoorW.PrintWords Go.Proofs.YtdekmeanlcpenaaGreatDoorW.PrintLast Go.Proofs.YtdekmeanlcpenaaGreatDoorW.PrintMore

/-- A slice's header. -/
structure SlV where
  A : Option Addr
  n : Nat
  c : Nat
def SlV.v (s : SlV) : Value := .slice s.A s.n s.c
/-- Slices' headers as a kind of scalars. -/
def skd : Kd SlV := Kd.scalar SlV.v (fun _ => rfl)

/-- What is told of some blocks alone. -/
structure Pr where
  p : (Nat → Prop) → World → Prop
  loc : ∀ {F F' : Nat → Prop} {W W' : World}, p F W → (∀ g, F g → g < W.heap.size → F' g ∧ W'.heap[g]? = W.heap[g]?) → p F' W'

theorem own_loc {W W' : World} {b e sz n : Nat} {v : Value} {xs : List Value} (h : W.ownsRow b e sz v n xs) (hm : ∀ g, v.ownBlock = some g → g < W.heap.size → W'.heap[g]? = W.heap[g]?) : W'.ownsRow b e sz v n xs :=
  own_move h (fun k hk => hm k hk (own_lt h k hk))

def empP : Pr := ⟨fun _ _ => True, fun _ _ => trivial⟩
/-- A row of one's own. -/
def rowP (b e sz : Nat) (u : SlV) (xs : List Value) : Pr where
  p F W := W.ownsRow b e sz u.v u.n xs ∧ ∀ g, u.v.ownBlock = some g → F g
  loc h hm := ⟨own_loc h.1 (fun g hg hl => (hm g (h.2 g hg) hl).2), fun g hg => (hm g (h.2 g hg) (own_lt h.1 g hg)).1⟩
/-- A block that is known whole. -/
def blkP (b kb t : Nat) (cs : Array Value) : Pr where
  p F W := W.heap[kb]? = some (.cells cs t (0, 0)) ∧ b ≤ kb ∧ F kb
  loc h hm := by
    have := hm kb h.2.2 (blk_lt h.1)
    exact ⟨this.2.trans h.1, h.2.1, this.1⟩
/-- n times these cells. -/
def reps (n : Nat) (p : List Value) : List Value := (List.replicate n p).flatten
theorem reps_length (n : Nat) (p : List Value) : (reps n p).length = n * p.length := by
  simp [reps]
theorem reps_succ (n : Nat) (p : List Value) : reps (n + 1) p = reps n p ++ p := by
  simp [reps, List.replicate_succ']
/-- A row that was written over (l, n times p), and what has grown from it (g, r times q more). -/
structure Ent (b e sz : Nat) (l g : SlV) (p q : List Value) (n r : Nat) (F : Nat → Prop) (W : World) : Prop where
  ln : l.n = n
  gn : g.n = n + r
  lo : W.ownsRow b e sz l.v n (reps n p)
  go : W.ownsRow b e sz g.v (n + r) (reps n p ++ reps r q)
  lF : ∀ k, l.v.ownBlock = some k → F k
  gF : ∀ k, g.v.ownBlock = some k → F k
  rel : (∀ k, g.v.ownBlock = some k → l.v.ownBlock ≠ some k) ∨ (l.A = g.A ∧ l.c = g.c)
def entP (b e sz : Nat) (l g : SlV) (p q : List Value) (R : Nat) : Pr where
  p F W := ∃ n r, r ≤ R ∧ n ≤ 1000000 ∧ Ent b e sz l g p q n r F W
  loc := fun ⟨n, r, hr, hn, h⟩ hm => ⟨n, r, hr, hn, h.ln, h.gn, own_loc h.lo (fun k hk hl => (hm k (h.lF k hk) hl).2), own_loc h.go (fun k hk hl => (hm k (h.gF k hk) hl).2),
    fun k hk => (hm k (h.lF k hk) (own_lt h.lo k hk)).1, fun k hk => (hm k (h.gF k hk) (own_lt h.go k hk)).1, h.rel⟩

theorem Ent.take {W : World} {b e sz n r : Nat} {A : Option Addr} {c : Nat} {p q : List Value} (hp : p.length = sz) (h : W.ownsRow b e sz (.slice A (n + r) c) (n + r) (reps n p ++ reps r q)) : W.ownsRow b e sz (.slice A n c) n (reps n p) := by
  have h1 := own_take (m := n) h (by omega)
  rw [List.take_append_of_le_length (by rw [reps_length, hp]; exact Nat.le_refl _), List.take_of_length_le (by rw [reps_length, hp]; exact Nat.le_refl _)] at h1
  exact h1

/-- It grows by one. -/
theorem Ent.grow {W W1 : World} {b e sz n r : Nat} {l g : SlV} {p q : List Value} {F F' : Nat → Prop} {v1 : Value} (hp : p.length = sz) (h : Ent b e sz l g p q n r F W) (hF : ∀ k, k < W.heap.size → F k → F' k) (hF2 : ∀ k, W.heap.size ≤ k → F' k)
    (h1 : W1.ownsRow b e sz v1 (n + r + 1) ((reps n p ++ reps r q) ++ q)) (hg : W.grownBy W1 g.v.ownBlock) (ho : W1.ownsRow b e sz g.v (n + r) (reps n p ++ reps r q))
    (hat : (∃ A c, g.v = .slice A (n + r) c ∧ v1 = .slice A (n + r + 1) c) ∨ ∃ k, v1.ownBlock = some k ∧ W.heap.size ≤ k) : ∃ g1 : SlV, v1 = g1.v ∧ Ent b e sz l g1 p q n (r + 1) F' W1 := by
  obtain ⟨A1, c1, rfl⟩ := own_slice h1
  refine ⟨⟨A1, n + r + 1, c1⟩, rfl, ?_⟩
  have hgo : W1.ownsRow b e sz (SlV.v ⟨A1, n + r + 1, c1⟩) (n + (r + 1)) (reps n p ++ reps (r + 1) q) := by
    rw [reps_succ, ← List.append_assoc]
    exact h1
  have hlF : ∀ k, l.v.ownBlock = some k → F' k := fun k hk => hF k (own_lt h.lo k hk) (h.lF k hk)
  have hlo : W1.ownsRow b e sz l.v n (reps n p) := by
    rcases h.rel with hr | ⟨e1, e2⟩
    · exact own_move h.lo (fun k hk => hg.block k (own_lt h.lo k hk) (fun e => hr k e.symm hk))
    · obtain ⟨gA, gn, gc⟩ := g
      obtain ⟨lA, ln, lc⟩ := l
      have e3 : ln = n := h.ln
      have e4 : gn = n + r := h.gn
      simp only at e1 e2
      subst e1 e2 e3 e4
      exact Ent.take hp ho
  refine ⟨h.ln, rfl, hlo, hgo, hlF, ?_, ?_⟩
  · intro k hk
    rcases hat with ⟨A, c, e1, e2⟩ | ⟨k', hk', hl⟩
    · injection e2 with e3 e4 e5
      subst e3 e5
      have hk2 : g.v.ownBlock = some k := by
        rw [e1]
        cases A1 with
        | none => simp [SlV.v, Value.ownBlock] at hk
        | some a => simpa [SlV.v, Value.ownBlock] using hk
      exact hF k (own_lt h.go k hk2) (h.gF k hk2)
    · have hk3 : (Value.slice A1 (n + r + 1) c1).ownBlock = some k := hk
      rw [hk'] at hk3
      cases hk3
      exact hF2 k hl
  · rcases hat with ⟨A, c, e1, e2⟩ | ⟨k', hk', hl⟩
    · injection e2 with e3 e4 e5
      subst e3 e5
      obtain ⟨gA, gn, gc⟩ := g
      injection e1 with e6 e7 e8
      subst e6 e8
      rcases h.rel with hr | hr
      · refine .inl (fun k hk => hr k ?_)
        cases gA with
        | none => simp [SlV.v, Value.ownBlock] at hk
        | some a => simpa [SlV.v, Value.ownBlock] using hk
      · exact .inr hr
    · left
      intro k hk e
      have hk3 : (Value.slice A1 (n + r + 1) c1).ownBlock = some k := hk
      rw [hk'] at hk3
      injection hk3 with e5
      have := own_lt h.lo k e
      omega

/-- A store of blocks by colours: to each colour what is told of its blocks. -/
structure Store {C : Type} (b : Nat) (w0 W : World) (c : Nat → C) (S : C → Pr) : Prop where
  bel : Below b w0 W
  all : ∀ K, (S K).p (fun g => c g = K) W

section
variable {C : Type} {b : Nat} {w0 W W1 : World} {c c' : Nat → C} {S : C → Pr}
/-- One colour's part changes. -/
theorem Store.mod [DecidableEq C] (h : Store b w0 W c S) (K0 : C) (T : Pr) (hB : Below b w0 W1) (hc : ∀ g, g < W.heap.size → c g ≠ K0 → c' g = c g) (hm : ∀ g, g < W.heap.size → c g ≠ K0 → W1.heap[g]? = W.heap[g]?) (hT : T.p (fun g => c' g = K0) W1) :
    Store b w0 W1 c' (fun K => if K = K0 then T else S K) := by
  refine ⟨hB, fun K => ?_⟩
  by_cases hK : K = K0
  · subst hK
    simp only [if_true]
    exact hT
  · simp only [if_neg hK]
    refine (S K).loc (h.all K) (fun g hg hl => ?_)
    replace hg : c g = K := hg
    have h1 : c g ≠ K0 := by rw [hg]; exact hK
    exact ⟨by rw [hc g hl h1]; exact hg, hm g hl h1⟩
theorem Store.below (h : Store b w0 W c S) (hb0 : b ≤ w0.heap.size) (hb : Below W.heap.size W W1) : Store b w0 W1 c S :=
  ⟨h.bel.trans (hb.mono (Nat.le_trans hb0 h.bel.size)), fun K => (S K).loc (h.all K) (fun g hg hl => ⟨hg, hb.block g hl⟩)⟩
/-- Blocks go over from one colour to another that had none. -/
theorem Store.move [DecidableEq C] (h : Store b w0 W c S) (K1 K2 : C) (hne : K1 ≠ K2) (T : Pr) (hT : T.p (fun g => c g = K1) W) : Store b w0 W (fun g => if c g = K1 then K2 else c g) (fun K => if K = K1 then empP else if K = K2 then T else S K) := by
  refine ⟨h.bel, fun K => ?_⟩
  by_cases hK1 : K = K1
  · subst hK1
    simp only [if_true]
    exact trivial
  · simp only [if_neg hK1]
    by_cases hK2 : K = K2
    · subst hK2
      simp only [if_true]
      exact T.loc hT (fun g hg hl => ⟨by replace hg : c g = K1 := hg; simp [hg], rfl⟩)
    · simp only [if_neg hK2]
      refine (S K).loc (h.all K) (fun g hg hl => ⟨?_, rfl⟩)
      replace hg : c g = K := hg
      rw [if_neg (by rw [hg]; exact hK1)]
      exact hg
/-- Something is made: new blocks have what colour one will. -/
theorem Store.fresh (h : Store b w0 W c S) (hb0 : b ≤ w0.heap.size) (hb : Below W.heap.size W W1) (d : Nat → C) : Store b w0 W1 (fun g => if g < W.heap.size then c g else d g) S :=
  ⟨h.bel.trans (hb.mono (Nat.le_trans hb0 h.bel.size)), fun K => (S K).loc (h.all K) (fun g hg hl => ⟨by rw [if_pos hl]; exact hg, hb.block g hl⟩)⟩
/-- And is told. -/
theorem Store.set [DecidableEq C] (h : Store b w0 W c S) (K0 : C) (T : Pr) (hT : T.p (fun g => c g = K0) W) : Store b w0 W c (fun K => if K = K0 then T else S K) :=
  h.mod K0 T h.bel (fun _ _ _ => rfl) (fun _ _ _ => rfl) hT
end
end Go.Proofs.YtdekmeanlcpenaaGreatDoor.Sep

namespace Go.Proofs.YtdekmeanlcpenaaGreatDoor.Nothing
open Go.ChangeShapes Go.WideShapes Go.Deep Go.RowKit Go.Proofs.YtdekmeanlcpenaaGreatDoorW.PrintWords Go.Proofs.YtdekmeanlcpenaaGreatDoor.Mid Go.Proofs.YtdekmeanlcpenaaGreatDoor.OpenK Go.Proofs.YtdekmeanlcpenaaGreatDoor.Sep

/-- A step of a script: what is read of it. -/
structure StV where
  kind : Int
  file : ByteArray
  acts : SlV
  pol : Int
  data : SlV
  p0 : Int
  p1 : Int
  p2 : Int
  picks : SlV
def stC (x : StV) : List Value := [.int .i64 x.kind, .string x.file, x.acts.v, .int .i64 x.pol, x.data.v, .int .i64 x.p0, .int .i64 x.p1, .int .i64 x.p2, x.picks.v]
instance : Inhabited StV := ⟨⟨0, .empty, ⟨none, 0, 0⟩, 0, ⟨none, 0, 0⟩, 0, 0, 0, ⟨none, 0, 0⟩⟩⟩
theorem stC_one {x : StV} : ∀ v ∈ stC x, v.oneCell' = true := by
  intro v hv
  simp only [stC, List.mem_cons, List.not_mem_nil, or_false] at hv
  rcases hv with rfl | rfl | rfl | rfl | rfl | rfl | rfl | rfl | rfl <;> rfl
def stK : Kd StV := flat 9 (fun x cs => cs = stC x) (fun h => by rw [h]; rfl) (fun h => by rw [h]; exact stC_one)

set_option maxRecDepth 100000
theorem str52 : ∃ f0 f1 f2 f3 f4 f5 f6 : Field, Tryz.prog.underlying 52 = some (.struct #[f0, f1, f2, f3, f4, f5, f6]) ∧ (f0.type = 3 ∧ f0.offset = 0) ∧ (f1.type = 9 ∧ f1.offset = 1) ∧ (f2.type = 23 ∧ f2.offset = 2) ∧ (f3.type = 3 ∧ f3.offset = 3) ∧ (f4.type = 47 ∧ f4.offset = 4) ∧ (f5.type = 49 ∧ f5.offset = 5) ∧ (f6.type = 50 ∧ f6.offset = 8) := by
  refine ⟨_, _, _, _, _, _, _, Tryz.underlying52, ?_, ?_, ?_, ?_, ?_, ?_, ?_⟩ <;> exact ⟨by kernel_rfl, by kernel_rfl⟩
theorem str49 : ∃ f0 f1 f2 : Field, Tryz.prog.underlying 49 = some (.struct #[f0, f1, f2]) ∧ (f0.type = 3 ∧ f0.offset = 0) ∧ (f1.type = 3 ∧ f1.offset = 1) ∧ (f2.type = 3 ∧ f2.offset = 2) := by
  refine ⟨_, _, _, Tryz.underlying49, ?_, ?_, ?_⟩ <;> exact ⟨by kernel_rfl, by kernel_rfl⟩
theorem cells52 : Tryz.prog.cellsOf 52 = 9 := by kernel_rfl
theorem cells49 : Tryz.prog.cellsOf 49 = 3 := by kernel_rfl
theorem cells9 : Tryz.prog.cellsOf 9 = 1 := by kernel_rfl
theorem cells23 : Tryz.prog.cellsOf 23 = 1 := by kernel_rfl
theorem cells47 : Tryz.prog.cellsOf 47 = 1 := by kernel_rfl
theorem cells50 : Tryz.prog.cellsOf 50 = 1 := by kernel_rfl
theorem und9 : Tryz.prog.underlying 9 = some .string := by kernel_rfl
theorem sl_of_trod {H : Type} {enc : TypeId × Value → H} {w : World} {fuel : Nat} {t e : TypeId} {cs : List Value} {x : DataW H × List MemPlace} (ht : Tryz.prog.underlying t = some (.slice e)) (hx : DataW.trod enc Tryz.prog w 0 (fun _ => true) true fuel t cs = some x) : ∃ s : SlV, cs = [s.v] := by
  rcases DataW.trod_slice ht hx with ⟨rfl, _⟩ | ⟨a, len, cap, _, _, _, _, rfl, _⟩
  · exact ⟨⟨none, 0, 0⟩, rfl⟩
  · exact ⟨⟨some a, len, cap⟩, rfl⟩
theorem opens_st {H : Type} {enc : TypeId × Value → H} {w : World} : Opens Tryz.prog enc w stK 52 (fun _ => True) := fun fuel cs x hx _ => by
  obtain ⟨f0, f1, f2, f3, f4, f5, f6, hu, ⟨t0, o0⟩, ⟨t1, o1⟩, ⟨t2, o2⟩, ⟨t3, o3⟩, ⟨t4, o4⟩, ⟨t5, o5⟩, ⟨t6, o6⟩⟩ := str52
  obtain ⟨xs, n, -, -, hl, hlen, hf⟩ := DataW.trod_struct hu hx
  rw [cells52] at hl
  match xs, hlen, cs, hl with
  | [y0, y1, y2, y3, y4, y5, y6], _, [d0, d1, d2, d3, d4, d5, d6, d7, d8], _ =>
    have h0 := hf 0 f0 rfl
    have h1 := hf 1 f1 rfl
    have h2 := hf 2 f2 rfl
    have h3 := hf 3 f3 rfl
    have h4 := hf 4 f4 rfl
    have h5 := hf 5 f5 rfl
    have h6 := hf 6 f6 rfl
    rw [t0, o0, cells3] at h0
    rw [t1, o1, cells9] at h1
    rw [t2, o2, cells23] at h2
    rw [t3, o3, cells3] at h3
    rw [t4, o4, cells47] at h4
    rw [t5, o5, cells49] at h5
    rw [t6, o6, cells50] at h6
    obtain ⟨k, e0, -, -⟩ := DataW.trod_int und3 h0
    obtain ⟨f, e1, -, -⟩ := DataW.trod_string und9 h1
    obtain ⟨ac, e2⟩ := sl_of_trod Tryz.underlying23 h2
    obtain ⟨po, e3, -, -⟩ := DataW.trod_int und3 h3
    obtain ⟨da, e4⟩ := sl_of_trod Tryz.underlying47 h4
    obtain ⟨pi, e6⟩ := sl_of_trod Tryz.underlying50 h6
    obtain ⟨g0, g1, g2, hv, ⟨u0, q0⟩, ⟨u1, q1⟩, ⟨u2, q2⟩⟩ := str49
    obtain ⟨zs, n2, -, -, -, hlen2, hg⟩ := DataW.trod_struct hv h5
    match zs, hlen2 with
    | [z0, z1, z2], _ =>
      have r0 := hg 0 g0 rfl
      have r1 := hg 1 g1 rfl
      have r2 := hg 2 g2 rfl
      rw [u0, q0, cells3] at r0
      rw [u1, q1, cells3] at r1
      rw [u2, q2, cells3] at r2
      obtain ⟨a0, m0, -, -⟩ := DataW.trod_int und3 r0
      obtain ⟨a1, m1, -, -⟩ := DataW.trod_int und3 r1
      obtain ⟨a2, m2, -, -⟩ := DataW.trod_int und3 r2
      refine ⟨⟨k, f, ac, po, da, a0, a1, a2, pi⟩, ?_, trivial⟩
      show _ = stC _
      simp at e0 e1 e2 e3 e4 e6 m0 m1 m2
      subst e0 e1 e2 e3 e4 e6 m0 m1 m2
      rfl
theorem opens45 {H : Type} {enc : TypeId × Value → H} {w : World} : Opens Tryz.prog enc w (Kd.slice 52 stK) 45 (fun l => l.length * 128 ≤ 140737488351232 ∧ ∀ x ∈ l, True) :=
  opens_slice Tryz.underlying45 cells52 (by kernel_rfl) opens_st
/-- The step at a place of a script. -/
theorem st_at {w : World} {A : Option Addr} {n : Nat} {xs : List StV} (h : stK.C w A n xs) (i : Nat) (hi : i < n) : ∃ ad x, A = some ad ∧ xs[i]? = some x ∧ At w (ad.add (i * 9)) (stC x) := by
  obtain ⟨ad, c, e, _, rfl, hc⟩ := Kd.C_get h (default : StV) (i : Int) (by omega) (by omega)
  have hl : i < xs.length := by have := h.1; omega
  have hx : xs[i]? = some (xs.getD ((i : Int).toNat) default) := by rw [Int.toNat_natCast, List.getD_eq_getElem?_getD, List.getElem?_eq_getElem hl]; rfl
  exact ⟨ad, _, e, hx, fun j v hv => by rw [Addr.add_add]; exact hc j v hv⟩
theorem info52 : (Tryz.prog.info? 52).map (·.size) = some 9 := by kernel_rfl
theorem load52_eq (x : Value) : Instr.loadAt 52 x = ldRow 52 x := rfl
theorem load52_row (w : World) (p : Addr) : (ldRow 52 (.pointer (some p))).run Tryz.prog w = match rowOf w p 9 with
    | some cs => .ok (.agg cs.toArray) w
    | none => (loadVar 52 p).run Tryz.prog w := by
  unfold ldRow
  cases h : rowOf w p 9 with
  | none => simp only [Instr.loadAt, Instr.sureAddr, Sem.run_bind, Sem.run_pure, Result.andThen_ok]
  | some cs =>
    obtain ⟨h1, h2⟩ := rowOf_eq h
    exact Mid.run_load w p 52 cs _ h1 Tryz.underlying52 rfl (by rw [h2]; exact info52)
section
variable {ops : Array Oper} {rest : List Oper} {op : Oper} {a : Act} {w : World} {Q : Exit → Act → World → Prop}
theorem store52_new (hgd : op.guard = none) (hd : op.dst = none) (x y : Operand) (ho : op.op = .store 52 x y) (zs : Array Value) (hz : zs.size = 9) (s : StV) (hx : a.eval x = .pointer (some ⟨w.heap.size, 0, none⟩)) (hy : a.eval y = .agg (stC s).toArray)
    (h : wpList Tryz.prog ops Q rest a (w.alloc (.cells (stC s).toArray 52))) : wpList Tryz.prog ops Q (op :: rest) a (w.alloc (.cells zs 52)) :=
  wpList_store_new hgd 52 x y ho _ (stC s) hx hy (by rw [hz]; rfl) info52 stC_one (by rw [hd]; exact h)
end
end Go.Proofs.YtdekmeanlcpenaaGreatDoor.Nothing

namespace Go.Proofs.YtdekmeanlcpenaaGreatDoor.Nothing
open Go.RowKit Go.Proofs.YtdekmeanlcpenaaGreatDoorW.PrintWords Go.Proofs.YtdekmeanlcpenaaGreatDoor.Mid Go.Proofs.YtdekmeanlcpenaaGreatDoor.Sep
set_option maxHeartbeats 1000000
set_option maxRecDepth 100000
/-- Some truth value. -/
def SomeB (w : World) (n : Nat) (e : Ending) (w' : World) : Prop := (∃ b : Bool, e = .returned (.bool b) ∧ (b = false → n ≤ 60)) ∧ Below w.heap.size w w'
theorem much_any (A : Option Addr) (c : Nat) (xs : List StV) (w : World) (hC : stK.C w A xs.length xs) (hc : xs.length ≤ c) :
    Calls Tryz.prog 16 #[.slice none 0 0, .slice A xs.length c] w (SomeB w xs.length) := by
  have HC := Aside0.mk hC
  have Hc := Aside0.mk hc
  clear hC hc
  by_cases hm : xs.length ≤ 60
  · have hm1 : (xs.length : Int) ≤ 60 := by omega
    go_enter Tryz.func16, Tryz.ntmps16
    go_wp2
    refine wp_loop_rounds 1 ?_
    rw [rounds_succ]
    go_wp2
    go_loopg [7, 5] xs.length (fun k v7 v5 w' => ∃ (i : Nat) (z : Int), v7 = .int .i64 i ∧ v5 = .int .i64 z ∧ i + k = xs.length ∧ Aside0 (Below w.heap.size w w'))
    case atStart => exact ⟨0, 0, rfl, rfl, by omega, ⟨Below.refl _ _⟩⟩
    case round =>
      obtain ⟨i, z, rfl, rfl, hik, HB⟩ := hrel
      cases gk with
      | zero =>
        have hd : decide (i < xs.length) = false := by simp; omega
        clear hik
        go_wp2
        go_ret
        exact ⟨⟨false, rfl, fun _ => hm⟩, HB.out⟩
      | succ k =>
        have hi : i < xs.length := by omega
        have hi1 : (i : Int) < (xs.length : Int) := by omega
        obtain ⟨ad, x, rfl, hx, hat⟩ := st_at (Kd.C_below HC.out HB.out) i hi
        have a2 : ∀ y : CW (Since wr), y.w.cell? ⟨(ad.add (i * 9)).block, (ad.add (i * 9)).off + 2, none⟩ = some (.slice x.acts.A x.acts.n x.acts.c) := fun y => by rw [← add_field _ _ 2 (by decide), ← Addr.add_add]; exact (hat.below y.h) 2 x.acts.v rfl
        have a4 : ∀ y : CW (Since wr), y.w.cell? ⟨(ad.add (i * 9)).block, (ad.add (i * 9)).off + 4, none⟩ = some (.slice x.data.A x.data.n x.data.c) := fun y => by rw [← add_field _ _ 4 (by decide), ← Addr.add_add]; exact (hat.below y.h) 4 x.data.v rfl
        have a6 : ∀ y : CW (Since wr), y.w.cell? ⟨(ad.add (i * 9)).block, (ad.add (i * 9)).off + 8, none⟩ = some (.slice x.picks.A x.picks.n x.picks.c) := fun y => by rw [← add_field _ _ 8 (by decide), ← Addr.add_add]; exact (hat.below y.h) 8 x.picks.v rfl
        clear hat hx
        go_wp2
        refine wp_region_S (Since wr) (by kernel_rfl) (by kernel_rfl) (since_drew wr) ?_
        repeat (go_big_quiet_step (fail))
        refine wpQuiet_nil ?_
        rintro _ ⟨⟨w5, hb5⟩, rfl⟩
        have HB5 := Aside0.mk (below_of HB.out hb5 (Nat.le_refl _))
        have Hik := Aside0.mk hik
        clear hik hb5 a2 a4 a6 HB
        go_wp2
        · go_ret
          exact ⟨⟨true, rfl, fun h => by cases h⟩, HB5.out⟩
        · rename_i hz
          clear hz
          go_roundg k
          case measure => omega
          case rel => exact ⟨i + 1, _, by go_num, rfl, by have := Hik.out; omega, HB5⟩
  · have hm1 : (60 : Int) < xs.length := by omega
    go_enter Tryz.func16, Tryz.ntmps16
    go_wp2
    go_ret
    exact ⟨⟨true, rfl, fun h => by cases h⟩, Below.refl _ _⟩
end Go.Proofs.YtdekmeanlcpenaaGreatDoor.Nothing

namespace Go.Proofs.YtdekmeanlcpenaaGreatDoor.Law
open Go.RowKit Go.Proofs.YtdekmeanlcpenaaGreatDoorW.PrintWords Go.Proofs.YtdekmeanlcpenaaGreatDoor.Mid
attribute [local go_sem ↓ high] load33_eq load29_eq
attribute [local simp] rowOf_drew rowOf_drewN
attribute [local go_sem high] load33_row load29_row rowOf_drew rowOf_drewN
set_option maxHeartbeats 2000000
set_option maxRecDepth 100000
theorem tables_true (A0 : Option Addr) (c0 : Nat) (A1 : Option Addr) (c1 : Nat) (rs : List Res) (w : World) (h0 : resK.C w A0 rs.length rs) (h1 : resK.C w A1 rs.length rs) (hl : rs.length ≤ 1000000) :
    Calls Tryz.prog 12 #[.slice A0 rs.length c0, .slice A1 rs.length c1] w fun e w' => e = .returned (.bool true) ∧ Below w.heap.size w w' := by
  have H0 := Aside0.mk h0
  have H1 := Aside0.mk h1
  clear h0 h1
  go_enter Tryz.func12, Tryz.ntmps12
  go_wp2
  go_loopg [5] rs.length (fun k v5 w' => ∃ i : Nat, v5 = .int .i64 i ∧ i + k = rs.length ∧ Aside0 (Drawn0 w w'))
  case atStart => exact ⟨0, rfl, by omega, ⟨Drawn0.refl _⟩⟩
  case round =>
    obtain ⟨i, rfl, hik, HD⟩ := hrel
    cases gk with
    | zero =>
      have hd : decide (i < rs.length) = false := by simp; omega
      clear hik
      go_wp2
      go_ret
      exact ⟨rfl, HD.out.below⟩
    | succ k =>
      have hi : i < rs.length := by omega
      have hi1 : (i : Int) < (rs.length : Int) := by omega
      obtain ⟨ad, r, e0, hr, ho, hat⟩ := res_at (Kd.C_below H0.out HD.out.below) i hi
      subst e0
      obtain ⟨ad1, r1, e1, hr1, ho1, hat1⟩ := res_at (Kd.C_below H1.out HD.out.below) i hi
      subst e1
      have e : r1 = r := by rw [hr] at hr1; exact (Option.some.inj hr1).symm
      subst e
      have g1 := hat.res ho
      have g2 := hat1.res ho1
      have heq : ∀ u, (Op.equalIn 10000 33 (.agg (resC r1).toArray) (.agg (resC r1).toArray)).run Tryz.prog u = .ok true u := fun u => by rw [eqI33 u _ _ ho1 ho1, decide_eq_true rfl]
      clear hr hr1 ho ho1 hat hat1
      go_wp2
      go_quiet (fail)
      go_wp2
      go_roundg k
      case measure => omega
      case rel => exact ⟨i + 1, by go_num, by omega, ⟨HD.out.step _⟩⟩
end Go.Proofs.YtdekmeanlcpenaaGreatDoor.Law

namespace Go.Proofs.YtdekmeanlcpenaaGreatDoor.Mid
open Go.RowKit Go.Proofs.YtdekmeanlcpenaaGreatDoorW.PrintWords Go.Proofs.YtdekmeanlcpenaaGreatDoorW.PrintLast Go.Proofs.YtdekmeanlcpenaaGreatDoorW.PrintMore Go.Proofs.YtdekmeanlcpenaaGreatDoor.Sep

theorem setCells_mid {t : TypeId} {g : Nat} : ∀ (cs : List Value) (off : Nat) (w : World) (cur : Array Value), w.heap[g]? = some (.cells cur t (0, 0)) → off + cs.length ≤ cur.size →
    (w.setCells g off cs).heap[g]? = some (.cells (cur.toList.take off ++ cs ++ cur.toList.drop (off + cs.length)).toArray t (0, 0))
  | [], off, w, cur, h, hl => by
    show w.heap[g]? = _
    rw [h]
    simp
  | c :: cs, off, w, cur, h, hl => by
    rw [List.length_cons] at hl
    have h1 : (w.setCell ⟨g, off, none⟩ c).heap[g]? = some (.cells (cur.setIfInBounds off c) t (0, 0)) := by
      show (w.heap.modify g _)[g]? = _
      rw [Array.getElem?_modify, if_pos rfl, h]
      rfl
    rw [World.setCells, setCells_mid cs (off + 1) _ _ h1 (by simp; omega)]
    congr 3
    have hlt : off < cur.toList.length := by simp; omega
    rw [Array.toList_setIfInBounds]
    have e1 : (cur.toList.set off c).take (off + 1) = cur.toList.take off ++ [c] := by
      have hm : (cur.toList.take off).length = off := by rw [List.length_take]; omega
      rw [List.take_set, List.take_add_one, List.getElem?_eq_getElem hlt, List.set_append_right _ _ (by omega), hm, Nat.sub_self]
      rfl
    have e2 : (cur.toList.set off c).drop (off + 1 + cs.length) = cur.toList.drop (off + (c :: cs).length) := by
      rw [List.drop_set_of_lt (by omega), List.length_cons]
      congr 1
      omega
    rw [e1, e2]
    simp
section
variable {W : World} {b e sz n : Nat} {v : Value} {xs : List Value}
/-- One element of a row of one's own is written. -/
theorem own_set (h : W.ownsRow b e sz v n xs) {i : Nat} (hi : i < n) {cs : List Value} (hc : cs.length = sz) : ∃ g cap, v = .slice (some ⟨g, 0, none⟩) n cap ∧ b ≤ g ∧ W.there g (i * sz) sz ∧
    (W.setCells g (i * sz) cs).ownsRow b e sz v n (xs.take (i * sz) ++ cs ++ xs.drop (i * sz + sz)) ∧ W.grownBy (W.setCells g (i * sz) cs) (some g) := by
  have hxl : xs.length = n * sz := h.1
  have hle : i * sz + sz ≤ n * sz := by rw [← Nat.succ_mul]; exact Nat.mul_le_mul_right _ hi
  rcases h.2 with ⟨_, h0⟩ | ⟨g, cap, cur, hv, hb, hh, hnc, hcm, hcs, htake⟩
  · omega
  · have hcap : n * sz ≤ cap * sz := Nat.mul_le_mul_right _ hnc
    have hm := setCells_mid cs (i * sz) W cur hh (by omega)
    obtain ⟨s1, s2, s3, s4⟩ := setCells_same g cs (i * sz) W
    refine ⟨g, cap, hv, hb, fun j hj => ⟨?_, blk_frozen hh _⟩, ⟨?_, .inr ⟨g, cap, _, hv, hb, hm, hnc, hcm, ?_, ?_⟩⟩, ⟨s1, s2, s3, by rw [s4]; exact Nat.le_refl _, fun k _ hk => setCells_far _ _ k (fun he => hk (by rw [he]))⟩⟩
    · rw [blk_cell hh]
      simp; omega
    · simp [hc]; omega
    · simp [hc]; omega
    · rw [← htake]
      have hl1 : (cur.toList.take (i * sz)).length = i * sz := by simp; omega
      rw [List.append_assoc, List.append_assoc, List.take_append, List.take_append, List.take_of_length_le (by omega), hl1, List.take_of_length_le (by omega : cs.length ≤ _), List.take_take, List.drop_take, Nat.min_eq_left (by omega)]
      congr 2
      rw [hc]
      congr 1
      omega
/-- One element of such a row is read. -/
theorem own_at (h : W.ownsRow b e sz v n xs) {i : Nat} (hi : i < n) : ∃ g cap, v = .slice (some ⟨g, 0, none⟩) n cap ∧ At W ⟨g, i * sz, none⟩ ((xs.drop (i * sz)).take sz) := by
  have hle : i * sz + sz ≤ n * sz := by rw [← Nat.succ_mul]; exact Nat.mul_le_mul_right _ hi
  rcases h.2 with ⟨_, h0⟩ | ⟨g, cap, cur, hv, hb, hh, hnc, hcm, hcs, htake⟩
  · omega
  · refine ⟨g, cap, hv, fun j u hu => ?_⟩
    rw [Addr.add_mid, blk_cell hh]
    rw [List.getElem?_take] at hu
    split at hu
    · rw [List.getElem?_drop, ← htake, List.getElem?_take] at hu
      split at hu
      · simpa using hu
      · cases hu
    · cases hu
end
/-! ### Rows of ids and of results, as cells -/
def rowI (xs : List (List Int)) : List Value := (xs.map u8s).flatten
def rowR (rs : List Res) : List Value := (rs.map resC).flatten
theorem flat_take {α : Type} {f : α → List Value} {sz : Nat} : ∀ {l : List α} (_ : ∀ x ∈ l, (f x).length = sz) (i : Nat), (l.map f).flatten.take (i * sz) = ((l.take i).map f).flatten
  | [], _, i => by simp
  | x :: l, h, 0 => by simp
  | x :: l, h, i + 1 => by
    have hx := h x (by simp)
    rw [List.map_cons, List.flatten_cons, List.take_append, List.take_of_length_le (by rw [hx, Nat.succ_mul]; omega), hx, Nat.succ_mul, Nat.add_sub_cancel, flat_take (fun y hy => h y (by simp [hy])) i]
    simp
theorem flat_drop {α : Type} {f : α → List Value} {sz : Nat} : ∀ {l : List α} (_ : ∀ x ∈ l, (f x).length = sz) (i : Nat), (l.map f).flatten.drop (i * sz) = ((l.drop i).map f).flatten
  | [], _, i => by simp
  | x :: l, h, 0 => by simp
  | x :: l, h, i + 1 => by
    have hx := h x (by simp)
    rw [List.map_cons, List.flatten_cons, List.drop_append, List.drop_of_length_le (by rw [hx, Nat.succ_mul]; omega), hx, Nat.succ_mul, Nat.add_sub_cancel, flat_drop (fun y hy => h y (by simp [hy])) i]
    simp
theorem flat_set {α : Type} {f : α → List Value} {sz : Nat} {l : List α} (h : ∀ x ∈ l, (f x).length = sz) {i : Nat} (hi : i < l.length) (y : α) : (l.map f).flatten.take (i * sz) ++ f y ++ (l.map f).flatten.drop (i * sz + sz) = ((l.set i y).map f).flatten := by
  rw [flat_take h, show i * sz + sz = (i + 1) * sz by rw [Nat.succ_mul], flat_drop h, List.set_eq_take_append_cons_drop, if_pos hi]
  simp
theorem flat_get {α : Type} {f : α → List Value} {sz : Nat} {l : List α} (h : ∀ x ∈ l, (f x).length = sz) {i : Nat} {x : α} (hi : l[i]? = some x) : ((l.map f).flatten.drop (i * sz)).take sz = f x := by
  have hl := (List.getElem?_eq_some_iff.1 hi)
  rw [flat_drop h, List.drop_eq_getElem_cons hl.1, hl.2, List.map_cons, List.flatten_cons, List.take_append, List.take_of_length_le (by rw [h x (List.mem_of_getElem? hi)]; exact Nat.le_refl _), h x (List.mem_of_getElem? hi)]
  simp
theorem rowI_len {xs : List (List Int)} (h : ∀ x ∈ xs, IdOk x) : ∀ x ∈ xs, (u8s x).length = 32 := fun x hx => by rw [u8s_length, (h x hx).len]
theorem rowR_len {rs : List Res} (h : ∀ r ∈ rs, ResOk r) : ∀ r ∈ rs, (resC r).length = 65 := fun r hr => resC_length (h r hr)
end Go.Proofs.YtdekmeanlcpenaaGreatDoor.Mid
