import Derived.Test.YtdekmeanlcpenaaGreatDoorCg4
import Derived.Maps.Keyed
import Derived.DeepKeys4
import Derived.Deep.RegionHeld3
import Derived.BigQuiet
import Derived.Maps.RangeRun
import Derived.Maps.Range
import Derived.Below
import Derived.WalkKit
import Derived.Maps.RangeWalk
import Derived.Maps.OwnSet
import Derived.OwnWalk
import Derived.Great.BuildSlice
import Derived.Test.YtdekmeanlcpenaaGreatDoorWApart
set_option linter.unusedSimpArgs false
set_option linter.unusedVariables false
namespace Go.Proofs.YtdekmeanlcpenaaGreatDoor.Mid
end Go.Proofs.YtdekmeanlcpenaaGreatDoor.Mid
namespace Go.Proofs.YtdekmeanlcpenaaGreatDoor.Pick
end Go.Proofs.YtdekmeanlcpenaaGreatDoor.Pick
namespace Go.Proofs.YtdekmeanlcpenaaGreatDoor.Mid
open Go.RowKit Go.Proofs.YtdekmeanlcpenaaGreatDoorW.PrintWords

theorem laidOut : laidOutB Tryz.prog = true := by kernel_rfl
theorem K29 : Go.Maps.Keyed Tryz.prog 29 := Go.Maps.Keyed.of_law (deep_law_laid laidOut (m := 4) (by decide) (of_decide_eq_true (by kernel_rfl)) (by kernel_rfl) (by kernel_rfl))
theorem K33 : Go.Maps.Keyed Tryz.prog 33 := Go.Maps.Keyed.of_law (deep_law_laid laidOut (m := 4) (by decide) (of_decide_eq_true (by kernel_rfl)) (by kernel_rfl) (by kernel_rfl))
theorem c29 : Tryz.prog.cellsOf 29 = 32 := by kernel_rfl
theorem c33 : Tryz.prog.cellsOf 33 = 65 := by kernel_rfl
theorem c5 : Tryz.prog.cellsOf 5 = 1 := by kernel_rfl
theorem c3 : Tryz.prog.cellsOf 3 = 1 := by kernel_rfl
theorem typesMany : decide (3 ≤ Tryz.prog.types.size) = true := by kernel_rfl
theorem typesSome : ∃ m, Tryz.prog.types.size + 1 = m + 4 := ⟨Tryz.prog.types.size - 3, by have := of_decide_eq_true typesMany; omega⟩
theorem keyT29 : Tryz.prog.keyType 29 = true := by kernel_rfl
theorem keyT33 : Tryz.prog.keyType 33 = true := by kernel_rfl
theorem keyOf_id {x : List Int} (h : IdOk x) : ∃ l, keyOf Tryz.prog 29 (idv x) = some l := by
  obtain ⟨m, hm⟩ := typesSome
  have hk := keyLits_u8s (P := Tryz.prog) (d := m + 2) Tryz.underlying29 Tryz.underlying5 c5 c29 h.len h.bytes
  refine ⟨.string (keyBytes (x.map (Lit.int .u8))), ?_⟩
  unfold keyOf idv
  simp only [Tryz.underlying29]
  rw [if_pos (by simp [keyT29, Value.formed, Tryz.underlying29, c29, u8s_length, h.len]), hm]
  simp only [Value.cells]
  rw [hk]
  rfl
theorem eq29 (w : World) (x y : List Int) (hx : IdOk x) (hy : IdOk y) : (Op.equal 29 (idv x) (idv y)).run Tryz.prog w = .ok (decide (x = y)) w := by
  obtain ⟨lx, ex⟩ := keyOf_id hx
  obtain ⟨ly, ey⟩ := keyOf_id hy
  obtain ⟨r, h1, h2⟩ := run_equal_deep (P := Tryz.prog) w (m := 4) (by decide) (k := 29) (by kernel_rfl) (by kernel_rfl) ex ey
  have h3 : (r = true) ↔ x = y := h2.trans ⟨fun e => idv_inj (K29.inj ex (by rw [ey, e])), fun e => by subst e; exact Option.some.inj (ex.symm.trans ey)⟩
  have h4 : r = decide (x = y) := by cases r <;> simp_all
  rw [← h4]
  exact h1

theorem resC_act {r : Res} (h : ResOk r) : ((resC r).drop 0).take 32 = u8s r.act := by
  rw [List.drop_zero, resC, List.take_append_of_le_length (by rw [u8s_length, h.act.len]; exact Nat.le_refl _), List.take_of_length_le (by rw [u8s_length, h.act.len]; exact Nat.le_refl _)]
theorem resC_root {r : Res} (h : ResOk r) : ((resC r).drop 32).take 32 = u8s r.root := by
  have ha : (u8s r.act).length = 32 := by rw [u8s_length, h.act.len]
  have hb : (u8s r.root).length = 32 := by rw [u8s_length, h.root.len]
  rw [resC, List.drop_append_of_le_length (by omega), List.drop_of_length_le (by omega), List.nil_append, List.take_append_of_le_length (by omega), List.take_of_length_le (by omega)]
theorem resC_code {r : Res} (h : ResOk r) : ((resC r).drop 64).take 1 = [.int .i64 r.code] := by
  have ha : (u8s r.act).length = 32 := by rw [u8s_length, h.act.len]
  have hb : (u8s r.root).length = 32 := by rw [u8s_length, h.root.len]
  have : resC r = (u8s r.act ++ u8s r.root) ++ [.int .i64 r.code] := by rw [resC, List.append_assoc]
  rw [this, List.drop_append_of_le_length (by rw [List.length_append]; omega), List.drop_of_length_le (by rw [List.length_append]; omega)]
  rfl
theorem wf_i64' {n : Int} (h : -9223372036854775808 ≤ n ∧ n ≤ 9223372036854775807) : (Lit.int .i64 n).wf = true := by
  have h1 : IntKind.i64.min = -9223372036854775808 := rfl
  have h2 : IntKind.i64.max = 9223372036854775807 := rfl
  simp [Lit.wf, h1, h2]; omega
theorem keyOf_res {r : Res} (h : ResOk r) : ∃ l, keyOf Tryz.prog 33 (resv r) = some l := by
  obtain ⟨m, hm⟩ := typesSome
  have h1 := keyLits_u8s (P := Tryz.prog) (d := m + 1) Tryz.underlying29 Tryz.underlying5 c5 c29 h.act.len h.act.bytes
  have h2 := keyLits_u8s (P := Tryz.prog) (d := m + 1) Tryz.underlying29 Tryz.underlying5 c5 c29 h.root.len h.root.bytes
  have h3 : Tryz.prog.keyLits (m + 3) 3 [.int .i64 r.code] = some [.int .i64 r.code] := by
    unfold Program.keyLits
    simp only [Tryz.underlying3]
    rw [if_pos ⟨trivial, wf_i64' h.code⟩]
  have hk : Tryz.prog.keyLits (m + 4) 33 (resC r) = some (r.act.map (Lit.int .u8) ++ (r.root.map (Lit.int .u8) ++ [.int .i64 r.code])) := by
    unfold Program.keyLits
    simp only [Tryz.underlying33]
    rw [if_pos ⟨by rw [resC_length h, c33], by simp⟩]
    simp only [List.mapM_cons, List.mapM_nil, c29, c3, resC_act h, resC_root h, resC_code h]
    simp [h1, h2, h3]
  refine ⟨.string (keyBytes (r.act.map (Lit.int .u8) ++ (r.root.map (Lit.int .u8) ++ [.int .i64 r.code]))), ?_⟩
  unfold keyOf resv
  simp only [Tryz.underlying33]
  rw [if_pos (by simp [keyT33, Value.formed, Tryz.underlying33, c33, resC_length h]), hm]
  simp only [Value.cells]
  rw [hk]
  rfl
theorem resC_inj {r s : Res} (hr : ResOk r) (hs : ResOk s) (h : resC r = resC s) : r = s := by
  have h1 := congrArg (fun l => (l.drop 0).take 32) h
  have h2 := congrArg (fun l => (l.drop 32).take 32) h
  have h3 := congrArg (fun l => (l.drop 64).take 1) h
  simp only [resC_act hr, resC_act hs, resC_root hr, resC_root hs, resC_code hr, resC_code hs] at h1 h2 h3
  have e1 := u8s_inj h1
  have e2 := u8s_inj h2
  have e3 : r.code = s.code := by
    injection h3 with h3
    injection h3
  cases r; cases s; simp_all
theorem eq33 (w : World) (r s : Res) (hr : ResOk r) (hs : ResOk s) : (Op.equal 33 (resv r) (resv s)).run Tryz.prog w = .ok (decide (r = s)) w := by
  obtain ⟨lx, ex⟩ := keyOf_res hr
  obtain ⟨ly, ey⟩ := keyOf_res hs
  obtain ⟨q, h1, h2⟩ := run_equal_deep (P := Tryz.prog) w (m := 4) (by decide) (k := 33) (by kernel_rfl) (by kernel_rfl) ex ey
  have h3 : (q = true) ↔ r = s := h2.trans ⟨fun e => by
    have := K33.inj ex (by rw [ey, e])
    have h5 : (resC r).toArray = (resC s).toArray := by injection this
    exact resC_inj hr hs (by simpa using congrArg Array.toList h5), fun e => by
    subst e
    exact Option.some.inj (ex.symm.trans ey)⟩
  have h4 : q = decide (r = s) := by
    by_cases h : r = s
    · rw [h3.2 h, decide_eq_true h]
    · rw [decide_eq_false h]
      cases q
      · rfl
      · exact absurd (h3.1 rfl) h
  rw [← h4]
  exact h1
end Go.Proofs.YtdekmeanlcpenaaGreatDoor.Mid

namespace Go.Proofs.YtdekmeanlcpenaaGreatDoor.Mid
open Go.RowKit Go.Proofs.YtdekmeanlcpenaaGreatDoorW.PrintWords

/-- The n cells from p on, if they are all there. -/
def rowOf (w : World) (p : Addr) (n : Nat) : Option (List Value) := (List.range n).mapM fun j => w.cell? (p.add j)
theorem rowOf_eq {w : World} {p : Addr} {n : Nat} {cs : List Value} (h : rowOf w p n = some cs) : At w p cs ∧ cs.length = n := by
  unfold rowOf at h
  have key : ∀ (l : List Nat) (cs : List Value), l.mapM (fun j => w.cell? (p.add j)) = some cs → cs.length = l.length ∧ ∀ (i : Nat) j v, l[i]? = some j → cs[i]? = some v → w.cell? (p.add j) = some v := by
    intro l
    induction l with
    | nil => intro cs h; simp at h; subst h; simp
    | cons a l ih =>
      intro cs h
      rw [List.mapM_cons] at h
      cases ha : w.cell? (p.add a) with
      | none => simp [ha] at h
      | some v =>
        cases hl : l.mapM (fun j => w.cell? (p.add j)) with
        | none => simp [ha, hl] at h
        | some vs =>
          simp [ha, hl] at h
          subst h
          obtain ⟨h1, h2⟩ := ih vs hl
          refine ⟨by simp [h1], fun i j u hi hu => ?_⟩
          cases i with
          | zero => simp at hi hu; subst hi hu; exact ha
          | succ i => exact h2 i j u (by simpa using hi) (by simpa using hu)
  obtain ⟨h1, h2⟩ := key _ _ h
  rw [List.length_range] at h1
  exact ⟨fun j v hv => h2 j j v (by have := (List.getElem?_eq_some_iff.1 hv).1; rw [List.getElem?_range (by omega)]) hv, h1⟩
theorem At.row {w : World} {p : Addr} {n : Nat} {cs : List Value} (h : At w p cs) (hn : cs.length = n) : rowOf w p n = some cs := by
  subst hn
  unfold rowOf
  rw [mapM_some (g := fun j => cs.getD j undef)]
  · congr 1
    apply List.ext_getElem?
    intro i
    rw [List.getElem?_map]
    by_cases hi : i < cs.length
    · rw [List.getElem?_range hi, List.getElem?_eq_getElem hi]
      simp [List.getD_eq_getElem?_getD, List.getElem?_eq_getElem hi]
    · rw [List.getElem?_eq_none (by simpa using hi), List.getElem?_eq_none (by simpa using hi)]
      rfl
  · intro j hj
    have hj' : j < cs.length := List.mem_range.1 hj
    refine h j _ ?_
    rw [List.getD_eq_getElem?_getD, List.getElem?_eq_getElem hj']
    rfl
theorem rowOf_drew (w : World) (p : Addr) (n : Nat) : rowOf w.drew p n = rowOf w p n := rfl
theorem rowOf_drewN (w : World) (p : Addr) (n m : Nat) : rowOf (w.drewN m) p n = rowOf w p n := by
  induction m generalizing w with
  | zero => rfl
  | succ m ih => exact (rowOf_drew (w.drewN m) p n).trans (ih w)
/-- A whole row is read. -/
def ldRow (ty : TypeId) (x : Value) : Sem Value := Instr.loadAt ty x
theorem load33_eq (x : Value) : Instr.loadAt 33 x = ldRow 33 x := rfl
theorem load29_eq (x : Value) : Instr.loadAt 29 x = ldRow 29 x := rfl
theorem load33_row (w : World) (p : Addr) : (ldRow 33 (.pointer (some p))).run Tryz.prog w = match rowOf w p 65 with
    | some cs => .ok (.agg cs.toArray) w
    | none => (loadVar 33 p).run Tryz.prog w := by
  unfold ldRow
  cases h : rowOf w p 65 with
  | none => simp only [Instr.loadAt, Instr.sureAddr, Sem.run_bind, Sem.run_pure, Result.andThen_ok]
  | some cs =>
    obtain ⟨h1, h2⟩ := rowOf_eq h
    exact run_load w p 33 cs _ h1 Tryz.underlying33 rfl (by rw [h2]; exact info33)
theorem load29_row (w : World) (p : Addr) : (ldRow 29 (.pointer (some p))).run Tryz.prog w = match rowOf w p 32 with
    | some cs => .ok (.agg cs.toArray) w
    | none => (loadVar 29 p).run Tryz.prog w := by
  unfold ldRow
  cases h : rowOf w p 32 with
  | none => simp only [Instr.loadAt, Instr.sureAddr, Sem.run_bind, Sem.run_pure, Result.andThen_ok]
  | some cs =>
    obtain ⟨h1, h2⟩ := rowOf_eq h
    exact run_load w p 29 cs _ h1 Tryz.underlying29 rfl (by rw [h2]; exact info29)
theorem At.res {w : World} {p : Addr} {r : Res} (hr : ResOk r) (h : At w p (resC r)) : rowOf w p 65 = some (resC r) := h.row (resC_length hr)
theorem At.id {w : World} {p : Addr} {x : List Int} (hx : IdOk x) (h : At w p (u8s x)) : rowOf w p 32 = some (u8s x) := h.row (by rw [u8s_length, hx.len])
theorem z33 : Tryz.zeroCells33.size = 65 := by kernel_rfl
section
variable {ops : Array Oper} {rest : List Oper} {op : Oper} {a : Act} {w : World} {Q : Exit → Act → World → Prop}
theorem store33_new (hgd : op.guard = none) (hd : op.dst = none) (x y : Operand) (ho : op.op = .store 33 x y) (r : Res) (hr : ResOk r) (hx : a.eval x = .pointer (some ⟨w.heap.size, 0, none⟩)) (hy : a.eval y = .agg (resC r).toArray)
    (h : wpList Tryz.prog ops Q rest a (w.alloc (.cells (resC r).toArray 33))) : wpList Tryz.prog ops Q (op :: rest) a (w.alloc (.cells Tryz.zeroCells33 33)) :=
  wpList_store_new hgd 33 x y ho _ (resC r) hx hy (by rw [z33, resC_length hr]) (by rw [resC_length hr]; exact info33) resC_one (by rw [hd]; exact h)
theorem store29_new (hgd : op.guard = none) (hd : op.dst = none) (x y : Operand) (ho : op.op = .store 29 x y) (zs : Array Value) (hz : zs.size = 32) (i : List Int) (hi : IdOk i) (hx : a.eval x = .pointer (some ⟨w.heap.size, 0, none⟩)) (hy : a.eval y = .agg (u8s i).toArray)
    (h : wpList Tryz.prog ops Q rest a (w.alloc (.cells (u8s i).toArray 29))) : wpList Tryz.prog ops Q (op :: rest) a (w.alloc (.cells zs 29)) :=
  wpList_store_new hgd 29 x y ho _ (u8s i) hx hy (by rw [hz, u8s_length, hi.len]) (by rw [u8s_length, hi.len]; exact info29) u8s_one (by rw [hd]; exact h)
end
theorem below_of {w1 w2 w3 : World} {b : Nat} (h : Below b w1 w2) (h2 : Below w2.heap.size w2 w3) (hb : b ≤ w1.heap.size) : Below b w1 w3 := h.trans (h2.mono (Nat.le_trans hb h.size))
theorem At.blk {w : World} {b t : Nat} {cs : List Value} (h : w.heap[b]? = some (.cells cs.toArray t (0, 0))) : At w ⟨b, 0, none⟩ cs := fun j v hv => by
  rw [Addr.add_mid, Nat.zero_add, blk_cell h]
  simpa using hv
section
variable {P : Program} {ops : Array Oper} {rest : List Oper} {op : Oper} {a : Act} {w : World} {Q : Exit → Act → World → Prop} {K : Act → World → Prop}
theorem setCells_blk (w : World) {b t : Nat} {cur : Array Value} (hh : w.heap[b]? = some (.cells cur t (0, 0))) {cs : List Value} (hl : cur.size = cs.length) :
    (w.setCells b 0 cs).heap[b]? = some (.cells cs.toArray t (0, 0)) ∧ w.grownBy (w.setCells b 0 cs) (some b) ∧ (w.setCells b 0 cs).heap.size = w.heap.size := by
  obtain ⟨cur', h3, h4, h5⟩ := setCells_row cs 0 w cur hh (by omega)
  obtain ⟨s1, s2, s3, s4⟩ := setCells_same b cs 0 w
  refine ⟨?_, ⟨s1, s2, s3, by rw [s4]; exact Nat.le_refl _, fun k _ hk => setCells_far _ _ k (fun he => hk (by rw [he]))⟩, s4⟩
  rw [h3]
  congr 2
  rw [← Array.toArray_toList (xs := cur')]
  congr 1
  have : cur'.toList.take (0 + cs.length) = cs := by rw [h5]; simp
  rw [List.take_of_length_le (by simp; omega)] at this
  exact this
/-- A variable that is known whole is stored anew. -/
theorem wp_store_blk (ty : TypeId) (x y : Operand) (ho : op.op = .store ty x y) {b : Nat} {cur : Array Value} (hb : w.heap[b]? = some (.cells cur ty (0, 0))) (cs : List Value) (hx : a.eval x = .pointer (some ⟨b, 0, none⟩)) (hy : a.eval y = .agg cs.toArray)
    (hl : cur.size = cs.length) (hi : (P.info? ty).map (·.size) = some cs.length) (h1 : ∀ v ∈ cs, v.oneCell' = true)
    (h : ∀ w1 : World, w1.heap[b]? = some (.cells cs.toArray ty (0, 0)) → w.grownBy w1 (some b) → w1.heap.size = w.heap.size → K (a.put op.dst undef) w1) : op.wp P a w K Q := by
  refine wp_store_mid ty x y ho b 0 cs.toArray hx hy ?_ (by simpa using hi) (all_oneCell_toArray h1) ?_
  · intro j hj
    have hj2 : j < cs.length := by simpa using hj
    refine ⟨?_, blk_frozen hb _⟩
    rw [blk_cell hb]
    simp; omega
  · obtain ⟨h2, h3, h4⟩ := setCells_blk w hb hl
    exact h _ h2 h3 h4
theorem wpList_store_blk (hgd : op.guard = none) (hd : op.dst = none) (ty : TypeId) (x y : Operand) (ho : op.op = .store ty x y) {b : Nat} {cur : Array Value} (hb : w.heap[b]? = some (.cells cur ty (0, 0))) (cs : List Value) (hx : a.eval x = .pointer (some ⟨b, 0, none⟩)) (hy : a.eval y = .agg cs.toArray)
    (hl : cur.size = cs.length) (hi : (P.info? ty).map (·.size) = some cs.length) (h1 : ∀ v ∈ cs, v.oneCell' = true)
    (h : ∀ w1 : World, w1.heap[b]? = some (.cells cs.toArray ty (0, 0)) → w.grownBy w1 (some b) → w1.heap.size = w.heap.size → wpList P ops Q rest a w1) : wpList P ops Q (op :: rest) a w :=
  wpList_plain hgd fun _ hK => wp_store_blk ty x y ho hb cs hx hy hl hi h1 (fun w1 h2 h3 h4 => hK _ _ (by rw [hd]; exact h w1 h2 h3 h4))
end
theorem info33z : ((Tryz.prog.info? 33).bind (·.zero)).map (·.cells.size) = some 65 := by kernel_rfl
theorem info33b : (Tryz.prog.info? 33).map (fun i => (i.size, i.bytes)) = some (65, 72) := by kernel_rfl
theorem info33full : ∃ z : Value, (Tryz.prog.info? 33).map (fun i => (i.zero, i.size, i.bytes)) = some (some z, 65, 72) ∧ z.cells.size = 65 := by
  have h1 := info33z
  have h2 := info33b
  cases h : Tryz.prog.info? 33 with
  | none => rw [h] at h2; cases h2
  | some i =>
    rw [h] at h1 h2
    simp only [Option.bind_some] at h1
    cases hz : i.zero with
    | none => rw [hz] at h1; cases h1
    | some z =>
      rw [hz] at h1
      simp only [Option.map_some, Option.some.injEq, Prod.mk.injEq] at h1 h2 ⊢
      exact ⟨z, ⟨hz, h2.1, h2.2⟩, h1⟩
end Go.Proofs.YtdekmeanlcpenaaGreatDoor.Mid

namespace Go.Proofs.YtdekmeanlcpenaaGreatDoor.Mid
open Go.RowKit Go.Proofs.YtdekmeanlcpenaaGreatDoorW.PrintWords

/-- A world of which S holds. -/
structure CW (S : World → Prop) where
  w : World
  h : S w
section
variable {P : Program} {S : World → Prop}
/-- A region that draws its order, whose operations only read and whose calls leave S: one walk, in the order of the text. -/
theorem wp_region_S (S : World → Prop) {id : Nat} {Q : Exit → Act → World → Prop} {a : Act} {w : World} {l : List Oper} (hm : P.follows .mixedOrders = true) (hB : Region.lexB .any l.toArray = true) (h0 : S w.drew)
    (h : wpQuiet P l.toArray (fun w' => ∃ x : CW S, w' = x.w) (fun a' => ∀ w', (∃ x : CW S, w' = x.w) → Q .normal a' w') l a) : (Code.region id l.toArray true).wp P Q a w :=
  wp_region_quiet (C := fun w' => ∃ x : CW S, w' = x.w) hm hB ⟨⟨w.drew, h0⟩, rfl⟩ (by simpa using h)
theorem calls_S {f : FuncId} {args : Array Value} {v : Value} {x : CW S} (h : Calls P f args x.w fun e w' => e = .returned v ∧ S w') : Calls P f args x.w fun e w'' => e = .returned v ∧ ∃ y : CW S, w'' = y.w :=
  h.mono fun _ w' ⟨he, hs⟩ => ⟨he, ⟨w', hs⟩, rfl⟩
/-- .. of a callee that makes new memory alone. -/
theorem calls_below {f : FuncId} {args : Array Value} {v : Value} {x : CW S} (hS : ∀ w1 w2 : World, S w1 → Below w1.heap.size w1 w2 → S w2) (h : Calls P f args x.w fun e w' => e = .returned v ∧ Below x.w.heap.size x.w w') :
    Calls P f args x.w fun e w'' => e = .returned v ∧ ∃ y : CW S, w'' = y.w :=
  calls_S (h.mono fun _ _ ⟨he, hb⟩ => ⟨he, hS _ _ x.h hb⟩)
end
/-- Whatever came behind W. -/
def Since (W : World) (w' : World) : Prop := Below W.heap.size W w'
theorem since_step {W w1 w2 : World} (h1 : Since W w1) (h2 : Below w1.heap.size w1 w2) : Since W w2 := below_of h1 h2 (Nat.le_refl _)
theorem since_drew (W : World) : Since W W.drew := (Below.refl _ _).drew
instance (W : World) : Nonempty (CW (Since W)) := ⟨⟨W.drew, since_drew W⟩⟩
theorem calls_since {P : Program} {W : World} {f : FuncId} {args : Array Value} {v : Value} {x : CW (Since W)} (h : Calls P f args x.w fun e w' => e = .returned v ∧ Below x.w.heap.size x.w w') :
    Calls P f args x.w fun e w'' => e = .returned v ∧ ∃ y : CW (Since W), w'' = y.w := calls_below (fun _ _ => since_step) h
/-- The answer tells whether p holds. -/
structure RetB (e : Ending) (p : Prop) : Prop where mk ::
  out : ∃ q : Bool, e = .returned (.bool q) ∧ (q = true ↔ p)
theorem RetB.yes {p : Prop} {e : Ending} (he : e = .returned (.bool true)) (h : p) : RetB e p := ⟨true, he, fun _ => h, fun _ => rfl⟩
theorem RetB.no {p : Prop} {e : Ending} (he : e = .returned (.bool false)) (h : ¬ p) : RetB e p := ⟨false, he, (fun h => by cases h), fun hp => absurd hp h⟩
end Go.Proofs.YtdekmeanlcpenaaGreatDoor.Mid

namespace Go.Proofs.YtdekmeanlcpenaaGreatDoor.Mid
open Go.RowKit Go.Proofs.YtdekmeanlcpenaaGreatDoorW.PrintWords

theorem fits_yes (w : World) (r : Res) (hr : ResOk r) (h : 0 ≤ r.code ∧ r.code ≤ 255) : Calls Tryz.prog 73 #[resv r] w fun e w' => e = .returned (.bool true) ∧ Below w.heap.size w w' :=
  (fits_any w r hr).mono fun e w' ⟨he, hb⟩ => ⟨by rw [he, decide_eq_true h.1, decide_eq_true h.2]; rfl, hb⟩
theorem fits_no (w : World) (r : Res) (hr : ResOk r) (h : ¬ (0 ≤ r.code ∧ r.code ≤ 255)) : Calls Tryz.prog 73 #[resv r] w fun e w' => e = .returned (.bool false) ∧ Below w.heap.size w w' :=
  (fits_any w r hr).mono fun e w' ⟨he, hb⟩ => ⟨by
    rw [he]
    by_cases h1 : 0 ≤ r.code
    · have h2 : ¬ r.code ≤ 255 := fun h2 => h ⟨h1, h2⟩
      rw [decide_eq_true h1, decide_eq_false h2]; rfl
    · rw [decide_eq_false h1]; rfl, hb⟩
theorem below_yes (w : World) (x y : List Int) (lx : IdOk x) (ly : IdOk y) (h : cmp x y < 0) :
    Calls Tryz.prog 74 #[idv x, idv y] w fun e w' => e = .returned (.bool true) ∧ Below w.heap.size w w' :=
  (below_true w x y lx ly).mono fun e w' ⟨he, hb⟩ => ⟨by rw [he, decide_eq_true h], hb⟩
theorem below_no (w : World) (x y : List Int) (lx : IdOk x) (ly : IdOk y) (h : ¬ cmp x y < 0) :
    Calls Tryz.prog 74 #[idv x, idv y] w fun e w' => e = .returned (.bool false) ∧ Below w.heap.size w w' :=
  (below_true w x y lx ly).mono fun e w' ⟨he, hb⟩ => ⟨by rw [he, decide_eq_false h], hb⟩

/-- The first i results are as a table's. -/
structure Upto (rs : List Res) (i : Nat) : Prop where
  code : ∀ (j : Nat) (r : Res), j < i → rs[j]? = some r → 0 ≤ r.code ∧ r.code ≤ 255
  rise : ∀ (j : Nat) (r s : Res), j + 1 < i → rs[j]? = some r → rs[j + 1]? = some s → cmp r.act s.act < 0
theorem upto_none (rs : List Res) : Upto rs 0 := ⟨fun j r h => by omega, fun j r s h => by omega⟩
theorem upto_one {rs : List Res} {r : Res} (hr : rs[0]? = some r) (h : 0 ≤ r.code ∧ r.code ≤ 255) : Upto rs 1 :=
  ⟨fun j s hj hs => by
    have : j = 0 := by omega
    subst this
    rw [hr] at hs
    cases hs
    exact h, fun j r s h => by omega⟩
theorem upto_step {rs : List Res} {i : Nat} {q r : Res} (U : Upto rs (i + 1)) (hq : rs[i]? = some q) (hr : rs[i + 1]? = some r) (h : 0 ≤ r.code ∧ r.code ≤ 255) (hc : cmp q.act r.act < 0) : Upto rs (i + 2) := by
  refine ⟨fun j s hj hs => ?_, fun j a b hj ha hb => ?_⟩
  · by_cases hji : j = i + 1
    · subst hji
      rw [hr] at hs
      cases hs
      exact h
    · exact U.code j s (by omega) hs
  · by_cases hji : j = i
    · subst hji
      rw [hq] at ha
      rw [hr] at hb
      cases ha
      cases hb
      exact hc
    · exact U.rise j a b (by omega) ha hb
theorem upto_all {rs : List Res} {i : Nat} (U : Upto rs i) (hi : rs.length ≤ i) (hm : rs.length ≤ 32) : Table rs :=
  ⟨hm, fun r hr => by
    obtain ⟨j, hj⟩ := List.mem_iff_getElem?.1 hr
    exact U.code j r (by have := (List.getElem?_eq_some_iff.1 hj).1; omega) hj, fun j r s hr hs => U.rise j r s (by have := (List.getElem?_eq_some_iff.1 hs).1; omega) hr hs⟩

attribute [local go_sem ↓ high] load33_eq load29_eq
attribute [local simp] rowOf_drew rowOf_drewN
attribute [local go_sem high] load33_row load29_row rowOf_drew rowOf_drewN
set_option maxHeartbeats 1000000
set_option maxRecDepth 100000
theorem table_valid (A : Option Addr) (c : Nat) (rs : List Res) (w : World) (hC : resK.C w A rs.length rs) (hc : rs.length ≤ c) :
    Calls Tryz.prog 31 #[.slice A rs.length c] w fun e w' => RetB e (Table rs) ∧ Below w.heap.size w w' := by
  have HC := Aside0.mk hC
  have Hc := Aside0.mk hc
  clear hC hc
  by_cases hm : rs.length ≤ 32
  · have hm1 : (rs.length : Int) ≤ 32 := by omega
    go_enter Tryz.func31, Tryz.ntmps31
    go_wp2
    go_loopg [10] rs.length (fun k v10 w' => ∃ i : Nat, v10 = .int .i64 i ∧ i + k = rs.length ∧ Aside0 (Upto rs i) ∧ Aside0 (Below w.heap.size w w'))
    case atStart => exact ⟨0, rfl, by omega, ⟨upto_none rs⟩, ⟨Below.refl _ _⟩⟩
    case round =>
      obtain ⟨i, rfl, hik, HU, HB⟩ := hrel
      cases gk with
      | zero =>
        have hd : decide (i < rs.length) = false := by simp; omega
        have hi : Aside0 (i = rs.length) := ⟨by omega⟩
        clear hik
        go_wp2
        go_ret
        exact ⟨.yes rfl (upto_all HU.out (by rw [hi.out]; exact Nat.le_refl _) hm), HB.out⟩
      | succ k =>
        have hi : i < rs.length := by omega
        have hi1 : (i : Int) < (rs.length : Int) := by omega
        obtain ⟨ad, r, rfl, hr, ho, hat⟩ := res_at (Kd.C_below HC.out HB.out) i hi
        have hld := hat.res ho
        go_wp2_with (first | (refine store33_new rfl rfl _ _ rfl r ho rfl rfl ?_) | go_in)
        obtain ⟨W, hW⟩ : ∃ W, W = wr.alloc (.cells (resC r).toArray 33) := ⟨_, rfl⟩
        have hn : At W ⟨wr.heap.size, 0, none⟩ (resC r) := hW ▸ At.new wr (resC r) 33
        have hBW : Below wr.heap.size wr W := hW ▸ below_alloc (Below.refl _ _) _
        rw [← hW]
        have g1 : ∀ x : CW (Since W), rowOf x.w ⟨wr.heap.size, 0, none⟩ 65 = some (resC r) := fun x => (hn.below x.h).res ho
        have g2 : ∀ x : CW (Since W), rowOf x.w ⟨wr.heap.size, 0, none⟩ 32 = some (u8s r.act) := fun x => (res_act (hn.below x.h)).id ho.act
        have HN := Aside0.mk hn
        have HBW := Aside0.mk (below_of HB.out hBW (Nat.le_refl _))
        have HR := Aside0.mk hr
        have Ho := Aside0.mk ho
        have HW := Aside0.mk hW
        clear hn hBW hat hld ho hr hW
        obtain rfl | ⟨m, rfl⟩ : i = 0 ∨ ∃ m, i = m + 1 := by cases i; exact .inl rfl; exact .inr ⟨_, rfl⟩
        · by_cases hf : 0 ≤ r.code ∧ r.code ≤ 255
          · have Hf := Aside0.mk hf
            clear hf
            refine wp_region_S (Since W) (by kernel_rfl) (by kernel_rfl) (since_drew W) ?_
            repeat (go_big_quiet_step (first | (go_at_call 73; refine calls_since (fits_yes _ r Ho.out Hf.out))))
            refine wpQuiet_nil ?_
            rintro _ ⟨⟨w5, hb5⟩, rfl⟩
            go_wp2
            go_roundg k
            case measure => omega
            case rel => exact ⟨1, by go_num, by omega, ⟨upto_one HR.out Hf.out⟩, ⟨below_of HBW.out hb5 (Nat.le_refl _)⟩⟩
          · have Hf := Aside0.mk hf
            clear hf
            refine wp_region_S (Since W) (by kernel_rfl) (by kernel_rfl) (since_drew W) ?_
            repeat (go_big_quiet_step (first | (go_at_call 73; refine calls_since (fits_no _ r Ho.out Hf.out))))
            refine wpQuiet_nil ?_
            rintro _ ⟨⟨w5, hb5⟩, rfl⟩
            go_wp2
            go_ret
            exact ⟨.no rfl (fun T => absurd (T.code r (List.mem_of_getElem? HR.out)) Hf.out), below_of HBW.out hb5 (Nat.le_refl _)⟩
        · have hm0 : m < rs.length := by omega
          have hm2 : (m : Int) < (rs.length : Int) := by omega
          obtain ⟨ad', q, e1, hq, hqo, hqa⟩ := res_at (Kd.C_below HC.out HBW.out) m hm0
          cases e1
          have g3 : ∀ x : CW (Since W), rowOf x.w (ad.add (m * 65)) 32 = some (u8s q.act) := fun x => (res_act (hqa.below x.h)).id hqo.act
          have HQ := Aside0.mk hq
          have Hqo := Aside0.mk hqo
          clear hq hqo hqa
          by_cases hf : 0 ≤ r.code ∧ r.code ≤ 255
          · have Hf := Aside0.mk hf
            clear hf
            by_cases hc : cmp q.act r.act < 0
            · have Hcm := Aside0.mk hc
              clear hc
              refine wp_region_S (Since W) (by kernel_rfl) (by kernel_rfl) (since_drew W) ?_
              repeat (go_big_quiet_step (first | (go_at_call 73; refine calls_since (fits_yes _ r Ho.out Hf.out)) | (go_at_call 74; refine calls_since (below_yes _ q.act r.act Hqo.out.act Ho.out.act Hcm.out))))
              refine wpQuiet_nil ?_
              rintro _ ⟨⟨w5, hb5⟩, rfl⟩
              go_wp2
              go_roundg k
              case measure => omega
              case rel => exact ⟨m + 2, by go_num, by omega, ⟨upto_step HU.out HQ.out HR.out Hf.out Hcm.out⟩, ⟨below_of HBW.out hb5 (Nat.le_refl _)⟩⟩
            · have Hcm := Aside0.mk hc
              clear hc
              refine wp_region_S (Since W) (by kernel_rfl) (by kernel_rfl) (since_drew W) ?_
              repeat (go_big_quiet_step (first | (go_at_call 73; refine calls_since (fits_yes _ r Ho.out Hf.out)) | (go_at_call 74; refine calls_since (below_no _ q.act r.act Hqo.out.act Ho.out.act Hcm.out))))
              refine wpQuiet_nil ?_
              rintro _ ⟨⟨w5, hb5⟩, rfl⟩
              go_wp2
              go_ret
              exact ⟨.no rfl (fun T => (by have h6 := T.rise m q r HQ.out HR.out; have h7 := Hcm.out; omega)), below_of HBW.out hb5 (Nat.le_refl _)⟩
          · have Hf := Aside0.mk hf
            clear hf
            refine wp_region_S (Since W) (by kernel_rfl) (by kernel_rfl) (since_drew W) ?_
            repeat (go_big_quiet_step (first | (go_at_call 73; refine calls_since (fits_no _ r Ho.out Hf.out))))
            refine wpQuiet_nil ?_
            rintro _ ⟨⟨w5, hb5⟩, rfl⟩
            go_wp2
            go_ret
            exact ⟨.no rfl (fun T => absurd (T.code r (List.mem_of_getElem? HR.out)) Hf.out), below_of HBW.out hb5 (Nat.le_refl _)⟩
  · have hm1 : (32 : Int) < rs.length := by omega
    go_enter Tryz.func31, Tryz.ntmps31
    go_wp2
    go_ret
    exact ⟨.no rfl (fun T => absurd T.most hm), Below.refl _ _⟩
end Go.Proofs.YtdekmeanlcpenaaGreatDoor.Mid

namespace Go.Proofs.YtdekmeanlcpenaaGreatDoor.Codec
open Go.RowKit Go.Proofs.YtdekmeanlcpenaaGreatDoorW.PrintWords Go.Proofs.YtdekmeanlcpenaaGreatDoor.Mid
attribute [local go_sem ↓ high] load33_eq load29_eq
attribute [local simp] rowOf_drew rowOf_drewN
attribute [local go_sem high] load33_row load29_row rowOf_drew rowOf_drewN
set_option maxHeartbeats 2000000
set_option maxRecDepth 100000
/-- The first i ids rise. -/
def RiseUp (ids : List (List Int)) (i : Nat) : Prop := ∀ (j : Nat) x y, j + 1 < i → ids[j]? = some x → ids[j + 1]? = some y → cmp x y < 0
theorem cmp_to (w : World) (x y : List Int) (cv : Int) (lx : IdOk x) (ly : IdOk y) (h : cmp x y = cv) : Calls Tryz.prog 75 #[.agg (u8s x).toArray, .agg (u8s y).toArray] w fun e w' => e = .returned (.int .i64 cv) ∧ Below w.heap.size w w' := by
  subst h
  exact digest_compare w x y lx ly
theorem rising_any (A : Option Addr) (c : Nat) (ids : List (List Int)) (w : World) (hC : idK.C w A ids.length ids) (hl : ids.length ≤ 100000000) :
    Calls Tryz.prog 95 #[.slice A ids.length c] w fun e w' => RetB e (Rises ids) ∧ Below w.heap.size w w' := by
  have HC := Aside0.mk hC
  clear hC
  go_enter Tryz.func95, Tryz.ntmps95
  go_wp2
  go_loopg [3] ids.length (fun k v3 w' => ∃ i : Nat, v3 = .int .i64 i ∧ i + k = ids.length + 1 ∧ 1 ≤ i ∧ Aside0 (RiseUp ids i) ∧ Aside0 (Below w.heap.size w w'))
  case atStart => exact ⟨1, rfl, by omega, by omega, ⟨fun j x y h => by omega⟩, ⟨Below.refl _ _⟩⟩
  case round =>
    obtain ⟨i, rfl, hik, hi1, HU, HB⟩ := hrel
    by_cases hi : i < ids.length
    · obtain ⟨k, rfl⟩ : ∃ k, gk = k + 1 := ⟨gk - 1, by omega⟩
      have hi2 : (i : Int) < (ids.length : Int) := by omega
      obtain ⟨m, rfl⟩ : ∃ m, i = m + 1 := ⟨i - 1, by omega⟩
      obtain ⟨ad, x, rfl, hx, hxo, hxa⟩ := id_at (Kd.C_below HC.out HB.out) m (by omega)
      obtain ⟨ad', y, e1, hy, hyo, hya⟩ := id_at (Kd.C_below HC.out HB.out) (m + 1) hi
      cases e1
      have g1 : ∀ u : CW (Since wr), rowOf u.w (ad.add (m * 32)) 32 = some (u8s x) := fun u => (hxa.below u.h).id hxo
      have g2 : ∀ u : CW (Since wr), rowOf u.w (ad.add ((m + 1) * 32)) 32 = some (u8s y) := fun u => (hya.below u.h).id hyo
      have hm2 : (m : Int) < (ids.length : Int) := by omega
      have Hx := Aside0.mk (⟨hx, hxo⟩ : _ ∧ _)
      have Hy := Aside0.mk (⟨hy, hyo⟩ : _ ∧ _)
      clear hx hxo hxa hy hyo hya
      obtain ⟨cv, hcv⟩ : ∃ cv, cmp x y = cv := ⟨_, rfl⟩
      have hcr := cmp_vals x y
      rw [hcv] at hcr
      have HCV := Aside0.mk hcv
      clear hcv
      go_wp2
      refine wp_region_S (Since wr) (by kernel_rfl) (by kernel_rfl) (since_drew wr) ?_
      repeat (go_big_quiet_step (first | (go_at_call 75; refine calls_since (cmp_to _ x y cv Hx.out.2 Hy.out.2 HCV.out))))
      refine wpQuiet_nil ?_
      rintro _ ⟨⟨w5, hb5⟩, rfl⟩
      have HB5 := Aside0.mk (below_of HB.out hb5 (Nat.le_refl _))
      clear hb5 HB
      by_cases hcz : 0 ≤ cv
      · go_wp2
        go_ret
        exact ⟨.no rfl (fun h => by have h1 := h m x y Hx.out.1 Hy.out.1; have h2 := HCV.out; omega), HB5.out⟩
      · have HU2 : Aside0 (RiseUp ids (m + 2)) := ⟨fun j a b hj ha hb => by
          by_cases he : j = m
          · subst he
            rw [Hx.out.1] at ha
            rw [Hy.out.1] at hb
            cases ha; cases hb
            have := HCV.out
            omega
          · exact HU.out j a b (by omega) ha hb⟩
        go_wp2
        go_roundg k
        case measure => omega
        case rel => exact ⟨m + 2, by go_num, by omega, by omega, HU2, HB5⟩
    · have hd : decide ((i : Int) < (ids.length : Int)) = false := by simp; omega
      have hd2 : decide (i < ids.length) = false := by simp; omega
      have Hi : Aside0 (ids.length ≤ i) := ⟨by omega⟩
      clear hik
      go_wp2
      go_ret
      exact ⟨.yes rfl (fun j x y h1 h2 => HU.out j x y (by have := (List.getElem?_eq_some_iff.1 h2).1; have := Hi.out; omega) h1 h2), HB.out⟩
end Go.Proofs.YtdekmeanlcpenaaGreatDoor.Codec

namespace Go.Proofs.YtdekmeanlcpenaaGreatDoor.Codec
open Go.RowKit Go.Proofs.YtdekmeanlcpenaaGreatDoorW.PrintWords Go.Proofs.YtdekmeanlcpenaaGreatDoor.Mid
attribute [local go_sem ↓ high] load33_eq load29_eq
attribute [local simp] rowOf_drew rowOf_drewN
attribute [local go_sem high] load33_row load29_row rowOf_drew rowOf_drewN
set_option maxHeartbeats 2000000
set_option maxRecDepth 100000
theorem rcmp_to (w : World) (x y : List Int) (cv : Int) (lx : IdOk x) (ly : IdOk y) (h : cmp x y = cv) : Calls Tryz.prog 72 #[.agg (u8s x).toArray, .agg (u8s y).toArray] w fun e w' => e = .returned (.int .i64 cv) ∧ Below w.heap.size w w' := by
  subst h
  exact order_any w x y lx ly
theorem rrising_any (A : Option Addr) (c : Nat) (ids : List (List Int)) (w : World) (hC : idK.C w A ids.length ids) (hl : ids.length ≤ 140737488355328) :
    Calls Tryz.prog 102 #[.slice A ids.length c] w fun e w' => RetB e (Rises ids) ∧ Below w.heap.size w w' := by
  have HC := Aside0.mk hC
  clear hC
  go_enter Tryz.func102, Tryz.ntmps102
  go_wp2
  go_loopg [3] ids.length (fun k v3 w' => ∃ i : Nat, v3 = .int .i64 i ∧ i + k = ids.length + 1 ∧ 1 ≤ i ∧ Aside0 (RiseUp ids i) ∧ Aside0 (Below w.heap.size w w'))
  case atStart => exact ⟨1, rfl, by omega, by omega, ⟨fun j x y h => by omega⟩, ⟨Below.refl _ _⟩⟩
  case round =>
    obtain ⟨i, rfl, hik, hi1, HU, HB⟩ := hrel
    by_cases hi : i < ids.length
    · obtain ⟨k, rfl⟩ : ∃ k, gk = k + 1 := ⟨gk - 1, by omega⟩
      have hi2 : (i : Int) < (ids.length : Int) := by omega
      obtain ⟨m, rfl⟩ : ∃ m, i = m + 1 := ⟨i - 1, by omega⟩
      obtain ⟨ad, x, rfl, hx, hxo, hxa⟩ := id_at (Kd.C_below HC.out HB.out) m (by omega)
      obtain ⟨ad', y, e1, hy, hyo, hya⟩ := id_at (Kd.C_below HC.out HB.out) (m + 1) hi
      cases e1
      have g1 : ∀ u : CW (Since wr), rowOf u.w (ad.add (m * 32)) 32 = some (u8s x) := fun u => (hxa.below u.h).id hxo
      have g2 : ∀ u : CW (Since wr), rowOf u.w (ad.add ((m + 1) * 32)) 32 = some (u8s y) := fun u => (hya.below u.h).id hyo
      have hm2 : (m : Int) < (ids.length : Int) := by omega
      have Hx := Aside0.mk (⟨hx, hxo⟩ : _ ∧ _)
      have Hy := Aside0.mk (⟨hy, hyo⟩ : _ ∧ _)
      clear hx hxo hxa hy hyo hya
      obtain ⟨cv, hcv⟩ : ∃ cv, cmp x y = cv := ⟨_, rfl⟩
      have hcr := cmp_vals x y
      rw [hcv] at hcr
      have HCV := Aside0.mk hcv
      clear hcv
      go_wp2
      refine wp_region_S (Since wr) (by kernel_rfl) (by kernel_rfl) (since_drew wr) ?_
      repeat (go_big_quiet_step (first | (go_at_call 72; refine calls_since (rcmp_to _ x y cv Hx.out.2 Hy.out.2 HCV.out))))
      refine wpQuiet_nil ?_
      rintro _ ⟨⟨w5, hb5⟩, rfl⟩
      have HB5 := Aside0.mk (below_of HB.out hb5 (Nat.le_refl _))
      clear hb5 HB
      by_cases hcz : 0 ≤ cv
      · go_wp2
        go_ret
        exact ⟨.no rfl (fun h => by have h1 := h m x y Hx.out.1 Hy.out.1; have h2 := HCV.out; omega), HB5.out⟩
      · have HU2 : Aside0 (RiseUp ids (m + 2)) := ⟨fun j a b hj ha hb => by
          by_cases he : j = m
          · subst he
            rw [Hx.out.1] at ha
            rw [Hy.out.1] at hb
            cases ha; cases hb
            have := HCV.out
            omega
          · exact HU.out j a b (by omega) ha hb⟩
        go_wp2
        go_roundg k
        case measure => omega
        case rel => exact ⟨m + 2, by go_num, by omega, by omega, HU2, HB5⟩
    · have hd : decide ((i : Int) < (ids.length : Int)) = false := by simp; omega
      have hd2 : decide (i < ids.length) = false := by simp; omega
      have Hi : Aside0 (ids.length ≤ i) := ⟨by omega⟩
      clear hik
      go_wp2
      go_ret
      exact ⟨.yes rfl (fun j x y h1 h2 => HU.out j x y (by have := (List.getElem?_eq_some_iff.1 h2).1; have := Hi.out; omega) h1 h2), HB.out⟩
end Go.Proofs.YtdekmeanlcpenaaGreatDoor.Codec

namespace Go.Proofs.YtdekmeanlcpenaaGreatDoor.Codec
open Go.RowKit Go.Proofs.YtdekmeanlcpenaaGreatDoorW.PrintWords Go.Proofs.YtdekmeanlcpenaaGreatDoor.Mid
set_option maxHeartbeats 2000000
set_option maxRecDepth 100000
/-- A letter's number. -/
def okN (x : Nat) : Prop := (97 ≤ x ∧ x ≤ 122) ∨ (48 ≤ x ∧ x ≤ 57) ∨ x = 46 ∨ x = 45 ∨ x = 95 ∨ x = 43
theorem okC_iff (c : UInt8) : okC c = true ↔ okN c.toNat := by
  have h : ∀ n : Fin 256, okC (UInt8.ofNat n.val) = true ↔ okN n.val := by unfold okN; decide +kernel
  have := h ⟨c.toNat, c.toNat_lt⟩
  simpa using this
/-- The first i letters are a name's. -/
def Lets (s : ByteArray) (i : Nat) : Prop := ∀ (j : Nat) c, j < i → s.data.toList[j]? = some c → okC c = true
theorem toL (s : ByteArray) : s.toList = s.data.toList := Go.ByteArray.toList_eq s
theorem isName_any (s : ByteArray) (w : World) : Calls Tryz.prog 94 #[.string s] w fun e w' => RetB e (NameOk s) ∧ w = w' := by
  by_cases hz : s.size = 0
  · have hse : s = { data := #[] } := by
      have h2 : s.data = #[] := Array.eq_empty_of_size_eq_zero hz
      cases s; simp at h2; rw [h2]
    subst hse
    go_enter Tryz.func94, Tryz.ntmps94
    go_wp2
    go_ret
    exact ⟨.no rfl (fun h => absurd h.pos (by decide)), rfl⟩
  · have hn : ¬ s.toList = [] := fun h => hz (by rw [toL] at h; have := congrArg List.length h; simpa using this)
    have hi : s.toList.isEmpty = false := by cases h : s.toList with | nil => exact absurd h hn | cons a t => rfl
    by_cases hm : s.size ≤ 112
    · have hm1 : (s.size : Int) ≤ 112 := by omega
      go_enter Tryz.func94, Tryz.ntmps94
      go_wp2
      go_loopg [14] s.size (fun k v14 w' => ∃ i : Nat, v14 = .int .i64 i ∧ i + k = s.size ∧ Aside0 (Lets s i) ∧ w = w')
      case atStart => exact ⟨0, rfl, by omega, ⟨fun j c h => by omega⟩, rfl⟩
      case round =>
        obtain ⟨i, rfl, hik, HL, rfl⟩ := hrel
        cases gk with
        | zero =>
          have hd : decide (i < s.size) = false := by simp; omega
          have hd2 : decide ((i : Int) < (s.size : Int)) = false := by simp; omega
          have Hi : Aside0 (i = s.size) := ⟨by omega⟩
          clear hik
          go_wp2
          go_ret
          exact ⟨.yes rfl ⟨by omega, hm, fun j c h => HL.out j c (by rw [Hi.out]; have := (List.getElem?_eq_some_iff.1 h).1; simpa using this) h⟩, rfl⟩
        | succ k =>
          have hi1 : i < s.size := by omega
          have hi2 : (i : Int) < (s.size : Int) := by omega
          obtain ⟨x, hx⟩ : ∃ x : Nat, (s[i]'hi1).toNat = x := ⟨_, rfl⟩
          have hx1 : ((s[i]'hi1).toNat : Int) = (x : Int) := by rw [hx]
          have HC : Aside0 (s.data.toList[i]? = some (s[i]'hi1)) := ⟨by rw [List.getElem?_eq_getElem (by simpa using hi1)]; rfl⟩
          have HX := Aside0.mk hx
          clear hx
          by_cases hok : okN x
          · have HY : Aside0 (Lets s (i + 1)) := ⟨fun j c hj hc => by
              by_cases he : j = i
              · subst he
                rw [HC.out] at hc
                injection hc with hc
                rw [← hc, okC_iff, HX.out]; exact hok
              · exact HL.out j c (by omega) hc⟩
            rcases hok with ⟨h1, h2⟩ | ⟨h1, h2⟩ | rfl | rfl | rfl | rfl
            · have h3 : (97 : Int) ≤ (x : Int) := by omega
              have h4 : (x : Int) ≤ 122 := by omega
              go_wp2
              go_roundg k
              case measure => omega
              case rel => exact ⟨i + 1, by go_num, by omega, HY, rfl⟩
            · have h3 : (48 : Int) ≤ (x : Int) := by omega
              have h4 : (x : Int) ≤ 57 := by omega
              have h5 : ¬ (97 : Int) ≤ (x : Int) := by omega
              go_wp2
              go_roundg k
              case measure => omega
              case rel => exact ⟨i + 1, by go_num, by omega, HY, rfl⟩
            · clear HX HC HL
              go_wp2
              go_roundg k
              case measure => omega
              case rel => exact ⟨i + 1, by go_num, by omega, HY, rfl⟩
            · clear HX HC HL
              go_wp2
              go_roundg k
              case measure => omega
              case rel => exact ⟨i + 1, by go_num, by omega, HY, rfl⟩
            · clear HX HC HL
              go_wp2
              go_roundg k
              case measure => omega
              case rel => exact ⟨i + 1, by go_num, by omega, HY, rfl⟩
            · clear HX HC HL
              go_wp2
              go_roundg k
              case measure => omega
              case rel => exact ⟨i + 1, by go_num, by omega, HY, rfl⟩
          · have HN : Aside0 (¬ NameOk s) := ⟨fun h => hok (by rw [← HX.out, ← okC_iff]; exact h.all i _ HC.out)⟩
            have n1 : ((x : Int) == 46) = false := by rw [beq_eq_false_iff_ne]; intro h; exact hok (by unfold okN; omega)
            have n2 : ((x : Int) == 45) = false := by rw [beq_eq_false_iff_ne]; intro h; exact hok (by unfold okN; omega)
            have n3 : ((x : Int) == 95) = false := by rw [beq_eq_false_iff_ne]; intro h; exact hok (by unfold okN; omega)
            have n4 : ((x : Int) == 43) = false := by rw [beq_eq_false_iff_ne]; intro h; exact hok (by unfold okN; omega)
            by_cases a1 : 97 ≤ x
            · have a2 : (97 : Int) ≤ (x : Int) := by omega
              have a3 : ¬ (x : Int) ≤ 122 := fun h => hok (by unfold okN; omega)
              have a4 : (48 : Int) ≤ (x : Int) := by omega
              have a5 : ¬ (x : Int) ≤ 57 := by omega
              clear hok
              go_wp2
              go_ret
              exact ⟨.no rfl HN.out, rfl⟩
            · have a2 : ¬ (97 : Int) ≤ (x : Int) := by omega
              by_cases b1 : 48 ≤ x
              · have b2 : (48 : Int) ≤ (x : Int) := by omega
                have b3 : ¬ (x : Int) ≤ 57 := fun h => hok (by unfold okN; omega)
                clear hok
                go_wp2
                go_ret
                exact ⟨.no rfl HN.out, rfl⟩
              · have b2 : ¬ (48 : Int) ≤ (x : Int) := by omega
                clear hok
                go_wp2
                go_ret
                exact ⟨.no rfl HN.out, rfl⟩
    · have hm1 : (112 : Int) < (s.size : Int) := by omega
      go_enter Tryz.func94, Tryz.ntmps94
      go_wp2
      go_ret
      exact ⟨.no rfl (fun h => absurd h.most hm), rfl⟩
end Go.Proofs.YtdekmeanlcpenaaGreatDoor.Codec

namespace Go.Proofs.YtdekmeanlcpenaaGreatDoor.Codec
open Go.RowKit Go.Proofs.YtdekmeanlcpenaaGreatDoorW.PrintWords Go.Proofs.YtdekmeanlcpenaaGreatDoor.Mid
set_option maxHeartbeats 2000000
set_option maxRecDepth 100000
theorem named_any (s : ByteArray) (w : World) : Calls Tryz.prog 101 #[.string s] w fun e w' => RetB e (NameOk s) ∧ w = w' := by
  by_cases hz : s.size = 0
  · have hse : s = { data := #[] } := by
      have h2 : s.data = #[] := Array.eq_empty_of_size_eq_zero hz
      cases s; simp at h2; rw [h2]
    subst hse
    go_enter Tryz.func101, Tryz.ntmps101
    go_wp2
    go_ret
    exact ⟨.no rfl (fun h => absurd h.pos (by decide)), rfl⟩
  · have hn : ¬ (s.size : Int) < 1 := by omega
    by_cases hm : s.size ≤ 112
    · have hm1 : (s.size : Int) ≤ 112 := by omega
      go_enter Tryz.func101, Tryz.ntmps101
      go_wp2
      go_loopg [3] s.size (fun k v3 w' => ∃ i : Nat, v3 = .int .i64 i ∧ i + k = s.size ∧ Aside0 (Lets s i) ∧ w = w')
      case atStart => exact ⟨0, rfl, by omega, ⟨fun j c h => by omega⟩, rfl⟩
      case round =>
        obtain ⟨i, rfl, hik, HL, rfl⟩ := hrel
        cases gk with
        | zero =>
          have hd : decide (i < s.size) = false := by simp; omega
          have hd2 : decide ((i : Int) < (s.size : Int)) = false := by simp; omega
          have Hi : Aside0 (i = s.size) := ⟨by omega⟩
          clear hik
          go_wp2
          go_ret
          exact ⟨.yes rfl ⟨by omega, hm, fun j c h => HL.out j c (by rw [Hi.out]; have := (List.getElem?_eq_some_iff.1 h).1; simpa using this) h⟩, rfl⟩
        | succ k =>
          have hi1 : i < s.size := by omega
          have hi2 : (i : Int) < (s.size : Int) := by omega
          obtain ⟨x, hx⟩ : ∃ x : Nat, (s[i]'hi1).toNat = x := ⟨_, rfl⟩
          have hx1 : ((s[i]'hi1).toNat : Int) = (x : Int) := by rw [hx]
          have HC : Aside0 (s.data.toList[i]? = some (s[i]'hi1)) := ⟨by rw [List.getElem?_eq_getElem (by simpa using hi1)]; rfl⟩
          have HX := Aside0.mk hx
          clear hx
          by_cases hok : okN x
          · have HY : Aside0 (Lets s (i + 1)) := ⟨fun j c hj hc => by
              by_cases he : j = i
              · subst he
                rw [HC.out] at hc
                injection hc with hc
                rw [← hc, okC_iff, HX.out]; exact hok
              · exact HL.out j c (by omega) hc⟩
            rcases hok with ⟨h1, h2⟩ | ⟨h1, h2⟩ | rfl | rfl | rfl | rfl
            · have h3 : (97 : Int) ≤ (x : Int) := by omega
              have h4 : (x : Int) ≤ 122 := by omega
              go_wp2
              go_roundg k
              case measure => omega
              case rel => exact ⟨i + 1, by go_num, by omega, HY, rfl⟩
            · have h3 : (48 : Int) ≤ (x : Int) := by omega
              have h4 : (x : Int) ≤ 57 := by omega
              have h5 : ¬ (97 : Int) ≤ (x : Int) := by omega
              go_wp2
              go_roundg k
              case measure => omega
              case rel => exact ⟨i + 1, by go_num, by omega, HY, rfl⟩
            · clear HX HC HL
              go_wp2
              go_roundg k
              case measure => omega
              case rel => exact ⟨i + 1, by go_num, by omega, HY, rfl⟩
            · clear HX HC HL
              go_wp2
              go_roundg k
              case measure => omega
              case rel => exact ⟨i + 1, by go_num, by omega, HY, rfl⟩
            · clear HX HC HL
              go_wp2
              go_roundg k
              case measure => omega
              case rel => exact ⟨i + 1, by go_num, by omega, HY, rfl⟩
            · clear HX HC HL
              go_wp2
              go_roundg k
              case measure => omega
              case rel => exact ⟨i + 1, by go_num, by omega, HY, rfl⟩
          · have HN : Aside0 (¬ NameOk s) := ⟨fun h => hok (by rw [← HX.out, ← okC_iff]; exact h.all i _ HC.out)⟩
            have n1 : ((x : Int) == 46) = false := by rw [beq_eq_false_iff_ne]; intro h; exact hok (by unfold okN; omega)
            have n2 : ((x : Int) == 45) = false := by rw [beq_eq_false_iff_ne]; intro h; exact hok (by unfold okN; omega)
            have n3 : ((x : Int) == 95) = false := by rw [beq_eq_false_iff_ne]; intro h; exact hok (by unfold okN; omega)
            have n4 : ((x : Int) == 43) = false := by rw [beq_eq_false_iff_ne]; intro h; exact hok (by unfold okN; omega)
            have m1 : ((x : Int) != 46) = true := by rw [bne, n1]; rfl
            have m2 : ((x : Int) != 45) = true := by rw [bne, n2]; rfl
            have m3 : ((x : Int) != 95) = true := by rw [bne, n3]; rfl
            have m4 : ((x : Int) != 43) = true := by rw [bne, n4]; rfl
            by_cases a1 : 97 ≤ x
            · have a2 : (97 : Int) ≤ (x : Int) := by omega
              have a3 : ¬ (x : Int) ≤ 122 := fun h => hok (by unfold okN; omega)
              have a4 : (48 : Int) ≤ (x : Int) := by omega
              have a5 : ¬ (x : Int) ≤ 57 := by omega
              clear hok
              go_wp2
              go_ret
              exact ⟨.no rfl HN.out, rfl⟩
            · have a2 : ¬ (97 : Int) ≤ (x : Int) := by omega
              by_cases b1 : 48 ≤ x
              · have b2 : (48 : Int) ≤ (x : Int) := by omega
                have b3 : ¬ (x : Int) ≤ 57 := fun h => hok (by unfold okN; omega)
                clear hok
                go_wp2
                go_ret
                exact ⟨.no rfl HN.out, rfl⟩
              · have b2 : ¬ (48 : Int) ≤ (x : Int) := by omega
                clear hok
                go_wp2
                go_ret
                exact ⟨.no rfl HN.out, rfl⟩
    · have hm1 : (112 : Int) < (s.size : Int) := by omega
      go_enter Tryz.func101, Tryz.ntmps101
      go_wp2
      go_ret
      exact ⟨.no rfl (fun h => absurd h.most hm), rfl⟩
end Go.Proofs.YtdekmeanlcpenaaGreatDoor.Codec



namespace Go.Proofs.YtdekmeanlcpenaaGreatDoor.Mid
open Go.RowKit Go.Proofs.YtdekmeanlcpenaaGreatDoorW.PrintWords
set_option maxRecDepth 100000

theorem fold_put (pre post : List Value) : ∀ (v done mid : List Value), mid.length = v.length →
    (v.zipIdx done.length).foldl (fun (cs : Array Value) x => cs.setIfInBounds (pre.length + x.2) x.1) (pre ++ (done ++ mid) ++ post).toArray = (pre ++ (done ++ v) ++ post).toArray
  | [], done, mid, h => by
    have : mid = [] := List.length_eq_zero_iff.1 (by simpa using h)
    subst this
    rfl
  | c :: v, done, [], h => by simp at h
  | c :: v, done, m :: mid, h => by
    have ih := fold_put pre post v (done ++ [c]) mid (by simpa using h)
    have e : (pre ++ (done ++ m :: mid) ++ post).toArray.setIfInBounds (pre.length + done.length) c = (pre ++ ((done ++ [c]) ++ mid) ++ post).toArray := by
      rw [List.setIfInBounds_toArray]
      congr 1
      have h1 : pre ++ (done ++ m :: mid) ++ post = (pre ++ done) ++ (m :: (mid ++ post)) := by simp
      rw [h1, ← List.length_append, List.set_append_right _ _ (Nat.le_refl _), Nat.sub_self]
      simp
    rw [List.zipIdx_cons, List.foldl_cons]
    show ((v.zipIdx (done.length + 1)).foldl _ ((pre ++ (done ++ m :: mid) ++ post).toArray.setIfInBounds (pre.length + done.length) c)) = _
    rw [e]
    rw [List.length_append, List.length_singleton] at ih
    rw [ih]
    simp
theorem fold_arr (off : Nat) (v : List Value) (cs : Array Value) : v.toArray.zipIdx.foldl (fun (cs : Array Value) (x : Value × Nat) => cs.setIfInBounds (off + x.2) x.1) cs = (v.zipIdx 0).foldl (fun (cs : Array Value) x => cs.setIfInBounds (off + x.2) x.1) cs := by
  rw [← Array.foldl_toList]
  simp
/-- One part of full size. -/
theorem fill_part {place : Nat → Option (Nat × Nat)} {i off sz : Nat} {rest : List (Nat × Value)} (hp : place i = some (off, sz)) (pre mid post v : List Value) (x : Value) (hx : x.cells = v.toArray) (hl : pre.length = off) (hm : mid.length = sz) (hv : v.length = sz) :
    Instr.fill place (pre ++ mid ++ post).toArray ((i, x) :: rest) = Instr.fill place (pre ++ v ++ post).toArray rest := by
  rw [Instr.fill]
  simp only [hp]
  rw [if_neg (by simp [hx]; omega), hx]
  have h1 := fold_put pre post v [] mid (by omega)
  simp only [List.nil_append, List.length_nil] at h1
  have h2 := fold_arr off v (pre ++ mid ++ post).toArray
  rw [← hl] at h2 ⊢
  exact congrArg (fun z => Instr.fill place z rest) (h2.trans h1)
theorem fill_one {place : Nat → Option (Nat × Nat)} {i off sz : Nat} {rest : List (Nat × Value)} (hp : place i = some (off, sz)) (pre mid post v : List Value) (hl : pre.length = off) (hm : mid.length = sz) (hv : v.length = sz) :
    Instr.fill place (pre ++ mid ++ post).toArray ((i, .agg v.toArray) :: rest) = Instr.fill place (pre ++ v ++ post).toArray rest := fill_part hp pre mid post v _ rfl hl hm hv
theorem fill_rows (sz : Nat) : ∀ (vs : List (List Value)) (i : Nat) (pre zs : List Value), (∀ v ∈ vs, v.length = sz) → pre.length = i * sz → zs.length = vs.length * sz →
    Instr.fill (fun i => some (i * sz, sz)) (pre ++ zs).toArray ((vs.zipIdx i).map fun x => (x.2, .agg x.1.toArray)) = some (pre ++ vs.flatten).toArray
  | [], i, pre, zs, _, _, hz => by
    have : zs = [] := List.length_eq_zero_iff.1 (by simpa using hz)
    subst this
    rfl
  | v :: vs, i, pre, zs, hv, hp, hz => by
    rw [List.length_cons, Nat.add_mul, Nat.one_mul] at hz
    have h1 := fill_one (place := fun i => some (i * sz, sz)) (i := i) (rest := (vs.zipIdx (i + 1)).map fun x => (x.2, .agg x.1.toArray)) rfl pre (zs.take sz) (zs.drop sz) v hp (by rw [List.length_take]; omega) (hv v (by simp))
    have ih := fill_rows sz vs (i + 1) (pre ++ v) (zs.drop sz) (fun u hu => hv u (List.mem_cons_of_mem _ hu)) (by rw [List.length_append, hp, hv v (by simp), Nat.add_mul, Nat.one_mul]) (by rw [List.length_drop]; omega)
    rw [List.append_assoc, List.take_append_drop] at h1
    rw [List.zipIdx_cons, List.map_cons, h1, ih]
    simp

section
variable {ops : Array Oper} {rest : List Oper} {o : Oper} {a : Act} {w : World} {Q : Exit → Act → World → Prop} {K : Act → World → Prop}
theorem wp_buildRows {t e sz : Nat} (n : Nat) (parts : Array (Nat × Operand)) (ho : o.op = .buildSlice t n parts) (vs : List (List Value)) (hu : Tryz.prog.underlying t = some (.slice e)) (hi : ∃ z b, (Tryz.prog.info? e).map (fun i => (i.zero, i.size, i.bytes)) = some (some z, sz, b) ∧ z.cells.size = sz)
    (hp : (parts.map fun (i, x) => (i, a.eval x)).toList = (vs.zipIdx 0).map fun x => (x.2, .agg x.1.toArray)) (hv : ∀ v ∈ vs, v.length = sz) (hn : vs.length = n) (h0 : 0 < n * sz) (hs : n * sz ≤ 16777216)
    (h : K (a.put o.dst (.slice (some ⟨w.heap.size, 0, none⟩) n n)) (w.alloc (.cells vs.flatten.toArray e))) : o.wp Tryz.prog a w K Q := by
  obtain ⟨z, b, hz1, hz2⟩ := hi
  obtain ⟨ie, hie, he⟩ := Option.map_eq_some_iff.1 hz1
  simp only [Prod.mk.injEq] at he
  obtain ⟨e1, e2, _⟩ := he
  refine wp_buildSlice t e n parts ho _ ie z hu hie e1 (by rw [e2]; omega) (by rw [e2]; omega) ?_ h
  rw [hp, e2]
  have := fill_rows sz vs 0 [] ((Array.range (n * sz)).map (z.cells[· % z.cells.size]!)).toList hv (by simp) (by simp [hn])
  rw [List.nil_append, List.nil_append, Array.toArray_toList] at this
  exact this
theorem wpList_buildRows {t e sz : Nat} (hg : o.guard = none) (n : Nat) (parts : Array (Nat × Operand)) (ho : o.op = .buildSlice t n parts) (vs : List (List Value)) (hu : Tryz.prog.underlying t = some (.slice e)) (hi : ∃ z b, (Tryz.prog.info? e).map (fun i => (i.zero, i.size, i.bytes)) = some (some z, sz, b) ∧ z.cells.size = sz)
    (hp : (parts.map fun (i, x) => (i, a.eval x)).toList = (vs.zipIdx 0).map fun x => (x.2, .agg x.1.toArray)) (hv : ∀ v ∈ vs, v.length = sz) (hn : vs.length = n) (h0 : 0 < n * sz) (hs : n * sz ≤ 16777216)
    (h : wpList Tryz.prog ops Q rest (a.put o.dst (.slice (some ⟨w.heap.size, 0, none⟩) n n)) (w.alloc (.cells vs.flatten.toArray e))) : wpList Tryz.prog ops Q (o :: rest) a w :=
  wpList_plain hg fun _ hK => wp_buildRows n parts ho vs hu hi hp hv hn h0 hs (hK _ _ h)
theorem wpList_build33 (hg : o.guard = none) (x : Operand) (ho : o.op = .buildSlice 22 1 #[(0, x)]) (r : Res) (hr : ResOk r) (hx : a.eval x = .agg (resC r).toArray)
    (h : wpList Tryz.prog ops Q rest (a.put o.dst (.slice (some ⟨w.heap.size, 0, none⟩) 1 1)) (w.alloc (.cells (resC r).toArray 33))) : wpList Tryz.prog ops Q (o :: rest) a w := by
  obtain ⟨z, h1, h2⟩ := info33full
  refine wpList_buildRows hg 1 _ ho [resC r] Tryz.underlying22 ⟨z, _, h1, h2⟩ (by simp [hx]) (fun v hv => by rw [List.mem_singleton.1 hv, resC_length hr]) rfl (by decide) (by decide) ?_
  simpa using h
end

/-! ### Literals of ids and of results -/
def z32 : List Int := List.replicate 32 0
theorem z32_ok : IdOk z32 := ⟨rfl, fun u hu => by rw [List.eq_of_mem_replicate hu]; decide⟩
def bld (t : TypeId) (ps : Array (Nat × Value)) : Sem Value := Instr.build t ps
theorem build29_eq (ps : Array (Nat × Value)) : Instr.build 29 ps = bld 29 ps := rfl
theorem build33_eq (ps : Array (Nat × Value)) : Instr.build 33 ps = bld 33 ps := rfl
theorem bld29_none (w : World) : (bld 29 #[]).run Tryz.prog w = .ok (.agg (u8s z32).toArray) w := by kernel_rfl
theorem bld33_none (w : World) : (bld 33 #[]).run Tryz.prog w = .ok (.agg (resC ⟨z32, z32, 0⟩).toArray) w := by kernel_rfl
theorem zero33 (w : World) : (zeroValue 33).run Tryz.prog w = .ok (.agg (resC ⟨z32, z32, 0⟩).toArray) w := by kernel_rfl
/-! ### A fault -/
/-- The cells of a Fault: which call, of what name, of which id, and its number. -/
def faultC (op name : ByteArray) (id : List Int) (err : Value) : List Value := [.string op] ++ [.string name] ++ u8s id ++ [err]
def errno (n : Int) : Value := .iface 80 (.int .i64 n)
theorem build69_eq (ps : Array (Nat × Value)) : Instr.build 82 ps = bld 82 ps := rfl
def places69 : Array (Nat × Nat) := #[(0, 1), (1, 1), (2, 32), (34, 1)]
theorem run_build69 (w : World) (ps : Array (Nat × Value)) (cells : Array Value) (h : Instr.fill (places69[·]?) (faultC .empty .empty z32 .nilIface).toArray ps.toList = some cells) : (bld 82 ps).run Tryz.prog w = .ok (.agg cells) w := by
  have hz : (zeroValue 82).run Tryz.prog w = .ok (.agg (faultC .empty .empty z32 .nilIface).toArray) w := by kernel_rfl
  have h9 : (sizeOf 9).run Tryz.prog w = .ok 1 w := by kernel_rfl
  have h29 : (sizeOf 29).run Tryz.prog w = .ok 32 w := by kernel_rfl
  have h35 : (sizeOf 35).run Tryz.prog w = .ok 1 w := by kernel_rfl
  unfold bld Instr.build
  simp only [Sem.run_bind, hz, Result.andThen_ok, run_underlying Tryz.underlying82 w, Value.cells]
  simp [h9, h29, h35, Sem.run_bind, Result.andThen]
  have e : (fun x : Nat => places69[x]?) = fun x => ([(0, 1), (1, 1), (2, 32), (34, 1)] : List (Nat × Nat))[x]? := by
    funext x
    simp [places69]
  rw [e] at h
  simp only [h]
  rfl
theorem bld69_two (w : World) (op : ByteArray) (err : Value) (he : err.cells = #[err]) : (bld 82 #[(0, .string op), (3, err)]).run Tryz.prog w = .ok (.agg (faultC op .empty z32 err).toArray) w := by
  refine run_build69 w _ _ ?_
  have h1 := fill_part (place := (places69[·]?)) (i := 0) (off := 0) (sz := 1) (rest := [(3, err)]) rfl [] [.string .empty] ([.string .empty] ++ u8s z32 ++ [.nilIface]) [.string op] (.string op) rfl rfl rfl rfl
  have h2 := fill_part (place := (places69[·]?)) (i := 3) (off := 34) (sz := 1) (rest := []) rfl ([.string op] ++ [.string .empty] ++ u8s z32) [.nilIface] [] [err] err he (by simp [u8s_length, z32]) rfl rfl
  simp only [faultC, List.nil_append, List.append_nil, List.append_assoc] at h1 h2 ⊢
  rw [h1, h2]
  rfl
end Go.Proofs.YtdekmeanlcpenaaGreatDoor.Mid

namespace Go.Proofs.YtdekmeanlcpenaaGreatDoor.Mid
open Go.RowKit Go.Proofs.YtdekmeanlcpenaaGreatDoorW.PrintWords Go.Proofs.YtdekmeanlcpenaaGreatDoor.Pick

theorem At.grown {W W1 : World} {p : Addr} {cs : List Value} {r : Option Nat} (h : At W p cs) (hlt : p.block < W.heap.size) (hg : W.grownBy W1 r) (hne : some p.block ≠ r) : At W1 p cs := h.move (hg.block _ hlt hne)
theorem grown_of_below {W W1 : World} {r : Option Nat} (h : Below W.heap.size W W1) : W.grownBy W1 r := ⟨h.os, h.tape, h.output, h.size, fun k hk _ => h.block k hk⟩
theorem res_M {w : World} {b : Nat} {ok : Nat → Prop} {r : Res} (hr : ResOk r) : resK.M w b ok r (resC r) := (show ResOk r ∧ resC r = resC r from ⟨hr, rfl⟩)
theorem id_M {w : World} {b : Nat} {ok : Nat → Prop} {x : List Int} (hx : IdOk x) : idK.M w b ok x (u8s x) := (show IdOk x ∧ u8s x = u8s x from ⟨hx, rfl⟩)
end Go.Proofs.YtdekmeanlcpenaaGreatDoor.Mid

namespace Go.Proofs.YtdekmeanlcpenaaGreatDoor.Mid
open Go.RowKit Go.Proofs.YtdekmeanlcpenaaGreatDoorW.PrintWords
attribute [local go_sem ↓ high] load33_eq load29_eq
attribute [local simp] rowOf_drew rowOf_drewN
attribute [local go_sem high] load33_row load29_row rowOf_drew rowOf_drewN

theorem res_code' {w : World} {p : Addr} {r : Res} (hr : ResOk r) (h : At w p (resC r)) : w.cell? ⟨p.block, p.off + 64, none⟩ = some (.int .i64 r.code) := res_code hr h
set_option maxHeartbeats 1000000
set_option maxRecDepth 100000
theorem ref_valid (A : Option Addr) (c : Nat) (rs : List Res) (w : World) (hC : resK.C w A rs.length rs) (hc : rs.length ≤ c) (hl : rs.length ≤ 140737488355328) :
    Calls Tryz.prog 28 #[.slice A rs.length c] w fun e w' => RetB e (Table rs) ∧ Below w.heap.size w w' := by
  have HC := Aside0.mk hC
  have Hc := Aside0.mk hc
  clear hC hc
  by_cases hm : rs.length ≤ 32
  · have hm1 : (rs.length : Int) ≤ 32 := by omega
    go_enter Tryz.func28, Tryz.ntmps28
    go_wp2
    go_loopg [3] rs.length (fun k v3 w' => ∃ i : Nat, v3 = .int .i64 i ∧ i + k = rs.length ∧ Aside0 (Upto rs i) ∧ Aside0 (Below w.heap.size w w'))
    case atStart => exact ⟨0, rfl, by omega, ⟨upto_none rs⟩, ⟨Below.refl _ _⟩⟩
    case round =>
      obtain ⟨i, rfl, hik, HU, HB⟩ := hrel
      cases gk with
      | zero =>
        have hd : decide (i < rs.length) = false := by simp; omega
        have hi : Aside0 (i = rs.length) := ⟨by omega⟩
        clear hik
        go_wp2
        go_ret
        exact ⟨.yes rfl (upto_all HU.out (by rw [hi.out]; exact Nat.le_refl _) hm), HB.out⟩
      | succ k =>
        have hi : i < rs.length := by omega
        have hi1 : (i : Int) < (rs.length : Int) := by omega
        obtain ⟨ad, r, rfl, hr, ho, hat⟩ := res_at (Kd.C_below HC.out HB.out) i hi
        have hcell := res_code' ho hat
        have hact := (res_act hat).id ho.act
        have HR := Aside0.mk hr
        have Ho := Aside0.mk ho
        have Hat := Aside0.mk hat
        clear hat ho hr
        by_cases hf1 : r.code < 0
        · go_wp2
          go_ret
          exact ⟨.no rfl (fun T => by have := T.code r (List.mem_of_getElem? HR.out); omega), HB.out⟩
        · have hf2 : decide (r.code < 0) = false := by simpa using hf1
          by_cases hf3 : 255 < r.code
          · go_wp2
            go_ret
            exact ⟨.no rfl (fun T => by have := T.code r (List.mem_of_getElem? HR.out); omega), HB.out⟩
          · have hf4 : decide (255 < r.code) = false := by simpa using hf3
            have Hf : Aside0 (0 ≤ r.code ∧ r.code ≤ 255) := ⟨by omega⟩
            clear hf1 hf3
            obtain rfl | ⟨m, rfl⟩ : i = 0 ∨ ∃ m, i = m + 1 := by cases i; exact .inl rfl; exact .inr ⟨_, rfl⟩
            · simp only [Nat.zero_mul, Addr.add_zero'] at hcell hact
              go_wp2
              refine wp_region_S (Since wr) (by kernel_rfl) (by kernel_rfl) (since_drew wr) ?_
              repeat (go_big_quiet_step (fail))
              refine wpQuiet_nil ?_
              rintro _ ⟨⟨w5, hb5⟩, rfl⟩
              go_wp2
              go_roundg k
              case measure => omega
              case rel => exact ⟨1, by go_num, by omega, ⟨upto_one HR.out Hf.out⟩, ⟨below_of HB.out hb5 (Nat.le_refl _)⟩⟩
            · have hm0 : m < rs.length := by omega
              have hm2 : (m : Int) < (rs.length : Int) := by omega
              obtain ⟨ad', q, e1, hq, hqo, hqa⟩ := res_at (Kd.C_below HC.out HB.out) m hm0
              cases e1
              have g2 : ∀ x : CW (Since wr), rowOf x.w (ad.add ((m + 1) * 65)) 32 = some (u8s r.act) := fun x => (res_act (Hat.out.below x.h)).id Ho.out.act
              have g3 : ∀ x : CW (Since wr), rowOf x.w (ad.add (m * 65)) 32 = some (u8s q.act) := fun x => (res_act (hqa.below x.h)).id hqo.act
              have HQ := Aside0.mk hq
              have Hqo := Aside0.mk hqo
              clear hq hqo hqa
              by_cases hc : cmp q.act r.act < 0
              · have hd3 : decide (0 ≤ cmp q.act r.act) = false := by simpa using hc
                have Hcm := Aside0.mk hc
                clear hc
                go_wp2
                refine wp_region_S (Since wr) (by kernel_rfl) (by kernel_rfl) (since_drew wr) ?_
                repeat (go_big_quiet_step (first | (go_at_call 72; refine calls_since (order_any _ q.act r.act Hqo.out.act Ho.out.act))))
                refine wpQuiet_nil ?_
                rintro _ ⟨⟨w5, hb5⟩, rfl⟩
                go_wp2
                go_roundg k
                case measure => omega
                case rel => exact ⟨m + 2, by go_num, by omega, ⟨upto_step HU.out HQ.out HR.out Hf.out Hcm.out⟩, ⟨below_of HB.out hb5 (Nat.le_refl _)⟩⟩
              · have hd3 : 0 ≤ cmp q.act r.act := by omega
                have Hcm := Aside0.mk hc
                clear hc
                go_wp2
                refine wp_region_S (Since wr) (by kernel_rfl) (by kernel_rfl) (since_drew wr) ?_
                repeat (go_big_quiet_step (first | (go_at_call 72; refine calls_since (order_any _ q.act r.act Hqo.out.act Ho.out.act))))
                refine wpQuiet_nil ?_
                rintro _ ⟨⟨w5, hb5⟩, rfl⟩
                go_wp2
                go_ret
                exact ⟨.no rfl (fun T => (by have h6 := T.rise m q r HQ.out HR.out; have h7 := Hcm.out; omega)), below_of HB.out hb5 (Nat.le_refl _)⟩
  · have hm1 : (32 : Int) < rs.length := by omega
    go_enter Tryz.func28, Tryz.ntmps28
    go_wp2
    go_ret
    exact ⟨.no rfl (fun T => absurd T.most hm), Below.refl _ _⟩
end Go.Proofs.YtdekmeanlcpenaaGreatDoor.Mid
