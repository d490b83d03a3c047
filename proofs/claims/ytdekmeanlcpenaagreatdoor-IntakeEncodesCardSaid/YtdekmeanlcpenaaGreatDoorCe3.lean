import Derived.Test.YtdekmeanlcpenaaGreatDoorCe2
import Derived.Great.BuildSlice
import Derived.Test.YtdekmeanlcpenaaGreatDoorWApart
import Derived.Test.YtdekmeanlcpenaaGreatDoorCe1
set_option linter.unusedSimpArgs false
set_option linter.unusedVariables false
namespace Go.Proofs.YtdekmeanlcpenaaGreatDoor.Mid
open Go.RowKit Go.Proofs.YtdekmeanlcpenaaGreatDoorW.PrintWords
set_option maxRecDepth 100000

theorem fold_put (pre post : List Value) : ∀ (v done mid : List Value), mid.length = v.length →
    (v.zipIdx done.length).foldl (fun (cs : Array Value) x => cs.setIfInBounds (pre.length + x.2) x.1) (pre ++ (done ++ mid) ++ post).toArray = (pre ++ (done ++ v) ++ post).toArray
  | [], done, mid, h => by
    have : mid = [] := List.length_eq_zero_iff.1 (by simpa using h)
    subst this
    rfl
  | c :: v, done, [], h => by simp at h
  | c :: v, done, m :: mid, h => by
    have ih := fold_put pre post v (done ++ [c]) mid (by simpa using h)
    have e : (pre ++ (done ++ m :: mid) ++ post).toArray.setIfInBounds (pre.length + done.length) c = (pre ++ ((done ++ [c]) ++ mid) ++ post).toArray := by
      rw [List.setIfInBounds_toArray]
      congr 1
      have h1 : pre ++ (done ++ m :: mid) ++ post = (pre ++ done) ++ (m :: (mid ++ post)) := by simp
      rw [h1, ← List.length_append, List.set_append_right _ _ (Nat.le_refl _), Nat.sub_self]
      simp
    rw [List.zipIdx_cons, List.foldl_cons]
    show ((v.zipIdx (done.length + 1)).foldl _ ((pre ++ (done ++ m :: mid) ++ post).toArray.setIfInBounds (pre.length + done.length) c)) = _
    rw [e]
    rw [List.length_append, List.length_singleton] at ih
    rw [ih]
    simp
theorem fold_arr (off : Nat) (v : List Value) (cs : Array Value) : v.toArray.zipIdx.foldl (fun (cs : Array Value) (x : Value × Nat) => cs.setIfInBounds (off + x.2) x.1) cs = (v.zipIdx 0).foldl (fun (cs : Array Value) x => cs.setIfInBounds (off + x.2) x.1) cs := by
  rw [← Array.foldl_toList]
  simp
/-- One part of full size. -/
theorem fill_part {place : Nat → Option (Nat × Nat)} {i off sz : Nat} {rest : List (Nat × Value)} (hp : place i = some (off, sz)) (pre mid post v : List Value) (x : Value) (hx : x.cells = v.toArray) (hl : pre.length = off) (hm : mid.length = sz) (hv : v.length = sz) :
    Instr.fill place (pre ++ mid ++ post).toArray ((i, x) :: rest) = Instr.fill place (pre ++ v ++ post).toArray rest := by
  rw [Instr.fill]
  simp only [hp]
  rw [if_neg (by simp [hx]; omega), hx]
  have h1 := fold_put pre post v [] mid (by omega)
  simp only [List.nil_append, List.length_nil] at h1
  have h2 := fold_arr off v (pre ++ mid ++ post).toArray
  rw [← hl] at h2 ⊢
  exact congrArg (fun z => Instr.fill place z rest) (h2.trans h1)
theorem fill_one {place : Nat → Option (Nat × Nat)} {i off sz : Nat} {rest : List (Nat × Value)} (hp : place i = some (off, sz)) (pre mid post v : List Value) (hl : pre.length = off) (hm : mid.length = sz) (hv : v.length = sz) :
    Instr.fill place (pre ++ mid ++ post).toArray ((i, .agg v.toArray) :: rest) = Instr.fill place (pre ++ v ++ post).toArray rest := fill_part hp pre mid post v _ rfl hl hm hv
theorem fill_rows (sz : Nat) : ∀ (vs : List (List Value)) (i : Nat) (pre zs : List Value), (∀ v ∈ vs, v.length = sz) → pre.length = i * sz → zs.length = vs.length * sz →
    Instr.fill (fun i => some (i * sz, sz)) (pre ++ zs).toArray ((vs.zipIdx i).map fun x => (x.2, .agg x.1.toArray)) = some (pre ++ vs.flatten).toArray
  | [], i, pre, zs, _, _, hz => by
    have : zs = [] := List.length_eq_zero_iff.1 (by simpa using hz)
    subst this
    rfl
  | v :: vs, i, pre, zs, hv, hp, hz => by
    rw [List.length_cons, Nat.add_mul, Nat.one_mul] at hz
    have h1 := fill_one (place := fun i => some (i * sz, sz)) (i := i) (rest := (vs.zipIdx (i + 1)).map fun x => (x.2, .agg x.1.toArray)) rfl pre (zs.take sz) (zs.drop sz) v hp (by rw [List.length_take]; omega) (hv v (by simp))
    have ih := fill_rows sz vs (i + 1) (pre ++ v) (zs.drop sz) (fun u hu => hv u (List.mem_cons_of_mem _ hu)) (by rw [List.length_append, hp, hv v (by simp), Nat.add_mul, Nat.one_mul]) (by rw [List.length_drop]; omega)
    rw [List.append_assoc, List.take_append_drop] at h1
    rw [List.zipIdx_cons, List.map_cons, h1, ih]
    simp

section
variable {ops : Array Oper} {rest : List Oper} {o : Oper} {a : Act} {w : World} {Q : Exit → Act → World → Prop} {K : Act → World → Prop}
theorem wp_buildRows {t e sz : Nat} (n : Nat) (parts : Array (Nat × Operand)) (ho : o.op = .buildSlice t n parts) (vs : List (List Value)) (hu : Tryz.prog.underlying t = some (.slice e)) (hi : ∃ z b, (Tryz.prog.info? e).map (fun i => (i.zero, i.size, i.bytes)) = some (some z, sz, b) ∧ z.cells.size = sz)
    (hp : (parts.map fun (i, x) => (i, a.eval x)).toList = (vs.zipIdx 0).map fun x => (x.2, .agg x.1.toArray)) (hv : ∀ v ∈ vs, v.length = sz) (hn : vs.length = n) (h0 : 0 < n * sz) (hs : n * sz ≤ 16777216)
    (h : K (a.put o.dst (.slice (some ⟨w.heap.size, 0, none⟩) n n)) (w.alloc (.cells vs.flatten.toArray e))) : o.wp Tryz.prog a w K Q := by
  obtain ⟨z, b, hz1, hz2⟩ := hi
  obtain ⟨ie, hie, he⟩ := Option.map_eq_some_iff.1 hz1
  simp only [Prod.mk.injEq] at he
  obtain ⟨e1, e2, _⟩ := he
  refine wp_buildSlice t e n parts ho _ ie z hu hie e1 (by rw [e2]; omega) (by rw [e2]; omega) ?_ h
  rw [hp, e2]
  have := fill_rows sz vs 0 [] ((Array.range (n * sz)).map (z.cells[· % z.cells.size]!)).toList hv (by simp) (by simp [hn])
  rw [List.nil_append, List.nil_append, Array.toArray_toList] at this
  exact this
theorem wpList_buildRows {t e sz : Nat} (hg : o.guard = none) (n : Nat) (parts : Array (Nat × Operand)) (ho : o.op = .buildSlice t n parts) (vs : List (List Value)) (hu : Tryz.prog.underlying t = some (.slice e)) (hi : ∃ z b, (Tryz.prog.info? e).map (fun i => (i.zero, i.size, i.bytes)) = some (some z, sz, b) ∧ z.cells.size = sz)
    (hp : (parts.map fun (i, x) => (i, a.eval x)).toList = (vs.zipIdx 0).map fun x => (x.2, .agg x.1.toArray)) (hv : ∀ v ∈ vs, v.length = sz) (hn : vs.length = n) (h0 : 0 < n * sz) (hs : n * sz ≤ 16777216)
    (h : wpList Tryz.prog ops Q rest (a.put o.dst (.slice (some ⟨w.heap.size, 0, none⟩) n n)) (w.alloc (.cells vs.flatten.toArray e))) : wpList Tryz.prog ops Q (o :: rest) a w :=
  wpList_plain hg fun _ hK => wp_buildRows n parts ho vs hu hi hp hv hn h0 hs (hK _ _ h)
theorem wpList_build33 (hg : o.guard = none) (x : Operand) (ho : o.op = .buildSlice 22 1 #[(0, x)]) (r : Res) (hr : ResOk r) (hx : a.eval x = .agg (resC r).toArray)
    (h : wpList Tryz.prog ops Q rest (a.put o.dst (.slice (some ⟨w.heap.size, 0, none⟩) 1 1)) (w.alloc (.cells (resC r).toArray 33))) : wpList Tryz.prog ops Q (o :: rest) a w := by
  obtain ⟨z, h1, h2⟩ := info33full
  refine wpList_buildRows hg 1 _ ho [resC r] Tryz.underlying22 ⟨z, _, h1, h2⟩ (by simp [hx]) (fun v hv => by rw [List.mem_singleton.1 hv, resC_length hr]) rfl (by decide) (by decide) ?_
  simpa using h
end

/-! ### Literals of ids and of results -/
def z32 : List Int := List.replicate 32 0
theorem z32_ok : IdOk z32 := ⟨rfl, fun u hu => by rw [List.eq_of_mem_replicate hu]; decide⟩
def bld (t : TypeId) (ps : Array (Nat × Value)) : Sem Value := Instr.build t ps
theorem build29_eq (ps : Array (Nat × Value)) : Instr.build 29 ps = bld 29 ps := rfl
theorem build33_eq (ps : Array (Nat × Value)) : Instr.build 33 ps = bld 33 ps := rfl
theorem bld29_none (w : World) : (bld 29 #[]).run Tryz.prog w = .ok (.agg (u8s z32).toArray) w := by kernel_rfl
theorem bld29_one (w : World) (n : Int) : (bld 29 #[(0, .int .u8 n)]).run Tryz.prog w = .ok (.agg (u8s (n :: List.replicate 31 0)).toArray) w := by kernel_rfl
theorem bld33_none (w : World) : (bld 33 #[]).run Tryz.prog w = .ok (.agg (resC ⟨z32, z32, 0⟩).toArray) w := by kernel_rfl
theorem bld33_code (w : World) (n : Int) : (bld 33 #[(2, .int .i64 n)]).run Tryz.prog w = .ok (.agg (resC ⟨z32, z32, n⟩).toArray) w := by kernel_rfl
theorem zero33 (w : World) : (zeroValue 33).run Tryz.prog w = .ok (.agg (resC ⟨z32, z32, 0⟩).toArray) w := by kernel_rfl
/-! ### A fault -/
/-- The cells of a Fault: which call, of what name, of which id, and its number. -/
def faultC (op name : ByteArray) (id : List Int) (err : Value) : List Value := [.string op] ++ [.string name] ++ u8s id ++ [err]
def errno (n : Int) : Value := .iface 80 (.int .i64 n)
theorem faultC_length {op name : ByteArray} {id : List Int} {err : Value} (h : IdOk id) : (faultC op name id err).length = 35 := by simp [faultC, u8s_length, h.len]
theorem build69_eq (ps : Array (Nat × Value)) : Instr.build 82 ps = bld 82 ps := rfl
def places69 : Array (Nat × Nat) := #[(0, 1), (1, 1), (2, 32), (34, 1)]
theorem run_build69 (w : World) (ps : Array (Nat × Value)) (cells : Array Value) (h : Instr.fill (places69[·]?) (faultC .empty .empty z32 .nilIface).toArray ps.toList = some cells) : (bld 82 ps).run Tryz.prog w = .ok (.agg cells) w := by
  have hz : (zeroValue 82).run Tryz.prog w = .ok (.agg (faultC .empty .empty z32 .nilIface).toArray) w := by kernel_rfl
  have h9 : (sizeOf 9).run Tryz.prog w = .ok 1 w := by kernel_rfl
  have h29 : (sizeOf 29).run Tryz.prog w = .ok 32 w := by kernel_rfl
  have h35 : (sizeOf 35).run Tryz.prog w = .ok 1 w := by kernel_rfl
  unfold bld Instr.build
  simp only [Sem.run_bind, hz, Result.andThen_ok, run_underlying Tryz.underlying82 w, Value.cells]
  simp [h9, h29, h35, Sem.run_bind, Result.andThen]
  have e : (fun x : Nat => places69[x]?) = fun x => ([(0, 1), (1, 1), (2, 32), (34, 1)] : List (Nat × Nat))[x]? := by
    funext x
    simp [places69]
  rw [e] at h
  simp only [h]
  rfl
theorem bld69_two (w : World) (op : ByteArray) (err : Value) (he : err.cells = #[err]) : (bld 82 #[(0, .string op), (3, err)]).run Tryz.prog w = .ok (.agg (faultC op .empty z32 err).toArray) w := by
  refine run_build69 w _ _ ?_
  have h1 := fill_part (place := (places69[·]?)) (i := 0) (off := 0) (sz := 1) (rest := [(3, err)]) rfl [] [.string .empty] ([.string .empty] ++ u8s z32 ++ [.nilIface]) [.string op] (.string op) rfl rfl rfl rfl
  have h2 := fill_part (place := (places69[·]?)) (i := 3) (off := 34) (sz := 1) (rest := []) rfl ([.string op] ++ [.string .empty] ++ u8s z32) [.nilIface] [] [err] err he (by simp [u8s_length, z32]) rfl rfl
  simp only [faultC, List.nil_append, List.append_nil, List.append_assoc] at h1 h2 ⊢
  rw [h1, h2]
  rfl
theorem bld69_three (w : World) (op : ByteArray) (x : List Int) (hx : IdOk x) (err : Value) (he : err.cells = #[err]) : (bld 82 #[(0, .string op), (2, .agg (u8s x).toArray), (3, err)]).run Tryz.prog w = .ok (.agg (faultC op .empty x err).toArray) w := by
  refine run_build69 w _ _ ?_
  have hl : (u8s x).length = 32 := by rw [u8s_length, hx.len]
  have h1 := fill_part (place := (places69[·]?)) (i := 0) (off := 0) (sz := 1) (rest := [(2, .agg (u8s x).toArray), (3, err)]) rfl [] [.string .empty] ([.string .empty] ++ u8s z32 ++ [.nilIface]) [.string op] (.string op) rfl rfl rfl rfl
  have h2 := fill_part (place := (places69[·]?)) (i := 2) (off := 2) (sz := 32) (rest := [(3, err)]) rfl ([.string op] ++ [.string .empty]) (u8s z32) [.nilIface] (u8s x) (.agg (u8s x).toArray) rfl rfl rfl hl
  have h3 := fill_part (place := (places69[·]?)) (i := 3) (off := 34) (sz := 1) (rest := []) rfl ([.string op] ++ [.string .empty] ++ u8s x) [.nilIface] [] [err] err he (by simp [hl]) rfl rfl
  simp only [faultC, List.nil_append, List.append_nil, List.append_assoc] at h1 h2 h3 ⊢
  rw [h1, h2, h3]
  rfl
theorem bld69_four (w : World) (op nm : ByteArray) (x : List Int) (hx : IdOk x) (err : Value) (he : err.cells = #[err]) : (bld 82 #[(0, .string op), (1, .string nm), (2, .agg (u8s x).toArray), (3, err)]).run Tryz.prog w = .ok (.agg (faultC op nm x err).toArray) w := by
  refine run_build69 w _ _ ?_
  have hl : (u8s x).length = 32 := by rw [u8s_length, hx.len]
  have h1 := fill_part (place := (places69[·]?)) (i := 0) (off := 0) (sz := 1) (rest := [(1, .string nm), (2, .agg (u8s x).toArray), (3, err)]) rfl [] [.string .empty] ([.string .empty] ++ u8s z32 ++ [.nilIface]) [.string op] (.string op) rfl rfl rfl rfl
  have h0 := fill_part (place := (places69[·]?)) (i := 1) (off := 1) (sz := 1) (rest := [(2, .agg (u8s x).toArray), (3, err)]) rfl [.string op] [.string .empty] (u8s z32 ++ [.nilIface]) [.string nm] (.string nm) rfl rfl rfl rfl
  have h2 := fill_part (place := (places69[·]?)) (i := 2) (off := 2) (sz := 32) (rest := [(3, err)]) rfl ([.string op] ++ [.string nm]) (u8s z32) [.nilIface] (u8s x) (.agg (u8s x).toArray) rfl rfl rfl hl
  have h3 := fill_part (place := (places69[·]?)) (i := 3) (off := 34) (sz := 1) (rest := []) rfl ([.string op] ++ [.string nm] ++ u8s x) [.nilIface] [] [err] err he (by simp [hl]) rfl rfl
  simp only [faultC, List.nil_append, List.append_nil, List.append_assoc] at h0 h1 h2 h3 ⊢
  rw [h1, h0, h2, h3]
  rfl
theorem errno_cells (n : Int) : (errno n).cells = #[errno n] := rfl
end Go.Proofs.YtdekmeanlcpenaaGreatDoor.Mid

namespace Go.Proofs.YtdekmeanlcpenaaGreatDoor.Mid
open Go.RowKit Go.Proofs.YtdekmeanlcpenaaGreatDoorW.PrintWords Go.Proofs.YtdekmeanlcpenaaGreatDoor.Pick

theorem R_off {α : Type} {d : Kd α} {e : Nat} {W W1 : World} {b : Nat} {v : Value} {y : List α} {r : Option Nat} (hE : d.E = []) (h : d.R e W b (fun _ => True) v y) (hg : W.grownBy W1 r) (hne : ∀ k, v.ownBlock = some k → some k ≠ r) : d.R e W1 b (fun _ => True) v y :=
  Kd.R_mono (Kd.R_grown (Kd.R_tight hE h) hg (fun k hk => hne k hk.symm)) (fun _ _ => trivial)
theorem set_ne {α : Type} {d : Kd α} {e : Nat} {W : World} {b : Nat} {v : Value} {y : List α} {ok : Nat → Prop} {P : Program} {t k : Nat} {ks : List Value} (hS : SetAt P t W k ks) (h : d.R e W b ok v y) : some k ≠ v.ownBlock := by
  intro he
  obtain ⟨cells, hc⟩ := Kd.R_typed h k he.symm
  obtain ⟨es, clock, hb, _⟩ := hS
  rw [hc] at hb
  cases hb
theorem At.grown {W W1 : World} {p : Addr} {cs : List Value} {r : Option Nat} (h : At W p cs) (hlt : p.block < W.heap.size) (hg : W.grownBy W1 r) (hne : some p.block ≠ r) : At W1 p cs := h.move (hg.block _ hlt hne)
theorem grown_none {W W1 : World} {r : Option Nat} (h : W.grownBy W1 none) : W.grownBy W1 r := ⟨h.os, h.tape, h.output, h.size, fun k hk _ => h.block k hk (by simp)⟩
theorem grown_of_below {W W1 : World} {r : Option Nat} (h : Below W.heap.size W W1) : W.grownBy W1 r := ⟨h.os, h.tape, h.output, h.size, fun k hk _ => h.block k hk⟩
theorem res_M {w : World} {b : Nat} {ok : Nat → Prop} {r : Res} (hr : ResOk r) : resK.M w b ok r (resC r) := (show ResOk r ∧ resC r = resC r from ⟨hr, rfl⟩)
theorem id_M {w : World} {b : Nat} {ok : Nat → Prop} {x : List Int} (hx : IdOk x) : idK.M w b ok x (u8s x) := (show IdOk x ∧ u8s x = u8s x from ⟨hx, rfl⟩)
theorem resK_sz : resK.sz = 65 := rfl
theorem idK_sz : idK.sz = 32 := rfl
/-- The walk stands here. -/
theorem wpList_stop {P : Program} {ops : Array Oper} {Q : Exit → Act → World → Prop} {l : List Oper} {a : Act} {w : World} (h : Aside0 (wpList P ops Q l a w)) : wpList P ops Q l a w := h.out
theorem results_tct {fn : Func} {p q u : Tmp} {x : List Int} (hx : IdOk x) (h : fn.results = #[.tmp p, .cell q 29, .tmp u]) (tmps : Array Value) (w : World) (g : Nat)
    (hp : tmps.getD q undef = .pointer (some ⟨g, 0, none⟩)) (hg : w.heap[g]? = some (.cells (u8s x).toArray 29 (0, 0))) :
    (results fn tmps).run Tryz.prog w = .ok (.tuple #[tmps.getD p undef, idv x, tmps.getD u undef]) w := by
  have hp' : tmps[q]?.getD undef = .pointer (some ⟨g, 0, none⟩) := by simpa using hp
  have hl := run_loadVar_at (P := Tryz.prog) w ⟨g, 0, none⟩ 29 (u8s x) _ (At.blk hg) Tryz.underlying29 rfl (by rw [u8s_length, hx.len]; exact info29)
  simp [results, h, hp', asAddr, hl, idv]
theorem results_ttc {fn : Func} {p q u : Tmp} {x : List Int} (hx : IdOk x) (h : fn.results = #[.tmp p, .tmp u, .cell q 29]) (tmps : Array Value) (w : World) (g : Nat)
    (hp : tmps.getD q undef = .pointer (some ⟨g, 0, none⟩)) (hg : w.heap[g]? = some (.cells (u8s x).toArray 29 (0, 0))) :
    (results fn tmps).run Tryz.prog w = .ok (.tuple #[tmps.getD p undef, tmps.getD u undef, idv x]) w := by
  have hp' : tmps[q]?.getD undef = .pointer (some ⟨g, 0, none⟩) := by simpa using hp
  have hl := run_loadVar_at (P := Tryz.prog) w ⟨g, 0, none⟩ 29 (u8s x) _ (At.blk hg) Tryz.underlying29 rfl (by rw [u8s_length, hx.len]; exact info29)
  simp [results, h, hp', asAddr, hl, idv]
end Go.Proofs.YtdekmeanlcpenaaGreatDoor.Mid

namespace Go.Proofs.YtdekmeanlcpenaaGreatDoor.Pick
open Go.RowKit Go.Proofs.YtdekmeanlcpenaaGreatDoorW.PrintWords Go.Proofs.YtdekmeanlcpenaaGreatDoor.Mid
attribute [local go_sem ↓ high] load33_eq load29_eq
attribute [local simp] rowOf_drew rowOf_drewN
attribute [local go_sem high] load33_row load29_row rowOf_drew rowOf_drewN
set_option maxHeartbeats 2000000
set_option maxRecDepth 100000

theorem zero4 (u : World) : (zeroValue 4).run Tryz.prog u = .ok (.bool false) u := by kernel_rfl

theorem pick_prog (A : Option Addr) (c : Nat) (rs : List Res) (A2 : Option Addr) (c2 : Nat) (qs : List (List Int)) (w : World) (hC : resK.C w A rs.length rs) (hD : idK.C w A2 qs.length qs) (ok : ∀ r ∈ rs, ResOk r) (oka : ∀ a ∈ qs, IdOk a) (T : Table rs)
    (hca : qs.length ≤ 1000000) :
    Calls Tryz.prog 32 #[.slice A rs.length c, .slice A2 qs.length c2] w fun e w' => (∃ v least first, e = .returned (.tuple #[v, idv least, .bool first]) ∧ resK.R 33 w' w.heap.size (fun _ => True) v (pickS rs qs) ∧ IdOk least ∧
      (first = true → (∀ a, ¬ Lacks rs qs a) ∧ least = List.replicate 32 0) ∧ (first = false → Least (Lacks rs qs) least)) ∧ Below w.heap.size w w' := by
  have HC := Aside0.mk hC
  have HD := Aside0.mk hD
  have hmo : rs.length ≤ 32 := T.most
  have HT := Aside0.mk T
  have HO := Aside0.mk ok
  have HOA := Aside0.mk oka
  clear hC hD T ok oka
  go_enter Tryz.func32, Tryz.ntmps32
  have hmm := @run_makeMap Tryz.prog
  go_wp2
  obtain ⟨W0, hW0⟩ : ∃ W0, W0 = w.alloc (.cells (u8s (List.replicate 32 0)).toArray 29) := ⟨_, rfl⟩
  have hs0 : W0.heap.size = w.heap.size + 1 := by rw [hW0]; simp
  have hb0 : Below w.heap.size w W0 := hW0 ▸ below_alloc (Below.refl _ _) _
  have hz0 : W0.heap[w.heap.size]? = some (.cells (u8s (List.replicate 32 0)).toArray 29 (0, 0)) := hW0 ▸ heap_alloc_new w _
  have start : SetAt Tryz.prog 29 (W0.alloc (.map #[] 0)) (w.heap.size + 1) [] ∧ Below w.heap.size w (W0.alloc (.map #[] 0)) ∧ (W0.alloc (.map #[] 0)).heap[w.heap.size]? = some (.cells (u8s (List.replicate 32 0)).toArray 29 (0, 0)) := by
    refine ⟨?_, hb0.trans ((below_alloc (Below.refl _ _) _).mono (by omega)), (heap_alloc_old W0 _ (by omega)).trans hz0⟩
    have := SetAt.made Tryz.prog 29 W0
    rwa [hs0] at this
  have HSt := Aside0.mk start
  rw [hW0] at HSt
  clear start hz0 hb0 hs0 hW0 W0
  go_loopg [19] qs.length (fun k v19 w' => ∃ (i : Nat) (ks : List Value), v19 = .int .i64 i ∧ i + k = qs.length ∧ Aside0 (SetAt Tryz.prog 29 w' (w.heap.size + 1) ks) ∧ Aside0 (Asked qs i ks) ∧ Aside0 (Below w.heap.size w w') ∧ Aside0 (w'.heap[w.heap.size]? = some (.cells (u8s (List.replicate 32 0)).toArray 29 (0, 0))))
  case atStart => exact ⟨0, [], rfl, by omega, ⟨HSt.out.1⟩, ⟨asked_none _⟩, ⟨HSt.out.2.1⟩, ⟨HSt.out.2.2⟩⟩
  case round =>
    clear HSt
    obtain ⟨i, ks, rfl, hik, HS, HA, HB, HZ⟩ := hrel
    cases gk with
    | zero =>
      have hd : decide (i < qs.length) = false := by simp; omega
      have hi : Aside0 (qs.length ≤ i) := ⟨by omega⟩
      clear hik
      go_wp2
      have HL0 := Aside0.mk (left_of_asked (rs := rs) HA.out hi.out)
      have HR0 := Aside0.mk (Kd.R_nil resK 33 wr w.heap.size (fun _ => True))
      clear HA
      go_loopg [28, 10] rs.length (fun k v28 v10 w' => ∃ (i : Nat) (ks : List Value), v28 = .int .i64 i ∧ i + k = rs.length ∧ Aside0 (SetAt Tryz.prog 29 w' (w.heap.size + 1) ks) ∧ Aside0 (Remn rs qs i ks) ∧ Aside0 (Below w.heap.size w w') ∧
        Aside0 (w'.heap[w.heap.size]? = some (.cells (u8s (List.replicate 32 0)).toArray 29 (0, 0))) ∧ Aside0 (resK.R 33 w' w.heap.size (fun _ => True) v10 (pickS (rs.take i) qs)))
      case atStart => exact ⟨0, ks, rfl, by omega, HS, HL0, HB, HZ, HR0⟩
      case round =>
        clear HS HL0 HB HZ HR0 hi
        obtain ⟨i2, ks2, rfl, hik2, HS, HL, HB, HZ, HR⟩ := hrel
        cases gk with
        | zero =>
          have hd2 : decide (i2 < rs.length) = false := by simp; omega
          have hi2 : Aside0 (rs.length ≤ i2) := ⟨by omega⟩
          clear hik2
          have HP := Aside0.mk (left_end HL.out hi2.out)
          have HR9 : Aside0 (resK.R 33 wr w.heap.size (fun _ => True) u10 (pickS rs qs)) := ⟨by have := HR.out; rwa [pick_all hi2.out] at this⟩
          have HK9 : Aside0 (∀ v ∈ ks2, ∃ a, v = idv a ∧ IdOk a) := ⟨fun v hv => by obtain ⟨a, e, ha, _⟩ := (HL.out v).1 hv; exact ⟨a, e, HOA.out a ha⟩⟩
          clear HR HL
          go_upto_region 17 with (fail)
          obtain ⟨wB, hwB⟩ : ∃ wB, wB = wr := ⟨_, rfl⟩
          subst hwB
          refine (show Code.wp Tryz.prog _ _ _ (wB.alloc (.cells (u8s (List.replicate 32 0)).toArray 29)) from ?_)
          obtain ⟨W, hW⟩ : ∃ W, W = wB.alloc (.cells (u8s (List.replicate 32 0)).toArray 29) := ⟨_, rfl⟩
          rw [← hW]
          have hBW : Below wB.heap.size wB W := hW ▸ below_alloc (Below.refl _ _) _
          have hsz : wB.heap.size < W.heap.size := by rw [hW]; simp
          have h13 : W.heap[wB.heap.size]? = some (.cells (u8s (List.replicate 32 0)).toArray 29 (0, 0)) := hW ▸ heap_alloc_new wB _
          have hbm : w.heap.size + 1 < wB.heap.size := HS.out.lt
          have HS1 := Aside0.mk (HS.out.below hBW)
          have HB1 := Aside0.mk (HB.out.trans (hBW.mono HB.out.size))
          have HZ1 := Aside0.mk ((hBW.block w.heap.size (by omega)).trans HZ.out)
          have HR1 := Aside0.mk (Kd.R_below HR9.out hBW)
          have H13 := Aside0.mk h13
          have Hsz := Aside0.mk hsz
          have Hbm := Aside0.mk hbm
          clear hW hBW hsz h13 hbm HS HB HZ HR9
          go_wp2_with (first
            | (at_range; refine wpList_range rfl _ rfl Tryz.underlying141 rfl HS1.out ?_; intro w3 hL3 hg3 hs3;
               have HL3 := Aside0.mk hL3; have Hg3 := Aside0.mk hg3; clear hL3 hg3 hs3)
            | go_in)
          simp only [Act.put, List.setIfInBounds_toArray, List.set]
          have H3 : Aside0 (Below w.heap.size w w3 ∧ w3.heap[w.heap.size]? = some (.cells (u8s (List.replicate 32 0)).toArray 29 (0, 0)) ∧ w3.heap[wB.heap.size]? = some (.cells (u8s (List.replicate 32 0)).toArray 29 (0, 0)) ∧ resK.R 33 w3 w.heap.size (fun _ => True) u10 (pickS rs qs)) := by
            refine ⟨HB1.out.grown Hg3.out HB1.out.size (fun k hk => by cases hk), (Hg3.out.block _ (by have := Hsz.out; have := Hbm.out; omega) (by simp)).trans HZ1.out, (Hg3.out.block _ Hsz.out (by simp)).trans H13.out, R_off rfl HR1.out Hg3.out (fun k _ e => by cases e)⟩
          have Hr0 : Aside0 (wB.heap.size < W.heap.size ∧ w.heap.size + 1 < wB.heap.size) := ⟨Hsz.out, Hbm.out⟩
          clear HS1 HB1 HZ1 HR1 H13 Hsz Hbm Hg3
          obtain ⟨A10, k10, e10⟩ := Kd.R_slice H3.out.2.2.2
          subst e10
          go_loopg [14] ks2.length (fun k v14 w' => ∃ (left : List Value) (first : Bool) (least : List Int), v14 = .bool first ∧ left.length ≤ k ∧ Aside0 (LoopAt Tryz.prog 29 w' (w.heap.size + 1) W.heap.size ks2 left) ∧ Aside0 (Sought ks2 left first least) ∧ Aside0 (IdOk least) ∧
            Aside0 (Below w.heap.size w w' ∧ w'.heap[w.heap.size]? = some (.cells (u8s (List.replicate 32 0)).toArray 29 (0, 0)) ∧ w'.heap[wB.heap.size]? = some (.cells (u8s least).toArray 29 (0, 0)) ∧ resK.R 33 w' w.heap.size (fun _ => True) (.slice A10 (pickS rs qs).length k10) (pickS rs qs)))
          case atStart => exact ⟨ks2, true, _, rfl, Nat.le_refl _, HL3, ⟨sought_start ks2⟩, ⟨z32_ok⟩, H3⟩
          case round =>
            clear HL3 H3
            obtain ⟨left, first, least, rfl, hlk, HL, HSo, Hlo, HI⟩ := hrel
            rcases HL.out.next 0 with ⟨hl0, hrun⟩ | ⟨key, w4, left1, hk, hrun, hL1, hlf, hll, hg, hszz, hent⟩
            · have Hrun := Aside0.mk hrun
              clear hrun
              go_wp2_with (first
                | (at_next; refine wpList_next rfl _ rfl rfl Hrun.out ?_)
                | go_in)
              have hld := (At.blk HI.out.2.2.1).id Hlo.out
              have hthere : wr.drew.there w.heap.size 0 32 := by
                intro j hj
                rw [Nat.zero_add]
                have hb : wr.drew.heap[w.heap.size]? = some (.cells (u8s (List.replicate 32 0)).toArray 29 (0, 0)) := HI.out.2.1
                refine ⟨?_, blk_frozen hb _⟩
                rw [blk_cell hb]
                simp [u8s]; omega
              have hi29 : (Tryz.prog.info? 29).map (·.size) = some (u8s least).length := by rw [u8s_length, Hlo.out.len]; exact info29
              have hlen29 : (u8s least).length = 32 := by rw [u8s_length, Hlo.out.len]
              have hone : ∀ v ∈ u8s least, v.oneCell' = true := u8s_one
              have hrange : wr.drew.rangeAt wB.heap.size 0 (u8s least) := (At.blk HI.out.2.2.1).range
              have hu29 := Tryz.underlying29
              have hap : wB.heap.size ≠ w.heap.size := by have := Hr0.out; omega
              go_region_held3 (fun w' => w'.rangeAt wB.heap.size 0 (u8s least) ∧ w'.there w.heap.size 0 32) (first | go_keep_ranges | exact ⟨hrange, hthere⟩ | exact ⟨World.rangeAt_setCells_apart hrange _ _ (.inl hap), World.there_setCells hthere _ _ _⟩) (fail)
              go_wp2
              have hz : wr.drew.heap[w.heap.size]? = some (.cells (u8s (List.replicate 32 0)).toArray 29 (0, 0)) := HI.out.2.1
              obtain ⟨s1, s2, _⟩ := setCells_blk wr.drew hz (cs := u8s least) (by simp [u8s_length, Hlo.out.len])
              have hb2 : Below w.heap.size w wr.drew := HI.out.1.drew
              (try simp only [Exit.inBlock, Exit.then])
              refine bodyPost_ret (results_tct Hlo.out rfl _ _ w.heap.size rfl s1) rfl ?_
              have hso := sought_end (hl0 ▸ HSo.out)
              refine ⟨⟨_, least, first, rfl, R_off rfl (Kd.R_drew HI.out.2.2.2) s2 (fun k hk e => ?_), Hlo.out, fun hf => ⟨fun a ha => (hso.1 hf).1 a ((HP.out a).2 ha), (hso.1 hf).2⟩, fun hf => ?_⟩, hb2.grown s2 hb2.size (fun k hk => by cases hk; omega)⟩
              · obtain ⟨cells, hc⟩ := Kd.R_typed HI.out.2.2.2 k hk
                cases e
                rw [HI.out.2.1] at hc
                cases hc
              · have hL := hso.2 hf
                exact ⟨(HP.out least).1 hL.1, fun b hb => hL.2 b ((HP.out b).2 hb)⟩
            · cases gk with
              | zero =>
                have := List.length_pos_of_mem hk
                omega
              | succ k =>
                obtain ⟨a, ea, hao⟩ := HK9.out key (HL.out.sub key hk)
                subst ea
                have Hrun := Aside0.mk hrun
                have Hent := Aside0.mk hent
                have Hk : Aside0 (idv a ∈ ks2) := ⟨HL.out.sub _ hk⟩
                have Hlf := Aside0.mk hlf
                have Hao := Aside0.mk hao
                have HL1 := Aside0.mk hL1
                have Hll : left1.length ≤ k := by omega
                have hb13 : wB.heap.size < wr.heap.size := blk_lt HI.out.2.2.1
                have hbz : w.heap.size < wr.heap.size := blk_lt HI.out.2.1
                have hr0 : W.heap.size < wr.heap.size := HL.out.lt
                have HI1 : Aside0 (Below w.heap.size w w4 ∧ w4.heap[w.heap.size]? = some (.cells (u8s (List.replicate 32 0)).toArray 29 (0, 0)) ∧ w4.heap[wB.heap.size]? = some (.cells (u8s least).toArray 29 (0, 0)) ∧ resK.R 33 w4 w.heap.size (fun _ => True) (.slice A10 (pickS rs qs).length k10) (pickS rs qs)) := by
                  have q1 := Hr0.out
                  refine ⟨HI.out.1.grown hg HI.out.1.size (fun k hk => by cases hk; omega), (hg.block _ hbz (by simp; omega)).trans HI.out.2.1, (hg.block _ hb13 (by simp; omega)).trans HI.out.2.2.1, R_off rfl HI.out.2.2.2 hg (fun k hk e => ?_)⟩
                  obtain ⟨es, clock, since, seen, c0, _, _, hit, _⟩ := HL.out
                  obtain ⟨cells, hc⟩ := Kd.R_typed HI.out.2.2.2 k hk
                  cases e
                  rw [hc] at hit
                  cases hit
                have Hsz4 : Aside0 (wB.heap.size < w4.heap.size ∧ w.heap.size < w4.heap.size) := ⟨by rw [hszz]; exact ⟨hb13, hbz⟩⟩
                clear hrun hent hk hlf hao hL1 hll hg hszz hb13 hbz hr0 HL HI hlk
                go_upto_region 20 with (first
                  | (at_next; refine wpList_next rfl _ rfl rfl Hrun.out ?_)
                  | (refine wpList_entry rfl _ rfl rfl Hent.out ?_)
                  | (refine store29_new rfl rfl _ _ rfl _ rfl a Hao.out rfl rfl ?_)
                  | go_in)
                obtain ⟨W2, hW2⟩ : ∃ W2, W2 = w4.alloc (.cells (u8s a).toArray 29) := ⟨_, rfl⟩
                rw [← hW2]
                have hBW2 : Below w4.heap.size w4 W2 := hW2 ▸ below_alloc (Below.refl _ _) _
                have hn : At W2 ⟨w4.heap.size, 0, none⟩ (u8s a) := hW2 ▸ At.new w4 (u8s a) 29
                have h13 : W2.heap[wB.heap.size]? = some (.cells (u8s least).toArray 29 (0, 0)) := (hBW2.block _ Hsz4.out.1).trans HI1.out.2.2.1
                have HL2 := Aside0.mk (HL1.out.below hBW2)
                have HI2 : Aside0 (Below w.heap.size w W2 ∧ W2.heap[w.heap.size]? = some (.cells (u8s (List.replicate 32 0)).toArray 29 (0, 0)) ∧ W2.heap[wB.heap.size]? = some (.cells (u8s least).toArray 29 (0, 0)) ∧ resK.R 33 W2 w.heap.size (fun _ => True) (.slice A10 (pickS rs qs).length k10) (pickS rs qs)) :=
                  ⟨HI1.out.1.trans (hBW2.mono HI1.out.1.size), (hBW2.block _ Hsz4.out.2).trans HI1.out.2.1, h13, Kd.R_below HI1.out.2.2.2 hBW2⟩
                have HKO : Aside0 (∀ b, idv b ∈ ks2 → IdOk b) := ⟨fun b hb => by obtain ⟨c, e, hc⟩ := HK9.out _ hb; rw [idv_inj e]; exact hc⟩
                have Hn := Aside0.mk hn
                have hsz2 : Aside0 (wB.heap.size < W2.heap.size) := ⟨blk_lt h13⟩
                -- behind the store into least
                have stored : ∀ w5 w6 : World, Below W2.heap.size W2 w5 → w6.heap[wB.heap.size]? = some (.cells (u8s a).toArray 29 (0, 0)) → w5.grownBy w6 (some wB.heap.size) →
                    LoopAt Tryz.prog 29 w6 (w.heap.size + 1) W.heap.size ks2 left1 ∧ Below w.heap.size w w6 ∧ w6.heap[w.heap.size]? = some (.cells (u8s (List.replicate 32 0)).toArray 29 (0, 0)) ∧ w6.heap[wB.heap.size]? = some (.cells (u8s a).toArray 29 (0, 0)) ∧ resK.R 33 w6 w.heap.size (fun _ => True) (.slice A10 (pickS rs qs).length k10) (pickS rs qs) := by
                  intro w5 w6 hb5 s1 s2
                  have q1 := Hr0.out
                  have l5 := HL2.out.below hb5
                  have z5 := (hb5.block _ (blk_lt HI2.out.2.1)).trans HI2.out.2.1
                  have b5 := (hb5.block _ (blk_lt HI2.out.2.2.1)).trans HI2.out.2.2.1
                  have r5 := Kd.R_below HI2.out.2.2.2 hb5
                  refine ⟨l5.move (s2.block _ l5.set.lt (by simp; omega)) (s2.block _ l5.lt (by simp; omega)), (HI2.out.1.trans (hb5.mono HI2.out.1.size)).grown s2 (Nat.le_trans HI2.out.1.size hb5.size) (fun k hk => by cases hk; omega), (s2.block _ (blk_lt z5) (by simp; omega)).trans z5, s1, R_off rfl r5 s2 (fun k hk e => ?_)⟩
                  obtain ⟨cells, hc⟩ := Kd.R_typed r5 k hk
                  cases e
                  rw [b5] at hc
                  cases hc
                have HSt := Aside0.mk stored
                clear hW2 hBW2 hn h13 stored HI1 HL1 Hrun Hent
                cases first with
                | true =>
                  have hld1 := Hn.out.id Hao.out
                  go_wp2_with (first
                    | (refine wpList_store_blk rfl rfl 29 _ _ rfl HI2.out.2.2.1 (u8s a) rfl rfl (by simp [u8s_length, Hao.out.len, Hlo.out.len]) (by rw [u8s_length, Hao.out.len]; exact info29) u8s_one ?_; intro w6 s1 s2 s3)
                    | go_in)
                  go_roundg k
                  case measure => omega
                  case rel =>
                    obtain ⟨t1, t2⟩ := HSt.out W2 w6 (Below.refl _ _) s1 s2
                    refine ⟨left1, false, a, rfl, Hll, ⟨t1⟩, ⟨?_⟩, Hao, ⟨t2⟩⟩
                    have := sought_step HKO.out Hk.out HSo.out Hlf.out
                    rwa [if_pos (.inl rfl)] at this
                | false =>
                  have hld1 := Hn.out.id Hao.out
                  have hld2 := (At.blk HI2.out.2.2.1).id Hlo.out
                  by_cases hc : cmp a least < 0
                  · have Hc := Aside0.mk hc
                    go_wp2_with (first
                      | (go_at_call 75; refine (digest_compare _ a least Hao.out Hlo.out).mono ?_; rintro e w5 ⟨rfl, hb5⟩; have hld5 := (Hn.out.below hb5).id Hao.out; have h135 := (hb5.block _ (blk_lt HI2.out.2.2.1)).trans HI2.out.2.2.1)
                      | (refine wpList_store_blk rfl rfl 29 _ _ rfl h135 (u8s a) rfl rfl (by simp [u8s_length, Hao.out.len, Hlo.out.len]) (by rw [u8s_length, Hao.out.len]; exact info29) u8s_one ?_; intro w6 s1 s2 s3)
                      | go_in)
                    go_roundg k
                    case measure => omega
                    case rel =>
                      obtain ⟨t1, t2⟩ := HSt.out w5 w6 hb5 s1 s2
                      refine ⟨left1, false, a, rfl, Hll, ⟨t1⟩, ⟨?_⟩, Hao, ⟨t2⟩⟩
                      have := sought_step HKO.out Hk.out HSo.out Hlf.out
                      rwa [if_pos (.inr Hc.out)] at this
                  · have hc1 : decide (cmp a least < 0) = false := by simpa using hc
                    have Hc := Aside0.mk hc
                    clear hc
                    go_wp2_with (first
                      | (go_at_call 75; refine (digest_compare _ a least Hao.out Hlo.out).mono ?_; rintro e w5 ⟨rfl, hb5⟩)
                      | go_in)
                    go_roundg k
                    case measure => omega
                    case rel =>
                      refine ⟨left1, false, least, rfl, Hll, ⟨HL2.out.below hb5⟩, ⟨?_⟩, Hlo, ⟨HI2.out.1.trans (hb5.mono HI2.out.1.size), (hb5.block _ (blk_lt HI2.out.2.1)).trans HI2.out.2.1, (hb5.block _ (blk_lt HI2.out.2.2.1)).trans HI2.out.2.2.1, Kd.R_below HI2.out.2.2.2 hb5⟩⟩
                      have := sought_step HKO.out Hk.out HSo.out Hlf.out
                      rwa [if_neg (by simp; exact Hc.out)] at this
        | succ k =>
          have hi2 : i2 < rs.length := by omega
          have hi3 : (i2 : Int) < (rs.length : Int) := by omega
          obtain ⟨ad, r, e1, hr, hro, hat⟩ := res_at (Kd.C_below HC.out HB.out) i2 hi2
          subst e1
          have hld := hat.res hro
          go_upto_region 11 with (first | (refine store33_new rfl rfl _ _ rfl r hro rfl rfl ?_) | go_in)
          obtain ⟨W, hW⟩ : ∃ W, W = wr.alloc (.cells (resC r).toArray 33) := ⟨_, rfl⟩
          have hn : At W ⟨wr.heap.size, 0, none⟩ (resC r) := hW ▸ At.new wr (resC r) 33
          have hBW : Below wr.heap.size wr W := hW ▸ below_alloc (Below.refl _ _) _
          have hsz : wr.heap.size < W.heap.size := by rw [hW]; simp
          rw [← hW]
          have hld2 : rowOf W ⟨wr.heap.size, 0, none⟩ 32 = some (u8s r.act) := (res_act hn).id hro.act
          have hld3 : rowOf W ⟨wr.heap.size, 0, none⟩ 65 = some (resC r) := hn.res hro
          obtain ⟨kl, hkl⟩ := keyOf_id hro.act
          have hbm : w.heap.size + 1 < wr.heap.size := HS.out.lt
          have HS1 := Aside0.mk (HS.out.below hBW)
          have HB1 := Aside0.mk (HB.out.trans (hBW.mono HB.out.size))
          have HZ1 := Aside0.mk ((hBW.block w.heap.size (by omega)).trans HZ.out)
          have HR1 := Aside0.mk (Kd.R_below HR.out hBW)
          have HLk := Aside0.mk (left_look HT.out HO.out HL.out hr)
          have Hr := Aside0.mk hr
          have Hro := Aside0.mk hro
          have Hkl := Aside0.mk hkl
          have Hbm := Aside0.mk hbm
          have Hn := Aside0.mk hn
          have Hsz := Aside0.mk hsz
          clear hr hro hkl hbm hat hn hW hBW hld hsz
          by_cases hin : r.act ∈ qs
          · have Hin := Aside0.mk hin
            clear hin
            obtain ⟨z, hz1, hz2⟩ := info33full
            have Hz := Aside0.mk (And.intro hz1 hz2)
            clear hz1 hz2
            have hlen : Aside0 ((pickS (rs.take i2) qs).length + 1 ≤ 33) := ⟨by have h1 : (pickS (rs.take i2) qs).length ≤ (rs.take i2).length := pick_length; have h2 := HT.out.most; rw [List.length_take] at h1; omega⟩
            go_wp2_with (first
              | (at_lookup; refine wpList_look rfl _ _ rfl K29 Tryz.underlying141 zero4 rfl HS1.out (idv r.act) kl rfl Hkl.out true (by rw [HLk.out]; simp [Hin.out]) ?_)
              | (refine wpList_build33 rfl _ rfl r Hro.out rfl ?_)
              | (at_builtin; refine Kd.R_append resK (w0 := w) w.heap.size rfl (.tmp 36) (.tmp 38) 22 33 z 72 rfl Tryz.underlying22 Hz.out.1 Hz.out.2 (by decide) (by decide) _ (pickS (rs.take i2) qs) r (resC r) (fun _ => True) (fun _ => False) rfl rfl (res_M Hro.out) (fun _ h => h.elim) (fun _ _ => trivial) HR1.out HB1.out HB1.out.size (by have := hlen.out; omega) ?_;
                 intro v3 w3 h1 h2 h3 h4;
                 have HS3 := Aside0.mk (HS1.out.grown h3 (set_ne HS1.out HR1.out));
                 have HZ3 := Aside0.mk ((h3.block _ (by have := Hbm.out; have := Hsz.out; omega) (fun e => by obtain ⟨cs, hcs⟩ := Kd.R_typed HR1.out _ e.symm; rw [HZ1.out] at hcs; cases hcs)).trans HZ1.out);
                 have hld4 : rowOf w3 ⟨wr.heap.size, 0, none⟩ 32 = some (u8s r.act) := (res_act (Hn.out.grown Hsz.out h3 (fun e => absurd (Kd.R_lt HR.out _ e.symm) (Nat.lt_irrefl _)))).id Hro.out.act)
              | (at_delete; refine wpList_drop rfl _ _ 29 rfl K29 Tryz.underlying141 rfl HS3.out (idv r.act) kl rfl Hkl.out ?_; intro w4 ks4 d1 d2 d3 d4)
              | go_in)
            go_roundg k
            case measure => omega
            case rel =>
              have hS4 : some (w.heap.size + 1) ≠ v3.ownBlock := set_ne HS3.out h1
              refine ⟨i2 + 1, ks4, by go_num, by omega, ⟨d1⟩, ⟨left_in HL.out Hr.out d2⟩, ⟨h2.grown d3 h2.size (fun k hk => by cases hk; omega)⟩, ⟨(d3.block _ (by have := HS3.out.lt; omega) (by simp)).trans HZ3.out⟩, ⟨?_⟩⟩
              rw [pick_in Hr.out Hin.out]
              exact R_off rfl h1 d3 (fun k hk e => hS4 (by rw [hk, e]))
          · have Hin := Aside0.mk hin
            clear hin
            go_wp2_with (first
              | (at_lookup; refine wpList_look rfl _ _ rfl K29 Tryz.underlying141 zero4 rfl HS1.out (idv r.act) kl rfl Hkl.out false (by rw [HLk.out]; simp [Hin.out]) ?_)
              | go_in)
            go_roundg k
            case measure => omega
            case rel => exact ⟨i2 + 1, ks2, by go_num, by omega, HS1, ⟨left_out HL.out Hr.out Hin.out⟩, HB1, HZ1, ⟨by rw [pick_out Hr.out Hin.out]; exact HR1.out⟩⟩
    | succ k =>
      have hi : i < qs.length := by omega
      have hi1 : (i : Int) < (qs.length : Int) := by omega
      obtain ⟨ad, a, e1, ha, hia, hat⟩ := id_at (Kd.C_below HD.out HB.out) i hi
      subst e1
      have hld := hat.id hia
      have hld2 : rowOf (wr.alloc (.cells (u8s a).toArray 29)) ⟨wr.heap.size, 0, none⟩ 32 = some (u8s a) := (At.new wr (u8s a) 29).id hia
      obtain ⟨kl, hkl⟩ := keyOf_id hia
      have hbm : w.heap.size + 1 < wr.heap.size := HS.out.lt
      have HS1 := Aside0.mk (HS.out.below (below_alloc (Below.refl _ _) (.cells (u8s a).toArray 29)))
      have HB1 := Aside0.mk (HB.out.trans ((below_alloc (Below.refl _ _) (.cells (u8s a).toArray 29)).mono HB.out.size))
      have HZ1 := Aside0.mk ((heap_alloc_old wr (.cells (u8s a).toArray 29) (by omega : w.heap.size < wr.heap.size)).trans HZ.out)
      have Ha := Aside0.mk ha
      have Hia := Aside0.mk hia
      have Hkl := Aside0.mk hkl
      have Hbm := Aside0.mk hbm
      clear ha hia hkl hbm hat
      go_wp2_with (first
        | (refine store29_new rfl rfl _ _ rfl _ rfl a Hia.out rfl rfl ?_)
        | (at_mapUpdate; refine wpList_put rfl _ _ _ rfl K29 Tryz.underlying141 rfl HS1.out (idv a) kl rfl rfl Hkl.out ?_; intro w2 ks2 h1 h2 h3 h4)
        | go_in)
      go_roundg k
      case measure => omega
      case rel => exact ⟨i + 1, ks2, by go_num, by omega, ⟨h1⟩, ⟨asked_step HA.out Ha.out h2⟩, ⟨HB1.out.grown h3 HB1.out.size (fun k hk => by cases hk; omega)⟩, ⟨(h3.block _ (by have := Hbm.out; simp; omega) (by simp)).trans HZ1.out⟩⟩
end Go.Proofs.YtdekmeanlcpenaaGreatDoor.Pick

namespace Go.Proofs.YtdekmeanlcpenaaGreatDoor.Pick
open Go.RowKit Go.Proofs.YtdekmeanlcpenaaGreatDoorW.PrintWords Go.Proofs.YtdekmeanlcpenaaGreatDoor.Mid
attribute [local go_sem ↓ high] load33_eq load29_eq build69_eq
attribute [local simp] rowOf_drew rowOf_drewN
attribute [local go_sem high] load33_row load29_row rowOf_drew rowOf_drewN
set_option maxHeartbeats 2000000
set_option maxRecDepth 100000

def opPick : ByteArray := { data := #[114, 101, 115, 116, 111, 114, 101, 46, 112, 105, 99, 107] }
/-- The error that such an answer comes with: none, or a new Fault. -/
inductive ErrAt (w : World) (base : Nat) (op name : ByteArray) (n : Int) (id : List Int) : Value → Prop
  | none : n = 0 → ErrAt w base op name n id .nilIface
  | some (g : Nat) : n ≠ 0 → base ≤ g → w.heap[g]? = some (.cells (faultC op name id (errno n)).toArray 82 (0, 0)) → ErrAt w base op name n id (.iface 79 (.pointer (some ⟨g, 0, none⟩)))
theorem ErrAt.move {w w1 : World} {base : Nat} {op name : ByteArray} {n : Int} {id : List Int} {v : Value} (h : ErrAt w base op name n id v) (hb : Below w.heap.size w w1) : ErrAt w1 base op name n id v := by
  cases h with
  | none h => exact .none h
  | some g h1 h2 h3 => exact .some g h1 h2 ((hb.block _ (blk_lt h3)).trans h3)

structure RetPick (rs : List Res) (qs : List (List Int)) (base : Nat) (e : Ending) (w' : World) : Prop where
  out : ∃ (v err : Value) (out : List Res) (n : Int) (id : List Int), e = .returned (.tuple #[v, err]) ∧ Picked rs qs out n id ∧ resK.R 33 w' base (fun _ => True) v out ∧ ErrAt w' base opPick .empty n id err ∧ IdOk id
theorem bldBad (w : World) : (bld 82 #[(0, .string opPick), (3, .iface 80 (.int .i64 1))]).run Tryz.prog w = .ok (.agg (faultC opPick .empty z32 (errno 1)).toArray) w := bld69_two w opPick (errno 1) rfl

theorem Pick_any (A : Option Addr) (c : Nat) (rs : List Res) (A2 : Option Addr) (c2 : Nat) (qs : List (List Int)) (w : World) (hC : resK.C w A rs.length rs) (hD : idK.C w A2 qs.length qs) (hc : rs.length ≤ c) (ok : ∀ r ∈ rs, ResOk r) (oka : ∀ a ∈ qs, IdOk a)
    (hca : qs.length ≤ 1000000) :
    Calls Tryz.prog 9 #[.slice A rs.length c, .slice A2 qs.length c2] w fun e w' => RetPick rs qs w.heap.size e w' ∧ Below w.heap.size w w' := by
  have HC := Aside0.mk hC
  have HD := Aside0.mk hD
  have HO := Aside0.mk ok
  have HOA := Aside0.mk oka
  have Hc := Aside0.mk hc
  clear hC hD ok oka hc
  by_cases hT : Table rs
  · have HT := Aside0.mk hT
    clear hT
    have main : ∀ (bs : Bool), (bs = true → ∀ a, ¬ Lacks rs qs a) → (bs = false → ∃ a, Lacks rs qs a) → Calls Tryz.prog 9 #[.slice A rs.length c, .slice A2 qs.length c2] w fun e w' => RetPick rs qs w.heap.size e w' ∧ Below w.heap.size w w' := by
      intro bs hb0 hb1
      have HB0 := Aside0.mk hb0
      have HB1' := Aside0.mk hb1
      clear hb0 hb1
      go_enter Tryz.func9, Tryz.ntmps9
      go_upto_region 3 with (first
        | (go_at_call 31; refine (table_valid A c rs _ HC.out Hc.out).mono ?_; rintro e w1 ⟨⟨q, rfl, hq⟩, hb1⟩; have hqt : q = true := hq.2 HT.out; subst hqt; have HB1 := Aside0.mk hb1; clear hq hb1)
        | go_in)
      go_upto_region 4 with (first
        | (go_at_call 32; refine (pick_prog A c rs A2 c2 qs _ (Kd.C_below HC.out HB1.out) (Kd.C_below HD.out HB1.out) HO.out HOA.out HT.out hca).mono ?_; rintro e w2 ⟨⟨v, least, first, rfl, hR, hlo, hy, hn⟩, hb2⟩;
           have hfb : first = bs := (by cases first <;> cases bs; rfl; exact absurd ((hn rfl).1) (HB0.out rfl _); exact absurd (HB1'.out rfl).choose_spec ((hy rfl).1 _); rfl); subst hfb;
           have HR2 := Aside0.mk hR; have Hlo := Aside0.mk hlo; have Hy := Aside0.mk hy; have Hn := Aside0.mk hn; have HB2 := Aside0.mk (HB1.out.trans (hb2.mono HB1.out.size)); clear hR hlo hy hn hb2)
        | (refine store29_new rfl rfl _ _ rfl _ rfl least Hlo.out rfl rfl ?_)
        | go_in)
      have hv : ∃ A3 k3 n3, v = .slice A3 n3 k3 := by obtain ⟨A3, k3, e⟩ := Kd.R_slice HR2.out; exact ⟨_, _, _, e⟩
      obtain ⟨A3, k3, n3, rfl⟩ := hv
      cases first with
      | true =>
        have HBT := Aside0.mk (HB0.out rfl)
        go_wp2
        go_ret2
        have hbn := below_alloc (Below.refl w2.heap.size w2) (.cells (u8s least).toArray 29)
        exact ⟨⟨⟨_, _, pickS rs qs, 0, z32, rfl, ⟨fun h => absurd HT.out h, fun _ _ => ⟨rfl, rfl, rfl⟩, fun _ h => absurd h.choose_spec (HBT.out _)⟩, Kd.R_below (Kd.R_lower HR2.out HB1.out.size) hbn, .none rfl, z32_ok⟩⟩, HB2.out.trans (hbn.mono HB2.out.size)⟩
      | false =>
        have HBF := Aside0.mk (HB1'.out rfl)
        have HLe := Aside0.mk (Hn.out rfl)
        obtain ⟨W, hW⟩ : ∃ W, W = w2.alloc (.cells (u8s least).toArray 29) := ⟨_, rfl⟩
        rw [← hW]
        have hBW : Below w2.heap.size w2 W := hW ▸ below_alloc (Below.refl _ _) _
        have hrange : W.rangeAt w2.heap.size 0 (u8s least) := (hW ▸ At.new w2 (u8s least) 29 : At W _ _).range
        have HBW := Aside0.mk hBW
        have HBd := Aside0.mk (HB2.out.trans (hBW.mono HB2.out.size))
        clear hW hBW
        have hbb := fun u => bld69_three u opPick least Hlo.out (errno 96) rfl
        unfold opPick errno at hbb
        go_wp2
        have hrange2 : W.drew.rangeAt w2.heap.size 0 (u8s least) := hrange
        have hi29 : (Tryz.prog.info? 29).map (·.size) = some (u8s least).length := by rw [u8s_length, Hlo.out.len]; exact info29
        have hu29 := Tryz.underlying29
        go_region_held3 (fun w' => w'.rangeAt w2.heap.size 0 (u8s least)) (first | go_keep_ranges | exact hrange2) (fail)
        go_wp2
        go_ret2
        have hbn := (below_alloc (Below.refl W.heap.size W) (.cells (faultC opPick .empty least (errno 96)).toArray 82)).drew
        exact ⟨⟨⟨_, _, [], 96, least, rfl, ⟨fun h => absurd HT.out h, fun _ h => absurd HBF.out.choose_spec (h _), fun _ _ => ⟨rfl, rfl, HLe.out⟩⟩, Kd.R_nil resK 33 _ _ _, .some W.heap.size (by decide) HBd.out.size (heap_alloc_new W _), Hlo.out⟩⟩, HBd.out.trans (hbn.mono HBd.out.size)⟩
    by_cases hL : ∃ a, Lacks rs qs a
    · exact main false (fun h => (by cases h)) (fun _ => hL)
    · exact main true (fun _ a ha => hL ⟨a, ha⟩) (fun h => (by cases h))
  · have HT := Aside0.mk hT
    clear hT
    have hbb := bldBad
    unfold opPick at hbb
    go_enter Tryz.func9, Tryz.ntmps9
    go_wp2_with (first
      | (go_at_call 31; refine (table_valid A c rs _ HC.out Hc.out).mono ?_; rintro e w1 ⟨⟨q, rfl, hq⟩, hb1⟩; have hqf : q = false := (by cases q with | false => rfl | true => exact absurd (hq.1 rfl) HT.out); subst hqf)
      | go_in)
    go_ret2
    refine ⟨⟨⟨_, _, [], 1, z32, rfl, ⟨fun _ => ⟨rfl, rfl, rfl⟩, fun h => absurd h HT.out, fun h => absurd h HT.out⟩, Kd.R_nil resK 33 _ _ _, .some w1.heap.size (by decide) hb1.size (heap_alloc_new w1 _), z32_ok⟩⟩, hb1.trans ((below_alloc (Below.refl _ _) _).mono hb1.size)⟩
end Go.Proofs.YtdekmeanlcpenaaGreatDoor.Pick

namespace Go.Proofs.YtdekmeanlcpenaaGreatDoor.Mid
open Go.RowKit Go.Proofs.YtdekmeanlcpenaaGreatDoorW.PrintWords
attribute [local go_sem ↓ high] load33_eq load29_eq
attribute [local simp] rowOf_drew rowOf_drewN
attribute [local go_sem high] load33_row load29_row rowOf_drew rowOf_drewN

theorem res_code' {w : World} {p : Addr} {r : Res} (hr : ResOk r) (h : At w p (resC r)) : w.cell? ⟨p.block, p.off + 64, none⟩ = some (.int .i64 r.code) := res_code hr h
set_option maxHeartbeats 1000000
set_option maxRecDepth 100000
theorem ref_valid (A : Option Addr) (c : Nat) (rs : List Res) (w : World) (hC : resK.C w A rs.length rs) (hc : rs.length ≤ c) (hl : rs.length ≤ 140737488355328) :
    Calls Tryz.prog 28 #[.slice A rs.length c] w fun e w' => RetB e (Table rs) ∧ Below w.heap.size w w' := by
  have HC := Aside0.mk hC
  have Hc := Aside0.mk hc
  clear hC hc
  by_cases hm : rs.length ≤ 32
  · have hm1 : (rs.length : Int) ≤ 32 := by omega
    go_enter Tryz.func28, Tryz.ntmps28
    go_wp2
    go_loopg [3] rs.length (fun k v3 w' => ∃ i : Nat, v3 = .int .i64 i ∧ i + k = rs.length ∧ Aside0 (Upto rs i) ∧ Aside0 (Below w.heap.size w w'))
    case atStart => exact ⟨0, rfl, by omega, ⟨upto_none rs⟩, ⟨Below.refl _ _⟩⟩
    case round =>
      obtain ⟨i, rfl, hik, HU, HB⟩ := hrel
      cases gk with
      | zero =>
        have hd : decide (i < rs.length) = false := by simp; omega
        have hi : Aside0 (i = rs.length) := ⟨by omega⟩
        clear hik
        go_wp2
        go_ret
        exact ⟨.yes rfl (upto_all HU.out (by rw [hi.out]; exact Nat.le_refl _) hm), HB.out⟩
      | succ k =>
        have hi : i < rs.length := by omega
        have hi1 : (i : Int) < (rs.length : Int) := by omega
        obtain ⟨ad, r, rfl, hr, ho, hat⟩ := res_at (Kd.C_below HC.out HB.out) i hi
        have hcell := res_code' ho hat
        have hact := (res_act hat).id ho.act
        have HR := Aside0.mk hr
        have Ho := Aside0.mk ho
        have Hat := Aside0.mk hat
        clear hat ho hr
        by_cases hf1 : r.code < 0
        · go_wp2
          go_ret
          exact ⟨.no rfl (fun T => by have := T.code r (List.mem_of_getElem? HR.out); omega), HB.out⟩
        · have hf2 : decide (r.code < 0) = false := by simpa using hf1
          by_cases hf3 : 255 < r.code
          · go_wp2
            go_ret
            exact ⟨.no rfl (fun T => by have := T.code r (List.mem_of_getElem? HR.out); omega), HB.out⟩
          · have hf4 : decide (255 < r.code) = false := by simpa using hf3
            have Hf : Aside0 (0 ≤ r.code ∧ r.code ≤ 255) := ⟨by omega⟩
            clear hf1 hf3
            obtain rfl | ⟨m, rfl⟩ : i = 0 ∨ ∃ m, i = m + 1 := by cases i; exact .inl rfl; exact .inr ⟨_, rfl⟩
            · simp only [Nat.zero_mul, Addr.add_zero'] at hcell hact
              go_wp2
              refine wp_region_S (Since wr) (by kernel_rfl) (by kernel_rfl) (since_drew wr) ?_
              repeat (go_big_quiet_step (fail))
              refine wpQuiet_nil ?_
              rintro _ ⟨⟨w5, hb5⟩, rfl⟩
              go_wp2
              go_roundg k
              case measure => omega
              case rel => exact ⟨1, by go_num, by omega, ⟨upto_one HR.out Hf.out⟩, ⟨below_of HB.out hb5 (Nat.le_refl _)⟩⟩
            · have hm0 : m < rs.length := by omega
              have hm2 : (m : Int) < (rs.length : Int) := by omega
              obtain ⟨ad', q, e1, hq, hqo, hqa⟩ := res_at (Kd.C_below HC.out HB.out) m hm0
              cases e1
              have g2 : ∀ x : CW (Since wr), rowOf x.w (ad.add ((m + 1) * 65)) 32 = some (u8s r.act) := fun x => (res_act (Hat.out.below x.h)).id Ho.out.act
              have g3 : ∀ x : CW (Since wr), rowOf x.w (ad.add (m * 65)) 32 = some (u8s q.act) := fun x => (res_act (hqa.below x.h)).id hqo.act
              have HQ := Aside0.mk hq
              have Hqo := Aside0.mk hqo
              clear hq hqo hqa
              by_cases hc : cmp q.act r.act < 0
              · have hd3 : decide (0 ≤ cmp q.act r.act) = false := by simpa using hc
                have Hcm := Aside0.mk hc
                clear hc
                go_wp2
                refine wp_region_S (Since wr) (by kernel_rfl) (by kernel_rfl) (since_drew wr) ?_
                repeat (go_big_quiet_step (first | (go_at_call 72; refine calls_since (order_any _ q.act r.act Hqo.out.act Ho.out.act))))
                refine wpQuiet_nil ?_
                rintro _ ⟨⟨w5, hb5⟩, rfl⟩
                go_wp2
                go_roundg k
                case measure => omega
                case rel => exact ⟨m + 2, by go_num, by omega, ⟨upto_step HU.out HQ.out HR.out Hf.out Hcm.out⟩, ⟨below_of HB.out hb5 (Nat.le_refl _)⟩⟩
              · have hd3 : 0 ≤ cmp q.act r.act := by omega
                have Hcm := Aside0.mk hc
                clear hc
                go_wp2
                refine wp_region_S (Since wr) (by kernel_rfl) (by kernel_rfl) (since_drew wr) ?_
                repeat (go_big_quiet_step (first | (go_at_call 72; refine calls_since (order_any _ q.act r.act Hqo.out.act Ho.out.act))))
                refine wpQuiet_nil ?_
                rintro _ ⟨⟨w5, hb5⟩, rfl⟩
                go_wp2
                go_ret
                exact ⟨.no rfl (fun T => (by have h6 := T.rise m q r HQ.out HR.out; have h7 := Hcm.out; omega)), below_of HB.out hb5 (Nat.le_refl _)⟩
  · have hm1 : (32 : Int) < rs.length := by omega
    go_enter Tryz.func28, Tryz.ntmps28
    go_wp2
    go_ret
    exact ⟨.no rfl (fun T => absurd T.most hm), Below.refl _ _⟩
end Go.Proofs.YtdekmeanlcpenaaGreatDoor.Mid

namespace Go.Proofs.YtdekmeanlcpenaaGreatDoor.Mid
open Go.RowKit Go.Proofs.YtdekmeanlcpenaaGreatDoorW.PrintWords
attribute [local go_sem ↓ high] load33_eq load29_eq build33_eq
attribute [local simp] rowOf_drew rowOf_drewN
attribute [local go_sem high] load33_row load29_row rowOf_drew rowOf_drewN bld33_none
set_option maxHeartbeats 1000000
set_option maxRecDepth 100000

theorem results_ct {fn : Func} {q u : Tmp} {r : Res} (hr : ResOk r) (h : fn.results = #[.cell q 33, .tmp u]) (tmps : Array Value) (w : World) (g : Nat)
    (hp : tmps.getD q undef = .pointer (some ⟨g, 0, none⟩)) (hg : w.heap[g]? = some (.cells (resC r).toArray 33 (0, 0))) :
    (results fn tmps).run Tryz.prog w = .ok (.tuple #[resv r, tmps.getD u undef]) w := by
  have hp' : tmps[q]?.getD undef = .pointer (some ⟨g, 0, none⟩) := by simpa using hp
  have hl := run_loadVar_at (P := Tryz.prog) w ⟨g, 0, none⟩ 33 (resC r) _ (At.blk hg) Tryz.underlying33 rfl (by rw [resC_length hr]; exact info33)
  simp [results, h, hp', asAddr, hl, resv]
theorem eqI29 (w : World) (x y : List Int) (hx : IdOk x) (hy : IdOk y) : (Op.equalIn 10000 29 (.agg (u8s x).toArray) (.agg (u8s y).toArray)).run Tryz.prog w = .ok (decide (x = y)) w := eq29 w x y hx hy
theorem eqI33 (w : World) (r s : Res) (hr : ResOk r) (hs : ResOk s) : (Op.equalIn 10000 33 (.agg (resC r).toArray) (.agg (resC s).toArray)).run Tryz.prog w = .ok (decide (r = s)) w := eq33 w r s hr hs
theorem eqE29 (w : World) (x y : List Int) (hx : IdOk x) (hy : IdOk y) : (Op.equal 29 (.agg (u8s x).toArray) (.agg (u8s y).toArray)).run Tryz.prog w = .ok (decide (x = y)) w := eq29 w x y hx hy

/-- What Find answers. -/
structure RetFind (rs : List Res) (x : List Int) (e : Ending) : Prop where
  out : ∃ (r : Res) (q : Bool), e = .returned (.tuple #[resv r, .bool q]) ∧ ResOk r ∧ (q = true ↔ ∃ s ∈ rs, s.act = x)
theorem find_any (A : Option Addr) (c : Nat) (rs : List Res) (x : List Int) (w : World) (hC : resK.C w A rs.length rs) (hx : IdOk x) (hl : rs.length ≤ 140737488355328) :
    Calls Tryz.prog 29 #[.slice A rs.length c, idv x] w fun e w' => RetFind rs x e ∧ Below w.heap.size w w' := by
  have HC := Aside0.mk hC
  have Hx := Aside0.mk hx
  clear hC hx
  unfold idv
  go_enter Tryz.func29, Tryz.ntmps29
  go_upto_region 1 with (fail)
  obtain ⟨W, hW⟩ : ∃ W, W = (w.alloc (.cells (u8s x).toArray 29)).alloc (.cells Tryz.zeroCells33 33) := ⟨_, rfl⟩
  rw [← hW]
  have hsz0 : (w.alloc (.cells (u8s x).toArray 29)).heap.size = w.heap.size + 1 := by simp
  have hBW : Below w.heap.size w W := hW ▸ below_alloc (below_alloc (Below.refl _ _) _) _
  have hx0 : At W ⟨w.heap.size, 0, none⟩ (u8s x) := hW ▸ (At.new w (u8s x) 29).below (below_alloc (Below.refl _ _) _)
  have h40 : W.heap[w.heap.size + 1]? = some (.cells Tryz.zeroCells33 33 (0, 0)) := by
    have := heap_alloc_new (w.alloc (.cells (u8s x).toArray 29)) (.cells Tryz.zeroCells33 33)
    rw [hsz0] at this
    rw [hW]; exact this
  have HBW := Aside0.mk hBW
  have HX0 := Aside0.mk hx0
  have H40 := Aside0.mk h40
  clear hW hsz0 hBW hx0 h40
  go_wp2
  go_loopg [6] rs.length (fun k v6 w' => ∃ i : Nat, v6 = .int .i64 i ∧ i + k = rs.length ∧ Aside0 (∀ j s, j < i → rs[j]? = some s → s.act ≠ x) ∧ Aside0 (Drawn0 W w'))
  case atStart => exact ⟨0, rfl, by omega, ⟨fun j s h => by omega⟩, ⟨Drawn0.refl _⟩⟩
  case round =>
    obtain ⟨i, rfl, hik, HN, HDr⟩ := hrel
    have h4 : Aside0 (wr.heap[w.heap.size + 1]? = some (.cells Tryz.zeroCells33 33 (0, 0))) := ⟨(HDr.out.below.block _ (blk_lt H40.out)).trans H40.out⟩
    have HBr : Aside0 (Below w.heap.size w wr) := ⟨HBW.out.trans (HDr.out.below.mono HBW.out.size)⟩
    cases gk with
    | zero =>
      have hd : decide (i < rs.length) = false := by simp; omega
      have hi : Aside0 (i = rs.length) := ⟨by omega⟩
      clear hik
      have hz65 : (⟨z32, z32, 0⟩ : Res).act = z32 := rfl
      have hzr : ResOk ⟨z32, z32, 0⟩ := ⟨z32_ok, z32_ok, by decide⟩
      have HZr := Aside0.mk hzr
      clear hz65 hzr
      go_wp2_with (first
        | (refine wpList_store_blk rfl rfl 33 _ _ rfl h4.out (resC ⟨z32, z32, 0⟩) rfl rfl (by rw [z33, resC_length HZr.out]) (by rw [resC_length HZr.out]; exact info33) resC_one ?_; intro w6 s1 s2 s3)
        | go_in)
      (try simp only [Exit.inBlock, Exit.then])
      refine bodyPost_ret (results_ct HZr.out rfl _ _ (w.heap.size + 1) rfl s1) rfl ?_
      refine ⟨⟨_, false, rfl, HZr.out, ⟨fun h => (by cases h), fun ⟨s, hs, he⟩ => ?_⟩⟩, HBr.out.grown s2 HBr.out.size (fun k hk => by cases hk; omega)⟩
      obtain ⟨j, hj⟩ := List.mem_iff_getElem?.1 hs
      exact absurd he (HN.out j s (by have := (List.getElem?_eq_some_iff.1 hj).1; have := hi.out; omega) hj)
    | succ k =>
      have hi : i < rs.length := by omega
      have hi1 : (i : Int) < (rs.length : Int) := by omega
      obtain ⟨ad, r, rfl, hr, ho, hat⟩ := res_at (Kd.C_below HC.out HBr.out) i hi
      have g1 := (res_act hat).id ho.act
      have g2 := hat.res ho
      have g3 := (HX0.out.below HDr.out.below).id Hx.out
      have HR := Aside0.mk hr
      have Ho := Aside0.mk ho
      have Hat := Aside0.mk hat
      clear hat ho hr
      by_cases hin : r.act = x
      · have heq : ∀ u, (Op.equalIn 10000 29 (.agg (u8s r.act).toArray) (.agg (u8s x).toArray)).run Tryz.prog u = .ok true u := fun u => by rw [eqI29 u _ _ Ho.out.act Hx.out, decide_eq_true hin]
        have Hin := Aside0.mk hin
        clear hin
        go_wp2
        go_quiet (fail)
        have h5 : Aside0 ((wr.drewN nq).heap[w.heap.size + 1]? = some (.cells Tryz.zeroCells33 33 (0, 0))) := ⟨((HDr.out.step nq).below.block _ (blk_lt H40.out)).trans H40.out⟩
        have HBq : Aside0 (Below w.heap.size w (wr.drewN nq)) := ⟨HBW.out.trans ((HDr.out.step nq).below.mono HBW.out.size)⟩
        go_wp2_with (first
          | (refine wpList_store_blk rfl rfl 33 _ _ rfl h5.out (resC r) rfl rfl (by rw [z33, resC_length Ho.out]) (by rw [resC_length Ho.out]; exact info33) resC_one ?_; intro w6 s1 s2 s3)
          | go_in)
        (try simp only [Exit.inBlock, Exit.then])
        refine bodyPost_ret (results_ct Ho.out rfl _ _ (w.heap.size + 1) rfl s1) rfl ?_
        exact ⟨⟨_, true, rfl, Ho.out, ⟨fun _ => ⟨r, List.mem_of_getElem? HR.out, Hin.out⟩, fun _ => rfl⟩⟩, HBq.out.grown s2 HBq.out.size (fun k hk => by cases hk; omega)⟩
      · have heq : ∀ u, (Op.equalIn 10000 29 (.agg (u8s r.act).toArray) (.agg (u8s x).toArray)).run Tryz.prog u = .ok false u := fun u => by rw [eqI29 u _ _ Ho.out.act Hx.out, decide_eq_false hin]
        have Hin := Aside0.mk hin
        clear hin
        go_wp2
        go_quiet (fail)
        go_wp2
        go_roundg k
        case measure => omega
        case rel =>
          refine ⟨i + 1, by go_num, by omega, ⟨fun j s hj hs => ?_⟩, ⟨HDr.out.step _⟩⟩
          by_cases hji : j = i
          · subst hji
            rw [HR.out] at hs
            cases hs
            exact Hin.out
          · exact HN.out j s (by omega) hs
end Go.Proofs.YtdekmeanlcpenaaGreatDoor.Mid

namespace Go.Proofs.YtdekmeanlcpenaaGreatDoor.Law
open Go.RowKit Go.Proofs.YtdekmeanlcpenaaGreatDoorW.PrintWords Go.Proofs.YtdekmeanlcpenaaGreatDoor.Mid Go.Proofs.YtdekmeanlcpenaaGreatDoor.Pick Go.Proofs.YtdekmeanlcpenaaGreatDoor.Err
attribute [local go_sem ↓ high] load33_eq load29_eq build69_eq build33_eq build29_eq
attribute [local simp] rowOf_drew rowOf_drewN
attribute [local go_sem high] load33_row load29_row rowOf_drew rowOf_drewN
set_option maxHeartbeats 2000000
set_option maxRecDepth 100000

theorem isFault (v : Value) (w : World) : (Instr.typeAssert (.iface 79 v) 35 79 true).run Tryz.prog w = .ok (.tuple #[v, .bool true]) w := by kernel_rfl
theorem num_any (n : Int) (w : World) : Calls Tryz.prog 33 #[.int .i64 n] w fun e w' => e = .returned (.int .i64 n) ∧ Below w.heap.size w w' := by
  go_enter Tryz.func33, Tryz.ntmps33
  go_wp2
  go_ret
  exact ⟨rfl, Below.refl _ _⟩
theorem told_nil (op name : ByteArray) (id : List Int) (w : World) : Calls Tryz.prog 11 #[.nilIface, .string op, .string name, .int .i64 0, idv id] w fun e w' => e = .returned (.bool true) ∧ Below w.heap.size w w' := by
  go_enter Tryz.func11, Tryz.ntmps11
  go_wp2
  go_ret
  exact ⟨rfl, below_alloc (Below.refl _ _) _⟩
theorem handle_below {w w1 : World} (h : Handle w) (hb : Below w.heap.size w w1) : Handle w1 := by
  have := lt_of_cell h
  unfold Handle at h ⊢
  rw [hb.cell this]; exact h
theorem fault_cells {w : World} {g : Nat} {op name : ByteArray} {id : List Int} {err : Value} (hid : IdOk id) (h : w.heap[g]? = some (.cells (faultC op name id err).toArray 82 (0, 0))) :
    w.cell? ⟨g, 0, none⟩ = some (.string op) ∧ w.cell? ⟨g, 1, none⟩ = some (.string name) ∧ rowOf w ⟨g, 2, none⟩ 32 = some (u8s id) ∧ w.cell? ⟨g, 34, none⟩ = some err := by
  have hl : (u8s id).length = 32 := by rw [u8s_length, hid.len]
  have hat : At w ⟨g, 0, none⟩ (faultC op name id err) := At.blk h
  have h2 : At w ⟨g, 2, none⟩ (u8s id) := by
    intro j v hv
    have hj : j < (u8s id).length := (List.getElem?_eq_some_iff.1 hv).1
    have := hat (2 + j) v (by
      have e : faultC op name id err = [.string op, .string name] ++ (u8s id ++ [err]) := by simp [faultC]
      rw [e, List.getElem?_append_right (by simp), List.getElem?_append_left (by simp; omega)]
      simpa using hv)
    rw [Addr.add_mid] at this ⊢
    rwa [Nat.zero_add] at this
  refine ⟨?_, ?_, h2.id hid, ?_⟩
  · have := hat 0 (.string op) rfl
    rwa [Addr.add_mid] at this
  · have := hat 1 (.string name) rfl
    rwa [Addr.add_mid] at this
  · have := hat 34 err (by
      have e : faultC op name id err = ([.string op, .string name] ++ u8s id) ++ [err] := by simp [faultC]
      rw [e, List.getElem?_append_right (by simp; omega)]
      simp [hl])
    rwa [Addr.add_mid] at this
theorem told_some (op name : ByteArray) (id : List Int) (n : Int) (hn : n ≠ 0) (hid : IdOk id) (g : Nat) (w : World) (hH : Handle w) (hf : w.heap[g]? = some (.cells (faultC op name id (errno n)).toArray 82 (0, 0))) :
    Calls Tryz.prog 11 #[.iface 79 (.pointer (some ⟨g, 0, none⟩)), .string op, .string name, .int .i64 n, idv id] w fun e w' => e = .returned (.bool true) ∧ Below w.heap.size w w' := by
  obtain ⟨W, hW⟩ : ∃ W, W = w.alloc (.cells (u8s id).toArray 29) := ⟨_, rfl⟩
  have hBW : Below w.heap.size w W := hW ▸ below_alloc (Below.refl _ _) _
  have hbx : At W ⟨w.heap.size, 0, none⟩ (u8s id) := hW ▸ At.new w (u8s id) 29
  have hfW : W.heap[g]? = some (.cells (faultC op name id (errno n)).toArray 82 (0, 0)) := (hBW.block _ (blk_lt hf)).trans hf
  have hHW : Handle W := handle_below hH hBW
  have hfx : ∀ x : CW (Since W), x.w.heap[g]? = some (.cells (faultC op name id (errno n)).toArray 82 (0, 0)) := fun x => (x.h.block _ (blk_lt hfW)).trans hfW
  have c0 : ∀ x : CW (Since W), x.w.cell? ⟨g, 0, none⟩ = some (.string op) := fun x => (fault_cells hid (hfx x)).1
  have c1 : ∀ x : CW (Since W), x.w.cell? ⟨g, 1, none⟩ = some (.string name) := fun x => (fault_cells hid (hfx x)).2.1
  have c2 : ∀ x : CW (Since W), rowOf x.w ⟨g, 2, none⟩ 32 = some (u8s id) := fun x => (fault_cells hid (hfx x)).2.2.1
  have c4 : ∀ x : CW (Since W), rowOf x.w ⟨w.heap.size, 0, none⟩ 32 = some (u8s id) := fun x => (hbx.below x.h).id hid
  have c34 : Aside0 (∀ x : CW (Since W), x.w.cell? ⟨g, 34, none⟩ = some (.iface 80 (.int .i64 n))) := ⟨fun x => (fault_cells hid (hfx x)).2.2.2⟩
  have hHx : Aside0 (∀ x : CW (Since W), Handle x.w) := ⟨fun x => handle_below hHW x.h⟩
  have heq : ∀ u, (Op.equalIn 10000 29 (.agg (u8s id).toArray) (.agg (u8s id).toArray)).run Tryz.prog u = .ok true u := fun u => by rw [eqI29 u _ _ hid hid, decide_eq_true rfl]
  have HBW := Aside0.mk hBW
  have HW := Aside0.mk hW
  clear hbx hfW hHW hfx hH hf hBW hW
  have hta := isFault
  unfold idv
  go_enter Tryz.func11, Tryz.ntmps11
  go_wp2
  rw [← HW.out]
  refine wp_region_S (Since W) (by kernel_rfl) (by kernel_rfl) (since_drew W) ?_
  repeat (go_big_quiet_step (first
    | (go_at_call 34; refine calls_since (code_any g n _ (hHx.out _) (c34.out _)))
    | (go_at_call 33; refine calls_since (num_any n _))
    | (go_at_call 35; refine calls_since ((is32 g n _ (c34.out _)).mono (fun e w' ⟨he, hw⟩ => ⟨he, hw ▸ Below.refl _ _⟩)))))
  refine wpQuiet_nil ?_
  rintro w5 ⟨x5, e5⟩
  have hb5 : Since W w5 := e5 ▸ x5.h
  clear e5 x5
  go_wp2
  go_ret
  exact ⟨rfl, HBW.out.trans (hb5.mono HBW.out.size)⟩
end Go.Proofs.YtdekmeanlcpenaaGreatDoor.Law
