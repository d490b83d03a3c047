import Derived.Test.YtdekmeanlcpenaaGreatDoorGrN3
import Derived.Great.BuildSlice
import Derived.Test.YtdekmeanlcpenaaGreatDoorWApart
import Derived.Test.YtdekmeanlcpenaaGreatDoorGrN2
namespace Go.Proofs.YtdekmeanlcpenaaGreatDoor.Mid
open Go.RowKit Go.Proofs.YtdekmeanlcpenaaGreatDoorW.PrintWords
set_option maxRecDepth 100000

theorem fold_put (pre post : List Value) : ∀ (v done mid : List Value), mid.length = v.length →
    (v.zipIdx done.length).foldl (fun (cs : Array Value) x => cs.setIfInBounds (pre.length + x.2) x.1) (pre ++ (done ++ mid) ++ post).toArray = (pre ++ (done ++ v) ++ post).toArray
  | [], done, mid, h => by
    have : mid = [] := List.length_eq_zero_iff.1 (by simpa using h)
    subst this
    rfl
  | c :: v, done, [], h => by simp at h
  | c :: v, done, m :: mid, h => by
    have ih := fold_put pre post v (done ++ [c]) mid (by simpa using h)
    have e : (pre ++ (done ++ m :: mid) ++ post).toArray.setIfInBounds (pre.length + done.length) c = (pre ++ ((done ++ [c]) ++ mid) ++ post).toArray := by
      rw [List.setIfInBounds_toArray]
      congr 1
      have h1 : pre ++ (done ++ m :: mid) ++ post = (pre ++ done) ++ (m :: (mid ++ post)) := by simp
      rw [h1, ← List.length_append, List.set_append_right _ _ (Nat.le_refl _), Nat.sub_self]
      simp
    rw [List.zipIdx_cons, List.foldl_cons]
    show ((v.zipIdx (done.length + 1)).foldl _ ((pre ++ (done ++ m :: mid) ++ post).toArray.setIfInBounds (pre.length + done.length) c)) = _
    rw [e]
    rw [List.length_append, List.length_singleton] at ih
    rw [ih]
    simp
theorem fold_arr (off : Nat) (v : List Value) (cs : Array Value) : v.toArray.zipIdx.foldl (fun (cs : Array Value) (x : Value × Nat) => cs.setIfInBounds (off + x.2) x.1) cs = (v.zipIdx 0).foldl (fun (cs : Array Value) x => cs.setIfInBounds (off + x.2) x.1) cs := by
  rw [← Array.foldl_toList]
  simp
/-- One part of full size. -/
theorem fill_part {place : Nat → Option (Nat × Nat)} {i off sz : Nat} {rest : List (Nat × Value)} (hp : place i = some (off, sz)) (pre mid post v : List Value) (x : Value) (hx : x.cells = v.toArray) (hl : pre.length = off) (hm : mid.length = sz) (hv : v.length = sz) :
    Instr.fill place (pre ++ mid ++ post).toArray ((i, x) :: rest) = Instr.fill place (pre ++ v ++ post).toArray rest := by
  rw [Instr.fill]
  simp only [hp]
  rw [if_neg (by simp [hx]; omega), hx]
  have h1 := fold_put pre post v [] mid (by omega)
  simp only [List.nil_append, List.length_nil] at h1
  have h2 := fold_arr off v (pre ++ mid ++ post).toArray
  rw [← hl] at h2 ⊢
  exact congrArg (fun z => Instr.fill place z rest) (h2.trans h1)
theorem fill_one {place : Nat → Option (Nat × Nat)} {i off sz : Nat} {rest : List (Nat × Value)} (hp : place i = some (off, sz)) (pre mid post v : List Value) (hl : pre.length = off) (hm : mid.length = sz) (hv : v.length = sz) :
    Instr.fill place (pre ++ mid ++ post).toArray ((i, .agg v.toArray) :: rest) = Instr.fill place (pre ++ v ++ post).toArray rest := fill_part hp pre mid post v _ rfl hl hm hv
theorem fill_rows (sz : Nat) : ∀ (vs : List (List Value)) (i : Nat) (pre zs : List Value), (∀ v ∈ vs, v.length = sz) → pre.length = i * sz → zs.length = vs.length * sz →
    Instr.fill (fun i => some (i * sz, sz)) (pre ++ zs).toArray ((vs.zipIdx i).map fun x => (x.2, .agg x.1.toArray)) = some (pre ++ vs.flatten).toArray
  | [], i, pre, zs, _, _, hz => by
    have : zs = [] := List.length_eq_zero_iff.1 (by simpa using hz)
    subst this
    rfl
  | v :: vs, i, pre, zs, hv, hp, hz => by
    rw [List.length_cons, Nat.add_mul, Nat.one_mul] at hz
    have h1 := fill_one (place := fun i => some (i * sz, sz)) (i := i) (rest := (vs.zipIdx (i + 1)).map fun x => (x.2, .agg x.1.toArray)) rfl pre (zs.take sz) (zs.drop sz) v hp (by rw [List.length_take]; omega) (hv v (by simp))
    have ih := fill_rows sz vs (i + 1) (pre ++ v) (zs.drop sz) (fun u hu => hv u (List.mem_cons_of_mem _ hu)) (by rw [List.length_append, hp, hv v (by simp), Nat.add_mul, Nat.one_mul]) (by rw [List.length_drop]; omega)
    rw [List.append_assoc, List.take_append_drop] at h1
    rw [List.zipIdx_cons, List.map_cons, h1, ih]
    simp

section
variable {ops : Array Oper} {rest : List Oper} {o : Oper} {a : Act} {w : World} {Q : Exit → Act → World → Prop} {K : Act → World → Prop}
theorem wp_buildRows {t e sz : Nat} (n : Nat) (parts : Array (Nat × Operand)) (ho : o.op = .buildSlice t n parts) (vs : List (List Value)) (hu : Tryz.prog.underlying t = some (.slice e)) (hi : ∃ z b, (Tryz.prog.info? e).map (fun i => (i.zero, i.size, i.bytes)) = some (some z, sz, b) ∧ z.cells.size = sz)
    (hp : (parts.map fun (i, x) => (i, a.eval x)).toList = (vs.zipIdx 0).map fun x => (x.2, .agg x.1.toArray)) (hv : ∀ v ∈ vs, v.length = sz) (hn : vs.length = n) (h0 : 0 < n * sz) (hs : n * sz ≤ 16777216)
    (h : K (a.put o.dst (.slice (some ⟨w.heap.size, 0, none⟩) n n)) (w.alloc (.cells vs.flatten.toArray e))) : o.wp Tryz.prog a w K Q := by
  obtain ⟨z, b, hz1, hz2⟩ := hi
  obtain ⟨ie, hie, he⟩ := Option.map_eq_some_iff.1 hz1
  simp only [Prod.mk.injEq] at he
  obtain ⟨e1, e2, _⟩ := he
  refine wp_buildSlice t e n parts ho _ ie z hu hie e1 (by rw [e2]; omega) (by rw [e2]; omega) ?_ h
  rw [hp, e2]
  have := fill_rows sz vs 0 [] ((Array.range (n * sz)).map (z.cells[· % z.cells.size]!)).toList hv (by simp) (by simp [hn])
  rw [List.nil_append, List.nil_append, Array.toArray_toList] at this
  exact this
theorem wpList_buildRows {t e sz : Nat} (hg : o.guard = none) (n : Nat) (parts : Array (Nat × Operand)) (ho : o.op = .buildSlice t n parts) (vs : List (List Value)) (hu : Tryz.prog.underlying t = some (.slice e)) (hi : ∃ z b, (Tryz.prog.info? e).map (fun i => (i.zero, i.size, i.bytes)) = some (some z, sz, b) ∧ z.cells.size = sz)
    (hp : (parts.map fun (i, x) => (i, a.eval x)).toList = (vs.zipIdx 0).map fun x => (x.2, .agg x.1.toArray)) (hv : ∀ v ∈ vs, v.length = sz) (hn : vs.length = n) (h0 : 0 < n * sz) (hs : n * sz ≤ 16777216)
    (h : wpList Tryz.prog ops Q rest (a.put o.dst (.slice (some ⟨w.heap.size, 0, none⟩) n n)) (w.alloc (.cells vs.flatten.toArray e))) : wpList Tryz.prog ops Q (o :: rest) a w :=
  wpList_plain hg fun _ hK => wp_buildRows n parts ho vs hu hi hp hv hn h0 hs (hK _ _ h)
theorem wpList_build33 (hg : o.guard = none) (x : Operand) (ho : o.op = .buildSlice 22 1 #[(0, x)]) (r : Res) (hr : ResOk r) (hx : a.eval x = .agg (resC r).toArray)
    (h : wpList Tryz.prog ops Q rest (a.put o.dst (.slice (some ⟨w.heap.size, 0, none⟩) 1 1)) (w.alloc (.cells (resC r).toArray 33))) : wpList Tryz.prog ops Q (o :: rest) a w := by
  obtain ⟨z, h1, h2⟩ := info33full
  refine wpList_buildRows hg 1 _ ho [resC r] Tryz.underlying22 ⟨z, _, h1, h2⟩ (by simp [hx]) (fun v hv => by rw [List.mem_singleton.1 hv, resC_length hr]) rfl (by decide) (by decide) ?_
  simpa using h
end

/-! ### Literals of ids and of results -/
def z32 : List Int := List.replicate 32 0
theorem z32_ok : IdOk z32 := ⟨rfl, fun u hu => by rw [List.eq_of_mem_replicate hu]; decide⟩
def bld (t : TypeId) (ps : Array (Nat × Value)) : Sem Value := Instr.build t ps
theorem build29_eq (ps : Array (Nat × Value)) : Instr.build 29 ps = bld 29 ps := rfl
theorem build33_eq (ps : Array (Nat × Value)) : Instr.build 33 ps = bld 33 ps := rfl
theorem bld29_none (w : World) : (bld 29 #[]).run Tryz.prog w = .ok (.agg (u8s z32).toArray) w := by kernel_rfl
theorem bld29_one (w : World) (n : Int) : (bld 29 #[(0, .int .u8 n)]).run Tryz.prog w = .ok (.agg (u8s (n :: List.replicate 31 0)).toArray) w := by kernel_rfl
theorem bld33_none (w : World) : (bld 33 #[]).run Tryz.prog w = .ok (.agg (resC ⟨z32, z32, 0⟩).toArray) w := by kernel_rfl
theorem bld33_code (w : World) (n : Int) : (bld 33 #[(2, .int .i64 n)]).run Tryz.prog w = .ok (.agg (resC ⟨z32, z32, n⟩).toArray) w := by kernel_rfl
theorem zero33 (w : World) : (zeroValue 33).run Tryz.prog w = .ok (.agg (resC ⟨z32, z32, 0⟩).toArray) w := by kernel_rfl
/-! ### A fault -/
/-- The cells of a Fault: which call, of what name, of which id, and its number. -/
def faultC (op name : ByteArray) (id : List Int) (err : Value) : List Value := [.string op] ++ [.string name] ++ u8s id ++ [err]
def errno (n : Int) : Value := .iface 80 (.int .i64 n)
theorem faultC_length {op name : ByteArray} {id : List Int} {err : Value} (h : IdOk id) : (faultC op name id err).length = 35 := by simp [faultC, u8s_length, h.len]
theorem build69_eq (ps : Array (Nat × Value)) : Instr.build 82 ps = bld 82 ps := rfl
def places69 : Array (Nat × Nat) := #[(0, 1), (1, 1), (2, 32), (34, 1)]
theorem run_build69 (w : World) (ps : Array (Nat × Value)) (cells : Array Value) (h : Instr.fill (places69[·]?) (faultC .empty .empty z32 .nilIface).toArray ps.toList = some cells) : (bld 82 ps).run Tryz.prog w = .ok (.agg cells) w := by
  have hz : (zeroValue 82).run Tryz.prog w = .ok (.agg (faultC .empty .empty z32 .nilIface).toArray) w := by kernel_rfl
  have h9 : (sizeOf 9).run Tryz.prog w = .ok 1 w := by kernel_rfl
  have h29 : (sizeOf 29).run Tryz.prog w = .ok 32 w := by kernel_rfl
  have h35 : (sizeOf 35).run Tryz.prog w = .ok 1 w := by kernel_rfl
  unfold bld Instr.build
  simp only [Sem.run_bind, hz, Result.andThen_ok, run_underlying Tryz.underlying82 w, Value.cells]
  simp [h9, h29, h35, Sem.run_bind, Result.andThen]
  have e : (fun x : Nat => places69[x]?) = fun x => ([(0, 1), (1, 1), (2, 32), (34, 1)] : List (Nat × Nat))[x]? := by
    funext x
    simp [places69]
  rw [e] at h
  simp only [h]
  rfl
theorem bld69_two (w : World) (op : ByteArray) (err : Value) (he : err.cells = #[err]) : (bld 82 #[(0, .string op), (3, err)]).run Tryz.prog w = .ok (.agg (faultC op .empty z32 err).toArray) w := by
  refine run_build69 w _ _ ?_
  have h1 := fill_part (place := (places69[·]?)) (i := 0) (off := 0) (sz := 1) (rest := [(3, err)]) rfl [] [.string .empty] ([.string .empty] ++ u8s z32 ++ [.nilIface]) [.string op] (.string op) rfl rfl rfl rfl
  have h2 := fill_part (place := (places69[·]?)) (i := 3) (off := 34) (sz := 1) (rest := []) rfl ([.string op] ++ [.string .empty] ++ u8s z32) [.nilIface] [] [err] err he (by simp [u8s_length, z32]) rfl rfl
  simp only [faultC, List.nil_append, List.append_nil, List.append_assoc] at h1 h2 ⊢
  rw [h1, h2]
  rfl
theorem bld69_three (w : World) (op : ByteArray) (x : List Int) (hx : IdOk x) (err : Value) (he : err.cells = #[err]) : (bld 82 #[(0, .string op), (2, .agg (u8s x).toArray), (3, err)]).run Tryz.prog w = .ok (.agg (faultC op .empty x err).toArray) w := by
  refine run_build69 w _ _ ?_
  have hl : (u8s x).length = 32 := by rw [u8s_length, hx.len]
  have h1 := fill_part (place := (places69[·]?)) (i := 0) (off := 0) (sz := 1) (rest := [(2, .agg (u8s x).toArray), (3, err)]) rfl [] [.string .empty] ([.string .empty] ++ u8s z32 ++ [.nilIface]) [.string op] (.string op) rfl rfl rfl rfl
  have h2 := fill_part (place := (places69[·]?)) (i := 2) (off := 2) (sz := 32) (rest := [(3, err)]) rfl ([.string op] ++ [.string .empty]) (u8s z32) [.nilIface] (u8s x) (.agg (u8s x).toArray) rfl rfl rfl hl
  have h3 := fill_part (place := (places69[·]?)) (i := 3) (off := 34) (sz := 1) (rest := []) rfl ([.string op] ++ [.string .empty] ++ u8s x) [.nilIface] [] [err] err he (by simp [hl]) rfl rfl
  simp only [faultC, List.nil_append, List.append_nil, List.append_assoc] at h1 h2 h3 ⊢
  rw [h1, h2, h3]
  rfl
theorem bld69_four (w : World) (op nm : ByteArray) (x : List Int) (hx : IdOk x) (err : Value) (he : err.cells = #[err]) : (bld 82 #[(0, .string op), (1, .string nm), (2, .agg (u8s x).toArray), (3, err)]).run Tryz.prog w = .ok (.agg (faultC op nm x err).toArray) w := by
  refine run_build69 w _ _ ?_
  have hl : (u8s x).length = 32 := by rw [u8s_length, hx.len]
  have h1 := fill_part (place := (places69[·]?)) (i := 0) (off := 0) (sz := 1) (rest := [(1, .string nm), (2, .agg (u8s x).toArray), (3, err)]) rfl [] [.string .empty] ([.string .empty] ++ u8s z32 ++ [.nilIface]) [.string op] (.string op) rfl rfl rfl rfl
  have h0 := fill_part (place := (places69[·]?)) (i := 1) (off := 1) (sz := 1) (rest := [(2, .agg (u8s x).toArray), (3, err)]) rfl [.string op] [.string .empty] (u8s z32 ++ [.nilIface]) [.string nm] (.string nm) rfl rfl rfl rfl
  have h2 := fill_part (place := (places69[·]?)) (i := 2) (off := 2) (sz := 32) (rest := [(3, err)]) rfl ([.string op] ++ [.string nm]) (u8s z32) [.nilIface] (u8s x) (.agg (u8s x).toArray) rfl rfl rfl hl
  have h3 := fill_part (place := (places69[·]?)) (i := 3) (off := 34) (sz := 1) (rest := []) rfl ([.string op] ++ [.string nm] ++ u8s x) [.nilIface] [] [err] err he (by simp [hl]) rfl rfl
  simp only [faultC, List.nil_append, List.append_nil, List.append_assoc] at h0 h1 h2 h3 ⊢
  rw [h1, h0, h2, h3]
  rfl
theorem errno_cells (n : Int) : (errno n).cells = #[errno n] := rfl
end Go.Proofs.YtdekmeanlcpenaaGreatDoor.Mid

namespace Go.Proofs.YtdekmeanlcpenaaGreatDoor.Mid
open Go.RowKit Go.Proofs.YtdekmeanlcpenaaGreatDoorW.PrintWords Go.Proofs.YtdekmeanlcpenaaGreatDoor.Pick

theorem R_off {α : Type} {d : Kd α} {e : Nat} {W W1 : World} {b : Nat} {v : Value} {y : List α} {r : Option Nat} (hE : d.E = []) (h : d.R e W b (fun _ => True) v y) (hg : W.grownBy W1 r) (hne : ∀ k, v.ownBlock = some k → some k ≠ r) : d.R e W1 b (fun _ => True) v y :=
  Kd.R_mono (Kd.R_grown (Kd.R_tight hE h) hg (fun k hk => hne k hk.symm)) (fun _ _ => trivial)
theorem set_ne {α : Type} {d : Kd α} {e : Nat} {W : World} {b : Nat} {v : Value} {y : List α} {ok : Nat → Prop} {P : Program} {t k : Nat} {ks : List Value} (hS : SetAt P t W k ks) (h : d.R e W b ok v y) : some k ≠ v.ownBlock := by
  intro he
  obtain ⟨cells, hc⟩ := Kd.R_typed h k he.symm
  obtain ⟨es, clock, hb, _⟩ := hS
  rw [hc] at hb
  cases hb
theorem At.grown {W W1 : World} {p : Addr} {cs : List Value} {r : Option Nat} (h : At W p cs) (hlt : p.block < W.heap.size) (hg : W.grownBy W1 r) (hne : some p.block ≠ r) : At W1 p cs := h.move (hg.block _ hlt hne)
theorem grown_none {W W1 : World} {r : Option Nat} (h : W.grownBy W1 none) : W.grownBy W1 r := ⟨h.os, h.tape, h.output, h.size, fun k hk _ => h.block k hk (by simp)⟩
theorem grown_of_below {W W1 : World} {r : Option Nat} (h : Below W.heap.size W W1) : W.grownBy W1 r := ⟨h.os, h.tape, h.output, h.size, fun k hk _ => h.block k hk⟩
theorem res_M {w : World} {b : Nat} {ok : Nat → Prop} {r : Res} (hr : ResOk r) : resK.M w b ok r (resC r) := (show ResOk r ∧ resC r = resC r from ⟨hr, rfl⟩)
theorem id_M {w : World} {b : Nat} {ok : Nat → Prop} {x : List Int} (hx : IdOk x) : idK.M w b ok x (u8s x) := (show IdOk x ∧ u8s x = u8s x from ⟨hx, rfl⟩)
theorem resK_sz : resK.sz = 65 := rfl
theorem idK_sz : idK.sz = 32 := rfl
/-- The walk stands here. -/
theorem wpList_stop {P : Program} {ops : Array Oper} {Q : Exit → Act → World → Prop} {l : List Oper} {a : Act} {w : World} (h : Aside0 (wpList P ops Q l a w)) : wpList P ops Q l a w := h.out
theorem results_tct {fn : Func} {p q u : Tmp} {x : List Int} (hx : IdOk x) (h : fn.results = #[.tmp p, .cell q 29, .tmp u]) (tmps : Array Value) (w : World) (g : Nat)
    (hp : tmps.getD q undef = .pointer (some ⟨g, 0, none⟩)) (hg : w.heap[g]? = some (.cells (u8s x).toArray 29 (0, 0))) :
    (results fn tmps).run Tryz.prog w = .ok (.tuple #[tmps.getD p undef, idv x, tmps.getD u undef]) w := by
  have hp' : tmps[q]?.getD undef = .pointer (some ⟨g, 0, none⟩) := by simpa using hp
  have hl := run_loadVar_at (P := Tryz.prog) w ⟨g, 0, none⟩ 29 (u8s x) _ (At.blk hg) Tryz.underlying29 rfl (by rw [u8s_length, hx.len]; exact info29)
  simp [results, h, hp', asAddr, hl, idv]
theorem results_ttc {fn : Func} {p q u : Tmp} {x : List Int} (hx : IdOk x) (h : fn.results = #[.tmp p, .tmp u, .cell q 29]) (tmps : Array Value) (w : World) (g : Nat)
    (hp : tmps.getD q undef = .pointer (some ⟨g, 0, none⟩)) (hg : w.heap[g]? = some (.cells (u8s x).toArray 29 (0, 0))) :
    (results fn tmps).run Tryz.prog w = .ok (.tuple #[tmps.getD p undef, tmps.getD u undef, idv x]) w := by
  have hp' : tmps[q]?.getD undef = .pointer (some ⟨g, 0, none⟩) := by simpa using hp
  have hl := run_loadVar_at (P := Tryz.prog) w ⟨g, 0, none⟩ 29 (u8s x) _ (At.blk hg) Tryz.underlying29 rfl (by rw [u8s_length, hx.len]; exact info29)
  simp [results, h, hp', asAddr, hl, idv]
end Go.Proofs.YtdekmeanlcpenaaGreatDoor.Mid

namespace Go.Proofs.YtdekmeanlcpenaaGreatDoor.Pick
open Go.RowKit Go.Proofs.YtdekmeanlcpenaaGreatDoorW.PrintWords Go.Proofs.YtdekmeanlcpenaaGreatDoor.Mid
attribute [local go_sem ↓ high] load33_eq load29_eq
attribute [local simp] rowOf_drew rowOf_drewN
attribute [local go_sem high] load33_row load29_row rowOf_drew rowOf_drewN
set_option maxHeartbeats 2000000
set_option maxRecDepth 100000

theorem zero4 (u : World) : (zeroValue 4).run Tryz.prog u = .ok (.bool false) u := by kernel_rfl

theorem pick_prog (A : Option Addr) (c : Nat) (rs : List Res) (A2 : Option Addr) (c2 : Nat) (qs : List (List Int)) (w : World) (hC : resK.C w A rs.length rs) (hD : idK.C w A2 qs.length qs) (ok : ∀ r ∈ rs, ResOk r) (oka : ∀ a ∈ qs, IdOk a) (T : Table rs)
    (hca : qs.length ≤ 1000000) :
    Calls Tryz.prog 32 #[.slice A rs.length c, .slice A2 qs.length c2] w fun e w' => (∃ v least first, e = .returned (.tuple #[v, idv least, .bool first]) ∧ resK.R 33 w' w.heap.size (fun _ => True) v (pickS rs qs) ∧ IdOk least ∧
      (first = true → (∀ a, ¬ Lacks rs qs a) ∧ least = List.replicate 32 0) ∧ (first = false → Least (Lacks rs qs) least)) ∧ Below w.heap.size w w' := by
  have HC := Aside0.mk hC
  have HD := Aside0.mk hD
  have hmo : rs.length ≤ 32 := T.most
  have HT := Aside0.mk T
  have HO := Aside0.mk ok
  have HOA := Aside0.mk oka
  clear hC hD T ok oka
  go_enter Tryz.func32, Tryz.ntmps32
  have hmm := @run_makeMap Tryz.prog
  go_wp2
  obtain ⟨W0, hW0⟩ : ∃ W0, W0 = w.alloc (.cells (u8s (List.replicate 32 0)).toArray 29) := ⟨_, rfl⟩
  have hs0 : W0.heap.size = w.heap.size + 1 := by rw [hW0]; simp
  have hb0 : Below w.heap.size w W0 := hW0 ▸ below_alloc (Below.refl _ _) _
  have hz0 : W0.heap[w.heap.size]? = some (.cells (u8s (List.replicate 32 0)).toArray 29 (0, 0)) := hW0 ▸ heap_alloc_new w _
  have start : SetAt Tryz.prog 29 (W0.alloc (.map #[] 0)) (w.heap.size + 1) [] ∧ Below w.heap.size w (W0.alloc (.map #[] 0)) ∧ (W0.alloc (.map #[] 0)).heap[w.heap.size]? = some (.cells (u8s (List.replicate 32 0)).toArray 29 (0, 0)) := by
    refine ⟨?_, hb0.trans ((below_alloc (Below.refl _ _) _).mono (by omega)), (heap_alloc_old W0 _ (by omega)).trans hz0⟩
    have := SetAt.made Tryz.prog 29 W0
    rwa [hs0] at this
  have HSt := Aside0.mk start
  rw [hW0] at HSt
  clear start hz0 hb0 hs0 hW0 W0
  go_loopg [19] qs.length (fun k v19 w' => ∃ (i : Nat) (ks : List Value), v19 = .int .i64 i ∧ i + k = qs.length ∧ Aside0 (SetAt Tryz.prog 29 w' (w.heap.size + 1) ks) ∧ Aside0 (Asked qs i ks) ∧ Aside0 (Below w.heap.size w w') ∧ Aside0 (w'.heap[w.heap.size]? = some (.cells (u8s (List.replicate 32 0)).toArray 29 (0, 0))))
  case atStart => exact ⟨0, [], rfl, by omega, ⟨HSt.out.1⟩, ⟨asked_none _⟩, ⟨HSt.out.2.1⟩, ⟨HSt.out.2.2⟩⟩
  case round =>
    clear HSt
    obtain ⟨i, ks, rfl, hik, HS, HA, HB, HZ⟩ := hrel
    cases gk with
    | zero =>
      have hd : decide (i < qs.length) = false := by simp; omega
      have hi : Aside0 (qs.length ≤ i) := ⟨by omega⟩
      clear hik
      go_wp2
      have HL0 := Aside0.mk (left_of_asked (rs := rs) HA.out hi.out)
      have HR0 := Aside0.mk (Kd.R_nil resK 33 wr w.heap.size (fun _ => True))
      clear HA
      go_loopg [28, 10] rs.length (fun k v28 v10 w' => ∃ (i : Nat) (ks : List Value), v28 = .int .i64 i ∧ i + k = rs.length ∧ Aside0 (SetAt Tryz.prog 29 w' (w.heap.size + 1) ks) ∧ Aside0 (Remn rs qs i ks) ∧ Aside0 (Below w.heap.size w w') ∧
        Aside0 (w'.heap[w.heap.size]? = some (.cells (u8s (List.replicate 32 0)).toArray 29 (0, 0))) ∧ Aside0 (resK.R 33 w' w.heap.size (fun _ => True) v10 (pickS (rs.take i) qs)))
      case atStart => exact ⟨0, ks, rfl, by omega, HS, HL0, HB, HZ, HR0⟩
      case round =>
        clear HS HL0 HB HZ HR0 hi
        obtain ⟨i2, ks2, rfl, hik2, HS, HL, HB, HZ, HR⟩ := hrel
        cases gk with
        | zero =>
          have hd2 : decide (i2 < rs.length) = false := by simp; omega
          have hi2 : Aside0 (rs.length ≤ i2) := ⟨by omega⟩
          clear hik2
          have HP := Aside0.mk (left_end HL.out hi2.out)
          have HR9 : Aside0 (resK.R 33 wr w.heap.size (fun _ => True) u10 (pickS rs qs)) := ⟨by have := HR.out; rwa [pick_all hi2.out] at this⟩
          have HK9 : Aside0 (∀ v ∈ ks2, ∃ a, v = idv a ∧ IdOk a) := ⟨fun v hv => by obtain ⟨a, e, ha, _⟩ := (HL.out v).1 hv; exact ⟨a, e, HOA.out a ha⟩⟩
          clear HR HL
          go_upto_region 17 with (fail)
          obtain ⟨wB, hwB⟩ : ∃ wB, wB = wr := ⟨_, rfl⟩
          subst hwB
          refine (show Code.wp Tryz.prog _ _ _ (wB.alloc (.cells (u8s (List.replicate 32 0)).toArray 29)) from ?_)
          obtain ⟨W, hW⟩ : ∃ W, W = wB.alloc (.cells (u8s (List.replicate 32 0)).toArray 29) := ⟨_, rfl⟩
          rw [← hW]
          have hBW : Below wB.heap.size wB W := hW ▸ below_alloc (Below.refl _ _) _
          have hsz : wB.heap.size < W.heap.size := by rw [hW]; simp
          have h13 : W.heap[wB.heap.size]? = some (.cells (u8s (List.replicate 32 0)).toArray 29 (0, 0)) := hW ▸ heap_alloc_new wB _
          have hbm : w.heap.size + 1 < wB.heap.size := HS.out.lt
          have HS1 := Aside0.mk (HS.out.below hBW)
          have HB1 := Aside0.mk (HB.out.trans (hBW.mono HB.out.size))
          have HZ1 := Aside0.mk ((hBW.block w.heap.size (by omega)).trans HZ.out)
          have HR1 := Aside0.mk (Kd.R_below HR9.out hBW)
          have H13 := Aside0.mk h13
          have Hsz := Aside0.mk hsz
          have Hbm := Aside0.mk hbm
          clear hW hBW hsz h13 hbm HS HB HZ HR9
          go_wp2_with (first
            | (at_range; refine wpList_range rfl _ rfl Tryz.underlying141 rfl HS1.out ?_; intro w3 hL3 hg3 hs3;
               have HL3 := Aside0.mk hL3; have Hg3 := Aside0.mk hg3; clear hL3 hg3 hs3)
            | go_in)
          simp only [Act.put, List.setIfInBounds_toArray, List.set]
          have H3 : Aside0 (Below w.heap.size w w3 ∧ w3.heap[w.heap.size]? = some (.cells (u8s (List.replicate 32 0)).toArray 29 (0, 0)) ∧ w3.heap[wB.heap.size]? = some (.cells (u8s (List.replicate 32 0)).toArray 29 (0, 0)) ∧ resK.R 33 w3 w.heap.size (fun _ => True) u10 (pickS rs qs)) := by
            refine ⟨HB1.out.grown Hg3.out HB1.out.size (fun k hk => by cases hk), (Hg3.out.block _ (by have := Hsz.out; have := Hbm.out; omega) (by simp)).trans HZ1.out, (Hg3.out.block _ Hsz.out (by simp)).trans H13.out, R_off rfl HR1.out Hg3.out (fun k _ e => by cases e)⟩
          have Hr0 : Aside0 (wB.heap.size < W.heap.size ∧ w.heap.size + 1 < wB.heap.size) := ⟨Hsz.out, Hbm.out⟩
          clear HS1 HB1 HZ1 HR1 H13 Hsz Hbm Hg3
          obtain ⟨A10, k10, e10⟩ := Kd.R_slice H3.out.2.2.2
          subst e10
          go_loopg [14] ks2.length (fun k v14 w' => ∃ (left : List Value) (first : Bool) (least : List Int), v14 = .bool first ∧ left.length ≤ k ∧ Aside0 (LoopAt Tryz.prog 29 w' (w.heap.size + 1) W.heap.size ks2 left) ∧ Aside0 (Sought ks2 left first least) ∧ Aside0 (IdOk least) ∧
            Aside0 (Below w.heap.size w w' ∧ w'.heap[w.heap.size]? = some (.cells (u8s (List.replicate 32 0)).toArray 29 (0, 0)) ∧ w'.heap[wB.heap.size]? = some (.cells (u8s least).toArray 29 (0, 0)) ∧ resK.R 33 w' w.heap.size (fun _ => True) (.slice A10 (pickS rs qs).length k10) (pickS rs qs)))
          case atStart => exact ⟨ks2, true, _, rfl, Nat.le_refl _, HL3, ⟨sought_start ks2⟩, ⟨z32_ok⟩, H3⟩
          case round =>
            clear HL3 H3
            obtain ⟨left, first, least, rfl, hlk, HL, HSo, Hlo, HI⟩ := hrel
            rcases HL.out.next 0 with ⟨hl0, hrun⟩ | ⟨key, w4, left1, hk, hrun, hL1, hlf, hll, hg, hszz, hent⟩
            · have Hrun := Aside0.mk hrun
              clear hrun
              go_wp2_with (first
                | (at_next; refine wpList_next rfl _ rfl rfl Hrun.out ?_)
                | go_in)
              have hld := (At.blk HI.out.2.2.1).id Hlo.out
              have hthere : wr.drew.there w.heap.size 0 32 := by
                intro j hj
                rw [Nat.zero_add]
                have hb : wr.drew.heap[w.heap.size]? = some (.cells (u8s (List.replicate 32 0)).toArray 29 (0, 0)) := HI.out.2.1
                refine ⟨?_, blk_frozen hb _⟩
                rw [blk_cell hb]
                simp [u8s]; omega
              have hi29 : (Tryz.prog.info? 29).map (·.size) = some (u8s least).length := by rw [u8s_length, Hlo.out.len]; exact info29
              have hlen29 : (u8s least).length = 32 := by rw [u8s_length, Hlo.out.len]
              have hone : ∀ v ∈ u8s least, v.oneCell' = true := u8s_one
              have hrange : wr.drew.rangeAt wB.heap.size 0 (u8s least) := (At.blk HI.out.2.2.1).range
              have hu29 := Tryz.underlying29
              have hap : wB.heap.size ≠ w.heap.size := by have := Hr0.out; omega
              go_region_held3 (fun w' => w'.rangeAt wB.heap.size 0 (u8s least) ∧ w'.there w.heap.size 0 32) (first | go_keep_ranges | exact ⟨hrange, hthere⟩ | exact ⟨World.rangeAt_setCells_apart hrange _ _ (.inl hap), World.there_setCells hthere _ _ _⟩) (fail)
              go_wp2
              have hz : wr.drew.heap[w.heap.size]? = some (.cells (u8s (List.replicate 32 0)).toArray 29 (0, 0)) := HI.out.2.1
              obtain ⟨s1, s2, _⟩ := setCells_blk wr.drew hz (cs := u8s least) (by simp [u8s_length, Hlo.out.len])
              have hb2 : Below w.heap.size w wr.drew := HI.out.1.drew
              (try simp only [Exit.inBlock, Exit.then])
              refine bodyPost_ret (results_tct Hlo.out rfl _ _ w.heap.size rfl s1) rfl ?_
              have hso := sought_end (hl0 ▸ HSo.out)
              refine ⟨⟨_, least, first, rfl, R_off rfl (Kd.R_drew HI.out.2.2.2) s2 (fun k hk e => ?_), Hlo.out, fun hf => ⟨fun a ha => (hso.1 hf).1 a ((HP.out a).2 ha), (hso.1 hf).2⟩, fun hf => ?_⟩, hb2.grown s2 hb2.size (fun k hk => by cases hk; omega)⟩
              · obtain ⟨cells, hc⟩ := Kd.R_typed HI.out.2.2.2 k hk
                cases e
                rw [HI.out.2.1] at hc
                cases hc
              · have hL := hso.2 hf
                exact ⟨(HP.out least).1 hL.1, fun b hb => hL.2 b ((HP.out b).2 hb)⟩
            · cases gk with
              | zero =>
                have := List.length_pos_of_mem hk
                omega
              | succ k =>
                obtain ⟨a, ea, hao⟩ := HK9.out key (HL.out.sub key hk)
                subst ea
                have Hrun := Aside0.mk hrun
                have Hent := Aside0.mk hent
                have Hk : Aside0 (idv a ∈ ks2) := ⟨HL.out.sub _ hk⟩
                have Hlf := Aside0.mk hlf
                have Hao := Aside0.mk hao
                have HL1 := Aside0.mk hL1
                have Hll : left1.length ≤ k := by omega
                have hb13 : wB.heap.size < wr.heap.size := blk_lt HI.out.2.2.1
                have hbz : w.heap.size < wr.heap.size := blk_lt HI.out.2.1
                have hr0 : W.heap.size < wr.heap.size := HL.out.lt
                have HI1 : Aside0 (Below w.heap.size w w4 ∧ w4.heap[w.heap.size]? = some (.cells (u8s (List.replicate 32 0)).toArray 29 (0, 0)) ∧ w4.heap[wB.heap.size]? = some (.cells (u8s least).toArray 29 (0, 0)) ∧ resK.R 33 w4 w.heap.size (fun _ => True) (.slice A10 (pickS rs qs).length k10) (pickS rs qs)) := by
                  have q1 := Hr0.out
                  refine ⟨HI.out.1.grown hg HI.out.1.size (fun k hk => by cases hk; omega), (hg.block _ hbz (by simp; omega)).trans HI.out.2.1, (hg.block _ hb13 (by simp; omega)).trans HI.out.2.2.1, R_off rfl HI.out.2.2.2 hg (fun k hk e => ?_)⟩
                  obtain ⟨es, clock, since, seen, c0, _, _, hit, _⟩ := HL.out
                  obtain ⟨cells, hc⟩ := Kd.R_typed HI.out.2.2.2 k hk
                  cases e
                  rw [hc] at hit
                  cases hit
                have Hsz4 : Aside0 (wB.heap.size < w4.heap.size ∧ w.heap.size < w4.heap.size) := ⟨by rw [hszz]; exact ⟨hb13, hbz⟩⟩
                clear hrun hent hk hlf hao hL1 hll hg hszz hb13 hbz hr0 HL HI hlk
                go_upto_region 20 with (first
                  | (at_next; refine wpList_next rfl _ rfl rfl Hrun.out ?_)
                  | (refine wpList_entry rfl _ rfl rfl Hent.out ?_)
                  | (refine store29_new rfl rfl _ _ rfl _ rfl a Hao.out rfl rfl ?_)
                  | go_in)
                obtain ⟨W2, hW2⟩ : ∃ W2, W2 = w4.alloc (.cells (u8s a).toArray 29) := ⟨_, rfl⟩
                rw [← hW2]
                have hBW2 : Below w4.heap.size w4 W2 := hW2 ▸ below_alloc (Below.refl _ _) _
                have hn : At W2 ⟨w4.heap.size, 0, none⟩ (u8s a) := hW2 ▸ At.new w4 (u8s a) 29
                have h13 : W2.heap[wB.heap.size]? = some (.cells (u8s least).toArray 29 (0, 0)) := (hBW2.block _ Hsz4.out.1).trans HI1.out.2.2.1
                have HL2 := Aside0.mk (HL1.out.below hBW2)
                have HI2 : Aside0 (Below w.heap.size w W2 ∧ W2.heap[w.heap.size]? = some (.cells (u8s (List.replicate 32 0)).toArray 29 (0, 0)) ∧ W2.heap[wB.heap.size]? = some (.cells (u8s least).toArray 29 (0, 0)) ∧ resK.R 33 W2 w.heap.size (fun _ => True) (.slice A10 (pickS rs qs).length k10) (pickS rs qs)) :=
                  ⟨HI1.out.1.trans (hBW2.mono HI1.out.1.size), (hBW2.block _ Hsz4.out.2).trans HI1.out.2.1, h13, Kd.R_below HI1.out.2.2.2 hBW2⟩
                have HKO : Aside0 (∀ b, idv b ∈ ks2 → IdOk b) := ⟨fun b hb => by obtain ⟨c, e, hc⟩ := HK9.out _ hb; rw [idv_inj e]; exact hc⟩
                have Hn := Aside0.mk hn
                have hsz2 : Aside0 (wB.heap.size < W2.heap.size) := ⟨blk_lt h13⟩
                -- behind the store into least
                have stored : ∀ w5 w6 : World, Below W2.heap.size W2 w5 → w6.heap[wB.heap.size]? = some (.cells (u8s a).toArray 29 (0, 0)) → w5.grownBy w6 (some wB.heap.size) →
                    LoopAt Tryz.prog 29 w6 (w.heap.size + 1) W.heap.size ks2 left1 ∧ Below w.heap.size w w6 ∧ w6.heap[w.heap.size]? = some (.cells (u8s (List.replicate 32 0)).toArray 29 (0, 0)) ∧ w6.heap[wB.heap.size]? = some (.cells (u8s a).toArray 29 (0, 0)) ∧ resK.R 33 w6 w.heap.size (fun _ => True) (.slice A10 (pickS rs qs).length k10) (pickS rs qs) := by
                  intro w5 w6 hb5 s1 s2
                  have q1 := Hr0.out
                  have l5 := HL2.out.below hb5
                  have z5 := (hb5.block _ (blk_lt HI2.out.2.1)).trans HI2.out.2.1
                  have b5 := (hb5.block _ (blk_lt HI2.out.2.2.1)).trans HI2.out.2.2.1
                  have r5 := Kd.R_below HI2.out.2.2.2 hb5
                  refine ⟨l5.move (s2.block _ l5.set.lt (by simp; omega)) (s2.block _ l5.lt (by simp; omega)), (HI2.out.1.trans (hb5.mono HI2.out.1.size)).grown s2 (Nat.le_trans HI2.out.1.size hb5.size) (fun k hk => by cases hk; omega), (s2.block _ (blk_lt z5) (by simp; omega)).trans z5, s1, R_off rfl r5 s2 (fun k hk e => ?_)⟩
                  obtain ⟨cells, hc⟩ := Kd.R_typed r5 k hk
                  cases e
                  rw [b5] at hc
                  cases hc
                have HSt := Aside0.mk stored
                clear hW2 hBW2 hn h13 stored HI1 HL1 Hrun Hent
                cases first with
                | true =>
                  have hld1 := Hn.out.id Hao.out
                  go_wp2_with (first
                    | (refine wpList_store_blk rfl rfl 29 _ _ rfl HI2.out.2.2.1 (u8s a) rfl rfl (by simp [u8s_length, Hao.out.len, Hlo.out.len]) (by rw [u8s_length, Hao.out.len]; exact info29) u8s_one ?_; intro w6 s1 s2 s3)
                    | go_in)
                  go_roundg k
                  case measure => omega
                  case rel =>
                    obtain ⟨t1, t2⟩ := HSt.out W2 w6 (Below.refl _ _) s1 s2
                    refine ⟨left1, false, a, rfl, Hll, ⟨t1⟩, ⟨?_⟩, Hao, ⟨t2⟩⟩
                    have := sought_step HKO.out Hk.out HSo.out Hlf.out
                    rwa [if_pos (.inl rfl)] at this
                | false =>
                  have hld1 := Hn.out.id Hao.out
                  have hld2 := (At.blk HI2.out.2.2.1).id Hlo.out
                  by_cases hc : cmp a least < 0
                  · have Hc := Aside0.mk hc
                    go_wp2_with (first
                      | (go_at_call 75; refine (digest_compare _ a least Hao.out Hlo.out).mono ?_; rintro e w5 ⟨rfl, hb5⟩; have hld5 := (Hn.out.below hb5).id Hao.out; have h135 := (hb5.block _ (blk_lt HI2.out.2.2.1)).trans HI2.out.2.2.1)
                      | (refine wpList_store_blk rfl rfl 29 _ _ rfl h135 (u8s a) rfl rfl (by simp [u8s_length, Hao.out.len, Hlo.out.len]) (by rw [u8s_length, Hao.out.len]; exact info29) u8s_one ?_; intro w6 s1 s2 s3)
                      | go_in)
                    go_roundg k
                    case measure => omega
                    case rel =>
                      obtain ⟨t1, t2⟩ := HSt.out w5 w6 hb5 s1 s2
                      refine ⟨left1, false, a, rfl, Hll, ⟨t1⟩, ⟨?_⟩, Hao, ⟨t2⟩⟩
                      have := sought_step HKO.out Hk.out HSo.out Hlf.out
                      rwa [if_pos (.inr Hc.out)] at this
                  · have hc1 : decide (cmp a least < 0) = false := by simpa using hc
                    have Hc := Aside0.mk hc
                    clear hc
                    go_wp2_with (first
                      | (go_at_call 75; refine (digest_compare _ a least Hao.out Hlo.out).mono ?_; rintro e w5 ⟨rfl, hb5⟩)
                      | go_in)
                    go_roundg k
                    case measure => omega
                    case rel =>
                      refine ⟨left1, false, least, rfl, Hll, ⟨HL2.out.below hb5⟩, ⟨?_⟩, Hlo, ⟨HI2.out.1.trans (hb5.mono HI2.out.1.size), (hb5.block _ (blk_lt HI2.out.2.1)).trans HI2.out.2.1, (hb5.block _ (blk_lt HI2.out.2.2.1)).trans HI2.out.2.2.1, Kd.R_below HI2.out.2.2.2 hb5⟩⟩
                      have := sought_step HKO.out Hk.out HSo.out Hlf.out
                      rwa [if_neg (by simp; exact Hc.out)] at this
        | succ k =>
          have hi2 : i2 < rs.length := by omega
          have hi3 : (i2 : Int) < (rs.length : Int) := by omega
          obtain ⟨ad, r, e1, hr, hro, hat⟩ := res_at (Kd.C_below HC.out HB.out) i2 hi2
          subst e1
          have hld := hat.res hro
          go_upto_region 11 with (first | (refine store33_new rfl rfl _ _ rfl r hro rfl rfl ?_) | go_in)
          obtain ⟨W, hW⟩ : ∃ W, W = wr.alloc (.cells (resC r).toArray 33) := ⟨_, rfl⟩
          have hn : At W ⟨wr.heap.size, 0, none⟩ (resC r) := hW ▸ At.new wr (resC r) 33
          have hBW : Below wr.heap.size wr W := hW ▸ below_alloc (Below.refl _ _) _
          have hsz : wr.heap.size < W.heap.size := by rw [hW]; simp
          rw [← hW]
          have hld2 : rowOf W ⟨wr.heap.size, 0, none⟩ 32 = some (u8s r.act) := (res_act hn).id hro.act
          have hld3 : rowOf W ⟨wr.heap.size, 0, none⟩ 65 = some (resC r) := hn.res hro
          obtain ⟨kl, hkl⟩ := keyOf_id hro.act
          have hbm : w.heap.size + 1 < wr.heap.size := HS.out.lt
          have HS1 := Aside0.mk (HS.out.below hBW)
          have HB1 := Aside0.mk (HB.out.trans (hBW.mono HB.out.size))
          have HZ1 := Aside0.mk ((hBW.block w.heap.size (by omega)).trans HZ.out)
          have HR1 := Aside0.mk (Kd.R_below HR.out hBW)
          have HLk := Aside0.mk (left_look HT.out HO.out HL.out hr)
          have Hr := Aside0.mk hr
          have Hro := Aside0.mk hro
          have Hkl := Aside0.mk hkl
          have Hbm := Aside0.mk hbm
          have Hn := Aside0.mk hn
          have Hsz := Aside0.mk hsz
          clear hr hro hkl hbm hat hn hW hBW hld hsz
          by_cases hin : r.act ∈ qs
          · have Hin := Aside0.mk hin
            clear hin
            obtain ⟨z, hz1, hz2⟩ := info33full
            have Hz := Aside0.mk (And.intro hz1 hz2)
            clear hz1 hz2
            have hlen : Aside0 ((pickS (rs.take i2) qs).length + 1 ≤ 33) := ⟨by have h1 : (pickS (rs.take i2) qs).length ≤ (rs.take i2).length := pick_length; have h2 := HT.out.most; rw [List.length_take] at h1; omega⟩
            go_wp2_with (first
              | (at_lookup; refine wpList_look rfl _ _ rfl K29 Tryz.underlying141 zero4 rfl HS1.out (idv r.act) kl rfl Hkl.out true (by rw [HLk.out]; simp [Hin.out]) ?_)
              | (refine wpList_build33 rfl _ rfl r Hro.out rfl ?_)
              | (at_builtin; refine Kd.R_append resK (w0 := w) w.heap.size rfl (.tmp 36) (.tmp 38) 22 33 z 72 rfl Tryz.underlying22 Hz.out.1 Hz.out.2 (by decide) (by decide) _ (pickS (rs.take i2) qs) r (resC r) (fun _ => True) (fun _ => False) rfl rfl (res_M Hro.out) (fun _ h => h.elim) (fun _ _ => trivial) HR1.out HB1.out HB1.out.size (by have := hlen.out; omega) ?_;
                 intro v3 w3 h1 h2 h3 h4;
                 have HS3 := Aside0.mk (HS1.out.grown h3 (set_ne HS1.out HR1.out));
                 have HZ3 := Aside0.mk ((h3.block _ (by have := Hbm.out; have := Hsz.out; omega) (fun e => by obtain ⟨cs, hcs⟩ := Kd.R_typed HR1.out _ e.symm; rw [HZ1.out] at hcs; cases hcs)).trans HZ1.out);
                 have hld4 : rowOf w3 ⟨wr.heap.size, 0, none⟩ 32 = some (u8s r.act) := (res_act (Hn.out.grown Hsz.out h3 (fun e => absurd (Kd.R_lt HR.out _ e.symm) (Nat.lt_irrefl _)))).id Hro.out.act)
              | (at_delete; refine wpList_drop rfl _ _ 29 rfl K29 Tryz.underlying141 rfl HS3.out (idv r.act) kl rfl Hkl.out ?_; intro w4 ks4 d1 d2 d3 d4)
              | go_in)
            go_roundg k
            case measure => omega
            case rel =>
              have hS4 : some (w.heap.size + 1) ≠ v3.ownBlock := set_ne HS3.out h1
              refine ⟨i2 + 1, ks4, by go_num, by omega, ⟨d1⟩, ⟨left_in HL.out Hr.out d2⟩, ⟨h2.grown d3 h2.size (fun k hk => by cases hk; omega)⟩, ⟨(d3.block _ (by have := HS3.out.lt; omega) (by simp)).trans HZ3.out⟩, ⟨?_⟩⟩
              rw [pick_in Hr.out Hin.out]
              exact R_off rfl h1 d3 (fun k hk e => hS4 (by rw [hk, e]))
          · have Hin := Aside0.mk hin
            clear hin
            go_wp2_with (first
              | (at_lookup; refine wpList_look rfl _ _ rfl K29 Tryz.underlying141 zero4 rfl HS1.out (idv r.act) kl rfl Hkl.out false (by rw [HLk.out]; simp [Hin.out]) ?_)
              | go_in)
            go_roundg k
            case measure => omega
            case rel => exact ⟨i2 + 1, ks2, by go_num, by omega, HS1, ⟨left_out HL.out Hr.out Hin.out⟩, HB1, HZ1, ⟨by rw [pick_out Hr.out Hin.out]; exact HR1.out⟩⟩
    | succ k =>
      have hi : i < qs.length := by omega
      have hi1 : (i : Int) < (qs.length : Int) := by omega
      obtain ⟨ad, a, e1, ha, hia, hat⟩ := id_at (Kd.C_below HD.out HB.out) i hi
      subst e1
      have hld := hat.id hia
      have hld2 : rowOf (wr.alloc (.cells (u8s a).toArray 29)) ⟨wr.heap.size, 0, none⟩ 32 = some (u8s a) := (At.new wr (u8s a) 29).id hia
      obtain ⟨kl, hkl⟩ := keyOf_id hia
      have hbm : w.heap.size + 1 < wr.heap.size := HS.out.lt
      have HS1 := Aside0.mk (HS.out.below (below_alloc (Below.refl _ _) (.cells (u8s a).toArray 29)))
      have HB1 := Aside0.mk (HB.out.trans ((below_alloc (Below.refl _ _) (.cells (u8s a).toArray 29)).mono HB.out.size))
      have HZ1 := Aside0.mk ((heap_alloc_old wr (.cells (u8s a).toArray 29) (by omega : w.heap.size < wr.heap.size)).trans HZ.out)
      have Ha := Aside0.mk ha
      have Hia := Aside0.mk hia
      have Hkl := Aside0.mk hkl
      have Hbm := Aside0.mk hbm
      clear ha hia hkl hbm hat
      go_wp2_with (first
        | (refine store29_new rfl rfl _ _ rfl _ rfl a Hia.out rfl rfl ?_)
        | (at_mapUpdate; refine wpList_put rfl _ _ _ rfl K29 Tryz.underlying141 rfl HS1.out (idv a) kl rfl rfl Hkl.out ?_; intro w2 ks2 h1 h2 h3 h4)
        | go_in)
      go_roundg k
      case measure => omega
      case rel => exact ⟨i + 1, ks2, by go_num, by omega, ⟨h1⟩, ⟨asked_step HA.out Ha.out h2⟩, ⟨HB1.out.grown h3 HB1.out.size (fun k hk => by cases hk; omega)⟩, ⟨(h3.block _ (by have := Hbm.out; simp; omega) (by simp)).trans HZ1.out⟩⟩
end Go.Proofs.YtdekmeanlcpenaaGreatDoor.Pick
