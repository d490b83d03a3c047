import Derived.Test.YtdekmeanlcpenaaGreatDoorCg8
import Derived.Test.YtdekmeanlcpenaaGreatDoorCg10
import Derived.Test.YtdekmeanlcpenaaGreatDoorCg5
import Derived.Test.YtdekmeanlcpenaaGreatDoorCg4
import Derived.Test.YtdekmeanlcpenaaGreatDoorCg1
import Derived.ArgAppend
import Derived.Test.YtdekmeanlcpenaaGreatDoorWMore
import Derived.Test.YtdekmeanlcpenaaGreatDoorWWords
import Derived.BigQuiet
import Derived.OwnWalk
import Derived.Test.YtdekmeanlcpenaaGreatDoorProg
import Derived.Deep.Slices
import Derived.ChangeSame
import Derived.SizedLaws
import Derived.OpenShut
import Derived.Test.YtdekmeanlcpenaaGreatDoorCg6
import Derived.Test.YtdekmeanlcpenaaGreatDoorCg9
set_option linter.unusedSimpArgs false
set_option linter.unusedVariables false
namespace Go.Proofs.YtdekmeanlcpenaaGreatDoor.Block
end Go.Proofs.YtdekmeanlcpenaaGreatDoor.Block
namespace Go.Proofs.YtdekmeanlcpenaaGreatDoor.Codec
end Go.Proofs.YtdekmeanlcpenaaGreatDoor.Codec
namespace Go.Proofs.YtdekmeanlcpenaaGreatDoor.Err
end Go.Proofs.YtdekmeanlcpenaaGreatDoor.Err
namespace Go.Proofs.YtdekmeanlcpenaaGreatDoor.Mid
end Go.Proofs.YtdekmeanlcpenaaGreatDoor.Mid
namespace Go.Proofs.YtdekmeanlcpenaaGreatDoor.Pick
end Go.Proofs.YtdekmeanlcpenaaGreatDoor.Pick
namespace Go.Proofs.YtdekmeanlcpenaaGreatDoor.Codec
open Go.RowKit Go.Proofs.YtdekmeanlcpenaaGreatDoorW.PrintWords Go.Proofs.YtdekmeanlcpenaaGreatDoor.Mid Go.Proofs.YtdekmeanlcpenaaGreatDoor.Pick Go.Proofs.YtdekmeanlcpenaaGreatDoor.Block
set_option maxHeartbeats 4000000
set_option maxRecDepth 100000
section
variable {P : Program} {ops : Array Oper} {Q : Exit → Act → World → Prop} {md : Region.Mode} {S S' : World → Prop}
theorem wpAnyH_weak (hS : ∀ w, S' w → S w) : ∀ (fuel : Nat) (listed : Array Bool) (a : Act) (w : World), wpAnyH P md ops Q S' fuel listed a w → wpAnyH P md ops Q S fuel listed a w
  | 0, _, _, _, h => h
  | fuel + 1, _, _, _, h => ⟨h.1, fun i hi => wpOp_mono (fun a' w' h' => ⟨hS w' h'.1, wpAnyH_weak hS fuel _ a' w' h'.2⟩) (h.2 i hi)⟩
/-- What comes behind the region is shown once, for all its orders. -/
theorem wpAnyH_rest {G : Nat → Option Addr → Nat → World → Prop} {A : Nat → Option Addr → Nat → Act} {fuel : Nat} {listed : Array Bool} {a : Act} {w : World} (h : (∀ q x c w, G q x c w → Q .normal (A q x c) w) → wpAnyH P md ops Q S fuel listed a w)
    (rest : ∀ q x c w, G q x c w → Q .normal (A q x c) w) : wpAnyH P md ops Q S fuel listed a w := h rest
/-- Two may come up. -/
theorem heldTwo {i j : Nat} {o o' : Oper} {fuel : Nat} {listed : Array Bool} {a : Act} {w : World} (hr : Region.ready md ops listed = [i, j]) (hi : ops[i]? = some o) (hj : ops[j]? = some o') (hw : Region.wanted o (yielded ops a.tmps) = true) (hw' : Region.wanted o' (yielded ops a.tmps) = true)
    (h : o.wp P a w (fun a' w' => S w' ∧ wpAnyH P md ops Q S fuel (listed.setIfInBounds i true) a' w') Q) (h' : o'.wp P a w (fun a' w' => S w' ∧ wpAnyH P md ops Q S fuel (listed.setIfInBounds j true) a' w') Q) : wpAnyH P md ops Q S (fuel + 1) listed a w := by
  refine ⟨fun h0 => (by rw [hr] at h0; cases h0), fun k hk => ?_⟩
  rw [hr] at hk
  rcases List.mem_cons.1 hk with rfl | hk
  · unfold wpOp
    simp only [hi, hw, if_true]
    exact .inl h
  · rw [List.mem_singleton] at hk
    subst hk
    unfold wpOp
    simp only [hj, hw', if_true]
    exact .inl h'
end
theorem R_lowE {α : Type} {d : Kd α} {e : TypeId} {W W1 : World} {b b0 : Nat} {v : Value} {xs : List α} (hE : d.E = []) (h : d.R e W b (fun _ => True) v xs) (hl : ∀ k, v.ownBlock = some k → k < b0) (hb : Below b0 W W1) : d.R e W1 b (fun _ => True) v xs :=
  Kd.R_mono (Kd.R_move (ok := fun k => some k = v.ownBlock) (Kd.R_tight hE h) (fun k hk => hb.block k (hl k hk.symm))) (fun _ _ => trivial)
theorem text_data (s : RS) (n : Nat) : (s.text n).2.data = s.data := by rw [RS.text]; split <;> (try split) <;> (try split) <;> (try split) <;> rfl
theorem num_data (s : RS) : s.num.2.data = s.data := by rw [RS.num]; split <;> (try split) <;> rfl
theorem und9 : Tryz.prog.underlying 9 = some .string := by kernel_rfl
theorem text_byt {s : RS} (h : Byt s.data) (n : Nat) : Byt (s.text n).1 ∧ (s.text n).1.length ≤ n := by
  rw [RS.text]
  split
  · exact ⟨byt_nil, by simp⟩
  · split
    · exact ⟨byt_nil, by simp⟩
    · split
      · exact ⟨byt_nil, by simp⟩
      · split
        · exact ⟨byt_nil, by simp⟩
        · exact ⟨byt_take (byt_drop (byt_drop h _) _) _, by rw [List.length_take]; omega⟩
theorem parse_yes (W : World) (A : Option Addr) (c : Nat) (l : List Int) (hC : Kd.C (Kd.int .u8) W A l.length l) (hb : Byt l) (hl : l.length ≤ 140737488351232) {rs : List Res} (hP : Parsed l rs) :
    Calls Tryz.prog 111 #[.slice A l.length c] W fun e w' => ∃ A1 c1, e = .returned (.tuple #[.slice A1 rs.length c1, .int .i64 0]) ∧ Kd.R resK 33 w' W.heap.size (fun _ => True) (.slice A1 rs.length c1) rs ∧ (∀ r ∈ rs, ResOk r) ∧ Below W.heap.size W w' :=
  (parse_any W A c l hC hb hl).mono fun e w' h => by
    cases h with
    | yes qs A1 c1 hQ ok he hR hB =>
      obtain rfl := hP.one hQ
      exact ⟨A1, c1, he, hR, ok, hB⟩
    | no hn _ _ => exact absurd hP (hn rs)
theorem parse_no (W : World) (A : Option Addr) (c : Nat) (l : List Int) (hC : Kd.C (Kd.int .u8) W A l.length l) (hb : Byt l) (hl : l.length ≤ 140737488351232) (hP : ¬ ∃ rs, Parsed l rs) :
    Calls Tryz.prog 111 #[.slice A l.length c] W fun e w' => e = .returned (.tuple #[.slice none 0 0, .int .i64 80]) ∧ Below W.heap.size W w' :=
  (parse_any W A c l hC hb hl).mono fun e w' h => by
    cases h with
    | yes qs A1 c1 hQ ok he hR hB => exact absurd ⟨qs, hQ⟩ hP
    | no _ he hB => exact ⟨he, hB⟩
theorem str_bytes {x : List Int} (h : Byt x) : sBytes (strOfNums x) = x := by
  rw [sBytes, strOfNums_data, List.map_map]
  conv => rhs; rw [← List.map_id x]
  apply List.map_congr_left
  intro y hy
  have := h y hy
  simp
  omega
/-- A journal whose form was read is what was read. -/
theorem got_is {j : Jn} {x1 x3 x4 : Int} {x2 x5 x8 : List Int} {n : Nat} {x7 : List (List Int)} {s : RS} {t : List Int} (V : JnV j) (K : JnOk j) (G : GotEnc j x1 x2 x3 x4 x5 n x7 x8 s t) {rs qs : List Res} (hb : Byt x2) (h5 : Parsed x5 rs) (h8 : Parsed x8 qs) : j = ⟨strOfNums x2, x3, x4, rs, x7, qs⟩ := by
  have r5 := parsed_tab K.res V.res
  rw [← G.res] at r5
  have r8 := parsed_tab K.tab V.tab
  rw [← G.tab] at r8
  obtain rfl := h5.one r5
  obtain rfl := h8.one r8
  have e : strOfNums x2 = j.name := sBytes_inj ((str_bytes hb).trans G.name)
  rw [e, G.ent, G.idx, G.need]
theorem info29z : ((Tryz.prog.info? 29).bind (·.zero)).map (·.cells.size) = some 32 := by kernel_rfl
theorem info29b : (Tryz.prog.info? 29).map (fun i => (i.size, i.bytes)) = some (32, 32) := by kernel_rfl
theorem info29x : ∃ z : Value, (Tryz.prog.info? 29).map (fun i => (i.zero, i.size, i.bytes)) = some (some z, 32, 32) ∧ z.cells.size = 32 := by
  have h1 := info29z
  have h2 := info29b
  cases h : Tryz.prog.info? 29 with
  | none => rw [h] at h2; cases h2
  | some i =>
    rw [h] at h1 h2
    simp only [Option.bind_some, Option.map_some, Option.some.injEq, Prod.mk.injEq] at h1 h2
    cases hz : i.zero with
    | none => rw [hz] at h1; cases h1
    | some z =>
      rw [hz] at h1
      simp only [Option.map_some, Option.some.injEq] at h1
      exact ⟨z, by simp only [Option.map_some, hz, h2.1, h2.2], h1⟩
theorem wpList_build29 {ops : Array Oper} {rest : List Oper} {o : Oper} {a : Act} {w : World} {Q : Exit → Act → World → Prop} (hg : o.guard = none) (x : Operand) (ho : o.op = .buildSlice 23 1 #[(0, x)]) (r : List Int) (hr : IdOk r) (hx : a.eval x = .agg (u8s r).toArray)
    (h : wpList Tryz.prog ops Q rest (a.put o.dst (.slice (some ⟨w.heap.size, 0, none⟩) 1 1)) (w.alloc (.cells (u8s r).toArray 29))) : wpList Tryz.prog ops Q (o :: rest) a w := by
  obtain ⟨z, h1, h2⟩ := info29x
  refine wpList_buildRows hg 1 _ ho [u8s r] Tryz.underlying23 ⟨z, _, h1, h2⟩ (by simp [hx]) (fun v hv => by rw [List.mem_singleton.1 hv, u8s_length, hr.len]) rfl (by decide) (by decide) ?_
  simpa using h
theorem below_grown {b q : Nat} {w w1 : World} (hG : w.grownBy w1 (some q)) (hq : b ≤ q) (hb : b ≤ w.heap.size) : Below b w w1 := (Below.refl _ _).grown hG hb (fun k hk => by cases hk; exact hq)
theorem needS_len : ∀ (k : Nat) (s : RS), (needS k s).1.length = k
  | 0, _ => rfl
  | k + 1, s => by rw [needS, List.length_cons, needS_len k]
theorem needS_data : ∀ (k : Nat) (s : RS), (needS k s).2.data = s.data
  | 0, _ => rfl
  | k + 1, s => by rw [needS]; simp only; rw [needS_data k, raw_data]
theorem parse_w (W : World) (A : Option Addr) (c : Nat) (l : List Int) (hC : Kd.C (Kd.int .u8) W A l.length l) (hb : Byt l) (hl : l.length ≤ 140737488351232) :
    Calls Tryz.prog 111 #[.slice A l.length c] W fun e w' => ∃ A1 n1 c1 m, e = .returned (.tuple #[.slice A1 n1 c1, .int .i64 m]) ∧ Below W.heap.size W w' :=
  (parse_any W A c l hC hb hl).mono fun e w' h => by
    cases h with
    | yes qs A1 c1 hQ ok he hR hB => exact ⟨A1, _, c1, _, he, hB⟩
    | no _ he hB => exact ⟨_, _, _, _, he, hB⟩
theorem needS_ok : ∀ (k : Nat) (s : RS) (xs : List (List Int)) (s1 : RS), needS k s = (xs, s1) → Byt s.data → ∀ x ∈ xs, IdOk x
  | 0, s, xs, s1, h, _, x, hx => by rw [needS] at h; injection h with h1 h2; rw [← h1] at hx; cases hx
  | k + 1, s, xs, s1, h, hb, x, hx => by
    rw [needS] at h
    injection h with h1 h2
    rw [← h1] at hx
    rcases List.mem_cons.1 hx with rfl | hx
    · have := raw_byt hb 32
      exact pad32_ok this.2 this.1
    · exact needS_ok k (s.raw 32).2 _ _ rfl (by rw [raw_data]; exact hb) x hx
/-- A journal's cells. -/
def jV (name : ByteArray) (e i : Int) (v3 v4 v5 : Value) : List Value := [.string name, .int .i64 e, .int .i64 i, v3, v4, v5]
def nilS : Value := .slice none 0 0
/-- Reading a journal: the reader, the variable of the answer, so far. -/
structure JP (W : World) (g k : Nat) (D : Option Addr) (q2 : Nat) (w : World) (s : RS) : Prop where
  rd : Rd w g D k s
  out : w.heap[q2]? = some (.cells (jV .empty 0 0 nilS nilS nilS).toArray 60 (0, 0))
  bel : Below W.heap.size W w
  old : W.heap.size ≤ q2
  lt2 : q2 < g
  dlt : 0 < s.data.length → ∀ ad, D = some ad → q2 < ad.block
/-- .. and the journal's own variable. -/
structure JS (W : World) (g k : Nat) (D : Option Addr) (q2 q5 : Nat) (w : World) (s : RS) (cs : List Value) : Prop where
  jp : JP W g k D q2 w s
  blk : w.heap[q5]? = some (.cells cs.toArray 60 (0, 0))
  lt : g < q5
  dlt : 0 < s.data.length → ∀ ad, D = some ad → ad.block < q5
section
variable {W w w1 : World} {g k q2 q5 : Nat} {D : Option Addr} {s s1 : RS} {cs ds : List Value}
theorem JP.below (h : JP W g k D q2 w s) (hb : Below w.heap.size w w1) : JP W g k D q2 w1 s :=
  ⟨h.rd.below hb, blk_below h.out hb, h.bel.trans (hb.mono h.bel.size), h.old, h.lt2, h.dlt⟩
theorem JP.step (h : JP W g k D q2 w s) (hr : Rd w1 g D k s1) (hd : s1.data = s.data) (hG : w.grownBy w1 (some g)) : JP W g k D q2 w1 s1 :=
  ⟨hr, blk_grown h.out hG (fun e => absurd (Option.some.inj e) (by have := h.lt2; omega)), h.bel.grown hG h.bel.size (fun k hk => by cases hk; have := h.old; have := h.lt2; omega), h.old, h.lt2, by rw [hd]; exact h.dlt⟩
theorem JP.low {b : Nat} (h : JP W g k D q2 w s) (hg : g < b) (hD : 0 < s.data.length → ∀ ad, D = some ad → ad.block < b) (hb : Below b w w1) : JP W g k D q2 w1 s :=
  ⟨h.rd.low hg hD hb, (hb.block q2 (by have := h.lt2; omega)).trans h.out, h.bel.trans (hb.mono (by have := h.old; have := h.lt2; omega)), h.old, h.lt2, h.dlt⟩
theorem JP.new (h : JP W g k D q2 w s) : JS W g k D q2 w.heap.size (w.alloc (.cells (jV .empty 0 0 nilS nilS nilS).toArray 60)) s (jV .empty 0 0 nilS nilS nilS) :=
  ⟨h.below (below_alloc (Below.refl _ _) _), heap_alloc_new w _, h.rd.lt, h.rd.dlt⟩
theorem JS.below (h : JS W g k D q2 q5 w s cs) (hb : Below w.heap.size w w1) : JS W g k D q2 q5 w1 s cs := ⟨h.jp.below hb, blk_below h.blk hb, h.lt, h.dlt⟩
theorem JS.step (h : JS W g k D q2 q5 w s cs) (hr : Rd w1 g D k s1) (hd : s1.data = s.data) (hG : w.grownBy w1 (some g)) : JS W g k D q2 q5 w1 s1 cs :=
  ⟨h.jp.step hr hd hG, blk_grown h.blk hG (fun e => absurd (Option.some.inj e) (by have := h.lt; omega)), h.lt, by rw [hd]; exact h.dlt⟩
theorem JS.low (h : JS W g k D q2 q5 w s cs) {b : Nat} (hq : q5 < b) (hb : Below b w w1) : JS W g k D q2 q5 w1 s cs :=
  ⟨h.jp.low (by have := h.lt; omega) (fun h0 ad he => by have := h.dlt h0 ad he; omega) hb, (hb.block q5 hq).trans h.blk, h.lt, h.dlt⟩
theorem JS.put (h : JS W g k D q2 q5 w s cs) (hb : w1.heap[q5]? = some (.cells ds.toArray 60 (0, 0))) (hG : w.grownBy w1 (some q5)) : JS W g k D q2 q5 w1 s ds :=
  ⟨⟨h.jp.rd.beside (by have := h.lt; omega) (fun h0 ad he => by have := h.dlt h0 ad he; omega) hG, blk_grown h.jp.out hG (fun e => absurd (Option.some.inj e) (by have := h.lt; have := h.jp.lt2; omega)), h.jp.bel.grown hG h.jp.bel.size (fun k hk => by cases hk; have := h.lt; have := h.jp.lt2; have := h.jp.old; omega), h.jp.old, h.jp.lt2, h.jp.dlt⟩, hb, h.lt, h.dlt⟩
theorem JS.lt5 (h : JS W g k D q2 q5 w s cs) : q5 < w.heap.size := blk_lt h.blk
end
theorem results_ct60 {fn : Func} {p q : Tmp} {cs : List Value} (hc : cs.length = 6) (h : fn.results = #[.cell q 60, .tmp p]) (tmps : Array Value) (w : World) (g : Nat)
    (hp : tmps.getD q undef = .pointer (some ⟨g, 0, none⟩)) (hg : w.heap[g]? = some (.cells cs.toArray 60 (0, 0))) :
    (results fn tmps).run Tryz.prog w = .ok (.tuple #[.agg cs.toArray, tmps.getD p undef]) w := by
  have hp' : tmps[q]?.getD undef = .pointer (some ⟨g, 0, none⟩) := by simpa using hp
  have hl := run_loadVar_at (P := Tryz.prog) w ⟨g, 0, none⟩ 60 cs _ (At.blk hg) Tryz.underlying60 rfl (by rw [hc]; exact info60)
  simp [results, h, hp', asAddr, hl]
theorem jC_one {j : Jn} {A1 A2 A3 : Option Addr} {c1 c2 c3 : Nat} : ∀ v ∈ jC j A1 c1 A2 c2 A3 c3, v.oneCell' = true := by
  intro v hv
  simp only [jC, List.mem_cons, List.not_mem_nil, or_false] at hv
  rcases hv with rfl | rfl | rfl | rfl | rfl | rfl <;> rfl
theorem jV_one {name : ByteArray} {e i : Int} {v3 v4 v5 : Value} (h3 : v3.oneCell' = true) (h4 : v4.oneCell' = true) (h5 : v5.oneCell' = true) : ∀ v ∈ jV name e i v3 v4 v5, v.oneCell' = true := by
  intro v hv
  simp only [jV, List.mem_cons, List.not_mem_nil, or_false] at hv
  rcases hv with rfl | rfl | rfl | rfl | rfl | rfl <;> first | rfl | assumption
end Go.Proofs.YtdekmeanlcpenaaGreatDoor.Codec



namespace Go.Proofs.YtdekmeanlcpenaaGreatDoor.Mid
open Go.RowKit Go.Proofs.YtdekmeanlcpenaaGreatDoorW.PrintWords
attribute [local go_sem ↓ high] load33_eq load29_eq build33_eq
attribute [local simp] rowOf_drew rowOf_drewN
attribute [local go_sem high] load33_row load29_row rowOf_drew rowOf_drewN bld33_none
set_option maxHeartbeats 1000000
set_option maxRecDepth 100000

theorem eqI29 (w : World) (x y : List Int) (hx : IdOk x) (hy : IdOk y) : (Op.equalIn 10000 29 (.agg (u8s x).toArray) (.agg (u8s y).toArray)).run Tryz.prog w = .ok (decide (x = y)) w := eq29 w x y hx hy
theorem eqI33 (w : World) (r s : Res) (hr : ResOk r) (hs : ResOk s) : (Op.equalIn 10000 33 (.agg (resC r).toArray) (.agg (resC s).toArray)).run Tryz.prog w = .ok (decide (r = s)) w := eq33 w r s hr hs
end Go.Proofs.YtdekmeanlcpenaaGreatDoor.Mid

namespace Go.Proofs.YtdekmeanlcpenaaGreatDoor.Law
open Go.RowKit Go.Proofs.YtdekmeanlcpenaaGreatDoorW.PrintWords Go.Proofs.YtdekmeanlcpenaaGreatDoor.Mid Go.Proofs.YtdekmeanlcpenaaGreatDoor.Pick Go.Proofs.YtdekmeanlcpenaaGreatDoor.Err
attribute [local go_sem ↓ high] load33_eq load29_eq build69_eq build33_eq build29_eq
attribute [local simp] rowOf_drew rowOf_drewN
attribute [local go_sem high] load33_row load29_row rowOf_drew rowOf_drewN
set_option maxHeartbeats 2000000
set_option maxRecDepth 100000

theorem handle_below {w w1 : World} (h : Handle w) (hb : Below w.heap.size w w1) : Handle w1 := by
  have := lt_of_cell h
  unfold Handle at h ⊢
  rw [hb.cell this]; exact h
theorem fault_cells {w : World} {g : Nat} {op name : ByteArray} {id : List Int} {err : Value} (hid : IdOk id) (h : w.heap[g]? = some (.cells (faultC op name id err).toArray 82 (0, 0))) :
    w.cell? ⟨g, 0, none⟩ = some (.string op) ∧ w.cell? ⟨g, 1, none⟩ = some (.string name) ∧ rowOf w ⟨g, 2, none⟩ 32 = some (u8s id) ∧ w.cell? ⟨g, 34, none⟩ = some err := by
  have hl : (u8s id).length = 32 := by rw [u8s_length, hid.len]
  have hat : At w ⟨g, 0, none⟩ (faultC op name id err) := At.blk h
  have h2 : At w ⟨g, 2, none⟩ (u8s id) := by
    intro j v hv
    have hj : j < (u8s id).length := (List.getElem?_eq_some_iff.1 hv).1
    have := hat (2 + j) v (by
      have e : faultC op name id err = [.string op, .string name] ++ (u8s id ++ [err]) := by simp [faultC]
      rw [e, List.getElem?_append_right (by simp), List.getElem?_append_left (by simp; omega)]
      simpa using hv)
    rw [Addr.add_mid] at this ⊢
    rwa [Nat.zero_add] at this
  refine ⟨?_, ?_, h2.id hid, ?_⟩
  · have := hat 0 (.string op) rfl
    rwa [Addr.add_mid] at this
  · have := hat 1 (.string name) rfl
    rwa [Addr.add_mid] at this
  · have := hat 34 err (by
      have e : faultC op name id err = ([.string op, .string name] ++ u8s id) ++ [err] := by simp [faultC]
      rw [e, List.getElem?_append_right (by simp; omega)]
      simp [hl])
    rwa [Addr.add_mid] at this
end Go.Proofs.YtdekmeanlcpenaaGreatDoor.Law

namespace Go.Proofs.YtdekmeanlcpenaaGreatDoor.Law
open Go.RowKit Go.Proofs.YtdekmeanlcpenaaGreatDoorW.PrintWords Go.Proofs.YtdekmeanlcpenaaGreatDoor.Mid Go.Proofs.YtdekmeanlcpenaaGreatDoor.Pick
attribute [local go_sem ↓ high] load33_eq load29_eq build69_eq build33_eq build29_eq
attribute [local simp] rowOf_drew rowOf_drewN
attribute [local go_sem high] load33_row load29_row rowOf_drew rowOf_drewN bld29_none
set_option maxHeartbeats 2000000
set_option maxRecDepth 100000

def nameF : ByteArray := { data := #[102, 46, 120] }
theorem none_nil (w : World) : Calls Tryz.prog 78 #[.pointer none] w fun e w' => e = .returned (.bool true) ∧ Below w.heap.size w w' := by
  go_enter Tryz.func78, Tryz.ntmps78
  go_wp2
  go_ret
  exact ⟨rfl, Below.refl _ _⟩
theorem off_nil (w : World) : Calls Tryz.prog 38 #[.pointer none] w fun e w' => e = .returned (.bool true) ∧ Below w.heap.size w w' := by
  go_enter Tryz.func38, Tryz.ntmps38
  go_wp2_with (first
    | (go_at_call 78; refine (none_nil _).mono ?_; rintro e w1 ⟨rfl, hb1⟩; have HB1 := Aside0.mk hb1; clear hb1)
    | go_in)
  go_ret
  exact ⟨rfl, HB1.out⟩
theorem disk_nil (w : World) : Calls Tryz.prog 37 #[.pointer none] w fun e w' => e = .returned (.pointer none) ∧ Below w.heap.size w w' := by
  go_enter Tryz.func37, Tryz.ntmps37
  go_wp2
  go_ret
  exact ⟨rfl, Below.refl _ _⟩
end Go.Proofs.YtdekmeanlcpenaaGreatDoor.Law













namespace Go.Proofs.YtdekmeanlcpenaaGreatDoor.OpenK
open Go.ChangeShapes Go.WideShapes Go.Deep Go.Proofs.YtdekmeanlcpenaaGreatDoorW.PrintWords

/-- Whatever reads as a datum of a type reads as a value of a kind, and the value is good. -/
def Opens {α H : Type} (P : Program) (enc : TypeId × Value → H) (w : World) (d : Kd α) (e : TypeId) (good : α → Prop) : Prop :=
  ∀ (fuel : Nat) (cs : List Value) (x : DataW H × List MemPlace), DataW.trod enc P w 0 (fun _ => true) true fuel e cs = some x → (∀ n ∈ DataW.weights P e x.1, n ≤ reachBytes) → ∃ v, d.K w v cs ∧ good v

theorem opens_int {H : Type} {P : Program} {enc : TypeId × Value → H} {w : World} {e : TypeId} {k : IntKind} (he : P.underlying e = some (.int k)) : Opens P enc w (Kd.int k) e (fun n => (Lit.int k n).wf = true) := by
  intro fuel cs x h _
  obtain ⟨n, rfl, _, hw⟩ := DataW.trod_int he h
  exact ⟨n, rfl, hw⟩

theorem opens_slice {α H : Type} {P : Program} {enc : TypeId × Value → H} {w : World} {d : Kd α} {t e : TypeId} {good : α → Prop} [Inhabited α] (ht : P.underlying t = some (.slice e)) (hc : P.cellsOf e = d.sz) {B : Nat} (hB : P.bytesOf e = B) (h : Opens P enc w d e good) :
    Opens P enc w (Kd.slice e d) t (fun l => l.length * B ≤ 140737488351232 ∧ ∀ x ∈ l, good x) := by
  intro fuel cs x hx hw
  rcases open_slice ht hx with ⟨rfl, _⟩ | ⟨a, len, cap, m, n, D, Pl, rfl, _, hl, hm, rfl, rfl, hi⟩
  · exact ⟨[], ⟨none, 0, rfl, Nat.le_refl _, Kd.C_nil d w⟩, by simp, by simp⟩
  · simp only [] at hi hw
    simp only [DataW.weights, ht] at hw
    have hwl := hw _ (List.mem_cons_self)
    have hwe : ∀ i, i < len → ∀ z ∈ DataW.weights P e (D i), z ≤ reachBytes := by
      intro i hil z hz
      refine hw z (List.mem_cons_of_mem _ (List.mem_append_left _ ?_))
      have key : ∀ (l : List (DataW H)), D i ∈ l → z ∈ DataW.weightsAll P e l := by
        intro l
        induction l with
        | nil => intro h; simp at h
        | cons y r ih =>
          intro h
          rw [DataW.weightsAll, List.mem_append]
          rcases List.mem_cons.1 h with rfl | h
          · exact .inl hz
          · exact .inr (ih h)
      exact key _ (List.mem_map.2 ⟨i, List.mem_range.2 hil, rfl⟩)
    obtain ⟨f, hf⟩ := choose_lt (n := len) (p := fun i v => (∃ cs', w.cells? 0 (a.add (i * P.cellsOf e)) (P.cellsOf e) = some cs' ∧ d.K w v cs') ∧ good v) (fun i hil => by
      obtain ⟨cs', h1, h2⟩ := hi i (by omega)
      obtain ⟨v, hK, hg⟩ := h n cs' _ h2 (hwe i hil)
      exact ⟨v, ⟨cs', h1, hK⟩, hg⟩)
    refine ⟨(List.range len).map f, ⟨some a, m, by simp, by simpa using hl, ?_⟩, ?_, ?_⟩
    · refine ⟨rfl, by simp; unfold maxLen at hm; omega, fun hpos => ⟨a, rfl, fun j p hj => ?_⟩⟩
      simp only [List.length_map, List.length_range] at hpos
      rw [List.getElem?_map] at hj
      obtain ⟨i, hi1, rfl⟩ := Option.map_eq_some_iff.1 hj
      have hjl : j < len := by have := (List.getElem?_eq_some_iff.1 hi1).1; simpa using this
      have hij : i = j := by
        rw [List.getElem?_range hjl] at hi1
        simpa using hi1.symm
      subst hij
      obtain ⟨⟨cs', h1, hK⟩, _⟩ := hf i hjl
      rw [hc] at h1
      obtain ⟨_, hlen, hcell⟩ := World.cells?_some h1
      refine ⟨cs', hlen, hK, fun k u hk => ?_⟩
      have hkl : k < d.sz := by have := (List.getElem?_eq_some_iff.1 hk).1; omega
      rw [← Go.Deep.add_add, hcell k hkl]
      exact hk
    · simp only [List.length_map, List.length_range] at hwl ⊢
      rw [hB] at hwl
      refine Nat.le_trans (Nat.mul_le_mul_right _ ?_) (Nat.le_trans hwl (by decide))
      omega
    · intro x hx
      obtain ⟨i, hi1, rfl⟩ := List.mem_map.1 hx
      exact (hf i (List.mem_range.1 hi1)).2

/-- A slice among a law's arguments. -/
theorem arg_slice {α H : Type} {P : Program} {enc : TypeId × Value → H} {W : World} {d : Kd α} {t e : TypeId} {good : α → Prop} {B : Nat} {a : Option Addr} {len cap : Nat} {x : DataW H} {ps : List MemPlace} {ts : List TypeId} {ds : List (DataW H)} {j : Nat}
    (ho : Opens P enc W (Kd.slice e d) t (fun l => l.length * B ≤ 140737488351232 ∧ ∀ x ∈ l, good x)) (hsz : (DataW.weightsEach P ts ds).all (· ≤ reachBytes) = true) (ht : ts[j]? = some t) (hd : ds[j]? = some x)
    (h : DataW.Trod enc P W 0 (fun _ => true) true t (.slice a len cap) x ps) : ∃ l : List α, len = l.length ∧ l.length ≤ cap ∧ d.C W a l.length l ∧ l.length * B ≤ 140737488351232 ∧ ∀ x ∈ l, good x := by
  obtain ⟨fuel, hf⟩ := h
  obtain ⟨l, ⟨A, c, e1, h1, h2⟩, h3, h4⟩ := ho fuel _ _ hf (fun n hn => by
    have := List.all_eq_true.1 hsz _ (DataW.weights_mem_each ht hd n hn)
    simpa using this)
  simp [Value.cells] at e1
  obtain ⟨rfl, rfl, rfl⟩ := e1
  exact ⟨l, rfl, h1, h2, h3, h4⟩

end Go.Proofs.YtdekmeanlcpenaaGreatDoor.OpenK



namespace Go.Proofs.YtdekmeanlcpenaaGreatDoor.Law
open Go.RowKit Go.Proofs.YtdekmeanlcpenaaGreatDoorW.PrintWords Go.Proofs.YtdekmeanlcpenaaGreatDoorW.PrintLast Go.Proofs.YtdekmeanlcpenaaGreatDoorW.PrintMore Go.Proofs.YtdekmeanlcpenaaGreatDoor.Mid Go.Proofs.YtdekmeanlcpenaaGreatDoor.Pick Go.Proofs.YtdekmeanlcpenaaGreatDoor.Err Go.Proofs.YtdekmeanlcpenaaGreatDoor.Codec
attribute [local go_sem ↓ high] load33_eq load29_eq load60_eq build33_eq build29_eq
attribute [local simp] rowOf_drew rowOf_drewN
attribute [local go_sem high] load33_row load29_row load60_row rowOf_drew rowOf_drewN

set_option maxHeartbeats 4000000
set_option maxRecDepth 100000
set_option linter.unusedVariables false
set_option linter.unusedSimpArgs false
theorem grownBlk (w : World) (p : Addr) (v : Value) : w.grownBy (w.setCell p v) (some p.block) := ⟨rfl, rfl, rfl, by simp [World.setCell], fun k _ hk => Below.heap_setCell w p v k (fun e => hk (by rw [e]))⟩
theorem R_put_far {α : Type} {d : Kd α} {e b q i : Nat} {w : World} {v u : Value} {xs : List α} (hE : d.E = []) (h : d.R e w b (fun _ => True) v xs) (hq : q < b) : d.R e (w.setCell ⟨q, i, none⟩ u) b (fun _ => True) v xs :=
  Kd.R_grown1 h hE (grownBlk w ⟨q, i, none⟩ u) (fun e => by have h1 : b ≤ q := Kd.R_base h q e.symm; omega)
end Go.Proofs.YtdekmeanlcpenaaGreatDoor.Law

namespace Go.Proofs.YtdekmeanlcpenaaGreatDoor.Codec
open Go.RowKit Go.Proofs.YtdekmeanlcpenaaGreatDoorW.PrintWords Go.Proofs.YtdekmeanlcpenaaGreatDoorW.PrintLast Go.Proofs.YtdekmeanlcpenaaGreatDoorW.PrintMore Go.Proofs.YtdekmeanlcpenaaGreatDoor.Mid Go.Proofs.YtdekmeanlcpenaaGreatDoor.Block
attribute [local go_sem ↓ high] load33_eq load29_eq load60_eq
attribute [local simp] rowOf_drew rowOf_drewN
attribute [local go_sem high] load33_row load29_row load60_row rowOf_drew rowOf_drewN
set_option maxHeartbeats 8000000
set_option maxRecDepth 100000
set_option linter.unusedVariables false
/-- A form so far, beside the two tables' bytes. -/
structure PI (W : World) (rs ts : List Int) (B2 : Option Addr) (d2 : Nat) (B3 : Option Addr) (d3 : Nat) (u : World) (v : Value) (out : List Int) : Prop where
  e : EI W u v out
  r2 : Kd.R (Kd.int .u8) 5 u W.heap.size (fun _ => True) (.slice B2 rs.length d2) rs
  r3 : Kd.R (Kd.int .u8) 5 u W.heap.size (fun _ => True) (.slice B3 ts.length d3) ts
  n2 : ∀ k, (Value.slice B2 rs.length d2).ownBlock = some k → v.ownBlock ≠ some k
  n3 : ∀ k, (Value.slice B3 ts.length d3).ownBlock = some k → v.ownBlock ≠ some k
section
variable {W u u1 : World} {rs ts : List Int} {B2 : Option Addr} {d2 : Nat} {B3 : Option Addr} {d3 : Nat} {v : Value} {out : List Int}
theorem PI.below (h : PI W rs ts B2 d2 B3 d3 u v out) (hb : Below u.heap.size u u1) : PI W rs ts B2 d2 B3 d3 u1 v out := ⟨h.e.below hb, Kd.R_below h.r2 hb, Kd.R_below h.r3 hb, h.n2, h.n3⟩
theorem PI.app {v1 : Value} {x : Int} (h : PI W rs ts B2 d2 B3 d3 u v out) (h1 : Kd.R (Kd.int .u8) 5 u1 W.heap.size (fun _ => True) v1 (out ++ [x])) (h2 : Below W.heap.size W u1) (h3 : u.grownBy u1 v.ownBlock) (h4 : v1.ownBlock = v.ownBlock ∨ ∃ b, v1.ownBlock = some b ∧ u.heap.size ≤ b) : PI W rs ts B2 d2 B3 d3 u1 v1 (out ++ [x]) := by
  have far : ∀ {B : Option Addr} {d : Nat} {l : List Int}, Kd.R (Kd.int .u8) 5 u W.heap.size (fun _ => True) (.slice B l.length d) l → (∀ k, (Value.slice B l.length d).ownBlock = some k → v.ownBlock ≠ some k) → Kd.R (Kd.int .u8) 5 u1 W.heap.size (fun _ => True) (.slice B l.length d) l ∧ ∀ k, (Value.slice B l.length d).ownBlock = some k → v1.ownBlock ≠ some k := by
    intro B d l hr hn
    refine ⟨?_, fun k hk => ?_⟩
    · cases hb : (Value.slice B l.length d).ownBlock with
      | none => exact Kd.R_mono (Kd.R_grown (Kd.R_tight rfl hr) h3 (fun k hk _ => by rw [hb] at hk; cases hk)) (fun _ _ => trivial)
      | some k => exact Kd.R_grown1 hr rfl h3 (by rw [hb]; exact hn k hb)
    · rcases h4 with h4 | ⟨b, h4, h5⟩
      · rw [h4]; exact hn k hk
      · rw [h4]
        intro e
        have h6 := Kd.R_lt hr k hk
        have := Option.some.inj e
        omega
  exact ⟨⟨h1, h2⟩, (far h.r2 h.n2).1, (far h.r3 h.n3).1, (far h.r2 h.n2).2, (far h.r3 h.n3).2⟩
theorem PI.put {A : Option Addr} {c n : Nat} (hn : out.length = n) (h : PI W rs ts B2 d2 B3 d3 u (.slice A out.length c) out) (hb : Below u.heap.size u u1) (A1 : Option Addr) (c1 : Nat) (l : List Int) (m : Nat) (hm : l.length = m) (hx : Kd.R (Kd.int .u8) 5 u1 u.heap.size (fun _ => True) (.slice A1 l.length c1) l) (ho : out.length ≤ 1000000) (hl : l.length ≤ 1000000) :
    Calls Tryz.prog 56 #[.slice A n c, .slice A1 m c1] u1 fun e w' => ∃ A2 c2 o, e = .returned (.slice A2 o.length c2) ∧ Aside0 (o = out ++ l) ∧ PI W rs ts B2 d2 B3 d3 w' (.slice A2 o.length c2) o := by
  subst hm hn
  have hu := h.below hb
  refine (rput_any W u1 A c out A1 c1 l hu.e u.heap.size hx (fun k hk => Kd.R_lt h.e.r k hk) ho hl).mono fun e w' ⟨A2, c2, h1, h2, h3, h4⟩ => ⟨A2, c2, out ++ l, h1, ⟨rfl⟩, h2, R_put_kept hu.r2 h3 hu.n2, R_put_kept hu.r3 h3 hu.n3, fun k hk e => ?_, fun k hk e => ?_⟩
  · rcases h4 k e with h5 | h5
    · exact hu.n2 k hk h5
    · have := Kd.R_lt hu.r2 k hk; omega
  · rcases h4 k e with h5 | h5
    · exact hu.n3 k hk h5
    · have := Kd.R_lt hu.r3 k hk; omega
end
section
variable (j : Jn) (A1 : Option Addr) (c1 : Nat) (A2 : Option Addr) (c2 : Nat) (A3 : Option Addr) (c3 : Nat) (w : World) (hJ : JAt w j A1 c1 A2 c2 A3 c3) (l1 : j.res.length ≤ 140737488355328) (l2 : j.need.length ≤ 140737488355328) (l3 : j.tab.length ≤ 140737488355328)
include hJ l1 l2 l3
theorem renc_no (V : ¬ JnV j) : Calls Tryz.prog 20 #[.agg (jC j A1 c1 A2 c2 A3 c3).toArray] w fun e w' => e = .returned (.tuple #[.slice none 0 0, .int .i64 161]) ∧ Below w.heap.size w w' := by
  obtain ⟨W, hW⟩ : ∃ W, W = w.alloc (.cells (jC j A1 c1 A2 c2 A3 c3).toArray 60) := ⟨_, rfl⟩
  have hbk : W.heap[w.heap.size]? = some (.cells (jC j A1 c1 A2 c2 A3 c3).toArray 60 (0, 0)) := hW ▸ heap_alloc_new w _
  have hBW : Below w.heap.size w W := hW ▸ below_alloc (Below.refl _ _) _
  have hld := jrow hbk
  have HW := Aside0.mk hW
  have HBW := Aside0.mk hBW
  have HJ := Aside0.mk (hJ.below hBW)
  have HV := Aside0.mk V
  clear hW hBW hbk hJ V
  go_enter Tryz.func20, Tryz.ntmps20
  go_upto_region 1 with (fail)
  rw [← HW.out]
  go_wp2_with (first
    | (go_at_call 54; refine (rjournal_any j A1 c1 A2 c2 A3 c3 _ HJ.out l1 l2 l3).mono ?_; rintro e w1 ⟨hR, hb⟩; have he := RetB.is_false hR HV.out; subst he; have HB1 := Aside0.mk hb; clear hb hR)
    | go_in)
  go_ret2
  exact ⟨rfl, HBW.out.trans (HB1.out.mono HBW.out.size)⟩
theorem renc_yes (V : JnV j) : Calls Tryz.prog 20 #[.agg (jC j A1 c1 A2 c2 A3 c3).toArray] w fun e w' => ∃ A k, e = .returned (.tuple #[.slice A (encW j).length k, .int .i64 0]) ∧ Kd.R (Kd.int .u8) 5 w' w.heap.size (fun _ => True) (.slice A (encW j).length k) (encW j) ∧ Below w.heap.size w w' := by
  obtain ⟨W, hW⟩ : ∃ W, W = w.alloc (.cells (jC j A1 c1 A2 c2 A3 c3).toArray 60) := ⟨_, rfl⟩
  have hbk : W.heap[w.heap.size]? = some (.cells (jC j A1 c1 A2 c2 A3 c3).toArray 60 (0, 0)) := hW ▸ heap_alloc_new w _
  have hBW : Below w.heap.size w W := hW ▸ below_alloc (Below.refl _ _) _
  obtain ⟨q, hq⟩ : ∃ q, w.heap.size = q := ⟨_, rfl⟩
  rw [hq] at hbk
  have hld := jrow hbk
  have HQ := Aside0.mk hq
  have HW := Aside0.mk hW
  have HBW := Aside0.mk hBW
  have HBK := Aside0.mk hbk
  have HJ := Aside0.mk (hJ.below hBW)
  have HV := Aside0.mk V
  have CE : ∀ u, Below W.heap.size W u → ∀ (i : Nat) v, (jC j A1 c1 A2 c2 A3 c3)[i]? = some v → u.cell? ⟨q, i, none⟩ = some v := fun u hu i v hv => (blk_cell (blk_below hbk hu) _).trans (by simpa using hv)
  have CE := Aside0.mk CE
  have hr := V.res.most
  have ht := V.tab.most
  clear hW hBW hbk hJ V hq
  go_enter Tryz.func20, Tryz.ntmps20
  go_upto_region 1 with (fail)
  rw [← HW.out, HQ.out]
  go_upto_region 6 with (first
    | (go_at_call 54; refine (rjournal_any j A1 c1 A2 c2 A3 c3 _ HJ.out l1 l2 l3).mono ?_; rintro e w1 ⟨hR, hb⟩; have he := RetB.is_true hR HV.out; subst he; have HB1 := Aside0.mk hb; have q3 := CE.out _ hb 3 _ rfl; clear hb hR)
    | (have X := H2; go_at_call 55; (with_reducible refine (rtab_any A3 c3 j.tab w2 (HJ.out.below H2.out.2).r3 HJ.out.l3 HJ.out.ok.tab HV.out.tab).mono ?_); rintro e w3 ⟨B3, d3, rfl, r3, hb⟩
       have H3 := Aside0.mk (⟨Kd.R_below H2.out.1 hb, r3, below_step H2.out.2 hb, Kd.R_lt H2.out.1⟩ : _ ∧ _ ∧ _ ∧ _)
       clear r3 hb)
    | (go_at_call 55; (with_reducible refine (rtab_any A1 c1 j.res w1 (HJ.out.below HB1.out).r1 HJ.out.l1 HJ.out.ok.res HV.out.res).mono ?_); rintro e w2 ⟨B2, d2, rfl, r2, hb⟩
       have H2 := Aside0.mk (⟨r2, below_step HB1.out hb⟩ : _ ∧ _)
       have q5 := CE.out _ H2.out.2 5 _ rfl
       clear r2 hb)
    | go_in)
  obtain ⟨o6, ho6⟩ : ∃ o6 : List Int, [74] = o6 := ⟨_, rfl⟩
  have P6 : Aside0 (PI W (tabW j.res) (tabW j.tab) B2 d2 B3 d3 (w3.alloc (.cells #[.int .u8 74] 5)) (.slice (some ⟨w3.heap.size, 0, none⟩) o6.length 1) o6) := ⟨by
    have hs := H3.out.2.2.1.size
    have hs2 := H2.out.2.size
    refine ⟨⟨?_, below_alloc H3.out.2.2.1 _⟩, Kd.R_alloc (Kd.R_lower H3.out.1 HB1.out.size) _, Kd.R_alloc (Kd.R_lower H3.out.2.1 hs2) _, fun k hk e => ?_, fun k hk e => ?_⟩
    · rw [← ho6]
      exact Kd.R_of_own (own_lit w3 W.heap.size 5 .u8 [74] hs (by decide)) (fun _ _ => trivial)
    · have h1 := Kd.R_lt H3.out.1 k hk
      have h2 : w3.heap.size = k := Option.some.inj e
      omega
    · have h1 := Kd.R_lt H3.out.2.1 k hk
      have h2 : w3.heap.size = k := Option.some.inj e
      omega⟩
  have HO6 := Aside0.mk ho6
  have ho6l : o6.length = 1 := by rw [← ho6]; rfl
  have LO6 := Aside0.mk ho6l
  have hcv : ∀ u, (convert 9 47 (.string j.name)).run Tryz.prog u = .ok (.slice (some ⟨u.heap.size, 0, none⟩) j.name.size (grownCap u j.name.size 0 5)) (Lib.bytesWorld u 5 j.name) := fun u => print_bytes (u := .string) 9 47 5 (by kernel_rfl) Tryz.underlying47 Tryz.underlying5 j.name u
  obtain ⟨en, hen⟩ : ∃ en : Nat, j.ent = (en : Int) := ⟨j.ent.toNat, by have := HV.out.ent; omega⟩
  obtain ⟨ix, hix⟩ : ∃ ix : Nat, j.idx = (ix : Int) := ⟨j.idx.toNat, by have := HV.out.idx; omega⟩
  have HE : Aside0 (en < 4294967296 ∧ ix < 4294967296 ∧ j.ent.toNat = en ∧ j.idx.toNat = ix) := ⟨by have := HV.out.ent; omega, by have := HV.out.idx; omega, by omega, by omega⟩
  have D1 : Aside0 (∀ u, Below W.heap.size W u → u.cell? ⟨q, 1, none⟩ = some (.int .i64 en)) := ⟨fun u hu => CE.out u hu 1 _ (by rw [← hen]; rfl)⟩
  have D2 : Aside0 (∀ u, Below W.heap.size W u → u.cell? ⟨q, 2, none⟩ = some (.int .i64 ix)) := ⟨fun u hu => CE.out u hu 2 _ (by rw [← hix]; rfl)⟩
  have hn1 := HV.out.name.most
  have hn2 := HV.out.most
  have HT : Aside0 ((tabW j.res).length ≤ 2081 ∧ (tabW j.tab).length ≤ 2081) := ⟨tab_le HV.out.res HJ.out.ok.res, tab_le HV.out.tab HJ.out.ok.tab⟩
  have HTN : Aside0 ((txtW (sBytes j.name)).length ≤ 117 ∧ (txtW (tabW j.res)).length ≤ 2086 ∧ (txtW (tabW j.tab)).length ≤ 2086 ∧ (numW j.need.length).length ≤ 5) := ⟨txt_le (by rw [sBytes_length]; exact hn1) (by omega), txt_le HT.out.1 (by omega), txt_le HT.out.2 (by omega), numW_max (by omega)⟩
  have ce0 := CE.out _ P6.out.e.bel 0 _ rfl
  clear hen hix ho6
  go_upto_region 7 with (fail)
  obtain ⟨u6, hu6⟩ : ∃ u6, w3.alloc (.cells #[.int .u8 74] 5) = u6 := ⟨_, rfl⟩
  have S6 : Aside0 (w3.heap.size < u6.heap.size) := ⟨by rw [← hu6]; simp⟩
  rw [hu6] at P6 ce0 ⊢
  have L6 : Aside0 (o6.length ≤ 1) := ⟨by omega⟩
  clear hu6 ho6l
  go_upto_region 13 with (first
    | (have X := F11; go_at_call 56; (with_reducible refine (PI.put rfl P10.out F11.out.2 B11 e11 (numW j.need.length) _ rfl F11.out.1 (by have := L10.out; omega) (by have := HTN.out; omega)).mono ?_); rintro e u11 ⟨C11, f11, o11, rfl, h1, h2⟩
       have O11 := h1
       have P11 := Aside0.mk h2
       have L11 : Aside0 (o11.length ≤ 2230) := ⟨by rw [O11.out, List.length_append]; have h1 := L10.out; have h2 := HTN.out; omega⟩
       clear h1 h2)
    | (have X := P10; go_at_call 59; (with_reducible refine (rnu_any j.need.length (by omega) u10).mono ?_); rintro e v11 ⟨B11, e11, rfl, r1, hb⟩
       have F11 := Aside0.mk (And.intro r1 hb)
       clear r1 hb)
    | (have X := F10; go_at_call 56; (with_reducible refine (PI.put rfl P9.out F10.out.2 B10 e10 (txtW (tabW j.res)) _ rfl F10.out.1 (by have := L9.out; omega) (by have := HTN.out; omega)).mono ?_); rintro e u10 ⟨C10, f10, o10, rfl, h1, h2⟩
       have O10 := h1
       have P10 := Aside0.mk h2
       have L10 : Aside0 (o10.length ≤ 2220) := ⟨by rw [O10.out, List.length_append]; have h1 := L9.out; have h2 := HTN.out; omega⟩
       have ce4 := CE.out _ P10.out.e.bel 4 _ rfl
       clear h1 h2)
    | (have X := P9; go_at_call 57; (with_reducible refine (rtx_any B2 d2 (tabW j.res) _ rfl u9 (Kd.R_reads' P9.out.r2).2.2 (Kd.R_reads' P9.out.r2).2.1 (by have := HT.out.1; omega)).mono ?_); rintro e v10 ⟨B10, e10, rfl, r1, hb⟩
       have F10 := Aside0.mk (And.intro r1 hb)
       clear r1 hb)
    | (have X := F9; go_at_call 56; (with_reducible refine (PI.put rfl P8.out F9.out.2 B9 e9 (fixW ix 4) 4 (fixW_length _ _) F9.out.1 (by have := L8.out; omega) (by have := HTN.out; rw [fixW_length]; omega)).mono ?_); rintro e u9 ⟨C9, f9, o9, rfl, h1, h2⟩
       have O9 := h1
       have P9 := Aside0.mk h2
       have L9 : Aside0 (o9.length ≤ 128) := ⟨by rw [O9.out, List.length_append]; have h1 := L8.out; have h2 := HTN.out; rw [fixW_length]; omega⟩
       clear h1 h2)
    | (have X := P8; go_at_call 58; (with_reducible refine (rfx_any ix HE.out.2.1 u8).mono ?_); rintro e v9 ⟨B9, e9, rfl, r1, hb⟩
       have F9 := Aside0.mk (And.intro r1 hb)
       clear r1 hb)
    | (have X := F8; go_at_call 56; (with_reducible refine (PI.put rfl P7.out F8.out.2 B8 e8 (fixW en 4) 4 (fixW_length _ _) F8.out.1 (by have := L7.out; omega) (by have := HTN.out; rw [fixW_length]; omega)).mono ?_); rintro e u8 ⟨C8, f8, o8, rfl, h1, h2⟩
       have O8 := h1
       have P8 := Aside0.mk h2
       have L8 : Aside0 (o8.length ≤ 124) := ⟨by rw [O8.out, List.length_append]; have h1 := L7.out; have h2 := HTN.out; rw [fixW_length]; omega⟩
       have ce2 := D2.out _ P8.out.e.bel
       clear h1 h2)
    | (have X := P7; go_at_call 58; (with_reducible refine (rfx_any en HE.out.1 u7).mono ?_); rintro e v8 ⟨B8, e8, rfl, r1, hb⟩
       have F8 := Aside0.mk (And.intro r1 hb)
       clear r1 hb)
    | (have X := F7; go_at_call 56; (with_reducible refine (PI.put LO6.out P6.out F7.out.2 B7 e7 (txtW (sBytes j.name)) _ rfl F7.out.1 (by have := L6.out; omega) (by have := HTN.out; omega)).mono ?_); rintro e u7 ⟨C7, f7, o7, rfl, h1, h2⟩
       have O7 := h1
       have P7 := Aside0.mk h2
       have L7 : Aside0 (o7.length ≤ 120) := ⟨by rw [O7.out, List.length_append]; have h1 := L6.out; have h2 := HTN.out; omega⟩
       have ce1 := D1.out _ P7.out.e.bel
       clear h1 h2)
    | (have X := P6; go_at_call 57; (with_reducible refine (rtx_any (some ⟨u6.heap.size, 0, none⟩) (grownCap u6 j.name.size 0 5) (sBytes j.name) j.name.size (sBytes_length _) (Lib.bytesWorld u6 5 j.name) (C_str u6 j.name (by omega)) (grownCap_ge _ _ _ _) (by omega)).mono ?_); rintro e v7 ⟨B7, e7, rfl, r1, hb⟩
       have F7 : Aside0 (Kd.R (Kd.int .u8) 5 v7 u6.heap.size (fun _ => True) (.slice B7 (txtW (sBytes j.name)).length e7) (txtW (sBytes j.name)) ∧ Below u6.heap.size u6 v7) := ⟨Kd.R_lower r1 (bytes_below (Below.refl _ _) (Nat.le_refl _) 5 j.name).size, below_step (bytes_below (Below.refl _ _) (Nat.le_refl _) 5 j.name) hb⟩
       clear r1 hb)
    | go_in)
  have L11' := L11.out
  have hil : ∀ i, ((j.need.take i).flatten).length ≤ 2048 := fun i => by
    rw [ids_length (fun x hx => HJ.out.ok.need x (List.mem_of_mem_take hx)), List.length_take]
    omega
  have HIL := Aside0.mk hil
  clear hil
  go_loopg [9, 10] j.need.length (fun k v9 v10 w' => ∃ (i : Nat) (A : Option Addr) (c : Nat) (o : List Int), v9 = .slice A o.length c ∧ v10 = .int .i64 i ∧ i + k = j.need.length ∧ Aside0 (PI W (tabW j.res) (tabW j.tab) B2 d2 B3 d3 w' (.slice A o.length c) o ∧ o = o11 ++ (j.need.take i).flatten))
  case atStart => exact ⟨0, _, _, o11, rfl, rfl, by omega, ⟨P11.out, by rw [List.take_zero, List.flatten_nil, List.append_nil]⟩⟩
  case round =>
    obtain ⟨i, A, c, o, rfl, rfl, hik, HI⟩ := hrel
    have ce4' := CE.out _ HI.out.1.e.bel 4 _ rfl
    cases gk with
    | zero =>
      have hd : decide (i < j.need.length) = false := by simp; omega
      have hi : i = j.need.length := by omega
      have hoe : o = o11 ++ j.need.flatten := by rw [HI.out.2, hi, List.take_length]
      have HOE := Aside0.mk hoe
      have LO : Aside0 (o.length ≤ 4300) := ⟨by rw [HI.out.2, List.length_append]; have := HIL.out i; omega⟩
      clear hik hoe
      have HBD : Aside0 (∀ z, z = o ++ txtW (tabW j.tab) → z = bodyW j) := ⟨fun z hz => by
        rw [hz, HOE.out, O11.out, O10.out, O9.out, O8.out, O7.out, ← HO6.out, bodyW, HE.out.2.2.1, HE.out.2.2.2]
        simp only [List.append_assoc]
        rfl⟩
      have HBL : Aside0 ((bodyW j).length ≤ 8000 ∧ Byt (bodyW j)) := ⟨body_le HV.out HJ.out.ok, body_byt HV.out HJ.out.ok⟩
      go_wp2_with (first
        | (have X := F20; go_at_call 56; (with_reducible refine (PI.put rfl P19.out.1 F20.out.2 B20 e20 (fixW (sumS o19) 4) 4 (fixW_length _ _) F20.out.1 (by have := P19.out.2; have := HBL.out.1; omega) (by rw [fixW_length]; omega)).mono ?_); rintro e u20 ⟨C20, f20, o20, rfl, h1, h2⟩
           have P20 := Aside0.mk h2
           have O20 := h1
           clear h1 h2)
        | (have X := S19; go_at_call 58; (with_reducible refine (rfx_any (sumS o19) (sumS_lt _) u19s).mono ?_); rintro e v20 ⟨B20, e20, rfl, r1, hb⟩
           have F20 : Aside0 (Kd.R (Kd.int .u8) 5 v20 u19.heap.size (fun _ => True) (.slice B20 (fixW (sumS o19) 4).length e20) (fixW (sumS o19) 4) ∧ Below u19.heap.size u19 v20) := ⟨Kd.R_lower r1 S19.out.size, below_step S19.out hb⟩
           clear r1 hb)
        | (have X := P19; go_at_call 60; (with_reducible refine (rsu_any C19 f19 o19 u19 (Kd.R_reads' P19.out.1.e.r).2.2 (Kd.R_reads' P19.out.1.e.r).2.1 (by rw [BD19.out]; exact HBL.out.2) (by have := P19.out.2; have := HBL.out.1; omega)).mono ?_); rintro e u19s ⟨rfl, hb⟩
           have S19 := Aside0.mk hb
           clear hb)
        | (have X := F19; go_at_call 56; (with_reducible refine (PI.put rfl HI.out.1 F19.out.2 B19 e19 (txtW (tabW j.tab)) _ rfl F19.out.1 (by have := LO.out; omega) (by have := HTN.out; omega)).mono ?_); rintro e u19 ⟨C19, f19, o19, rfl, h1, h2⟩
           have BD19 : Aside0 (o19 = bodyW j) := ⟨HBD.out o19 h1.out⟩
           have P19 := Aside0.mk (And.intro h2 (show o19.length = (bodyW j).length by rw [BD19.out]))
           clear h1 h2)
        | (go_at_call 57; (with_reducible refine (rtx_any B3 d3 (tabW j.tab) _ rfl wr (Kd.R_reads' HI.out.1.r3).2.2 (Kd.R_reads' HI.out.1.r3).2.1 (by have := HT.out.2; omega)).mono ?_); rintro e v19 ⟨B19, e19, rfl, r1, hb⟩
           have F19 := Aside0.mk (And.intro r1 hb)
           clear r1 hb)
        | go_in)
      go_ret2
      have he : o20 = encW j := by rw [O20.out, BD19.out, encW]
      subst he
      exact ⟨C20, f20, rfl, Kd.R_lower P20.out.e.r HBW.out.size, HBW.out.trans (P20.out.e.bel.mono HBW.out.size)⟩
    | succ k =>
      have hi : i < j.need.length := by omega
      have hi1 : (i : Int) < (j.need.length : Int) := by omega
      obtain ⟨ad, x, e0, hx, ho, hat⟩ := id_at HJ.out.r2 i hi
      have HXO := Aside0.mk ho
      have HAT := Aside0.mk hat
      have HX := Aside0.mk hx
      subst e0
      have LO : o.length ≤ 4300 := by rw [HI.out.2, List.length_append]; have := HIL.out i; omega
      clear ho hat hx
      go_upto_region 16 with (fail)
      go_loopg [9, 11] 32 (fun k5 v9 v11 w' => ∃ (s : Nat) (A : Option Addr) (c : Nat) (o' : List Int), v9 = .slice A o'.length c ∧ v11 = .int .i64 s ∧ s + k5 = 32 ∧ Aside0 (PI W (tabW j.res) (tabW j.tab) B2 d2 B3 d3 w' (.slice A o'.length c) o' ∧ o' = o ++ x.take s))
      case atStart => exact ⟨0, _, _, o, rfl, rfl, by omega, ⟨HI.out.1, by rw [List.take_zero, List.append_nil]⟩⟩
      case round =>
        obtain ⟨s, A', c', o', rfl, rfl, hsk, HS⟩ := hrel
        cases gk with
        | zero =>
          have hse : s = 32 := by omega
          have hds : decide (s < 32) = false := by simp; omega
          subst hse
          go_wp2
          go_roundg k
          case measure => omega
          case rel => exact ⟨i + 1, _, _, o', rfl, by go_num, by omega, ⟨HS.out.1, by rw [HS.out.2, List.take_of_length_le (by rw [HXO.out.len]; exact Nat.le_refl _), HI.out.2, List.take_add_one, HX.out, List.flatten_append, List.append_assoc]; simp⟩⟩
        | succ k6 =>
          have hs : s < 32 := by omega
          have hs1 : (s : Int) < 32 := by omega
          obtain ⟨y, hy⟩ : ∃ y, x[s]? = some y := ⟨_, List.getElem?_eq_getElem (by rw [HXO.out.len]; exact hs)⟩
          have hcell : wr.cell? ((ad.add (i * 32)).add s) = some (.int .u8 y) := At.u8 (HAT.out.below HS.out.1.e.bel) hy
          have HY := Aside0.mk hy
          have LO2 : o'.length ≤ 4400 := by rw [HS.out.2, List.length_append, List.length_take]; omega
          have ce5 := CE.out _ HS.out.1.e.bel 4 _ rfl
          clear hy
          go_wp2_with (first
            | ((with_reducible refine gate_builtin (b := .append) (xs := #[.tmp 66, .tmp 74]) rfl ?_); at_builtin; refine Kd.R_append (Kd.int .u8) (w0 := W) W.heap.size rfl (.tmp 66) (.tmp 74) 47 5 (.int .u8 0) 1 rfl Tryz.underlying47 info5 rfl (by decide) (by omega) (.slice A' o'.length c') o' y [.int .u8 y] (fun _ => True) (fun _ => False) rfl rfl (show (Kd.int .u8).M _ _ _ y [.int .u8 y] from rfl) (fun _ hk => hk.elim) (fun _ _ => trivial) HS.out.1.e.r HS.out.1.e.bel HS.out.1.e.bel.size (by omega) ?_
               intro v1 w1' h1 h2 h3 h4
               obtain ⟨A9, c9, rfl⟩ := Kd.R_slice h1
               have H1' := Aside0.mk (HS.out.1.app h1 h2 h3 h4)
               clear h1 h2 h3 h4)
            | go_in)
          go_roundg k6
          case measure => omega
          case rel => exact ⟨s + 1, A9, c9, o' ++ [y], by simp, by go_num, by omega, ⟨H1'.out, by rw [HS.out.2, List.take_add_one, HY.out, ← List.append_assoc]; rfl⟩⟩
end
end Go.Proofs.YtdekmeanlcpenaaGreatDoor.Codec

namespace Go.Proofs.YtdekmeanlcpenaaGreatDoor.SlEq
open Go.RowKit Go.Proofs.YtdekmeanlcpenaaGreatDoorW.PrintWords Go.Proofs.YtdekmeanlcpenaaGreatDoorW.PrintLast Go.Proofs.YtdekmeanlcpenaaGreatDoorW.PrintMore Go.Proofs.YtdekmeanlcpenaaGreatDoor.Codec Go.Proofs.YtdekmeanlcpenaaGreatDoor.Block
attribute [local go_sem] max2_int min2_int max_two min_two max_three min_three max_four min_four
set_option linter.unusedVariables false
set_option linter.unusedSimpArgs false

-- the lines of the kit's print for function 116 of this seat
/-! ### slices_Equal_byte_byte: function 116 -/
def slices_Equal_byte_byte.l0 : Nat → List Int → List Int → Int → Int → Option (Bool)
  | 0, _, _, _, _ => none
  | k + 1, x0, x1, x12, x13 => if x13 < x12 then (if 0 ≤ x13 then (if x13 < (x0.length : Int) then (if x13 < (x1.length : Int) then (if (rd x0 x13) = (rd x1 x13) then (slices_Equal_byte_byte.l0 k x0 x1 x12 (wrap64 (x13 + 1))) else (some false)) else (none)) else (none)) else (none)) else (some true)
def slices_Equal_byte_byte.f (k : Nat) (l0 : List Int) (l1 : List Int) : Option (Bool) := if (l0.length : Int) = (l1.length : Int) then (slices_Equal_byte_byte.l0 k l0 l1 (l0.length : Int) 0) else (some false)
theorem slices_Equal_byte_byte.mono_l : ∀ k, (∀ y0 y1 y2 y3, LeO (slices_Equal_byte_byte.l0 k y0 y1 y2 y3) (slices_Equal_byte_byte.l0 (k + 1) y0 y1 y2 y3))
  | 0 => fun _ _ _ _ r h => by simp [slices_Equal_byte_byte.l0] at h
  | k + 1 => by
    have ih0 := slices_Equal_byte_byte.mono_l k
    · intro y0 y1 y2 y3
      unfold slices_Equal_byte_byte.l0
      repeat' first
      | (with_reducible exact ih0 _ _ _ _)
      | (with_reducible exact LeO.refl _)
      | (with_reducible exact LeO.none _)
      | (with_reducible refine LeO.ite ?_ ?_)
      | (with_reducible refine LeO.bind ?_ (fun _ => ?_))
      | exact ih0 _ _ _ _
      | exact LeO.none _
      | refine LeO.ite ?_ ?_
      | refine LeO.bind ?_ (fun _ => ?_)
theorem slices_Equal_byte_byte.mono : ∀ a0 a1 k, LeO (slices_Equal_byte_byte.f k a0 a1) (slices_Equal_byte_byte.f (k + 1) a0 a1) := by
  intro a0 a1 k
  have ih0 := slices_Equal_byte_byte.mono_l k
  unfold slices_Equal_byte_byte.f
  repeat' first
      | (with_reducible exact ih0 _ _ _ _)
      | (with_reducible exact LeO.refl _)
      | (with_reducible exact LeO.none _)
      | (with_reducible refine LeO.ite ?_ ?_)
      | (with_reducible refine LeO.bind ?_ (fun _ => ?_))
      | exact ih0 _ _ _ _
      | exact LeO.none _
      | refine LeO.ite ?_ ?_
      | refine LeO.bind ?_ (fun _ => ?_)
set_option maxHeartbeats 8000000 in
set_option maxRecDepth 100000 in
theorem slices_Equal_byte_byte.calls (k : Nat) (A0 : Option Addr) (c0 : Nat) (l0 : List Int) (A1 : Option Addr) (c1 : Nat) (l1 : List Int) (r : Bool) (w : World) (hr0 : Kd.C (Kd.int .u8) w A0 l0.length l0) (hc0 : l0.length ≤ c0) (hr1 : Kd.C (Kd.int .u8) w A1 l1.length l1) (hc1 : l1.length ≤ c1) (h : slices_Equal_byte_byte.f k l0 l1 = some r) :
    Calls Tryz.prog 116 #[.slice A0 l0.length c0, .slice A1 l1.length c1] w fun e w' => e = .returned (.bool r) ∧ Drawn0 w w' := by
  have HR0 := Aside0.mk hr0
  have HC0 := Aside0.mk hc0
  clear hr0 hc0
  have HR1 := Aside0.mk hr1
  have HC1 := Aside0.mk hc1
  clear hr1 hc1
  have H : (if (l0.length : Int) = (l1.length : Int) then (slices_Equal_byte_byte.l0 k l0 l1 (l0.length : Int) 0) else (some false)) = some r := h
  clear h
  by_cases c3 : (l0.length : Int) = (l1.length : Int)
  · rw [if_pos c3] at H
    have c3b0 : ((l0.length : Int) == (l1.length : Int)) = true := beq_iff_eq.mpr c3
    have c3b1 : ((l0.length : Int) != (l1.length : Int)) = false := bne_eq_false_iff_eq.mpr c3
    have c3b2 : (l0.length == l1.length) = true := by first | simpa using c3 | (simp at c3 ⊢; omega)
    clear c3
    have H' := Aside0.mk H
    clear H
    go_enter Tryz.func116, Tryz.ntmps116
    go_wp2
    repeat (go_quiet (fail); try go_wp2)
    go_loopg [13] k (fun kq v13 w' => ∃ (x13_1 : Int), v13 = .int .i64 x13_1 ∧ Aside0 (slices_Equal_byte_byte.l0 kq l0 l1 (l0.length : Int) x13_1 = some r) ∧ Aside0 (kq ≤ k) ∧ Drawn0 w w')
    case atStart => exact ⟨(0), (by first | rfl | (simp; done) | (simp [*]; done)), H', ⟨Nat.le_refl _⟩, by repeat (first | exact Drawn0.refl _ | apply Drawn0.step)⟩
    case round =>
      clear H'
      try clear c1
      try clear p2
      try clear c3
      try clear c3b0
      try clear c3b1
      try clear c3b2
      obtain ⟨x13_1, rfl, HA, HK1, ⟨m1, rfl⟩⟩ := hrel
      cases gk with
      | zero => exact absurd HA.out (by simp [slices_Equal_byte_byte.l0])
      | succ k1 =>
        have H := HA.out
        clear HA
        simp only [slices_Equal_byte_byte.l0] at H
        by_cases c4 : x13_1 < (l0.length : Int)
        · rw [if_pos c4] at H
          have c4b0 : decide (x13_1 < (l0.length : Int)) = true := decide_eq_true c4
          clear c4
          by_cases c5 : 0 ≤ x13_1
          · rw [if_pos c5] at H
            have c5b0 : decide (0 ≤ x13_1) = true := decide_eq_true c5
            clear c5
            by_cases c6 : x13_1 < (l0.length : Int)
            · rw [if_pos c6] at H
              have c6b0 : decide (x13_1 < (l0.length : Int)) = true := decide_eq_true c6
              clear c6
              by_cases c7 : x13_1 < (l1.length : Int)
              · rw [if_pos c7] at H
                have c7b0 : decide (x13_1 < (l1.length : Int)) = true := decide_eq_true c7
                clear c7
                by_cases c8 : (rd l0 x13_1) = (rd l1 x13_1)
                · rw [if_pos c8] at H
                  have c8b0 : ((rd l0 x13_1) == (rd l1 x13_1)) = true := beq_iff_eq.mpr c8
                  have c8b1 : ((rd l0 x13_1) != (rd l1 x13_1)) = false := bne_eq_false_iff_eq.mpr c8
                  clear c8
                  have H' := Aside0.mk H
                  clear H
                  have p124 : 0 ≤ (x13_1 : Int) := of_decide_eq_true (by first | (with_reducible assumption) | assumption)
                  have q124 : x13_1 < (l0.length : Int) := of_decide_eq_true (by first | (with_reducible assumption) | assumption)
                  obtain ⟨ad124, e124, hx124_0⟩ := Kd.at_int HR0.out x13_1 p124 q124
                  cases e124
                  replace p124 := eq_true p124
                  replace q124 := eq_true q124
                  have p125 : 0 ≤ (x13_1 : Int) := of_decide_eq_true (by first | (with_reducible assumption) | assumption)
                  have q125 : x13_1 < (l1.length : Int) := of_decide_eq_true (by first | (with_reducible assumption) | assumption)
                  obtain ⟨ad125, e125, hx125_0⟩ := Kd.at_int HR1.out x13_1 p125 q125
                  cases e125
                  replace p125 := eq_true p125
                  replace q125 := eq_true q125
                  go_wp2
                  repeat (go_quiet (fail); try go_wp2)
                  go_roundg k1
                  case measure => have := HK1.out; omega
                  case rel => exact ⟨(wrap64 (x13_1 + 1)), (by first | rfl | (simp; done) | (simp [*]; done)), H', ⟨by have := HK1.out; omega⟩, by repeat (first | exact Drawn0.refl _ | apply Drawn0.step)⟩
                · rw [if_neg c8] at H
                  have c8b0 : ((rd l0 x13_1) == (rd l1 x13_1)) = false := beq_eq_false_iff_ne.mpr c8
                  have c8b1 : ((rd l0 x13_1) != (rd l1 x13_1)) = true := bne_iff_ne.mpr c8
                  obtain rfl := Option.some.inj H
                  have p124 : 0 ≤ (x13_1 : Int) := of_decide_eq_true (by first | (with_reducible assumption) | assumption)
                  have q124 : x13_1 < (l0.length : Int) := of_decide_eq_true (by first | (with_reducible assumption) | assumption)
                  obtain ⟨ad124, e124, hx124_0⟩ := Kd.at_int HR0.out x13_1 p124 q124
                  cases e124
                  replace p124 := eq_true p124
                  replace q124 := eq_true q124
                  have p125 : 0 ≤ (x13_1 : Int) := of_decide_eq_true (by first | (with_reducible assumption) | assumption)
                  have q125 : x13_1 < (l1.length : Int) := of_decide_eq_true (by first | (with_reducible assumption) | assumption)
                  obtain ⟨ad125, e125, hx125_0⟩ := Kd.at_int HR1.out x13_1 p125 q125
                  cases e125
                  replace p125 := eq_true p125
                  replace q125 := eq_true q125
                  go_wp2
                  repeat (go_quiet (fail); try go_wp2)
                  go_ret
                  exact ⟨by first | rfl | (simp; done) | (simp [*]; done), by repeat (first | exact Drawn0.refl _ | apply Drawn0.step)⟩
              · rw [if_neg c7] at H
                exact absurd H (by simp)
            · rw [if_neg c6] at H
              exact absurd H (by simp)
          · rw [if_neg c5] at H
            exact absurd H (by simp)
        · rw [if_neg c4] at H
          have c4b0 : decide (x13_1 < (l0.length : Int)) = false := decide_eq_false c4
          clear c4
          obtain rfl := Option.some.inj H
          go_wp2
          repeat (go_quiet (fail); try go_wp2)
          go_ret
          exact ⟨by first | rfl | (simp; done) | (simp [*]; done), by repeat (first | exact Drawn0.refl _ | apply Drawn0.step)⟩
  · rw [if_neg c3] at H
    have c3b0 : ((l0.length : Int) == (l1.length : Int)) = false := beq_eq_false_iff_ne.mpr c3
    have c3b1 : ((l0.length : Int) != (l1.length : Int)) = true := bne_iff_ne.mpr c3
    have c3b2 : (l0.length == l1.length) = false := by first | simpa using c3 | (simp at c3 ⊢; omega)
    obtain rfl := Option.some.inj H
    go_enter Tryz.func116, Tryz.ntmps116
    go_wp2
    repeat (go_quiet (fail); try go_wp2)
    go_ret
    exact ⟨by first | rfl | (simp; done) | (simp [*]; done), by repeat (first | exact Drawn0.refl _ | apply Drawn0.step)⟩


theorem eq_loop : ∀ (k i : Nat) (a b : List Int), a.length = b.length → a.length ≤ 140737488351232 → a.length < i + k → i ≤ a.length → slices_Equal_byte_byte.l0 k a b (a.length : Int) (i : Int) = some (decide (a.drop i = b.drop i))
  | 0, i, a, b, he, hl, hk, hi => by omega
  | k + 1, i, a, b, he, hl, hk, hi => by
    rw [slices_Equal_byte_byte.l0]
    by_cases h : i < a.length
    · rw [if_pos (by omega), if_pos (by omega), if_pos (by omega), if_pos (by omega), rd_nat, rd_nat, List.getD_eq_getElem?_getD, List.getD_eq_getElem?_getD, List.getElem?_eq_getElem h, List.getElem?_eq_getElem (by omega)]
      have hw : wrap64 ((i : Int) + 1) = ((i + 1 : Nat) : Int) := by unfold wrap64; omega
      rw [List.drop_eq_getElem_cons h, List.drop_eq_getElem_cons (by omega : i < b.length)]
      simp only [Option.getD_some]
      by_cases e : a[i] = b[i]
      · rw [if_pos e, hw, eq_loop k (i + 1) a b he hl (by omega) (by omega)]
        congr 1
        rw [decide_eq_decide]
        exact ⟨fun h => by rw [h, e], fun h => (List.cons.inj h).2⟩
      · rw [if_neg e, decide_eq_false (fun h => e (List.cons.inj h).1)]
    · rw [if_neg (by omega), List.drop_of_length_le (by omega), List.drop_of_length_le (by omega)]
      simp
theorem eq_all (a b : List Int) (hl : a.length ≤ 140737488351232) : slices_Equal_byte_byte.f (a.length + 1) a b = some (decide (a = b)) := by
  rw [slices_Equal_byte_byte.f]
  by_cases h : a.length = b.length
  · rw [if_pos (by omega)]
    have := eq_loop (a.length + 1) 0 a b h hl (by omega) (by omega)
    simpa using this
  · rw [if_neg (by omega)]
    have : a ≠ b := fun e => h (by rw [e])
    simp [this]
theorem equal_any (A0 : Option Addr) (c0 : Nat) (l0 : List Int) (A1 : Option Addr) (c1 : Nat) (l1 : List Int) (w : World) (hr0 : Kd.C (Kd.int .u8) w A0 l0.length l0) (hc0 : l0.length ≤ c0) (hr1 : Kd.C (Kd.int .u8) w A1 l1.length l1) (hc1 : l1.length ≤ c1) (hl : l0.length ≤ 140737488351232) :
    Calls Tryz.prog 116 #[.slice A0 l0.length c0, .slice A1 l1.length c1] w fun e w' => e = .returned (.bool (decide (l0 = l1))) ∧ Below w.heap.size w w' :=
  (slices_Equal_byte_byte.calls _ A0 c0 l0 A1 c1 l1 _ w hr0 hc0 hr1 hc1 (eq_all l0 l1 hl)).mono fun e w' ⟨h1, h2⟩ => ⟨h1, by
    obtain ⟨m, rfl⟩ := h2
    exact pw_below_drewN (Below.refl _ _) m⟩
end Go.Proofs.YtdekmeanlcpenaaGreatDoor.SlEq

namespace Go.Proofs.YtdekmeanlcpenaaGreatDoor.Codec
open Go.RowKit Go.Proofs.YtdekmeanlcpenaaGreatDoorW.PrintWords Go.Proofs.YtdekmeanlcpenaaGreatDoor.Mid Go.Proofs.YtdekmeanlcpenaaGreatDoor.Pick Go.Proofs.YtdekmeanlcpenaaGreatDoor.Block
/-- What reading a journal answers. -/
inductive RetRead (W : World) (l : List Int) (e : Ending) (w' : World) : Prop
  | yes (j : Jn) (A1 : Option Addr) (c1 : Nat) (A2 : Option Addr) (c2 : Nat) (A3 : Option Addr) (c3 : Nat) (V : JnV j) (K : JnOk j) (hl : encW j = l)
      (he : e = .returned (.tuple #[.agg (jC j A1 c1 A2 c2 A3 c3).toArray, .bool true])) (h1 : Kd.R resK 33 w' W.heap.size (fun _ => True) (.slice A1 j.res.length c1) j.res) (h2 : Kd.R idK 29 w' W.heap.size (fun _ => True) (.slice A2 j.need.length c2) j.need) (h3 : Kd.R resK 33 w' W.heap.size (fun _ => True) (.slice A3 j.tab.length c3) j.tab) (hB : Below W.heap.size W w')
  | no (hn : ∀ j, JnV j → JnOk j → encW j ≠ l) (cs : List Value) (hc : cs.length = 6) (h1 : ∀ v ∈ cs, v.oneCell' = true) (he : e = .returned (.tuple #[.agg cs.toArray, .bool false])) (hB : Below W.heap.size W w')
def rd1 (l : List Int) := (RS.start l).fixed 1
def rd2 (l : List Int) := (rd1 l).2.text 112
def rd3 (l : List Int) := (rd2 l).2.fixed 4
def rd4 (l : List Int) := (rd3 l).2.fixed 4
def rd5 (l : List Int) := (rd4 l).2.text l.length
def rd6 (l : List Int) := (rd5 l).2.num
def rd7 (l : List Int) := needS (rd6 l).1 (rd6 l).2
def rd8 (l : List Int) := (rd7 l).2.text l.length
/-- What the bytes say. -/
structure JnRead (l : List Int) (j : Jn) : Prop where
  res : Parsed (rd5 l).1 j.res
  tab : Parsed (rd8 l).1 j.tab
  eq : j = ⟨strOfNums (rd2 l).1, (rd3 l).1, (rd4 l).1, j.res, (rd7 l).1, j.tab⟩
theorem JnRead.one {l : List Int} {i j : Jn} (h : JnRead l i) (h' : JnRead l j) : i = j := by
  have e1 := h.res.one h'.res
  have e2 := h.tab.one h'.tab
  rw [h.eq, h'.eq, e1, e2]
end Go.Proofs.YtdekmeanlcpenaaGreatDoor.Codec
