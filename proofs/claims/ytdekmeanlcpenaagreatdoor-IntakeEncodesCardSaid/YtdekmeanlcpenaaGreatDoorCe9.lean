import Derived.Test.YtdekmeanlcpenaaGreatDoorCe8
import Derived.Test.YtdekmeanlcpenaaGreatDoorCe5
import Derived.OwnWalk
import Derived.Test.YtdekmeanlcpenaaGreatDoorProg
import Derived.Test.YtdekmeanlcpenaaGreatDoorWMore
import Derived.Deep.Slices
import Derived.ChangeSame
import Derived.SizedLaws
import Derived.OpenShut
import Derived.Test.YtdekmeanlcpenaaGreatDoorCe1
import Derived.Test.YtdekmeanlcpenaaGreatDoorCe7
set_option linter.unusedSimpArgs false
set_option linter.unusedVariables false
namespace Go.Proofs.YtdekmeanlcpenaaGreatDoor.Codec
open Go.RowKit Go.Proofs.YtdekmeanlcpenaaGreatDoorW.PrintWords Go.Proofs.YtdekmeanlcpenaaGreatDoor.Mid Go.Proofs.YtdekmeanlcpenaaGreatDoor.Pick Go.Proofs.YtdekmeanlcpenaaGreatDoor.Block
set_option maxHeartbeats 4000000
set_option maxRecDepth 100000
section
variable {P : Program} {ops : Array Oper} {Q : Exit → Act → World → Prop} {md : Region.Mode} {S S' : World → Prop}
theorem wpAnyH_weak (hS : ∀ w, S' w → S w) : ∀ (fuel : Nat) (listed : Array Bool) (a : Act) (w : World), wpAnyH P md ops Q S' fuel listed a w → wpAnyH P md ops Q S fuel listed a w
  | 0, _, _, _, h => h
  | fuel + 1, _, _, _, h => ⟨h.1, fun i hi => wpOp_mono (fun a' w' h' => ⟨hS w' h'.1, wpAnyH_weak hS fuel _ a' w' h'.2⟩) (h.2 i hi)⟩
/-- What comes behind the region is shown once, for all its orders. -/
theorem wpAnyH_rest {G : Nat → Option Addr → Nat → World → Prop} {A : Nat → Option Addr → Nat → Act} {fuel : Nat} {listed : Array Bool} {a : Act} {w : World} (h : (∀ q x c w, G q x c w → Q .normal (A q x c) w) → wpAnyH P md ops Q S fuel listed a w)
    (rest : ∀ q x c w, G q x c w → Q .normal (A q x c) w) : wpAnyH P md ops Q S fuel listed a w := h rest
/-- Two may come up. -/
theorem heldTwo {i j : Nat} {o o' : Oper} {fuel : Nat} {listed : Array Bool} {a : Act} {w : World} (hr : Region.ready md ops listed = [i, j]) (hi : ops[i]? = some o) (hj : ops[j]? = some o') (hw : Region.wanted o (yielded ops a.tmps) = true) (hw' : Region.wanted o' (yielded ops a.tmps) = true)
    (h : o.wp P a w (fun a' w' => S w' ∧ wpAnyH P md ops Q S fuel (listed.setIfInBounds i true) a' w') Q) (h' : o'.wp P a w (fun a' w' => S w' ∧ wpAnyH P md ops Q S fuel (listed.setIfInBounds j true) a' w') Q) : wpAnyH P md ops Q S (fuel + 1) listed a w := by
  refine ⟨fun h0 => (by rw [hr] at h0; cases h0), fun k hk => ?_⟩
  rw [hr] at hk
  rcases List.mem_cons.1 hk with rfl | hk
  · unfold wpOp
    simp only [hi, hw, if_true]
    exact .inl h
  · rw [List.mem_singleton] at hk
    subst hk
    unfold wpOp
    simp only [hj, hw', if_true]
    exact .inl h'
end
theorem R_lowE {α : Type} {d : Kd α} {e : TypeId} {W W1 : World} {b b0 : Nat} {v : Value} {xs : List α} (hE : d.E = []) (h : d.R e W b (fun _ => True) v xs) (hl : ∀ k, v.ownBlock = some k → k < b0) (hb : Below b0 W W1) : d.R e W1 b (fun _ => True) v xs :=
  Kd.R_mono (Kd.R_move (ok := fun k => some k = v.ownBlock) (Kd.R_tight hE h) (fun k hk => hb.block k (hl k hk.symm))) (fun _ _ => trivial)
theorem text_data (s : RS) (n : Nat) : (s.text n).2.data = s.data := by rw [RS.text]; split <;> (try split) <;> (try split) <;> (try split) <;> rfl
theorem num_data (s : RS) : s.num.2.data = s.data := by rw [RS.num]; split <;> (try split) <;> rfl
theorem und9 : Tryz.prog.underlying 9 = some .string := by kernel_rfl
theorem text_byt {s : RS} (h : Byt s.data) (n : Nat) : Byt (s.text n).1 ∧ (s.text n).1.length ≤ n := by
  rw [RS.text]
  split
  · exact ⟨byt_nil, by simp⟩
  · split
    · exact ⟨byt_nil, by simp⟩
    · split
      · exact ⟨byt_nil, by simp⟩
      · split
        · exact ⟨byt_nil, by simp⟩
        · exact ⟨byt_take (byt_drop (byt_drop h _) _) _, by rw [List.length_take]; omega⟩
theorem parse_yes (W : World) (A : Option Addr) (c : Nat) (l : List Int) (hC : Kd.C (Kd.int .u8) W A l.length l) (hb : Byt l) (hl : l.length ≤ 1000000000000) {rs : List Res} (hP : Parsed l rs) :
    Calls Tryz.prog 111 #[.slice A l.length c] W fun e w' => ∃ A1 c1, e = .returned (.tuple #[.slice A1 rs.length c1, .int .i64 0]) ∧ Kd.R resK 33 w' W.heap.size (fun _ => True) (.slice A1 rs.length c1) rs ∧ (∀ r ∈ rs, ResOk r) ∧ Below W.heap.size W w' :=
  (parse_any W A c l hC hb hl).mono fun e w' h => by
    cases h with
    | yes qs A1 c1 hQ ok he hR hB =>
      obtain rfl := hP.one hQ
      exact ⟨A1, c1, he, hR, ok, hB⟩
    | no hn _ _ => exact absurd hP (hn rs)
theorem parse_no (W : World) (A : Option Addr) (c : Nat) (l : List Int) (hC : Kd.C (Kd.int .u8) W A l.length l) (hb : Byt l) (hl : l.length ≤ 1000000000000) (hP : ¬ ∃ rs, Parsed l rs) :
    Calls Tryz.prog 111 #[.slice A l.length c] W fun e w' => e = .returned (.tuple #[.slice none 0 0, .int .i64 80]) ∧ Below W.heap.size W w' :=
  (parse_any W A c l hC hb hl).mono fun e w' h => by
    cases h with
    | yes qs A1 c1 hQ ok he hR hB => exact absurd ⟨qs, hQ⟩ hP
    | no _ he hB => exact ⟨he, hB⟩
theorem str_bytes {x : List Int} (h : Byt x) : sBytes (strOfNums x) = x := by
  rw [sBytes, strOfNums_data, List.map_map]
  conv => rhs; rw [← List.map_id x]
  apply List.map_congr_left
  intro y hy
  have := h y hy
  simp
  omega
/-- A journal whose form was read is what was read. -/
theorem got_is {j : Jn} {x1 x3 x4 : Int} {x2 x5 x8 : List Int} {n : Nat} {x7 : List (List Int)} {s : RS} {t : List Int} (V : JnV j) (K : JnOk j) (G : GotEnc j x1 x2 x3 x4 x5 n x7 x8 s t) {rs qs : List Res} (hb : Byt x2) (h5 : Parsed x5 rs) (h8 : Parsed x8 qs) : j = ⟨strOfNums x2, x3, x4, rs, x7, qs⟩ := by
  have r5 := parsed_tab K.res V.res
  rw [← G.res] at r5
  have r8 := parsed_tab K.tab V.tab
  rw [← G.tab] at r8
  obtain rfl := h5.one r5
  obtain rfl := h8.one r8
  have e : strOfNums x2 = j.name := sBytes_inj ((str_bytes hb).trans G.name)
  rw [e, G.ent, G.idx, G.need]
theorem info29z : ((Tryz.prog.info? 29).bind (·.zero)).map (·.cells.size) = some 32 := by kernel_rfl
theorem info29b : (Tryz.prog.info? 29).map (fun i => (i.size, i.bytes)) = some (32, 32) := by kernel_rfl
theorem info29x : ∃ z : Value, (Tryz.prog.info? 29).map (fun i => (i.zero, i.size, i.bytes)) = some (some z, 32, 32) ∧ z.cells.size = 32 := by
  have h1 := info29z
  have h2 := info29b
  cases h : Tryz.prog.info? 29 with
  | none => rw [h] at h2; cases h2
  | some i =>
    rw [h] at h1 h2
    simp only [Option.bind_some, Option.map_some, Option.some.injEq, Prod.mk.injEq] at h1 h2
    cases hz : i.zero with
    | none => rw [hz] at h1; cases h1
    | some z =>
      rw [hz] at h1
      simp only [Option.map_some, Option.some.injEq] at h1
      exact ⟨z, by simp only [Option.map_some, hz, h2.1, h2.2], h1⟩
theorem wpList_build29 {ops : Array Oper} {rest : List Oper} {o : Oper} {a : Act} {w : World} {Q : Exit → Act → World → Prop} (hg : o.guard = none) (x : Operand) (ho : o.op = .buildSlice 23 1 #[(0, x)]) (r : List Int) (hr : IdOk r) (hx : a.eval x = .agg (u8s r).toArray)
    (h : wpList Tryz.prog ops Q rest (a.put o.dst (.slice (some ⟨w.heap.size, 0, none⟩) 1 1)) (w.alloc (.cells (u8s r).toArray 29))) : wpList Tryz.prog ops Q (o :: rest) a w := by
  obtain ⟨z, h1, h2⟩ := info29x
  refine wpList_buildRows hg 1 _ ho [u8s r] Tryz.underlying23 ⟨z, _, h1, h2⟩ (by simp [hx]) (fun v hv => by rw [List.mem_singleton.1 hv, u8s_length, hr.len]) rfl (by decide) (by decide) ?_
  simpa using h
theorem below_grown {b q : Nat} {w w1 : World} (hG : w.grownBy w1 (some q)) (hq : b ≤ q) (hb : b ≤ w.heap.size) : Below b w w1 := (Below.refl _ _).grown hG hb (fun k hk => by cases hk; exact hq)
theorem needS_len : ∀ (k : Nat) (s : RS), (needS k s).1.length = k
  | 0, _ => rfl
  | k + 1, s => by rw [needS, List.length_cons, needS_len k]
theorem needS_data : ∀ (k : Nat) (s : RS), (needS k s).2.data = s.data
  | 0, _ => rfl
  | k + 1, s => by rw [needS]; simp only; rw [needS_data k, raw_data]
theorem parse_w (W : World) (A : Option Addr) (c : Nat) (l : List Int) (hC : Kd.C (Kd.int .u8) W A l.length l) (hb : Byt l) (hl : l.length ≤ 1000000000000) :
    Calls Tryz.prog 111 #[.slice A l.length c] W fun e w' => ∃ A1 n1 c1 m, e = .returned (.tuple #[.slice A1 n1 c1, .int .i64 m]) ∧ Below W.heap.size W w' :=
  (parse_any W A c l hC hb hl).mono fun e w' h => by
    cases h with
    | yes qs A1 c1 hQ ok he hR hB => exact ⟨A1, _, c1, _, he, hB⟩
    | no _ he hB => exact ⟨_, _, _, _, he, hB⟩
theorem needS_ok : ∀ (k : Nat) (s : RS) (xs : List (List Int)) (s1 : RS), needS k s = (xs, s1) → Byt s.data → ∀ x ∈ xs, IdOk x
  | 0, s, xs, s1, h, _, x, hx => by rw [needS] at h; injection h with h1 h2; rw [← h1] at hx; cases hx
  | k + 1, s, xs, s1, h, hb, x, hx => by
    rw [needS] at h
    injection h with h1 h2
    rw [← h1] at hx
    rcases List.mem_cons.1 hx with rfl | hx
    · have := raw_byt hb 32
      exact pad32_ok this.2 this.1
    · exact needS_ok k (s.raw 32).2 _ _ rfl (by rw [raw_data]; exact hb) x hx
/-- A journal's cells. -/
def jV (name : ByteArray) (e i : Int) (v3 v4 v5 : Value) : List Value := [.string name, .int .i64 e, .int .i64 i, v3, v4, v5]
def nilS : Value := .slice none 0 0
/-- Reading a journal: the reader, the variable of the answer, so far. -/
structure JP (W : World) (g k : Nat) (D : Option Addr) (q2 : Nat) (w : World) (s : RS) : Prop where
  rd : Rd w g D k s
  out : w.heap[q2]? = some (.cells (jV .empty 0 0 nilS nilS nilS).toArray 60 (0, 0))
  bel : Below W.heap.size W w
  old : W.heap.size ≤ q2
  lt2 : q2 < g
  dlt : 0 < s.data.length → ∀ ad, D = some ad → q2 < ad.block
/-- .. and the journal's own variable. -/
structure JS (W : World) (g k : Nat) (D : Option Addr) (q2 q5 : Nat) (w : World) (s : RS) (cs : List Value) : Prop where
  jp : JP W g k D q2 w s
  blk : w.heap[q5]? = some (.cells cs.toArray 60 (0, 0))
  lt : g < q5
  dlt : 0 < s.data.length → ∀ ad, D = some ad → ad.block < q5
section
variable {W w w1 : World} {g k q2 q5 : Nat} {D : Option Addr} {s s1 : RS} {cs ds : List Value}
theorem JP.below (h : JP W g k D q2 w s) (hb : Below w.heap.size w w1) : JP W g k D q2 w1 s :=
  ⟨h.rd.below hb, blk_below h.out hb, h.bel.trans (hb.mono h.bel.size), h.old, h.lt2, h.dlt⟩
theorem JP.step (h : JP W g k D q2 w s) (hr : Rd w1 g D k s1) (hd : s1.data = s.data) (hG : w.grownBy w1 (some g)) : JP W g k D q2 w1 s1 :=
  ⟨hr, blk_grown h.out hG (fun e => absurd (Option.some.inj e) (by have := h.lt2; omega)), h.bel.grown hG h.bel.size (fun k hk => by cases hk; have := h.old; have := h.lt2; omega), h.old, h.lt2, by rw [hd]; exact h.dlt⟩
theorem JP.low {b : Nat} (h : JP W g k D q2 w s) (hg : g < b) (hD : 0 < s.data.length → ∀ ad, D = some ad → ad.block < b) (hb : Below b w w1) : JP W g k D q2 w1 s :=
  ⟨h.rd.low hg hD hb, (hb.block q2 (by have := h.lt2; omega)).trans h.out, h.bel.trans (hb.mono (by have := h.old; have := h.lt2; omega)), h.old, h.lt2, h.dlt⟩
theorem JP.new (h : JP W g k D q2 w s) : JS W g k D q2 w.heap.size (w.alloc (.cells (jV .empty 0 0 nilS nilS nilS).toArray 60)) s (jV .empty 0 0 nilS nilS nilS) :=
  ⟨h.below (below_alloc (Below.refl _ _) _), heap_alloc_new w _, h.rd.lt, h.rd.dlt⟩
theorem JS.below (h : JS W g k D q2 q5 w s cs) (hb : Below w.heap.size w w1) : JS W g k D q2 q5 w1 s cs := ⟨h.jp.below hb, blk_below h.blk hb, h.lt, h.dlt⟩
theorem JS.step (h : JS W g k D q2 q5 w s cs) (hr : Rd w1 g D k s1) (hd : s1.data = s.data) (hG : w.grownBy w1 (some g)) : JS W g k D q2 q5 w1 s1 cs :=
  ⟨h.jp.step hr hd hG, blk_grown h.blk hG (fun e => absurd (Option.some.inj e) (by have := h.lt; omega)), h.lt, by rw [hd]; exact h.dlt⟩
theorem JS.low (h : JS W g k D q2 q5 w s cs) {b : Nat} (hq : q5 < b) (hb : Below b w w1) : JS W g k D q2 q5 w1 s cs :=
  ⟨h.jp.low (by have := h.lt; omega) (fun h0 ad he => by have := h.dlt h0 ad he; omega) hb, (hb.block q5 hq).trans h.blk, h.lt, h.dlt⟩
theorem JS.put (h : JS W g k D q2 q5 w s cs) (hb : w1.heap[q5]? = some (.cells ds.toArray 60 (0, 0))) (hG : w.grownBy w1 (some q5)) : JS W g k D q2 q5 w1 s ds :=
  ⟨⟨h.jp.rd.beside (by have := h.lt; omega) (fun h0 ad he => by have := h.dlt h0 ad he; omega) hG, blk_grown h.jp.out hG (fun e => absurd (Option.some.inj e) (by have := h.lt; have := h.jp.lt2; omega)), h.jp.bel.grown hG h.jp.bel.size (fun k hk => by cases hk; have := h.lt; have := h.jp.lt2; have := h.jp.old; omega), h.jp.old, h.jp.lt2, h.jp.dlt⟩, hb, h.lt, h.dlt⟩
theorem JS.lt5 (h : JS W g k D q2 q5 w s cs) : q5 < w.heap.size := blk_lt h.blk
end
theorem results_ct60 {fn : Func} {p q : Tmp} {cs : List Value} (hc : cs.length = 6) (h : fn.results = #[.cell q 60, .tmp p]) (tmps : Array Value) (w : World) (g : Nat)
    (hp : tmps.getD q undef = .pointer (some ⟨g, 0, none⟩)) (hg : w.heap[g]? = some (.cells cs.toArray 60 (0, 0))) :
    (results fn tmps).run Tryz.prog w = .ok (.tuple #[.agg cs.toArray, tmps.getD p undef]) w := by
  have hp' : tmps[q]?.getD undef = .pointer (some ⟨g, 0, none⟩) := by simpa using hp
  have hl := run_loadVar_at (P := Tryz.prog) w ⟨g, 0, none⟩ 60 cs _ (At.blk hg) Tryz.underlying60 rfl (by rw [hc]; exact info60)
  simp [results, h, hp', asAddr, hl]
theorem jC_one {j : Jn} {A1 A2 A3 : Option Addr} {c1 c2 c3 : Nat} : ∀ v ∈ jC j A1 c1 A2 c2 A3 c3, v.oneCell' = true := by
  intro v hv
  simp only [jC, List.mem_cons, List.not_mem_nil, or_false] at hv
  rcases hv with rfl | rfl | rfl | rfl | rfl | rfl <;> rfl
theorem jV_one {name : ByteArray} {e i : Int} {v3 v4 v5 : Value} (h3 : v3.oneCell' = true) (h4 : v4.oneCell' = true) (h5 : v5.oneCell' = true) : ∀ v ∈ jV name e i v3 v4 v5, v.oneCell' = true := by
  intro v hv
  simp only [jV, List.mem_cons, List.not_mem_nil, or_false] at hv
  rcases hv with rfl | rfl | rfl | rfl | rfl | rfl <;> first | rfl | assumption
end Go.Proofs.YtdekmeanlcpenaaGreatDoor.Codec

namespace Go.Proofs.YtdekmeanlcpenaaGreatDoor.Law
open Go.RowKit Go.Proofs.YtdekmeanlcpenaaGreatDoorW.PrintWords Go.Proofs.YtdekmeanlcpenaaGreatDoorW.PrintLast Go.Proofs.YtdekmeanlcpenaaGreatDoorW.PrintMore Go.Proofs.YtdekmeanlcpenaaGreatDoor.Mid Go.Proofs.YtdekmeanlcpenaaGreatDoor.Pick Go.Proofs.YtdekmeanlcpenaaGreatDoor.Err Go.Proofs.YtdekmeanlcpenaaGreatDoor.Codec
attribute [local go_sem ↓ high] load33_eq load29_eq build33_eq build29_eq
attribute [local simp] rowOf_drew rowOf_drewN
attribute [local go_sem high] load33_row load29_row rowOf_drew rowOf_drewN bld29_none
set_option maxHeartbeats 4000000
set_option maxRecDepth 100000
set_option linter.unusedVariables false
set_option linter.unusedSimpArgs false
section
variable {P : Program} {ops : Array Oper} {rest : List Oper} {o : Oper} {a : Act} {Q : Exit → Act → World → Prop} {w : World} {α : Type}
/-- make([]T, 0, n): a row of one's own, empty, with room. -/
theorem R_make0 (d : Kd α) (hg : o.guard = none) (l c : Operand) (t : TypeId) (hop : o.op = Op.makeSlice t l c) (e : TypeId) (z : Value) (bytes : Nat) (ht : P.underlying t = some (.slice e))
    (hinfo : (P.info? e).map (fun i => (i.zero, i.size, i.bytes)) = some (some z, d.sz, bytes)) (hz : z.cells.size = d.sz) (hs0 : 0 < d.sz) (C : Int) (n : Nat) (hl : a.eval l = .int .i64 0) (hc : a.eval c = .int .i64 C) (hC : C = (n : Int)) (hb : bytes * n ≤ 281474976710656) (hn : n ≤ maxLen)
    (h : ∀ w1, d.R e w1 w.heap.size (fun _ => True) (.slice (some ⟨w.heap.size, 0, none⟩) 0 n) [] → w.grownBy w1 none → wpList P ops Q rest (a.put o.dst (.slice (some ⟨w.heap.size, 0, none⟩) 0 n)) w1) : wpList P ops Q (o :: rest) a w := by
  obtain ⟨i, hi, hzz⟩ := Option.map_eq_some_iff.1 hinfo
  simp only [Prod.mk.injEq] at hzz
  obtain ⟨h1, h2, h3⟩ := hzz
  refine wpList_make_own w hg l c t hop w.heap.size e i z d.sz ht hi h1 h2 .i64 .i64 C n hl hc hC (by rw [h3]; exact hb) hn (Nat.le_refl _) (fun w1 g1 g2 => h w1 ⟨fun _ _ => trivial, [], ?_, Reps.none _ _⟩ g2)
  exact g1
end
def m7 : Res := codeR (-7)
theorem m7_ok : ResOk m7 := ⟨z32_ok, z32_ok, by show _ ≤ (-7 : Int) ∧ (-7 : Int) ≤ _; decide⟩
theorem m77_ok : ∀ r ∈ [m7, m7], ResOk r := fun r hr => by simp at hr; rw [hr]; exact m7_ok
def b171 : List Int := b1 171
theorem b171_ok : IdOk b171 := b1_ok (by decide)
theorem b1717_ok : ∀ r ∈ [b171, b171], IdOk r := fun r hr => by simp at hr; rw [hr]; exact b171_ok
theorem bldM (w : World) : (bld 33 #[(2, .int .i64 (-7))]).run Tryz.prog w = .ok (.agg (resC m7).toArray) w := by kernel_rfl
theorem bldM1 (w : World) : (bld 29 #[(0, .int .u8 171)]).run Tryz.prog w = .ok (.agg (u8s b171).toArray) w := bldB 171 w
attribute [local irreducible] b171 m7
attribute [local go_sem high] bldM bldM1
theorem roomy_res (A : Option Addr) (c : Nat) (l : List Res) (w : World) (hC : resK.C w A l.length l) (ok : ∀ r ∈ l, ResOk r) (hl : l.length * 72 ≤ 140737488351232) :
    Calls Tryz.prog 46 #[.slice A l.length c] w fun e w' => ∃ g k, e = .returned (.slice (some ⟨g, 0, none⟩) l.length k) ∧ Kd.R resK 33 w' w.heap.size (fun _ => True) (.slice (some ⟨g, 0, none⟩) (l.length + 2) k) (l ++ [m7, m7]) ∧ Below w.heap.size w w' := by
  have HC := Aside0.mk hC
  have HOK := Aside0.mk ok
  have HL := Aside0.mk hl
  have h1 : l.length ≤ 5000000000000 := by omega
  clear hC ok hl
  go_enter Tryz.func46, Tryz.ntmps46
  go_upto_region 2 with (first
    | (refine R_make0 resK rfl _ _ 22 rfl 33 z33v 72 Tryz.underlying22 info33full' rfl (by decide) ((l.length : Int) + 2) (l.length + 2) rfl rfl (by simp) (by have := HL.out; omega) (by unfold maxLen; omega) ?_
       intro w1 g1 g2
       have H1 : Aside0 (Kd.R resK 33 w1 w.heap.size (fun _ => True) (.slice (some ⟨w.heap.size, 0, none⟩) 0 (l.length + 2)) [] ∧ Below w.heap.size w w1) := ⟨g1, (Below.refl _ _).grown g2 (Nat.le_refl _) (fun k hk => by cases hk)⟩
       clear g1 g2)
    | ((with_reducible refine gate_builtin (b := .append) (xs := #[.tmp 7, .tmp 8]) rfl ?_); at_builtin; refine Kd.R_append_rows resK (Rr := fun r cs => ResOk r ∧ cs = resC r) (w0 := w) w.heap.size rfl (.tmp 7) (.tmp 8) 22 33 z33v 72 rfl Tryz.underlying22 info33full' rfl (by decide) (by decide) (.slice (some ⟨w.heap.size, 0, none⟩) 0 (l.length + 2)) [] l A l.length c (fun _ => True) (fun _ => False) rfl rfl H1.out.1 (Kd.C_below HC.out H1.out.2) (fun _ _ h => h) (fun _ h => h.elim) (fun _ _ => trivial) H1.out.2 H1.out.2.size (by have := HL.out; simp; omega) ?_
       intro v2 w2 g1 g2 g3 g4
       rw [List.nil_append] at g1
       obtain ⟨A2, k2, rfl⟩ := Kd.R_slice g1
       have H2 := Aside0.mk (And.intro g1 g2)
       clear g1 g2 g3 g4)
    | go_in)
  go_wp2_with (first
    | (refine wpList_rows33 [m7, m7] rfl 2 _ rfl m77_ok rfl rfl (by decide) (by decide) ?_
       intro A3 w3 g1 g2
       have H3 : Aside0 (resK.C w3 A3 2 [m7, m7] ∧ Below w2.heap.size w2 w3) := ⟨(C_of_own33 g1 m77_ok).2.2, g2⟩
       clear g1 g2)
    | ((with_reducible refine gate_builtin (b := .append) (xs := #[.tmp 10, .tmp 13]) rfl ?_); at_builtin; refine Kd.R_append_rows resK (Rr := fun r cs => ResOk r ∧ cs = resC r) (w0 := w) w.heap.size rfl (.tmp 10) (.tmp 13) 22 33 z33v 72 rfl Tryz.underlying22 info33full' rfl (by decide) (by decide) (.slice A2 l.length k2) l [m7, m7] A3 2 2 (fun _ => True) (fun _ => False) rfl rfl (Kd.R_below H2.out.1 H3.out.2) H3.out.1 (fun _ _ h => h) (fun _ h => h.elim) (fun _ _ => trivial) (below_step H2.out.2 H3.out.2) (below_step H2.out.2 H3.out.2).size (by have := HL.out; omega) ?_
       intro v4 w4 g1 g2 g3 g4
       obtain ⟨g, k4, rfl, _, _, _⟩ := Kd.R_form g1 (by simp)
       have hk : l.length + 2 ≤ k4 := by have h := (Kd.R_reads' g1).2.1; simpa using h
       have hk1 : (l.length : Int) ≤ (k4 : Int) := by omega
       have hk2 : l.length ≤ k4 := by omega
       have H4 := Aside0.mk (And.intro g1 g2)
       clear g1 g2 g3 g4)
    | go_in)
  go_ret
  refine ⟨g, k4, rfl, ?_, H4.out.2⟩
  have h := H4.out.1
  rw [List.length_append] at h
  exact h
theorem roomy_ids (A : Option Addr) (c : Nat) (l : List (List Int)) (w : World) (hC : idK.C w A l.length l) (ok : ∀ r ∈ l, IdOk r) (hl : l.length * 32 ≤ 140737488351232) :
    Calls Tryz.prog 47 #[.slice A l.length c] w fun e w' => ∃ g k, e = .returned (.slice (some ⟨g, 0, none⟩) l.length k) ∧ Kd.R idK 29 w' w.heap.size (fun _ => True) (.slice (some ⟨g, 0, none⟩) (l.length + 2) k) (l ++ [b171, b171]) ∧ Below w.heap.size w w' := by
  have HC := Aside0.mk hC
  have HOK := Aside0.mk ok
  have HL := Aside0.mk hl
  have h1 : l.length ≤ 5000000000000 := by omega
  clear hC ok hl
  go_enter Tryz.func47, Tryz.ntmps47
  go_upto_region 2 with (first
    | (refine R_make0 idK rfl _ _ 23 rfl 29 z29v 32 Tryz.underlying23 info29full rfl (by decide) ((l.length : Int) + 2) (l.length + 2) rfl rfl (by simp) (by have := HL.out; omega) (by unfold maxLen; omega) ?_
       intro w1 g1 g2
       have H1 : Aside0 (Kd.R idK 29 w1 w.heap.size (fun _ => True) (.slice (some ⟨w.heap.size, 0, none⟩) 0 (l.length + 2)) [] ∧ Below w.heap.size w w1) := ⟨g1, (Below.refl _ _).grown g2 (Nat.le_refl _) (fun k hk => by cases hk)⟩
       clear g1 g2)
    | ((with_reducible refine gate_builtin (b := .append) (xs := #[.tmp 7, .tmp 8]) rfl ?_); at_builtin; refine Kd.R_append_rows idK (Rr := fun r cs => IdOk r ∧ cs = u8s r) (w0 := w) w.heap.size rfl (.tmp 7) (.tmp 8) 23 29 z29v 32 rfl Tryz.underlying23 info29full rfl (by decide) (by decide) (.slice (some ⟨w.heap.size, 0, none⟩) 0 (l.length + 2)) [] l A l.length c (fun _ => True) (fun _ => False) rfl rfl H1.out.1 (Kd.C_below HC.out H1.out.2) (fun _ _ h => h) (fun _ h => h.elim) (fun _ _ => trivial) H1.out.2 H1.out.2.size (by have := HL.out; simp; omega) ?_
       intro v2 w2 g1 g2 g3 g4
       rw [List.nil_append] at g1
       obtain ⟨A2, k2, rfl⟩ := Kd.R_slice g1
       have H2 := Aside0.mk (And.intro g1 g2)
       clear g1 g2 g3 g4)
    | go_in)
  go_wp2_with (first
    | (refine wpList_rows29 [b171, b171] rfl 2 _ rfl b1717_ok rfl rfl (by decide) (by decide) ?_
       intro A3 w3 g1 g2
       have H3 : Aside0 (idK.C w3 A3 2 [b171, b171] ∧ Below w2.heap.size w2 w3) := ⟨(C_of_own29 g1 b1717_ok).2.2, g2⟩
       clear g1 g2)
    | ((with_reducible refine gate_builtin (b := .append) (xs := #[.tmp 10, .tmp 13]) rfl ?_); at_builtin; refine Kd.R_append_rows idK (Rr := fun r cs => IdOk r ∧ cs = u8s r) (w0 := w) w.heap.size rfl (.tmp 10) (.tmp 13) 23 29 z29v 32 rfl Tryz.underlying23 info29full rfl (by decide) (by decide) (.slice A2 l.length k2) l [b171, b171] A3 2 2 (fun _ => True) (fun _ => False) rfl rfl (Kd.R_below H2.out.1 H3.out.2) H3.out.1 (fun _ _ h => h) (fun _ h => h.elim) (fun _ _ => trivial) (below_step H2.out.2 H3.out.2) (below_step H2.out.2 H3.out.2).size (by have := HL.out; omega) ?_
       intro v4 w4 g1 g2 g3 g4
       obtain ⟨g, k4, rfl, _, _, _⟩ := Kd.R_form g1 (by simp)
       have hk : l.length + 2 ≤ k4 := by have h := (Kd.R_reads' g1).2.1; simpa using h
       have hk1 : (l.length : Int) ≤ (k4 : Int) := by omega
       have hk2 : l.length ≤ k4 := by omega
       have H4 := Aside0.mk (And.intro g1 g2)
       clear g1 g2 g3 g4)
    | go_in)
  go_ret
  refine ⟨g, k4, rfl, ?_, H4.out.2⟩
  have h := H4.out.1
  rw [List.length_append] at h
  exact h
end Go.Proofs.YtdekmeanlcpenaaGreatDoor.Law

namespace Go.Proofs.YtdekmeanlcpenaaGreatDoor.Law
open Go.RowKit Go.Proofs.YtdekmeanlcpenaaGreatDoorW.PrintWords Go.Proofs.YtdekmeanlcpenaaGreatDoorW.PrintLast Go.Proofs.YtdekmeanlcpenaaGreatDoorW.PrintMore Go.Proofs.YtdekmeanlcpenaaGreatDoor.Mid Go.Proofs.YtdekmeanlcpenaaGreatDoor.Pick Go.Proofs.YtdekmeanlcpenaaGreatDoor.Err Go.Proofs.YtdekmeanlcpenaaGreatDoor.Codec
attribute [local go_sem ↓ high] load33_eq load29_eq load60_eq build33_eq build29_eq
attribute [local simp] rowOf_drew rowOf_drewN
attribute [local go_sem high] load33_row load29_row load60_row rowOf_drew rowOf_drewN bldM bldM1
attribute [local irreducible] b171 m7
set_option maxHeartbeats 4000000
set_option maxRecDepth 100000
set_option linter.unusedVariables false
set_option linter.unusedSimpArgs false
theorem behind_get {α : Type} (l : List α) (x : α) (i : Nat) (hi : i < 2) : (l ++ [x, x])[l.length + i]? = some x := by
  rw [List.getElem?_append_right (by omega), Nat.add_sub_cancel_left]
  match i, hi with
  | 0, _ => rfl
  | 1, _ => rfl
theorem marked_true (A : Option Addr) (c : Nat) (rs : List Res) (B : Option Addr) (d : Nat) (xs : List (List Int)) (w : World) (hC : resK.C w A (rs.length + 2) (rs ++ [m7, m7])) (hc : rs.length + 2 ≤ c) (hD : idK.C w B (xs.length + 2) (xs ++ [b171, b171])) (hd : xs.length + 2 ≤ d)
    (h1 : rs.length ≤ 5000000000000) (h2 : xs.length ≤ 5000000000000) :
    Calls Tryz.prog 24 #[.slice A rs.length c, .slice B xs.length d] w fun e w' => e = .returned (.bool true) ∧ Below w.heap.size w w' := by
  have HC := Aside0.mk hC
  have HD := Aside0.mk hD
  obtain ⟨M, hM⟩ : ∃ M : Nat, (rs.length : Int) + 2 = (M : Int) := ⟨rs.length + 2, by omega⟩
  obtain ⟨K, hK⟩ : ∃ K : Nat, (xs.length : Int) + 2 = (K : Int) := ⟨xs.length + 2, by omega⟩
  have m1 : (M : Int) ≤ (c : Int) := by omega
  have m2 : (K : Int) ≤ (d : Int) := by omega
  have m3 : M ≤ c := by omega
  have m4 : K ≤ d := by omega
  have HM : Aside0 (M = rs.length + 2 ∧ K = xs.length + 2) := ⟨by omega, by omega⟩
  clear hC hD
  go_enter Tryz.func24, Tryz.ntmps24
  go_wp2
  go_loopg [7] 2 (fun k v7 w' => ∃ i : Nat, v7 = .int .i64 i ∧ i + k = 2 ∧ Aside0 (Below w.heap.size w w'))
  case atStart => exact ⟨0, rfl, by omega, ⟨Below.refl _ _⟩⟩
  case round =>
    obtain ⟨i, rfl, hik, HB⟩ := hrel
    cases gk with
    | zero =>
      obtain rfl : i = 2 := by omega
      clear hik
      go_wp2
      go_ret
      exact ⟨rfl, HB.out⟩
    | succ k =>
      have hi : i < 2 := by omega
      have hi1 : (i : Int) < 2 := by omega
      obtain ⟨ja, hja⟩ : ∃ ja : Nat, (rs.length : Int) + (i : Int) = (ja : Int) := ⟨rs.length + i, by omega⟩
      obtain ⟨jb, hjb⟩ : ∃ jb : Nat, (xs.length : Int) + (i : Int) = (jb : Int) := ⟨xs.length + i, by omega⟩
      obtain ⟨ad, r, e0, hr, ho, hat⟩ := res_at (Kd.C_below HC.out HB.out) ja (by omega)
      obtain ⟨ad1, x, e1, hx, hxo, hxt⟩ := id_at (Kd.C_below HD.out HB.out) jb (by omega)
      subst e0 e1
      obtain rfl : r = m7 := by
        have h := behind_get rs m7 i hi
        rw [show rs.length + i = ja by omega, hr] at h
        exact Option.some.inj h
      obtain rfl : x = b171 := by
        have h := behind_get xs b171 i hi
        rw [show xs.length + i = jb by omega, hx] at h
        exact Option.some.inj h
      have g1 := hat.res ho
      have g2 := hxt.id hxo
      have j1 : (ja : Int) < (M : Int) := by have := HM.out; omega
      have j2 : (jb : Int) < (K : Int) := by have := HM.out; omega
      have heq : ∀ u, (Op.equalIn 10000 33 (.agg (resC m7).toArray) (.agg (resC m7).toArray)).run Tryz.prog u = .ok true u := fun u => by rw [eqI33 u _ _ m7_ok m7_ok, decide_eq_true rfl]
      have heq1 : ∀ u, (Op.equalIn 10000 29 (.agg (u8s b171).toArray) (.agg (u8s b171).toArray)).run Tryz.prog u = .ok true u := fun u => by rw [eqI29 u _ _ b171_ok b171_ok, decide_eq_true rfl]
      clear hr ho hat hx hxo hxt
      go_wp2
      go_roundg k
      case measure => omega
      case rel => exact ⟨i + 1, by go_num, by omega, HB⟩
theorem results_c60 {fn : Func} {q : Tmp} {cs : List Value} (hc : cs.length = 6) (h : fn.results = #[.cell q 60]) (tmps : Array Value) (w : World) (g : Nat)
    (hp : tmps.getD q undef = .pointer (some ⟨g, 0, none⟩)) (hg : w.heap[g]? = some (.cells cs.toArray 60 (0, 0))) :
    (results fn tmps).run Tryz.prog w = .ok (.agg cs.toArray) w := by
  have hp' : tmps[q]?.getD undef = .pointer (some ⟨g, 0, none⟩) := by simpa using hp
  have hl := run_loadVar_at (P := Tryz.prog) w ⟨g, 0, none⟩ 60 cs _ (At.blk hg) Tryz.underlying60 rfl (by rw [hc]; exact info60)
  simp [results, h, hp', asAddr, hl]
/-- A journal in rows of its own, with marked room behind them. -/
structure Own3 (w0 : World) (j : Jn) (g1 c1 g2 c2 g3 c3 : Nat) (w : World) : Prop where
  r1 : Kd.R resK 33 w w0.heap.size (fun _ => True) (.slice (some ⟨g1, 0, none⟩) (j.res.length + 2) c1) (j.res ++ [m7, m7])
  r2 : Kd.R idK 29 w w0.heap.size (fun _ => True) (.slice (some ⟨g2, 0, none⟩) (j.need.length + 2) c2) (j.need ++ [b171, b171])
  r3 : Kd.R resK 33 w w0.heap.size (fun _ => True) (.slice (some ⟨g3, 0, none⟩) (j.tab.length + 2) c3) (j.tab ++ [m7, m7])
  ne1 : g1 < g3
  ne2 : g3 < g2
theorem Own3.below {w0 w w1 : World} {j : Jn} {g1 c1 g2 c2 g3 c3 : Nat} (h : Own3 w0 j g1 c1 g2 c2 g3 c3 w) (hb : Below w.heap.size w w1) : Own3 w0 j g1 c1 g2 c2 g3 c3 w1 :=
  ⟨Kd.R_below h.r1 hb, Kd.R_below h.r2 hb, Kd.R_below h.r3 hb, h.ne1, h.ne2⟩
theorem C_front {α : Type} {d : Kd α} {w : World} {A : Option Addr} {l m : List α} (h : d.C w A (l ++ m).length (l ++ m)) : d.C w A l.length l := by
  have h1 := Kd.C_take (m := l.length) h (by simp)
  simpa using h1
theorem Own3.at {w0 w : World} {j : Jn} {g1 c1 g2 c2 g3 c3 : Nat} (h : Own3 w0 j g1 c1 g2 c2 g3 c3 w) (K : JnOk j) : JAt w j (some ⟨g1, 0, none⟩) c1 (some ⟨g2, 0, none⟩) c2 (some ⟨g3, 0, none⟩) c3 := by
  have a1 := Kd.R_reads' h.r1
  have a2 := Kd.R_reads' h.r2
  have a3 := Kd.R_reads' h.r3
  have b1 := a1.2.1
  have b2 := a2.2.1
  have b3 := a3.2.1
  refine ⟨K, C_front (m := [m7, m7]) (by have h := a1.2.2; simpa using h), by omega, C_front (m := [b171, b171]) (by have h := a2.2.2; simpa using h), by omega, C_front (m := [m7, m7]) (by have h := a3.2.2; simpa using h), by omega⟩
end Go.Proofs.YtdekmeanlcpenaaGreatDoor.Law

namespace Go.Proofs.YtdekmeanlcpenaaGreatDoor.OpenK
open Go.ChangeShapes Go.WideShapes Go.Deep Go.Proofs.YtdekmeanlcpenaaGreatDoorW.PrintWords

/-- Whatever reads as a datum of a type reads as a value of a kind, and the value is good. -/
def Opens {α H : Type} (P : Program) (enc : TypeId × Value → H) (w : World) (d : Kd α) (e : TypeId) (good : α → Prop) : Prop :=
  ∀ (fuel : Nat) (cs : List Value) (x : DataW H × List MemPlace), DataW.trod enc P w 0 (fun _ => true) true fuel e cs = some x → (∀ n ∈ DataW.weights P e x.1, n ≤ reachBytes) → ∃ v, d.K w v cs ∧ good v

theorem opens_int {H : Type} {P : Program} {enc : TypeId × Value → H} {w : World} {e : TypeId} {k : IntKind} (he : P.underlying e = some (.int k)) : Opens P enc w (Kd.int k) e (fun n => (Lit.int k n).wf = true) := by
  intro fuel cs x h _
  obtain ⟨n, rfl, _, hw⟩ := DataW.trod_int he h
  exact ⟨n, rfl, hw⟩

theorem opens_slice {α H : Type} {P : Program} {enc : TypeId × Value → H} {w : World} {d : Kd α} {t e : TypeId} {good : α → Prop} [Inhabited α] (ht : P.underlying t = some (.slice e)) (hc : P.cellsOf e = d.sz) {B : Nat} (hB : P.bytesOf e = B) (h : Opens P enc w d e good) :
    Opens P enc w (Kd.slice e d) t (fun l => l.length * B ≤ 140737488351232 ∧ ∀ x ∈ l, good x) := by
  intro fuel cs x hx hw
  rcases open_slice ht hx with ⟨rfl, _⟩ | ⟨a, len, cap, m, n, D, Pl, rfl, _, hl, hm, rfl, rfl, hi⟩
  · exact ⟨[], ⟨none, 0, rfl, Nat.le_refl _, Kd.C_nil d w⟩, by simp, by simp⟩
  · simp only [] at hi hw
    simp only [DataW.weights, ht] at hw
    have hwl := hw _ (List.mem_cons_self)
    have hwe : ∀ i, i < len → ∀ z ∈ DataW.weights P e (D i), z ≤ reachBytes := by
      intro i hil z hz
      refine hw z (List.mem_cons_of_mem _ (List.mem_append_left _ ?_))
      have key : ∀ (l : List (DataW H)), D i ∈ l → z ∈ DataW.weightsAll P e l := by
        intro l
        induction l with
        | nil => intro h; simp at h
        | cons y r ih =>
          intro h
          rw [DataW.weightsAll, List.mem_append]
          rcases List.mem_cons.1 h with rfl | h
          · exact .inl hz
          · exact .inr (ih h)
      exact key _ (List.mem_map.2 ⟨i, List.mem_range.2 hil, rfl⟩)
    obtain ⟨f, hf⟩ := choose_lt (n := len) (p := fun i v => (∃ cs', w.cells? 0 (a.add (i * P.cellsOf e)) (P.cellsOf e) = some cs' ∧ d.K w v cs') ∧ good v) (fun i hil => by
      obtain ⟨cs', h1, h2⟩ := hi i (by omega)
      obtain ⟨v, hK, hg⟩ := h n cs' _ h2 (hwe i hil)
      exact ⟨v, ⟨cs', h1, hK⟩, hg⟩)
    refine ⟨(List.range len).map f, ⟨some a, m, by simp, by simpa using hl, ?_⟩, ?_, ?_⟩
    · refine ⟨rfl, by simp; unfold maxLen at hm; omega, fun hpos => ⟨a, rfl, fun j p hj => ?_⟩⟩
      simp only [List.length_map, List.length_range] at hpos
      rw [List.getElem?_map] at hj
      obtain ⟨i, hi1, rfl⟩ := Option.map_eq_some_iff.1 hj
      have hjl : j < len := by have := (List.getElem?_eq_some_iff.1 hi1).1; simpa using this
      have hij : i = j := by
        rw [List.getElem?_range hjl] at hi1
        simpa using hi1.symm
      subst hij
      obtain ⟨⟨cs', h1, hK⟩, _⟩ := hf i hjl
      rw [hc] at h1
      obtain ⟨_, hlen, hcell⟩ := World.cells?_some h1
      refine ⟨cs', hlen, hK, fun k u hk => ?_⟩
      have hkl : k < d.sz := by have := (List.getElem?_eq_some_iff.1 hk).1; omega
      rw [← Go.Deep.add_add, hcell k hkl]
      exact hk
    · simp only [List.length_map, List.length_range] at hwl ⊢
      rw [hB] at hwl
      refine Nat.le_trans (Nat.mul_le_mul_right _ ?_) (Nat.le_trans hwl (by decide))
      omega
    · intro x hx
      obtain ⟨i, hi1, rfl⟩ := List.mem_map.1 hx
      exact (hf i (List.mem_range.1 hi1)).2

theorem opens_pair {α β H : Type} {P : Program} {enc : TypeId × Value → H} {w : World} {a : Kd α} {b : Kd β} {e : TypeId} {f0 f1 : Field} {ga : α → Prop} {gb : β → Prop} (hs : P.underlying e = some (.struct #[f0, f1])) (o0 : f0.offset = 0) (o1 : f1.offset = a.sz)
    (c0 : P.cellsOf f0.type = a.sz) (c1 : P.cellsOf f1.type = b.sz) (hc : P.cellsOf e = a.sz + b.sz) (ha : Opens P enc w a f0.type ga) (hb : Opens P enc w b f1.type gb) : Opens P enc w (Kd.pair a b) e (fun x => ga x.1 ∧ gb x.2) := by
  intro fuel cs x h hw
  obtain ⟨y0, y1, n, rfl, hl, h0, h1⟩ := trod_struct2 hs h
  simp only [DataW.weights, hs] at hw
  rw [o0, c0, List.drop_zero] at h0
  rw [o1, c1] at h1
  have hcs : (cs.drop a.sz).take b.sz = cs.drop a.sz := List.take_of_length_le (by simp; omega)
  rw [hcs] at h1
  obtain ⟨v0, hK0, g0⟩ := ha _ _ _ h0 (fun z hz => hw z (by simp [DataW.weightsEach]; exact .inl hz))
  obtain ⟨v1, hK1, g1⟩ := hb _ _ _ h1 (fun z hz => hw z (by simp [DataW.weightsEach]; exact .inr hz))
  exact ⟨(v0, v1), ⟨_, _, (List.take_append_drop _ _).symm, hK0, hK1⟩, g0, g1⟩

/-- Another name of the values. -/
theorem opens_iso {α β H : Type} {P : Program} {enc : TypeId × Value → H} {w : World} {d : Kd α} {e : TypeId} {good : α → Prop} (f : β → α) (g : α → β) (hfg : ∀ x, f (g x) = x) (h : Opens P enc w d e good) : Opens P enc w (Kd.iso d f) e (fun x => good (f x)) := by
  intro fuel cs x hx hw
  obtain ⟨v, hK, hg⟩ := h fuel cs x hx hw
  exact ⟨g v, by show d.K w (f (g v)) cs; rw [hfg]; exact hK, by show good (f (g v)); rw [hfg]; exact hg⟩

/-- A slice among a law's arguments. -/
theorem arg_slice {α H : Type} {P : Program} {enc : TypeId × Value → H} {W : World} {d : Kd α} {t e : TypeId} {good : α → Prop} {B : Nat} {a : Option Addr} {len cap : Nat} {x : DataW H} {ps : List MemPlace} {ts : List TypeId} {ds : List (DataW H)} {j : Nat}
    (ho : Opens P enc W (Kd.slice e d) t (fun l => l.length * B ≤ 140737488351232 ∧ ∀ x ∈ l, good x)) (hsz : (DataW.weightsEach P ts ds).all (· ≤ reachBytes) = true) (ht : ts[j]? = some t) (hd : ds[j]? = some x)
    (h : DataW.Trod enc P W 0 (fun _ => true) true t (.slice a len cap) x ps) : ∃ l : List α, len = l.length ∧ l.length ≤ cap ∧ d.C W a l.length l ∧ l.length * B ≤ 140737488351232 ∧ ∀ x ∈ l, good x := by
  obtain ⟨fuel, hf⟩ := h
  obtain ⟨l, ⟨A, c, e1, h1, h2⟩, h3, h4⟩ := ho fuel _ _ hf (fun n hn => by
    have := List.all_eq_true.1 hsz _ (DataW.weights_mem_each ht hd n hn)
    simpa using this)
  simp [Value.cells] at e1
  obtain ⟨rfl, rfl, rfl⟩ := e1
  exact ⟨l, rfl, h1, h2, h3, h4⟩

end Go.Proofs.YtdekmeanlcpenaaGreatDoor.OpenK

namespace Go.Proofs.YtdekmeanlcpenaaGreatDoor.OpenK
open Go.ChangeShapes Go.WideShapes Go.Deep Go.Proofs.YtdekmeanlcpenaaGreatDoorW.PrintWords Go.Proofs.YtdekmeanlcpenaaGreatDoor.Mid

set_option maxRecDepth 100000
theorem arr29 : ∃ e, Tryz.prog.underlying 29 = some (.array 32 e) ∧ Tryz.prog.underlying e = some (.int .u8) ∧ Tryz.prog.cellsOf e = 1 := by
  refine ⟨5, ?_, ?_, ?_⟩ <;> kernel_rfl
theorem cells29 : Tryz.prog.cellsOf 29 = 32 := by kernel_rfl
theorem cells33 : Tryz.prog.cellsOf 33 = 65 := by kernel_rfl
theorem id_of_trod {H : Type} {enc : TypeId × Value → H} {w : World} {fuel : Nat} {cs : List Value} {x : DataW H × List MemPlace} (hx : DataW.trod enc Tryz.prog w 0 (fun _ => true) true fuel 29 cs = some x) : ∃ v, IdOk v ∧ cs = u8s v := by
  obtain ⟨e, hu, he, hc⟩ := arr29
  obtain ⟨xs, m, -, -, hl, hxl, hi⟩ := DataW.trod_array hu hx
  rw [cells29] at hl
  obtain ⟨f, hf⟩ := choose_lt (n := 32) (p := fun i (v : Int) => cs[i]? = some (.int .u8 v) ∧ 0 ≤ v ∧ v ≤ 255) (fun i hil => by
    have h1 := hi i hil
    rw [hc, Nat.mul_one, List.getElem?_eq_getElem (by omega)] at h1
    obtain ⟨n, e1, -, hw⟩ := DataW.trod_int he h1
    refine ⟨n, ?_, ?_⟩
    · rw [List.drop_eq_getElem_cons (by omega), List.take_succ_cons, List.take_zero] at e1
      rw [List.getElem?_eq_getElem (by omega)]
      injection e1 with e1
      rw [e1]
    · have h1 : IntKind.u8.min = 0 := rfl
      have h2 : IntKind.u8.max = 255 := rfl
      simp [Lit.wf, h1, h2] at hw
      omega)
  have hcs : cs = u8s ((List.range 32).map f) := by
    apply List.ext_getElem?
    intro i
    by_cases hil : i < 32
    · rw [(hf i hil).1, u8s, List.getElem?_map, List.getElem?_map, List.getElem?_range hil]
      rfl
    · rw [List.getElem?_eq_none (by omega), List.getElem?_eq_none (by simp [u8s]; omega)]
  have hok : IdOk ((List.range 32).map f) := ⟨by simp, fun u hu => by
    obtain ⟨i, hi, rfl⟩ := List.mem_map.1 hu
    exact (hf i (List.mem_range.1 hi)).2⟩
  exact ⟨_, hok, hcs⟩
theorem opens_id {H : Type} {enc : TypeId × Value → H} {w : World} : Opens Tryz.prog enc w idK 29 (fun x => IdOk x) := fun _ _ _ hx _ => by
  obtain ⟨v, h1, h2⟩ := id_of_trod hx
  exact ⟨v, ⟨h1, h2⟩, h1⟩
theorem opens23 {H : Type} {enc : TypeId × Value → H} {w : World} : Opens Tryz.prog enc w (Kd.slice 29 idK) 23 (fun l => l.length * 32 ≤ 140737488351232 ∧ ∀ x ∈ l, IdOk x) :=
  opens_slice Tryz.underlying23 cells29 (by kernel_rfl) opens_id
theorem str33 : ∃ f0 f1 f2 : Field, Tryz.prog.underlying 33 = some (.struct #[f0, f1, f2]) ∧ (f0.type = 29 ∧ f0.offset = 0) ∧ (f1.type = 29 ∧ f1.offset = 32) ∧ (f2.type = 3 ∧ f2.offset = 64) := by
  refine ⟨_, _, _, Tryz.underlying33, ?_, ?_, ?_⟩ <;> exact ⟨by kernel_rfl, by kernel_rfl⟩
theorem cells3 : Tryz.prog.cellsOf 3 = 1 := by kernel_rfl
theorem und3 : Tryz.prog.underlying 3 = some (.int .i64) := by kernel_rfl
theorem opens_res {H : Type} {enc : TypeId × Value → H} {w : World} : Opens Tryz.prog enc w resK 33 (fun x => ResOk x) := fun fuel cs x hx _ => by
  obtain ⟨f0, f1, f2, hu, ⟨t0, o0⟩, ⟨t1, o1⟩, ⟨t2, o2⟩⟩ := str33
  obtain ⟨xs, n, -, -, hl, hlen, hf⟩ := DataW.trod_struct hu hx
  rw [cells33] at hl
  match xs, hlen with
  | [y0, y1, y2], _ =>
    have h0 := hf 0 f0 rfl
    have h1 := hf 1 f1 rfl
    have h2 := hf 2 f2 rfl
    rw [t0, o0, cells29] at h0
    rw [t1, o1, cells29] at h1
    rw [t2, o2, cells3] at h2
    obtain ⟨a, ha, ea⟩ := id_of_trod h0
    obtain ⟨b, hb, eb⟩ := id_of_trod h1
    obtain ⟨m, em, -, hw⟩ := DataW.trod_int und3 h2
    have hm : -9223372036854775808 ≤ m ∧ m ≤ 9223372036854775807 := by
      have h1 : IntKind.i64.min = -9223372036854775808 := rfl
      have h2 : IntKind.i64.max = 9223372036854775807 := rfl
      simp [Lit.wf, h1, h2] at hw
      omega
    have hr : ResOk ⟨a, b, m⟩ := ⟨ha, hb, hm⟩
    refine ⟨⟨a, b, m⟩, ⟨hr, ?_⟩, hr⟩
    show cs = u8s a ++ (u8s b ++ [.int .i64 m])
    rw [← ea, ← eb, ← em, List.drop_zero]
    have e1 : cs = cs.take 32 ++ cs.drop 32 := (List.take_append_drop 32 cs).symm
    have e2 : cs.drop 32 = (cs.drop 32).take 32 ++ (cs.drop 32).drop 32 := (List.take_append_drop 32 _).symm
    have e3 : (cs.drop 32).drop 32 = (cs.drop 64).take 1 := by
      rw [List.drop_drop, List.take_of_length_le (by rw [List.length_drop]; omega)]
    rw [← e3, ← e2, ← e1]
theorem opens22 {H : Type} {enc : TypeId × Value → H} {w : World} : Opens Tryz.prog enc w (Kd.slice 33 resK) 22 (fun l => l.length * 72 ≤ 140737488351232 ∧ ∀ x ∈ l, ResOk x) :=
  haveI : Inhabited Res := ⟨⟨[], [], 0⟩⟩
  opens_slice Tryz.underlying22 cells33 (by kernel_rfl) opens_res
end Go.Proofs.YtdekmeanlcpenaaGreatDoor.OpenK

namespace Go.Proofs.YtdekmeanlcpenaaGreatDoor.OpenK
open Go.ChangeShapes Go.WideShapes Go.Deep Go.Proofs.YtdekmeanlcpenaaGreatDoorW.PrintWords Go.Proofs.YtdekmeanlcpenaaGreatDoor.Mid Go.Proofs.YtdekmeanlcpenaaGreatDoor.Codec
set_option maxRecDepth 100000
theorem arg_int {H : Type} {P : Program} {enc : TypeId × Value → H} {W : World} {r : Reach} {base : Nat} {t : TypeId} {k : IntKind} {v : Value} {x : DataW H} {ps : List MemPlace} (ht : P.underlying t = some (.int k)) (hv : Value.okWide P W r base t v)
    (h : DataW.Trod enc P W 0 (fun _ => true) true t v x ps) : ∃ n, v = .int k n ∧ (Lit.int k n).wf = true := by
  obtain ⟨n, rfl⟩ := okWide_int ht hv
  obtain ⟨fuel, hf⟩ := h
  obtain ⟨m, e, -, hw⟩ := DataW.trod_int ht hf
  simp [Value.cells] at e
  subst e
  exact ⟨_, rfl, hw⟩
theorem u8_wf {n : Int} (h : (Lit.int .u8 n).wf = true) : 0 ≤ n ∧ n ≤ 255 := by
  have h1 : IntKind.u8.min = 0 := rfl
  have h2 : IntKind.u8.max = 255 := rfl
  simp [Lit.wf, h1, h2] at h
  omega
theorem str60 : ∃ f0 f1 f2 f3 f4 f5 : Field, Tryz.prog.underlying 60 = some (.struct #[f0, f1, f2, f3, f4, f5]) ∧ (f0.type = 9 ∧ f0.offset = 0) ∧ (f1.type = 3 ∧ f1.offset = 1) ∧ (f2.type = 3 ∧ f2.offset = 2) ∧ (f3.type = 22 ∧ f3.offset = 3) ∧ (f4.type = 23 ∧ f4.offset = 4) ∧ (f5.type = 22 ∧ f5.offset = 5) := by
  refine ⟨_, _, _, _, _, _, Tryz.underlying60, ?_, ?_, ?_, ?_, ?_, ?_⟩ <;> exact ⟨by kernel_rfl, by kernel_rfl⟩
theorem cells9 : Tryz.prog.cellsOf 9 = 1 := by kernel_rfl
theorem str9 : Tryz.prog.underlying 9 = some .string := by kernel_rfl
theorem cells22 : Tryz.prog.cellsOf 22 = 1 := by kernel_rfl
theorem cells23 : Tryz.prog.cellsOf 23 = 1 := by kernel_rfl
theorem cells60 : Tryz.prog.cellsOf 60 = 6 := by kernel_rfl
/-- What a journal among a law's arguments has. -/
structure JnR (j : Jn) : Prop where
  name : j.name.size ≤ maxLen
  ent : (Lit.int .i64 j.ent).wf = true
  idx : (Lit.int .i64 j.idx).wf = true
  res : j.res.length * 72 ≤ 140737488351232
  need : j.need.length * 32 ≤ 140737488351232
  tab : j.tab.length * 72 ≤ 140737488351232
theorem slice_one {α : Type} {d : Kd α} {e : TypeId} {w : World} {l : List α} {cs : List Value} (h : (Kd.slice e d).K w l cs) : ∃ A c, cs = [.slice A l.length c] ∧ l.length ≤ c ∧ d.C w A l.length l := by
  obtain ⟨A, c, e1, h1, h2⟩ := h
  exact ⟨A, c, e1, h1, h2⟩
theorem jn_of_trod {H : Type} {enc : TypeId × Value → H} {w : World} {fuel : Nat} {cs : List Value} {x : DataW H × List MemPlace} (hx : DataW.trod enc Tryz.prog w 0 (fun _ => true) true fuel 60 cs = some x) (hw : ∀ n ∈ DataW.weights Tryz.prog 60 x.1, n ≤ reachBytes) :
    ∃ j A1 c1 A2 c2 A3 c3, cs = jC j A1 c1 A2 c2 A3 c3 ∧ JAt w j A1 c1 A2 c2 A3 c3 ∧ JnR j := by
  obtain ⟨f0, f1, f2, f3, f4, f5, hu, ⟨t0, o0⟩, ⟨t1, o1⟩, ⟨t2, o2⟩, ⟨t3, o3⟩, ⟨t4, o4⟩, ⟨t5, o5⟩⟩ := str60
  obtain ⟨xs, n, -, rfl, hl, hlen, hf⟩ := DataW.trod_struct hu hx
  rw [cells60] at hl
  match xs, hlen with
  | [y0, y1, y2, y3, y4, y5], _ =>
    have h0 := hf 0 f0 rfl
    have h1 := hf 1 f1 rfl
    have h2 := hf 2 f2 rfl
    have h3 := hf 3 f3 rfl
    have h4 := hf 4 f4 rfl
    have h5 := hf 5 f5 rfl
    rw [t0, o0, cells9] at h0
    rw [t1, o1, cells3] at h1
    rw [t2, o2, cells3] at h2
    rw [t3, o3, cells22] at h3
    rw [t4, o4, cells23] at h4
    rw [t5, o5, cells22] at h5
    match cs, hl with
    | [u0, u1, u2, u3, u4, u5], _ =>
      simp only [List.drop_zero, List.drop_succ_cons, List.take_succ_cons, List.take_zero, List.getElem?_cons_zero, List.getElem?_cons_succ] at h0 h1 h2 h3 h4 h5
      simp only [DataW.weights, hu] at hw
      obtain ⟨s, e0, -, hs⟩ := DataW.trod_string str9 h0
      obtain ⟨m1, e1, -, w1⟩ := DataW.trod_int und3 h1
      obtain ⟨m2, e2, -, w2⟩ := DataW.trod_int und3 h2
      obtain ⟨l3, ⟨k3, b3, ok3⟩⟩ := opens22 _ _ _ h3 (fun z hz => hw z (by simp [DataW.weightsEach, t0, t1, t2, t3, t4, t5, hz]))
      obtain ⟨l4, ⟨k4, b4, ok4⟩⟩ := opens23 _ _ _ h4 (fun z hz => hw z (by simp [DataW.weightsEach, t0, t1, t2, t3, t4, t5, hz]))
      obtain ⟨l5, ⟨k5, b5, ok5⟩⟩ := opens22 _ _ _ h5 (fun z hz => hw z (by simp [DataW.weightsEach, t0, t1, t2, t3, t4, t5, hz]))
      obtain ⟨A3, c3, e3, g3, C3⟩ := slice_one k3
      obtain ⟨A4, c4, e4, g4, C4⟩ := slice_one k4
      obtain ⟨A5, c5, e5, g5, C5⟩ := slice_one k5
      simp only [List.cons.injEq, and_true] at e0 e1 e2 e3 e4 e5
      subst e0 e1 e2 e3 e4 e5
      exact ⟨⟨s, m1, m2, l3, l4, l5⟩, A3, c3, A4, c4, A5, c5, rfl, ⟨⟨ok3, ok4, ok5⟩, C3, g3, C4, g4, C5, g5⟩, ⟨hs, w1, w2, b3, b4, b5⟩⟩
/-- A journal among a law's arguments. -/
theorem arg_jn {H : Type} {enc : TypeId × Value → H} {W : World} {r : Reach} {base : Nat} {v : Value} {x : DataW H} {ps : List MemPlace} {ts : List TypeId} {ds : List (DataW H)} {i : Nat}
    (hsz : (DataW.weightsEach Tryz.prog ts ds).all (· ≤ reachBytes) = true) (ht : ts[i]? = some 60) (hd : ds[i]? = some x) (hv : Value.okWide Tryz.prog W r base 60 v) (h : DataW.Trod enc Tryz.prog W 0 (fun _ => true) true 60 v x ps) :
    ∃ j A1 c1 A2 c2 A3 c3, v = .agg (jC j A1 c1 A2 c2 A3 c3).toArray ∧ JAt W j A1 c1 A2 c2 A3 c3 ∧ JnR j := by
  obtain ⟨cs, rfl, hcs⟩ := okWide_struct Tryz.underlying60 hv
  obtain ⟨fuel, hf⟩ := h
  obtain ⟨j, A1, c1, A2, c2, A3, c3, e, h1, h2⟩ := jn_of_trod hf (fun n hn => by
    have := List.all_eq_true.1 hsz _ (DataW.weights_mem_each ht hd n hn)
    simpa using this)
  refine ⟨j, A1, c1, A2, c2, A3, c3, ?_, h1, h2⟩
  rw [← e]
  simp [Value.cells]
end Go.Proofs.YtdekmeanlcpenaaGreatDoor.OpenK

namespace Go.Proofs.YtdekmeanlcpenaaGreatDoor.Law
open Go.RowKit Go.Proofs.YtdekmeanlcpenaaGreatDoorW.PrintWords Go.Proofs.YtdekmeanlcpenaaGreatDoorW.PrintLast Go.Proofs.YtdekmeanlcpenaaGreatDoorW.PrintMore Go.Proofs.YtdekmeanlcpenaaGreatDoor.Mid Go.Proofs.YtdekmeanlcpenaaGreatDoor.Pick Go.Proofs.YtdekmeanlcpenaaGreatDoor.Err Go.Proofs.YtdekmeanlcpenaaGreatDoor.Codec
attribute [local go_sem ↓ high] load33_eq load29_eq load60_eq build33_eq build29_eq
attribute [local simp] rowOf_drew rowOf_drewN
attribute [local go_sem high] load33_row load29_row load60_row rowOf_drew rowOf_drewN bldM bldM1
attribute [local irreducible] b171 m7
set_option maxHeartbeats 4000000
set_option maxRecDepth 100000
set_option linter.unusedVariables false
set_option linter.unusedSimpArgs false
theorem grownBlk (w : World) (p : Addr) (v : Value) : w.grownBy (w.setCell p v) (some p.block) := ⟨rfl, rfl, rfl, by simp [World.setCell], fun k _ hk => Below.heap_setCell w p v k (fun e => hk (by rw [e]))⟩
/-- A store into a journal's variable. -/
theorem blk_put {w : World} {q i : Nat} {cs : List Value} {v : Value} {t : TypeId} (h : w.heap[q]? = some (.cells cs.toArray t (0, 0))) : (w.setCell ⟨q, i, none⟩ v).heap[q]? = some (.cells (cs.set i v).toArray t (0, 0)) := by
  have := blk_set h i v
  simpa using this
theorem R_put_far {α : Type} {d : Kd α} {e b q i : Nat} {w : World} {v u : Value} {xs : List α} (hE : d.E = []) (h : d.R e w b (fun _ => True) v xs) (hq : q < b) : d.R e (w.setCell ⟨q, i, none⟩ u) b (fun _ => True) v xs :=
  Kd.R_grown1 h hE (grownBlk w ⟨q, i, none⟩ u) (fun e => by have h1 : b ≤ q := Kd.R_base h q e.symm; omega)
theorem copied_any (j : Jn) (A1 : Option Addr) (c1 : Nat) (A2 : Option Addr) (c2 : Nat) (A3 : Option Addr) (c3 : Nat) (w : World) (hJ : JAt w j A1 c1 A2 c2 A3 c3) (l1 : j.res.length * 72 ≤ 140737488351232) (l2 : j.need.length * 32 ≤ 140737488351232) (l3 : j.tab.length * 72 ≤ 140737488351232) :
    Calls Tryz.prog 18 #[.agg (jC j A1 c1 A2 c2 A3 c3).toArray] w fun e w' => ∃ g1 k1 g2 k2 g3 k3, e = .returned (.agg (jC j (some ⟨g1, 0, none⟩) k1 (some ⟨g2, 0, none⟩) k2 (some ⟨g3, 0, none⟩) k3).toArray) ∧ Own3 w j g1 k1 g2 k2 g3 k3 w' ∧ Below w.heap.size w w' := by
  obtain ⟨W, hW⟩ : ∃ W, W = w.alloc (.cells (jC j A1 c1 A2 c2 A3 c3).toArray 60) := ⟨_, rfl⟩
  have hbk : W.heap[w.heap.size]? = some (.cells (jC j A1 c1 A2 c2 A3 c3).toArray 60 (0, 0)) := hW ▸ heap_alloc_new w _
  have hBW : Below w.heap.size w W := hW ▸ below_alloc (Below.refl _ _) _
  obtain ⟨q, hq⟩ : ∃ q, w.heap.size = q := ⟨_, rfl⟩
  obtain ⟨q2, hq2⟩ : ∃ q2, q + 1 = q2 := ⟨_, rfl⟩
  have hsW : W.heap.size = q2 := by rw [← hq2, ← hq, hW]; simp
  obtain ⟨V, hV⟩ : ∃ V, V = W.alloc (.cells (jV .empty 0 0 nilS nilS nilS).toArray 60) := ⟨_, rfl⟩
  have hVW : Below W.heap.size W V := hV ▸ below_alloc (Below.refl _ _) _
  have hb2 : V.heap[q2]? = some (.cells (jV .empty 0 0 nilS nilS nilS).toArray 60 (0, 0)) := by rw [hV, ← hsW]; exact heap_alloc_new W _
  rw [hq] at hbk
  have hb1 := blk_below hbk hVW
  have hBV : Below w.heap.size w V := below_step hBW hVW
  have HV : Aside0 (V = W.alloc (.cells #[.string ⟨#[]⟩, .int .i64 0, .int .i64 0, .slice none 0 0, .slice none 0 0, .slice none 0 0] 60)) := ⟨hV⟩
  have HW := Aside0.mk hW
  have HQ := Aside0.mk (And.intro hq (And.intro hq2 (blk_lt hb2)))
  have HB := Aside0.mk (And.intro hb1 (And.intro hb2 hBV))
  have HJ := Aside0.mk hJ
  have k3 : V.cell? ⟨q, 3, none⟩ = some (.slice A1 j.res.length c1) := (blk_cell hb1 _).trans rfl
  clear hbk hBW hsW hVW hb2 hb1 hBV hV hW hJ hq hq2
  go_enter Tryz.func18, Tryz.ntmps18
  go_upto_region 1 with (fail)
  rw [← HW.out, ← HV.out, HQ.out.1, HQ.out.2.1]
  go_upto_region 2 with (first
    | (go_at_call 46; refine (roomy_res A1 c1 j.res V (HJ.out.below HB.out.2.2).r1 HJ.out.ok.res l1).mono ?_; rintro e w1 ⟨g1, k1, rfl, r1, b1⟩
       have s3 : w1.cell? ⟨q, 3, none⟩ = some (.slice A1 j.res.length c1) := (blk_cell (blk_below HB.out.1 b1) _).trans rfl
       have f3 : w1.frozen? ⟨q, 3, none⟩ = false := blk_frozen (blk_below HB.out.1 b1) _
       have H1 := Aside0.mk (And.intro r1 b1)
       clear r1 b1)
    | go_in)
  obtain ⟨x1, hx1⟩ : ∃ x1, w1.setCell ⟨q, 3, none⟩ (.slice (some ⟨g1, 0, none⟩) j.res.length k1) = x1 := ⟨_, rfl⟩
  have hqs := HQ.out
  have X1 : Aside0 (x1.heap[q]? = some (.cells (jV j.name j.ent j.idx (.slice (some ⟨g1, 0, none⟩) j.res.length k1) (.slice A2 j.need.length c2) (.slice A3 j.tab.length c3)).toArray 60 (0, 0)) ∧ x1.heap[q2]? = some (.cells (jV .empty 0 0 nilS nilS nilS).toArray 60 (0, 0)) ∧ Below w.heap.size w x1 ∧ Kd.R resK 33 x1 V.heap.size (fun _ => True) (.slice (some ⟨g1, 0, none⟩) (j.res.length + 2) k1) (j.res ++ [m7, m7]) ∧ V.heap.size ≤ x1.heap.size) := ⟨by
    rw [← hx1]
    have hG := grownBlk w1 ⟨q, 3, none⟩ (.slice (some ⟨g1, 0, none⟩) j.res.length k1)
    have hb := below_step HB.out.2.2 H1.out.2
    exact ⟨blk_put (blk_below HB.out.1 H1.out.2), blk_grown (blk_below HB.out.2.1 H1.out.2) hG (fun e => absurd (Option.some.inj e) (by simp only; omega)), hb.grown hG hb.size (fun k hk => by cases hk; simp only; omega), R_put_far rfl H1.out.1 (by omega), Nat.le_trans H1.out.2.size hG.size⟩⟩
  rw [hx1]
  have k5 : x1.cell? ⟨q, 5, none⟩ = some (.slice A3 j.tab.length c3) := (blk_cell X1.out.1 _).trans rfl
  clear hx1 k3 s3 f3 H1
  go_upto_region 3 with (first
    | (go_at_call 46; refine (roomy_res A3 c3 j.tab x1 (HJ.out.below X1.out.2.2.1).r3 HJ.out.ok.tab l3).mono ?_; rintro e w2 ⟨g3, k3, rfl, r1, b1⟩
       have s5 : w2.cell? ⟨q, 5, none⟩ = some (.slice A3 j.tab.length c3) := (blk_cell (blk_below X1.out.1 b1) _).trans rfl
       have f5 : w2.frozen? ⟨q, 5, none⟩ = false := blk_frozen (blk_below X1.out.1 b1) _
       have H2 := Aside0.mk (And.intro r1 b1)
       clear r1 b1)
    | go_in)
  obtain ⟨x2, hx2⟩ : ∃ x2, w2.setCell ⟨q, 5, none⟩ (.slice (some ⟨g3, 0, none⟩) j.tab.length k3) = x2 := ⟨_, rfl⟩
  have X2 : Aside0 (x2.heap[q]? = some (.cells (jV j.name j.ent j.idx (.slice (some ⟨g1, 0, none⟩) j.res.length k1) (.slice A2 j.need.length c2) (.slice (some ⟨g3, 0, none⟩) j.tab.length k3)).toArray 60 (0, 0)) ∧ x2.heap[q2]? = some (.cells (jV .empty 0 0 nilS nilS nilS).toArray 60 (0, 0)) ∧ Below w.heap.size w x2 ∧ Kd.R resK 33 x2 V.heap.size (fun _ => True) (.slice (some ⟨g1, 0, none⟩) (j.res.length + 2) k1) (j.res ++ [m7, m7]) ∧ Kd.R resK 33 x2 V.heap.size (fun _ => True) (.slice (some ⟨g3, 0, none⟩) (j.tab.length + 2) k3) (j.tab ++ [m7, m7]) ∧ V.heap.size ≤ x2.heap.size ∧ g1 < g3) := ⟨by
    rw [← hx2]
    have hG := grownBlk w2 ⟨q, 5, none⟩ (.slice (some ⟨g3, 0, none⟩) j.tab.length k3)
    have hb := below_step X1.out.2.2.1 H2.out.2
    have h1 := Kd.R_lt X1.out.2.2.2.1 g1 rfl
    have h2 := Kd.R_base H2.out.1 g3 rfl
    exact ⟨blk_put (blk_below X1.out.1 H2.out.2), blk_grown (blk_below X1.out.2.1 H2.out.2) hG (fun e => absurd (Option.some.inj e) (by simp only; omega)), hb.grown hG hb.size (fun k hk => by cases hk; simp only; omega), R_put_far rfl (Kd.R_below X1.out.2.2.2.1 H2.out.2) (by omega), R_put_far rfl (Kd.R_lower H2.out.1 X1.out.2.2.2.2) (by omega), Nat.le_trans (Nat.le_trans X1.out.2.2.2.2 H2.out.2.size) hG.size, by omega⟩⟩
  rw [hx2]
  have k4 : x2.cell? ⟨q, 4, none⟩ = some (.slice A2 j.need.length c2) := (blk_cell X2.out.1 _).trans rfl
  clear hx2 k5 s5 f5 H2
  go_upto_region 4 with (first
    | (go_at_call 47; refine (roomy_ids A2 c2 j.need x2 (HJ.out.below X2.out.2.2.1).r2 HJ.out.ok.need l2).mono ?_; rintro e w3 ⟨g2, k2, rfl, r1, b1⟩
       have s4 : w3.cell? ⟨q, 4, none⟩ = some (.slice A2 j.need.length c2) := (blk_cell (blk_below X2.out.1 b1) _).trans rfl
       have f4 : w3.frozen? ⟨q, 4, none⟩ = false := blk_frozen (blk_below X2.out.1 b1) _
       have H3 := Aside0.mk (And.intro r1 b1)
       clear r1 b1)
    | go_in)
  obtain ⟨x3, hx3⟩ : ∃ x3, w3.setCell ⟨q, 4, none⟩ (.slice (some ⟨g2, 0, none⟩) j.need.length k2) = x3 := ⟨_, rfl⟩
  have X3 : Aside0 (x3.heap[q]? = some (.cells (jC j (some ⟨g1, 0, none⟩) k1 (some ⟨g2, 0, none⟩) k2 (some ⟨g3, 0, none⟩) k3).toArray 60 (0, 0)) ∧ x3.heap[q2]? = some (.cells (jV .empty 0 0 nilS nilS nilS).toArray 60 (0, 0)) ∧ Below w.heap.size w x3 ∧ Own3 V j g1 k1 g2 k2 g3 k3 x3) := ⟨by
    rw [← hx3]
    have hG := grownBlk w3 ⟨q, 4, none⟩ (.slice (some ⟨g2, 0, none⟩) j.need.length k2)
    have hb := below_step X2.out.2.2.1 H3.out.2
    have h1 := Kd.R_lt X2.out.2.2.2.2.1 g3 rfl
    have h2 := Kd.R_base H3.out.1 g2 rfl
    exact ⟨blk_put (blk_below X2.out.1 H3.out.2), blk_grown (blk_below X2.out.2.1 H3.out.2) hG (fun e => absurd (Option.some.inj e) (by simp only; omega)), hb.grown hG hb.size (fun k hk => by cases hk; simp only; omega), R_put_far rfl (Kd.R_below X2.out.2.2.2.1 H3.out.2) (by omega), R_put_far rfl (Kd.R_lower H3.out.1 X2.out.2.2.2.2.2.1) (by omega), R_put_far rfl (Kd.R_below X2.out.2.2.2.2.1 H3.out.2) (by omega), X2.out.2.2.2.2.2.2, by omega⟩⟩
  rw [hx3]
  have hld := jrow X3.out.1
  clear hx3 k4 s4 f4 H3
  go_wp2_with (first
    | (refine wpList_store_blk rfl rfl 60 _ _ rfl X3.out.2.1 (jC j (some ⟨g1, 0, none⟩) k1 (some ⟨g2, 0, none⟩) k2 (some ⟨g3, 0, none⟩) k3) rfl rfl rfl info60 jC_one ?_
       intro wz z1 z2 z3
       have HZ := Aside0.mk (And.intro z1 z2)
       clear z1 z2 z3)
    | go_in)
  refine bodyPost_ret (results_c60 (by rfl) rfl _ _ q2 rfl HZ.out.1) rfl ?_
  have hv := HB.out.2.2.size
  have hO := X3.out.2.2.2
  exact ⟨g1, k1, g2, k2, g3, k3, rfl, ⟨Kd.R_lower (Kd.R_grown1 hO.r1 rfl HZ.out.2 (fun e => by have h1 : V.heap.size ≤ q2 := Kd.R_base hO.r1 q2 e.symm; omega)) hv, Kd.R_lower (Kd.R_grown1 hO.r2 rfl HZ.out.2 (fun e => by have h1 : V.heap.size ≤ q2 := Kd.R_base hO.r2 q2 e.symm; omega)) hv, Kd.R_lower (Kd.R_grown1 hO.r3 rfl HZ.out.2 (fun e => by have h1 : V.heap.size ≤ q2 := Kd.R_base hO.r3 q2 e.symm; omega)) hv, hO.ne1, hO.ne2⟩,
    X3.out.2.2.1.grown HZ.out.2 X3.out.2.2.1.size (fun k hk => by cases hk; omega)⟩
end Go.Proofs.YtdekmeanlcpenaaGreatDoor.Law
