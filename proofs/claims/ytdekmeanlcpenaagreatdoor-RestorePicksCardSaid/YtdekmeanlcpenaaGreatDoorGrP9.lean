import Derived.Test.YtdekmeanlcpenaaGreatDoorGrP7
import Derived.Test.YtdekmeanlcpenaaGreatDoorGrP8
namespace Go.Proofs.YtdekmeanlcpenaaGreatDoor.Law
open Go.RowKit Go.Proofs.YtdekmeanlcpenaaGreatDoorW.PrintWords Go.Proofs.YtdekmeanlcpenaaGreatDoor.Mid Go.Proofs.YtdekmeanlcpenaaGreatDoor.Pick Go.Proofs.YtdekmeanlcpenaaGreatDoor.Err Go.Proofs.YtdekmeanlcpenaaGreatDoor.Sep
attribute [local go_sem ↓ high] load33_eq load29_eq build69_eq build33_eq build29_eq
attribute [local simp] rowOf_drew rowOf_drewN
attribute [local go_sem high] load33_row load29_row rowOf_drew rowOf_drewN bld29_none bldCode
theorem wpAnyH_one {P : Program} {md : Region.Mode} {ops : Array Oper} {Q : Exit → Act → World → Prop} {S : World → Prop} {i : Nat} {o : Oper} {fuel : Nat} {listed : Array Bool} {a : Act} {w : World} (hr : Region.ready md ops listed = [i]) (hi : ops[i]? = some o) (hw : Region.wanted o (yielded ops a.tmps) = true)
    (h : o.wp P a w (fun a' w' => S w' ∧ wpAnyH P md ops Q S fuel (listed.setIfInBounds i true) a' w') Q) : wpAnyH P md ops Q S (fuel + 1) listed a w := by
  refine ⟨fun h0 => (by rw [hr] at h0; cases h0), fun j hj => ?_⟩
  rw [hr, List.mem_singleton] at hj
  subst hj
  unfold wpOp
  simp only [hi, hw, if_true]
  exact .inl h
def Any0 (_ : World) : Prop := True ∧ True
theorem any0 {w : World} : Any0 w := ⟨trivial, trivial⟩
/-- What the rounds' conditions read. -/
def S14 (gl gw n : Nat) (id : List Int) (w : World) : Prop := rowOf w ⟨gl, 0, none⟩ 32 = some (u8s id) ∧ rowOf w ⟨gw, n * 65, none⟩ 65 = some (resC (codeR 171))
/-- The memory ahead of the rounds' condition. -/
theorem Mem.S14 {w W : World} {N gw n k2 M : Nat} {p : Par} {ys : List Res} (h : Mem w W N p) (e1 : p.wh = ⟨some ⟨gw, 0, none⟩, M, k2⟩) (e2 : p.wx = rowR ys) (hl : ys.length = M) (ok : ∀ y ∈ ys, ResOk y) (hy : ys[n]? = some (codeR 171)) (hid : IdOk p.id) : S14 p.gl gw n p.id W := by
  refine ⟨(At.blk h.lw).id hid, ?_⟩
  have h1 := h.whole
  rw [e1, e2] at h1
  have hn : n < M := by rw [← hl]; exact (List.getElem?_eq_some_iff.1 hy).1
  obtain ⟨g, cap, e, hat⟩ := own_at h1 (i := n) hn
  injection e with e3 _ _
  injection e3 with e3
  injection e3 with e3
  subst e3
  rw [rowR, flat_get (rowR_len ok) hy] at hat
  exact hat.res (codeR_ok (by decide))
theorem z33v_size : z33v.cells.size = resK.sz := rfl
theorem z33v_size' : z33v.cells.size = 65 := rfl
theorem z33v_M (w : World) (b : Nat) (okp : Nat → Prop) : resK.M w b okp (codeR 0) z33v.cells.toList := res_M (codeR_ok (by decide))
theorem codeR_code (m : Int) : (codeR m).code = m := rfl
attribute [local irreducible] codeR
theorem reps_rowR (N r : Nat) (a b : Int) : reps N (resC (codeR a)) ++ reps r (resC (codeR b)) = rowR (List.replicate N (codeR a) ++ List.replicate r (codeR b)) := by
  simp [reps, rowR]
theorem codeCell {W : World} {b g n c j : Nat} {rs : List Res} {m : Int} (h : W.ownsRow b 33 65 (.slice (some ⟨g, 0, none⟩) n c) n (rowR rs)) (ok : ∀ r ∈ rs, ResOk r) (hj : rs[j]? = some (codeR m)) (hn : j < n) (hm : ResOk (codeR m)) : W.cell? ⟨g, j * 65 + 64, none⟩ = some (.int .i64 m) := by
  obtain ⟨g', c', e, hat⟩ := own_at h hn
  injection e with e1 _ _
  injection e1 with e1
  injection e1 with e1
  subst e1
  rw [rowR, flat_get (rowR_len ok) hj] at hat
  have h1 := res_code hm hat
  rw [Addr.add_mid, codeR_code] at h1
  exact h1
theorem Mem.wholeAt {w W : World} {N gw n k2 M : Nat} {p : Par} {ys : List Res} (h : Mem w W N p) (e1 : p.wh = ⟨some ⟨gw, 0, none⟩, M, k2⟩) (e2 : p.wx = rowR ys) (hl : ys.length = M) (ok : ∀ y ∈ ys, ResOk y) (hy : ys[n]? = some (codeR 171)) (hc : ResOk (codeR 171)) : rowOf W ⟨gw, n * 65, none⟩ 65 = some (resC (codeR 171)) := by
  have h1 := h.whole
  rw [e1, e2] at h1
  have hn : n < M := by rw [← hl]; exact (List.getElem?_eq_some_iff.1 hy).1
  obtain ⟨g, cap, e, hat⟩ := own_at h1 (i := n) hn
  injection e with e3 _ _
  injection e3 with e3
  injection e3 with e3
  subst e3
  rw [rowR, flat_get (rowR_len ok) hy] at hat
  exact hat.res hc
set_option maxHeartbeats 1000000
set_option maxRecDepth 100000

theorem told_err {op name : ByteArray} {id : List Int} {n : Int} {er : Value} {w : World} {base : Nat} (hE : ErrAt w base op name n id er) (hid : IdOk id) (hH : Handle w) :
    Calls Tryz.prog 11 #[er, .string op, .string name, .int .i64 n, idv id] w fun e w' => e = .returned (.bool true) ∧ Below w.heap.size w w' := by
  cases hE with
  | none h => subst h; exact told_nil op name id w
  | some g h1 h2 h3 => exact told_some op name id n h1 hid g w hH h3
theorem picked_most {rs : List Res} {qs : List (List Int)} {out : List Res} {n : Int} {id : List Int} (h : Picked rs qs out n id) : out.length ≤ rs.length := by
  by_cases hT : Table rs
  · by_cases hL : ∃ a, Lacks rs qs a
    · rw [(h.lacks hT hL).1]; simp
    · rw [(h.fine hT (fun a ha => hL ⟨a, ha⟩)).1]; exact List.length_filter_le _ _
  · rw [(h.bad hT).1]; simp
/-- What holds ahead of round i of the first loop. -/
structure LI (w W : World) (rs out : List Res) (id : List Int) (gw k2 M : Nat) (wt : SlV) (gl i : Nat) (p : Par) (xs : List Res) : Prop where
  mem : Mem w W out.length p
  gd : p.gd = w.heap.size
  wh : p.wh = ⟨some ⟨gw, 0, none⟩, M, k2⟩
  wt : p.wt = wt
  wo : p.wo = out
  gl : p.gl = gl
  id : p.id = id
  wx : p.wx = rowR xs
  xl : xs.length = M
  xok : ∀ x ∈ xs, ResOk x
  xs : 0 < i → xs.take (rs.length + 1) = rs ++ [codeR 171]
  svn : p.sv.n = i
  par : (i % 2 = 0 ∧ p.gs.length = i ∧ p.sl = p.gs.map G.l) ∨ (i % 2 = 1 ∧ ∃ u : SlV, p.gs.length + 1 = i ∧ p.sl = p.gs.map G.l ++ [u] ∧ u.n = out.length ∧ p.pu = rowP w.heap.size 33 65 u (rowR out))
  ent : ∀ (j : Nat) (x : G), p.gs[j]? = some x → x.m = 1001 + (j : Int) ∧ x.r = 0 ∧ x.g = x.l
  gr : p.gr = 0
  gv : p.gv = ⟨none, 0, 0⟩
  dB : p.dB.length ≤ 1000000

/-- What holds while the rows grow: i rows are grown, row i by j. -/
structure L2 (w W : World) (rs out : List Res) (gw k2 M : Nat) (g7 c7 i j : Nat) (p : Par) (xs : List Res) : Prop where
  mem : Mem w W out.length p
  wh : p.wh = ⟨some ⟨gw, 0, none⟩, M, k2⟩
  wx : p.wx = rowR xs
  xl : xs.length = M
  xok : ∀ x ∈ xs, ResOk x
  xs : xs.take (rs.length + 1) = rs ++ [codeR 171]
  sv : p.sv = ⟨some ⟨g7, 0, none⟩, 4, c7⟩
  sl : p.sl = p.gs.map G.l
  gsl : p.gs.length = 4
  gvn : p.gv.n = i
  gr : p.gr = i
  ent : ∀ (q : Nat) (x : G), p.gs[q]? = some x → x.m = 1001 + (q : Int) ∧ x.r = (if q < i then 64 else if q = i then j else 0) ∧ (x.r = 0 → x.g = x.l)
theorem LI.done {w W : World} {rs out : List Res} {id : List Int} {gw k2 M : Nat} {wt : SlV} {gl : Nat} {p : Par} {xs : List Res} (h : LI w W rs out id gw k2 M wt gl 4 p xs) : ∃ g7 c7, L2 w W rs out gw k2 M g7 c7 0 0 p xs := by
  obtain ⟨hmem, e1, e2, e3, e4, e5, e6, e7, hxl, hxok, hxs, hsvn, hpar, hent, e9, e10, hdB⟩ := h
  have hs := hmem.seven
  rw [hsvn] at hs
  obtain ⟨g7, c7, e, _⟩ := own_form hs (by omega)
  rcases hpar with ⟨_, h1, h2⟩ | ⟨h0, _⟩
  · exact ⟨g7, c7, hmem, e2, e7, hxl, hxok, hxs (by omega), e, h2, h1, by rw [e10], e9, fun q x hx => ⟨(hent q x hx).1, by
      rw [(hent q x hx).2.1]
      split
      · omega
      · split <;> rfl, fun _ => (hent q x hx).2.2⟩⟩
  · omega
section
variable {w W W1 : World} {rs out : List Res} {gw k2 M g7 c7 i j : Nat} {p : Par} {xs : List Res}
theorem L2.row (h : L2 w W rs out gw k2 M g7 c7 i j p xs) (hi : i < 4) : ∃ x, p.gs[i]? = some x ∧ x.m = 1001 + (i : Int) ∧ x.r = j ∧ (j = 0 → x.g = x.l) := by
  have hlt : i < p.gs.length := by rw [h.gsl]; exact hi
  have hx : p.gs[i]? = some p.gs[i] := List.getElem?_eq_getElem hlt
  obtain ⟨h1, h2, h3⟩ := h.ent i _ hx
  rw [if_neg (Nat.lt_irrefl _), if_pos rfl] at h2
  exact ⟨_, hx, h1, h2, fun h0 => h3 (by rw [h2]; exact h0)⟩
theorem map_l_set {gs : List G} {k : Nat} {x y : G} (hx : gs[k]? = some x) (hl : y.l = x.l) : (gs.set k y).map G.l = gs.map G.l := by
  rw [List.map_set, hl]
  apply List.ext_getElem?
  intro q
  by_cases hq : k = q
  · subst hq
    have hlt : k < gs.length := (List.getElem?_eq_some_iff.1 hx).1
    rw [List.getElem?_set_self (by simpa using hlt), List.getElem?_map, hx]
    rfl
  · rw [List.getElem?_set_ne hq]
theorem L2.grow (h : L2 w W rs out gw k2 M g7 c7 i j p xs) {x : G} {g1 : SlV} (hx : p.gs[i]? = some x) (hr : x.r = j) (hm : Mem w W1 out.length { p with gs := p.gs.set i ⟨x.l, g1, x.m, x.r + 1⟩ }) :
    L2 w W1 rs out gw k2 M g7 c7 i (j + 1) { p with gs := p.gs.set i ⟨x.l, g1, x.m, x.r + 1⟩ } xs := by
  have hlt : i < p.gs.length := (List.getElem?_eq_some_iff.1 hx).1
  refine ⟨hm, h.wh, h.wx, h.xl, h.xok, h.xs, h.sv, ?_, ?_, h.gvn, h.gr, fun q y hy => ?_⟩
  · show p.sl = (p.gs.set i _).map G.l
    rw [map_l_set (y := ⟨x.l, g1, x.m, x.r + 1⟩) hx rfl]
    exact h.sl
  · show (p.gs.set i _).length = 4
    rw [List.length_set]
    exact h.gsl
  · replace hy : (p.gs.set i ⟨x.l, g1, x.m, x.r + 1⟩)[q]? = some y := hy
    by_cases hq : i = q
    · subst hq
      rw [List.getElem?_set_self hlt] at hy
      injection hy with hy
      subst hy
      refine ⟨(h.ent i x hx).1, ?_, fun h0 => absurd h0 (by simp)⟩
      rw [if_neg (Nat.lt_irrefl _), if_pos rfl]
      show x.r + 1 = j + 1
      rw [hr]
    · rw [List.getElem?_set_ne hq] at hy
      obtain ⟨h1, h2, h3⟩ := h.ent q y hy
      refine ⟨h1, ?_, h3⟩
      rw [h2]
      by_cases hlt2 : q < i
      · rw [if_pos hlt2, if_pos hlt2]
      · rw [if_neg hlt2, if_neg hlt2, if_neg (fun e => hq e.symm), if_neg (fun e => hq e.symm)]
theorem L2.next (h : L2 w W rs out gw k2 M g7 c7 i 64 p xs) {gv : SlV} (hn : gv.n = p.gv.n + 1) (hm : Mem w W1 out.length { p with gv := gv, gr := p.gr + 1 }) : L2 w W1 rs out gw k2 M g7 c7 (i + 1) 0 { p with gv := gv, gr := p.gr + 1 } xs := by
  refine ⟨hm, h.wh, h.wx, h.xl, h.xok, h.xs, h.sv, h.sl, h.gsl, by show gv.n = i + 1; rw [hn, h.gvn], by show p.gr + 1 = i + 1; rw [h.gr], fun q y hy => ?_⟩
  obtain ⟨h1, h2, h3⟩ := h.ent q y hy
  refine ⟨h1, ?_, h3⟩
  rw [h2]
  by_cases h5 : q < i
  · rw [if_pos h5, if_pos (by omega)]
  · by_cases h6 : q = i
    · rw [if_neg h5, if_pos h6, if_pos (by omega)]
    · rw [if_neg h5, if_neg h6, if_neg (by omega)]
      split <;> rfl
theorem L2.below (h : L2 w W rs out gw k2 M g7 c7 i j p xs) (hb : Below W.heap.size W W1) : L2 w W1 rs out gw k2 M g7 c7 i j p xs :=
  ⟨h.mem.below hb, h.wh, h.wx, h.xl, h.xok, h.xs, h.sv, h.sl, h.gsl, h.gvn, h.gr, h.ent⟩
theorem L2.sevenAt (h : L2 w W rs out gw k2 M g7 c7 i j p xs) {q : Nat} {x : G} (hx : p.gs[q]? = some x) : W.cell? ⟨g7, q, none⟩ = some x.l.v :=
  h.mem.sevenAt h.sv (by rw [h.sl, List.getElem?_map, hx]; rfl)
end
/-- What the last loops read. -/
theorem L2.cells {w W : World} {rs out : List Res} {gw k2 M g7 c7 g8 c8 i : Nat} {p : Par} {xs : List Res} (h : L2 w W rs out gw k2 M g7 c7 4 0 p xs) (e8 : p.gv = ⟨some ⟨g8, 0, none⟩, 4, c8⟩) (hi : i < 4) :
    ∃ (l : SlV) (gg cg : Nat), W.cell? ⟨g7, i, none⟩ = some l.v ∧ W.cell? ⟨g8, i, none⟩ = some (.slice (some ⟨gg, 0, none⟩) (out.length + 64) cg) ∧ (0 < out.length → ∃ g k, l = ⟨some ⟨g, 0, none⟩, out.length, k⟩) ∧
      (∀ j g k, l = ⟨some ⟨g, 0, none⟩, out.length, k⟩ → j < out.length → W.cell? ⟨g, j * 65 + 64, none⟩ = some (.int .i64 (1001 + (i : Int)))) ∧
      (∀ j, j < out.length → W.cell? ⟨gg, j * 65 + 64, none⟩ = some (.int .i64 (1001 + (i : Int)))) ∧
      (∀ j, out.length ≤ j → j < out.length + 64 → W.cell? ⟨gg, j * 65 + 64, none⟩ = some (.int .i64 (2000 + (i : Int)))) := by
  have hlt : i < p.gs.length := by rw [h.gsl]; exact hi
  have hx : p.gs[i]? = some p.gs[i] := List.getElem?_eq_getElem hlt
  obtain ⟨hm, hr, _⟩ := h.ent i _ hx
  rw [if_pos hi] at hr
  obtain ⟨h1, h2, h3, h4⟩ := h.mem.row hx
  rw [hr, hm] at h4
  rw [hm] at h3
  rw [show (1001 + (i : Int) + 999) = 2000 + (i : Int) by omega, reps_rowR] at h4
  have h3' : W.ownsRow w.heap.size 33 65 (p.gs[i]).l.v out.length (rowR (List.replicate out.length (codeR (1001 + (i : Int))) ++ List.replicate 0 (codeR 0))) := by
    rw [← reps_rowR]
    simpa [reps] using h3
  obtain ⟨gg, cg, eg, _⟩ := own_form h4 (by omega)
  have hk := h.mem.grownAt e8 hx (by rw [h.gr]; exact hi)
  have o1 : ResOk (codeR (1001 + (i : Int))) := codeR_ok (by omega)
  have o2 : ResOk (codeR (2000 + (i : Int))) := codeR_ok (by omega)
  have o0 : ResOk (codeR 0) := codeR_ok (by decide)
  have ok4 : ∀ r ∈ List.replicate out.length (codeR (1001 + (i : Int))) ++ List.replicate 64 (codeR (2000 + (i : Int))), ResOk r := by
    intro r hr
    rcases List.mem_append.1 hr with hr | hr
    · rw [List.eq_of_mem_replicate hr]; exact o1
    · rw [List.eq_of_mem_replicate hr]; exact o2
  rw [eg] at h4 hk
  refine ⟨(p.gs[i]).l, gg, cg, h.sevenAt hx, hk, fun h0 => ?_, fun j g k e hj => ?_, fun j hj => ?_, fun j hj hj2 => ?_⟩
  · obtain ⟨g, c, e, _⟩ := own_form h3 h0
    exact ⟨g, c, e⟩
  · rw [e] at h3'
    refine codeCell h3' (fun r hr => ?_) (by rw [List.getElem?_append_left (by simpa using hj), List.getElem?_replicate, if_pos hj]) hj o1
    rcases List.mem_append.1 hr with hr | hr
    · rw [List.eq_of_mem_replicate hr]; exact o1
    · simp at hr
  · exact codeCell h4 ok4 (by rw [List.getElem?_append_left (by simpa using hj), List.getElem?_replicate, if_pos hj]) (by show j < out.length + 64; omega) o1
  · exact codeCell h4 ok4 (by rw [List.getElem?_append_right (by simpa using hj), List.length_replicate, List.getElem?_replicate, if_pos (by omega)]) hj2 o2
theorem ent_snoc {gs : List G} {u : SlV} {m : Int} (h : ∀ (j : Nat) (x : G), gs[j]? = some x → x.m = 1001 + (j : Int) ∧ x.r = 0 ∧ x.g = x.l) (hm : m = 1001 + (gs.length : Int)) :
    ∀ (j : Nat) (x : G), (gs ++ [⟨u, u, m, 0⟩])[j]? = some x → x.m = 1001 + (j : Int) ∧ x.r = 0 ∧ x.g = x.l := by
  intro j x hx
  rcases Nat.lt_trichotomy j gs.length with hj | hj | hj
  · rw [List.getElem?_append_left hj] at hx
    exact h j x hx
  · subst hj
    rw [List.getElem?_concat_length] at hx
    injection hx with hx
    subst hx
    exact ⟨hm, rfl, rfl⟩
  · rw [List.getElem?_eq_none (by simp; omega)] at hx
    cases hx

theorem law_any (A0 : Option Addr) (c0 : Nat) (rs : List Res) (A1 : Option Addr) (c1 : Nat) (qs : List (List Int)) (w : World) (hC : resK.C w A0 rs.length rs) (hD : idK.C w A1 qs.length qs) (hc : rs.length ≤ c0) (ok : ∀ r ∈ rs, ResOk r) (oka : ∀ a ∈ qs, IdOk a) (hH : Handle w) :
    Calls Tryz.prog 3 #[.slice A0 rs.length c0, .slice A1 qs.length c1] w fun e w' => e = .returned (.bool true) ∧ Below w.heap.size w w' := by
  have HC := Aside0.mk hC
  have HD := Aside0.mk hD
  have HO := Aside0.mk ok
  have HOA := Aside0.mk oka
  have HH := Aside0.mk hH
  clear hC hD ok oka hH
  by_cases h1 : 2000 < rs.length
  · have h1' : (2000 : Int) < (rs.length : Int) := by omega
    go_enter Tryz.func3, Tryz.ntmps3
    go_wp2
    go_ret
    exact ⟨rfl, Below.refl _ _⟩
  by_cases h2 : 200 < qs.length
  · have h1' : decide ((2000 : Int) < (rs.length : Int)) = false := by simp; omega
    have h1'' : decide (2000 < rs.length) = false := by simp; omega
    have h2' : (200 : Int) < (qs.length : Int) := by omega
    go_enter Tryz.func3, Tryz.ntmps3
    go_wp2
    go_ret
    exact ⟨rfl, Below.refl _ _⟩
  have h1' : decide ((2000 : Int) < (rs.length : Int)) = false := by simp; omega
  have h1'' : decide (2000 < rs.length) = false := by simp; omega
  have h2' : decide ((200 : Int) < (qs.length : Int)) = false := by simp; omega
  have h2'' : decide (200 < qs.length) = false := by simp; omega
  obtain ⟨M, hM⟩ : ∃ M, rs.length + 2 = M := ⟨_, rfl⟩
  have hM1 : (rs.length : Int) + 2 = (M : Int) := by omega
  obtain ⟨W1, hW1⟩ : ∃ W, W = w.alloc (.cells #[.slice none 0 0] 26) := ⟨_, rfl⟩
  have HW1 := Aside0.mk hW1
  have HB1 : Aside0 (Below w.heap.size w W1) := ⟨hW1 ▸ below_alloc (Below.refl _ _) _⟩
  have HD1 : Aside0 (W1.heap[w.heap.size]? = some (.cells #[.slice none 0 0] 26 (0, 0))) := ⟨hW1 ▸ heap_alloc_new w _⟩
  clear hW1
  go_enter Tryz.func3, Tryz.ntmps3
  go_upto_region 4 with (fail)
  rw [← HW1.out]
  go_upto_region 7 with (at_make; go_loud (refine Kd.R_make resK (w0 := w) w.heap.size 33 rfl rfl 22 _ _ rfl (M : Int) rfl rfl Tryz.underlying22 z33v 72 info33full' z33v_size (by decide) (by decide) (codeR 0) (ok := fun _ => True) (okp := fun _ => False) (z33v_M _ _ _) (fun _ _ => trivial) trivial (by omega) (by simp; omega) HB1.out HB1.out.size ?_); intro v2 w2 ho2 hb2 hg2 hat2; rw [Int.toNat_natCast] at ho2; obtain ⟨A2, k2, e2⟩ := Kd.R_slice ho2; rw [List.length_replicate] at e2; subst e2; have O2 := Aside0.mk ho2; have B2 := Aside0.mk hb2; have G2 := Aside0.mk hg2; clear ho2 hb2 hg2 hat2)
  go_upto_region 8 with (first
    | (go_at_call 8; refine (rpick_any A0 c0 rs A1 c1 qs _ (Kd.C_below HC.out B2.out) (Kd.C_below HD.out B2.out) hc HO.out HOA.out (by omega) (by omega)).mono ?_; rintro e w3 ⟨⟨v3, out, n, id, rfl, hP, hR, hI⟩, hb3⟩; have HP := Aside0.mk hP; have HR := Aside0.mk hR; have HI := Aside0.mk hI; have B3 := Aside0.mk hb3; clear hP hR hI hb3)
    | (refine store29_new rfl rfl (.tmp 11) (.tmp 40) rfl _ rfl id HI.out rfl rfl ?_)
    | go_in)
  obtain ⟨A3, k3, e3⟩ := Kd.R_slice HR.out
  subst e3
  obtain ⟨gw, e2, hk2⟩ : ∃ gw, A2 = some ⟨gw, 0, none⟩ ∧ M ≤ k2 := by
    rcases (resR_own O2.out).1.2 with ⟨_, h0⟩ | ⟨g, cap, cur, hv, _, _, hcap, _⟩
    · simp at h0; omega
    · injection hv with e1 _ e3
      rw [List.length_replicate] at hcap
      exact ⟨g, e1, by omega⟩
  have hk3 : rs.length ≤ k2 := by omega
  have hk4 : (rs.length : Int) ≤ (k2 : Int) := by omega
  subst e2
  obtain ⟨W0, hW0⟩ : ∃ W, W = w3.alloc (.cells (u8s id).toArray 29) := ⟨_, rfl⟩
  rw [← hW0]
  have hLI : LI w W0 rs out id gw k2 M ⟨A3, out.length, k3⟩ w3.heap.size 0 ⟨w.heap.size, .slice none 0 0, [], ⟨some ⟨gw, 0, none⟩, M, k2⟩, rowR (List.replicate M (codeR 0)), ⟨A3, out.length, k3⟩, out, w3.heap.size, id, ⟨none, 0, 0⟩, [], [], empP, ⟨none, 0, 0⟩, 0, empP⟩ (List.replicate M (codeR 0)) := by
    have hbn : Below w3.heap.size w3 W0 := hW0 ▸ below_alloc (Below.refl _ _) _
    have hw2 : Below w2.heap.size w2 W0 := B3.out.trans (hbn.mono B3.out.size)
    have hsz : W1.heap.size ≤ w2.heap.size := G2.out.size
    refine ⟨Mem.start (B2.out.trans (hw2.mono B2.out.size)) ?_ (Nat.le_refl _) ?_ ?_ (hW0 ▸ heap_alloc_new w3 _) ?_ ?_, rfl, rfl, rfl, rfl, rfl, rfl, rfl, by simp, ?_, fun h => absurd h (by omega), rfl, .inl ⟨rfl, rfl, rfl⟩, fun j x h => by simp at h, rfl, rfl, by simp⟩
    · exact blk_below (blk_grown HD1.out G2.out (by simp)) hw2
    · have h1 := (resR_own O2.out).1
      rw [List.length_replicate] at h1
      exact own_loc h1 (fun g _ hl => hw2.block g hl)
    · exact own_loc (own_weaken (resR_own HR.out).1 B2.out.size) (fun g _ hl => hbn.block g hl)
    · have := B2.out.size; have := B3.out.size; omega
    · intro g hg hg'
      have h1 := own_lt (resR_own O2.out).1 g hg
      have h2 := own_base (resR_own HR.out).1 g hg'
      omega
    · intro x hx
      rw [List.eq_of_mem_replicate hx]
      exact codeR_ok (by decide)
  have HOUT : Aside0 (∀ r ∈ out, ResOk r) := ⟨(resR_own HR.out).2⟩
  have HL := Aside0.mk hLI
  obtain ⟨gl, hgl⟩ : ∃ gl, w3.heap.size = gl := ⟨_, rfl⟩
  rw [hgl] at HL ⊢
  have HMM := Aside0.mk hM
  have hM2 : (rs.length : Int) < (M : Int) := by omega
  have hM3 : rs.length < M := by omega
  clear hM
  clear hLI hW0 HR O2 B2 B3 G2 HD1 HB1 HW1 hgl
  go_wp2
  go_loopg [7, 12] 4 (fun k v7 v12 W => ∃ (i : Nat) (p : Par) (xs : List Res), v12 = .int .i64 i ∧ i + k = 4 ∧ v7 = p.sv.v ∧ Aside0 (LI w W rs out id gw k2 M ⟨A3, out.length, k3⟩ gl i p xs))
  case atStart => exact ⟨0, _, _, rfl, by omega, rfl, HL⟩
  case round =>
    clear HL
    obtain ⟨i, p, xs, rfl, hik, rfl, HL⟩ := hrel
    cases gk with
    | zero =>
      have hi4 : i = 4 := by omega
      subst hi4
      obtain ⟨g7, c7, h2⟩ := HL.out.done
      have hsv := h2.sv
      have hgv := HL.out.gv
      have H2 := Aside0.mk h2
      clear HL h2
      rw [hsv]
      simp only [SlV.v]
      clear hsv
      go_wp2
      go_loopg [8, 15] 4 (fun k v8 v15 W => ∃ (i : Nat) (p : Par), v15 = .int .i64 i ∧ i + k = 4 ∧ v8 = p.gv.v ∧ Aside0 (L2 w W rs out gw k2 M g7 c7 i 0 p xs))
      case atStart => exact ⟨0, p, rfl, by omega, by rw [hgv]; rfl, H2⟩
      case round =>
        clear H2 hgv
        obtain ⟨i, p, rfl, hik, rfl, H2⟩ := hrel
        cases gk with
        | zero =>
          have hi4 : i = 4 := by omega
          subst hi4
          have hgv := H2.out.mem.grown
          rw [H2.out.gvn] at hgv
          obtain ⟨g8, c8, e8, _⟩ := own_form hgv (by omega)
          have H8 := Aside0.mk e8
          rw [e8]
          simp only [SlV.v]
          clear hgv e8
          rename World => WL
          go_wp2
          go_loopg [18] 4 (fun k v18 W => ∃ (i : Nat), v18 = .int .i64 i ∧ i + k = 4 ∧ Aside0 (Below WL.heap.size WL W))
          case atStart => exact ⟨0, rfl, by omega, ⟨Below.refl _ _⟩⟩
          case round =>
            obtain ⟨i, rfl, hik, HBW⟩ := hrel
            cases gk with
            | zero =>
              have hiz : i = 4 := by omega
              subst hiz
              have h2f := H2.out.below HBW.out
              have H2F := Aside0.mk h2f
              have HXN : Aside0 (xs[rs.length]? = some (codeR 171)) := ⟨by
                have h1 := congrArg (·[rs.length]?) h2f.xs
                simp only [List.getElem?_take, Nat.lt_succ_self, if_true, List.getElem?_concat_length] at h1
                exact h1⟩
              have HCW : Aside0 (resK.C wr (some ⟨gw, 0, none⟩) rs.length rs) := ⟨by
                have hw := h2f.mem.whole
                rw [h2f.wh, h2f.wx] at hw
                have h1 := (own_prefR (n := rs.length) hw h2f.xok h2f.xl (Nat.le_of_lt hM3)).2
                have h2 : xs.take rs.length = rs := by
                  have := congrArg (List.take rs.length) h2f.xs
                  rw [List.take_take, Nat.min_eq_left (by omega), List.take_append_of_le_length (by omega), List.take_length] at this
                  exact this
                rw [h2] at h1
                exact h1⟩
              have heq : ∀ u, (Op.equalIn 10000 33 (.agg (resC (codeR 171)).toArray) (.agg (resC (codeR 171)).toArray)).run Tryz.prog u = .ok true u := fun u => by rw [eqI33 u _ _ (codeR_ok (by decide)) (codeR_ok (by decide)), decide_eq_true rfl]
              have hlw : rs.length ≤ 1000000 := by omega
              clear h2f H2 HBW
              go_wp2_with (first
                | (go_at_call 12
                   have hCW := HCW.out
                   have hCB := Kd.C_below HC.out H2F.out.mem.bel
                   refine (tables_true (some ⟨gw, 0, none⟩) k2 A0 c0 rs wr hCW hCB hlw).mono ?_
                   rintro e wy ⟨rfl, hb⟩
                   have H2G := Aside0.mk (H2F.out.below hb)
                   have hSJ : rowOf wy ⟨gw, rs.length * 65, none⟩ 65 = some (resC (codeR 171)) := H2G.out.mem.wholeAt H2G.out.wh H2G.out.wx H2G.out.xl H2G.out.xok HXN.out (codeR_ok (by decide))
                   clear hb hCW hCB)
                | (go_at_call 15
                   refine (known_true wy (handle_below HH.out H2G.out.mem.bel)).mono ?_
                   rintro e wz ⟨rfl, hb⟩
                   have HZ := Aside0.mk (below_step H2G.out.mem.bel hb)
                   clear hb)
                | go_in)
              go_ret
              exact ⟨rfl, HZ.out⟩
            | succ k =>
              have hi4 : (i : Int) < 4 := by omega
              have hi4' : i < 4 := by omega
              go_wp2
              go_loopg [19] (out.length + 64) (fun q v19 W => ∃ (j : Nat), v19 = .int .i64 j ∧ j + q = out.length + 64 ∧ Aside0 (Below WL.heap.size WL W))
              case atStart => exact ⟨0, rfl, by omega, HBW⟩
              case round =>
                clear HBW
                obtain ⟨j, rfl, hjq, HBW⟩ := hrel
                obtain ⟨l, gg, cg, hl7, hg8, hlf, hlc, hgc1, hgc2⟩ := (H2.out.below HBW.out).cells H8.out hi4'
                cases gk with
                | zero =>
                  have hd0 : j = out.length + 64 := by omega
                  subst hd0
                  clear hlf hlc hgc1 hgc2
                  go_wp2
                  go_roundg k
                  case measure => omega
                  case rel => exact ⟨i + 1, by go_num, by omega, HBW⟩
                | succ q =>
                  have hol : out.length ≤ 1000000 := Nat.le_trans (picked_most HP.out) (by omega)
                  have hj1 : j < out.length + 64 := by omega
                  have hj2 : (j : Int) < (out.length : Int) + 64 := by omega
                  have hj3 : (j : Int) < ((out.length + 64 : Nat) : Int) := by omega
                  by_cases hjn : j < out.length
                  · obtain ⟨gx, kx, rfl⟩ := hlf (by omega)
                    have hcl := hlc j gx kx rfl hjn
                    have hcg := hgc1 j hjn
                    have d0 : (j : Int) < (out.length : Int) := by omega
                    have d1 : decide (j < out.length) = true := by simp; omega
                    have d2 : decide ((j : Int) < (out.length : Int)) = true := by simp; omega
                    have d3 : decide (out.length ≤ j) = false := by simp; omega
                    have d4 : decide ((out.length : Int) ≤ (j : Int)) = false := by simp; omega
                    simp only [SlV.v] at hl7
                    clear hlf hlc hgc1 hgc2
                    go_wp2
                    go_quiet (fail)
                    go_wp2
                    go_roundg q
                    case measure => omega
                    case rel => exact ⟨j + 1, by go_num, by omega, ⟨below_step HBW.out (bdrN _ _)⟩⟩
                  · have hcg := hgc2 j (by omega) hj1
                    have d1 : decide (j < out.length) = false := by simp; omega
                    have d2 : decide ((j : Int) < (out.length : Int)) = false := by simp; omega
                    have d3 : decide (out.length ≤ j) = true := by simp; omega
                    have d4 : decide ((out.length : Int) ≤ (j : Int)) = true := by simp; omega
                    clear hlf hlc hgc1 hgc2
                    go_wp2
                    go_quiet (fail)
                    go_wp2
                    go_roundg q
                    case measure => omega
                    case rel => exact ⟨j + 1, by go_num, by omega, ⟨below_step HBW.out (bdrN _ _)⟩⟩
        | succ k =>
          have hi4 : (i : Int) < 4 := by omega
          have hi4' : i < 4 := by omega
          obtain ⟨x, hx, hxm, hxr, hxg⟩ := H2.out.row hi4'
          have hs7 := H2.out.sevenAt hx
          have hxg0 := hxg rfl
          obtain ⟨xl, xg, xm, xr⟩ := x
          simp only at hxm hxr hxg0 hs7
          subst hxm hxr hxg0
          clear hxg
          have hinn : Aside0 (L2 w wr rs out gw k2 M g7 c7 i 0 p xs) := H2
          have hgx : p.gs[i]? = some ⟨xg, xg, 1001 + (i : Int), 0⟩ := hx
          clear hx H2
          go_wp2
          go_loopg [16, 17] 64 (fun q v16 v17 W => ∃ (j : Nat) (p' : Par) (x : G), v17 = .int .i64 j ∧ j + q = 64 ∧ v16 = x.g.v ∧ p'.gs[i]? = some x ∧ p'.gv = p.gv ∧ Aside0 (L2 w W rs out gw k2 M g7 c7 i j p' xs))
          case atStart => exact ⟨0, p, _, rfl, by omega, rfl, hgx, rfl, hinn⟩
          case round =>
            clear hinn hgx hs7
            obtain ⟨j, p', x, rfl, hjq, rfl, hgx, hpv, HJ⟩ := hrel
            cases gk with
            | zero =>
              have hj64 : j = 64 := by omega
              subst hj64
              rw [← hpv]
              have hxe : x.g.v = .slice x.g.A x.g.n x.g.c := rfl
              rw [hxe]
              have HGX := Aside0.mk hgx
              clear hgx
              go_wp2_with (first
                | ((with_reducible refine gate_builtin (b := .append) (xs := #[.tmp 148, .tmp 150]) rfl ?_); go_loud (refine wpList_append_row (W := wr) (w0 := w) w.heap.size ?_ (.tmp 148) (.tmp 150) 27 22 (.slice none 0 0) 1 24 ?_ Tryz.underlying27 info22 rfl (by decide) (by decide) p'.gv.v p'.gv.n ((p'.gs.take p'.gr).map (·.g.v)) [.slice x.g.A x.g.n x.g.c] ?_ ?_ rfl ?_ HJ.out.mem.grown HJ.out.mem.bel HJ.out.mem.bel.size ?_ ?_)
                   rotate_left 1
                   focus with_reducible exact rfl
                   focus exact rfl
                   focus exact rfl
                   focus (intro u hu; rw [List.mem_singleton.1 hu]; rfl)
                   focus (have := HJ.out.gvn; omega)
                   rotate_left 1
                   focus exact rfl
                   intro v1 wk hv1 hB1 hg1 _ hat1
                   obtain ⟨gv1, rfl, hgn, hm1⟩ := HJ.out.mem.grownApp (x := x) (by rw [HJ.out.gr]; exact HGX.out) hv1 hB1 hg1 hat1
                   have HJ3 := Aside0.mk (HJ.out.next hgn hm1)
                   clear hv1 hB1 hg1 hat1 hm1)
                | go_in)
              go_roundg k
              case measure => omega
              case rel => exact ⟨i + 1, _, by go_num, by omega, rfl, HJ3⟩
            | succ q =>
              have hj : (j : Int) < 64 := by omega
              have hj' : j < 64 := by omega
              obtain ⟨x', hx', hxm, hxr, _⟩ := HJ.out.row hi4'
              rw [hgx] at hx'
              injection hx' with hx'
              subst hx'
              have hrow := (HJ.out.mem.row hgx).2.2.2
              rw [hxr] at hrow
              have HRO := Aside0.mk hrow
              have HXM : Aside0 (x.m + 999 = 2000 + (i : Int)) := ⟨by rw [hxm]; omega⟩
              have HXR := Aside0.mk hxr
              have HGX := Aside0.mk hgx
              have HWL : Aside0 (out.length ≤ 1000000) := ⟨Nat.le_trans (picked_most HP.out) (by omega)⟩
              have HCO : Aside0 (ResOk (codeR (2000 + (i : Int)))) := ⟨codeR_ok (by omega)⟩
              clear hrow hxm hxr hgx
              go_upto_region 28 with (first
                | (refine wpList_build33 ?_ (.tmp 145) ?_ (codeR (2000 + (i : Int))) HCO.out ?_ ?_
                   rotate_left 1
                   focus with_reducible exact rfl
                   focus exact rfl
                   rotate_left 1
                   focus exact rfl)
                | ((with_reducible refine gate_builtin (b := .append) (xs := #[.tmp 142, .tmp 146]) rfl ?_); go_loud (refine wpList_append_row (W := wr) (w0 := w) w.heap.size ?_ (.tmp 142) (.tmp 146) 22 33 z33v 65 72 ?_ Tryz.underlying22 info33full' z33v_size' (by decide) (by decide) x.g.v (out.length + j) (reps out.length (resC (codeR x.m)) ++ reps j (resC (codeR (x.m + 999)))) (resC (codeR (2000 + (i : Int)))) ?_ ?_ (codeR_len _) ?_ HRO.out HJ.out.mem.bel HJ.out.mem.bel.size ?_ ?_)
                   rotate_left 1
                   focus with_reducible exact rfl
                   focus exact rfl
                   focus exact rfl
                   focus exact resC_one
                   focus (have := HWL.out; omega)
                   rotate_left 1
                   focus exact rfl
                   intro v1 wk hv1 hB1 hg1 ho1 hat1
                   rw [← HXM.out] at hv1
                   have hxr := HXR.out
                   subst hxr
                   obtain ⟨g1, rfl, hgn, hm1⟩ := HJ.out.mem.rowGrow HGX.out (by rw [HJ.out.gr]; exact Nat.le_refl _) hB1 hg1 hv1 ho1 hat1
                   have HJ2 := Aside0.mk (HJ.out.grow HGX.out rfl hm1)
                   clear hv1 hB1 hg1 ho1 hat1 hm1)
                | go_in)
              go_wp2
              go_roundg q
              case measure => omega
              case rel => exact ⟨x.r + 1, { p' with gs := p'.gs.set i ⟨x.l, g1, x.m, x.r + 1⟩ }, ⟨x.l, g1, x.m, x.r + 1⟩, by go_num, by omega, rfl, List.getElem?_set_self (List.getElem?_eq_some_iff.1 HGX.out).1, hpv, HJ2⟩
    | succ k =>
      have hi4 : (i : Int) < 4 := by omega
      have hi4' : i < 4 := by omega
      obtain ⟨gd, dv, dB, wh, wx, wt, wo, gl1, id1, sv, sl, gs, cu, gv, gr, pu⟩ := p
      obtain ⟨hmem, e1, e2, e3, e4, e5, e6, e7, hxl, hxok, hxs, hsvn, hpar, hent, e9, e10, hdB⟩ := HL.out
      simp only at e1 e2 e3 e4 e5 e6 e7 e9 e10 hsvn hpar hent hdB
      subst e1 e2 e3 e4 e5 e6 e7 e9 e10
      have HM := Aside0.mk hmem
      have HXL := Aside0.mk hxl
      have HXO := Aside0.mk hxok
      have HENT := Aside0.mk hent
      have HDB := Aside0.mk hdB
      have HPAR := Aside0.mk hpar
      have HSV := Aside0.mk hsvn
      have HRW := Aside0.mk (hmem.wholeR rfl rfl hxl hxok)
      have HMIN : Aside0 (rs.take (min rs.length xs.length) ++ xs.drop (min rs.length xs.length) = rs ++ xs.drop rs.length) := ⟨by rw [hxl, Nat.min_eq_left (by omega), List.take_length]⟩
      clear hmem hxl hxok hxs hent hdB HL hpar hsvn
      go_upto_region 12 with (first
        | ((with_reducible refine gate_builtin (b := .copy) (xs := #[.tmp 45, .tmp 46]) rfl ?_); go_loud (refine OpenK.R_copy_many resK (w0 := w) w.heap.size rfl (.tmp 45) (.tmp 46) 22 22 33 rfl Tryz.underlying22 info33 (by decide) (fun _ _ _ _ _ h _ _ _ => h) (fun _ _ _ _ _ _ h => h) (.slice (some ⟨gw, 0, none⟩) M k2) xs rs A0 rs.length c0 (fun _ => True) rfl rfl HRW.out (Kd.C_below HC.out HM.out.bel) HM.out.bel HM.out.bel.size ?_); intro wa hoa hba hga; rw [HMIN.out] at hoa; have HMA := Aside0.mk (HM.out.wholeSet (wx := rowR (rs ++ xs.drop rs.length)) hga (by have h := (resR_own hoa).1; rw [List.length_append, List.length_drop, HXL.out, show rs.length + (M - rs.length) = M by omega] at h; exact h)); have HOA2 := Aside0.mk (resR_own hoa).2; clear hoa hba hga)
        | go_in)
      have hP := HMA.out.wholePut (gw := gw) (n := M) (k2 := k2) (i := rs.length) (xs := rs ++ xs.drop rs.length) (r := codeR 171) rfl rfl (by rw [List.length_append, List.length_drop, HXL.out]; omega) (by omega) HOA2.out (codeR_ok (by decide))
      obtain ⟨ys, hys⟩ : ∃ ys, (rs ++ xs.drop rs.length).set rs.length (codeR 171) = ys := ⟨_, rfl⟩
      have HYO : Aside0 (∀ y ∈ ys, ResOk y) := ⟨by
        intro y hy
        rw [← hys] at hy
        rcases List.mem_or_eq_of_mem_set hy with hy | rfl
        · exact HOA2.out y hy
        · exact codeR_ok (by decide)⟩
      have HYL : Aside0 (ys.length = M) := ⟨by rw [← hys, List.length_set, List.length_append, List.length_drop, HXL.out]; omega⟩
      have HYS : Aside0 (ys.take (rs.length + 1) = rs ++ [codeR 171]) := ⟨by
        rw [← hys, List.set_append_right _ _ (by omega), Nat.sub_self, List.take_append, List.take_of_length_le (by omega), Nat.add_sub_cancel_left, List.drop_eq_getElem_cons (by rw [HXL.out]; omega)]
        rfl⟩
      have HTH := Aside0.mk hP.1
      have HMB : Aside0 (Mem w _ wo.length ⟨w.heap.size, dv, dB, ⟨some ⟨gw, 0, none⟩, M, k2⟩, rowR ys, ⟨A3, wo.length, k3⟩, wo, gl1, id1, sv, sl, gs, cu, ⟨none, 0, 0⟩, 0, pu⟩) := ⟨hys ▸ hP.2⟩
      simp only [Act.put, List.setIfInBounds_toArray, List.set]
      clear hP HRW HMA HM HOA2 hys HMIN
      go_upto_region 13 with (first
        | (refine wpList_store_cells (ty := 33) (x := .tmp 52) (y := .tmp 51) (b := gw) (o := rs.length * 65) (cs := resC (codeR 171)) ?_ ?_ ?_ ?_ ?_ ?_ ?_ ?_ ?_
           rotate_left 2
           focus with_reducible exact rfl
           focus exact rfl
           focus exact rfl
           focus exact HTH.out
           focus (rw [codeR_len]; exact info33)
           focus exact resC_one
           rotate_left 1
           focus exact rfl
           focus exact rfl)
        | go_in)
      obtain ⟨WB, hWB⟩ : ∃ WB, WB = wa.setCells gw (rs.length * 65) (resC (codeR 171)) := ⟨_, rfl⟩
      rw [← hWB] at HMB ⊢
      clear hWB HTH
      have HMC : Aside0 (Mem w WB.drew wo.length ⟨w.heap.size, dv, dB, ⟨some ⟨gw, 0, none⟩, M, k2⟩, rowR ys, ⟨A3, wo.length, k3⟩, wo, gl1, id1, sv, sl, gs, cu, ⟨none, 0, 0⟩, 0, pu⟩) := ⟨HMB.out.below (below_drew (Below.refl _ _))⟩
      refine wp_region_held (S := Any0) (by kernel_rfl) ?_
      change wpAnyH _ _ _ _ _ _ _ _ WB.drew
      generalize WB.drew = WC at HMC ⊢
      clear HMB
      refine wpAnyH_take (i := 0) (v := ?_) rfl (by kernel_rfl) (by kernel_rfl) (by kernel_rfl) (fun _ _ _ h => h) (Or.inl ⟨by rfl, ?_⟩) any0 ?_
      rotate_left
      · (intro wG hSw; go_simp; try with_reducible rfl)
      simp only [Act.put, List.setIfInBounds_toArray, List.set]
      refine wpAnyH_take (i := 1) (v := ?_) rfl (by kernel_rfl) (by kernel_rfl) (by kernel_rfl) (fun _ _ _ h => h) (Or.inl ⟨by rfl, ?_⟩) any0 ?_
      rotate_left
      · (intro wG hSw; go_simp; try with_reducible rfl)
      simp only [Act.put, List.setIfInBounds_toArray, List.set]
      refine wpAnyH_take (i := 2) (v := ?_) rfl (by kernel_rfl) (by kernel_rfl) (by kernel_rfl) (fun _ _ _ h => h) (Or.inl ⟨by rfl, ?_⟩) any0 ?_
      rotate_left
      · (intro wG hSw; go_simp; try with_reducible rfl)
      simp only [Act.put, List.setIfInBounds_toArray, List.set]
      refine wpAnyH_take (i := 3) (v := ?_) rfl (by kernel_rfl) (by kernel_rfl) (by kernel_rfl) (fun _ _ _ h => h) (Or.inl ⟨by rfl, ?_⟩) any0 ?_
      rotate_left
      · (intro wG hSw; go_simp; try with_reducible rfl)
      simp only [Act.put, List.setIfInBounds_toArray, List.set]
      refine wpAnyH_take (i := 4) (v := ?_) rfl (by kernel_rfl) (by kernel_rfl) (by kernel_rfl) (fun _ _ _ h => h) (Or.inl ⟨by rfl, ?_⟩) any0 ?_
      rotate_left
      · (intro wG hSw; go_simp; try with_reducible rfl)
      simp only [Act.put, List.setIfInBounds_toArray, List.set]
      refine wpAnyH_take (i := 5) (v := ?_) rfl (by kernel_rfl) (by kernel_rfl) (by kernel_rfl) (fun _ _ _ h => h) (Or.inl ⟨by rfl, ?_⟩) any0 ?_
      rotate_left
      · (intro wG hSw; go_simp; try with_reducible rfl)
      simp only [Act.put, List.setIfInBounds_toArray, List.set]
      refine wpAnyH_one (i := 6) (by kernel_rfl) rfl (by rfl) ?_
      go_simp
      go_at_call 10
      refine (desk_lay_any w w.heap.size WC dv dB A1 c1 qs HMC.out.desk HD.out HOA.out (by omega) HDB.out).mono ?_
      rintro e WD ⟨gq, kq, nq, rfl, hnq1, hnq2, hDI, hKp, hLA⟩
      have HMD : Aside0 (Mem w WD wo.length ⟨w.heap.size, .slice (some ⟨gq, 0, none⟩) nq kq, deskS qs nq, ⟨some ⟨gw, 0, none⟩, M, k2⟩, rowR ys, ⟨A3, wo.length, k3⟩, wo, gl1, id1, sv, sl, gs, cu, ⟨none, 0, 0⟩, 0, pu⟩) := ⟨HMC.out.deskSet hDI hKp hLA⟩
      have HCW : Aside0 (resK.C WD (some ⟨gw, 0, none⟩) rs.length rs) := ⟨by
        have h1 := (own_prefR (n := rs.length) HMD.out.whole HYO.out HYL.out (Nat.le_of_lt hM3)).2
        have h2 : ys.take rs.length = rs := by
          have := congrArg (List.take rs.length) HYS.out
          rw [List.take_take, Nat.min_eq_left (by omega), List.take_append_of_le_length (by omega), List.take_length] at this
          exact this
        rw [h2] at h1
        exact h1⟩
      have HCD : Aside0 (idK.C WD (some ⟨gq, 0, none⟩) qs.length qs) := ⟨by
        have h0 := HMD.out.desk
        have h3 : (deskS qs nq).length = nq := deskS_length (by omega)
        have h4 := h0.row
        simp only [h3] at h4
        have h1 := (own_prefI (n := qs.length) h4 h0.ok h3 (by omega)).2
        rw [deskS, List.take_append_of_le_length (by omega), List.take_length] at h1
        exact h1⟩
      clear hDI hKp hLA HMC
      refine ⟨any0, ?_⟩
      try simp only [Act.put, List.setIfInBounds_toArray, List.set]
      refine wpAnyH_one (i := 7) (by kernel_rfl) rfl (by rfl) ?_
      go_simp
      go_at_call 9
      refine (Pick_any (some ⟨gw, 0, none⟩) k2 rs (some ⟨gq, 0, none⟩) kq qs WD HCW.out HCD.out hk3 HO.out HOA.out (by omega)).mono ?_
      rintro e WE ⟨⟨v5, er5, out5, n5, id5, rfl, hP5, hR5, hE5, hI5⟩, hb5⟩
      obtain ⟨rfl, rfl, rfl⟩ := Picked.same HOA.out HP.out hP5
      obtain ⟨A5, c5, rfl⟩ := Kd.R_slice hR5
      have HME : Aside0 (Mem w WE wo.length ⟨w.heap.size, .slice (some ⟨gq, 0, none⟩) nq kq, deskS qs nq, ⟨some ⟨gw, 0, none⟩, M, k2⟩, rowR ys, ⟨A3, wo.length, k3⟩, wo, gl1, id1, sv, sl, gs, rowP w.heap.size 33 65 ⟨A5, wo.length, c5⟩ (rowR wo), ⟨none, 0, 0⟩, 0, pu⟩) := ⟨HMD.out.curNew (u := ⟨A5, wo.length, c5⟩) hb5 (resR_own hR5).1⟩
      have HER := Aside0.mk hE5
      clear HMD hR5 hE5 hP5 hb5 HCW HCD
      refine ⟨any0, ?_⟩
      try simp only [Act.put, List.setIfInBounds_toArray, List.set]
      refine wpAnyH_take (i := 8) (v := ?_) rfl (by kernel_rfl) (by kernel_rfl) (by kernel_rfl) (fun _ _ _ h => h) (Or.inl ⟨by rfl, ?_⟩) any0 ?_
      rotate_left
      · (intro wG hSw; go_simp; try with_reducible rfl)
      simp only [Act.put, List.setIfInBounds_toArray, List.set]
      refine wpAnyH_take (i := 9) (v := ?_) rfl (by kernel_rfl) (by kernel_rfl) (by kernel_rfl) (fun _ _ _ h => h) (Or.inl ⟨by rfl, ?_⟩) any0 ?_
      rotate_left
      · (intro wG hSw; go_simp; try with_reducible rfl)
      simp only [Act.put, List.setIfInBounds_toArray, List.set]
      refine wpAnyH_take (i := 10) (v := ?_) rfl (by kernel_rfl) (by kernel_rfl) (by kernel_rfl) (fun _ _ _ h => h) (Or.inl ⟨by rfl, ?_⟩) any0 ?_
      rotate_left
      · (intro wG hSw; go_simp; try with_reducible rfl)
      simp only [Act.put, List.setIfInBounds_toArray, List.set]
      refine wpAnyH_take (i := 11) (v := ?_) rfl (by kernel_rfl) (by kernel_rfl) (by kernel_rfl) (fun _ _ _ h => h) (Or.inl ⟨by rfl, ?_⟩) any0 ?_
      rotate_left
      · (intro wG hSw; go_simp; try with_reducible rfl)
      simp only [Act.put, List.setIfInBounds_toArray, List.set]
      refine wpAnyH_one (i := 12) (by kernel_rfl) rfl (by rfl) ?_
      go_simp
      refine ⟨any0, ?_⟩
      refine wpAnyH_done (by kernel_rfl) ?_ _
      have HYN : Aside0 (ys[rs.length]? = some (codeR 171)) := ⟨by
        have h1 := congrArg (·[rs.length]?) HYS.out
        simp only [List.getElem?_take, Nat.lt_succ_self, if_true, List.getElem?_concat_length] at h1
        exact h1⟩
      have HWL : Aside0 (wo.length ≤ 1000000) := ⟨Nat.le_trans (picked_most HP.out) (by omega)⟩
      have hS := HME.out.S14 (n := rs.length) rfl rfl HYL.out HYO.out HYN.out HI.out
      have hS0 : rowOf WE ⟨gl1, 0, none⟩ 32 = some (u8s id1) := hS.1
      have heq : ∀ u, (Op.equalIn 10000 33 (.agg (resC (codeR 171)).toArray) (.agg (resC (codeR 171)).toArray)).run Tryz.prog u = .ok true u := fun u => by rw [eqI33 u _ _ (codeR_ok (by decide)) (codeR_ok (by decide)), decide_eq_true rfl]
      clear hS
      go_upto_region 16 with (first
        | (go_at_call 11
           refine (told_err HER.out HI.out (handle_below HH.out HME.out.bel)).mono ?_
           rintro e WG ⟨rfl, hb⟩
           have HMG := Aside0.mk (HME.out.below hb)
           clear hb)
        | (go_at_call 13
           refine (desk_lies_any w w.heap.size WH gq nq kq A1 c1 qs HMH.out.desk HD.out (by omega) hnq2).mono ?_
           rintro e WI ⟨rfl, hDI, hKp⟩
           have HMI : Aside0 (Mem w WI wo.length ⟨w.heap.size, .slice (some ⟨gq, 0, none⟩) nq kq, doneD (deskS qs nq) nq, ⟨some ⟨gw, 0, none⟩, M, k2⟩, rowR ys, ⟨A3, wo.length, k3⟩, wo, gl1, id1, sv, sl, gs, rowP w.heap.size 33 65 ⟨A5, wo.length, c5⟩ (rowR wo), ⟨none, 0, 0⟩, 0, pu⟩) := ⟨HMH.out.deskSet hDI hKp (fun k hk => .inl hk.symm)⟩
           have HCW : Aside0 (resK.C WI (some ⟨gw, 0, none⟩) rs.length rs) := ⟨by
             have h1 := (own_prefR (n := rs.length) HMI.out.whole HYO.out HYL.out (Nat.le_of_lt hM3)).2
             have h2 : ys.take rs.length = rs := by
               have := congrArg (List.take rs.length) HYS.out
               rw [List.take_take, Nat.min_eq_left (by omega), List.take_append_of_le_length (by omega), List.take_length] at this
               exact this
             rw [h2] at h1
             exact h1⟩
           clear hDI hKp)
        | (go_at_call 12
           first
             | (have hCW := HCW.out
                have hCB := Kd.C_below HC.out HMI.out.bel
                have hlw : rs.length ≤ 1000000 := (by omega)
                refine (tables_true (some ⟨gw, 0, none⟩) k2 A0 c0 rs WI hCW hCB hlw).mono ?_
                rintro e WJ ⟨rfl, hb⟩
                have HMJ := Aside0.mk (HMI.out.below hb)
                have hSJ : rowOf WJ ⟨gw, rs.length * 65, none⟩ 65 = some (resC (codeR 171)) := (HMJ.out.S14 (n := rs.length) rfl rfl HYL.out HYO.out HYN.out HI.out).2
                clear hb)
             | (have hq5 : WG.ownsRow w.heap.size 33 65 (.slice A5 wo.length c5) wo.length (rowR wo) := HMG.out.cur (u := ⟨A5, wo.length, c5⟩) (xs := rowR wo) rfl
                have hq3 : WG.ownsRow w.heap.size 33 65 (.slice A3 wo.length k3) wo.length (rowR wo) := HMG.out.want
                have hr5 := (C_of_own33 hq5 HOUT.out).2.2
                have hr3 := (C_of_own33 hq3 HOUT.out).2.2
                have hlw := HWL.out
                clear hq5 hq3
                refine (tables_true A5 c5 A3 k3 wo WG hr5 hr3 hlw).mono ?_
                rintro e WH ⟨rfl, hb⟩
                have HMH := Aside0.mk (HMG.out.below hb)
                clear hb))
        | go_in)
      have HDL : Aside0 ((doneD (deskS qs nq) nq).length ≤ 1000000) := ⟨by rw [doneD_length _ _ (by rw [deskS_length (by omega)]; exact Nat.le_refl _), deskS_length (by omega)]; exact hnq2⟩
      clear heq HCW HME HMG HMH HMI HER hS0
      go_upto_region 17 with (first
        | ((with_reducible refine gate_builtin (b := .append) (xs := #[.tmp 99, .tmp 101]) rfl ?_); go_loud (refine wpList_append_row (W := WJ) (w0 := w) w.heap.size ?_ (.tmp 99) (.tmp 101) 27 22 (.slice none 0 0) 1 24 ?_ Tryz.underlying27 info22 rfl (by decide) (by decide) sv.v sv.n (sl.map SlV.v) [.slice A5 wo.length c5] ?_ ?_ rfl ?_ HMJ.out.seven HMJ.out.bel HMJ.out.bel.size ?_ ?_)
           rotate_left 1
           focus with_reducible exact rfl
           focus exact rfl
           focus exact rfl
           focus (intro u hu; rw [List.mem_singleton.1 hu]; rfl)
           focus (have := HSV.out; omega)
           rotate_left 1
           focus exact rfl
           intro v1 wk hv1 hB1 hg1 _ hat1
           obtain ⟨sv1, rfl, hsn1, hm1⟩ := HMJ.out.sevenApp (u := ⟨A5, wo.length, c5⟩) hv1 hB1 hg1 hat1
           have hsn2 : sv1.n = i + 1 := (by rw [hsn1]; have := HSV.out; show sv.n + 1 = i + 1; omega)
           have hs7 : wk.ownsRow w.heap.size 22 1 sv1.v (i + 1) ((sl ++ [(⟨A5, wo.length, c5⟩ : SlV)]).map SlV.v) := (by rw [← hsn2]; exact hm1.seven)
           obtain ⟨g7, c7, e7, _⟩ := own_form hs7 (by omega)
           subst e7
           have HMK := Aside0.mk hm1
           clear hv1 hB1 hg1 hat1 hm1 hsn1 hs7 hsn2)
        | go_in)
      have HMK2 : Aside0 (Mem w wk wo.length ⟨w.heap.size, .slice (some ⟨gq, 0, none⟩) nq kq, doneD (deskS qs nq) nq, ⟨some ⟨gw, 0, none⟩, M, k2⟩, rowR ys, ⟨A3, wo.length, k3⟩, wo, gl1, id1, ⟨some ⟨g7, 0, none⟩, i + 1, c7⟩, sl ++ [⟨A5, wo.length, c5⟩], gs, rowP w.heap.size 33 65 ⟨A5, wo.length, c5⟩ (rowR wo), ⟨none, 0, 0⟩, 0, pu⟩) := HMK
      simp only [SlV.v]
      clear HMK HMJ hSJ
      rcases HPAR.out with ⟨hpar, hgl, hsl⟩ | ⟨hpar, u, hgl, hsl, hun, hpu⟩
      · subst hsl
        have HGL := Aside0.mk hgl
        have HF : Aside0 (LI w wk rs wo id1 gw k2 M ⟨A3, wo.length, k3⟩ gl1 (i + 1) ⟨w.heap.size, .slice (some ⟨gq, 0, none⟩) nq kq, doneD (deskS qs nq) nq, ⟨some ⟨gw, 0, none⟩, M, k2⟩, rowR ys, ⟨A3, wo.length, k3⟩, wo, gl1, id1, ⟨some ⟨g7, 0, none⟩, i + 1, c7⟩, gs.map G.l ++ [⟨A5, wo.length, c5⟩], gs, empP, ⟨none, 0, 0⟩, 0, rowP w.heap.size 33 65 ⟨A5, wo.length, c5⟩ (rowR wo)⟩ ys) :=
          ⟨HMK2.out.curPrv rfl, rfl, rfl, rfl, rfl, rfl, rfl, rfl, HYL.out, HYO.out, fun _ => HYS.out, rfl, .inr ⟨by omega, ⟨A5, wo.length, c5⟩, by rw [HGL.out], rfl, rfl, rfl⟩, HENT.out, rfl, rfl, HDL.out⟩
        have hi02 : i = 0 ∨ i = 2 := by omega
        clear hgl HMK2 hpar
        rcases hi02 with rfl | rfl
        · go_wp2
          go_roundg k
          case measure => omega
          case rel => exact ⟨0 + 1, _, ys, rfl, by omega, rfl, HF⟩
        · go_wp2
          go_roundg k
          case measure => omega
          case rel => exact ⟨2 + 1, _, ys, rfl, by omega, rfl, HF⟩
      · obtain ⟨Au, nu, ku⟩ := u
        simp only at hun
        subst hun hsl hpu
        have hpv : wk.cell? ⟨g7, gs.length, none⟩ = some (.slice Au wo.length ku) := HMK2.out.sevenAt rfl (j := gs.length) (u := ⟨Au, wo.length, ku⟩) (by simp)
        have HGL := Aside0.mk hgl
        have hi13 : i = 1 ∨ i = 3 := by omega
        have hwl : wo.length ≤ 1000000 := HWL.out
        rcases hi13 with rfl | rfl
        · have hg0 : gs.length = 0 := by omega
          rw [hg0] at hpv
          have HG0 := Aside0.mk hg0
          clear hgl hg0 hpar
          go_wp2_with (first
            | (go_at_call 14
               first
                 | (have hz : w6.ownsRow w.heap.size 33 65 (.slice A5 wo.length c5) wo.length (rowR wo) := HMM.out.cur (u := ⟨A5, wo.length, c5⟩) (xs := rowR wo) rfl
                    refine (mark_any A5 wo.length c5 1002 (rowR wo) w.heap.size w6 hz hwl).mono ?_
                    rintro e w7 ⟨rfl, hr, hg⟩
                    have HMN0 := HMM.out.curSet (u := ⟨A5, wo.length, c5⟩) (xs := rowR wo) rfl hg hr
                    have HMN : Aside0 (Mem w w7 wo.length ⟨w.heap.size, .slice (some ⟨gq, 0, none⟩) nq kq, doneD (deskS qs nq) nq, ⟨some ⟨gw, 0, none⟩, M, k2⟩, rowR ys, ⟨A3, wo.length, k3⟩, wo, gl1, id1, ⟨some ⟨g7, 0, none⟩, 1 + 1, c7⟩, gs.map G.l ++ [⟨Au, wo.length, ku⟩] ++ [⟨A5, wo.length, c5⟩], gs ++ [⟨⟨Au, wo.length, ku⟩, ⟨Au, wo.length, ku⟩, 1001, 0⟩] ++ [⟨⟨A5, wo.length, c5⟩, ⟨A5, wo.length, c5⟩, 1002, 0⟩], empP, ⟨none, 0, 0⟩, 0, empP⟩) := ⟨HMN0.curDone (u := ⟨A5, wo.length, c5⟩) (m := 1002) rfl rfl rfl⟩
                    clear HMN0 hr hg hz)
                 | (have hz : wk.ownsRow w.heap.size 33 65 (.slice Au wo.length ku) wo.length (rowR wo) := HMK2.out.prv (u := ⟨Au, wo.length, ku⟩) (xs := rowR wo) rfl
                    refine (mark_any Au wo.length ku 1001 (rowR wo) w.heap.size wk hz hwl).mono ?_
                    rintro e w5 ⟨rfl, hr, hg⟩
                    have HML0 := HMK2.out.prvSet (u := ⟨Au, wo.length, ku⟩) (xs := rowR wo) rfl hg hr
                    have HML : Aside0 (Mem w w5 wo.length ⟨w.heap.size, .slice (some ⟨gq, 0, none⟩) nq kq, doneD (deskS qs nq) nq, ⟨some ⟨gw, 0, none⟩, M, k2⟩, rowR ys, ⟨A3, wo.length, k3⟩, wo, gl1, id1, ⟨some ⟨g7, 0, none⟩, 1 + 1, c7⟩, gs.map G.l ++ [⟨Au, wo.length, ku⟩] ++ [⟨A5, wo.length, c5⟩], gs ++ [⟨⟨Au, wo.length, ku⟩, ⟨Au, wo.length, ku⟩, 1001, 0⟩], rowP w.heap.size 33 65 ⟨A5, wo.length, c5⟩ (rowR wo), ⟨none, 0, 0⟩, 0, empP⟩) := ⟨HML0.prvDone (u := ⟨Au, wo.length, ku⟩) (m := 1001) rfl rfl rfl⟩
                    have hcv5 : w5.cell? ⟨g7, 1, none⟩ = some (.slice A5 wo.length c5) := HML.out.sevenAt rfl (j := 1) (u := ⟨A5, wo.length, c5⟩) (by have := HG0.out; rw [List.getElem?_append_right (by simp only [List.length_append, List.length_map, List.length_cons, List.length_nil]; omega)]; simp [this])
                    clear HML0 hr hg hz))
            | (go_at_call 12
               have hq5 : w5.ownsRow w.heap.size 33 65 (.slice A5 wo.length c5) wo.length (rowR wo) := HML.out.cur (u := ⟨A5, wo.length, c5⟩) (xs := rowR wo) rfl
               have hq3 : w5.ownsRow w.heap.size 33 65 (.slice A3 wo.length k3) wo.length (rowR wo) := HML.out.want
               have hr5 := (C_of_own33 hq5 HOUT.out).2.2
               have hr3 := (C_of_own33 hq3 HOUT.out).2.2
               clear hq5 hq3
               refine (tables_true A5 c5 A3 k3 wo w5 hr5 hr3 hwl).mono ?_
               rintro e w6 ⟨rfl, hb⟩
               have HMM := Aside0.mk (HML.out.below hb)
               have hcv6 : w6.cell? ⟨g7, 1, none⟩ = some (.slice A5 wo.length c5) := HMM.out.sevenAt rfl (j := 1) (u := ⟨A5, wo.length, c5⟩) (by have := HG0.out; rw [List.getElem?_append_right (by simp only [List.length_append, List.length_map, List.length_cons, List.length_nil]; omega)]; simp [this])
               clear hb)
            | go_in)
          go_roundg k
          case measure => omega
          case rel =>
            refine ⟨1 + 1, _, ys, rfl, by omega, rfl, ⟨⟨HMN.out, rfl, rfl, rfl, rfl, rfl, rfl, rfl, HYL.out, HYO.out, fun _ => HYS.out, rfl, .inl ⟨rfl, ?_, ?_⟩, ?_, rfl, rfl, HDL.out⟩⟩⟩
            · have := HG0.out
              simp [this]
            · simp
            · exact ent_snoc (ent_snoc HENT.out (by rw [HG0.out]; rfl)) (by have := HG0.out; simp [this])
        · have hg0 : gs.length = 2 := by omega
          rw [hg0] at hpv
          have HG0 := Aside0.mk hg0
          clear hgl hg0 hpar
          go_wp2_with (first
            | (go_at_call 14
               first
                 | (have hz : w6.ownsRow w.heap.size 33 65 (.slice A5 wo.length c5) wo.length (rowR wo) := HMM.out.cur (u := ⟨A5, wo.length, c5⟩) (xs := rowR wo) rfl
                    refine (mark_any A5 wo.length c5 1004 (rowR wo) w.heap.size w6 hz hwl).mono ?_
                    rintro e w7 ⟨rfl, hr, hg⟩
                    have HMN0 := HMM.out.curSet (u := ⟨A5, wo.length, c5⟩) (xs := rowR wo) rfl hg hr
                    have HMN : Aside0 (Mem w w7 wo.length ⟨w.heap.size, .slice (some ⟨gq, 0, none⟩) nq kq, doneD (deskS qs nq) nq, ⟨some ⟨gw, 0, none⟩, M, k2⟩, rowR ys, ⟨A3, wo.length, k3⟩, wo, gl1, id1, ⟨some ⟨g7, 0, none⟩, 3 + 1, c7⟩, gs.map G.l ++ [⟨Au, wo.length, ku⟩] ++ [⟨A5, wo.length, c5⟩], gs ++ [⟨⟨Au, wo.length, ku⟩, ⟨Au, wo.length, ku⟩, 1003, 0⟩] ++ [⟨⟨A5, wo.length, c5⟩, ⟨A5, wo.length, c5⟩, 1004, 0⟩], empP, ⟨none, 0, 0⟩, 0, empP⟩) := ⟨HMN0.curDone (u := ⟨A5, wo.length, c5⟩) (m := 1004) rfl rfl rfl⟩
                    clear HMN0 hr hg hz)
                 | (have hz : wk.ownsRow w.heap.size 33 65 (.slice Au wo.length ku) wo.length (rowR wo) := HMK2.out.prv (u := ⟨Au, wo.length, ku⟩) (xs := rowR wo) rfl
                    refine (mark_any Au wo.length ku 1003 (rowR wo) w.heap.size wk hz hwl).mono ?_
                    rintro e w5 ⟨rfl, hr, hg⟩
                    have HML0 := HMK2.out.prvSet (u := ⟨Au, wo.length, ku⟩) (xs := rowR wo) rfl hg hr
                    have HML : Aside0 (Mem w w5 wo.length ⟨w.heap.size, .slice (some ⟨gq, 0, none⟩) nq kq, doneD (deskS qs nq) nq, ⟨some ⟨gw, 0, none⟩, M, k2⟩, rowR ys, ⟨A3, wo.length, k3⟩, wo, gl1, id1, ⟨some ⟨g7, 0, none⟩, 3 + 1, c7⟩, gs.map G.l ++ [⟨Au, wo.length, ku⟩] ++ [⟨A5, wo.length, c5⟩], gs ++ [⟨⟨Au, wo.length, ku⟩, ⟨Au, wo.length, ku⟩, 1003, 0⟩], rowP w.heap.size 33 65 ⟨A5, wo.length, c5⟩ (rowR wo), ⟨none, 0, 0⟩, 0, empP⟩) := ⟨HML0.prvDone (u := ⟨Au, wo.length, ku⟩) (m := 1003) rfl rfl rfl⟩
                    have hcv5 : w5.cell? ⟨g7, 3, none⟩ = some (.slice A5 wo.length c5) := HML.out.sevenAt rfl (j := 3) (u := ⟨A5, wo.length, c5⟩) (by have := HG0.out; rw [List.getElem?_append_right (by simp only [List.length_append, List.length_map, List.length_cons, List.length_nil]; omega)]; simp [this])
                    clear HML0 hr hg hz))
            | (go_at_call 12
               have hq5 : w5.ownsRow w.heap.size 33 65 (.slice A5 wo.length c5) wo.length (rowR wo) := HML.out.cur (u := ⟨A5, wo.length, c5⟩) (xs := rowR wo) rfl
               have hq3 : w5.ownsRow w.heap.size 33 65 (.slice A3 wo.length k3) wo.length (rowR wo) := HML.out.want
               have hr5 := (C_of_own33 hq5 HOUT.out).2.2
               have hr3 := (C_of_own33 hq3 HOUT.out).2.2
               clear hq5 hq3
               refine (tables_true A5 c5 A3 k3 wo w5 hr5 hr3 hwl).mono ?_
               rintro e w6 ⟨rfl, hb⟩
               have HMM := Aside0.mk (HML.out.below hb)
               have hcv6 : w6.cell? ⟨g7, 3, none⟩ = some (.slice A5 wo.length c5) := HMM.out.sevenAt rfl (j := 3) (u := ⟨A5, wo.length, c5⟩) (by have := HG0.out; rw [List.getElem?_append_right (by simp only [List.length_append, List.length_map, List.length_cons, List.length_nil]; omega)]; simp [this])
               clear hb)
            | go_in)
          go_roundg k
          case measure => omega
          case rel =>
            refine ⟨3 + 1, _, ys, rfl, by omega, rfl, ⟨⟨HMN.out, rfl, rfl, rfl, rfl, rfl, rfl, rfl, HYL.out, HYO.out, fun _ => HYS.out, rfl, .inl ⟨rfl, ?_, ?_⟩, ?_, rfl, rfl, HDL.out⟩⟩⟩
            · have := HG0.out
              simp [this]
            · simp
            · exact ent_snoc (ent_snoc HENT.out (by rw [HG0.out]; rfl)) (by have := HG0.out; simp [this])
end Go.Proofs.YtdekmeanlcpenaaGreatDoor.Law
