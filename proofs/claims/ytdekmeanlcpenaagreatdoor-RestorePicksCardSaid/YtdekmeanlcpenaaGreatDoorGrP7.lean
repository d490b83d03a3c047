import Derived.Test.YtdekmeanlcpenaaGreatDoorGrP5
import Derived.Test.YtdekmeanlcpenaaGreatDoorGrP6
import Derived.Test.YtdekmeanlcpenaaGreatDoorGrP2
namespace Go.Proofs.YtdekmeanlcpenaaGreatDoor.Law
open Go.RowKit Go.Proofs.YtdekmeanlcpenaaGreatDoorW.PrintWords Go.Proofs.YtdekmeanlcpenaaGreatDoor.Mid Go.Proofs.YtdekmeanlcpenaaGreatDoor.Pick Go.Proofs.YtdekmeanlcpenaaGreatDoor.Err
attribute [local go_sem ↓ high] load33_eq load29_eq build69_eq build33_eq build29_eq
attribute [local simp] rowOf_drew rowOf_drewN
attribute [local go_sem high] load33_row load29_row rowOf_drew rowOf_drewN bld29_none
set_option maxHeartbeats 2000000
set_option maxRecDepth 100000

theorem own_blk {W : World} {g e sz n base : Nat} {cs : List Value} (h : W.heap[g]? = some (.cells cs.toArray e (0, 0))) (hl : cs.length = n * sz) (hb : base ≤ g) (hn : n ≤ 1000000) : W.ownsRow base e sz (.slice (some ⟨g, 0, none⟩) n n) n cs :=
  ⟨hl, .inr ⟨g, n, cs.toArray, rfl, hb, h, Nat.le_refl _, by unfold maxLen; omega, by simp [hl], by rw [← hl]; simp⟩⟩
theorem rowR_length {rs : List Res} (h : ∀ r ∈ rs, ResOk r) : (rowR rs).length = rs.length * 65 := (flat_reps (f := resC) (R := fun r cs => ResOk r ∧ cs = resC r) (fun x cs h => by rw [h.2, resC_length h.1]) (fun x hx => ⟨h x hx, rfl⟩)).1
theorem rowI_length {xs : List (List Int)} (h : ∀ x ∈ xs, IdOk x) : (rowI xs).length = xs.length * 32 := (flat_reps (f := u8s) (R := fun x cs => IdOk x ∧ cs = u8s x) (fun x cs h => by rw [h.2, u8s_length, h.1.len]) (fun x hx => ⟨h x hx, rfl⟩)).1
theorem C_of_own33 {W : World} {base n c : Nat} {A : Option Addr} {rs : List Res} (h : W.ownsRow base 33 65 (.slice A n c) rs.length (rowR rs)) (ok : ∀ r ∈ rs, ResOk r) : n = rs.length ∧ rs.length ≤ c ∧ resK.C W A rs.length rs := by
  obtain ⟨A', c', e, h1, h2⟩ := Kd.R_reads (resR_of h ok)
  injection e with e1 e2 e3
  subst e1 e2 e3
  exact ⟨rfl, h1, h2⟩
theorem C_of_own29 {W : World} {base n c : Nat} {A : Option Addr} {xs : List (List Int)} (h : W.ownsRow base 29 32 (.slice A n c) xs.length (rowI xs)) (ok : ∀ x ∈ xs, IdOk x) : n = xs.length ∧ xs.length ≤ c ∧ idK.C W A xs.length xs := by
  obtain ⟨A', c', e, h1, h2⟩ := Kd.R_reads (idR_of h ok)
  injection e with e1 e2 e3
  subst e1 e2 e3
  exact ⟨rfl, h1, h2⟩
section
variable {ops : Array Oper} {rest : List Oper} {o : Oper} {a : Act} {w : World} {Q : Exit → Act → World → Prop}
theorem wpList_rows33 (rs : List Res) (hg : o.guard = none) (n : Nat) (parts : Array (Nat × Operand)) (ho : o.op = .buildSlice 22 n parts) (ok : ∀ r ∈ rs, ResOk r)
    (hp : (parts.toList.map fun p => (p.1, a.eval p.2)) = ((rs.map resC).zipIdx 0).map fun x => (x.2, .agg x.1.toArray)) (hn : rs.length = n) (h0 : 0 < n) (hs : n ≤ 1000)
    (h : ∀ A w1, w1.ownsRow w.heap.size 33 65 (.slice A n n) n (rowR rs) → Below w.heap.size w w1 → wpList Tryz.prog ops Q rest (a.put o.dst (.slice A n n)) w1) : wpList Tryz.prog ops Q (o :: rest) a w := by
  refine wpList_buildRows hg n parts ho (rs.map resC) Tryz.underlying22 ⟨z33v, 72, info33full', rfl⟩ (by rw [Array.toList_map]; exact hp) (fun v hv => ?_) (by rw [List.length_map]; exact hn) (by omega) (by omega) ?_
  · obtain ⟨r, hr, rfl⟩ := List.mem_map.1 hv
    exact resC_length (ok r hr)
  · exact h _ _ (own_blk (heap_alloc_new w _) (by rw [← hn]; exact rowR_length ok) (Nat.le_refl _) (by omega)) (below_alloc (Below.refl _ _) _)
theorem wpList_rows33W (rs : List Res) (hw : Region.wanted o (yielded ops a.tmps) = true) (n : Nat) (parts : Array (Nat × Operand)) (ho : o.op = .buildSlice 22 n parts) (ok : ∀ r ∈ rs, ResOk r)
    (hp : (parts.toList.map fun p => (p.1, a.eval p.2)) = ((rs.map resC).zipIdx 0).map fun x => (x.2, .agg x.1.toArray)) (hn : rs.length = n) (h0 : 0 < n) (hs : n ≤ 1000)
    (h : ∀ A w1, w1.ownsRow w.heap.size 33 65 (.slice A n n) n (rowR rs) → Below w.heap.size w w1 → wpList Tryz.prog ops Q rest (a.put o.dst (.slice A n n)) w1) : wpList Tryz.prog ops Q (o :: rest) a w := by
  refine wpList_step fun K hK => ?_
  rw [if_pos hw]
  refine wp_buildRows n parts ho (rs.map resC) Tryz.underlying22 ⟨z33v, 72, info33full', rfl⟩ (by rw [Array.toList_map]; exact hp) (fun v hv => ?_) (by rw [List.length_map]; exact hn) (by omega) (by omega) (hK _ _ ?_)
  · obtain ⟨r, hr, rfl⟩ := List.mem_map.1 hv
    exact resC_length (ok r hr)
  · exact h _ _ (own_blk (heap_alloc_new w _) (by rw [← hn]; exact rowR_length ok) (Nat.le_refl _) (by omega)) (below_alloc (Below.refl _ _) _)
theorem wpList_rows29 (xs : List (List Int)) (hg : o.guard = none) (n : Nat) (parts : Array (Nat × Operand)) (ho : o.op = .buildSlice 23 n parts) (ok : ∀ r ∈ xs, IdOk r)
    (hp : (parts.toList.map fun p => (p.1, a.eval p.2)) = ((xs.map u8s).zipIdx 0).map fun x => (x.2, .agg x.1.toArray)) (hn : xs.length = n) (h0 : 0 < n) (hs : n ≤ 1000)
    (h : ∀ A w1, w1.ownsRow w.heap.size 29 32 (.slice A n n) n (rowI xs) → Below w.heap.size w w1 → wpList Tryz.prog ops Q rest (a.put o.dst (.slice A n n)) w1) : wpList Tryz.prog ops Q (o :: rest) a w := by
  refine wpList_buildRows hg n parts ho (xs.map u8s) Tryz.underlying23 ⟨z29v, 32, info29full, rfl⟩ (by rw [Array.toList_map]; exact hp) (fun v hv => ?_) (by rw [List.length_map]; exact hn) (by omega) (by omega) ?_
  · obtain ⟨r, hr, rfl⟩ := List.mem_map.1 hv
    rw [u8s_length, (ok r hr).len]
  · exact h _ _ (own_blk (heap_alloc_new w _) (by rw [← hn]; exact rowI_length ok) (Nat.le_refl _) (by omega)) (below_alloc (Below.refl _ _) _)
end

/-- The result that has this action alone. -/
def actR (n : Int) : Res := ⟨b1 n, z32, 0⟩
theorem actR_ok {n : Int} (h : 0 ≤ n ∧ n ≤ 255) : ResOk (actR n) := ⟨b1_ok h, z32_ok, by show _ ≤ (0 : Int) ∧ (0 : Int) ≤ _; decide⟩
theorem bldAct (n : Int) (w : World) : (bld 33 #[(0, .agg (u8s (b1 n)).toArray)]).run Tryz.prog w = .ok (.agg (resC (actR n)).toArray) w := by kernel_rfl
def kRs : List Res := [actR 1, actR 3, actR 5]
def kGot : List Res := [actR 1, actR 5]
def kA : List (List Int) := [b1 5, b1 1, b1 5]
def kB : List (List Int) := [b1 4, b1 2, b1 1]
theorem kRs_ok : ∀ r ∈ kRs, ResOk r := by
  intro r hr
  simp only [kRs, List.mem_cons, List.not_mem_nil, or_false] at hr
  rcases hr with rfl | rfl | rfl <;> exact actR_ok (by decide)
theorem kGot_ok : ∀ r ∈ kGot, ResOk r := by
  intro r hr
  simp only [kGot, List.mem_cons, List.not_mem_nil, or_false] at hr
  rcases hr with rfl | rfl <;> exact actR_ok (by decide)
theorem kA_ok : ∀ r ∈ kA, IdOk r := by
  intro r hr
  simp only [kA, List.mem_cons, List.not_mem_nil, or_false] at hr
  rcases hr with rfl | rfl | rfl <;> exact b1_ok (by decide)
theorem kB_ok : ∀ r ∈ kB, IdOk r := by
  intro r hr
  simp only [kB, List.mem_cons, List.not_mem_nil, or_false] at hr
  rcases hr with rfl | rfl | rfl <;> exact b1_ok (by decide)
theorem kT : Table kRs := by
  refine ⟨by decide, ?_, ?_⟩
  · intro r hr
    simp only [kRs, List.mem_cons, List.not_mem_nil, or_false] at hr
    rcases hr with rfl | rfl | rfl <;> (show 0 ≤ (0 : Int) ∧ (0 : Int) ≤ 255; decide)
  · intro i r s hr hs
    match i, hr, hs with
    | 0, hr, hs => cases hr; cases hs; decide
    | 1, hr, hs => cases hr; cases hs; decide
    | i + 2, hr, hs =>
      have := (List.getElem?_eq_some_iff.1 hs).1
      simp [kRs] at this
      omega
theorem kA_picked {out : List Res} {n : Int} {id : List Int} (h : Picked kRs kA out n id) : out = kGot ∧ n = 0 := by
  obtain ⟨h1, h2, _⟩ := h.fine kT (by
    rintro a ⟨ha, hl⟩
    simp only [kA, List.mem_cons, List.not_mem_nil, or_false] at ha
    rcases ha with rfl | rfl | rfl
    · exact hl (actR 5) (by simp [kRs]) rfl
    · exact hl (actR 1) (by simp [kRs]) rfl
    · exact hl (actR 5) (by simp [kRs]) rfl)
  exact ⟨h1.trans (by decide), h2⟩
theorem kB_picked {out : List Res} {n : Int} {id : List Int} (h : Picked kRs kB out n id) : n = 96 ∧ id = b1 2 := by
  have hl2 : Lacks kRs kB (b1 2) := ⟨by simp [kB], by
    intro r hr
    simp only [kRs, List.mem_cons, List.not_mem_nil, or_false] at hr
    rcases hr with rfl | rfl | rfl <;> decide⟩
  obtain ⟨_, h2, h3⟩ := h.lacks kT ⟨_, hl2⟩
  refine ⟨h2, h3.same (fun a ha => (kB_ok a ha.1).len) ⟨hl2, ?_⟩⟩
  rintro b ⟨hb, hlb⟩
  simp only [kB, List.mem_cons, List.not_mem_nil, or_false] at hb
  rcases hb with rfl | rfl | rfl
  · decide
  · decide
  · exact absurd rfl (hlb (actR 1) (by simp [kRs]))

theorem bldB (n : Int) (w : World) : (bld 29 #[(0, .int .u8 n)]).run Tryz.prog w = .ok (.agg (u8s (b1 n)).toArray) w := by
  unfold b1
  exact bld29_one w n
attribute [local go_sem high] bldAct bldB
attribute [local irreducible] b1 actR
theorem known_true (w : World) (hH : Handle w) : Calls Tryz.prog 15 #[] w fun e w' => e = .returned (.bool true) ∧ Below w.heap.size w w' := by
  have HH := Aside0.mk hH
  clear hH
  go_enter Tryz.func15, Tryz.ntmps15
  go_upto_region 2 with (first
    | (refine wpList_rows33 kRs ?_ 3 #[(0, .tmp 8), (1, .tmp 10), (2, .tmp 12)] ?_ kRs_ok ?_ rfl (by decide) (by decide) ?_
       focus exact rfl
       focus with_reducible exact rfl
       focus exact rfl
       intro A1 w1 o1 b1; have O1 := Aside0.mk o1; have B1 := Aside0.mk b1; clear o1 b1)
    | go_in)
  go_upto_region 3 with (first
    | (refine wpList_rows29 kA ?_ 3 #[(0, .tmp 16), (1, .tmp 17), (2, .tmp 18)] ?_ kA_ok ?_ rfl (by decide) (by decide) ?_
       focus exact rfl
       focus with_reducible exact rfl
       focus exact rfl
       intro A2 w2 o2 b2; have O2 := Aside0.mk o2; have B2 := Aside0.mk b2; clear o2 b2)
    | (go_at_call 9
       refine (Pick_any A1 3 kRs A2 3 kA _ (Kd.C_below (C_of_own33 O1.out kRs_ok).2.2 B2.out) (C_of_own29 O2.out kA_ok).2.2 (by decide) kRs_ok kA_ok (by decide)).mono ?_
       rintro e w3 ⟨⟨v3, er3, out, n, id, rfl, hP, hR, hE, hI⟩, b3⟩
       obtain ⟨rfl, rfl⟩ := kA_picked hP
       have hE0 : er3 = .nilIface := (by cases hE with | none _ => rfl | some g h _ _ => exact absurd rfl h)
       subst hE0
       have R3 := Aside0.mk hR
       have B3 := Aside0.mk b3
       clear hP hR hE hI b3)
    | go_in)
  obtain ⟨A3, c3, e3⟩ := Kd.R_slice R3.out
  subst e3
  go_upto_region 4 with (first
    | (refine wpList_rows29 kB ?_ 3 #[(0, .tmp 25), (1, .tmp 26), (2, .tmp 27)] ?_ kB_ok ?_ rfl (by decide) (by decide) ?_
       focus exact rfl
       focus with_reducible exact rfl
       focus exact rfl
       intro A4 w4 o4 b4; have O4 := Aside0.mk o4; have B4 := Aside0.mk b4; clear o4 b4)
    | (go_at_call 9
       refine (Pick_any A1 3 kRs A4 3 kB _ (Kd.C_below (Kd.C_below (Kd.C_below (C_of_own33 O1.out kRs_ok).2.2 B2.out) B3.out) B4.out) (C_of_own29 O4.out kB_ok).2.2 (by decide) kRs_ok kB_ok (by decide)).mono ?_
       rintro e w5 ⟨⟨v5, er5, out5, n5, id5, rfl, hP, hR, hE, hI⟩, b5⟩
       obtain ⟨rfl, rfl⟩ := kB_picked hP
       obtain ⟨g5, rfl, hg5⟩ : ∃ g, er5 = .iface 79 (.pointer (some ⟨g, 0, none⟩)) ∧ w5.heap[g]? = some (.cells (faultC opPick .empty (b1 2) (errno 96)).toArray 82 (0, 0)) := (by cases hE with | none h => exact absurd h (by decide) | some g h1 h2 h3 => exact ⟨g, rfl, h3⟩)
       have G5 := Aside0.mk hg5
       have B5 := Aside0.mk b5
       clear hP hR hE hI b5 hg5)
    | go_in)
  go_upto_region 5 with (first
    | (go_at_call 17
       refine (restore_nil nameF _).mono ?_
       rintro e w6 ⟨⟨v6, rfl, g6, rfl, hl6, hg6⟩, b6⟩
       have G6 := Aside0.mk hg6
       have B6 := Aside0.mk b6
       clear hl6 hg6 b6)
    | go_in)
  have HB6 : Aside0 (Below w.heap.size w w6) := ⟨(below_step ((below_step ((below_step ((below_step ((below_step B1.out B2.out)) B3.out)) B4.out)) B5.out)) B6.out)⟩
  go_wp2_with (first
    | (refine wpList_rows33W kGot ?_ 2 #[(0, .tmp 38), (1, .tmp 40)] ?_ kGot_ok ?_ rfl (by decide) (by decide) ?_
       rotate_left 1
       focus with_reducible exact rfl
       focus exact rfl
       rotate_left 1
       focus (simp [Region.wanted, yielded])
       intro A7 w7 o7 b7; have O7 := Aside0.mk o7; have B7 := Aside0.mk b7; clear o7 b7)
    | (go_at_call 12
       refine (tables_true A3 c3 A7 2 kGot _ (Kd.C_below (Kd.C_below (Kd.C_below (Kd.C_below (C_of_own33 (resR_own R3.out).1 kGot_ok).2.2 B4.out) B5.out) B6.out) B7.out) (C_of_own33 O7.out kGot_ok).2.2 (by decide)).mono ?_
       rintro e w8 ⟨rfl, b8⟩
       have B8 := Aside0.mk b8
       clear b8)
    | (go_at_call 11
       first
         | (refine (told_some opRestore nameF z32 50 (by decide) z32_ok g6 w9 (handle_below HH.out (((below_step ((below_step ((below_step HB6.out B7.out)) B8.out)) B9.out)))) (blk_below (blk_below (blk_below G6.out B7.out) B8.out) B9.out)).mono ?_
            rintro e w10 ⟨rfl, b10⟩
            have B10 := Aside0.mk b10
            clear b10)
         | (refine (told_some opPick .empty (b1 2) 96 (by decide) (b1_ok (by decide)) g5 w8 (handle_below HH.out (((below_step ((below_step HB6.out B7.out)) B8.out)))) ((blk_below (blk_below (blk_below G5.out B6.out) B7.out) B8.out))).mono ?_
            rintro e w9 ⟨rfl, b9⟩
            have B9 := Aside0.mk b9
            clear b9))
    | go_in)
  go_ret
  exact ⟨rfl, (below_step ((below_step ((below_step ((below_step HB6.out B7.out)) B8.out)) B9.out)) B10.out)⟩
end Go.Proofs.YtdekmeanlcpenaaGreatDoor.Law

namespace Go.Proofs.YtdekmeanlcpenaaGreatDoor.Law
open Go.RowKit Go.Proofs.YtdekmeanlcpenaaGreatDoorW.PrintWords Go.Proofs.YtdekmeanlcpenaaGreatDoor.Mid Go.Proofs.YtdekmeanlcpenaaGreatDoor.Pick Go.Proofs.YtdekmeanlcpenaaGreatDoor.Sep

theorem own_prefR {W : World} {b n m c : Nat} {A : Option Addr} {ys : List Res} (h : W.ownsRow b 33 65 (.slice A m c) m (rowR ys)) (ok : ∀ y ∈ ys, ResOk y) (hl : ys.length = m) (hn : n ≤ m) : n ≤ c ∧ resK.C W A n (ys.take n) := by
  have h1 := own_take (m := n) h hn
  rw [rowR, flat_take (rowR_len ok)] at h1
  have hln : (ys.take n).length = n := by rw [List.length_take]; omega
  have h2 := C_of_own33 (n := n) (c := c) (A := A) (base := b) (rs := ys.take n) (by rw [hln]; exact h1) (fun y hy => ok y (List.mem_of_mem_take hy))
  rw [hln] at h2
  exact h2.2
theorem own_prefI {W : World} {b n m c : Nat} {A : Option Addr} {ys : List (List Int)} (h : W.ownsRow b 29 32 (.slice A m c) m (rowI ys)) (ok : ∀ y ∈ ys, IdOk y) (hl : ys.length = m) (hn : n ≤ m) : n ≤ c ∧ idK.C W A n (ys.take n) := by
  have h1 := own_take (m := n) h hn
  rw [rowI, flat_take (rowI_len ok)] at h1
  have hln : (ys.take n).length = n := by rw [List.length_take]; omega
  have h2 := C_of_own29 (n := n) (c := c) (A := A) (base := b) (xs := ys.take n) (by rw [hln]; exact h1) (fun y hy => ok y (List.mem_of_mem_take hy))
  rw [hln] at h2
  exact h2.2
/-- A row that was given and marked (l), and what grows from it (g, r more). -/
structure G where
  l : SlV
  g : SlV
  m : Int
  r : Nat
def gotP (b N : Nat) (x : G) : Pr where
  p F W := Ent b 33 65 x.l x.g (resC (codeR x.m)) (resC (codeR (x.m + 999))) N x.r F W
  loc := fun h hm => ⟨h.ln, h.gn, own_loc h.lo (fun k hk hl => (hm k (h.lF k hk) hl).2), own_loc h.go (fun k hk hl => (hm k (h.gF k hk) hl).2),
    fun k hk => (hm k (h.lF k hk) (own_lt h.lo k hk)).1, fun k hk => (hm k (h.gF k hk) (own_lt h.go k hk)).1, h.rel⟩
def deskP (b gd : Nat) (dv : Value) (dB : List (List Int)) : Pr where
  p F W := (W.heap[gd]? = some (.cells #[dv] 26 (0, 0)) ∧ W.ownsRow b 29 32 dv dB.length (rowI dB) ∧ (∀ x ∈ dB, IdOk x) ∧ b ≤ gd) ∧ F gd ∧ ∀ g, dv.ownBlock = some g → F g
  loc := fun {F F' W W'} h hm => by
    have h0 := hm gd h.2.1 (blk_lt h.1.1)
    exact ⟨⟨h0.2.trans h.1.1, own_loc h.1.2.1 (fun g hg hl => (hm g (h.2.2 g hg) hl).2), h.1.2.2⟩, h0.1, fun g hg => (hm g (h.2.2 g hg) (own_lt h.1.2.1 g hg)).1⟩

/-- The parts of the law's memory. -/
inductive Col where
  | desk | whole | want | lw | seven | row (k : Nat) | cur | grown | prv
  deriving DecidableEq
structure Par where
  gd : Nat
  dv : Value
  dB : List (List Int)
  wh : SlV
  wx : List Value
  wt : SlV
  wo : List Res
  gl : Nat
  id : List Int
  sv : SlV
  sl : List SlV
  gs : List G
  cu : Pr
  gv : SlV
  gr : Nat
  pu : Pr
def stS (b N : Nat) (p : Par) : Col → Pr
  | .desk => deskP b p.gd p.dv p.dB
  | .whole => rowP b 33 65 p.wh p.wx
  | .want => rowP b 33 65 p.wt (rowR p.wo)
  | .lw => blkP b p.gl 29 (u8s p.id).toArray
  | .seven => rowP b 22 1 p.sv (p.sl.map SlV.v)
  | .row k => match p.gs[k]? with
    | some x => gotP b N x
    | none => empP
  | .cur => p.cu
  | .prv => p.pu
  | .grown => rowP b 22 1 p.gv ((p.gs.take p.gr).map (·.g.v))
def Mem (w W : World) (N : Nat) (p : Par) : Prop := ∃ c, Store w.heap.size w W c (stS w.heap.size N p)

section
variable {w W W1 : World} {N : Nat} {p : Par}
theorem Mem.bel (h : Mem w W N p) : Below w.heap.size w W := h.choose_spec.bel
theorem Mem.below (h : Mem w W N p) (hb : Below W.heap.size W W1) : Mem w W1 N p := by
  obtain ⟨c, h⟩ := h
  exact ⟨c, h.below (Nat.le_refl _) hb⟩
/-- One colour's part changes. -/
theorem Mem.mod (h : Mem w W N p) (K0 : Col) (p' : Par) (hB : Below w.heap.size w W1) (hsame : ∀ K, K ≠ K0 → stS w.heap.size N p' K = stS w.heap.size N p K)
    (hm : ∀ c : Nat → Col, (∀ K, (stS w.heap.size N p K).p (fun g => c g = K) W) → (∀ g, g < W.heap.size → c g ≠ K0 → W1.heap[g]? = W.heap[g]?) ∧ (stS w.heap.size N p' K0).p (fun g => g < W.heap.size → c g = K0) W1) : Mem w W1 N p' := by
  obtain ⟨c, h⟩ := h
  obtain ⟨h1, h2⟩ := hm c h.all
  have h3 := h.mod K0 (stS w.heap.size N p' K0) hB (c' := fun g => if g < W.heap.size then c g else K0) (fun g hl _ => by simp [hl]) h1 ((stS w.heap.size N p' K0).loc h2 (fun g hg _ => ⟨by
    by_cases hl : g < W.heap.size
    · simp [hl, hg hl]
    · simp [hl], rfl⟩))
  refine ⟨fun g => if g < W.heap.size then c g else K0, h3.bel, fun K => ?_⟩
  have h4 := h3.all K
  by_cases hK : K = K0
  · subst hK
    rw [if_pos rfl] at h4
    exact h4
  · rw [if_neg hK] at h4
    rw [hsame K hK]
    exact h4
theorem Mem.desk (h : Mem w W N p) : DInv w p.gd W p.dv p.dB := by
  obtain ⟨c, h⟩ := h
  have h1 := h.all .desk
  exact ⟨h1.1.1, h1.1.2.1, h1.1.2.2.1, h.bel, h1.1.2.2.2⟩
theorem Mem.deskSet (h : Mem w W N p) {dv : Value} {dB : List (List Int)} (hD : DInv w p.gd W1 dv dB) (hK : Kp W W1 p.gd p.dv) (hL : LiesAt W p.dv dv) : Mem w W1 N { p with dv := dv, dB := dB } := by
  refine h.mod .desk _ hD.bel (fun K hK => by cases K <;> first | rfl | exact absurd rfl hK) (fun c hc => ?_)
  have hd := hc .desk
  refine ⟨fun g hg hcg => hK.keep g hg (fun e => hcg (by rw [e]; exact hd.2.1)) (fun e => hcg (hd.2.2 g e.symm)), ⟨hD.blk, hD.row, hD.ok, hD.old⟩, ?_, fun g hg => ?_⟩
  · exact fun _ => hd.2.1
  · rcases hL g hg with e | e
    · exact fun _ => hd.2.2 g e.symm
    · exact fun hl => absurd hl (by omega)
theorem Mem.whole (h : Mem w W N p) : W.ownsRow w.heap.size 33 65 p.wh.v p.wh.n p.wx := (h.choose_spec.all .whole).1
theorem Mem.want (h : Mem w W N p) : W.ownsRow w.heap.size 33 65 p.wt.v p.wt.n (rowR p.wo) := (h.choose_spec.all .want).1
theorem Mem.lw (h : Mem w W N p) : W.heap[p.gl]? = some (.cells (u8s p.id).toArray 29 (0, 0)) := (h.choose_spec.all .lw).1
theorem Mem.seven (h : Mem w W N p) : W.ownsRow w.heap.size 22 1 p.sv.v p.sv.n (p.sl.map SlV.v) := (h.choose_spec.all .seven).1
theorem Mem.grown (h : Mem w W N p) : W.ownsRow w.heap.size 22 1 p.gv.v p.gv.n ((p.gs.take p.gr).map (·.g.v)) := (h.choose_spec.all .grown).1
theorem Mem.row (h : Mem w W N p) {k : Nat} {x : G} (hx : p.gs[k]? = some x) : x.l.n = N ∧ x.g.n = N + x.r ∧ W.ownsRow w.heap.size 33 65 x.l.v N (reps N (resC (codeR x.m))) ∧ W.ownsRow w.heap.size 33 65 x.g.v (N + x.r) (reps N (resC (codeR x.m)) ++ reps x.r (resC (codeR (x.m + 999)))) := by
  have h1 := h.choose_spec.all (.row k)
  simp only [stS, hx] at h1
  exact ⟨h1.ln, h1.gn, h1.lo, h1.go⟩
/-- A row of its own colour is written, in place. -/
theorem Mem.wholeSet (h : Mem w W N p) {wx : List Value} (hg : W.grownBy W1 p.wh.v.ownBlock) (hr : W1.ownsRow w.heap.size 33 65 p.wh.v p.wh.n wx) : Mem w W1 N { p with wx := wx } := by
  refine h.mod .whole _ (h.bel.grown hg h.bel.size (fun k hk => own_base h.whole k hk)) (fun K hK => by cases K <;> first | rfl | exact absurd rfl hK) (fun c hc => ?_)
  have hd := hc .whole
  refine ⟨fun g hl hcg => hg.block g hl (fun e => hcg (hd.2 g e.symm)), hr, fun g hg _ => hd.2 g hg⟩
/-- A new row lies at hand. -/
theorem Mem.curNew (h : Mem w W N p) {u : SlV} {xs : List Value} (hb : Below W.heap.size W W1) (hr : W1.ownsRow W.heap.size 33 65 u.v u.n xs) : Mem w W1 N { p with cu := rowP w.heap.size 33 65 u xs } := by
  refine h.mod .cur _ (h.bel.trans (hb.mono h.bel.size)) (fun K hK => by cases K <;> first | rfl | exact absurd rfl hK) (fun c _ => ⟨fun g hl _ => hb.block g hl, own_weaken hr h.bel.size, fun g hg hl => absurd (own_base hr g hg) (by omega)⟩)
theorem Mem.cur (h : Mem w W N p) {u : SlV} {xs : List Value} (hu : p.cu = rowP w.heap.size 33 65 u xs) : W.ownsRow w.heap.size 33 65 u.v u.n xs := by
  have h1 := h.choose_spec.all .cur
  simp only [stS, hu] at h1
  exact h1.1
theorem Mem.curSet (h : Mem w W N p) {u : SlV} {xs ys : List Value} (hu : p.cu = rowP w.heap.size 33 65 u xs) (hg : W.grownBy W1 u.v.ownBlock) (hr : W1.ownsRow w.heap.size 33 65 u.v u.n ys) : Mem w W1 N { p with cu := rowP w.heap.size 33 65 u ys } := by
  refine h.mod .cur _ (h.bel.grown hg h.bel.size (fun k hk => own_base (h.cur hu) k hk)) (fun K hK => by cases K <;> first | rfl | exact absurd rfl hK) (fun c hc => ?_)
  have hd := hc .cur
  simp only [stS, hu] at hd
  refine ⟨fun g hl hcg => hg.block g hl (fun e => hcg (hd.2 g e.symm)), hr, fun g hg _ => hd.2 g hg⟩
theorem Mem.prv (h : Mem w W N p) {u : SlV} {xs : List Value} (hu : p.pu = rowP w.heap.size 33 65 u xs) : W.ownsRow w.heap.size 33 65 u.v u.n xs := by
  have h1 := h.choose_spec.all .prv
  simp only [stS, hu] at h1
  exact h1.1
theorem Mem.prvSet (h : Mem w W N p) {u : SlV} {xs ys : List Value} (hu : p.pu = rowP w.heap.size 33 65 u xs) (hg : W.grownBy W1 u.v.ownBlock) (hr : W1.ownsRow w.heap.size 33 65 u.v u.n ys) : Mem w W1 N { p with pu := rowP w.heap.size 33 65 u ys } := by
  refine h.mod .prv _ (h.bel.grown hg h.bel.size (fun k hk => own_base (h.prv hu) k hk)) (fun K hK => by cases K <;> first | rfl | exact absurd rfl hK) (fun c hc => ?_)
  have hd := hc .prv
  simp only [stS, hu] at hd
  refine ⟨fun g hl hcg => hg.block g hl (fun e => hcg (hd.2 g e.symm)), hr, fun g hg _ => hd.2 g hg⟩
theorem hat_F {v v1 : Value} {n : Nat} {c : Nat → Col} {K : Col} (hv : ∀ g, v.ownBlock = some g → g < W.heap.size ∧ c g = K)
    (hat : (∃ A k, v = .slice A n k ∧ v1 = .slice A (n + 1) k) ∨ ∃ k, v1.ownBlock = some k ∧ W.heap.size ≤ k) : ∀ g, v1.ownBlock = some g → g < W.heap.size → c g = K := by
  intro g hg hlt
  rcases hat with ⟨A, k, e1, e2⟩ | ⟨k, hk, hl⟩
  · have : v.ownBlock = some g := by
      rw [e2] at hg
      rw [e1]
      cases A with
      | none => simp [Value.ownBlock] at hg
      | some a => simpa [Value.ownBlock] using hg
    exact (hv g this).2
  · rw [hk] at hg
    injection hg with e
    omega
/-- A header is put behind the headers. -/
theorem Mem.sevenApp (h : Mem w W N p) {v1 : Value} {u : SlV} (hv : W1.ownsRow w.heap.size 22 1 v1 (p.sv.n + 1) (p.sl.map SlV.v ++ [u.v])) (hB : Below w.heap.size w W1) (hg : W.grownBy W1 p.sv.v.ownBlock)
    (hat : (∃ A k, p.sv.v = .slice A p.sv.n k ∧ v1 = .slice A (p.sv.n + 1) k) ∨ ∃ k, v1.ownBlock = some k ∧ W.heap.size ≤ k) : ∃ sv : SlV, v1 = sv.v ∧ sv.n = p.sv.n + 1 ∧ Mem w W1 N { p with sv := sv, sl := p.sl ++ [u] } := by
  obtain ⟨A1, k1, rfl⟩ := own_slice hv
  refine ⟨⟨A1, p.sv.n + 1, k1⟩, rfl, rfl, ?_⟩
  refine h.mod .seven _ hB (fun K hK => by cases K <;> first | rfl | exact absurd rfl hK) (fun c hc => ?_)
  have hd := hc .seven
  refine ⟨fun g hl hcg => hg.block g hl (fun e => hcg (hd.2 g e.symm)), ?_, hat_F (fun g hg => ⟨own_lt hd.1 g hg, hd.2 g hg⟩) hat⟩
  show W1.ownsRow _ 22 1 _ _ ((p.sl ++ [u]).map SlV.v)
  rw [List.map_append]
  exact hv
theorem Mem.grownApp (h : Mem w W N p) {v1 : Value} {x : G} (hx : p.gs[p.gr]? = some x) (hv : W1.ownsRow w.heap.size 22 1 v1 (p.gv.n + 1) ((p.gs.take p.gr).map (·.g.v) ++ [x.g.v])) (hB : Below w.heap.size w W1) (hg : W.grownBy W1 p.gv.v.ownBlock)
    (hat : (∃ A k, p.gv.v = .slice A p.gv.n k ∧ v1 = .slice A (p.gv.n + 1) k) ∨ ∃ k, v1.ownBlock = some k ∧ W.heap.size ≤ k) : ∃ gv : SlV, v1 = gv.v ∧ gv.n = p.gv.n + 1 ∧ Mem w W1 N { p with gv := gv, gr := p.gr + 1 } := by
  obtain ⟨A1, k1, rfl⟩ := own_slice hv
  refine ⟨⟨A1, p.gv.n + 1, k1⟩, rfl, rfl, ?_⟩
  refine h.mod .grown _ hB (fun K hK => by cases K <;> first | rfl | exact absurd rfl hK) (fun c hc => ?_)
  have hd := hc .grown
  refine ⟨fun g hl hcg => hg.block g hl (fun e => hcg (hd.2 g e.symm)), ?_, hat_F (fun g hg => ⟨own_lt hd.1 g hg, hd.2 g hg⟩) hat⟩
  show W1.ownsRow _ 22 1 _ _ ((p.gs.take (p.gr + 1)).map (·.g.v))
  rw [List.take_add_one, hx, List.map_append]
  exact hv
/-- The row at hand, marked, goes over to the rows. -/
theorem Mem.curDone (h : Mem w W N p) {u : SlV} {m : Int} (hn : u.n = N) (hu : p.cu = rowP w.heap.size 33 65 u (reps N (resC (codeR m)))) (hgr : p.gr = 0) : Mem w W N { p with cu := empP, gs := p.gs ++ [⟨u, u, m, 0⟩] } := by
  obtain ⟨c, h⟩ := h
  have h0 := h.all .cur
  simp only [stS, hu] at h0
  have h1 := h.move .cur (.row p.gs.length) (by simp) (gotP w.heap.size N ⟨u, u, m, 0⟩) ⟨hn, hn, by rw [← hn]; rw [hn]; have := h0.1; rwa [hn] at this, by have := h0.1; rw [hn] at this; simpa [reps] using this, h0.2, h0.2, .inr ⟨rfl, rfl⟩⟩
  refine ⟨fun g => if c g = .cur then .row p.gs.length else c g, h1.bel, fun K => ?_⟩
  have h2 := h1.all K
  by_cases e1 : K = .cur
  · subst e1
    exact trivial
  · rw [if_neg e1] at h2
    by_cases e2 : K = .row p.gs.length
    · subst e2
      rw [if_pos rfl] at h2
      simp only [stS, List.getElem?_concat_length]
      exact h2
    · rw [if_neg e2] at h2
      cases K with
      | row k =>
        have hk : k ≠ p.gs.length := fun e => e2 (by rw [e])
        simp only [stS] at h2 ⊢
        by_cases hkl : k < p.gs.length
        · rw [List.getElem?_append_left hkl]
          exact h2
        · rw [List.getElem?_eq_none (by simp; omega)]
          exact trivial
      | grown =>
        simp only [stS, hgr, List.take_zero] at h2 ⊢
        exact h2
      | cur => exact absurd rfl e1
      | _ => exact h2
/-- The row before, marked, goes over to the rows. -/
theorem Mem.prvDone (h : Mem w W N p) {u : SlV} {m : Int} (hn : u.n = N) (hu : p.pu = rowP w.heap.size 33 65 u (reps N (resC (codeR m)))) (hgr : p.gr = 0) : Mem w W N { p with pu := empP, gs := p.gs ++ [⟨u, u, m, 0⟩] } := by
  obtain ⟨c, h⟩ := h
  have h0 := h.all .prv
  simp only [stS, hu] at h0
  have h1 := h.move .prv (.row p.gs.length) (by simp) (gotP w.heap.size N ⟨u, u, m, 0⟩) ⟨hn, hn, by rw [← hn]; rw [hn]; have := h0.1; rwa [hn] at this, by have := h0.1; rw [hn] at this; simpa [reps] using this, h0.2, h0.2, .inr ⟨rfl, rfl⟩⟩
  refine ⟨fun g => if c g = .prv then .row p.gs.length else c g, h1.bel, fun K => ?_⟩
  have h2 := h1.all K
  by_cases e1 : K = .prv
  · subst e1
    exact trivial
  · rw [if_neg e1] at h2
    by_cases e2 : K = .row p.gs.length
    · subst e2
      rw [if_pos rfl] at h2
      simp only [stS, List.getElem?_concat_length]
      exact h2
    · rw [if_neg e2] at h2
      cases K with
      | row k =>
        have hk : k ≠ p.gs.length := fun e => e2 (by rw [e])
        simp only [stS] at h2 ⊢
        by_cases hkl : k < p.gs.length
        · rw [List.getElem?_append_left hkl]
          exact h2
        · rw [List.getElem?_eq_none (by simp; omega)]
          exact trivial
      | grown =>
        simp only [stS, hgr, List.take_zero] at h2 ⊢
        exact h2
      | prv => exact absurd rfl e1
      | _ => exact h2
/-- The row at hand becomes the row before. -/
theorem Mem.curPrv (h : Mem w W N p) {u : SlV} {xs : List Value} (hu : p.cu = rowP w.heap.size 33 65 u xs) : Mem w W N { p with cu := empP, pu := rowP w.heap.size 33 65 u xs } := by
  obtain ⟨c, h⟩ := h
  have h0 := h.all .cur
  simp only [stS, hu] at h0
  have h1 := h.move .cur .prv (by simp) (rowP w.heap.size 33 65 u xs) h0
  refine ⟨fun g => if c g = .cur then .prv else c g, h1.bel, fun K => ?_⟩
  have h2 := h1.all K
  by_cases e1 : K = .cur
  · subst e1
    exact trivial
  · rw [if_neg e1] at h2
    by_cases e2 : K = .prv
    · subst e2
      rw [if_pos rfl] at h2
      exact h2
    · rw [if_neg e2] at h2
      cases K with
      | cur => exact absurd rfl e1
      | prv => exact absurd rfl e2
      | _ => exact h2
/-- A row of one's own that has its place is written over with what it has. -/
theorem Mem.rowSame (h : Mem w W N p) {k : Nat} {x : G} (hx : p.gs[k]? = some x) (hr0 : x.r = 0) (hgl : x.g = x.l) (hg : W.grownBy W1 x.l.v.ownBlock) (hr : W1.ownsRow w.heap.size 33 65 x.l.v N (reps N (resC (codeR x.m)))) : Mem w W1 N p := by
  refine h.mod (.row k) _ (h.bel.grown hg h.bel.size (fun j hj => own_base (h.row hx).2.2.1 j hj)) (fun K hK => rfl) (fun c hc => ?_)
  have hd := hc (.row k)
  simp only [stS, hx] at hd ⊢
  refine ⟨fun g hl hcg => hg.block g hl (fun e => hcg (hd.lF g e.symm)), ⟨hd.ln, hd.gn, hr, ?_, fun g hg _ => hd.lF g hg, fun g hg _ => hd.gF g hg, hd.rel⟩⟩
  rw [hgl, hr0]
  simpa [reps] using hr
/-- It grows by one. -/
theorem Mem.rowGrow (h : Mem w W N p) {k : Nat} {x : G} (hx : p.gs[k]? = some x) (hk : p.gr ≤ k) {v1 : Value} (hB : Below w.heap.size w W1) (hg : W.grownBy W1 x.g.v.ownBlock)
    (hv : W1.ownsRow w.heap.size 33 65 v1 (N + x.r + 1) ((reps N (resC (codeR x.m)) ++ reps x.r (resC (codeR (x.m + 999)))) ++ resC (codeR (x.m + 999)))) (ho : W1.ownsRow w.heap.size 33 65 x.g.v (N + x.r) (reps N (resC (codeR x.m)) ++ reps x.r (resC (codeR (x.m + 999)))))
    (hat : (∃ A c, x.g.v = .slice A (N + x.r) c ∧ v1 = .slice A (N + x.r + 1) c) ∨ ∃ k, v1.ownBlock = some k ∧ W.heap.size ≤ k) : ∃ g1 : SlV, v1 = g1.v ∧ g1.n = N + x.r + 1 ∧ Mem w W1 N { p with gs := p.gs.set k ⟨x.l, g1, x.m, x.r + 1⟩ } := by
  have hlt : k < p.gs.length := (List.getElem?_eq_some_iff.1 hx).1
  obtain ⟨A1, k1, rfl⟩ := own_slice hv
  refine ⟨⟨A1, N + x.r + 1, k1⟩, rfl, rfl, ?_⟩
  refine h.mod (.row k) _ hB (fun K hK => ?_) (fun c hc => ?_)
  · cases K with
    | row j =>
      have hj : k ≠ j := fun e => hK (by rw [e])
      simp only [stS, List.getElem?_set_ne hj]
    | grown =>
      simp only [stS]
      rw [List.take_set_of_le (by omega)]
    | _ => rfl
  · have hd := hc (.row k)
    simp only [stS, hx] at hd
    simp only [stS, List.getElem?_set_self hlt]
    obtain ⟨g1, e1, hE⟩ := Ent.grow (F' := fun g => g < W.heap.size → c g = .row k) (codeR_len _) hd (fun g _ hg _ => hg) (fun g hg hl => absurd hl (by omega)) hv hg ho hat
    have e2 : g1 = ⟨A1, N + x.r + 1, k1⟩ := by
      obtain ⟨a, b, c⟩ := g1
      injection e1 with e1 e2 e3
      subst e1 e2 e3
      rfl
    subst e2
    refine ⟨fun g hl hcg => ?_, hE⟩
    exact hg.block g hl (fun e => hcg (hd.gF g e.symm))
/-- The memory at the start. -/
theorem Mem.start {gd gl : Nat} {wh wt : SlV} {wx : List Value} {wo : List Res} {id : List Int} (hB : Below w.heap.size w W) (hd : W.heap[gd]? = some (.cells #[.slice none 0 0] 26 (0, 0))) (hgd : w.heap.size ≤ gd)
    (hw : W.ownsRow w.heap.size 33 65 wh.v wh.n wx) (ht : W.ownsRow w.heap.size 33 65 wt.v wt.n (rowR wo)) (hl : W.heap[gl]? = some (.cells (u8s id).toArray 29 (0, 0))) (hgl : w.heap.size ≤ gl) (hne : ∀ g, wh.v.ownBlock = some g → wt.v.ownBlock ≠ some g) :
    Mem w W N ⟨gd, .slice none 0 0, [], wh, wx, wt, wo, gl, id, ⟨none, 0, 0⟩, [], [], empP, ⟨none, 0, 0⟩, 0, empP⟩ := by
  have ty : ∀ {g t s : Nat} {c1 c2 : Array Value}, t ≠ s → W.heap[g]? = some (.cells c1 t (0, 0)) → W.heap[g]? = some (.cells c2 s (0, 0)) → False := by
    intro g t s c1 c2 hts h1 h2
    rw [h1] at h2
    injection h2 with h2
    injection h2 with _ h2
    exact hts h2
  refine ⟨fun g => if g = gd then .desk else if g = gl then .lw else if wh.v.ownBlock = some g then .whole else .want, hB, fun K => ?_⟩
  cases K with
  | desk => exact ⟨⟨hd, own_nil _ _ _ _, fun x hx => by simp at hx, hgd⟩, by simp, fun g hg => by simp [Value.ownBlock] at hg⟩
  | whole =>
    refine ⟨hw, fun g hg => ?_⟩
    obtain ⟨cs, hc⟩ := own_typed hw g hg
    have h1 : g ≠ gd := fun e => by subst e; exact ty (by decide) hc hd
    have h2 : g ≠ gl := fun e => by subst e; exact ty (by decide) hc hl
    simp [h1, h2, hg]
  | want =>
    refine ⟨ht, fun g hg => ?_⟩
    obtain ⟨cs, hc⟩ := own_typed ht g hg
    have h1 : g ≠ gd := fun e => by subst e; exact ty (by decide) hc hd
    have h2 : g ≠ gl := fun e => by subst e; exact ty (by decide) hc hl
    have h3 : wh.v.ownBlock ≠ some g := fun e => hne g e hg
    simp [h1, h2, h3]
  | lw =>
    have h1 : gl ≠ gd := fun e => by subst e; exact ty (by decide) hl hd
    exact ⟨hl, hgl, by simp [h1]⟩
  | seven => exact ⟨own_nil _ _ _ _, fun g hg => by simp [SlV.v, Value.ownBlock] at hg⟩
  | grown => exact ⟨own_nil _ _ _ _, fun g hg => by simp [SlV.v, Value.ownBlock] at hg⟩
  | row k => exact trivial
  | cur => exact trivial
  | prv => exact trivial
/-- An element of the whole table is written. -/
theorem Mem.wholePut (h : Mem w W N p) {gw n k2 i : Nat} {xs : List Res} {r : Res} (e1 : p.wh = ⟨some ⟨gw, 0, none⟩, n, k2⟩) (e2 : p.wx = rowR xs) (hl : xs.length = n) (hi : i < n) (ok : ∀ x ∈ xs, ResOk x) (hr : ResOk r) :
    W.there gw (i * 65) (resC r).length ∧ Mem w (W.setCells gw (i * 65) (resC r)) N { p with wx := rowR (xs.set i r) } := by
  have h1 := h.whole
  rw [e1, e2] at h1
  obtain ⟨g, cap, e, _, hth, hown, hg⟩ := own_set h1 (i := i) hi (cs := resC r) (resC_length hr)
  injection e with e3 _ _
  injection e3 with e3
  injection e3 with e3
  subst e3
  rw [rowR, flat_set (rowR_len ok) (by omega)] at hown
  rw [resC_length hr]
  refine ⟨hth, h.wholeSet ?_ ?_⟩
  · rw [e1]; exact hg
  · rw [e1]; exact hown
theorem Mem.wholeR (h : Mem w W N p) {gw n k2 : Nat} {xs : List Res} (e1 : p.wh = ⟨some ⟨gw, 0, none⟩, n, k2⟩) (e2 : p.wx = rowR xs) (hl : xs.length = n) (ok : ∀ x ∈ xs, ResOk x) : resK.R 33 W w.heap.size (fun _ => True) (.slice (some ⟨gw, 0, none⟩) n k2) xs := by
  have h1 := h.whole
  rw [e1, e2] at h1
  subst hl
  exact resR_of h1 ok
theorem own_form {b e sz n : Nat} {u : SlV} {xs : List Value} (h : W.ownsRow b e sz u.v n xs) (hn : 0 < n) : ∃ g c, u = ⟨some ⟨g, 0, none⟩, n, c⟩ ∧ n ≤ c := by
  obtain ⟨A, m, k⟩ := u
  rcases h.2 with ⟨_, h0⟩ | ⟨g, cap, cur, hv, _, _, hnc, _⟩
  · omega
  · injection hv with e1 e2 e3
    subst e1 e2 e3
    exact ⟨g, _, rfl, hnc⟩
theorem own_cell1 {b e n g c : Nat} {us : List SlV} {j : Nat} {u : SlV} (h : W.ownsRow b e 1 (.slice (some ⟨g, 0, none⟩) n c) n (us.map SlV.v)) (hu : us[j]? = some u) : W.cell? ⟨g, j, none⟩ = some u.v := by
  have hl : us.length = n := by have := h.1; simp at this; omega
  have hj : j < n := by rw [← hl]; exact (List.getElem?_eq_some_iff.1 hu).1
  obtain ⟨g', c', e, hat⟩ := own_at h hj
  injection e with e1 _ _
  injection e1 with e1
  injection e1 with e1
  subst e1
  have h1 := hat 0 u.v (by
    rw [List.getElem?_take, if_pos (by omega), List.getElem?_drop, Nat.mul_one, Nat.add_zero, List.getElem?_map, hu]
    rfl)
  rw [Addr.add_mid, Nat.mul_one, Nat.add_zero] at h1
  exact h1
theorem Mem.sevenAt (h : Mem w W N p) {g n c : Nat} (e : p.sv = ⟨some ⟨g, 0, none⟩, n, c⟩) {j : Nat} {u : SlV} (hu : p.sl[j]? = some u) : W.cell? ⟨g, j, none⟩ = some u.v := by
  have h1 := h.seven
  rw [e] at h1
  exact own_cell1 h1 hu
theorem Mem.grownAt (h : Mem w W N p) {g n c : Nat} (e : p.gv = ⟨some ⟨g, 0, none⟩, n, c⟩) {j : Nat} {x : G} (hx : p.gs[j]? = some x) (hj : j < p.gr) : W.cell? ⟨g, j, none⟩ = some x.g.v := by
  have h1 := h.grown
  rw [e, show (p.gs.take p.gr).map (·.g.v) = ((p.gs.take p.gr).map (·.g)).map SlV.v by rw [List.map_map]; rfl] at h1
  exact own_cell1 h1 (by rw [List.getElem?_map, List.getElem?_take, if_pos hj, hx]; rfl)
theorem info22 : (Tryz.prog.info? 22).map (fun i => (i.zero, i.size, i.bytes)) = some (some (.slice none 0 0), 1, 24) := by kernel_rfl
end
end Go.Proofs.YtdekmeanlcpenaaGreatDoor.Law

namespace Go.Proofs.YtdekmeanlcpenaaGreatDoor.Mid

/-- What the document's loop knows behind i of the actions. -/
structure Seek (rs : List Res) (qas : List (List Int)) (i : Nat) (lacks : Bool) (least : List Int) : Prop where
  none : lacks = false → (∀ a ∈ qas.take i, ∃ r ∈ rs, r.act = a) ∧ least = List.replicate 32 0
  some : lacks = true → Least (fun a => a ∈ qas.take i ∧ ∀ r ∈ rs, r.act ≠ a) least
theorem seek_start (rs : List Res) (qas : List (List Int)) : Seek rs qas 0 false (List.replicate 32 0) := ⟨fun _ => ⟨by simp, rfl⟩, fun h => by cases h⟩
section
variable {rs : List Res} {qas : List (List Int)} {i : Nat} {lacks : Bool} {least a : List Int}
theorem mem_take_succ (ha : qas[i]? = some a) (b : List Int) : b ∈ qas.take (i + 1) ↔ b ∈ qas.take i ∨ b = a := by
  rw [List.take_add_one, ha]
  simp
theorem seek_there (h : Seek rs qas i lacks least) (ha : qas[i]? = some a) (hr : ∃ r ∈ rs, r.act = a) : Seek rs qas (i + 1) lacks least := by
  refine ⟨fun hl => ⟨fun b hb => ?_, (h.none hl).2⟩, fun hl => ?_⟩
  · rcases (mem_take_succ ha b).1 hb with hb | rfl
    · exact (h.none hl).1 b hb
    · exact hr
  · have hL := h.some hl
    refine ⟨⟨(mem_take_succ ha _).2 (.inl hL.1.1), hL.1.2⟩, fun b ⟨hb, hn⟩ => ?_⟩
    rcases (mem_take_succ ha b).1 hb with hb | rfl
    · exact hL.2 b ⟨hb, hn⟩
    · obtain ⟨r, h1, h2⟩ := hr
      exact absurd h2 (hn r h1)
theorem seek_new (ok : ∀ a ∈ qas, IdOk a) (h : Seek rs qas i lacks least) (ha : qas[i]? = some a) (hr : ∀ r ∈ rs, r.act ≠ a) (hc : lacks = false ∨ cmp a least < 0) : Seek rs qas (i + 1) true a := by
  refine ⟨fun hl => (by cases hl), fun _ => ⟨⟨(mem_take_succ ha _).2 (.inr rfl), hr⟩, fun b ⟨hb, hn⟩ => ?_⟩⟩
  rcases (mem_take_succ ha b).1 hb with hb | rfl
  · cases lacks with
    | false =>
      obtain ⟨r, h1, h2⟩ := (h.none rfl).1 b hb
      exact absurd h2 (hn r h1)
    | true =>
      have hc' : cmp a least < 0 := by simpa using hc
      have hL := h.some rfl
      have l1 := (ok a (List.mem_of_getElem? ha)).len
      have l2 := (ok _ (List.mem_of_mem_take hL.1.1)).len
      have l3 := (ok b (List.mem_of_mem_take hb)).len
      exact cmp_trans (y := least) (by omega) (by omega) (by omega) (hL.2 b ⟨hb, hn⟩)
  · rw [cmp_self]; decide
theorem seek_old (h : Seek rs qas i true least) (ha : qas[i]? = some a) (hc : ¬ cmp a least < 0) : Seek rs qas (i + 1) true least := by
  have hL := h.some rfl
  refine ⟨fun hl => (by cases hl), fun _ => ⟨⟨(mem_take_succ ha _).2 (.inl hL.1.1), hL.1.2⟩, fun b ⟨hb, hn⟩ => ?_⟩⟩
  rcases (mem_take_succ ha b).1 hb with hb | rfl
  · exact hL.2 b ⟨hb, hn⟩
  · rw [cmp_anti]
    have := cmp_vals b least
    omega
theorem seek_end (h : Seek rs qas i lacks least) (hi : qas.length ≤ i) : (lacks = false → (∀ a, ¬ Lacks rs qas a) ∧ least = List.replicate 32 0) ∧ (lacks = true → Least (Lacks rs qas) least) := by
  have ht : qas.take i = qas := List.take_of_length_le hi
  refine ⟨fun hl => ⟨fun a ⟨ha, hn⟩ => ?_, (h.none hl).2⟩, fun hl => ?_⟩
  · obtain ⟨r, h1, h2⟩ := (h.none hl).1 a (by rw [ht]; exact ha)
    exact hn r h1 h2
  · have := h.some hl
    rw [ht] at this
    exact this
end
end Go.Proofs.YtdekmeanlcpenaaGreatDoor.Mid
