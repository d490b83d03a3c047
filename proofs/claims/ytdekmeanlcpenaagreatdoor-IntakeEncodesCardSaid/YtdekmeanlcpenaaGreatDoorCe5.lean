import Derived.Test.YtdekmeanlcpenaaGreatDoorCe4
import Derived.Test.YtdekmeanlcpenaaGreatDoorCe3
import Derived.Test.YtdekmeanlcpenaaGreatDoorCe1
import Derived.Test.YtdekmeanlcpenaaGreatDoorCe2
import Derived.Test.YtdekmeanlcpenaaGreatDoorWAt
set_option linter.unusedSimpArgs false
set_option linter.unusedVariables false
namespace Go.Proofs.YtdekmeanlcpenaaGreatDoor.Law
open Go.RowKit Go.Proofs.YtdekmeanlcpenaaGreatDoorW.PrintWords Go.Proofs.YtdekmeanlcpenaaGreatDoor.Mid Go.Proofs.YtdekmeanlcpenaaGreatDoor.Pick Go.Proofs.YtdekmeanlcpenaaGreatDoor.Sep
attribute [local go_sem ↓ high] load33_eq load29_eq build69_eq build33_eq build29_eq
attribute [local simp] rowOf_drew rowOf_drewN
attribute [local go_sem high] load33_row load29_row rowOf_drew rowOf_drewN bldMark bldSeven
set_option maxHeartbeats 2000000
set_option maxRecDepth 100000

/-- So many ids of the desk are done with. -/
def doneD (B : List (List Int)) (i : Nat) : List (List Int) := List.replicate i (b1 7) ++ B.drop i
theorem doneD_set (B : List (List Int)) (i : Nat) (h : i < B.length) : (doneD B i).set i (b1 7) = doneD B (i + 1) := by
  rw [doneD, doneD, List.set_append_right _ _ (by simp), List.length_replicate, Nat.sub_self, List.drop_eq_getElem_cons h, List.set_cons_zero, List.replicate_succ', List.append_assoc]
  rfl
theorem doneD_length (B : List (List Int)) (i : Nat) (h : i ≤ B.length) : (doneD B i).length = B.length := by simp [doneD]; omega
theorem doneD_at (B : List (List Int)) (i : Nat) : (doneD B i)[i]? = B[i]? := by
  rw [doneD, List.getElem?_append_right (by simp), List.length_replicate, Nat.sub_self, List.getElem?_drop, Nat.add_zero]
theorem deskS_lo {data : List (List Int)} {n i : Nat} (h : i < data.length) : (deskS data n)[i]? = data[i]? := by
  rw [deskS, List.getElem?_append_left h]
theorem deskS_hi {data : List (List Int)} {n i : Nat} (h : data.length ≤ i) (hn : i < n) : (deskS data n)[i]? = some (b1 171) := by
  rw [deskS, List.getElem?_append_right h, List.getElem?_replicate, if_pos (by omega)]

theorem bdrN (w : World) (n : Nat) : Below w.heap.size w (w.drewN n) := ⟨rfl, rfl, rfl, Nat.le_refl _, fun _ _ => rfl⟩

theorem desk_lies_any (w0 : World) (gd : Nat) (W : World) (g n k : Nat) (A : Option Addr) (c : Nat) (data : List (List Int)) (hI : DInv w0 gd W (.slice (some ⟨g, 0, none⟩) n k) (deskS data n)) (hC : idK.C w0 A data.length data) (hd : data.length ≤ n) (hn : n ≤ 1000000) :
    Calls Tryz.prog 13 #[.pointer (some ⟨gd, 0, none⟩), .slice A data.length c] W fun e w' => e = .returned (.bool true) ∧ DInv w0 gd w' (.slice (some ⟨g, 0, none⟩) n k) (doneD (deskS data n) n) ∧ Kp W w' gd (.slice (some ⟨g, 0, none⟩) n k) := by
  have HI0 := Aside0.mk hI
  have HC := Aside0.mk hC
  clear hI hC
  go_enter Tryz.func13, Tryz.ntmps13
  go_wp2
  go_loopg [5, 6] n (fun k' v5 v6 w' => v5 = .bool true ∧ ∃ i : Nat, v6 = .int .i64 i ∧ i + k' = n ∧ Aside0 (DInv w0 gd w' (.slice (some ⟨g, 0, none⟩) n k) (doneD (deskS data n) i)) ∧ Aside0 (Kp W w' gd (.slice (some ⟨g, 0, none⟩) n k)))
  case atStart => exact ⟨rfl, 0, rfl, by omega, ⟨HI0.out⟩, ⟨Kp.refl _ _ _⟩⟩
  case round =>
    clear HI0
    obtain ⟨rfl, i, rfl, hik, HI, HK⟩ := hrel
    have hc1 := cell_of_one HI.out.blk
    cases gk with
    | zero =>
      have hi : i = n := by omega
      subst hi
      go_wp2
      go_ret
      exact ⟨rfl, HI.out, HK.out⟩
    | succ k' =>
      have hi : i < n := by omega
      have hi1 : (i : Int) < (n : Int) := by omega
      have hdl : (deskS data n).length = n := deskS_length hd
      have hbl : (doneD (deskS data n) i).length = n := by rw [doneD_length _ _ (by omega), hdl]
      obtain ⟨x, hx⟩ : ∃ x, (deskS data n)[i]? = some x := ⟨_, List.getElem?_eq_getElem (by omega)⟩
      have hxd : (doneD (deskS data n) i)[i]? = some x := by rw [doneD_at _ _]; exact hx
      have hxo : IdOk x := HI.out.ok x (List.mem_of_getElem? hxd)
      have hrow : rowOf wr ⟨g, i * 32, none⟩ 32 = some (u8s x) := by
        obtain ⟨g', cap, e, ha⟩ := own_at HI.out.row (i := i) (by omega)
        injection e with e1 _ _
        injection e1 with e1
        injection e1 with e1
        subst e1
        rw [rowI, flat_get (rowI_len HI.out.ok) hxd] at ha
        exact ha.id hxo
      have HXO := Aside0.mk hxo
      by_cases hl : i < data.length
      · have hl1 : (i : Int) < (data.length : Int) := by omega
        have d1 : decide (i < data.length) = true := by simp; omega
        have d2 : decide ((i : Int) < (data.length : Int)) = true := by simp; omega
        have d3 : decide (data.length ≤ i) = false := by simp; omega
        have d4 : decide ((data.length : Int) ≤ (i : Int)) = false := by simp; omega
        obtain ⟨ad, y, e, hy, hyo, hat⟩ := id_at (Kd.C_below HC.out HI.out.bel) i hl
        cases e
        have e : y = x := by
          rw [deskS_lo hl, hy] at hx
          exact Option.some.inj hx
        subst e
        have hrow2 := hat.id hyo
        have heq : ∀ u, (Op.equalIn 10000 29 (.agg (u8s y).toArray) (.agg (u8s y).toArray)).run Tryz.prog u = .ok true u := fun u => by rw [eqI29 u _ _ HXO.out HXO.out, decide_eq_true rfl]
        clear hat hy hyo hx hxd hxo hdl
        go_wp2
        go_quiet (fail)
        have HI2 := HI.out.step (bdrN wr nq)
        have hP := HI2.put (i := i) (by omega) (b1_ok (n := 7) (by decide))
        rw [doneD_set _ i (by rw [deskS_length hd]; exact hi)] at hP
        have HNX := Aside0.mk hP.2.2
        have HTH : Aside0 ((wr.drewN nq).there g (i * 32) (u8s (b1 7)).length) := ⟨hP.1⟩
        have HKX := Aside0.mk ((HK.out.below (bdrN wr nq)).grown hP.2.1 (fun k e => by injection e with e; subst e; exact .inr (.inl rfl)))
        clear hP HI2
        go_wp2_with (first
          | (refine wpList_store_cells (ty := 29) (x := .tmp 57) (y := .tmp 56) (b := g) (o := i * 32) (cs := u8s (b1 7)) ?_ ?_ ?_ ?_ ?_ ?_ ?_ ?_ ?_
             rotate_left 2
             focus with_reducible exact rfl
             focus exact rfl
             focus exact rfl
             focus exact HTH.out
             focus exact info29
             focus exact u8s_one
             rotate_left 1
             focus exact rfl
             focus exact rfl)
          | go_in)
        go_roundg k'
        case measure => omega
        case rel => exact ⟨rfl, i + 1, by go_num, by omega, HNX, HKX⟩
      · have d1 : decide (i < data.length) = false := by simp; omega
        have d2 : decide ((i : Int) < (data.length : Int)) = false := by simp; omega
        have d3 : decide (data.length ≤ i) = true := by simp; omega
        have d4 : decide ((data.length : Int) ≤ (i : Int)) = true := by simp; omega
        have e : x = b1 171 := by
          rw [deskS_hi (by omega) hi] at hx
          exact (Option.some.inj hx).symm
        subst e
        have heq : ∀ u, (Op.equalIn 10000 29 (.agg (u8s (b1 171)).toArray) (.agg (u8s (b1 171)).toArray)).run Tryz.prog u = .ok true u := fun u => by rw [eqI29 u _ _ HXO.out HXO.out, decide_eq_true rfl]
        clear hx hxd hxo hdl
        go_wp2
        go_quiet (fail)
        have HI2 := HI.out.step (bdrN wr nq)
        have hP := HI2.put (i := i) (by omega) (b1_ok (n := 7) (by decide))
        rw [doneD_set _ i (by rw [deskS_length hd]; exact hi)] at hP
        have HNX := Aside0.mk hP.2.2
        have HTH : Aside0 ((wr.drewN nq).there g (i * 32) (u8s (b1 7)).length) := ⟨hP.1⟩
        have HKX := Aside0.mk ((HK.out.below (bdrN wr nq)).grown hP.2.1 (fun k e => by injection e with e; subst e; exact .inr (.inl rfl)))
        clear hP HI2
        go_wp2_with (first
          | (refine wpList_store_cells (ty := 29) (x := .tmp 57) (y := .tmp 56) (b := g) (o := i * 32) (cs := u8s (b1 7)) ?_ ?_ ?_ ?_ ?_ ?_ ?_ ?_ ?_
             rotate_left 2
             focus with_reducible exact rfl
             focus exact rfl
             focus exact rfl
             focus exact HTH.out
             focus exact info29
             focus exact u8s_one
             rotate_left 1
             focus exact rfl
             focus exact rfl)
          | go_in)
        go_roundg k'
        case measure => omega
        case rel => exact ⟨rfl, i + 1, by go_num, by omega, HNX, HKX⟩
end Go.Proofs.YtdekmeanlcpenaaGreatDoor.Law

namespace Go.Proofs.YtdekmeanlcpenaaGreatDoor.Law
open Go.RowKit Go.Proofs.YtdekmeanlcpenaaGreatDoorW.PrintWords Go.Proofs.YtdekmeanlcpenaaGreatDoor.Mid Go.Proofs.YtdekmeanlcpenaaGreatDoor.Pick Go.Proofs.YtdekmeanlcpenaaGreatDoor.Err
attribute [local go_sem ↓ high] load33_eq load29_eq build69_eq build33_eq build29_eq
attribute [local simp] rowOf_drew rowOf_drewN
attribute [local go_sem high] load33_row load29_row rowOf_drew rowOf_drewN bld29_none
set_option maxHeartbeats 2000000
set_option maxRecDepth 100000

theorem own_blk {W : World} {g e sz n base : Nat} {cs : List Value} (h : W.heap[g]? = some (.cells cs.toArray e (0, 0))) (hl : cs.length = n * sz) (hb : base ≤ g) (hn : n ≤ 1000000) : W.ownsRow base e sz (.slice (some ⟨g, 0, none⟩) n n) n cs :=
  ⟨hl, .inr ⟨g, n, cs.toArray, rfl, hb, h, Nat.le_refl _, by unfold maxLen; omega, by simp [hl], by rw [← hl]; simp⟩⟩
theorem rowR_length {rs : List Res} (h : ∀ r ∈ rs, ResOk r) : (rowR rs).length = rs.length * 65 := (flat_reps (f := resC) (R := fun r cs => ResOk r ∧ cs = resC r) (fun x cs h => by rw [h.2, resC_length h.1]) (fun x hx => ⟨h x hx, rfl⟩)).1
theorem rowI_length {xs : List (List Int)} (h : ∀ x ∈ xs, IdOk x) : (rowI xs).length = xs.length * 32 := (flat_reps (f := u8s) (R := fun x cs => IdOk x ∧ cs = u8s x) (fun x cs h => by rw [h.2, u8s_length, h.1.len]) (fun x hx => ⟨h x hx, rfl⟩)).1
theorem C_of_own33 {W : World} {base n c : Nat} {A : Option Addr} {rs : List Res} (h : W.ownsRow base 33 65 (.slice A n c) rs.length (rowR rs)) (ok : ∀ r ∈ rs, ResOk r) : n = rs.length ∧ rs.length ≤ c ∧ resK.C W A rs.length rs := by
  obtain ⟨A', c', e, h1, h2⟩ := Kd.R_reads (resR_of h ok)
  injection e with e1 e2 e3
  subst e1 e2 e3
  exact ⟨rfl, h1, h2⟩
theorem C_of_own29 {W : World} {base n c : Nat} {A : Option Addr} {xs : List (List Int)} (h : W.ownsRow base 29 32 (.slice A n c) xs.length (rowI xs)) (ok : ∀ x ∈ xs, IdOk x) : n = xs.length ∧ xs.length ≤ c ∧ idK.C W A xs.length xs := by
  obtain ⟨A', c', e, h1, h2⟩ := Kd.R_reads (idR_of h ok)
  injection e with e1 e2 e3
  subst e1 e2 e3
  exact ⟨rfl, h1, h2⟩
section
variable {ops : Array Oper} {rest : List Oper} {o : Oper} {a : Act} {w : World} {Q : Exit → Act → World → Prop}
theorem wpList_rows33 (rs : List Res) (hg : o.guard = none) (n : Nat) (parts : Array (Nat × Operand)) (ho : o.op = .buildSlice 22 n parts) (ok : ∀ r ∈ rs, ResOk r)
    (hp : (parts.toList.map fun p => (p.1, a.eval p.2)) = ((rs.map resC).zipIdx 0).map fun x => (x.2, .agg x.1.toArray)) (hn : rs.length = n) (h0 : 0 < n) (hs : n ≤ 1000)
    (h : ∀ A w1, w1.ownsRow w.heap.size 33 65 (.slice A n n) n (rowR rs) → Below w.heap.size w w1 → wpList Tryz.prog ops Q rest (a.put o.dst (.slice A n n)) w1) : wpList Tryz.prog ops Q (o :: rest) a w := by
  refine wpList_buildRows hg n parts ho (rs.map resC) Tryz.underlying22 ⟨z33v, 72, info33full', rfl⟩ (by rw [Array.toList_map]; exact hp) (fun v hv => ?_) (by rw [List.length_map]; exact hn) (by omega) (by omega) ?_
  · obtain ⟨r, hr, rfl⟩ := List.mem_map.1 hv
    exact resC_length (ok r hr)
  · exact h _ _ (own_blk (heap_alloc_new w _) (by rw [← hn]; exact rowR_length ok) (Nat.le_refl _) (by omega)) (below_alloc (Below.refl _ _) _)
theorem wpList_rows33W (rs : List Res) (hw : Region.wanted o (yielded ops a.tmps) = true) (n : Nat) (parts : Array (Nat × Operand)) (ho : o.op = .buildSlice 22 n parts) (ok : ∀ r ∈ rs, ResOk r)
    (hp : (parts.toList.map fun p => (p.1, a.eval p.2)) = ((rs.map resC).zipIdx 0).map fun x => (x.2, .agg x.1.toArray)) (hn : rs.length = n) (h0 : 0 < n) (hs : n ≤ 1000)
    (h : ∀ A w1, w1.ownsRow w.heap.size 33 65 (.slice A n n) n (rowR rs) → Below w.heap.size w w1 → wpList Tryz.prog ops Q rest (a.put o.dst (.slice A n n)) w1) : wpList Tryz.prog ops Q (o :: rest) a w := by
  refine wpList_step fun K hK => ?_
  rw [if_pos hw]
  refine wp_buildRows n parts ho (rs.map resC) Tryz.underlying22 ⟨z33v, 72, info33full', rfl⟩ (by rw [Array.toList_map]; exact hp) (fun v hv => ?_) (by rw [List.length_map]; exact hn) (by omega) (by omega) (hK _ _ ?_)
  · obtain ⟨r, hr, rfl⟩ := List.mem_map.1 hv
    exact resC_length (ok r hr)
  · exact h _ _ (own_blk (heap_alloc_new w _) (by rw [← hn]; exact rowR_length ok) (Nat.le_refl _) (by omega)) (below_alloc (Below.refl _ _) _)
theorem wpList_rows29 (xs : List (List Int)) (hg : o.guard = none) (n : Nat) (parts : Array (Nat × Operand)) (ho : o.op = .buildSlice 23 n parts) (ok : ∀ r ∈ xs, IdOk r)
    (hp : (parts.toList.map fun p => (p.1, a.eval p.2)) = ((xs.map u8s).zipIdx 0).map fun x => (x.2, .agg x.1.toArray)) (hn : xs.length = n) (h0 : 0 < n) (hs : n ≤ 1000)
    (h : ∀ A w1, w1.ownsRow w.heap.size 29 32 (.slice A n n) n (rowI xs) → Below w.heap.size w w1 → wpList Tryz.prog ops Q rest (a.put o.dst (.slice A n n)) w1) : wpList Tryz.prog ops Q (o :: rest) a w := by
  refine wpList_buildRows hg n parts ho (xs.map u8s) Tryz.underlying23 ⟨z29v, 32, info29full, rfl⟩ (by rw [Array.toList_map]; exact hp) (fun v hv => ?_) (by rw [List.length_map]; exact hn) (by omega) (by omega) ?_
  · obtain ⟨r, hr, rfl⟩ := List.mem_map.1 hv
    rw [u8s_length, (ok r hr).len]
  · exact h _ _ (own_blk (heap_alloc_new w _) (by rw [← hn]; exact rowI_length ok) (Nat.le_refl _) (by omega)) (below_alloc (Below.refl _ _) _)
end

/-- The result that has this action alone. -/
def actR (n : Int) : Res := ⟨b1 n, z32, 0⟩
theorem actR_ok {n : Int} (h : 0 ≤ n ∧ n ≤ 255) : ResOk (actR n) := ⟨b1_ok h, z32_ok, by show _ ≤ (0 : Int) ∧ (0 : Int) ≤ _; decide⟩
theorem bldAct (n : Int) (w : World) : (bld 33 #[(0, .agg (u8s (b1 n)).toArray)]).run Tryz.prog w = .ok (.agg (resC (actR n)).toArray) w := by kernel_rfl
def kRs : List Res := [actR 1, actR 3, actR 5]
def kGot : List Res := [actR 1, actR 5]
def kA : List (List Int) := [b1 5, b1 1, b1 5]
def kB : List (List Int) := [b1 4, b1 2, b1 1]
theorem kRs_ok : ∀ r ∈ kRs, ResOk r := by
  intro r hr
  simp only [kRs, List.mem_cons, List.not_mem_nil, or_false] at hr
  rcases hr with rfl | rfl | rfl <;> exact actR_ok (by decide)
theorem kGot_ok : ∀ r ∈ kGot, ResOk r := by
  intro r hr
  simp only [kGot, List.mem_cons, List.not_mem_nil, or_false] at hr
  rcases hr with rfl | rfl <;> exact actR_ok (by decide)
theorem kA_ok : ∀ r ∈ kA, IdOk r := by
  intro r hr
  simp only [kA, List.mem_cons, List.not_mem_nil, or_false] at hr
  rcases hr with rfl | rfl | rfl <;> exact b1_ok (by decide)
theorem kB_ok : ∀ r ∈ kB, IdOk r := by
  intro r hr
  simp only [kB, List.mem_cons, List.not_mem_nil, or_false] at hr
  rcases hr with rfl | rfl | rfl <;> exact b1_ok (by decide)
theorem kT : Table kRs := by
  refine ⟨by decide, ?_, ?_⟩
  · intro r hr
    simp only [kRs, List.mem_cons, List.not_mem_nil, or_false] at hr
    rcases hr with rfl | rfl | rfl <;> (show 0 ≤ (0 : Int) ∧ (0 : Int) ≤ 255; decide)
  · intro i r s hr hs
    match i, hr, hs with
    | 0, hr, hs => cases hr; cases hs; decide
    | 1, hr, hs => cases hr; cases hs; decide
    | i + 2, hr, hs =>
      have := (List.getElem?_eq_some_iff.1 hs).1
      simp [kRs] at this
      omega
theorem kA_picked {out : List Res} {n : Int} {id : List Int} (h : Picked kRs kA out n id) : out = kGot ∧ n = 0 := by
  obtain ⟨h1, h2, _⟩ := h.fine kT (by
    rintro a ⟨ha, hl⟩
    simp only [kA, List.mem_cons, List.not_mem_nil, or_false] at ha
    rcases ha with rfl | rfl | rfl
    · exact hl (actR 5) (by simp [kRs]) rfl
    · exact hl (actR 1) (by simp [kRs]) rfl
    · exact hl (actR 5) (by simp [kRs]) rfl)
  exact ⟨h1.trans (by decide), h2⟩
theorem kB_picked {out : List Res} {n : Int} {id : List Int} (h : Picked kRs kB out n id) : n = 96 ∧ id = b1 2 := by
  have hl2 : Lacks kRs kB (b1 2) := ⟨by simp [kB], by
    intro r hr
    simp only [kRs, List.mem_cons, List.not_mem_nil, or_false] at hr
    rcases hr with rfl | rfl | rfl <;> decide⟩
  obtain ⟨_, h2, h3⟩ := h.lacks kT ⟨_, hl2⟩
  refine ⟨h2, h3.same (fun a ha => (kB_ok a ha.1).len) ⟨hl2, ?_⟩⟩
  rintro b ⟨hb, hlb⟩
  simp only [kB, List.mem_cons, List.not_mem_nil, or_false] at hb
  rcases hb with rfl | rfl | rfl
  · decide
  · decide
  · exact absurd rfl (hlb (actR 1) (by simp [kRs]))

theorem bldB (n : Int) (w : World) : (bld 29 #[(0, .int .u8 n)]).run Tryz.prog w = .ok (.agg (u8s (b1 n)).toArray) w := by
  unfold b1
  exact bld29_one w n
attribute [local go_sem high] bldAct bldB
attribute [local irreducible] b1 actR
theorem known_true (w : World) (hH : Handle w) : Calls Tryz.prog 15 #[] w fun e w' => e = .returned (.bool true) ∧ Below w.heap.size w w' := by
  have HH := Aside0.mk hH
  clear hH
  go_enter Tryz.func15, Tryz.ntmps15
  go_upto_region 2 with (first
    | (refine wpList_rows33 kRs ?_ 3 #[(0, .tmp 8), (1, .tmp 10), (2, .tmp 12)] ?_ kRs_ok ?_ rfl (by decide) (by decide) ?_
       focus exact rfl
       focus with_reducible exact rfl
       focus exact rfl
       intro A1 w1 o1 b1; have O1 := Aside0.mk o1; have B1 := Aside0.mk b1; clear o1 b1)
    | go_in)
  go_upto_region 3 with (first
    | (refine wpList_rows29 kA ?_ 3 #[(0, .tmp 16), (1, .tmp 17), (2, .tmp 18)] ?_ kA_ok ?_ rfl (by decide) (by decide) ?_
       focus exact rfl
       focus with_reducible exact rfl
       focus exact rfl
       intro A2 w2 o2 b2; have O2 := Aside0.mk o2; have B2 := Aside0.mk b2; clear o2 b2)
    | (go_at_call 9
       refine (Pick_any A1 3 kRs A2 3 kA _ (Kd.C_below (C_of_own33 O1.out kRs_ok).2.2 B2.out) (C_of_own29 O2.out kA_ok).2.2 (by decide) kRs_ok kA_ok (by decide)).mono ?_
       rintro e w3 ⟨⟨v3, er3, out, n, id, rfl, hP, hR, hE, hI⟩, b3⟩
       obtain ⟨rfl, rfl⟩ := kA_picked hP
       have hE0 : er3 = .nilIface := (by cases hE with | none _ => rfl | some g h _ _ => exact absurd rfl h)
       subst hE0
       have R3 := Aside0.mk hR
       have B3 := Aside0.mk b3
       clear hP hR hE hI b3)
    | go_in)
  obtain ⟨A3, c3, e3⟩ := Kd.R_slice R3.out
  subst e3
  go_upto_region 4 with (first
    | (refine wpList_rows29 kB ?_ 3 #[(0, .tmp 25), (1, .tmp 26), (2, .tmp 27)] ?_ kB_ok ?_ rfl (by decide) (by decide) ?_
       focus exact rfl
       focus with_reducible exact rfl
       focus exact rfl
       intro A4 w4 o4 b4; have O4 := Aside0.mk o4; have B4 := Aside0.mk b4; clear o4 b4)
    | (go_at_call 9
       refine (Pick_any A1 3 kRs A4 3 kB _ (Kd.C_below (Kd.C_below (Kd.C_below (C_of_own33 O1.out kRs_ok).2.2 B2.out) B3.out) B4.out) (C_of_own29 O4.out kB_ok).2.2 (by decide) kRs_ok kB_ok (by decide)).mono ?_
       rintro e w5 ⟨⟨v5, er5, out5, n5, id5, rfl, hP, hR, hE, hI⟩, b5⟩
       obtain ⟨rfl, rfl⟩ := kB_picked hP
       obtain ⟨g5, rfl, hg5⟩ : ∃ g, er5 = .iface 79 (.pointer (some ⟨g, 0, none⟩)) ∧ w5.heap[g]? = some (.cells (faultC opPick .empty (b1 2) (errno 96)).toArray 82 (0, 0)) := (by cases hE with | none h => exact absurd h (by decide) | some g h1 h2 h3 => exact ⟨g, rfl, h3⟩)
       have G5 := Aside0.mk hg5
       have B5 := Aside0.mk b5
       clear hP hR hE hI b5 hg5)
    | go_in)
  go_upto_region 5 with (first
    | (go_at_call 17
       refine (restore_nil nameF _).mono ?_
       rintro e w6 ⟨⟨v6, rfl, g6, rfl, hl6, hg6⟩, b6⟩
       have G6 := Aside0.mk hg6
       have B6 := Aside0.mk b6
       clear hl6 hg6 b6)
    | go_in)
  have HB6 : Aside0 (Below w.heap.size w w6) := ⟨(below_step ((below_step ((below_step ((below_step ((below_step B1.out B2.out)) B3.out)) B4.out)) B5.out)) B6.out)⟩
  go_wp2_with (first
    | (refine wpList_rows33W kGot ?_ 2 #[(0, .tmp 38), (1, .tmp 40)] ?_ kGot_ok ?_ rfl (by decide) (by decide) ?_
       rotate_left 1
       focus with_reducible exact rfl
       focus exact rfl
       rotate_left 1
       focus (simp [Region.wanted, yielded])
       intro A7 w7 o7 b7; have O7 := Aside0.mk o7; have B7 := Aside0.mk b7; clear o7 b7)
    | (go_at_call 12
       refine (tables_true A3 c3 A7 2 kGot _ (Kd.C_below (Kd.C_below (Kd.C_below (Kd.C_below (C_of_own33 (resR_own R3.out).1 kGot_ok).2.2 B4.out) B5.out) B6.out) B7.out) (C_of_own33 O7.out kGot_ok).2.2 (by decide)).mono ?_
       rintro e w8 ⟨rfl, b8⟩
       have B8 := Aside0.mk b8
       clear b8)
    | (go_at_call 11
       first
         | (refine (told_some opRestore nameF z32 50 (by decide) z32_ok g6 w9 (handle_below HH.out (((below_step ((below_step ((below_step HB6.out B7.out)) B8.out)) B9.out)))) (blk_below (blk_below (blk_below G6.out B7.out) B8.out) B9.out)).mono ?_
            rintro e w10 ⟨rfl, b10⟩
            have B10 := Aside0.mk b10
            clear b10)
         | (refine (told_some opPick .empty (b1 2) 96 (by decide) (b1_ok (by decide)) g5 w8 (handle_below HH.out (((below_step ((below_step HB6.out B7.out)) B8.out)))) ((blk_below (blk_below (blk_below G5.out B6.out) B7.out) B8.out))).mono ?_
            rintro e w9 ⟨rfl, b9⟩
            have B9 := Aside0.mk b9
            clear b9))
    | go_in)
  go_ret
  exact ⟨rfl, (below_step ((below_step ((below_step ((below_step HB6.out B7.out)) B8.out)) B9.out)) B10.out)⟩
end Go.Proofs.YtdekmeanlcpenaaGreatDoor.Law

namespace Go.Proofs.YtdekmeanlcpenaaGreatDoor.Block

/-- One bit of the sum. -/
def f1 (r : Nat) : Nat := if r % 2 = 1 then (r / 2) ^^^ 3988292384 else r / 2
def f4 (r : Nat) : Nat := f1 (f1 (f1 (f1 r)))
/-- The register behind so many bytes. -/
def sumR : List Int → Nat → Nat
  | [], r => r
  | x :: t, r => sumR t (f4 (f4 (r ^^^ x.toNat)))
def sumS (l : List Int) : Nat := 4294967295 - sumR l 4294967295

theorem f1_xor (a b : Nat) : f1 (a ^^^ b) = f1 a ^^^ f1 b := by
  unfold f1
  have h := @Nat.xor_mod_two_eq_one a b
  have h2 : (a ^^^ b) / 2 = a / 2 ^^^ b / 2 := Nat.xor_div_two
  rw [h2]
  generalize a / 2 = x
  generalize b / 2 = y
  generalize (3988292384 : Nat) = p
  by_cases ha : a % 2 = 1 <;> by_cases hb : b % 2 = 1
  · rw [if_neg (by rw [h]; simp [ha, hb]), if_pos ha, if_pos hb]
    rw [Nat.xor_assoc, ← Nat.xor_assoc p, Nat.xor_comm p y, Nat.xor_assoc y, Nat.xor_self, Nat.xor_zero]
  · rw [if_pos (by rw [h]; simp [ha, hb]), if_pos ha, if_neg hb, Nat.xor_assoc, Nat.xor_comm y p, Nat.xor_assoc]
  · rw [if_pos (by rw [h]; simp [ha, hb]), if_neg ha, if_pos hb, Nat.xor_assoc]
  · rw [if_neg (by rw [h]; simp [ha, hb]), if_neg ha, if_neg hb]
theorem f4_xor (a b : Nat) : f4 (a ^^^ b) = f4 a ^^^ f4 b := by simp [f4, f1_xor]
theorem f1_even (q : Nat) : f1 (2 * q) = q := by
  unfold f1
  rw [if_neg (by omega)]; omega
theorem f4_16 (q : Nat) : f4 (16 * q) = q := by
  unfold f4
  rw [show 16 * q = 2 * (2 * (2 * (2 * q))) by omega, f1_even, f1_even, f1_even, f1_even]
theorem split16 (r : Nat) : r = (16 * (r / 16)) ^^^ (r % 16) := by
  have h1 : r % 16 < 2 ^ 4 := by omega
  have := Nat.two_pow_add_eq_or_of_lt h1 (r / 16)
  have h3 : 16 * (r / 16) ||| r % 16 = (16 * (r / 16)) ^^^ (r % 16) := by
    apply Nat.eq_of_testBit_eq
    intro i
    rw [Nat.testBit_or, Nat.testBit_xor]
    by_cases hi : i < 4
    · have : (16 * (r / 16)).testBit i = false := by
        have e : 16 * (r / 16) = 2 ^ 4 * (r / 16) := rfl
        rw [e, Nat.testBit_two_pow_mul]; simp; omega
      rw [this]; simp
    · have : (r % 16).testBit i = false := Nat.testBit_lt_two_pow (Nat.lt_of_lt_of_le h1 (Nat.pow_le_pow_right (by omega) (by omega)))
      rw [this]; simp
  have h5 : 16 * (r / 16) ||| r % 16 = 16 * (r / 16) + r % 16 := this.symm
  rw [← h3, h5]
  omega
/-- Four bits at once, out of the table. -/
theorem f4_table (r : Nat) : f4 r = r / 16 ^^^ f4 (r % 16) := by
  conv => lhs; rw [split16 r]
  rw [f4_xor, f4_16]
theorem f1_lt {r : Nat} (h : r < 4294967296) : f1 r < 4294967296 := by
  unfold f1
  split
  · exact Nat.xor_lt_two_pow (n := 32) (by omega) (by omega)
  · omega
theorem f4_lt {r : Nat} (h : r < 4294967296) : f4 r < 4294967296 := f1_lt (f1_lt (f1_lt (f1_lt h)))
theorem sumR_lt : ∀ (l : List Int) (r : Nat), (∀ x ∈ l, 0 ≤ x ∧ x ≤ 255) → r < 4294967296 → sumR l r < 4294967296 := by
  intro l
  induction l with
  | nil => intro r _ h; exact h
  | cons x t ih =>
    intro r hb h
    have := hb x (by simp)
    exact ih _ (fun y hy => hb y (by simp [hy])) (f4_lt (f4_lt (Nat.xor_lt_two_pow (n := 32) h (by omega))))
theorem xor_mask {r : Nat} (h : r < 4294967296) : r ^^^ 4294967295 = 4294967295 - r := by
  have h1 : (BitVec.ofNat 32 r ^^^ BitVec.allOnes 32).toNat = (~~~ (BitVec.ofNat 32 r)).toNat := by rw [BitVec.xor_allOnes]
  rw [BitVec.toNat_xor, BitVec.toNat_not, BitVec.toNat_ofNat, BitVec.toNat_allOnes, Nat.mod_eq_of_lt h] at h1
  exact h1

/-- Two registers that differ go on to differ. -/
theorem f1_inj {a b : Nat} (ha : a < 4294967296) (hb : b < 4294967296) (h : f1 a = f1 b) : a = b := by
  have e : f1 (a ^^^ b) = 0 := by rw [f1_xor, h, Nat.xor_self]
  have hx : a ^^^ b < 4294967296 := Nat.xor_lt_two_pow (n := 32) ha hb
  have h0 : a ^^^ b = 0 := by
    generalize a ^^^ b = x at e hx
    unfold f1 at e
    split at e
    · exfalso
      have e1 : x / 2 = 3988292384 := by
        have := congrArg (· ^^^ 3988292384) e
        simp only [Nat.xor_assoc, Nat.xor_self, Nat.xor_zero, Nat.zero_xor] at this
        exact this
      omega
    · omega
  have := congrArg (· ^^^ b) h0
  simp only [Nat.xor_assoc, Nat.xor_self, Nat.xor_zero, Nat.zero_xor] at this
  exact this
theorem f4_inj {a b : Nat} (ha : a < 4294967296) (hb : b < 4294967296) (h : f4 a = f4 b) : a = b :=
  f1_inj ha hb (f1_inj (f1_lt ha) (f1_lt hb) (f1_inj (f1_lt (f1_lt ha)) (f1_lt (f1_lt hb)) (f1_inj (f1_lt (f1_lt (f1_lt ha))) (f1_lt (f1_lt (f1_lt hb))) h)))

end Go.Proofs.YtdekmeanlcpenaaGreatDoor.Block

namespace Go.Proofs.YtdekmeanlcpenaaGreatDoor.Codec
open Go.Proofs.YtdekmeanlcpenaaGreatDoor.Mid

def Byt (l : List Int) : Prop := ∀ x ∈ l, 0 ≤ x ∧ x ≤ 255
theorem byt_nil : Byt [] := fun _ h => by cases h
theorem byt_append {a b : List Int} (h1 : Byt a) (h2 : Byt b) : Byt (a ++ b) := fun x hx => (List.mem_append.1 hx).elim (h1 x) (h2 x)
theorem byt_drop {l : List Int} (h : Byt l) (n : Nat) : Byt (l.drop n) := fun x hx => h x (List.mem_of_mem_drop hx)
theorem byt_take {l : List Int} (h : Byt l) (n : Nat) : Byt (l.take n) := fun x hx => h x (List.mem_of_mem_take hx)

/-- A number in its shortest form. -/
def numW (v : Nat) : List Int := if v < 128 then [(v : Int)] else ((128 + v % 128 : Nat) : Int) :: numW (v / 128)
termination_by v
decreasing_by omega
theorem numW_small {v : Nat} (h : v < 128) : numW v = [(v : Int)] := by rw [numW, if_pos h]
theorem numW_big {v : Nat} (h : 128 ≤ v) : numW v = ((128 + v % 128 : Nat) : Int) :: numW (v / 128) := by rw [numW, if_neg (by omega)]
theorem numW_byt : ∀ (m v : Nat), v ≤ m → Byt (numW v) := by
  intro m
  induction m with
  | zero => intro v hv x hx; rw [numW_small (by omega)] at hx; simp at hx; omega
  | succ m ih =>
    intro v hv x hx
    by_cases h : v < 128
    · rw [numW_small h] at hx; simp at hx; omega
    · rw [numW_big (by omega)] at hx
      rcases List.mem_cons.1 hx with rfl | hx
      · omega
      · exact ih (v / 128) (by omega) x hx
theorem numW_len : ∀ (k v : Nat), v < 128 ^ (k + 1) → (numW v).length ≤ k + 1 := by
  intro k
  induction k with
  | zero => intro v hv; rw [numW_small (by simpa using hv)]; simp
  | succ k ih =>
    intro v hv
    by_cases h : v < 128
    · rw [numW_small h]; simp
    · rw [numW_big (by omega), List.length_cons]
      have : v / 128 < 128 ^ (k + 1) := Nat.div_lt_of_lt_mul (by rw [Nat.pow_succ] at hv; omega)
      have := ih (v / 128) this
      omega
theorem numW_pos (v : Nat) : 0 < (numW v).length := by
  by_cases h : v < 128
  · rw [numW_small h]; simp
  · rw [numW_big (by omega)]; simp
theorem numW_max {v : Nat} (h : v ≤ 2147483647) : (numW v).length ≤ 5 := numW_len 4 v (by omega)
/-- A number in so many bytes, the greatest first. -/
def fixW (v : Nat) : Nat → List Int
  | 0 => []
  | k + 1 => fixW (v / 256) k ++ [((v % 256 : Nat) : Int)]
theorem fixW_length (v k : Nat) : (fixW v k).length = k := by
  induction k generalizing v with
  | zero => rfl
  | succ k ih => simp [fixW, ih]
theorem fixW_byt (v k : Nat) : Byt (fixW v k) := by
  induction k generalizing v with
  | zero => exact byt_nil
  | succ k ih =>
    refine byt_append (ih _) (fun x hx => ?_)
    simp at hx
    omega
def foldB (l : List Int) : Int := l.foldl (fun v b => 256 * v + b) 0
theorem foldB_snoc (l : List Int) (x : Int) : foldB (l ++ [x]) = 256 * foldB l + x := by simp [foldB]
theorem foldB_fix (k v : Nat) : foldB (fixW v k) = ((v % 256 ^ k : Nat) : Int) := by
  induction k generalizing v with
  | zero => simp [fixW, foldB, Nat.mod_one]
  | succ k ih =>
    rw [fixW, foldB_snoc, ih]
    have : v % 256 ^ (k + 1) = 256 * (v / 256 % 256 ^ k) + v % 256 := by
      rw [Nat.pow_succ, Nat.mul_comm, Nat.mod_mul]
      omega
    rw [this]
    omega
theorem snoc_ind {p : List Int → Prop} (h0 : p []) (h1 : ∀ l x, p l → p (l ++ [x])) (l : List Int) : p l := by
  have h : ∀ m : List Int, p m.reverse := by
    intro m
    induction m with
    | nil => exact h0
    | cons x t ih => rw [List.reverse_cons]; exact h1 _ x ih
  have := h l.reverse
  rwa [List.reverse_reverse] at this
theorem foldB_bound {l : List Int} (h : Byt l) : 0 ≤ foldB l ∧ foldB l < 256 ^ l.length := by
  revert h
  induction l using snoc_ind with
  | h0 => simp [foldB]
  | h1 l x ih =>
    intro h
    have hx := h x (by simp)
    have := ih (fun y hy => h y (by simp [hy]))
    rw [foldB_snoc, List.length_append, List.length_singleton, Int.pow_succ]
    omega
theorem fix_fold {l : List Int} (h : Byt l) : fixW (foldB l).toNat l.length = l := by
  revert h
  induction l using snoc_ind with
  | h0 => intro _; rfl
  | h1 l x ih =>
    intro h
    have hx := h x (by simp)
    have hl : Byt l := fun y hy => h y (by simp [hy])
    have hb := foldB_bound hl
    have ih := ih hl
    rw [foldB_snoc, List.length_append, List.length_singleton, fixW]
    have e1 : (256 * foldB l + x).toNat / 256 = (foldB l).toNat := by omega
    have e2 : (((256 * foldB l + x).toNat % 256 : Nat) : Int) = x := by omega
    rw [e1, e2, ih]
/-- Bytes with how many they are ahead of them. -/
def txtW (b : List Int) : List Int := numW b.length ++ b

/-- The number at the beginning of bytes; how many it has; an error. n: how many were read; v: of them; u: 128 ^ n. -/
def numR : List Int → Nat → Nat → Nat → Nat × Nat × Nat
  | [], n, _, _ => if n = 5 then (0, 0, 11) else (0, 0, 10)
  | c :: t, n, v, u => if n = 5 then (0, 0, 11) else if c < 128 then (if v + c.toNat % 128 * u > 2147483647 ∨ (0 < n ∧ c = 0) then (0, 0, 11) else (v + c.toNat % 128 * u, n + 1, 0)) else numR t (n + 1) (v + c.toNat % 128 * u) (u * 128)
theorem numR_five (l : List Int) (v u : Nat) : numR l 5 v u = (0, 0, 11) := by cases l <;> simp [numR]
theorem numR_write (t : List Int) : ∀ (m x : Nat), x ≤ m → ∀ (n v u : Nat), n + (numW x).length ≤ 5 → v + x * u ≤ 2147483647 → (0 < n → x ≠ 0) → numR (numW x ++ t) n v u = (v + x * u, n + (numW x).length, 0) := by
  intro m
  induction m with
  | zero =>
    intro x hx n v u hn hv h0
    have : x = 0 := by omega
    subst this
    rw [numW_small (by omega)] at hn ⊢
    have hn0 : n = 0 := by
      rcases Nat.eq_zero_or_pos n with h | h
      · exact h
      · exact absurd rfl (h0 h)
    subst hn0
    simp [numR]
    omega
  | succ m ih =>
    intro x hx n v u hn hv h0
    by_cases h : x < 128
    · rw [numW_small h] at hn ⊢
      simp only [List.length_singleton] at hn ⊢
      rw [List.singleton_append, numR, if_neg (by omega), if_pos (by omega), if_neg]
      · rw [Int.toNat_natCast, Nat.mod_eq_of_lt h]
      · rw [Int.toNat_natCast, Nat.mod_eq_of_lt h]
        rintro (h1 | ⟨h1, h2⟩)
        · omega
        · exact h0 h1 (by omega)
    · rw [numW_big (by omega)] at hn ⊢
      rw [List.length_cons] at hn ⊢
      have hp := numW_pos (x / 128)
      have e : v + x * u = (v + (x % 128) * u) + (x / 128) * (u * 128) := by
        conv => lhs; rw [← Nat.div_add_mod x 128]
        rw [Nat.add_mul, Nat.mul_comm 128, Nat.mul_assoc, Nat.mul_comm 128 u]; omega
      rw [List.cons_append, numR, if_neg (by omega), if_neg (by omega), Int.toNat_natCast, show (128 + x % 128) % 128 = x % 128 by omega,
        ih (x / 128) (by omega) (n + 1) _ _ (by omega) (by rw [← e]; exact hv) (by omega), ← e]
      congr 2
      omega
/-- What was read as a small number is one byte. -/
theorem numR_small : ∀ (l : List Int) (n v u x k : Nat), Byt l → 128 ≤ u * 128 → numR l n v u = (x, k, 0) → (k = n + 1 ∧ ∃ c t, l = c :: t ∧ c < 128 ∧ x = v + c.toNat * u) ∨ u * 128 ≤ x
  | [], n, v, u, x, k, _, _, h => by
    rw [numR] at h
    split at h <;> simp at h
  | c :: t, n, v, u, x, k, hb, hu, h => by
    have hc := hb c (by simp)
    rw [numR] at h
    split at h
    · simp at h
    · split at h
      · rename_i h5 h128
        split at h
        · simp at h
        · injection h with h1 h2
          injection h2 with h2 _
          left
          exact ⟨h2.symm, c, t, rfl, h128, by rw [← h1, Nat.mod_eq_of_lt (by omega)]⟩
      · rename_i h5 h128
        right
        rcases numR_small t (n + 1) _ (u * 128) x k (fun y hy => hb y (by simp [hy])) (by omega) h with ⟨hk, c', t', e, hc', hx⟩ | hx
        · subst e
          have hc0 : c' ≠ 0 := by
            intro e0
            subst e0
            rw [numR] at h
            split at h
            · simp at h
            · simp at h
          have hcb := hb c' (by simp)
          have : 1 ≤ c'.toNat := by omega
          have := Nat.mul_le_mul_right (u * 128) this
          omega
        · omega
theorem numR_le : ∀ (l : List Int) (n v u x k : Nat), n ≤ 5 → numR l n v u = (x, k, 0) → n < k ∧ k ≤ n + l.length ∧ k ≤ 5 ∧ x ≤ 2147483647
  | [], n, v, u, x, k, _, h => by
    rw [numR] at h
    split at h <;> simp at h
  | c :: t, n, v, u, x, k, h5, h => by
    rw [numR] at h
    split at h
    · simp at h
    · split at h
      · split at h
        · simp at h
        · injection h with h1 h2
          injection h2 with h2 _
          simp
          omega
      · have := numR_le t (n + 1) _ _ x k (by omega) h
        simp
        omega
theorem numR_zero : ∀ (l : List Int) (n v u x k e : Nat), numR l n v u = (x, k, e) → e ≠ 0 → x = 0 ∧ k = 0
  | [], n, v, u, x, k, e, h, he => by
    rw [numR] at h
    split at h <;> (injection h with h1 h2; injection h2 with h2 _; exact ⟨h1.symm, h2.symm⟩)
  | c :: t, n, v, u, x, k, e, h, he => by
    rw [numR] at h
    split at h
    · injection h with h1 h2; injection h2 with h2 _; exact ⟨h1.symm, h2.symm⟩
    · split at h
      · split at h
        · injection h with h1 h2; injection h2 with h2 _; exact ⟨h1.symm, h2.symm⟩
        · injection h with h1 h2; injection h2 with h2 h3; exact absurd h3.symm he
      · exact numR_zero t (n + 1) _ _ x k e h he

/-- A reader: what there is, where it stands, the first error and where. -/
structure RS where
  data : List Int
  at_ : Nat
  code : Nat
  place : Nat
def RS.rest (s : RS) : List Int := s.data.drop s.at_
def RS.bad (s : RS) (e : Nat) : RS := { s with code := e, place := s.at_ }
def RS.on (s : RS) (n : Nat) : RS := { s with at_ := s.at_ + n }
def RS.raw (s : RS) (n : Nat) : List Int × RS :=
  if s.code ≠ 0 then ([], s) else if s.data.length - s.at_ < n then ([], s.bad 10) else (s.rest.take n, s.on n)
def RS.fixed (s : RS) (w : Nat) : Int × RS := (foldB (s.raw w).1, (s.raw w).2)
def RS.num (s : RS) : Nat × RS :=
  if s.code ≠ 0 then (0, s) else if (numR s.rest 0 0 1).2.2 ≠ 0 then (0, s.bad (numR s.rest 0 0 1).2.2) else ((numR s.rest 0 0 1).1, s.on (numR s.rest 0 0 1).2.1)
def RS.text (s : RS) (most : Nat) : List Int × RS :=
  if s.code ≠ 0 then ([], s)
  else if (numR s.rest 0 0 1).2.2 ≠ 0 then ([], s.bad (numR s.rest 0 0 1).2.2)
  else if most < (numR s.rest 0 0 1).1 then ([], s.bad 2)
  else if s.data.length - s.at_ - (numR s.rest 0 0 1).2.1 < (numR s.rest 0 0 1).1 then ([], s.bad 10)
  else ((s.rest.drop (numR s.rest 0 0 1).2.1).take (numR s.rest 0 0 1).1, s.on ((numR s.rest 0 0 1).2.1 + (numR s.rest 0 0 1).1))
def RS.left (s : RS) : Nat := if s.code ≠ 0 then 0 else s.data.length - s.at_
def RS.start (d : List Int) : RS := ⟨d, 0, 0, 0⟩
/-- A reader that is at these bytes. -/
structure RS.At (s : RS) (l : List Int) : Prop where
  code : s.code = 0
  rest : s.rest = l
theorem RS.at_start (d : List Int) : (RS.start d).At d := ⟨rfl, rfl⟩
theorem RS.At.len {s : RS} {a b : List Int} (h : s.At (a ++ b)) : a.length + b.length ≤ s.data.length - s.at_ := by
  have := congrArg List.length h.rest
  rw [RS.rest, List.length_drop, List.length_append] at this
  omega
theorem RS.At.on {s : RS} {a b : List Int} (h : s.At (a ++ b)) : (s.on a.length).At b := ⟨h.code, by
  have := congrArg (List.drop a.length) h.rest
  rw [RS.rest, List.drop_drop, List.drop_append_of_le_length (Nat.le_refl _), List.drop_length, List.nil_append] at this
  exact this⟩
theorem RS.At.raw {s : RS} {a b : List Int} (h : s.At (a ++ b)) : s.raw a.length = (a, s.on a.length) := by
  have := h.len
  rw [RS.raw, if_neg (by simp [h.code]), if_neg (by omega), h.rest, List.take_append_of_le_length (Nat.le_refl _), List.take_length]
theorem RS.At.fixed {s : RS} {v k : Nat} {b : List Int} (h : s.At (fixW v k ++ b)) (hv : v < 256 ^ k) : s.fixed k = ((v : Int), s.on k) := by
  have h1 := h.raw
  rw [fixW_length] at h1
  rw [RS.fixed, h1, foldB_fix, Nat.mod_eq_of_lt hv]
theorem RS.At.num {s : RS} {v : Nat} {b : List Int} (h : s.At (numW v ++ b)) (hv : v ≤ 2147483647) : s.num = (v, s.on (numW v).length) := by
  have h1 := numR_write b v v (Nat.le_refl _) 0 0 1 (by have := numW_max hv; omega) (by omega) (by omega)
  rw [RS.num, if_neg (by simp [h.code]), h.rest, h1]
  simp
theorem RS.At.text {s : RS} {a b : List Int} {most : Nat} (h : s.At (txtW a ++ b)) (hv : a.length ≤ 2147483647) (hm : a.length ≤ most) : s.text most = (a, s.on (txtW a).length) := by
  have h1 := numR_write (a ++ b) a.length a.length (Nat.le_refl _) 0 0 1 (by have := numW_max hv; omega) (by omega) (by omega)
  have hr : s.rest = numW a.length ++ (a ++ b) := by rw [h.rest, txtW, List.append_assoc]
  have hl := h.len
  rw [txtW, List.length_append] at hl
  simp only [Nat.zero_add, Nat.mul_one] at h1
  rw [RS.text, if_neg (by simp [h.code]), hr, h1]
  simp only []
  rw [if_neg (by simp), if_neg (by omega), if_neg (by omega), List.drop_append_of_le_length (Nat.le_refl _), List.drop_length, List.nil_append, List.take_append_of_le_length (Nat.le_refl _), List.take_length, txtW, List.length_append]

/-! ### Tables -/
def resW (r : Res) : List Int := r.act ++ (r.root ++ [r.code])
theorem resW_length {r : Res} (h : ResOk r) : (resW r).length = 65 := by simp [resW, h.act.len, h.root.len]
def tabW (rs : List Res) : List Int := numW rs.length ++ rs.flatMap resW
theorem flatRes_length {rs : List Res} (h : ∀ r ∈ rs, ResOk r) : (rs.flatMap resW).length = 65 * rs.length := by
  induction rs with
  | nil => rfl
  | cons r t ih =>
    rw [List.flatMap_cons, List.length_append, resW_length (h r (by simp)), ih (fun q hq => h q (by simp [hq])), List.length_cons]
    omega
end Go.Proofs.YtdekmeanlcpenaaGreatDoor.Codec

namespace Go.Proofs.YtdekmeanlcpenaaGreatDoor.Codec
open Go.Proofs.YtdekmeanlcpenaaGreatDoor.Mid Go.Proofs.YtdekmeanlcpenaaGreatDoor.Block

theorem tab_len {rs : List Res} (T : Table rs) (h : ∀ r ∈ rs, ResOk r) : (tabW rs).length = 1 + 65 * rs.length := by
  rw [tabW, List.length_append, flatRes_length h, numW_small (by have := T.most; omega)]
  rfl
theorem tab_le {rs : List Res} (T : Table rs) (h : ∀ r ∈ rs, ResOk r) : (tabW rs).length ≤ 2081 := by rw [tab_len T h]; have := T.most; omega
theorem resW_inj {r s : Res} (hr : ResOk r) (hs : ResOk s) {a b : List Int} (h : resW r ++ a = resW s ++ b) : r = s ∧ a = b := by
  have h1 := List.append_inj h (by rw [resW_length hr, resW_length hs])
  refine ⟨?_, h1.2⟩
  have h2 := List.append_inj h1.1 (by rw [hr.act.len, hs.act.len])
  have h3 := List.append_inj h2.2 (by rw [hr.root.len, hs.root.len])
  cases r; cases s
  simp_all
theorem flatRes_inj : ∀ {rs ss : List Res}, rs.length = ss.length → (∀ r ∈ rs, ResOk r) → (∀ r ∈ ss, ResOk r) → rs.flatMap resW = ss.flatMap resW → rs = ss
  | [], [], _, _, _, _ => rfl
  | r :: rs, s :: ss, hl, h1, h2, h => by
    rw [List.flatMap_cons, List.flatMap_cons] at h
    obtain ⟨e1, e2⟩ := resW_inj (h1 r (by simp)) (h2 s (by simp)) h
    rw [e1, flatRes_inj (by simpa using hl) (fun q hq => h1 q (by simp [hq])) (fun q hq => h2 q (by simp [hq])) e2]
theorem tab_inj {rs ss : List Res} (T : Table rs) (U : Table ss) (h1 : ∀ r ∈ rs, ResOk r) (h2 : ∀ r ∈ ss, ResOk r) (h : tabW rs = tabW ss) : rs = ss := by
  have hl : rs.length = ss.length := by
    have := congrArg List.length h
    rw [tab_len T h1, tab_len U h2] at this
    omega
  refine flatRes_inj hl h1 h2 ?_
  rw [tabW, tabW, hl] at h
  exact List.append_cancel_left h
theorem tab_byt {rs : List Res} (T : Table rs) (h : ∀ r ∈ rs, ResOk r) : Byt (tabW rs) := by
  refine byt_append (numW_byt _ _ (Nat.le_refl _)) (fun x hx => ?_)
  obtain ⟨r, hr, hx⟩ := List.mem_flatMap.1 hx
  rw [resW] at hx
  rcases List.mem_append.1 hx with hx | hx
  · exact (h r hr).act.bytes x hx
  · rcases List.mem_append.1 hx with hx | hx
    · exact (h r hr).root.bytes x hx
    · rw [List.mem_singleton.1 hx]
      exact T.code r hr

/-! ### Journals -/
def sBytes (s : ByteArray) : List Int := s.data.toList.map fun c => (c.toNat : Int)
theorem sBytes_length (s : ByteArray) : (sBytes s).length = s.size := by simp [sBytes]
theorem sBytes_byt (s : ByteArray) : Byt (sBytes s) := fun x hx => by
  obtain ⟨c, _, rfl⟩ := List.mem_map.1 hx
  have := c.toNat_lt
  omega
theorem sBytes_inj {s t : ByteArray} (h : sBytes s = sBytes t) : s = t := by
  have h1 : s.data.toList = t.data.toList := (List.map_inj_right (f := fun c : UInt8 => (c.toNat : Int)) (by intro a b e; exact UInt8.toNat_inj.1 (Int.ofNat.inj e))).1 h
  cases s; cases t
  simp at h1
  rw [h1]
/-- A letter of a name. -/
def okC (c : UInt8) : Bool := (97 ≤ c && c ≤ 122) || (48 ≤ c && c ≤ 57) || c == 46 || c == 45 || c == 95 || c == 43
structure NameOk (s : ByteArray) : Prop where
  pos : 0 < s.size
  most : s.size ≤ 112
  all : ∀ (i : Nat) c, s.data.toList[i]? = some c → okC c = true
def Rises (ids : List (List Int)) : Prop := ∀ (i : Nat) x y, ids[i]? = some x → ids[i + 1]? = some y → cmp x y < 0
structure Jn where
  name : ByteArray
  ent : Int
  idx : Int
  res : List Res
  need : List (List Int)
  tab : List Res
/-- What a journal in memory has. -/
structure JnOk (j : Jn) : Prop where
  res : ∀ r ∈ j.res, ResOk r
  need : ∀ x ∈ j.need, IdOk x
  tab : ∀ r ∈ j.tab, ResOk r
/-- It may be. -/
structure JnV (j : Jn) : Prop where
  name : NameOk j.name
  ent : 0 ≤ j.ent ∧ j.ent ≤ 4294967295
  idx : 0 ≤ j.idx ∧ j.idx ≤ 4294967295
  res : Table j.res
  tab : Table j.tab
  most : j.need.length ≤ 64
  rise : Rises j.need
def bodyW (j : Jn) : List Int := fixW 74 1 ++ (txtW (sBytes j.name) ++ (fixW j.ent.toNat 4 ++ (fixW j.idx.toNat 4 ++ (txtW (tabW j.res) ++ (numW j.need.length ++ (j.need.flatten ++ txtW (tabW j.tab)))))))
def encW (j : Jn) : List Int := bodyW j ++ fixW (sumS (bodyW j)) 4
theorem ids_length : ∀ {ids : List (List Int)}, (∀ x ∈ ids, IdOk x) → ids.flatten.length = 32 * ids.length
  | [], _ => rfl
  | x :: t, h => by
    rw [List.flatten_cons, List.length_append, (h x (by simp)).len, ids_length (fun y hy => h y (by simp [hy])), List.length_cons]
    omega
theorem ids_byt {ids : List (List Int)} (h : ∀ x ∈ ids, IdOk x) : Byt ids.flatten := fun x hx => by
  obtain ⟨l, hl, hx⟩ := List.mem_flatten.1 hx
  exact (h l hl).bytes x hx
theorem txt_byt {l : List Int} (h : Byt l) : Byt (txtW l) := byt_append (numW_byt _ _ (Nat.le_refl _)) h
theorem body_byt {j : Jn} (V : JnV j) (K : JnOk j) : Byt (bodyW j) :=
  byt_append (fixW_byt _ _) (byt_append (txt_byt (sBytes_byt _)) (byt_append (fixW_byt _ _) (byt_append (fixW_byt _ _) (byt_append (txt_byt (tab_byt V.res K.res)) (byt_append (numW_byt _ _ (Nat.le_refl _)) (byt_append (ids_byt K.need) (txt_byt (tab_byt V.tab K.tab))))))))
theorem enc_byt {j : Jn} (V : JnV j) (K : JnOk j) : Byt (encW j) := byt_append (body_byt V K) (fixW_byt _ _)
theorem txt_le {l : List Int} {m : Nat} (h : l.length ≤ m) (hm : m ≤ 2147483647) : (txtW l).length ≤ m + 5 := by
  rw [txtW, List.length_append]
  have := numW_max (v := l.length) (by omega)
  omega
theorem body_le {j : Jn} (V : JnV j) (K : JnOk j) : (bodyW j).length ≤ 8000 := by
  have h1 := txt_le (l := sBytes j.name) (m := 112) (by rw [sBytes_length]; exact V.name.most) (by omega)
  have h2 := txt_le (tab_le V.res K.res) (by omega)
  have h3 := txt_le (tab_le V.tab K.tab) (by omega)
  have h4 := numW_max (v := j.need.length) (by have := V.most; omega)
  have h5 := ids_length K.need
  have h6 := V.most
  simp only [bodyW, List.length_append, fixW_length]
  omega
theorem enc_le {j : Jn} (V : JnV j) (K : JnOk j) : (encW j).length ≤ 8004 := by
  rw [encW, List.length_append, fixW_length]; have := body_le V K; omega
theorem sumS_lt (l : List Int) : sumS l < 4294967296 := by unfold sumS; omega

/-! ### Reading it again -/
def pad32 (l : List Int) : List Int := l ++ List.replicate (32 - l.length) 0
theorem pad32_id {x : List Int} (h : x.length = 32) : pad32 x = x := by rw [pad32, h]; simp
theorem pad32_ok {l : List Int} (hl : l.length ≤ 32) (h : Byt l) : IdOk (pad32 l) := ⟨by rw [pad32, List.length_append, List.length_replicate]; omega, byt_append h (fun x hx => by rw [List.eq_of_mem_replicate hx]; omega)⟩
def needS : Nat → RS → List (List Int) × RS
  | 0, s => ([], s)
  | k + 1, s => (pad32 (s.raw 32).1 :: (needS k (s.raw 32).2).1, (needS k (s.raw 32).2).2)
theorem needS_snoc : ∀ (k : Nat) (s : RS), needS (k + 1) s = ((needS k s).1 ++ [pad32 ((needS k s).2.raw 32).1], ((needS k s).2.raw 32).2)
  | 0, s => rfl
  | k + 1, s => by
    have ih := needS_snoc k (s.raw 32).2
    rw [needS, ih]
    rfl
theorem needS_at : ∀ {ids : List (List Int)} {s : RS} {b : List Int}, (∀ x ∈ ids, IdOk x) → s.At (ids.flatten ++ b) → (needS ids.length s).1 = ids ∧ (needS ids.length s).2.At b
  | [], s, b, _, h => ⟨rfl, h⟩
  | x :: t, s, b, hk, h => by
    rw [List.flatten_cons, List.append_assoc] at h
    have hx := hk x (by simp)
    have h1 := h.raw
    rw [hx.len] at h1
    have h2 := h.on
    rw [hx.len] at h2
    have ih := needS_at (fun y hy => hk y (by simp [hy])) h2
    rw [List.length_cons, needS, h1]
    exact ⟨by rw [ih.1, pad32_id hx.len], ih.2⟩
/-- What a reader reads out of a journal's form. -/
structure GotEnc (j : Jn) (x1 : Int) (x2 : List Int) (x3 x4 : Int) (x5 : List Int) (n : Nat) (x7 : List (List Int)) (x8 : List Int) (s : RS) (t : List Int) : Prop where
  first : x1 = 74
  name : x2 = sBytes j.name
  ent : x3 = j.ent
  idx : x4 = j.idx
  res : x5 = tabW j.res
  many : n = j.need.length
  need : x7 = j.need
  tab : x8 = tabW j.tab
  stop : s.At (fixW (sumS (bodyW j)) 4 ++ t)
theorem got_enc {j : Jn} (V : JnV j) (K : JnOk j) {most : Nat} (hm : 112 ≤ most) {data t : List Int} (hd : encW j ++ t = data) {x1 x3 x4 : Int} {x2 x5 x8 : List Int} {n k : Nat} {x7 : List (List Int)} {s1 s2 s3 s4 s5 s6 s7 s8 : RS}
    (e1 : (RS.start data).fixed 1 = (x1, s1)) (e2 : s1.text most = (x2, s2)) (e3 : s2.fixed 4 = (x3, s3)) (e4 : s3.fixed 4 = (x4, s4)) (e5 : s4.text data.length = (x5, s5)) (e6 : s5.num = (n, s6)) (hk : n ≤ 64 → k = n) (e7 : needS k s6 = (x7, s7)) (e8 : s7.text data.length = (x8, s8)) :
    GotEnc j x1 x2 x3 x4 x5 n x7 x8 s8 t := by
  have hl : data.length = (encW j ++ t).length := by rw [hd]
  have hlen : (txtW (tabW j.res)).length ≤ data.length ∧ (txtW (tabW j.tab)).length ≤ data.length := by
    rw [hl]; simp only [encW, bodyW, List.length_append]; omega
  have ht1 : (tabW j.res).length ≤ (txtW (tabW j.res)).length := by rw [txtW, List.length_append]; omega
  have ht2 : (tabW j.tab).length ≤ (txtW (tabW j.tab)).length := by rw [txtW, List.length_append]; omega
  have a0 := RS.at_start data
  rw [← hd] at a0 e1
  have a0' : (RS.start (encW j ++ t)).At (fixW 74 1 ++ (txtW (sBytes j.name) ++ (fixW j.ent.toNat 4 ++ (fixW j.idx.toNat 4 ++ (txtW (tabW j.res) ++ (numW j.need.length ++ (j.need.flatten ++ (txtW (tabW j.tab) ++ (fixW (sumS (bodyW j)) 4 ++ t))))))))) := by
    have : encW j ++ t = fixW 74 1 ++ (txtW (sBytes j.name) ++ (fixW j.ent.toNat 4 ++ (fixW j.idx.toNat 4 ++ (txtW (tabW j.res) ++ (numW j.need.length ++ (j.need.flatten ++ (txtW (tabW j.tab) ++ (fixW (sumS (bodyW j)) 4 ++ t)))))))) := by
      simp only [encW, bodyW, List.append_assoc]
    rw [← this]; exact RS.at_start _
  have f1 := a0'.fixed (by decide : (74 : Nat) < 256 ^ 1)
  rw [e1] at f1
  injection f1 with g1 g1'
  have a1 := a0'.on
  rw [fixW_length, ← g1'] at a1
  have f2 := a1.text (most := most) (by rw [sBytes_length]; have := V.name.most; omega) (by rw [sBytes_length]; have := V.name.most; omega)
  rw [e2] at f2
  injection f2 with g2 g2'
  have a2 := a1.on
  rw [← g2'] at a2
  have f3 := a2.fixed (by have := V.ent; omega)
  rw [e3] at f3
  injection f3 with g3 g3'
  have a3 := a2.on
  rw [fixW_length, ← g3'] at a3
  have f4 := a3.fixed (by have := V.idx; omega)
  rw [e4] at f4
  injection f4 with g4 g4'
  have a4 := a3.on
  rw [fixW_length, ← g4'] at a4
  have f5 := a4.text (most := data.length) (by have := tab_le V.res K.res; omega) (by omega)
  rw [e5] at f5
  injection f5 with g5 g5'
  have a5 := a4.on
  rw [← g5'] at a5
  have f6 := a5.num (by have := V.most; omega)
  rw [e6] at f6
  injection f6 with g6 g6'
  have a6 := a5.on
  rw [← g6'] at a6
  have hkn := hk (by rw [g6]; exact V.most)
  have f7 := needS_at K.need a6
  rw [← g6, ← hkn, e7] at f7
  have f8 := f7.2.text (most := data.length) (by have := tab_le V.tab K.tab; omega) (by omega)
  rw [e8] at f8
  injection f8 with g8 g8'
  have a8 := f7.2.on
  simp only at g8'
  rw [← g8'] at a8
  exact ⟨g1, g2, by rw [g3]; have := V.ent; omega, by rw [g4]; have := V.idx; omega, g5, g6, f7.1, g8, a8⟩
theorem GotEnc.last {j : Jn} {x1 x3 x4 : Int} {x2 x5 x8 : List Int} {n : Nat} {x7 : List (List Int)} {s s9 : RS} {x9 : Int} (G : GotEnc j x1 x2 x3 x4 x5 n x7 x8 s []) (e9 : s.fixed 4 = (x9, s9)) : s9.code = 0 ∧ s9.left = 0 := by
  have h := G.stop
  have f := h.fixed (by have := sumS_lt (bodyW j); omega)
  rw [e9] at f
  injection f with _ f
  have a := h.on
  rw [fixW_length, ← f] at a
  refine ⟨a.code, ?_⟩
  have := congrArg List.length a.rest
  rw [RS.rest, List.length_drop] at this
  rw [RS.left, if_neg (by simp [a.code])]
  simpa using this
/-- A journal is told by the beginning of its form. -/
theorem enc_inj' {i j : Jn} (V : JnV i) (K : JnOk i) (V' : JnV j) (K' : JnOk j) {t : List Int} (h : encW i ++ t = encW j) : i = j := by
  obtain ⟨data, hd⟩ : ∃ data, encW j ++ [] = data := ⟨_, rfl⟩
  have h' : encW i ++ t = data := by rw [h, ← hd, List.append_nil]
  obtain ⟨⟨x1, s1⟩, e1⟩ : ∃ p, (RS.start data).fixed 1 = p := ⟨_, rfl⟩
  obtain ⟨⟨x2, s2⟩, e2⟩ : ∃ p, s1.text 112 = p := ⟨_, rfl⟩
  obtain ⟨⟨x3, s3⟩, e3⟩ : ∃ p, s2.fixed 4 = p := ⟨_, rfl⟩
  obtain ⟨⟨x4, s4⟩, e4⟩ : ∃ p, s3.fixed 4 = p := ⟨_, rfl⟩
  obtain ⟨⟨x5, s5⟩, e5⟩ : ∃ p, s4.text data.length = p := ⟨_, rfl⟩
  obtain ⟨⟨n, s6⟩, e6⟩ : ∃ p, s5.num = p := ⟨_, rfl⟩
  obtain ⟨⟨x7, s7⟩, e7⟩ : ∃ p, needS n s6 = p := ⟨_, rfl⟩
  obtain ⟨⟨x8, s8⟩, e8⟩ : ∃ p, s7.text data.length = p := ⟨_, rfl⟩
  have G := got_enc V K (Nat.le_refl _) h' e1 e2 e3 e4 e5 e6 (fun _ => rfl) e7 e8
  have H := got_enc V' K' (Nat.le_refl _) hd e1 e2 e3 e4 e5 e6 (fun _ => rfl) e7 e8
  have r1 := sBytes_inj (G.name.symm.trans H.name)
  have r2 := G.ent.symm.trans H.ent
  have r3 := G.idx.symm.trans H.idx
  have r4 := tab_inj V.res V'.res K.res K'.res (G.res.symm.trans H.res)
  have r5 := G.need.symm.trans H.need
  have r6 := tab_inj V.tab V'.tab K.tab K'.tab (G.tab.symm.trans H.tab)
  cases i; cases j
  simp only at r1 r2 r3 r4 r5 r6
  subst r1 r2 r3 r4 r5 r6
  rfl
theorem enc_inj {i j : Jn} (V : JnV i) (K : JnOk i) (V' : JnV j) (K' : JnOk j) (h : encW i = encW j) : i = j := enc_inj' V K V' K' (t := []) (by rw [List.append_nil, h])
/-- The form's beginning is no form. -/
theorem enc_cut {i j : Jn} (V : JnV i) (K : JnOk i) (V' : JnV j) (K' : JnOk j) {m : Nat} (hm : m < (encW j).length) (h : encW i = (encW j).take m) : False := by
  have h1 : encW i ++ (encW j).drop m = encW j := by rw [h, List.take_append_drop]
  have e := enc_inj' V K V' K' h1
  subst e
  have := congrArg List.length h
  rw [List.length_take] at this
  omega
end Go.Proofs.YtdekmeanlcpenaaGreatDoor.Codec

namespace Go.Proofs.YtdekmeanlcpenaaGreatDoor.Codec
open Go.RowKit Go.Proofs.YtdekmeanlcpenaaGreatDoorW.PrintWords Go.Proofs.YtdekmeanlcpenaaGreatDoor.Mid
set_option maxHeartbeats 1000000
set_option maxRecDepth 100000

theorem info5 : (Tryz.prog.info? 5).map (fun i => (i.zero, i.size, i.bytes)) = some (some (.int .u8 0), 1, 1) := by kernel_rfl
/-- A Writer that nothing has spoilt: v, what was written. All its memory is from b0 on. -/
structure Wr (b0 : Nat) (W : World) (g : Nat) (v : Value) (out : List Int) : Prop where
  lo : b0 ≤ g
  blk : W.heap[g]? = some (.cells #[.int .i64 0, .int .i64 0, v] 114 (0, 0))
  row : Kd.R (Kd.int .u8) 5 W b0 (fun _ => True) v out
/-- The blocks that a Writer writes. -/
def Ws (g : Nat) (v : Value) (k : Nat) : Prop := k = g ∨ some k = v.ownBlock
/-- What a write leaves. -/
structure Nx (b0 : Nat) (W : World) (g : Nat) (v : Value) (W1 : World) (v1 : Value) (out1 : List Int) : Prop where
  wr : Wr b0 W1 g v1 out1
  kept : Kept W W1 (Ws g v)
  hat : v1.ownBlock = v.ownBlock ∨ ∃ b, v1.ownBlock = some b ∧ W.heap.size ≤ b
  bel : Below b0 W W1
section
variable {b0 g : Nat} {W W1 W2 : World} {v v1 v2 : Value} {out out1 out2 : List Int}
theorem Wr.below (h : Wr b0 W g v out) (hb : Below W.heap.size W W1) : Wr b0 W1 g v out := ⟨h.lo, blk_below h.blk hb, Kd.R_below h.row hb⟩
theorem Wr.lt (h : Wr b0 W g v out) : g < W.heap.size := blk_lt h.blk
theorem Wr.size (h : Wr b0 W g v out) : b0 ≤ W.heap.size := Nat.le_trans h.lo (Nat.le_of_lt h.lt)
theorem Wr.start (w : World) : Wr w.heap.size (w.alloc (.cells #[.int .i64 0, .int .i64 0, .slice none 0 0] 114)) w.heap.size (.slice none 0 0) [] :=
  ⟨Nat.le_refl _, heap_alloc_new w _, Kd.R_nil _ _ _ _ _⟩
theorem Wr.ws_lt (h : Wr b0 W g v out) {k : Nat} (hk : Ws g v k) : b0 ≤ k ∧ k < W.heap.size := by
  rcases hk with rfl | hk
  · exact ⟨h.lo, h.lt⟩
  · exact ⟨Kd.R_base h.row k hk.symm, Kd.R_lt h.row k hk.symm⟩
/-- The blocks that it writes next are those, or new. -/
theorem Nx.ws (h : Nx b0 W g v W1 v1 out1) {k : Nat} (hk : Ws g v1 k) : Ws g v k ∨ W.heap.size ≤ k := by
  rcases hk with rfl | hk
  · exact .inl (.inl rfl)
  · rcases h.hat with e | ⟨b, e, hb⟩
    · exact .inl (.inr (by rw [hk, e]))
    · rw [e] at hk
      injection hk with hk
      exact .inr (by omega)
theorem Nx.trans (h : Nx b0 W g v W1 v1 out1) (h2 : Nx b0 W1 g v1 W2 v2 out2) : Nx b0 W g v W2 v2 out2 :=
  ⟨h2.wr, h.kept.then_ h2.kept (fun _ hk => h.ws hk), by
    rcases h2.hat with e | ⟨b, e, hb⟩
    · rw [e]; exact h.hat
    · exact .inr ⟨b, e, Nat.le_trans h.kept.1 hb⟩, h.bel.trans h2.bel⟩
/-- Ahead of it new memory alone was made. -/
theorem Nx.from_below (hW : Wr b0 W g v out) (hb : Below W.heap.size W W1) (h2 : Nx b0 W1 g v W2 v2 out2) : Nx b0 W g v W2 v2 out2 :=
  ⟨h2.wr, (Kept.of_below hb _).then_ h2.kept (fun _ hk => .inl hk), by
    rcases h2.hat with e | ⟨b, e, hb'⟩
    · exact .inl e
    · exact .inr ⟨b, e, Nat.le_trans hb.size hb'⟩, (hb.mono hW.size).trans h2.bel⟩
theorem Nx.then_below (h : Nx b0 W g v W1 v1 out1) (hb : Below W1.heap.size W1 W2) : Nx b0 W g v W2 v1 out1 :=
  ⟨h.wr.below hb, h.kept.below hb, h.hat, h.bel.trans (hb.mono h.wr.size)⟩
/-- A row of bytes that the Writer does not write reads as before. -/
theorem C_away {A : Option Addr} {n : Nat} {xs : List Int} (h : Kd.C (Kd.int .u8) W A n xs) (hk : Kept W W1 (Ws g v)) (hf : ∀ ad, A = some ad → 0 < n → ¬ Ws g v ad.block) : Kd.C (Kd.int .u8) W1 A n xs :=
  Kd.C_foot_neS (fun h => h) h hf _ hk
end
/-- A Writer's next state, whatever its value. -/
def NxE (b0 : Nat) (W : World) (g : Nat) (v : Value) (out1 : List Int) (W1 : World) : Prop := ∃ A k, Nx b0 W g v W1 (.slice A out1.length k) out1
theorem spoilt_no (g : Nat) (c1 c2 : Value) (w : World) (h : w.heap[g]? = some (.cells #[.int .i64 0, c1, c2] 114 (0, 0))) : Calls Tryz.prog 100 #[.pointer (some ⟨g, 0, none⟩)] w fun e w' => e = .returned (.bool false) ∧ w = w' := by
  have hc : w.cell? ⟨g, 0, none⟩ = some (.int .i64 0) := (blk_cell h _).trans rfl
  go_enter Tryz.func100, Tryz.ntmps100
  go_wp2
  go_ret
  exact ⟨rfl, rfl⟩
theorem put_any (b0 g : Nat) (v : Value) (out xs : List Int) (A : Option Addr) (m c : Nat) (w : World) (hW : Wr b0 w g v out) (hx : Kd.C (Kd.int .u8) w A m xs) (hl : out.length + m ≤ 1000000000) :
    Calls Tryz.prog 99 #[.pointer (some ⟨g, 0, none⟩), .bool true, .slice A m c] w fun e w' => e = .returned (.tuple #[]) ∧ NxE b0 w g v (out ++ xs) w' := by
  obtain ⟨Ao, ko, hv⟩ := Kd.R_slice hW.row
  subst hv
  have h0 : w.cell? ⟨g, 0, none⟩ = some (.int .i64 0) := (blk_cell hW.blk _).trans rfl
  have h2 : w.cell? ⟨g, 2, none⟩ = some (.slice Ao out.length ko) := (blk_cell hW.blk _).trans rfl
  have hne : Aside0 (some g ≠ (Value.slice Ao out.length ko).ownBlock) := ⟨Kd.R_ne hW.row hW.blk (by decide)⟩
  have HW := Aside0.mk hW
  have HX := Aside0.mk hx
  clear hW hx
  go_enter Tryz.func99, Tryz.ntmps99
  go_wp2_with (first
    | (go_at_call 100; refine (spoilt_no g _ _ _ HW.out.blk).mono ?_; rintro e w1 ⟨rfl, rfl⟩)
    | (at_builtin; refine Kd.R_append_rows (Kd.int .u8) (w0 := w) b0 rfl (.tmp 26) (.tmp 27) 47 5 (.int .u8 0) 1 rfl Tryz.underlying47 info5 rfl (by decide) (by omega) (.slice Ao out.length ko) out xs A m c (fun _ => True) (fun _ => False) rfl rfl HW.out.row HX.out (fun _ _ h => h) (fun _ hk => hk.elim) (fun _ _ => trivial) (Below.refl _ _) HW.out.size (by omega) ?_
       intro v8 w8 ho8 hb8 hg8 hat8
       obtain ⟨A8, k8, e8⟩ := Kd.R_slice ho8
       rw [List.length_append] at e8
       subst e8
       have hb9 := blk_grown HW.out.blk hg8 hne.out
       have q2 : w8.cell? ⟨g, 2, none⟩ = some (.slice Ao out.length ko) := (blk_cell hb9 _).trans rfl
       have qf : w8.frozen? ⟨g, 2, none⟩ = false := blk_frozen hb9 _
       have HB9 := Aside0.mk hb9
       have H8 := Aside0.mk (⟨ho8, hb8, hg8, hat8⟩ : _ ∧ _ ∧ _ ∧ _)
       clear ho8 hb8 hg8 hat8 hb9))
  go_end0
  have hb10 := blk_set HB9.out 2 (.slice A8 (out.length + xs.length) k8)
  refine ⟨rfl, A8, k8, ?_⟩
  rw [List.length_append]
  refine ⟨⟨HW.out.lo, hb10, ?_⟩, ?_, H8.out.2.2.2, H8.out.2.1.setCell (p := ⟨g, 2, none⟩) HW.out.lo _⟩
  · exact Kd.R_mono (Kd.R_far (p := ⟨g, 2, none⟩) (Kd.R_mono (Kd.R_types H8.out.1 HB9.out (by decide)) (fun _ h => h)) (fun _ hk => hk.2) _) (fun _ _ => trivial)
  · exact (Kept.of_grown H8.out.2.2.1 (Kept.refl w _) (fun k hk => .inl (.inr hk.symm))).setCell (p := ⟨g, 2, none⟩) (.inl (.inl rfl)) _
theorem raw_any (b0 g : Nat) (v : Value) (out xs : List Int) (A : Option Addr) (m c : Nat) (w : World) (hW : Wr b0 w g v out) (hx : Kd.C (Kd.int .u8) w A m xs) (hl : out.length + m ≤ 1000000000) :
    Calls Tryz.prog 50 #[.pointer (some ⟨g, 0, none⟩), .slice A m c] w fun e w' => e = .returned (.tuple #[]) ∧ NxE b0 w g v (out ++ xs) w' := by
  have HW := Aside0.mk hW
  have HX := Aside0.mk hx
  clear hW hx
  go_enter Tryz.func50, Tryz.ntmps50
  go_wp2_with (go_at_call 99; refine (put_any b0 g v out xs A m c _ HW.out HX.out hl).mono ?_; rintro e w1 ⟨rfl, h1⟩; have H1 := Aside0.mk h1; clear h1)
  go_end0
  exact ⟨rfl, H1.out⟩
theorem data_any (b0 g : Nat) (v : Value) (out : List Int) (w : World) (hW : Wr b0 w g v out) (hl : out.length ≤ 1000000000) :
    Calls Tryz.prog 53 #[.pointer (some ⟨g, 0, none⟩)] w fun e w' => ∃ A k, e = .returned (.tuple #[.slice A out.length k, .int .i64 0]) ∧ Kd.R (Kd.int .u8) 5 w' w.heap.size (fun _ => True) (.slice A out.length k) out ∧ Below w.heap.size w w' := by
  obtain ⟨Ao, ko, hv⟩ := Kd.R_slice hW.row
  subst hv
  have h0 : w.cell? ⟨g, 0, none⟩ = some (.int .i64 0) := (blk_cell hW.blk _).trans rfl
  have h2 : w.cell? ⟨g, 2, none⟩ = some (.slice Ao out.length ko) := (blk_cell hW.blk _).trans rfl
  have HW := Aside0.mk hW
  clear hW
  go_enter Tryz.func53, Tryz.ntmps53
  go_wp2_with (first
    | (go_at_call 100; refine (spoilt_no g _ _ _ HW.out.blk).mono ?_; rintro e w1 ⟨rfl, rfl⟩)
    | (at_builtin; refine Kd.R_append_rows (Kd.int .u8) (w0 := w) w.heap.size rfl (.const (.slice none 0 0)) (.tmp 15) 47 5 (.int .u8 0) 1 rfl Tryz.underlying47 info5 rfl (by decide) (by omega) (.slice none 0 0) [] out Ao out.length ko (fun _ => True) (fun _ => False) rfl rfl (Kd.R_nil _ _ _ _ _) (Kd.R_reads' HW.out.row).2.2 (fun _ _ h => h) (fun _ hk => hk.elim) (fun _ _ => trivial) (Below.refl _ _) (Nat.le_refl _) (by simp; omega) ?_
       intro v8 w8 ho8 hb8 hg8 hat8
       rw [List.nil_append] at ho8
       obtain ⟨A8, k8, e8⟩ := Kd.R_slice ho8
       subst e8
       have H8 := Aside0.mk (⟨ho8, hb8⟩ : _ ∧ _)
       clear ho8 hb8 hg8 hat8))
  go_ret2
  exact ⟨A8, k8, rfl, H8.out⟩
end Go.Proofs.YtdekmeanlcpenaaGreatDoor.Codec
