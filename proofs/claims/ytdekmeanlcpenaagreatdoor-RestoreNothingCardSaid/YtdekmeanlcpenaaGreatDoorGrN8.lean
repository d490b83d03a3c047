import Derived.Test.YtdekmeanlcpenaaGreatDoorGrN5
import Derived.Test.YtdekmeanlcpenaaGreatDoorGrN6
import Derived.Test.YtdekmeanlcpenaaGreatDoorGrN7
import Derived.OrdersHeld
namespace Go.Proofs.YtdekmeanlcpenaaGreatDoor.Law
open Go.RowKit Go.Proofs.YtdekmeanlcpenaaGreatDoorW.PrintWords Go.Proofs.YtdekmeanlcpenaaGreatDoor.Mid Go.Proofs.YtdekmeanlcpenaaGreatDoor.Pick Go.Proofs.YtdekmeanlcpenaaGreatDoor.Err
attribute [local go_sem ↓ high] load33_eq load29_eq build69_eq build33_eq build29_eq
attribute [local simp] rowOf_drew rowOf_drewN
attribute [local go_sem high] load33_row load29_row rowOf_drew rowOf_drewN bld29_none
set_option maxHeartbeats 2000000
set_option maxRecDepth 100000

theorem own_blk {W : World} {g e sz n base : Nat} {cs : List Value} (h : W.heap[g]? = some (.cells cs.toArray e (0, 0))) (hl : cs.length = n * sz) (hb : base ≤ g) (hn : n ≤ 1000000) : W.ownsRow base e sz (.slice (some ⟨g, 0, none⟩) n n) n cs :=
  ⟨hl, .inr ⟨g, n, cs.toArray, rfl, hb, h, Nat.le_refl _, by unfold maxLen; omega, by simp [hl], by rw [← hl]; simp⟩⟩
theorem rowR_length {rs : List Res} (h : ∀ r ∈ rs, ResOk r) : (rowR rs).length = rs.length * 65 := (flat_reps (f := resC) (R := fun r cs => ResOk r ∧ cs = resC r) (fun x cs h => by rw [h.2, resC_length h.1]) (fun x hx => ⟨h x hx, rfl⟩)).1
theorem rowI_length {xs : List (List Int)} (h : ∀ x ∈ xs, IdOk x) : (rowI xs).length = xs.length * 32 := (flat_reps (f := u8s) (R := fun x cs => IdOk x ∧ cs = u8s x) (fun x cs h => by rw [h.2, u8s_length, h.1.len]) (fun x hx => ⟨h x hx, rfl⟩)).1
theorem C_of_own33 {W : World} {base n c : Nat} {A : Option Addr} {rs : List Res} (h : W.ownsRow base 33 65 (.slice A n c) rs.length (rowR rs)) (ok : ∀ r ∈ rs, ResOk r) : n = rs.length ∧ rs.length ≤ c ∧ resK.C W A rs.length rs := by
  obtain ⟨A', c', e, h1, h2⟩ := Kd.R_reads (resR_of h ok)
  injection e with e1 e2 e3
  subst e1 e2 e3
  exact ⟨rfl, h1, h2⟩
theorem C_of_own29 {W : World} {base n c : Nat} {A : Option Addr} {xs : List (List Int)} (h : W.ownsRow base 29 32 (.slice A n c) xs.length (rowI xs)) (ok : ∀ x ∈ xs, IdOk x) : n = xs.length ∧ xs.length ≤ c ∧ idK.C W A xs.length xs := by
  obtain ⟨A', c', e, h1, h2⟩ := Kd.R_reads (idR_of h ok)
  injection e with e1 e2 e3
  subst e1 e2 e3
  exact ⟨rfl, h1, h2⟩
section
variable {ops : Array Oper} {rest : List Oper} {o : Oper} {a : Act} {w : World} {Q : Exit → Act → World → Prop}
theorem wpList_rows33 (rs : List Res) (hg : o.guard = none) (n : Nat) (parts : Array (Nat × Operand)) (ho : o.op = .buildSlice 22 n parts) (ok : ∀ r ∈ rs, ResOk r)
    (hp : (parts.toList.map fun p => (p.1, a.eval p.2)) = ((rs.map resC).zipIdx 0).map fun x => (x.2, .agg x.1.toArray)) (hn : rs.length = n) (h0 : 0 < n) (hs : n ≤ 1000)
    (h : ∀ A w1, w1.ownsRow w.heap.size 33 65 (.slice A n n) n (rowR rs) → Below w.heap.size w w1 → wpList Tryz.prog ops Q rest (a.put o.dst (.slice A n n)) w1) : wpList Tryz.prog ops Q (o :: rest) a w := by
  refine wpList_buildRows hg n parts ho (rs.map resC) Tryz.underlying22 ⟨z33v, 72, info33full', rfl⟩ (by rw [Array.toList_map]; exact hp) (fun v hv => ?_) (by rw [List.length_map]; exact hn) (by omega) (by omega) ?_
  · obtain ⟨r, hr, rfl⟩ := List.mem_map.1 hv
    exact resC_length (ok r hr)
  · exact h _ _ (own_blk (heap_alloc_new w _) (by rw [← hn]; exact rowR_length ok) (Nat.le_refl _) (by omega)) (below_alloc (Below.refl _ _) _)
theorem wpList_rows33W (rs : List Res) (hw : Region.wanted o (yielded ops a.tmps) = true) (n : Nat) (parts : Array (Nat × Operand)) (ho : o.op = .buildSlice 22 n parts) (ok : ∀ r ∈ rs, ResOk r)
    (hp : (parts.toList.map fun p => (p.1, a.eval p.2)) = ((rs.map resC).zipIdx 0).map fun x => (x.2, .agg x.1.toArray)) (hn : rs.length = n) (h0 : 0 < n) (hs : n ≤ 1000)
    (h : ∀ A w1, w1.ownsRow w.heap.size 33 65 (.slice A n n) n (rowR rs) → Below w.heap.size w w1 → wpList Tryz.prog ops Q rest (a.put o.dst (.slice A n n)) w1) : wpList Tryz.prog ops Q (o :: rest) a w := by
  refine wpList_step fun K hK => ?_
  rw [if_pos hw]
  refine wp_buildRows n parts ho (rs.map resC) Tryz.underlying22 ⟨z33v, 72, info33full', rfl⟩ (by rw [Array.toList_map]; exact hp) (fun v hv => ?_) (by rw [List.length_map]; exact hn) (by omega) (by omega) (hK _ _ ?_)
  · obtain ⟨r, hr, rfl⟩ := List.mem_map.1 hv
    exact resC_length (ok r hr)
  · exact h _ _ (own_blk (heap_alloc_new w _) (by rw [← hn]; exact rowR_length ok) (Nat.le_refl _) (by omega)) (below_alloc (Below.refl _ _) _)
theorem wpList_rows29 (xs : List (List Int)) (hg : o.guard = none) (n : Nat) (parts : Array (Nat × Operand)) (ho : o.op = .buildSlice 23 n parts) (ok : ∀ r ∈ xs, IdOk r)
    (hp : (parts.toList.map fun p => (p.1, a.eval p.2)) = ((xs.map u8s).zipIdx 0).map fun x => (x.2, .agg x.1.toArray)) (hn : xs.length = n) (h0 : 0 < n) (hs : n ≤ 1000)
    (h : ∀ A w1, w1.ownsRow w.heap.size 29 32 (.slice A n n) n (rowI xs) → Below w.heap.size w w1 → wpList Tryz.prog ops Q rest (a.put o.dst (.slice A n n)) w1) : wpList Tryz.prog ops Q (o :: rest) a w := by
  refine wpList_buildRows hg n parts ho (xs.map u8s) Tryz.underlying23 ⟨z29v, 32, info29full, rfl⟩ (by rw [Array.toList_map]; exact hp) (fun v hv => ?_) (by rw [List.length_map]; exact hn) (by omega) (by omega) ?_
  · obtain ⟨r, hr, rfl⟩ := List.mem_map.1 hv
    rw [u8s_length, (ok r hr).len]
  · exact h _ _ (own_blk (heap_alloc_new w _) (by rw [← hn]; exact rowI_length ok) (Nat.le_refl _) (by omega)) (below_alloc (Below.refl _ _) _)
end

/-- The result that has this action alone. -/
def actR (n : Int) : Res := ⟨b1 n, z32, 0⟩
theorem actR_ok {n : Int} (h : 0 ≤ n ∧ n ≤ 255) : ResOk (actR n) := ⟨b1_ok h, z32_ok, by show _ ≤ (0 : Int) ∧ (0 : Int) ≤ _; decide⟩
theorem bldAct (n : Int) (w : World) : (bld 33 #[(0, .agg (u8s (b1 n)).toArray)]).run Tryz.prog w = .ok (.agg (resC (actR n)).toArray) w := by kernel_rfl
def kRs : List Res := [actR 1, actR 3, actR 5]
def kGot : List Res := [actR 1, actR 5]
def kA : List (List Int) := [b1 5, b1 1, b1 5]
def kB : List (List Int) := [b1 4, b1 2, b1 1]
theorem kRs_ok : ∀ r ∈ kRs, ResOk r := by
  intro r hr
  simp only [kRs, List.mem_cons, List.not_mem_nil, or_false] at hr
  rcases hr with rfl | rfl | rfl <;> exact actR_ok (by decide)
theorem kGot_ok : ∀ r ∈ kGot, ResOk r := by
  intro r hr
  simp only [kGot, List.mem_cons, List.not_mem_nil, or_false] at hr
  rcases hr with rfl | rfl <;> exact actR_ok (by decide)
theorem kA_ok : ∀ r ∈ kA, IdOk r := by
  intro r hr
  simp only [kA, List.mem_cons, List.not_mem_nil, or_false] at hr
  rcases hr with rfl | rfl | rfl <;> exact b1_ok (by decide)
theorem kB_ok : ∀ r ∈ kB, IdOk r := by
  intro r hr
  simp only [kB, List.mem_cons, List.not_mem_nil, or_false] at hr
  rcases hr with rfl | rfl | rfl <;> exact b1_ok (by decide)
theorem kT : Table kRs := by
  refine ⟨by decide, ?_, ?_⟩
  · intro r hr
    simp only [kRs, List.mem_cons, List.not_mem_nil, or_false] at hr
    rcases hr with rfl | rfl | rfl <;> (show 0 ≤ (0 : Int) ∧ (0 : Int) ≤ 255; decide)
  · intro i r s hr hs
    match i, hr, hs with
    | 0, hr, hs => cases hr; cases hs; decide
    | 1, hr, hs => cases hr; cases hs; decide
    | i + 2, hr, hs =>
      have := (List.getElem?_eq_some_iff.1 hs).1
      simp [kRs] at this
      omega
theorem kA_picked {out : List Res} {n : Int} {id : List Int} (h : Picked kRs kA out n id) : out = kGot ∧ n = 0 := by
  obtain ⟨h1, h2, _⟩ := h.fine kT (by
    rintro a ⟨ha, hl⟩
    simp only [kA, List.mem_cons, List.not_mem_nil, or_false] at ha
    rcases ha with rfl | rfl | rfl
    · exact hl (actR 5) (by simp [kRs]) rfl
    · exact hl (actR 1) (by simp [kRs]) rfl
    · exact hl (actR 5) (by simp [kRs]) rfl)
  exact ⟨h1.trans (by decide), h2⟩
theorem kB_picked {out : List Res} {n : Int} {id : List Int} (h : Picked kRs kB out n id) : n = 96 ∧ id = b1 2 := by
  have hl2 : Lacks kRs kB (b1 2) := ⟨by simp [kB], by
    intro r hr
    simp only [kRs, List.mem_cons, List.not_mem_nil, or_false] at hr
    rcases hr with rfl | rfl | rfl <;> decide⟩
  obtain ⟨_, h2, h3⟩ := h.lacks kT ⟨_, hl2⟩
  refine ⟨h2, h3.same (fun a ha => (kB_ok a ha.1).len) ⟨hl2, ?_⟩⟩
  rintro b ⟨hb, hlb⟩
  simp only [kB, List.mem_cons, List.not_mem_nil, or_false] at hb
  rcases hb with rfl | rfl | rfl
  · decide
  · decide
  · exact absurd rfl (hlb (actR 1) (by simp [kRs]))

theorem bldB (n : Int) (w : World) : (bld 29 #[(0, .int .u8 n)]).run Tryz.prog w = .ok (.agg (u8s (b1 n)).toArray) w := by
  unfold b1
  exact bld29_one w n
attribute [local go_sem high] bldAct bldB
attribute [local irreducible] b1 actR
theorem known_true (w : World) (hH : Handle w) : Calls Tryz.prog 15 #[] w fun e w' => e = .returned (.bool true) ∧ Below w.heap.size w w' := by
  have HH := Aside0.mk hH
  clear hH
  go_enter Tryz.func15, Tryz.ntmps15
  go_upto_region 2 with (first
    | (refine wpList_rows33 kRs ?_ 3 #[(0, .tmp 8), (1, .tmp 10), (2, .tmp 12)] ?_ kRs_ok ?_ rfl (by decide) (by decide) ?_
       focus exact rfl
       focus with_reducible exact rfl
       focus exact rfl
       intro A1 w1 o1 b1; have O1 := Aside0.mk o1; have B1 := Aside0.mk b1; clear o1 b1)
    | go_in)
  go_upto_region 3 with (first
    | (refine wpList_rows29 kA ?_ 3 #[(0, .tmp 16), (1, .tmp 17), (2, .tmp 18)] ?_ kA_ok ?_ rfl (by decide) (by decide) ?_
       focus exact rfl
       focus with_reducible exact rfl
       focus exact rfl
       intro A2 w2 o2 b2; have O2 := Aside0.mk o2; have B2 := Aside0.mk b2; clear o2 b2)
    | (go_at_call 9
       refine (Pick_any A1 3 kRs A2 3 kA _ (Kd.C_below (C_of_own33 O1.out kRs_ok).2.2 B2.out) (C_of_own29 O2.out kA_ok).2.2 (by decide) kRs_ok kA_ok (by decide)).mono ?_
       rintro e w3 ⟨⟨v3, er3, out, n, id, rfl, hP, hR, hE, hI⟩, b3⟩
       obtain ⟨rfl, rfl⟩ := kA_picked hP
       have hE0 : er3 = .nilIface := (by cases hE with | none _ => rfl | some g h _ _ => exact absurd rfl h)
       subst hE0
       have R3 := Aside0.mk hR
       have B3 := Aside0.mk b3
       clear hP hR hE hI b3)
    | go_in)
  obtain ⟨A3, c3, e3⟩ := Kd.R_slice R3.out
  subst e3
  go_upto_region 4 with (first
    | (refine wpList_rows29 kB ?_ 3 #[(0, .tmp 25), (1, .tmp 26), (2, .tmp 27)] ?_ kB_ok ?_ rfl (by decide) (by decide) ?_
       focus exact rfl
       focus with_reducible exact rfl
       focus exact rfl
       intro A4 w4 o4 b4; have O4 := Aside0.mk o4; have B4 := Aside0.mk b4; clear o4 b4)
    | (go_at_call 9
       refine (Pick_any A1 3 kRs A4 3 kB _ (Kd.C_below (Kd.C_below (Kd.C_below (C_of_own33 O1.out kRs_ok).2.2 B2.out) B3.out) B4.out) (C_of_own29 O4.out kB_ok).2.2 (by decide) kRs_ok kB_ok (by decide)).mono ?_
       rintro e w5 ⟨⟨v5, er5, out5, n5, id5, rfl, hP, hR, hE, hI⟩, b5⟩
       obtain ⟨rfl, rfl⟩ := kB_picked hP
       obtain ⟨g5, rfl, hg5⟩ : ∃ g, er5 = .iface 79 (.pointer (some ⟨g, 0, none⟩)) ∧ w5.heap[g]? = some (.cells (faultC opPick .empty (b1 2) (errno 96)).toArray 82 (0, 0)) := (by cases hE with | none h => exact absurd h (by decide) | some g h1 h2 h3 => exact ⟨g, rfl, h3⟩)
       have G5 := Aside0.mk hg5
       have B5 := Aside0.mk b5
       clear hP hR hE hI b5 hg5)
    | go_in)
  go_upto_region 5 with (first
    | (go_at_call 17
       refine (restore_nil nameF _).mono ?_
       rintro e w6 ⟨⟨v6, rfl, g6, rfl, hl6, hg6⟩, b6⟩
       have G6 := Aside0.mk hg6
       have B6 := Aside0.mk b6
       clear hl6 hg6 b6)
    | go_in)
  have HB6 : Aside0 (Below w.heap.size w w6) := ⟨(below_step ((below_step ((below_step ((below_step ((below_step B1.out B2.out)) B3.out)) B4.out)) B5.out)) B6.out)⟩
  go_wp2_with (first
    | (refine wpList_rows33W kGot ?_ 2 #[(0, .tmp 38), (1, .tmp 40)] ?_ kGot_ok ?_ rfl (by decide) (by decide) ?_
       rotate_left 1
       focus with_reducible exact rfl
       focus exact rfl
       rotate_left 1
       focus (simp [Region.wanted, yielded])
       intro A7 w7 o7 b7; have O7 := Aside0.mk o7; have B7 := Aside0.mk b7; clear o7 b7)
    | (go_at_call 12
       refine (tables_true A3 c3 A7 2 kGot _ (Kd.C_below (Kd.C_below (Kd.C_below (Kd.C_below (C_of_own33 (resR_own R3.out).1 kGot_ok).2.2 B4.out) B5.out) B6.out) B7.out) (C_of_own33 O7.out kGot_ok).2.2 (by decide)).mono ?_
       rintro e w8 ⟨rfl, b8⟩
       have B8 := Aside0.mk b8
       clear b8)
    | (go_at_call 11
       first
         | (refine (told_some opRestore nameF z32 50 (by decide) z32_ok g6 w9 (handle_below HH.out (((below_step ((below_step ((below_step HB6.out B7.out)) B8.out)) B9.out)))) (blk_below (blk_below (blk_below G6.out B7.out) B8.out) B9.out)).mono ?_
            rintro e w10 ⟨rfl, b10⟩
            have B10 := Aside0.mk b10
            clear b10)
         | (refine (told_some opPick .empty (b1 2) 96 (by decide) (b1_ok (by decide)) g5 w8 (handle_below HH.out (((below_step ((below_step HB6.out B7.out)) B8.out)))) ((blk_below (blk_below (blk_below G5.out B6.out) B7.out) B8.out))).mono ?_
            rintro e w9 ⟨rfl, b9⟩
            have B9 := Aside0.mk b9
            clear b9))
    | go_in)
  go_ret
  exact ⟨rfl, (below_step ((below_step ((below_step ((below_step HB6.out B7.out)) B8.out)) B9.out)) B10.out)⟩
end Go.Proofs.YtdekmeanlcpenaaGreatDoor.Law

namespace Go.Proofs.YtdekmeanlcpenaaGreatDoor.Nothing
open Go.RowKit Go.Proofs.YtdekmeanlcpenaaGreatDoorW.PrintWords Go.Proofs.YtdekmeanlcpenaaGreatDoor.Mid Go.Proofs.YtdekmeanlcpenaaGreatDoor.Sep Go.Proofs.YtdekmeanlcpenaaGreatDoor.Law Go.Proofs.YtdekmeanlcpenaaGreatDoor.Err
/-- One alone may come up. -/
theorem heldOne {P : Program} {md : Region.Mode} {ops : Array Oper} {Q : Exit → Act → World → Prop} {S : World → Prop} {i : Nat} {o : Oper} {fuel : Nat} {listed : Array Bool} {a : Act} {w : World} (hr : Region.ready md ops listed = [i]) (hi : ops[i]? = some o) (hw : Region.wanted o (yielded ops a.tmps) = true)
    (h : o.wp P a w (fun a' w' => S w' ∧ wpAnyH P md ops Q S fuel (listed.setIfInBounds i true) a' w') Q) : wpAnyH P md ops Q S (fuel + 1) listed a w := by
  refine ⟨fun h0 => (by rw [hr] at h0; cases h0), fun j hj => ?_⟩
  rw [hr, List.mem_singleton] at hj
  subst hj
  unfold wpOp
  simp only [hi, hw, if_true]
  exact .inl h
theorem pol_cases (n : Int) : n < 1 ∨ 3 < n ∨ (1 ≤ n ∧ n ≤ 3) := by omega
/-- What both restores of a step answer: number n. -/
def Answers (x : StV) (n : Int) : Prop := ∀ (cp : Value) (w1 : World), NoDisk w1 cp → Calls Tryz.prog 17 #[cp, .string x.file, .slice x.acts.A x.acts.n x.acts.c, .int .i64 x.pol] w1 (NewFault w1 opRestore x.file z32 n)
attribute [local go_sem ↓ high] load33_eq load29_eq build69_eq build33_eq build29_eq load52_eq
attribute [local simp] rowOf_drew rowOf_drewN
attribute [local go_sem high] load33_row load29_row load52_row rowOf_drew rowOf_drewN bld29_none
set_option maxHeartbeats 3000000
set_option maxRecDepth 100000
theorem law_nothing (A : Option Addr) (c : Nat) (xs : List StV) (w : World) (hC : stK.C w A xs.length xs) (hc : xs.length ≤ c) (hH : Handle w) :
    Calls Tryz.prog 4 #[.slice A xs.length c] w fun e w' => e = .returned (.bool true) ∧ Below w.heap.size w w' := by
  have HC := Aside0.mk hC
  have Hc := Aside0.mk hc
  have HH := Aside0.mk hH
  clear hC hc hH
  have hb9 : ∀ u, (Instr.build 57 #[]).run Tryz.prog u = .ok (.agg #[.pointer none, .string .empty, .int .i64 0]) u := fun u => by kernel_rfl
  go_enter Tryz.func4, Tryz.ntmps4
  go_wp2_with (go_at_call 16; refine (much_any A c xs _ HC.out Hc.out).mono ?_; rintro e w1 ⟨⟨b, rfl, hl⟩, hb1⟩; have HB1 := Aside0.mk hb1; have HL0 := Aside0.mk hl; clear hb1 hl; cases b)
  · have HL : Aside0 (xs.length ≤ 60) := ⟨by have h := HL0.out; simpa using h⟩
    go_loopg [3] xs.length (fun k v3 w' => ∃ i : Nat, v3 = .int .i64 i ∧ i + k = xs.length ∧ Aside0 (Below w.heap.size w w'))
    case atStart => exact ⟨0, rfl, by omega, HB1⟩
    case round =>
      obtain ⟨i, rfl, hik, HB⟩ := hrel
      cases gk with
      | zero =>
        have hd : decide (i < xs.length) = false := by simp; omega
        clear hik
        go_wp2_with (go_at_call 15; refine (known_true _ (handle_below HH.out HB.out)).mono ?_; rintro e w2 ⟨rfl, hb2⟩; have HB2 := Aside0.mk (below_of HB.out hb2 (Nat.le_refl _)); clear hb2)
        go_ret
        exact ⟨rfl, HB2.out⟩
      | succ k =>
        have hi : i < xs.length := by omega
        have hi1 : (i : Int) < (xs.length : Int) := by omega
        have hi2 : (i : Int) < 60 := by have := HL.out; omega
        obtain ⟨ad, x, rfl, hx, hat⟩ := st_at (Kd.C_below HC.out HB.out) i hi
        have hld : rowOf wr (ad.add (i * 9)) 9 = some (stC x) := hat.row rfl
        obtain ⟨W, hW⟩ : ∃ W, W = wr.alloc (.cells (stC x).toArray 52) := ⟨_, rfl⟩
        have hbk : W.heap[wr.heap.size]? = some (.cells (stC x).toArray 52 (0, 0)) := hW ▸ heap_alloc_new wr _
        have hBW : Below wr.heap.size wr W := hW ▸ below_alloc (Below.refl _ _) _
        have HW := Aside0.mk hW
        have HBW := Aside0.mk (below_of HB.out hBW (Nat.le_refl _))
        have c1 : W.cell? ⟨wr.heap.size, 1, none⟩ = some (.string x.file) := (blk_cell hbk _).trans rfl
        have c2 : W.cell? ⟨wr.heap.size, 2, none⟩ = some (.slice x.acts.A x.acts.n x.acts.c) := (blk_cell hbk _).trans rfl
        have c3 : W.cell? ⟨wr.heap.size, 3, none⟩ = some (.int .i64 x.pol) := (blk_cell hbk _).trans rfl
        have HC1 : Aside0 (∀ u, Since W u → u.cell? ⟨wr.heap.size, 1, none⟩ = some (.string x.file)) := ⟨fun u hu => by rw [hu.cell (p := ⟨wr.heap.size, 1, none⟩) (Err.lt_of_cell c1)]; exact c1⟩
        have HC2 : Aside0 (∀ u, Since W u → u.cell? ⟨wr.heap.size, 2, none⟩ = some (.slice x.acts.A x.acts.n x.acts.c)) := ⟨fun u hu => by rw [hu.cell (p := ⟨wr.heap.size, 2, none⟩) (Err.lt_of_cell c2)]; exact c2⟩
        have HC3 : Aside0 (∀ u, Since W u → u.cell? ⟨wr.heap.size, 3, none⟩ = some (.int .i64 x.pol)) := ⟨fun u hu => by rw [hu.cell (p := ⟨wr.heap.size, 3, none⟩) (Err.lt_of_cell c3)]; exact c3⟩
        have HSX : Aside0 (Since W W.drew) := ⟨since_drew W⟩
        have Hik := Aside0.mk hik
        clear hW hbk hBW hat hx c1 c2 hik
        obtain ⟨bb, hbb⟩ : ∃ bb : Bool, bb = (decide (x.pol < 1) || decide (3 < x.pol)) := ⟨_, rfl⟩
        have HBB := Aside0.mk hbb
        obtain ⟨n, hn0, HA⟩ : ∃ n : Int, Aside0 (n = if bb then 1 else 50) ∧ Aside0 (Answers x n) := by
          by_cases hp : x.pol < 1 ∨ 3 < x.pol
          · have e : bb = true := by rw [hbb]; simpa using hp
            exact ⟨1, ⟨by rw [e]; rfl⟩, ⟨fun cp w1 _ => restore_arg cp x.file _ _ _ x.pol w1 (by omega)⟩⟩
          · have e : bb = false := by rw [hbb]; simp; omega
            exact ⟨50, ⟨by rw [e]; rfl⟩, ⟨fun cp w1 hN => restore_off cp x.file _ _ _ x.pol w1 hN (by omega)⟩⟩
        have HN0 : Aside0 (n ≠ 0) := ⟨by rw [hn0.out]; cases bb <;> decide⟩
        clear hbb
        go_upto_region 8 with (first | (refine store52_new rfl rfl _ _ rfl _ (by rfl) x rfl rfl ?_; rw [← HW.out]) | fail)
        go_cut [25] (fun v25 wc => v25 = .bool bb ∧ W = wc)
        case first =>
          by_cases hp : x.pol < 1
          · have HP := Aside0.mk hp
            go_wp2
            go_meet
            case rel => exact ⟨by rw [HBB.out, decide_eq_true HP.out]; first | rfl | simp, rfl⟩
          · have HP := Aside0.mk hp
            go_wp2
            go_meet
            case rel => exact ⟨by rw [HBB.out, decide_eq_false (Int.not_lt.2 HP.out)]; first | rfl | simp, rfl⟩
        case rest =>
          obtain ⟨rfl, rfl⟩ := hcut
          go_upto_if 25 with (fail)
          go_cut [5] (fun v5 wc => v5 = .int .i64 n ∧ W = wc)
          case first =>
            cases bb
            · have e : n = 50 := hn0.out
              have He := Aside0.mk e
              clear e
              go_wp2
              go_meet
              case rel => exact ⟨by rw [He.out], rfl⟩
            · have e : n = 1 := hn0.out
              have He := Aside0.mk e
              clear e
              go_wp2
              go_meet
              case rel => exact ⟨by rw [He.out], rfl⟩
          case rest =>
            obtain ⟨rfl, rfl⟩ := hcut
            clear c3
            go_upto_region 10 with (fail)
            refine wp_region_held (S := Since W) (by kernel_rfl) ?_
            change wpAnyH _ _ _ _ _ _ _ _ W.drew
            refine wpAnyH_take (i := 0) (v := ?_) rfl (by kernel_rfl) (by kernel_rfl) (by kernel_rfl) (fun _ _ _ h => h) (Or.inl ⟨by rfl, ?_⟩) HSX.out ?_
            rotate_left
            · (intro wG hSw; have q1 := HC1.out wG hSw; have q2 := HC2.out wG hSw; have q3 := HC3.out wG hSw; go_simp; try with_reducible rfl)
            try simp only [Act.put, List.setIfInBounds_toArray, List.set]
            refine wpAnyH_take (i := 1) (v := ?_) rfl (by kernel_rfl) (by kernel_rfl) (by kernel_rfl) (fun _ _ _ h => h) (Or.inl ⟨by rfl, ?_⟩) HSX.out ?_
            rotate_left
            · (intro wG hSw; have q1 := HC1.out wG hSw; have q2 := HC2.out wG hSw; have q3 := HC3.out wG hSw; go_simp; try with_reducible rfl)
            try simp only [Act.put, List.setIfInBounds_toArray, List.set]
            refine wpAnyH_take (i := 2) (v := ?_) rfl (by kernel_rfl) (by kernel_rfl) (by kernel_rfl) (fun _ _ _ h => h) (Or.inl ⟨by rfl, ?_⟩) HSX.out ?_
            rotate_left
            · (intro wG hSw; have q1 := HC1.out wG hSw; have q2 := HC2.out wG hSw; have q3 := HC3.out wG hSw; go_simp; try with_reducible rfl)
            try simp only [Act.put, List.setIfInBounds_toArray, List.set]
            refine wpAnyH_take (i := 3) (v := ?_) rfl (by kernel_rfl) (by kernel_rfl) (by kernel_rfl) (fun _ _ _ h => h) (Or.inl ⟨by rfl, ?_⟩) HSX.out ?_
            rotate_left
            · (intro wG hSw; have q1 := HC1.out wG hSw; have q2 := HC2.out wG hSw; have q3 := HC3.out wG hSw; go_simp; try with_reducible rfl)
            try simp only [Act.put, List.setIfInBounds_toArray, List.set]
            refine wpAnyH_take (i := 4) (v := ?_) rfl (by kernel_rfl) (by kernel_rfl) (by kernel_rfl) (fun _ _ _ h => h) (Or.inl ⟨by rfl, ?_⟩) HSX.out ?_
            rotate_left
            · (intro wG hSw; have q1 := HC1.out wG hSw; have q2 := HC2.out wG hSw; have q3 := HC3.out wG hSw; go_simp; try with_reducible rfl)
            try simp only [Act.put, List.setIfInBounds_toArray, List.set]
            refine wpAnyH_take (i := 5) (v := ?_) rfl (by kernel_rfl) (by kernel_rfl) (by kernel_rfl) (fun _ _ _ h => h) (Or.inl ⟨by rfl, ?_⟩) HSX.out ?_
            rotate_left
            · (intro wG hSw; have q1 := HC1.out wG hSw; have q2 := HC2.out wG hSw; have q3 := HC3.out wG hSw; go_simp; try with_reducible rfl)
            try simp only [Act.put, List.setIfInBounds_toArray, List.set]
            refine wpAnyH_take (i := 7) (v := ?_) rfl (by kernel_rfl) (by kernel_rfl) (by kernel_rfl) (fun _ _ _ h => h) (Or.inl ⟨by rfl, ?_⟩) HSX.out ?_
            rotate_left
            · (intro wG hSw; have q1 := HC1.out wG hSw; have q2 := HC2.out wG hSw; have q3 := HC3.out wG hSw; go_simp; try with_reducible rfl)
            try simp only [Act.put, List.setIfInBounds_toArray, List.set]
            refine wpAnyH_take (i := 8) (v := ?_) rfl (by kernel_rfl) (by kernel_rfl) (by kernel_rfl) (fun _ _ _ h => h) (Or.inl ⟨by rfl, ?_⟩) HSX.out ?_
            rotate_left
            · (intro wG hSw; have q1 := HC1.out wG hSw; have q2 := HC2.out wG hSw; have q3 := HC3.out wG hSw; go_simp; try with_reducible rfl)
            try simp only [Act.put, List.setIfInBounds_toArray, List.set]
            refine wpAnyH_take (i := 9) (v := ?_) rfl (by kernel_rfl) (by kernel_rfl) (by kernel_rfl) (fun _ _ _ h => h) (Or.inl ⟨by rfl, ?_⟩) HSX.out ?_
            rotate_left
            · (intro wG hSw; have q1 := HC1.out wG hSw; have q2 := HC2.out wG hSw; have q3 := HC3.out wG hSw; go_simp; try with_reducible rfl)
            try simp only [Act.put, List.setIfInBounds_toArray, List.set]
            refine wpAnyH_take (i := 10) (v := ?_) rfl (by kernel_rfl) (by kernel_rfl) (by kernel_rfl) (fun _ _ _ h => h) (Or.inl ⟨by rfl, ?_⟩) HSX.out ?_
            rotate_left
            · (intro wG hSw; have q1 := HC1.out wG hSw; have q2 := HC2.out wG hSw; have q3 := HC3.out wG hSw; go_simp; try with_reducible rfl)
            try simp only [Act.put, List.setIfInBounds_toArray, List.set]
            refine heldOne (i := 6) (by kernel_rfl) rfl (by kernel_rfl) ?_
            go_simp
            go_at_call 17
            refine (HA.out _ _ (.inl rfl)).mono ?_
            rintro e W1 ⟨⟨v, rfl, g1, rfl, hg1, hf1⟩, hb1⟩
            have HF1 := Aside0.mk hf1
            have HS1 : Aside0 (Since W W1) := ⟨since_step HSX.out hb1⟩
            clear hf1 hg1 hb1 HSX
            refine ⟨HS1.out, ?_⟩
            try simp only [Act.put, List.setIfInBounds_toArray, List.set]
            refine heldOne (i := 11) (by kernel_rfl) rfl (by rfl) ?_
            go_simp
            go_at_call 11
            refine (told_some opRestore x.file z32 n HN0.out z32_ok g1 W1 (handle_below HH.out (below_of HBW.out HS1.out (Nat.le_refl _))) HF1.out).mono ?_
            rintro e W2 ⟨rfl, hb2⟩
            have HSX : Aside0 (Since W W2) := ⟨since_step HS1.out hb2⟩
            clear hb2 HF1 HS1
            refine ⟨HSX.out, ?_⟩
            try simp only [Act.put, List.setIfInBounds_toArray, List.set]
            refine wpAnyH_take (i := 12) (v := ?_) rfl (by kernel_rfl) (by kernel_rfl) (by kernel_rfl) (fun _ _ _ h => h) (Or.inl ⟨by rfl, ?_⟩) HSX.out ?_
            rotate_left
            · (intro wG hSw; have q1 := HC1.out wG hSw; have q2 := HC2.out wG hSw; have q3 := HC3.out wG hSw; go_simp; try with_reducible rfl)
            try simp only [Act.put, List.setIfInBounds_toArray, List.set]
            refine wpAnyH_take (i := 13) (v := ?_) rfl (by kernel_rfl) (by kernel_rfl) (by kernel_rfl) (fun _ _ _ h => h) (Or.inl ⟨by rfl, ?_⟩) HSX.out ?_
            rotate_left
            · (intro wG hSw; have q1 := HC1.out wG hSw; have q2 := HC2.out wG hSw; have q3 := HC3.out wG hSw; go_simp; try with_reducible rfl)
            try simp only [Act.put, List.setIfInBounds_toArray, List.set]
            refine wpAnyH_take (i := 14) (v := ?_) rfl (by kernel_rfl) (by kernel_rfl) (by kernel_rfl) (fun _ _ _ h => h) (Or.inl ⟨by kernel_rfl, ?_⟩) HSX.out ?_
            rotate_left
            · (intro wG hSw; have q1 := HC1.out wG hSw; have q2 := HC2.out wG hSw; have q3 := HC3.out wG hSw; go_simp; try with_reducible rfl)
            try simp only [Act.put, List.setIfInBounds_toArray, List.set]
            refine wpAnyH_take (i := 16) (v := ?_) rfl (by kernel_rfl) (by kernel_rfl) (by kernel_rfl) (fun _ _ _ h => h) (Or.inl ⟨by kernel_rfl, ?_⟩) HSX.out ?_
            rotate_left
            · (intro wG hSw; have q1 := HC1.out wG hSw; have q2 := HC2.out wG hSw; have q3 := HC3.out wG hSw; go_simp; try with_reducible rfl)
            try simp only [Act.put, List.setIfInBounds_toArray, List.set]
            refine wpAnyH_take (i := 17) (v := ?_) rfl (by kernel_rfl) (by kernel_rfl) (by kernel_rfl) (fun _ _ _ h => h) (Or.inl ⟨by kernel_rfl, ?_⟩) HSX.out ?_
            rotate_left
            · (intro wG hSw; have q1 := HC1.out wG hSw; have q2 := HC2.out wG hSw; have q3 := HC3.out wG hSw; go_simp; try with_reducible rfl)
            try simp only [Act.put, List.setIfInBounds_toArray, List.set]
            refine wpAnyH_take (i := 18) (v := ?_) rfl (by kernel_rfl) (by kernel_rfl) (by kernel_rfl) (fun _ _ _ h => h) (Or.inl ⟨by kernel_rfl, ?_⟩) HSX.out ?_
            rotate_left
            · (intro wG hSw; have q1 := HC1.out wG hSw; have q2 := HC2.out wG hSw; have q3 := HC3.out wG hSw; go_simp; try with_reducible rfl)
            try simp only [Act.put, List.setIfInBounds_toArray, List.set]
            refine wpAnyH_take (i := 19) (v := ?_) rfl (by kernel_rfl) (by kernel_rfl) (by kernel_rfl) (fun _ _ _ h => h) (Or.inl ⟨by kernel_rfl, ?_⟩) HSX.out ?_
            rotate_left
            · (intro wG hSw; have q1 := HC1.out wG hSw; have q2 := HC2.out wG hSw; have q3 := HC3.out wG hSw; go_simp; try with_reducible rfl)
            try simp only [Act.put, List.setIfInBounds_toArray, List.set]
            refine wpAnyH_take (i := 20) (v := ?_) rfl (by kernel_rfl) (by kernel_rfl) (by kernel_rfl) (fun _ _ _ h => h) (Or.inl ⟨by kernel_rfl, ?_⟩) HSX.out ?_
            rotate_left
            · (intro wG hSw; have q1 := HC1.out wG hSw; have q2 := HC2.out wG hSw; have q3 := HC3.out wG hSw; go_simp; try with_reducible rfl)
            try simp only [Act.put, List.setIfInBounds_toArray, List.set]
            refine wpAnyH_take (i := 21) (v := ?_) rfl (by kernel_rfl) (by kernel_rfl) (by kernel_rfl) (fun _ _ _ h => h) (Or.inl ⟨by kernel_rfl, ?_⟩) HSX.out ?_
            rotate_left
            · (intro wG hSw; have q1 := HC1.out wG hSw; have q2 := HC2.out wG hSw; have q3 := HC3.out wG hSw; go_simp; try with_reducible rfl)
            try simp only [Act.put, List.setIfInBounds_toArray, List.set]
            refine wpAnyH_take (i := 23) (v := ?_) rfl (by kernel_rfl) (by kernel_rfl) (by kernel_rfl) (fun _ _ _ h => h) (Or.inl ⟨by kernel_rfl, ?_⟩) HSX.out ?_
            rotate_left
            · (intro wG hSw; have q1 := HC1.out wG hSw; have q2 := HC2.out wG hSw; have q3 := HC3.out wG hSw; go_simp; try with_reducible rfl)
            try simp only [Act.put, List.setIfInBounds_toArray, List.set]
            refine wpAnyH_take (i := 24) (v := ?_) rfl (by kernel_rfl) (by kernel_rfl) (by kernel_rfl) (fun _ _ _ h => h) (Or.inl ⟨by kernel_rfl, ?_⟩) HSX.out ?_
            rotate_left
            · (intro wG hSw; have q1 := HC1.out wG hSw; have q2 := HC2.out wG hSw; have q3 := HC3.out wG hSw; go_simp; try with_reducible rfl)
            try simp only [Act.put, List.setIfInBounds_toArray, List.set]
            refine wpAnyH_take (i := 25) (v := ?_) rfl (by kernel_rfl) (by kernel_rfl) (by kernel_rfl) (fun _ _ _ h => h) (Or.inl ⟨by kernel_rfl, ?_⟩) HSX.out ?_
            rotate_left
            · (intro wG hSw; have q1 := HC1.out wG hSw; have q2 := HC2.out wG hSw; have q3 := HC3.out wG hSw; go_simp; try with_reducible rfl)
            try simp only [Act.put, List.setIfInBounds_toArray, List.set]
            refine wpAnyH_take (i := 26) (v := ?_) rfl (by kernel_rfl) (by kernel_rfl) (by kernel_rfl) (fun _ _ _ h => h) (Or.inl ⟨by kernel_rfl, ?_⟩) HSX.out ?_
            rotate_left
            · (intro wG hSw; have q1 := HC1.out wG hSw; have q2 := HC2.out wG hSw; have q3 := HC3.out wG hSw; go_simp; try with_reducible rfl)
            try simp only [Act.put, List.setIfInBounds_toArray, List.set]
            refine heldOne (i := 15) (by kernel_rfl) rfl (by kernel_rfl) ?_
            go_simp
            have hz3 : NoDisk (W2.alloc (.cells #[.pointer none, .string { data := #[] }, .int .i64 0] 57)) (.pointer (some ⟨W2.heap.size, 0, none⟩)) := .inr ⟨_, rfl, by simp⟩
            have HSY : Aside0 (Since W (W2.alloc (.cells #[.pointer none, .string { data := #[] }, .int .i64 0] 57))) := ⟨since_step HSX.out (below_alloc (Below.refl _ _) _)⟩
            have HZ3 := Aside0.mk hz3
            clear hz3
            refine ⟨HSY.out, ?_⟩
            try simp only [Act.put, List.setIfInBounds_toArray, List.set]
            generalize W2.alloc (.cells #[.pointer none, .string { data := #[] }, .int .i64 0] 57) = W3 at HSY HZ3 ⊢
            refine heldOne (i := 22) (by kernel_rfl) rfl (by kernel_rfl) ?_
            go_simp
            go_at_call 17
            refine (HA.out _ _ HZ3.out).mono ?_
            rintro e W4 ⟨⟨v, rfl, g4, rfl, hg4, hf4⟩, hb4⟩
            have HF4 := Aside0.mk hf4
            have HS4 : Aside0 (Since W W4) := ⟨since_step HSY.out hb4⟩
            clear hf4 hg4 hb4 HSX
            refine ⟨HS4.out, ?_⟩
            try simp only [Act.put, List.setIfInBounds_toArray, List.set]
            refine heldOne (i := 27) (by kernel_rfl) rfl (by kernel_rfl) ?_
            go_simp
            go_at_call 11
            refine (told_some opRestore x.file z32 n HN0.out z32_ok g4 W4 (handle_below HH.out (below_of HBW.out HS4.out (Nat.le_refl _))) HF4.out).mono ?_
            rintro e W5 ⟨rfl, hb5⟩
            have HSX : Aside0 (Since W W5) := ⟨since_step HS4.out hb5⟩
            clear hb5 HF4 HS4
            refine ⟨HSX.out, ?_⟩
            try simp only [Act.put, List.setIfInBounds_toArray, List.set]
            refine wpAnyH_take (i := 28) (v := ?_) rfl (by kernel_rfl) (by kernel_rfl) (by kernel_rfl) (fun _ _ _ h => h) (Or.inl ⟨by kernel_rfl, ?_⟩) HSX.out ?_
            rotate_left
            · (intro wG hSw; have q1 := HC1.out wG hSw; have q2 := HC2.out wG hSw; have q3 := HC3.out wG hSw; go_simp; try with_reducible rfl)
            try simp only [Act.put, List.setIfInBounds_toArray, List.set]
            refine wpAnyH_take (i := 29) (v := ?_) rfl (by kernel_rfl) (by kernel_rfl) (by kernel_rfl) (fun _ _ _ h => h) (Or.inl ⟨by kernel_rfl, ?_⟩) HSX.out ?_
            rotate_left
            · (intro wG hSw; have q1 := HC1.out wG hSw; have q2 := HC2.out wG hSw; have q3 := HC3.out wG hSw; go_simp; try with_reducible rfl)
            try simp only [Act.put, List.setIfInBounds_toArray, List.set]
            refine wpAnyH_done (by kernel_rfl) ?_ _
            go_wp2
            go_roundg k
            case measure => omega
            case rel => exact ⟨i + 1, by go_num, by (have h9 := Hik.out; omega), ⟨below_of HBW.out HSX.out (Nat.le_refl _)⟩⟩
  · go_ret
    exact ⟨rfl, HB1.out⟩
end Go.Proofs.YtdekmeanlcpenaaGreatDoor.Nothing
