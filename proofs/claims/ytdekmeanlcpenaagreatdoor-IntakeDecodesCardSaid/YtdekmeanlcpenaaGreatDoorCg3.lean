import Derived.Test.YtdekmeanlcpenaaGreatDoorCg1
import Derived.Test.YtdekmeanlcpenaaGreatDoorWMore
import Derived.Deep.MidRow
import Derived.DataElems
set_option linter.unusedSimpArgs false
set_option linter.unusedVariables false
-- the lines of the kit's print for functions 59, 56 and 57 of this seat
namespace Go.Proofs.YtdekmeanlcpenaaGreatDoor.PIntakeEncodes
open Go.RowKit Go.Proofs.YtdekmeanlcpenaaGreatDoorW.PrintWords Go.Proofs.YtdekmeanlcpenaaGreatDoorW.PrintLast Go.Proofs.YtdekmeanlcpenaaGreatDoorW.PrintMore
attribute [local go_sem] max2_int min2_int max_two min_two max_three min_three max_four min_four -- for this text's walks alone
set_option linter.unusedVariables false
set_option linter.unusedSimpArgs false

/-! ### freightref1_Number: function 59 -/
def freightref1_Number.l0 : Nat → Int → List Int → Option (List Int)
  | 0, _, _ => none
  | k + 1, x0, x3 => if x0 ≥ 128 then (if x3.length < 140737488355328 then (freightref1_Number.l0 k (wrap64 (Int.tdiv x0 128)) (x3 ++ [(wrap64 (128 + (Int.tmod x0 128))) % 256])) else (none)) else (if x3.length < 140737488355328 then (some (x3 ++ [(x0) % 256])) else (none))
def freightref1_Number.f (k : Nat) (a0 : Int) : Option (List Int) := freightref1_Number.l0 k a0 ([] : List Int)
theorem freightref1_Number.mono_l : ∀ k, (∀ y0 y1, LeO (freightref1_Number.l0 k y0 y1) (freightref1_Number.l0 (k + 1) y0 y1))
  | 0 => fun _ _ r h => by simp [freightref1_Number.l0] at h
  | k + 1 => by
    have ih0 := freightref1_Number.mono_l k
    · intro y0 y1
      unfold freightref1_Number.l0
      repeat' first
      | (with_reducible exact ih0 _ _)
      | (with_reducible exact LeO.refl _)
      | (with_reducible exact LeO.none _)
      | (with_reducible refine LeO.ite ?_ ?_)
      | (with_reducible refine LeO.bind ?_ (fun _ => ?_))
      | exact ih0 _ _
      | exact LeO.none _
      | refine LeO.ite ?_ ?_
      | refine LeO.bind ?_ (fun _ => ?_)
theorem freightref1_Number.mono : ∀ a0 k, LeO (freightref1_Number.f k a0) (freightref1_Number.f (k + 1) a0) := by
  intro a0 k
  have ih0 := freightref1_Number.mono_l k
  unfold freightref1_Number.f
  repeat' first
      | (with_reducible exact ih0 _ _)
      | (with_reducible exact LeO.refl _)
      | (with_reducible exact LeO.none _)
      | (with_reducible refine LeO.ite ?_ ?_)
      | (with_reducible refine LeO.bind ?_ (fun _ => ?_))
      | exact ih0 _ _
      | exact LeO.none _
      | refine LeO.ite ?_ ?_
      | refine LeO.bind ?_ (fun _ => ?_)
set_option maxHeartbeats 8000000 in
set_option maxRecDepth 100000 in
theorem freightref1_Number.calls (k : Nat) (a0 : Int) (r : List Int) (w : World) (h : freightref1_Number.f k a0 = some r) :
    Calls Tryz.prog 59 #[.int .i64 a0] w fun e w' => ∃ v0_ : Value, e = .returned (v0_) ∧ Kd.R (Kd.int .u8) 5 w' w.heap.size (fun _ => True) v0_ r ∧ Below w.heap.size w w' := by
  have HB := Aside0.mk (Below.refl w.heap.size w)
  have H : (freightref1_Number.l0 k a0 ([] : List Int)) = some r := h
  clear h
  have H' := Aside0.mk H
  clear H
  go_enter Tryz.func59, Tryz.ntmps59
  go_wp2
  go_loopg [0, 3] k (fun kq v0 v3 w' => ∃ (x0_1 : Int) (x3_1 : List Int), v0 = .int .i64 x0_1 ∧ Aside0 (freightref1_Number.l0 kq x0_1 x3_1 = some r) ∧ Aside0 (kq ≤ k) ∧ Aside0 (Kd.R (Kd.int .u8) 5 w' w.heap.size (fun _ => True) v3 x3_1) ∧ Aside0 (Below w.heap.size w w'))
  case atStart => exact ⟨(a0), (([] : List Int)), (by first | rfl | (simp; done) | (simp [*]; done)), H', ⟨Nat.le_refl _⟩, ⟨by first | exact Kd.R_nil _ _ _ _ _ | exact Kd.N_nil _ _ _ _ _ | exact Kd.V_nil _ _ _ _ _ | exact Kd.Q_nil _ _ _ _ _ | exact Kd.S_nil _ _ _ _ _⟩, ⟨by repeat (first | (with_reducible first | exact HB.out | apply below_alloc | apply pw_below_drewN | apply below_drew1) | exact HB.out)⟩⟩
  case round =>
    clear H'
    obtain ⟨x0_1, x3_1, rfl, HA, HK1, HO_3, HB⟩ := hrel
    cases gk with
    | zero => exact absurd HA.out (by simp [freightref1_Number.l0])
    | succ k1 =>
      have H := HA.out
      clear HA
      simp only [freightref1_Number.l0] at H
      by_cases c2 : x0_1 ≥ 128
      · rw [if_pos c2] at H
        have c2b0 : decide (128 ≤ x0_1) = true := decide_eq_true c2
        clear c2
        by_cases c3 : x3_1.length < 140737488355328
        · rw [if_pos c3] at H
          have LMc3 := Aside0.mk c3
          clear c3
          obtain ⟨y101, hy101⟩ : ∃ y_ : List Int, y_ = (x3_1 ++ [(wrap64 (128 + (Int.tmod x0_1 128))) % 256]) := ⟨_, rfl⟩
          replace H : (freightref1_Number.l0 k1 (wrap64 (Int.tdiv x0_1 128)) y101) = some r := by first | (rw [hy101]; with_reducible exact H) | (have H2_ := (Option.bind_some _ _).symm.trans H; rw [hy101]; with_reducible exact H2_) | (have H2_ := (Option.bind_some _ _).symm.trans H; with_reducible exact H2_) | with_reducible exact H | (rw [hy101]; exact H) | exact H
          have Ny101 := Aside0.mk hy101
          clear hy101
          have H' := Aside0.mk H
          clear H
          go_wp2_with (first | ((with_reducible refine gate_builtin (b := .append) (xs := #[.tmp 6, .tmp 11]) rfl ?_); at_builtin; refine Kd.R_append (Kd.int .u8) (w0 := w) w.heap.size rfl (.tmp 6) (.tmp 11) 47 5 (.int .u8 0) 1 rfl Tryz.underlying47 info5 rfl (by decide) (by omega) u3 x3_1 ((wrap64 (128 + (Int.tmod x0_1 128))) % 256) [.int .u8 ((wrap64 (128 + (Int.tmod x0_1 128))) % 256)] (fun _ => True) (fun _ => False) rfl rfl ?aP (fun _ hk => hk.elim) ?aF ?aO ?aB ?aS ?aL ?_; (case aP => exact rfl); (case aB => exact (by repeat (first | (with_reducible first | exact HB.out | apply below_alloc | apply pw_below_drewN | apply below_drew1) | exact HB.out))); (case aF => exact (fun _ _ => trivial)); (case aO => exact (by (with_reducible repeat (first | apply Kd.R_alloc | apply Kd.R_drewN | apply Kd.R_drew)); exact HO_3.out)); (case aS => exact (below_size (by repeat (first | (with_reducible first | exact HB.out | apply below_alloc | apply pw_below_drewN | apply below_drew1) | exact HB.out)))); (case aL => have := LMc3.out; omega); intro v102 w4 ho hb hg hat; rw [← Ny101.out] at ho; have n0_ := Aside0.mk (hb); have n1_ := Aside0.mk (ho); clear HB; clear HO_3; have HB := n0_; have HO103 := n1_; clear n0_ n1_; clear ho hb hg hat))
          go_roundg k1
          case measure => have := HK1.out; omega
          case rel => exact ⟨(wrap64 (Int.tdiv x0_1 128)), (y101), (by first | rfl | (simp; done) | (simp [*]; done)), H', ⟨by have := HK1.out; omega⟩, ⟨by (with_reducible repeat (first | apply Kd.R_alloc | apply Kd.R_drewN | apply Kd.R_drew)); exact HO103.out⟩, ⟨by repeat (first | (with_reducible first | exact HB.out | apply below_alloc | apply pw_below_drewN | apply below_drew1) | exact HB.out)⟩⟩
        · rw [if_neg c3] at H
          exact absurd H (by simp)
      · rw [if_neg c2] at H
        have c2b0 : decide (128 ≤ x0_1) = false := decide_eq_false c2
        clear c2
        by_cases c5 : x3_1.length < 140737488355328
        · rw [if_pos c5] at H
          have LMc5 := Aside0.mk c5
          clear c5
          obtain ⟨y104, hy104⟩ : ∃ y_ : List Int, y_ = (x3_1 ++ [(x0_1) % 256]) := ⟨_, rfl⟩
          replace H : (some y104) = some r := by first | (rw [hy104]; with_reducible exact H) | (have H2_ := (Option.bind_some _ _).symm.trans H; rw [hy104]; with_reducible exact H2_) | (have H2_ := (Option.bind_some _ _).symm.trans H; with_reducible exact H2_) | with_reducible exact H | (rw [hy104]; exact H) | exact H
          have Ny104 := Aside0.mk hy104
          clear hy104
          obtain rfl := Option.some.inj H
          go_wp2_with (first | ((with_reducible refine gate_builtin (b := .append) (xs := #[.tmp 15, .tmp 18]) rfl ?_); at_builtin; refine Kd.R_append (Kd.int .u8) (w0 := w) w.heap.size rfl (.tmp 15) (.tmp 18) 47 5 (.int .u8 0) 1 rfl Tryz.underlying47 info5 rfl (by decide) (by omega) u3 x3_1 ((x0_1) % 256) [.int .u8 ((x0_1) % 256)] (fun _ => True) (fun _ => False) rfl rfl ?aP (fun _ hk => hk.elim) ?aF ?aO ?aB ?aS ?aL ?_; (case aP => exact rfl); (case aB => exact (by repeat (first | (with_reducible first | exact HB.out | apply below_alloc | apply pw_below_drewN | apply below_drew1) | exact HB.out))); (case aF => exact (fun _ _ => trivial)); (case aO => exact (by (with_reducible repeat (first | apply Kd.R_alloc | apply Kd.R_drewN | apply Kd.R_drew)); exact HO_3.out)); (case aS => exact (below_size (by repeat (first | (with_reducible first | exact HB.out | apply below_alloc | apply pw_below_drewN | apply below_drew1) | exact HB.out)))); (case aL => have := LMc5.out; omega); intro v105 w6 ho hb hg hat; rw [← Ny104.out] at ho; have n0_ := Aside0.mk (hb); have n1_ := Aside0.mk (ho); clear HB; clear HO_3; have HB := n0_; have HO106 := n1_; clear n0_ n1_; clear ho hb hg hat))
          go_ret
          exact ⟨_, by first | rfl | (simp [errW_none, errW_some] <;> rfl) | (simp [*, errW_none, errW_some] <;> rfl), by (with_reducible repeat (first | apply Kd.R_alloc | apply Kd.R_drewN | apply Kd.R_drew)); exact HO106.out, by repeat (first | (with_reducible first | exact HB.out | apply below_alloc | apply pw_below_drewN | apply below_drew1) | exact HB.out)⟩
        · rw [if_neg c5] at H
          exact absurd H (by simp)

-- NOT PRINTED: function 55 (freightref8_Encode)

/-! ### freightref16_put: function 56 -/
def freightref16_put.l0 : Nat → List Int → List Int → Int → Option (List Int)
  | 0, _, _, _ => none
  | k + 1, x0, x1, x5 => if x5 < (x1.length : Int) then (if 0 ≤ x5 then (if x0.length < 140737488355328 then (freightref16_put.l0 k (x0 ++ [rd x1 x5]) x1 (wrap64 (x5 + 1))) else (none)) else (none)) else (some x0)
def freightref16_put.f (k : Nat) (l0 : List Int) (l1 : List Int) : Option (List Int) := freightref16_put.l0 k l0 l1 0
theorem freightref16_put.mono_l : ∀ k, (∀ y0 y1 y2, LeO (freightref16_put.l0 k y0 y1 y2) (freightref16_put.l0 (k + 1) y0 y1 y2))
  | 0 => fun _ _ _ r h => by simp [freightref16_put.l0] at h
  | k + 1 => by
    have ih0 := freightref16_put.mono_l k
    · intro y0 y1 y2
      unfold freightref16_put.l0
      repeat' first
      | (with_reducible exact ih0 _ _ _)
      | (with_reducible exact LeO.refl _)
      | (with_reducible exact LeO.none _)
      | (with_reducible refine LeO.ite ?_ ?_)
      | (with_reducible refine LeO.bind ?_ (fun _ => ?_))
      | exact ih0 _ _ _
      | exact LeO.none _
      | refine LeO.ite ?_ ?_
      | refine LeO.bind ?_ (fun _ => ?_)
theorem freightref16_put.mono : ∀ a0 a1 k, LeO (freightref16_put.f k a0 a1) (freightref16_put.f (k + 1) a0 a1) := by
  intro a0 a1 k
  have ih0 := freightref16_put.mono_l k
  unfold freightref16_put.f
  repeat' first
      | (with_reducible exact ih0 _ _ _)
      | (with_reducible exact LeO.refl _)
      | (with_reducible exact LeO.none _)
      | (with_reducible refine LeO.ite ?_ ?_)
      | (with_reducible refine LeO.bind ?_ (fun _ => ?_))
      | exact ih0 _ _ _
      | exact LeO.none _
      | refine LeO.ite ?_ ?_
      | refine LeO.bind ?_ (fun _ => ?_)
set_option maxHeartbeats 8000000 in
set_option maxRecDepth 100000 in
theorem freightref16_put.calls (k : Nat) (P0_ : Nat → Prop) (u9000_ : Value) (l0 : List Int) (A1 : Option Addr) (c1 : Nat) (l1 : List Int) (r : List Int) (w0 w : World) (hB : Below w0.heap.size w0 w) (ho0 : Kd.R (Kd.int .u8) 5 w w0.heap.size P0_ u9000_ l0) (hr1 : ∀ W_, Kept w W_ (fun k_ => P0_ k_) → Kd.C (Kd.int .u8) W_ A1 l1.length l1) (hc1 : l1.length ≤ c1) (h : freightref16_put.f k l0 l1 = some r) :
    Calls Tryz.prog 56 #[u9000_, .slice A1 l1.length c1] w fun e w' => ∃ v0_ : Value, e = .returned (v0_) ∧ Kd.R (Kd.int .u8) 5 w' w0.heap.size (fun k_ => (P0_ k_ ∨ w.heap.size ≤ k_)) v0_ r ∧ Below w0.heap.size w0 w' ∧ Kept w w' (fun k_ => P0_ k_) := by
  have HO0 := Aside0.mk (show Kd.R (Kd.int .u8) 5 w w0.heap.size (fun k_ => (P0_ k_ ∨ w.heap.size ≤ k_)) u9000_ l0 from Kd.R_mono ho0 (fun k_ hk => (.inl hk)))
  have HR1 := Aside0.mk hr1
  have HC1 := Aside0.mk hc1
  clear hr1 hc1
  have HK := Aside0.mk (Kept.refl w (fun k_ => P0_ k_))
  have HW0 := Aside0.mk hB.size
  have HB := Aside0.mk hB
  clear hB
  have H : (freightref16_put.l0 k l0 l1 0) = some r := h
  clear h
  have H' := Aside0.mk H
  clear H
  go_enter Tryz.func56, Tryz.ntmps56
  go_wp2
  go_loopg [0, 5] k (fun kq v0 v5 w' => ∃ (x0_1 : List Int) (x5_1 : Int), v5 = .int .i64 x5_1 ∧ Aside0 (freightref16_put.l0 kq x0_1 l1 x5_1 = some r) ∧ Aside0 (kq ≤ k) ∧ Aside0 (Kd.R (Kd.int .u8) 5 w' w0.heap.size (fun k_ => (P0_ k_ ∨ w.heap.size ≤ k_)) v0 x0_1) ∧ Aside0 (Kept w w' (fun k_ => P0_ k_)) ∧ Aside0 (Below w0.heap.size w0 w'))
  case atStart => exact ⟨(l0), (0), (by first | rfl | (simp; done) | (simp [*]; done)), H', ⟨Nat.le_refl _⟩, ⟨by (with_reducible repeat (first | apply Kd.R_alloc | apply Kd.R_drewN | apply Kd.R_drew)); exact HO0.out⟩, ⟨by repeat (first | (with_reducible first | exact HK.out | apply Kept.alloc | apply Kept.drewN | apply Kept.drew) | exact HK.out)⟩, ⟨by repeat (first | (with_reducible first | exact HB.out | apply below_alloc | apply pw_below_drewN | apply below_drew1) | exact HB.out)⟩⟩
  case round =>
    clear H'
    try clear c1
    try clear p2
    obtain ⟨x0_1, x5_1, rfl, HA, HK1, HO_0, HK, HB⟩ := hrel
    cases gk with
    | zero => exact absurd HA.out (by simp [freightref16_put.l0])
    | succ k1 =>
      have H := HA.out
      clear HA
      simp only [freightref16_put.l0] at H
      by_cases c3 : x5_1 < (l1.length : Int)
      · rw [if_pos c3] at H
        have c3b0 : decide (x5_1 < (l1.length : Int)) = true := decide_eq_true c3
        clear c3
        by_cases c4 : 0 ≤ x5_1
        · rw [if_pos c4] at H
          have c4b0 : decide (0 ≤ x5_1) = true := decide_eq_true c4
          clear c4
          by_cases c5 : x0_1.length < 140737488355328
          · rw [if_pos c5] at H
            have LMc5 := Aside0.mk c5
            clear c5
            obtain ⟨y108, hy108⟩ : ∃ y_ : List Int, y_ = (x0_1 ++ [rd l1 x5_1]) := ⟨_, rfl⟩
            replace H : (freightref16_put.l0 k1 y108 l1 (wrap64 (x5_1 + 1))) = some r := by first | (rw [hy108]; with_reducible exact H) | (have H2_ := (Option.bind_some _ _).symm.trans H; rw [hy108]; with_reducible exact H2_) | (have H2_ := (Option.bind_some _ _).symm.trans H; with_reducible exact H2_) | with_reducible exact H | (rw [hy108]; exact H) | exact H
            have Ny108 := Aside0.mk hy108
            clear hy108
            have H' := Aside0.mk H
            clear H
            have p107 : 0 ≤ (x5_1 : Int) := of_decide_eq_true (by first | (with_reducible assumption) | assumption)
            have q107 : x5_1 < (l1.length : Int) := of_decide_eq_true (by first | (with_reducible assumption) | assumption)
            obtain ⟨ad107, e107, hx107_0⟩ := Kd.at_int (Kd.C_kept_now HR1.out HK.out) x5_1 p107 q107
            cases e107
            replace p107 := eq_true p107
            replace q107 := eq_true q107
            go_wp2_with (first | ((with_reducible refine gate_builtin (b := .append) (xs := #[.tmp 12, .tmp 17]) rfl ?_); at_builtin; refine Kd.R_append (Kd.int .u8) (w0 := w0) w0.heap.size rfl (.tmp 12) (.tmp 17) 47 5 (.int .u8 0) 1 rfl Tryz.underlying47 info5 rfl (by decide) (by omega) u0 x0_1 (rd l1 x5_1) [.int .u8 (rd l1 x5_1)] (fun k_ => (P0_ k_ ∨ w.heap.size ≤ k_)) (fun _ => False) rfl rfl ?aP (fun _ hk => hk.elim) ?aF ?aO ?aB ?aS ?aL ?_; (case aP => exact rfl); (case aB => exact (by repeat (first | (with_reducible first | exact HB.out | apply below_alloc | apply pw_below_drewN | apply below_drew1) | exact HB.out))); (case aF => exact (fun k_ hk => (.inr (Nat.le_trans (by first | exact HK.out.1 | exact (show Kept w _ (fun k_ => P0_ k_) from by repeat (first | (with_reducible first | exact HK.out | apply Kept.alloc | apply Kept.drewN | apply Kept.drew) | exact HK.out)).1) hk)))); (case aO => exact (by (with_reducible repeat (first | apply Kd.R_alloc | apply Kd.R_drewN | apply Kd.R_drew)); exact HO_0.out)); (case aS => exact (below_size (by repeat (first | (with_reducible first | exact HB.out | apply below_alloc | apply pw_below_drewN | apply below_drew1) | exact HB.out)))); (case aL => have := LMc5.out; omega); intro v109 w6 ho hb hg hat; rw [← Ny108.out] at ho; have n0_ := Aside0.mk (hb); have n1_ := Aside0.mk (Kept.of_grown (S := (fun k_ => P0_ k_)) hg (by repeat (first | (with_reducible first | exact HK.out | apply Kept.alloc | apply Kept.drewN | apply Kept.drew) | exact HK.out)) (fun k_ e_ => (HO_0.out.1 k_ e_))); have n2_ := Aside0.mk (ho); clear HB; clear HK; clear HO_0; have HB := n0_; have HK := n1_; have HO110 := n2_; clear n0_ n1_ n2_; clear ho hb hg hat))
            go_roundg k1
            case measure => have := HK1.out; omega
            case rel => exact ⟨(y108), (wrap64 (x5_1 + 1)), (by first | rfl | (simp; done) | (simp [*]; done)), H', ⟨by have := HK1.out; omega⟩, ⟨by (with_reducible repeat (first | apply Kd.R_alloc | apply Kd.R_drewN | apply Kd.R_drew)); exact HO110.out⟩, ⟨by repeat (first | (with_reducible first | exact HK.out | apply Kept.alloc | apply Kept.drewN | apply Kept.drew) | exact HK.out)⟩, ⟨by repeat (first | (with_reducible first | exact HB.out | apply below_alloc | apply pw_below_drewN | apply below_drew1) | exact HB.out)⟩⟩
          · rw [if_neg c5] at H
            exact absurd H (by simp)
        · rw [if_neg c4] at H
          exact absurd H (by simp)
      · rw [if_neg c3] at H
        have c3b0 : decide (x5_1 < (l1.length : Int)) = false := decide_eq_false c3
        clear c3
        obtain rfl := Option.some.inj H
        go_wp2
        go_ret
        exact ⟨_, by first | rfl | (simp [errW_none, errW_some] <;> rfl) | (simp [*, errW_none, errW_some] <;> rfl), by (with_reducible repeat (first | apply Kd.R_alloc | apply Kd.R_drewN | apply Kd.R_drew)); exact HO_0.out, by repeat (first | (with_reducible first | exact HB.out | apply below_alloc | apply pw_below_drewN | apply below_drew1) | exact HB.out), by repeat (first | (with_reducible first | exact HK.out | apply Kept.alloc | apply Kept.drewN | apply Kept.drew) | exact HK.out)⟩

/-! ### freightref1_Text: function 57 -/
def freightref1_Text.f (k : Nat) (l0 : List Int) : Option (List Int) := (freightref1_Number.f k (l0.length : Int)).bind fun t111 => (if t111.length + l0.length < 140737488355328 then (some (t111 ++ l0)) else (none))
theorem freightref1_Text.mono : ∀ a0 k, LeO (freightref1_Text.f k a0) (freightref1_Text.f (k + 1) a0) := by
  intro a0 k
  unfold freightref1_Text.f
  repeat' first
      | (with_reducible exact freightref1_Number.mono _ _)
      | (with_reducible exact LeO.refl _)
      | (with_reducible exact LeO.none _)
      | (with_reducible refine LeO.ite ?_ ?_)
      | (with_reducible refine LeO.bind ?_ (fun _ => ?_))
      | exact freightref1_Number.mono _ _
      | exact LeO.none _
      | refine LeO.ite ?_ ?_
      | refine LeO.bind ?_ (fun _ => ?_)
set_option maxHeartbeats 8000000 in
set_option maxRecDepth 100000 in
theorem freightref1_Text.calls (k : Nat) (A0 : Option Addr) (c0 : Nat) (l0 : List Int) (r : List Int) (w : World) (hr0 : Kd.C (Kd.int .u8) w A0 l0.length l0) (hc0 : l0.length ≤ c0) (h : freightref1_Text.f k l0 = some r) :
    Calls Tryz.prog 57 #[.slice A0 l0.length c0] w fun e w' => ∃ v0_ : Value, e = .returned (v0_) ∧ Kd.R (Kd.int .u8) 5 w' w.heap.size (fun _ => True) v0_ r ∧ Below w.heap.size w w' := by
  have HR0 := Aside0.mk hr0
  have HC0 := Aside0.mk hc0
  clear hr0 hc0
  have HB := Aside0.mk (Below.refl w.heap.size w)
  have H : ((freightref1_Number.f k (l0.length : Int)).bind fun t111 => (if t111.length + l0.length < 140737488355328 then (some (t111 ++ l0)) else (none))) = some r := h
  clear h
  replace H := Option.bind_eq_some_iff.mp H
  obtain ⟨t111, A20, H⟩ := H
  replace H : (if t111.length + l0.length < 140737488355328 then (some (t111 ++ l0)) else (none)) = some r := H
  have A2 := Aside0.mk A20
  clear A20
  by_cases c3 : t111.length + l0.length < 140737488355328
  · rw [if_pos c3] at H
    have LMc3 := Aside0.mk c3
    clear c3
    obtain ⟨y114, hy114⟩ : ∃ y_ : List Int, y_ = (t111 ++ l0) := ⟨_, rfl⟩
    replace H : (some y114) = some r := by first | (rw [hy114]; with_reducible exact H) | (have H2_ := (Option.bind_some _ _).symm.trans H; rw [hy114]; with_reducible exact H2_) | (have H2_ := (Option.bind_some _ _).symm.trans H; with_reducible exact H2_) | with_reducible exact H | (rw [hy114]; exact H) | exact H
    have Ny114 := Aside0.mk hy114
    clear hy114
    obtain rfl := Option.some.inj H
    go_enter Tryz.func57, Tryz.ntmps57
    go_wp2_with (first | ((with_reducible refine gate_callee (f := 59) rfl ?_); refine goesL_ (some 6) rfl rfl Tryz.func59 (by kernel_rfl) rfl #[.int .i64 (l0.length : Int)] rfl (by (try simp only [List.map_toArray, List.map_cons, List.map_nil]); first | done | rfl | (simp only [List.length_drop, List.length_take]; rfl)) ?_; (with_reducible refine (freightref1_Number.calls k (l0.length : Int) t111 _ A2.out).mono ?_); rintro e w4 ⟨v112, rfl, ho0, hb⟩; refine ⟨_, rfl, ?_⟩; have n0_ := Aside0.mk (Kd.R_lower ho0 (below_size (by repeat (first | (with_reducible first | exact HB.out | apply below_alloc | apply pw_below_drewN | apply below_drew1) | exact HB.out)))); have n1_ := Aside0.mk (below_step (by repeat (first | (with_reducible first | exact HB.out | apply below_alloc | apply pw_below_drewN | apply below_drew1) | exact HB.out)) hb); clear HB; have HO113 := n0_; have HB := n1_; clear n0_ n1_; (try clear hb); (try clear hb2); (try clear hk); (try clear hi); (try clear ho0)) | ((with_reducible refine gate_builtin (b := .append) (xs := #[.tmp 7, .tmp 8]) rfl ?_); at_builtin; refine Kd.R_append_rows (Kd.int .u8) (w0 := w) w.heap.size rfl (.tmp 7) (.tmp 8) 47 5 (.int .u8 0) 1 rfl Tryz.underlying47 info5 rfl (by decide) (by omega) v112 t111 l0 _ _ _ (fun _ => True) (fun _ => False) rfl rfl ?aO ?aR (fun _ _ h => h) (fun _ h => h.elim) ?aF ?aB ?aS ?aL ?_; (case aR => repeat (first | exact (Kd.C_below HR0.out HB.out) | (with_reducible refine Kd.C_alloc ?_ _) | (with_reducible refine Kd.C_drewN ?_ _) | (with_reducible refine Kd.C_drew ?_))); (case aB => exact (by repeat (first | (with_reducible first | exact HB.out | apply below_alloc | apply pw_below_drewN | apply below_drew1) | exact HB.out))); (case aF => exact (fun _ _ => trivial)); (case aO => exact (by (with_reducible repeat (first | apply Kd.R_alloc | apply Kd.R_drewN | apply Kd.R_drew)); exact HO113.out)); (case aS => exact (below_size (by repeat (first | (with_reducible first | exact HB.out | apply below_alloc | apply pw_below_drewN | apply below_drew1) | exact HB.out)))); (case aL => have := LMc3.out; omega); intro v115 w5 ho hb hg hat; rw [← Ny114.out] at ho; have n0_ := Aside0.mk (hb); have n1_ := Aside0.mk (ho); clear HB; clear HO113; have HB := n0_; have HO116 := n1_; clear n0_ n1_; clear ho hb hg hat))
    go_ret
    exact ⟨_, by first | rfl | (simp [errW_none, errW_some] <;> rfl) | (simp [*, errW_none, errW_some] <;> rfl), by (with_reducible repeat (first | apply Kd.R_alloc | apply Kd.R_drewN | apply Kd.R_drew)); exact HO116.out, by repeat (first | (with_reducible first | exact HB.out | apply below_alloc | apply pw_below_drewN | apply below_drew1) | exact HB.out)⟩
  · rw [if_neg c3] at H
    exact absurd H (by simp)

end Go.Proofs.YtdekmeanlcpenaaGreatDoor.PIntakeEncodes

-- the lines of the kit's print for functions 58 and 60 of this seat
namespace Go.Proofs.YtdekmeanlcpenaaGreatDoor.PIntakeEncodes
open Go.RowKit Go.Proofs.YtdekmeanlcpenaaGreatDoorW.PrintWords Go.Proofs.YtdekmeanlcpenaaGreatDoorW.PrintLast Go.Proofs.YtdekmeanlcpenaaGreatDoorW.PrintMore
attribute [local go_sem] max2_int min2_int max_two min_two max_three min_three max_four min_four -- for this text's walks alone
set_option linter.unusedVariables false
set_option linter.unusedSimpArgs false

/-! ### freightref1_Fixed: function 58 -/
def freightref1_Fixed.l0 : Nat → Int → List Int → Int → Option (List Int)
  | 0, _, _, _ => none
  | k + 1, x0, x5, x6 => if x6 ≥ 0 then (if 0 ≤ x6 then (if x6 < (x5.length : Int) then (freightref1_Fixed.l0 k (wrap64 (Int.tdiv x0 256)) (x5.set (x6 : Int).toNat ((Int.tmod x0 256) % 256)) (wrap64 (x6 - 1))) else (none)) else (none)) else (some x5)
def freightref1_Fixed.f (k : Nat) (a0 : Int) (a1 : Int) : Option (List Int) := if 0 ≤ a1 then (if (a1 : Int).toNat ≤ 281474976710656 then (freightref1_Fixed.l0 k a0 (List.replicate (a1 : Int).toNat 0) (wrap64 (a1 - 1))) else (none)) else (none)
theorem freightref1_Fixed.mono_l : ∀ k, (∀ y0 y1 y2, LeO (freightref1_Fixed.l0 k y0 y1 y2) (freightref1_Fixed.l0 (k + 1) y0 y1 y2))
  | 0 => fun _ _ _ r h => by simp [freightref1_Fixed.l0] at h
  | k + 1 => by
    have ih0 := freightref1_Fixed.mono_l k
    · intro y0 y1 y2
      unfold freightref1_Fixed.l0
      repeat' first
      | (with_reducible exact ih0 _ _ _)
      | (with_reducible exact LeO.refl _)
      | (with_reducible exact LeO.none _)
      | (with_reducible refine LeO.ite ?_ ?_)
      | (with_reducible refine LeO.bind ?_ (fun _ => ?_))
      | exact ih0 _ _ _
      | exact LeO.none _
      | refine LeO.ite ?_ ?_
      | refine LeO.bind ?_ (fun _ => ?_)
theorem freightref1_Fixed.mono : ∀ a0 a1 k, LeO (freightref1_Fixed.f k a0 a1) (freightref1_Fixed.f (k + 1) a0 a1) := by
  intro a0 a1 k
  have ih0 := freightref1_Fixed.mono_l k
  unfold freightref1_Fixed.f
  repeat' first
      | (with_reducible exact ih0 _ _ _)
      | (with_reducible exact LeO.refl _)
      | (with_reducible exact LeO.none _)
      | (with_reducible refine LeO.ite ?_ ?_)
      | (with_reducible refine LeO.bind ?_ (fun _ => ?_))
      | exact ih0 _ _ _
      | exact LeO.none _
      | refine LeO.ite ?_ ?_
      | refine LeO.bind ?_ (fun _ => ?_)
set_option maxHeartbeats 8000000 in
set_option maxRecDepth 100000 in
theorem freightref1_Fixed.calls (k : Nat) (a0 : Int) (a1 : Int) (r : List Int) (w : World) (h : freightref1_Fixed.f k a0 a1 = some r) :
    Calls Tryz.prog 58 #[.int .i64 a0, .int .i64 a1] w fun e w' => ∃ v0_ : Value, e = .returned (v0_) ∧ Kd.R (Kd.int .u8) 5 w' w.heap.size (fun _ => True) v0_ r ∧ Below w.heap.size w w' := by
  have HB := Aside0.mk (Below.refl w.heap.size w)
  have H : (if 0 ≤ a1 then (if (a1 : Int).toNat ≤ 281474976710656 then (freightref1_Fixed.l0 k a0 (List.replicate (a1 : Int).toNat 0) (wrap64 (a1 - 1))) else (none)) else (none)) = some r := h
  clear h
  by_cases c3 : 0 ≤ a1
  · rw [if_pos c3] at H
    have c3b0 := eq_true c3
    have c3b1 : decide (0 ≤ a1) = true := decide_eq_true c3
    clear c3
    by_cases c4 : (a1 : Int).toNat ≤ 281474976710656
    · rw [if_pos c4] at H
      have c4b0 := eq_true c4
      have c4b1 : decide ((a1 : Int).toNat ≤ 281474976710656) = true := decide_eq_true c4
      clear c4
      obtain ⟨y117, hy117⟩ : ∃ y_ : List Int, y_ = (List.replicate (a1 : Int).toNat 0) := ⟨_, rfl⟩
      replace H : (freightref1_Fixed.l0 k a0 y117 (wrap64 (a1 - 1))) = some r := by first | (rw [hy117]; with_reducible exact H) | (have H2_ := (Option.bind_some _ _).symm.trans H; rw [hy117]; with_reducible exact H2_) | (have H2_ := (Option.bind_some _ _).symm.trans H; with_reducible exact H2_) | with_reducible exact H | (rw [hy117]; exact H) | exact H
      have Ny117 := Aside0.mk hy117
      clear hy117
      have H' := Aside0.mk H
      clear H
      go_enter Tryz.func58, Tryz.ntmps58
      go_wp2_with (first | ((with_reducible refine gate_dst (N := 8) rfl ?_); refine Kd.R_make (Kd.int .u8) _ 5 rfl (N := 8) rfl 47 _ _ rfl a1 rfl rfl Tryz.underlying47 (.int .u8 0) 1 info5 rfl (by decide) (by omega) 0 (ok := fun _ => True) (okp := fun _ => True) rfl (fun _ hk => hk) trivial (of_decide_eq_true (by first | (with_reducible assumption) | assumption)) (Nat.le_trans (Nat.mul_le_mul_right _ (of_decide_eq_true (by first | (with_reducible assumption) | assumption) : a1.toNat ≤ 281474976710656)) (by omega)) (Below.refl _ _) (Nat.le_refl _) ?_; intro v118 w5 ho6 hb hg_ hnew_; clear hg_ hnew_; (first | rw [← Ny117.out] at ho6 | (simp only [Int.reduceToNat] at ho6; rw [← Ny117.out] at ho6)); have n0_ := Aside0.mk (Kd.R_lower ho6 (below_size (by repeat (first | (with_reducible first | exact HB.out | apply below_alloc | apply pw_below_drewN | apply below_drew1) | exact HB.out)))); have n1_ := Aside0.mk (below_step (by repeat (first | (with_reducible first | exact HB.out | apply below_alloc | apply pw_below_drewN | apply below_drew1) | exact HB.out)) hb); clear HB; have HO119 := n0_; have HB := n1_; clear n0_ n1_; clear hb ho6))
      go_loopg [0, 6] k (fun kq v0 v6 w' => ∃ (x0_1 : Int) (x5_1 : List Int) (x6_1 : Int), v0 = .int .i64 x0_1 ∧ v6 = .int .i64 x6_1 ∧ Aside0 (freightref1_Fixed.l0 kq x0_1 x5_1 x6_1 = some r) ∧ Aside0 (kq ≤ k) ∧ Aside0 (Kd.R (Kd.int .u8) 5 w' w.heap.size (fun _ => True) v118 x5_1) ∧ Aside0 (Below w.heap.size w w'))
      case atStart => exact ⟨(a0), (y117), (wrap64 (a1 - 1)), (by first | rfl | (simp; done) | (simp [*]; done)), (by first | rfl | (simp; done) | (simp [*]; done)), H', ⟨Nat.le_refl _⟩, ⟨by (with_reducible repeat (first | apply Kd.R_alloc | apply Kd.R_drewN | apply Kd.R_drew)); exact HO119.out⟩, ⟨by repeat (first | (with_reducible first | exact HB.out | apply below_alloc | apply pw_below_drewN | apply below_drew1) | exact HB.out)⟩⟩
      case round =>
        clear H'
        try clear p2
        try clear c3
        try clear c3b0
        try clear c3b1
        try clear c4
        try clear c4b0
        try clear c4b1
        try clear c5
        try clear p6
        obtain ⟨x0_1, x5_1, x6_1, rfl, rfl, HA, HK1, HO_5, HB⟩ := hrel
        cases gk with
        | zero => exact absurd HA.out (by simp [freightref1_Fixed.l0])
        | succ k1 =>
          have H := HA.out
          clear HA
          simp only [freightref1_Fixed.l0] at H
          by_cases c7 : x6_1 ≥ 0
          · rw [if_pos c7] at H
            have c7b0 : decide (0 ≤ x6_1) = true := decide_eq_true c7
            clear c7
            by_cases c8 : 0 ≤ x6_1
            · rw [if_pos c8] at H
              have c8b0 : decide (0 ≤ x6_1) = true := decide_eq_true c8
              clear c8
              by_cases c9 : x6_1 < (x5_1.length : Int)
              · rw [if_pos c9] at H
                have c9b0 : decide (x6_1 < (x5_1.length : Int)) = true := decide_eq_true c9
                clear c9
                obtain ⟨y120, hy120⟩ : ∃ y_ : List Int, y_ = (x5_1.set (x6_1 : Int).toNat ((Int.tmod x0_1 256) % 256)) := ⟨_, rfl⟩
                replace H : (freightref1_Fixed.l0 k1 (wrap64 (Int.tdiv x0_1 256)) y120 (wrap64 (x6_1 - 1))) = some r := by first | (rw [hy120]; with_reducible exact H) | (have H2_ := (Option.bind_some _ _).symm.trans H; rw [hy120]; with_reducible exact H2_) | (have H2_ := (Option.bind_some _ _).symm.trans H; with_reducible exact H2_) | with_reducible exact H | (rw [hy120]; exact H) | exact H
                have Ny120 := Aside0.mk hy120
                clear hy120
                have H' := Aside0.mk H
                clear H
                have p10 : 0 ≤ (x6_1 : Int) := of_decide_eq_true (by first | (with_reducible assumption) | assumption)
                have q10 : (x6_1 : Int) < ((x5_1.length : Int) : Int) := of_decide_eq_true (by first | (with_reducible assumption) | assumption)
                obtain ⟨go10, co10, eo10, gb10, gl10, cl10, HG10⟩ := Kd.R_form HO_5.out (by omega)
                (first | cases eo10 | (injection eo10 with ea_ en_ ec_; (first | subst ea_ | (injection ea_ with ea_; subst ea_)); subst ec_; clear en_))
                have GB10 := Aside0.mk gb10
                have GG10 := Aside0.mk HG10
                clear gb10 gl10 HG10
                obtain ⟨hx10_0, hf10_0⟩ := Kd.R_celln 0 HO_5.out (x6_1 : Int) p10 q10
                replace p10 := eq_true p10
                replace q10 := eq_true q10
                have HP11 := Kd.R_putg HO_5.out (x6_1 : Int) ((Int.tmod x0_1 256) % 256)
                go_wp2_with (first | ((with_reducible refine gate_store (t := 5) (p := 20) rfl ?_); refine store_event (t := 5) (p := 20) (v := ?vo_w12) (w1 := (wr.setCell ⟨go10, (x6_1 : Int).toNat, none⟩ (.int .u8 ((Int.tmod x0_1 256) % 256)))) ?hg ?ho ?hn ?hr ?_; (case ho => rfl); (case hg => rfl); (case hn => rfl); (case hr => first | (go_simp; done) | (go_simp; rfl)); intro w12 hw; have hg : wr.grownBy w12 (some go10) := (by rw [hw]; exact HP11.2); have hp_ : Kd.R (Kd.int .u8) 5 w12 w.heap.size (fun _ => True) (.slice (some ⟨go10, 0, none⟩) x5_1.length co10) y120 := (by rw [hw, Ny120.out]; exact HP11.1); clear HP11; have n0_ := Aside0.mk (hp_); have n1_ := Aside0.mk ((by rw [hw]; exact below_set (HB.out) GB10.out : Below w.heap.size w w12)); clear HO_5; clear HB; have HO_5 := n0_; have HB := n1_; clear n0_ n1_; clear hg hw hp_))
                go_roundg k1
                case measure => have := HK1.out; omega
                case rel => exact ⟨(wrap64 (Int.tdiv x0_1 256)), (y120), (wrap64 (x6_1 - 1)), (by first | rfl | (simp; done) | (simp [*]; done)), (by first | rfl | (simp; done) | (simp [*]; done)), H', ⟨by have := HK1.out; omega⟩, ⟨by (with_reducible repeat (first | apply Kd.R_alloc | apply Kd.R_drewN | apply Kd.R_drew)); exact HO_5.out⟩, ⟨by repeat (first | (with_reducible first | exact HB.out | apply below_alloc | apply pw_below_drewN | apply below_drew1) | exact HB.out)⟩⟩
              · rw [if_neg c9] at H
                exact absurd H (by simp)
            · rw [if_neg c8] at H
              exact absurd H (by simp)
          · rw [if_neg c7] at H
            have c7b0 : decide (0 ≤ x6_1) = false := decide_eq_false c7
            clear c7
            obtain rfl := Option.some.inj H
            go_wp2
            go_ret
            exact ⟨_, by first | rfl | (simp [errW_none, errW_some] <;> rfl) | (simp [*, errW_none, errW_some] <;> rfl), by (with_reducible repeat (first | apply Kd.R_alloc | apply Kd.R_drewN | apply Kd.R_drew)); exact HO_5.out, by repeat (first | (with_reducible first | exact HB.out | apply below_alloc | apply pw_below_drewN | apply below_drew1) | exact HB.out)⟩
    · rw [if_neg c4] at H
      exact absurd H (by simp)
  · rw [if_neg c3] at H
    exact absurd H (by simp)

/-! ### freightref1_Sum: function 60 -/
mutual
def freightref1_Sum.l0 : Nat → List Int → Int → Int → Option (Int)
  | 0, _, _, _ => none
  | k + 1, x0, x3, x4 => if x4 < (x0.length : Int) then (if 0 ≤ x4 then (freightref1_Sum.l1 k x0 (Go.bits .xor .i64 x3 (wrap64 (rd x0 x4))) x4 0) else (none)) else (some (wrap64 (4294967295 - x3)))
def freightref1_Sum.l1 : Nat → List Int → Int → Int → Int → Option (Int)
  | 0, _, _, _, _ => none
  | k + 1, x0, x3, x4, x5 => if x5 < 8 then (if (Int.tmod x3 2) = 1 then (freightref1_Sum.l1 k x0 (Go.bits .xor .i64 (wrap64 (Int.tdiv x3 2)) 3988292384) x4 (wrap64 (x5 + 1))) else (freightref1_Sum.l1 k x0 (wrap64 (Int.tdiv x3 2)) x4 (wrap64 (x5 + 1)))) else (freightref1_Sum.l0 k x0 x3 (wrap64 (x4 + 1)))
end
def freightref1_Sum.f (k : Nat) (l0 : List Int) : Option (Int) := freightref1_Sum.l0 k l0 4294967295 0
theorem freightref1_Sum.mono_l : ∀ k, (∀ y0 y1 y2, LeO (freightref1_Sum.l0 k y0 y1 y2) (freightref1_Sum.l0 (k + 1) y0 y1 y2)) ∧ (∀ y0 y1 y2 y3, LeO (freightref1_Sum.l1 k y0 y1 y2 y3) (freightref1_Sum.l1 (k + 1) y0 y1 y2 y3))
  | 0 => ⟨fun _ _ _ r h => by simp [freightref1_Sum.l0] at h, fun _ _ _ _ r h => by simp [freightref1_Sum.l1] at h⟩
  | k + 1 => by
    obtain ⟨ih0, ih1⟩ := freightref1_Sum.mono_l k
    refine ⟨?_, ?_⟩
    · intro y0 y1 y2
      unfold freightref1_Sum.l0
      repeat' first
      | (with_reducible exact ih0 _ _ _)
      | (with_reducible exact ih1 _ _ _ _)
      | (with_reducible exact LeO.refl _)
      | (with_reducible exact LeO.none _)
      | (with_reducible refine LeO.ite ?_ ?_)
      | (with_reducible refine LeO.bind ?_ (fun _ => ?_))
      | exact ih0 _ _ _
      | exact ih1 _ _ _ _
      | exact LeO.none _
      | refine LeO.ite ?_ ?_
      | refine LeO.bind ?_ (fun _ => ?_)
    · intro y0 y1 y2 y3
      unfold freightref1_Sum.l1
      repeat' first
      | (with_reducible exact ih0 _ _ _)
      | (with_reducible exact ih1 _ _ _ _)
      | (with_reducible exact LeO.refl _)
      | (with_reducible exact LeO.none _)
      | (with_reducible refine LeO.ite ?_ ?_)
      | (with_reducible refine LeO.bind ?_ (fun _ => ?_))
      | exact ih0 _ _ _
      | exact ih1 _ _ _ _
      | exact LeO.none _
      | refine LeO.ite ?_ ?_
      | refine LeO.bind ?_ (fun _ => ?_)
theorem freightref1_Sum.mono : ∀ a0 k, LeO (freightref1_Sum.f k a0) (freightref1_Sum.f (k + 1) a0) := by
  intro a0 k
  obtain ⟨ih0, ih1⟩ := freightref1_Sum.mono_l k
  unfold freightref1_Sum.f
  repeat' first
      | (with_reducible exact ih0 _ _ _)
      | (with_reducible exact ih1 _ _ _ _)
      | (with_reducible exact LeO.refl _)
      | (with_reducible exact LeO.none _)
      | (with_reducible refine LeO.ite ?_ ?_)
      | (with_reducible refine LeO.bind ?_ (fun _ => ?_))
      | exact ih0 _ _ _
      | exact ih1 _ _ _ _
      | exact LeO.none _
      | refine LeO.ite ?_ ?_
      | refine LeO.bind ?_ (fun _ => ?_)
set_option maxHeartbeats 8000000 in
set_option maxRecDepth 100000 in
theorem freightref1_Sum.calls (k : Nat) (A0 : Option Addr) (c0 : Nat) (l0 : List Int) (r : Int) (w : World) (hr0 : Kd.C (Kd.int .u8) w A0 l0.length l0) (hc0 : l0.length ≤ c0) (h : freightref1_Sum.f k l0 = some r) :
    Calls Tryz.prog 60 #[.slice A0 l0.length c0] w fun e w' => e = .returned (.int .i64 r) ∧ Drawn0 w w' := by
  have HR0 := Aside0.mk hr0
  have HC0 := Aside0.mk hc0
  clear hr0 hc0
  have H : (freightref1_Sum.l0 k l0 4294967295 0) = some r := h
  clear h
  have H' := Aside0.mk H
  clear H
  go_enter Tryz.func60, Tryz.ntmps60
  go_wp2
  go_loopg [3, 4] k (fun kq v3 v4 w' => ∃ (x3_1 : Int) (x4_1 : Int), v3 = .int .i64 x3_1 ∧ v4 = .int .i64 x4_1 ∧ Aside0 (freightref1_Sum.l0 kq l0 x3_1 x4_1 = some r) ∧ Aside0 (kq ≤ k) ∧ Drawn0 w w')
  case atStart => exact ⟨(4294967295), (0), (by first | rfl | (simp; done) | (simp [*]; done)), (by first | rfl | (simp; done) | (simp [*]; done)), H', ⟨Nat.le_refl _⟩, by repeat (first | exact Drawn0.refl _ | apply Drawn0.step)⟩
  case round =>
    clear H'
    obtain ⟨x3_1, x4_1, rfl, rfl, HA, HK1, ⟨m1, rfl⟩⟩ := hrel
    cases gk with
    | zero => exact absurd HA.out (by simp [freightref1_Sum.l0])
    | succ k1 =>
      have H := HA.out
      clear HA
      simp only [freightref1_Sum.l0] at H
      by_cases c2 : x4_1 < (l0.length : Int)
      · rw [if_pos c2] at H
        have c2b0 : decide (x4_1 < (l0.length : Int)) = true := decide_eq_true c2
        clear c2
        by_cases c3 : 0 ≤ x4_1
        · rw [if_pos c3] at H
          have c3b0 : decide (0 ≤ x4_1) = true := decide_eq_true c3
          clear c3
          have H' := Aside0.mk H
          clear H
          have p121 : 0 ≤ (x4_1 : Int) := of_decide_eq_true (by first | (with_reducible assumption) | assumption)
          have q121 : x4_1 < (l0.length : Int) := of_decide_eq_true (by first | (with_reducible assumption) | assumption)
          obtain ⟨ad121, e121, hx121_0⟩ := Kd.at_int HR0.out x4_1 p121 q121
          cases e121
          replace p121 := eq_true p121
          replace q121 := eq_true q121
          go_wp2
          go_loopg [3, 5] k1 (fun kq v3 v5 w' => ∃ (x3_2 : Int) (x5_2 : Int), v3 = .int .i64 x3_2 ∧ v5 = .int .i64 x5_2 ∧ Aside0 (freightref1_Sum.l1 kq l0 x3_2 x4_1 x5_2 = some r) ∧ Aside0 (kq ≤ k1) ∧ Drawn0 w w')
          case atStart => exact ⟨(Go.bits .xor .i64 x3_1 (wrap64 (rd l0 x4_1))), (0), (by first | rfl | (simp; done) | (simp [*]; done)), (by first | rfl | (simp; done) | (simp [*]; done)), H', ⟨Nat.le_refl _⟩, by repeat (first | exact Drawn0.refl _ | apply Drawn0.step)⟩
          case round =>
            clear H'
            try clear p1
            try clear q1
            try clear hx1
            try clear c2
            try clear c2b0
            try clear p2
            try clear c3
            try clear c3b0
            try clear hx121_0
            try clear p121
            try clear q121
            obtain ⟨x3_2, x5_2, rfl, rfl, HA, HK2, ⟨m2, rfl⟩⟩ := hrel
            cases gk with
            | zero => exact absurd HA.out (by simp [freightref1_Sum.l1])
            | succ k2 =>
              have H := HA.out
              clear HA
              simp only [freightref1_Sum.l1] at H
              by_cases c4 : x5_2 < 8
              · rw [if_pos c4] at H
                have c4b0 : decide (x5_2 < 8) = true := decide_eq_true c4
                clear c4
                by_cases c5 : (Int.tmod x3_2 2) = 1
                · rw [if_pos c5] at H
                  have c5b0 : ((Int.tmod x3_2 2) == 1) = true := beq_iff_eq.mpr c5
                  have c5b1 : ((Int.tmod x3_2 2) != 1) = false := bne_eq_false_iff_eq.mpr c5
                  clear c5
                  have H' := Aside0.mk H
                  clear H
                  go_wp2
                  go_roundg k2
                  case measure => have := HK1.out; have := HK2.out; omega
                  case rel => exact ⟨(Go.bits .xor .i64 (wrap64 (Int.tdiv x3_2 2)) 3988292384), (wrap64 (x5_2 + 1)), (by first | rfl | (simp; done) | (simp [*]; done)), (by first | rfl | (simp; done) | (simp [*]; done)), H', ⟨by have := HK1.out; have := HK2.out; omega⟩, by repeat (first | exact Drawn0.refl _ | apply Drawn0.step)⟩
                · rw [if_neg c5] at H
                  have c5b0 : ((Int.tmod x3_2 2) == 1) = false := beq_eq_false_iff_ne.mpr c5
                  have c5b1 : ((Int.tmod x3_2 2) != 1) = true := bne_iff_ne.mpr c5
                  have H' := Aside0.mk H
                  clear H
                  go_wp2
                  go_roundg k2
                  case measure => have := HK1.out; have := HK2.out; omega
                  case rel => exact ⟨(wrap64 (Int.tdiv x3_2 2)), (wrap64 (x5_2 + 1)), (by first | rfl | (simp; done) | (simp [*]; done)), (by first | rfl | (simp; done) | (simp [*]; done)), H', ⟨by have := HK1.out; have := HK2.out; omega⟩, by repeat (first | exact Drawn0.refl _ | apply Drawn0.step)⟩
              · rw [if_neg c4] at H
                have c4b0 : decide (x5_2 < 8) = false := decide_eq_false c4
                clear c4
                have H' := Aside0.mk H
                clear H
                go_wp2
                go_roundg k2
                case measure => have := HK1.out; have := HK2.out; omega
                case rel => exact ⟨(x3_2), (wrap64 (x4_1 + 1)), (by first | rfl | (simp; done) | (simp [*]; done)), (by first | rfl | (simp; done) | (simp [*]; done)), H', ⟨by have := HK1.out; have := HK2.out; omega⟩, by repeat (first | exact Drawn0.refl _ | apply Drawn0.step)⟩
        · rw [if_neg c3] at H
          exact absurd H (by simp)
      · rw [if_neg c2] at H
        have c2b0 : decide (x4_1 < (l0.length : Int)) = false := decide_eq_false c2
        clear c2
        obtain rfl := Option.some.inj H
        go_wp2
        go_ret
        exact ⟨by first | rfl | (simp; done) | (simp [*]; done), by repeat (first | exact Drawn0.refl _ | apply Drawn0.step)⟩

-- NOT PRINTED: function 20 (freightref16_Encode)

-- NOT PRINTED: function 103 (reflectlite_ValueOf)

-- NOT PRINTED: function 104 (reflectlite_Value_Type)

-- NOT PRINTED: function 105 (reflectlite_Value_IsNil)

-- NOT PRINTED: function 76 (reflectlite_TypeOf)

-- NOT PRINTED: function 143 (reflectlite_Value_Elem)

-- NOT PRINTED: function 144 (reflectlite_Value_Set)

-- NOT PRINTED: function 106 (errors_as)

-- NOT PRINTED: function 61 (errors_As)

-- NOT PRINTED: function 34 (api_Code)

-- NOT PRINTED: function 21 (freightlaw16_says)

end Go.Proofs.YtdekmeanlcpenaaGreatDoor.PIntakeEncodes

namespace Go.Proofs.YtdekmeanlcpenaaGreatDoor.Mid
open Go.RowKit Go.Proofs.YtdekmeanlcpenaaGreatDoorW.PrintWords

/-- These cells lie from address p on. -/
def At (w : World) (p : Addr) (cs : List Value) : Prop := ∀ j v, cs[j]? = some v → w.cell? (p.add j) = some v

section
variable {P : Program}
theorem At.mid {w : World} {b o : Nat} {cs : List Value} (h : w.rangeAt b o cs) : At w ⟨b, o, none⟩ cs := fun j v hv => by rw [Addr.add_mid]; exact h j v hv
theorem At.range {w : World} {b o : Nat} {cs : List Value} (h : At w ⟨b, o, none⟩ cs) : w.rangeAt b o cs := fun j v hv => by have := h j v hv; rwa [Addr.add_mid] at this
theorem At.part {w : World} {p : Addr} {cs : List Value} (h : At w p cs) (i m : Nat) : At w (p.add i) ((cs.drop i).take m) := fun j v hv => by
  rw [Addr.add_add]
  refine h _ v ?_
  rw [List.getElem?_take] at hv
  split at hv
  · rwa [List.getElem?_drop] at hv
  · cases hv
theorem At.move {w w1 : World} {p : Addr} {cs : List Value} (h : At w p cs) (hm : w1.heap[p.block]? = w.heap[p.block]?) : At w1 p cs := fun j v hv => by
  have h1 := h j v hv
  have hb : (p.add j).block = p.block := by unfold Addr.add; split <;> rfl
  rw [World.cell?, hb, hm, ← hb]
  exact h1
theorem At.lt {w : World} {p : Addr} {cs : List Value} (h : At w p cs) (hc : cs ≠ []) : p.block < w.heap.size := by
  obtain ⟨c, r, rfl⟩ := List.exists_cons_of_ne_nil hc
  have h1 := h 0 c rfl
  rcases Nat.lt_or_ge p.block w.heap.size with h2 | h2
  · exact h2
  · have hb : (p.add 0).block = p.block := by unfold Addr.add; split <;> rfl
    simp [World.cell?, hb, Array.getElem?_eq_none h2] at h1
theorem At.below {w w1 : World} {p : Addr} {cs : List Value} (h : At w p cs) (hb : Below w.heap.size w w1) : At w1 p cs := by
  by_cases hc : cs = []
  · subst hc; intro j v hv; simp at hv
  · exact h.move (hb.block _ (h.lt hc))

theorem run_loadVar_at (w : World) (p : Addr) (ty : TypeId) (cs : List Value) (d : TypeDesc) (hc : At w p cs) (hu : P.underlying ty = some d) (hd : d.isRow = true) (hi : (P.info? ty).map (·.size) = some cs.length) :
    (loadVar ty p).run P w = .ok (.agg cs.toArray) w := by
  have hl : (loadCells p cs.length).run P w = .ok cs.toArray w := run_loadCells_list (P := P) w p cs hc
  cases hq : P.info? ty with
  | none => simp [hq] at hi
  | some i =>
    have hs : i.size = cs.length := by simpa [hq] using hi
    have hagg : (isAgg ty).run P w = .ok true w := by
      unfold isAgg
      rw [Sem.run_bind, run_underlying hu w]
      cases d <;> simp_all
    simp [loadVar, Sem.run_bind, hagg, sizeOf, typeInfo, hq, hs, hl]
theorem run_load (w : World) (p : Addr) (ty : TypeId) (cs : List Value) (d : TypeDesc) (hc : At w p cs) (hu : P.underlying ty = some d) (hd : d.isRow = true) (hi : (P.info? ty).map (·.size) = some cs.length) :
    (Instr.loadAt ty (.pointer (some p))).run P w = .ok (.agg cs.toArray) w := by
  simp only [Instr.loadAt, Instr.sureAddr, Sem.run_bind, Sem.run_pure, Result.andThen_ok, run_loadVar_at w p ty cs d hc hu hd hi]
end

/-! ### Kinds of elements without memory of their own -/
def flat {α : Type} (sz : Nat) (R : α → List Value → Prop) (hl : ∀ {x cs}, R x cs → cs.length = sz) (h1 : ∀ {x cs}, R x cs → ∀ u ∈ cs, u.oneCell' = true) : Kd α where
  sz := sz
  E := []
  K := fun _ x cs => R x cs
  M := fun _ _ _ x cs => R x cs
  K_len := hl
  K_one := h1
  K_below := fun _ h => h
  K_of_M := fun h => h
  M_mono := fun _ h => h
  M_bound := fun h => h
  M_move := fun _ h => h
  M_lower := fun _ h => h

def Bs (x : List Int) : Prop := ∀ u ∈ x, 0 ≤ u ∧ u ≤ 255
def u8s (x : List Int) : List Value := x.map (Value.int .u8)
theorem u8s_length (x : List Int) : (u8s x).length = x.length := by simp [u8s]
theorem u8s_one {x : List Int} : ∀ v ∈ u8s x, v.oneCell' = true := by
  intro v hv
  obtain ⟨u, _, rfl⟩ := List.mem_map.1 hv
  rfl
theorem u8s_inj {x y : List Int} (h : u8s x = u8s y) : x = y := by
  refine List.map_inj_right (f := Value.int .u8) ?_ |>.1 h
  intro a b e
  injection e
/-- An id. -/
structure IdOk (x : List Int) : Prop where
  len : x.length = 32
  bytes : Bs x
def idv (x : List Int) : Value := .agg (u8s x).toArray
def idK : Kd (List Int) := flat 32 (fun x cs => IdOk x ∧ cs = u8s x) (fun h => by rw [h.2, u8s_length, h.1.len]) (fun h => by rw [h.2]; exact u8s_one)
/-- A result: its action, its root, its code. -/
structure Res where
  act : List Int
  root : List Int
  code : Int
instance : DecidableEq Res := fun a b =>
  if h : a.act = b.act ∧ a.root = b.root ∧ a.code = b.code then .isTrue (by cases a; cases b; obtain ⟨h1, h2, h3⟩ := h; simp only at h1 h2 h3; subst h1 h2 h3; rfl)
  else .isFalse (fun e => h (by subst e; exact ⟨rfl, rfl, rfl⟩))
structure ResOk (r : Res) : Prop where
  act : IdOk r.act
  root : IdOk r.root
  code : -9223372036854775808 ≤ r.code ∧ r.code ≤ 9223372036854775807
def resC (r : Res) : List Value := u8s r.act ++ (u8s r.root ++ [.int .i64 r.code])
def resv (r : Res) : Value := .agg (resC r).toArray
theorem resC_length {r : Res} (h : ResOk r) : (resC r).length = 65 := by simp [resC, u8s_length, h.act.len, h.root.len]
theorem resC_one {r : Res} : ∀ v ∈ resC r, v.oneCell' = true := by
  intro v hv
  simp only [resC, List.mem_append, List.mem_singleton] at hv
  rcases hv with hv | hv | rfl
  · exact u8s_one v hv
  · exact u8s_one v hv
  · rfl
def resK : Kd Res := flat 65 (fun r cs => ResOk r ∧ cs = resC r) (fun h => by rw [h.2, resC_length h.1]) (fun h => by rw [h.2]; exact resC_one)

section
variable {w : World} {A : Option Addr} {n : Nat}
/-- The id at a place of a slice. -/
theorem id_at {xs : List (List Int)} (h : idK.C w A n xs) (i : Nat) (hi : i < n) : ∃ ad x, A = some ad ∧ xs[i]? = some x ∧ IdOk x ∧ At w (ad.add (i * 32)) (u8s x) := by
  obtain ⟨ad, c, e, _, ⟨hk, rfl⟩, hc⟩ := Kd.C_get h ([] : List Int) (i : Int) (by omega) (by omega)
  have hl : i < xs.length := by have := h.1; omega
  have hx : xs[i]? = some (xs.getD ((i : Int).toNat) []) := by rw [Int.toNat_natCast, List.getD_eq_getElem?_getD, List.getElem?_eq_getElem hl]; rfl
  exact ⟨ad, _, e, hx, hk, fun j v hv => by rw [Addr.add_add]; exact hc j v hv⟩
/-- The result at a place of a slice. -/
theorem res_at {rs : List Res} (h : resK.C w A n rs) (i : Nat) (hi : i < n) : ∃ ad r, A = some ad ∧ rs[i]? = some r ∧ ResOk r ∧ At w (ad.add (i * 65)) (resC r) := by
  obtain ⟨ad, c, e, _, ⟨hk, rfl⟩, hc⟩ := Kd.C_get h (⟨[], [], 0⟩ : Res) (i : Int) (by omega) (by omega)
  have hl : i < rs.length := by have := h.1; omega
  have hx : rs[i]? = some (rs.getD ((i : Int).toNat) ⟨[], [], 0⟩) := by rw [Int.toNat_natCast, List.getD_eq_getElem?_getD, List.getElem?_eq_getElem hl]; rfl
  exact ⟨ad, _, e, hx, hk, fun j v hv => by rw [Addr.add_add]; exact hc j v hv⟩
end
/-- The parts of a result. -/
theorem res_act {w : World} {p : Addr} {r : Res} (h : At w p (resC r)) : At w p (u8s r.act) := by
  intro j v hv
  refine h j v ?_
  rw [resC, List.getElem?_append_left (by exact (List.getElem?_eq_some_iff.1 hv).1)]
  exact hv
theorem res_root {w : World} {p : Addr} {r : Res} (hr : ResOk r) (h : At w p (resC r)) : At w (p.add 32) (u8s r.root) := by
  intro j v hv
  rw [Addr.add_add]
  refine h _ v ?_
  have hl : j < (u8s r.root).length := (List.getElem?_eq_some_iff.1 hv).1
  have ha : (u8s r.act).length = 32 := by rw [u8s_length, hr.act.len]
  rw [resC, List.getElem?_append_right (by omega), ha, Nat.add_sub_cancel_left, List.getElem?_append_left hl]
  exact hv
theorem res_code {w : World} {p : Addr} {r : Res} (hr : ResOk r) (h : At w p (resC r)) : w.cell? (p.add 64) = some (.int .i64 r.code) := by
  refine h 64 _ ?_
  have ha : (u8s r.act).length = 32 := by rw [u8s_length, hr.act.len]
  have hb : (u8s r.root).length = 32 := by rw [u8s_length, hr.root.len]
  rw [resC, List.getElem?_append_right (by omega), ha, List.getElem?_append_right (by omega), hb]
  rfl

/-! ### '==' -/
theorem mapM_some {α β : Type} {f : α → Option β} {g : α → β} : ∀ l : List α, (∀ x ∈ l, f x = some (g x)) → l.mapM f = some (l.map g)
  | [], _ => rfl
  | a :: r, h => by
    rw [List.mapM_cons, h a (by simp), mapM_some r (fun x hx => h x (List.mem_cons_of_mem _ hx))]
    rfl
section
variable {P : Program}
theorem wf_u8' {n : Int} (h : 0 ≤ n ∧ n ≤ 255) : (Lit.int .u8 n).wf = true := by
  have h1 : IntKind.u8.min = 0 := rfl
  have h2 : IntKind.u8.max = 255 := rfl
  simp [Lit.wf, h1, h2]; omega
theorem keyLits_u8s {t e n d : Nat} (hu : P.underlying t = some (.array n e)) (he : P.underlying e = some (.int .u8)) (h1 : P.cellsOf e = 1) (hn : P.cellsOf t = n) {x : List Int} (hl : x.length = n) (hb : Bs x) :
    P.keyLits (d + 2) t (u8s x) = some (x.map (Lit.int .u8)) := by
  unfold Program.keyLits
  simp only [hu]
  rw [if_pos (by rw [u8s_length, hl, hn])]
  rw [mapM_some (g := fun i => [Lit.int .u8 (x.getD i 0)])]
  · simp only [Option.map_some, Option.some.injEq]
    rw [← List.flatMap_def]
    apply List.ext_getElem?
    intro i
    have hfl : ∀ (m : Nat), m ≤ n → ((List.range m).flatMap fun i => [Lit.int .u8 (x.getD i 0)]) = (x.take m).map (Lit.int .u8) := by
      intro m hm
      induction m with
      | zero => rfl
      | succ m ih =>
        rw [List.range_succ, List.flatMap_append, ih (by omega), List.take_add_one, List.map_append]
        have : x[m]? = some (x.getD m 0) := by rw [List.getD_eq_getElem?_getD, List.getElem?_eq_getElem (by omega)]; rfl
        rw [this]
        simp
    rw [hfl n (Nat.le_refl _), List.take_of_length_le (by omega)]
  · intro i hi
    have hi' : i < n := List.mem_range.1 hi
    have hxi : x[i]? = some (x.getD i 0) := by rw [List.getD_eq_getElem?_getD, List.getElem?_eq_getElem (by omega)]; rfl
    have hcell : ((u8s x).drop (i * P.cellsOf e)).take (P.cellsOf e) = [.int .u8 (x.getD i 0)] := by
      rw [h1, Nat.mul_one]
      have : (u8s x)[i]? = some (.int .u8 (x.getD i 0)) := by rw [u8s, List.getElem?_map, hxi]; rfl
      rw [List.drop_eq_getElem_cons (by rw [u8s_length]; omega)]
      rw [List.getElem?_eq_getElem (by rw [u8s_length]; omega)] at this
      rw [Option.some.inj this]
      rfl
    rw [hcell]
    unfold Program.keyLits
    simp only [he]
    have hwf := wf_u8' (hb _ (List.mem_of_getElem? hxi))
    rw [if_pos ⟨trivial, hwf⟩]
end
end Go.Proofs.YtdekmeanlcpenaaGreatDoor.Mid

namespace Go.Proofs.YtdekmeanlcpenaaGreatDoor.Mid

/-- How two ids stand. -/
def cmp : List Int → List Int → Int
  | x :: xs, y :: ys => if x < y then -1 else if y < x then 1 else cmp xs ys
  | _, _ => 0
theorem cmp_vals : ∀ x y, cmp x y = -1 ∨ cmp x y = 0 ∨ cmp x y = 1
  | [], y => by right; left; cases y <;> rfl
  | x :: xs, [] => by right; left; rfl
  | x :: xs, y :: ys => by
    rw [cmp]
    split
    · exact .inl rfl
    · split
      · exact .inr (.inr rfl)
      · exact cmp_vals xs ys
theorem cmp_self : ∀ x, cmp x x = 0
  | [] => rfl
  | x :: xs => by rw [cmp, if_neg (by omega), if_neg (by omega)]; exact cmp_self xs
theorem cmp_anti : ∀ x y, cmp y x = - cmp x y
  | [], y => by cases y <;> rfl
  | x :: xs, [] => rfl
  | x :: xs, y :: ys => by
    rw [cmp, cmp]
    by_cases h1 : x < y
    · rw [if_pos h1, if_neg (by omega), if_pos h1]; rfl
    · by_cases h2 : y < x
      · simp [h1, h2]
      · rw [if_neg h1, if_neg h2, if_neg h2, if_neg h1]; exact cmp_anti xs ys
theorem cmp_zero : ∀ {x y : List Int}, x.length = y.length → cmp x y = 0 → x = y
  | [], [], _, _ => rfl
  | x :: xs, y :: ys, hl, h => by
    rw [cmp] at h
    split at h
    · cases h
    · split at h
      · cases h
      · rw [cmp_zero (by simpa using hl) h, show x = y by omega]
theorem cmp_trans : ∀ {x y z : List Int}, x.length = y.length → y.length = z.length → cmp x y ≤ 0 → cmp y z ≤ 0 → cmp x z ≤ 0
  | [], [], [], _, _, _, _ => by decide
  | x :: xs, y :: ys, z :: zs, h1, h2, h3, h4 => by
    have ih := @cmp_trans xs ys zs (by simpa using h1) (by simpa using h2)
    rw [cmp] at h3 h4 ⊢
    split at h3
    · split at h4
      · rw [if_pos (by omega)]; decide
      · split at h4
        · exact absurd h4 (by decide)
        · rw [if_pos (by omega)]; decide
    · split at h3
      · exact absurd h3 (by decide)
      · split at h4
        · rw [if_pos (by omega)]; decide
        · split at h4
          · exact absurd h4 (by decide)
          · rw [if_neg (by omega), if_neg (by omega)]; exact ih h3 h4
theorem cmp_lt_trans {x y z : List Int} (h1 : x.length = y.length) (h2 : y.length = z.length) (h3 : cmp x y < 0) (h4 : cmp y z < 0) : cmp x z < 0 := by
  have h5 := cmp_trans h1 h2 (by omega) (by omega)
  by_cases h : cmp x z < 0
  · exact h
  · have h6 : cmp x z = 0 := by omega
    have := cmp_zero (h1.trans h2) h6
    subst this
    have := cmp_anti x y
    omega

/-- A table: at most 32 results, rising by their actions, each with a code from 0 to 255. -/
structure Table (rs : List Res) : Prop where
  most : rs.length ≤ 32
  code : ∀ r ∈ rs, 0 ≤ r.code ∧ r.code ≤ 255
  rise : ∀ (i : Nat) (r s : Res), rs[i]? = some r → rs[i + 1]? = some s → cmp r.act s.act < 0

theorem Table.lt {rs : List Res} (T : Table rs) (ok : ∀ r ∈ rs, ResOk r) : ∀ (d i : Nat) (r s : Res), rs[i]? = some r → rs[i + 1 + d]? = some s → cmp r.act s.act < 0
  | 0, i, r, s, hr, hs => T.rise i r s hr hs
  | d + 1, i, r, s, hr, hs => by
    have hl : i + 1 + d < rs.length := by have := (List.getElem?_eq_some_iff.1 hs).1; omega
    obtain ⟨q, hq⟩ : ∃ q, rs[i + 1 + d]? = some q := ⟨_, List.getElem?_eq_getElem hl⟩
    have h1 := Table.lt T ok d i r q hr hq
    have h2 := T.rise (i + 1 + d) q s hq hs
    have l1 := (ok r (List.mem_of_getElem? hr)).act.len
    have l2 := (ok q (List.mem_of_getElem? hq)).act.len
    have l3 := (ok s (List.mem_of_getElem? hs)).act.len
    exact cmp_lt_trans (by omega) (by omega) h1 h2
/-- A table has no action twice. -/
theorem Table.once {rs : List Res} (T : Table rs) (ok : ∀ r ∈ rs, ResOk r) {i j : Nat} {r s : Res} (hr : rs[i]? = some r) (hs : rs[j]? = some s) (he : r.act = s.act) : i = j := by
  rcases Nat.lt_trichotomy i j with h | h | h
  · have h1 := T.lt ok (j - (i + 1)) i r s hr (by rw [show i + 1 + (j - (i + 1)) = j by omega]; exact hs)
    rw [he, cmp_self] at h1; omega
  · exact h
  · have h1 := T.lt ok (i - (j + 1)) j s r hs (by rw [show j + 1 + (i - (j + 1)) = i by omega]; exact hr)
    rw [he, cmp_self] at h1; omega

end Go.Proofs.YtdekmeanlcpenaaGreatDoor.Mid
