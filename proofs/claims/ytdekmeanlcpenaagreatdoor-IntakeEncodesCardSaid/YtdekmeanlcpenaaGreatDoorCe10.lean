import Derived.Test.YtdekmeanlcpenaaGreatDoorPIntakeEncodesx0
import Derived.Test.YtdekmeanlcpenaaGreatDoorCe5
import Derived.Test.YtdekmeanlcpenaaGreatDoorCe6
import Derived.Test.YtdekmeanlcpenaaGreatDoorCe1
import Derived.Test.YtdekmeanlcpenaaGreatDoorCe2
set_option linter.unusedSimpArgs false
set_option linter.unusedVariables false
-- the lines of the kit's print for functions 59, 56 and 57 of this seat
namespace Go.Proofs.YtdekmeanlcpenaaGreatDoor.PIntakeEncodes
open Go.RowKit Go.Proofs.YtdekmeanlcpenaaGreatDoorW.PrintWords Go.Proofs.YtdekmeanlcpenaaGreatDoorW.PrintLast Go.Proofs.YtdekmeanlcpenaaGreatDoorW.PrintMore
attribute [local go_sem] max2_int min2_int max_two min_two max_three min_three max_four min_four   -- for this text's walks alone
set_option linter.unusedVariables false
set_option linter.unusedSimpArgs false

/-! ### freightref1_Number: function 59 -/
def freightref1_Number.l0 : Nat → Int → List Int → Option (List Int)
  | 0, _, _ => none
  | k + 1, x0, x3 => if x0 ≥ 128 then (if x3.length < 140737488355328 then (freightref1_Number.l0 k (wrap64 (Int.tdiv x0 128)) (x3 ++ [(wrap64 (128 + (Int.tmod x0 128))) % 256])) else (none)) else (if x3.length < 140737488355328 then (some (x3 ++ [(x0) % 256])) else (none))
def freightref1_Number.f (k : Nat) (a0 : Int) : Option (List Int) := freightref1_Number.l0 k a0 ([] : List Int)
theorem freightref1_Number.mono_l : ∀ k, (∀ y0 y1, LeO (freightref1_Number.l0 k y0 y1) (freightref1_Number.l0 (k + 1) y0 y1))
  | 0 => fun _ _ r h => by simp [freightref1_Number.l0] at h
  | k + 1 => by
    have ih0 := freightref1_Number.mono_l k
    · intro y0 y1
      unfold freightref1_Number.l0
      repeat' first
      | (with_reducible exact ih0 _ _)
      | (with_reducible exact LeO.refl _)
      | (with_reducible exact LeO.none _)
      | (with_reducible refine LeO.ite ?_ ?_)
      | (with_reducible refine LeO.bind ?_ (fun _ => ?_))
      | exact ih0 _ _
      | exact LeO.none _
      | refine LeO.ite ?_ ?_
      | refine LeO.bind ?_ (fun _ => ?_)
theorem freightref1_Number.mono : ∀ a0 k, LeO (freightref1_Number.f k a0) (freightref1_Number.f (k + 1) a0) := by
  intro a0 k
  have ih0 := freightref1_Number.mono_l k
  unfold freightref1_Number.f
  repeat' first
      | (with_reducible exact ih0 _ _)
      | (with_reducible exact LeO.refl _)
      | (with_reducible exact LeO.none _)
      | (with_reducible refine LeO.ite ?_ ?_)
      | (with_reducible refine LeO.bind ?_ (fun _ => ?_))
      | exact ih0 _ _
      | exact LeO.none _
      | refine LeO.ite ?_ ?_
      | refine LeO.bind ?_ (fun _ => ?_)
set_option maxHeartbeats 8000000 in
set_option maxRecDepth 100000 in
theorem freightref1_Number.calls (k : Nat) (a0 : Int) (r : List Int) (w : World) (h : freightref1_Number.f k a0 = some r) :
    Calls Tryz.prog 59 #[.int .i64 a0] w fun e w' => ∃ v0_ : Value, e = .returned (v0_) ∧ Kd.R (Kd.int .u8) 5 w' w.heap.size (fun _ => True) v0_ r ∧ Below w.heap.size w w' := by
  have HB := Aside0.mk (Below.refl w.heap.size w)
  have H : (freightref1_Number.l0 k a0 ([] : List Int)) = some r := h
  clear h
  have H' := Aside0.mk H
  clear H
  go_enter Tryz.func59, Tryz.ntmps59
  go_wp2
  go_loopg [0, 3] k (fun kq v0 v3 w' => ∃ (x0_1 : Int) (x3_1 : List Int), v0 = .int .i64 x0_1 ∧ Aside0 (freightref1_Number.l0 kq x0_1 x3_1 = some r) ∧ Aside0 (kq ≤ k) ∧ Aside0 (Kd.R (Kd.int .u8) 5 w' w.heap.size (fun _ => True) v3 x3_1) ∧ Aside0 (Below w.heap.size w w'))
  case atStart => exact ⟨(a0), (([] : List Int)), (by first | rfl | (simp; done) | (simp [*]; done)), H', ⟨Nat.le_refl _⟩, ⟨by first | exact Kd.R_nil _ _ _ _ _ | exact Kd.N_nil _ _ _ _ _ | exact Kd.V_nil _ _ _ _ _ | exact Kd.Q_nil _ _ _ _ _ | exact Kd.S_nil _ _ _ _ _⟩, ⟨by repeat (first | (with_reducible first | exact HB.out | apply below_alloc | apply pw_below_drewN | apply below_drew1) | exact HB.out)⟩⟩
  case round =>
    clear H'
    obtain ⟨x0_1, x3_1, rfl, HA, HK1, HO_3, HB⟩ := hrel
    cases gk with
    | zero => exact absurd HA.out (by simp [freightref1_Number.l0])
    | succ k1 =>
      have H := HA.out
      clear HA
      simp only [freightref1_Number.l0] at H
      by_cases c2 : x0_1 ≥ 128
      · rw [if_pos c2] at H
        have c2b0 : decide (128 ≤ x0_1) = true := decide_eq_true c2
        clear c2
        by_cases c3 : x3_1.length < 140737488355328
        · rw [if_pos c3] at H
          have LMc3 := Aside0.mk c3
          clear c3
          obtain ⟨y101, hy101⟩ : ∃ y_ : List Int, y_ = (x3_1 ++ [(wrap64 (128 + (Int.tmod x0_1 128))) % 256]) := ⟨_, rfl⟩
          replace H : (freightref1_Number.l0 k1 (wrap64 (Int.tdiv x0_1 128)) y101) = some r := by first | (rw [hy101]; with_reducible exact H) | (have H2_ := (Option.bind_some _ _).symm.trans H; rw [hy101]; with_reducible exact H2_) | (have H2_ := (Option.bind_some _ _).symm.trans H; with_reducible exact H2_) | with_reducible exact H | (rw [hy101]; exact H) | exact H
          have Ny101 := Aside0.mk hy101
          clear hy101
          have H' := Aside0.mk H
          clear H
          go_wp2_with (first | ((with_reducible refine gate_builtin (b := .append) (xs := #[.tmp 6, .tmp 11]) rfl ?_); at_builtin; refine Kd.R_append (Kd.int .u8) (w0 := w) w.heap.size rfl (.tmp 6) (.tmp 11) 47 5 (.int .u8 0) 1 rfl Tryz.underlying47 info5 rfl (by decide) (by omega) u3 x3_1 ((wrap64 (128 + (Int.tmod x0_1 128))) % 256) [.int .u8 ((wrap64 (128 + (Int.tmod x0_1 128))) % 256)] (fun _ => True) (fun _ => False) rfl rfl ?aP (fun _ hk => hk.elim) ?aF ?aO ?aB ?aS ?aL ?_; (case aP => exact rfl); (case aB => exact (by repeat (first | (with_reducible first | exact HB.out | apply below_alloc | apply pw_below_drewN | apply below_drew1) | exact HB.out))); (case aF => exact (fun _ _ => trivial)); (case aO => exact (by (with_reducible repeat (first | apply Kd.R_alloc | apply Kd.R_drewN | apply Kd.R_drew)); exact HO_3.out)); (case aS => exact (below_size (by repeat (first | (with_reducible first | exact HB.out | apply below_alloc | apply pw_below_drewN | apply below_drew1) | exact HB.out)))); (case aL => have := LMc3.out; omega); intro v102 w4 ho hb hg hat; rw [← Ny101.out] at ho; have n0_ := Aside0.mk (hb); have n1_ := Aside0.mk (ho); clear HB; clear HO_3; have HB := n0_; have HO103 := n1_; clear n0_ n1_; clear ho hb hg hat))
          go_roundg k1
          case measure => have := HK1.out; omega
          case rel => exact ⟨(wrap64 (Int.tdiv x0_1 128)), (y101), (by first | rfl | (simp; done) | (simp [*]; done)), H', ⟨by have := HK1.out; omega⟩, ⟨by (with_reducible repeat (first | apply Kd.R_alloc | apply Kd.R_drewN | apply Kd.R_drew)); exact HO103.out⟩, ⟨by repeat (first | (with_reducible first | exact HB.out | apply below_alloc | apply pw_below_drewN | apply below_drew1) | exact HB.out)⟩⟩
        · rw [if_neg c3] at H
          exact absurd H (by simp)
      · rw [if_neg c2] at H
        have c2b0 : decide (128 ≤ x0_1) = false := decide_eq_false c2
        clear c2
        by_cases c5 : x3_1.length < 140737488355328
        · rw [if_pos c5] at H
          have LMc5 := Aside0.mk c5
          clear c5
          obtain ⟨y104, hy104⟩ : ∃ y_ : List Int, y_ = (x3_1 ++ [(x0_1) % 256]) := ⟨_, rfl⟩
          replace H : (some y104) = some r := by first | (rw [hy104]; with_reducible exact H) | (have H2_ := (Option.bind_some _ _).symm.trans H; rw [hy104]; with_reducible exact H2_) | (have H2_ := (Option.bind_some _ _).symm.trans H; with_reducible exact H2_) | with_reducible exact H | (rw [hy104]; exact H) | exact H
          have Ny104 := Aside0.mk hy104
          clear hy104
          obtain rfl := Option.some.inj H
          go_wp2_with (first | ((with_reducible refine gate_builtin (b := .append) (xs := #[.tmp 15, .tmp 18]) rfl ?_); at_builtin; refine Kd.R_append (Kd.int .u8) (w0 := w) w.heap.size rfl (.tmp 15) (.tmp 18) 47 5 (.int .u8 0) 1 rfl Tryz.underlying47 info5 rfl (by decide) (by omega) u3 x3_1 ((x0_1) % 256) [.int .u8 ((x0_1) % 256)] (fun _ => True) (fun _ => False) rfl rfl ?aP (fun _ hk => hk.elim) ?aF ?aO ?aB ?aS ?aL ?_; (case aP => exact rfl); (case aB => exact (by repeat (first | (with_reducible first | exact HB.out | apply below_alloc | apply pw_below_drewN | apply below_drew1) | exact HB.out))); (case aF => exact (fun _ _ => trivial)); (case aO => exact (by (with_reducible repeat (first | apply Kd.R_alloc | apply Kd.R_drewN | apply Kd.R_drew)); exact HO_3.out)); (case aS => exact (below_size (by repeat (first | (with_reducible first | exact HB.out | apply below_alloc | apply pw_below_drewN | apply below_drew1) | exact HB.out)))); (case aL => have := LMc5.out; omega); intro v105 w6 ho hb hg hat; rw [← Ny104.out] at ho; have n0_ := Aside0.mk (hb); have n1_ := Aside0.mk (ho); clear HB; clear HO_3; have HB := n0_; have HO106 := n1_; clear n0_ n1_; clear ho hb hg hat))
          go_ret
          exact ⟨_, by first | rfl | (simp [errW_none, errW_some] <;> rfl) | (simp [*, errW_none, errW_some] <;> rfl), by (with_reducible repeat (first | apply Kd.R_alloc | apply Kd.R_drewN | apply Kd.R_drew)); exact HO106.out, by repeat (first | (with_reducible first | exact HB.out | apply below_alloc | apply pw_below_drewN | apply below_drew1) | exact HB.out)⟩
        · rw [if_neg c5] at H
          exact absurd H (by simp)

-- NOT PRINTED: function 55 (freightref8_Encode)

/-! ### freightref16_put: function 56 -/
def freightref16_put.l0 : Nat → List Int → List Int → Int → Option (List Int)
  | 0, _, _, _ => none
  | k + 1, x0, x1, x5 => if x5 < (x1.length : Int) then (if 0 ≤ x5 then (if x0.length < 140737488355328 then (freightref16_put.l0 k (x0 ++ [rd x1 x5]) x1 (wrap64 (x5 + 1))) else (none)) else (none)) else (some x0)
def freightref16_put.f (k : Nat) (l0 : List Int) (l1 : List Int) : Option (List Int) := freightref16_put.l0 k l0 l1 0
theorem freightref16_put.mono_l : ∀ k, (∀ y0 y1 y2, LeO (freightref16_put.l0 k y0 y1 y2) (freightref16_put.l0 (k + 1) y0 y1 y2))
  | 0 => fun _ _ _ r h => by simp [freightref16_put.l0] at h
  | k + 1 => by
    have ih0 := freightref16_put.mono_l k
    · intro y0 y1 y2
      unfold freightref16_put.l0
      repeat' first
      | (with_reducible exact ih0 _ _ _)
      | (with_reducible exact LeO.refl _)
      | (with_reducible exact LeO.none _)
      | (with_reducible refine LeO.ite ?_ ?_)
      | (with_reducible refine LeO.bind ?_ (fun _ => ?_))
      | exact ih0 _ _ _
      | exact LeO.none _
      | refine LeO.ite ?_ ?_
      | refine LeO.bind ?_ (fun _ => ?_)
theorem freightref16_put.mono : ∀ a0 a1 k, LeO (freightref16_put.f k a0 a1) (freightref16_put.f (k + 1) a0 a1) := by
  intro a0 a1 k
  have ih0 := freightref16_put.mono_l k
  unfold freightref16_put.f
  repeat' first
      | (with_reducible exact ih0 _ _ _)
      | (with_reducible exact LeO.refl _)
      | (with_reducible exact LeO.none _)
      | (with_reducible refine LeO.ite ?_ ?_)
      | (with_reducible refine LeO.bind ?_ (fun _ => ?_))
      | exact ih0 _ _ _
      | exact LeO.none _
      | refine LeO.ite ?_ ?_
      | refine LeO.bind ?_ (fun _ => ?_)
set_option maxHeartbeats 8000000 in
set_option maxRecDepth 100000 in
theorem freightref16_put.calls (k : Nat) (P0_ : Nat → Prop) (u9000_ : Value) (l0 : List Int) (A1 : Option Addr) (c1 : Nat) (l1 : List Int) (r : List Int) (w0 w : World) (hB : Below w0.heap.size w0 w) (ho0 : Kd.R (Kd.int .u8) 5 w w0.heap.size P0_ u9000_ l0) (hr1 : ∀ W_, Kept w W_ (fun k_ => P0_ k_) → Kd.C (Kd.int .u8) W_ A1 l1.length l1) (hc1 : l1.length ≤ c1) (h : freightref16_put.f k l0 l1 = some r) :
    Calls Tryz.prog 56 #[u9000_, .slice A1 l1.length c1] w fun e w' => ∃ v0_ : Value, e = .returned (v0_) ∧ Kd.R (Kd.int .u8) 5 w' w0.heap.size (fun k_ => (P0_ k_ ∨ w.heap.size ≤ k_)) v0_ r ∧ Below w0.heap.size w0 w' ∧ Kept w w' (fun k_ => P0_ k_) := by
  have HO0 := Aside0.mk (show Kd.R (Kd.int .u8) 5 w w0.heap.size (fun k_ => (P0_ k_ ∨ w.heap.size ≤ k_)) u9000_ l0 from Kd.R_mono ho0 (fun k_ hk => (.inl hk)))
  have HR1 := Aside0.mk hr1
  have HC1 := Aside0.mk hc1
  clear hr1 hc1
  have HK := Aside0.mk (Kept.refl w (fun k_ => P0_ k_))
  have HW0 := Aside0.mk hB.size
  have HB := Aside0.mk hB
  clear hB
  have H : (freightref16_put.l0 k l0 l1 0) = some r := h
  clear h
  have H' := Aside0.mk H
  clear H
  go_enter Tryz.func56, Tryz.ntmps56
  go_wp2
  go_loopg [0, 5] k (fun kq v0 v5 w' => ∃ (x0_1 : List Int) (x5_1 : Int), v5 = .int .i64 x5_1 ∧ Aside0 (freightref16_put.l0 kq x0_1 l1 x5_1 = some r) ∧ Aside0 (kq ≤ k) ∧ Aside0 (Kd.R (Kd.int .u8) 5 w' w0.heap.size (fun k_ => (P0_ k_ ∨ w.heap.size ≤ k_)) v0 x0_1) ∧ Aside0 (Kept w w' (fun k_ => P0_ k_)) ∧ Aside0 (Below w0.heap.size w0 w'))
  case atStart => exact ⟨(l0), (0), (by first | rfl | (simp; done) | (simp [*]; done)), H', ⟨Nat.le_refl _⟩, ⟨by (with_reducible repeat (first | apply Kd.R_alloc | apply Kd.R_drewN | apply Kd.R_drew)); exact HO0.out⟩, ⟨by repeat (first | (with_reducible first | exact HK.out | apply Kept.alloc | apply Kept.drewN | apply Kept.drew) | exact HK.out)⟩, ⟨by repeat (first | (with_reducible first | exact HB.out | apply below_alloc | apply pw_below_drewN | apply below_drew1) | exact HB.out)⟩⟩
  case round =>
    clear H'
    try clear c1
    try clear p2
    obtain ⟨x0_1, x5_1, rfl, HA, HK1, HO_0, HK, HB⟩ := hrel
    cases gk with
    | zero => exact absurd HA.out (by simp [freightref16_put.l0])
    | succ k1 =>
      have H := HA.out
      clear HA
      simp only [freightref16_put.l0] at H
      by_cases c3 : x5_1 < (l1.length : Int)
      · rw [if_pos c3] at H
        have c3b0 : decide (x5_1 < (l1.length : Int)) = true := decide_eq_true c3
        clear c3
        by_cases c4 : 0 ≤ x5_1
        · rw [if_pos c4] at H
          have c4b0 : decide (0 ≤ x5_1) = true := decide_eq_true c4
          clear c4
          by_cases c5 : x0_1.length < 140737488355328
          · rw [if_pos c5] at H
            have LMc5 := Aside0.mk c5
            clear c5
            obtain ⟨y108, hy108⟩ : ∃ y_ : List Int, y_ = (x0_1 ++ [rd l1 x5_1]) := ⟨_, rfl⟩
            replace H : (freightref16_put.l0 k1 y108 l1 (wrap64 (x5_1 + 1))) = some r := by first | (rw [hy108]; with_reducible exact H) | (have H2_ := (Option.bind_some _ _).symm.trans H; rw [hy108]; with_reducible exact H2_) | (have H2_ := (Option.bind_some _ _).symm.trans H; with_reducible exact H2_) | with_reducible exact H | (rw [hy108]; exact H) | exact H
            have Ny108 := Aside0.mk hy108
            clear hy108
            have H' := Aside0.mk H
            clear H
            have p107 : 0 ≤ (x5_1 : Int) := of_decide_eq_true (by first | (with_reducible assumption) | assumption)
            have q107 : x5_1 < (l1.length : Int) := of_decide_eq_true (by first | (with_reducible assumption) | assumption)
            obtain ⟨ad107, e107, hx107_0⟩ := Kd.at_int (Kd.C_kept_now HR1.out HK.out) x5_1 p107 q107
            cases e107
            replace p107 := eq_true p107
            replace q107 := eq_true q107
            go_wp2_with (first | ((with_reducible refine gate_builtin (b := .append) (xs := #[.tmp 12, .tmp 17]) rfl ?_); at_builtin; refine Kd.R_append (Kd.int .u8) (w0 := w0) w0.heap.size rfl (.tmp 12) (.tmp 17) 47 5 (.int .u8 0) 1 rfl Tryz.underlying47 info5 rfl (by decide) (by omega) u0 x0_1 (rd l1 x5_1) [.int .u8 (rd l1 x5_1)] (fun k_ => (P0_ k_ ∨ w.heap.size ≤ k_)) (fun _ => False) rfl rfl ?aP (fun _ hk => hk.elim) ?aF ?aO ?aB ?aS ?aL ?_; (case aP => exact rfl); (case aB => exact (by repeat (first | (with_reducible first | exact HB.out | apply below_alloc | apply pw_below_drewN | apply below_drew1) | exact HB.out))); (case aF => exact (fun k_ hk => (.inr (Nat.le_trans (by first | exact HK.out.1 | exact (show Kept w _ (fun k_ => P0_ k_) from by repeat (first | (with_reducible first | exact HK.out | apply Kept.alloc | apply Kept.drewN | apply Kept.drew) | exact HK.out)).1) hk)))); (case aO => exact (by (with_reducible repeat (first | apply Kd.R_alloc | apply Kd.R_drewN | apply Kd.R_drew)); exact HO_0.out)); (case aS => exact (below_size (by repeat (first | (with_reducible first | exact HB.out | apply below_alloc | apply pw_below_drewN | apply below_drew1) | exact HB.out)))); (case aL => have := LMc5.out; omega); intro v109 w6 ho hb hg hat; rw [← Ny108.out] at ho; have n0_ := Aside0.mk (hb); have n1_ := Aside0.mk (Kept.of_grown (S := (fun k_ => P0_ k_)) hg (by repeat (first | (with_reducible first | exact HK.out | apply Kept.alloc | apply Kept.drewN | apply Kept.drew) | exact HK.out)) (fun k_ e_ => (HO_0.out.1 k_ e_))); have n2_ := Aside0.mk (ho); clear HB; clear HK; clear HO_0; have HB := n0_; have HK := n1_; have HO110 := n2_; clear n0_ n1_ n2_; clear ho hb hg hat))
            go_roundg k1
            case measure => have := HK1.out; omega
            case rel => exact ⟨(y108), (wrap64 (x5_1 + 1)), (by first | rfl | (simp; done) | (simp [*]; done)), H', ⟨by have := HK1.out; omega⟩, ⟨by (with_reducible repeat (first | apply Kd.R_alloc | apply Kd.R_drewN | apply Kd.R_drew)); exact HO110.out⟩, ⟨by repeat (first | (with_reducible first | exact HK.out | apply Kept.alloc | apply Kept.drewN | apply Kept.drew) | exact HK.out)⟩, ⟨by repeat (first | (with_reducible first | exact HB.out | apply below_alloc | apply pw_below_drewN | apply below_drew1) | exact HB.out)⟩⟩
          · rw [if_neg c5] at H
            exact absurd H (by simp)
        · rw [if_neg c4] at H
          exact absurd H (by simp)
      · rw [if_neg c3] at H
        have c3b0 : decide (x5_1 < (l1.length : Int)) = false := decide_eq_false c3
        clear c3
        obtain rfl := Option.some.inj H
        go_wp2
        go_ret
        exact ⟨_, by first | rfl | (simp [errW_none, errW_some] <;> rfl) | (simp [*, errW_none, errW_some] <;> rfl), by (with_reducible repeat (first | apply Kd.R_alloc | apply Kd.R_drewN | apply Kd.R_drew)); exact HO_0.out, by repeat (first | (with_reducible first | exact HB.out | apply below_alloc | apply pw_below_drewN | apply below_drew1) | exact HB.out), by repeat (first | (with_reducible first | exact HK.out | apply Kept.alloc | apply Kept.drewN | apply Kept.drew) | exact HK.out)⟩

/-! ### freightref1_Text: function 57 -/
def freightref1_Text.f (k : Nat) (l0 : List Int) : Option (List Int) := (freightref1_Number.f k (l0.length : Int)).bind fun t111 => (if t111.length + l0.length < 140737488355328 then (some (t111 ++ l0)) else (none))
theorem freightref1_Text.mono : ∀ a0 k, LeO (freightref1_Text.f k a0) (freightref1_Text.f (k + 1) a0) := by
  intro a0 k
  unfold freightref1_Text.f
  repeat' first
      | (with_reducible exact freightref1_Number.mono _ _)
      | (with_reducible exact LeO.refl _)
      | (with_reducible exact LeO.none _)
      | (with_reducible refine LeO.ite ?_ ?_)
      | (with_reducible refine LeO.bind ?_ (fun _ => ?_))
      | exact freightref1_Number.mono _ _
      | exact LeO.none _
      | refine LeO.ite ?_ ?_
      | refine LeO.bind ?_ (fun _ => ?_)
set_option maxHeartbeats 8000000 in
set_option maxRecDepth 100000 in
theorem freightref1_Text.calls (k : Nat) (A0 : Option Addr) (c0 : Nat) (l0 : List Int) (r : List Int) (w : World) (hr0 : Kd.C (Kd.int .u8) w A0 l0.length l0) (hc0 : l0.length ≤ c0) (h : freightref1_Text.f k l0 = some r) :
    Calls Tryz.prog 57 #[.slice A0 l0.length c0] w fun e w' => ∃ v0_ : Value, e = .returned (v0_) ∧ Kd.R (Kd.int .u8) 5 w' w.heap.size (fun _ => True) v0_ r ∧ Below w.heap.size w w' := by
  have HR0 := Aside0.mk hr0
  have HC0 := Aside0.mk hc0
  clear hr0 hc0
  have HB := Aside0.mk (Below.refl w.heap.size w)
  have H : ((freightref1_Number.f k (l0.length : Int)).bind fun t111 => (if t111.length + l0.length < 140737488355328 then (some (t111 ++ l0)) else (none))) = some r := h
  clear h
  replace H := Option.bind_eq_some_iff.mp H
  obtain ⟨t111, A20, H⟩ := H
  replace H : (if t111.length + l0.length < 140737488355328 then (some (t111 ++ l0)) else (none)) = some r := H
  have A2 := Aside0.mk A20
  clear A20
  by_cases c3 : t111.length + l0.length < 140737488355328
  · rw [if_pos c3] at H
    have LMc3 := Aside0.mk c3
    clear c3
    obtain ⟨y114, hy114⟩ : ∃ y_ : List Int, y_ = (t111 ++ l0) := ⟨_, rfl⟩
    replace H : (some y114) = some r := by first | (rw [hy114]; with_reducible exact H) | (have H2_ := (Option.bind_some _ _).symm.trans H; rw [hy114]; with_reducible exact H2_) | (have H2_ := (Option.bind_some _ _).symm.trans H; with_reducible exact H2_) | with_reducible exact H | (rw [hy114]; exact H) | exact H
    have Ny114 := Aside0.mk hy114
    clear hy114
    obtain rfl := Option.some.inj H
    go_enter Tryz.func57, Tryz.ntmps57
    go_wp2_with (first | ((with_reducible refine gate_callee (f := 59) rfl ?_); refine goesL_ (some 6) rfl rfl Tryz.func59 (by kernel_rfl) rfl #[.int .i64 (l0.length : Int)] rfl (by (try simp only [List.map_toArray, List.map_cons, List.map_nil]); first | done | rfl | (simp only [List.length_drop, List.length_take]; rfl)) ?_; (with_reducible refine (freightref1_Number.calls k (l0.length : Int) t111 _ A2.out).mono ?_); rintro e w4 ⟨v112, rfl, ho0, hb⟩; refine ⟨_, rfl, ?_⟩; have n0_ := Aside0.mk (Kd.R_lower ho0 (below_size (by repeat (first | (with_reducible first | exact HB.out | apply below_alloc | apply pw_below_drewN | apply below_drew1) | exact HB.out)))); have n1_ := Aside0.mk (below_step (by repeat (first | (with_reducible first | exact HB.out | apply below_alloc | apply pw_below_drewN | apply below_drew1) | exact HB.out)) hb); clear HB; have HO113 := n0_; have HB := n1_; clear n0_ n1_; (try clear hb); (try clear hb2); (try clear hk); (try clear hi); (try clear ho0)) | ((with_reducible refine gate_builtin (b := .append) (xs := #[.tmp 7, .tmp 8]) rfl ?_); at_builtin; refine Kd.R_append_rows (Kd.int .u8) (w0 := w) w.heap.size rfl (.tmp 7) (.tmp 8) 47 5 (.int .u8 0) 1 rfl Tryz.underlying47 info5 rfl (by decide) (by omega) v112 t111 l0 _ _ _ (fun _ => True) (fun _ => False) rfl rfl ?aO ?aR (fun _ _ h => h) (fun _ h => h.elim) ?aF ?aB ?aS ?aL ?_; (case aR => repeat (first | exact (Kd.C_below HR0.out HB.out) | (with_reducible refine Kd.C_alloc ?_ _) | (with_reducible refine Kd.C_drewN ?_ _) | (with_reducible refine Kd.C_drew ?_))); (case aB => exact (by repeat (first | (with_reducible first | exact HB.out | apply below_alloc | apply pw_below_drewN | apply below_drew1) | exact HB.out))); (case aF => exact (fun _ _ => trivial)); (case aO => exact (by (with_reducible repeat (first | apply Kd.R_alloc | apply Kd.R_drewN | apply Kd.R_drew)); exact HO113.out)); (case aS => exact (below_size (by repeat (first | (with_reducible first | exact HB.out | apply below_alloc | apply pw_below_drewN | apply below_drew1) | exact HB.out)))); (case aL => have := LMc3.out; omega); intro v115 w5 ho hb hg hat; rw [← Ny114.out] at ho; have n0_ := Aside0.mk (hb); have n1_ := Aside0.mk (ho); clear HB; clear HO113; have HB := n0_; have HO116 := n1_; clear n0_ n1_; clear ho hb hg hat))
    go_ret
    exact ⟨_, by first | rfl | (simp [errW_none, errW_some] <;> rfl) | (simp [*, errW_none, errW_some] <;> rfl), by (with_reducible repeat (first | apply Kd.R_alloc | apply Kd.R_drewN | apply Kd.R_drew)); exact HO116.out, by repeat (first | (with_reducible first | exact HB.out | apply below_alloc | apply pw_below_drewN | apply below_drew1) | exact HB.out)⟩
  · rw [if_neg c3] at H
    exact absurd H (by simp)

end Go.Proofs.YtdekmeanlcpenaaGreatDoor.PIntakeEncodes

-- the lines of the kit's print for functions 58 and 60 of this seat
namespace Go.Proofs.YtdekmeanlcpenaaGreatDoor.PIntakeEncodes
open Go.RowKit Go.Proofs.YtdekmeanlcpenaaGreatDoorW.PrintWords Go.Proofs.YtdekmeanlcpenaaGreatDoorW.PrintLast Go.Proofs.YtdekmeanlcpenaaGreatDoorW.PrintMore
attribute [local go_sem] max2_int min2_int max_two min_two max_three min_three max_four min_four   -- for this text's walks alone
set_option linter.unusedVariables false
set_option linter.unusedSimpArgs false

/-! ### freightref1_Fixed: function 58 -/
def freightref1_Fixed.l0 : Nat → Int → List Int → Int → Option (List Int)
  | 0, _, _, _ => none
  | k + 1, x0, x5, x6 => if x6 ≥ 0 then (if 0 ≤ x6 then (if x6 < (x5.length : Int) then (freightref1_Fixed.l0 k (wrap64 (Int.tdiv x0 256)) (x5.set (x6 : Int).toNat ((Int.tmod x0 256) % 256)) (wrap64 (x6 - 1))) else (none)) else (none)) else (some x5)
def freightref1_Fixed.f (k : Nat) (a0 : Int) (a1 : Int) : Option (List Int) := if 0 ≤ a1 then (if (a1 : Int).toNat ≤ 281474976710656 then (freightref1_Fixed.l0 k a0 (List.replicate (a1 : Int).toNat 0) (wrap64 (a1 - 1))) else (none)) else (none)
theorem freightref1_Fixed.mono_l : ∀ k, (∀ y0 y1 y2, LeO (freightref1_Fixed.l0 k y0 y1 y2) (freightref1_Fixed.l0 (k + 1) y0 y1 y2))
  | 0 => fun _ _ _ r h => by simp [freightref1_Fixed.l0] at h
  | k + 1 => by
    have ih0 := freightref1_Fixed.mono_l k
    · intro y0 y1 y2
      unfold freightref1_Fixed.l0
      repeat' first
      | (with_reducible exact ih0 _ _ _)
      | (with_reducible exact LeO.refl _)
      | (with_reducible exact LeO.none _)
      | (with_reducible refine LeO.ite ?_ ?_)
      | (with_reducible refine LeO.bind ?_ (fun _ => ?_))
      | exact ih0 _ _ _
      | exact LeO.none _
      | refine LeO.ite ?_ ?_
      | refine LeO.bind ?_ (fun _ => ?_)
theorem freightref1_Fixed.mono : ∀ a0 a1 k, LeO (freightref1_Fixed.f k a0 a1) (freightref1_Fixed.f (k + 1) a0 a1) := by
  intro a0 a1 k
  have ih0 := freightref1_Fixed.mono_l k
  unfold freightref1_Fixed.f
  repeat' first
      | (with_reducible exact ih0 _ _ _)
      | (with_reducible exact LeO.refl _)
      | (with_reducible exact LeO.none _)
      | (with_reducible refine LeO.ite ?_ ?_)
      | (with_reducible refine LeO.bind ?_ (fun _ => ?_))
      | exact ih0 _ _ _
      | exact LeO.none _
      | refine LeO.ite ?_ ?_
      | refine LeO.bind ?_ (fun _ => ?_)
set_option maxHeartbeats 8000000 in
set_option maxRecDepth 100000 in
theorem freightref1_Fixed.calls (k : Nat) (a0 : Int) (a1 : Int) (r : List Int) (w : World) (h : freightref1_Fixed.f k a0 a1 = some r) :
    Calls Tryz.prog 58 #[.int .i64 a0, .int .i64 a1] w fun e w' => ∃ v0_ : Value, e = .returned (v0_) ∧ Kd.R (Kd.int .u8) 5 w' w.heap.size (fun _ => True) v0_ r ∧ Below w.heap.size w w' := by
  have HB := Aside0.mk (Below.refl w.heap.size w)
  have H : (if 0 ≤ a1 then (if (a1 : Int).toNat ≤ 281474976710656 then (freightref1_Fixed.l0 k a0 (List.replicate (a1 : Int).toNat 0) (wrap64 (a1 - 1))) else (none)) else (none)) = some r := h
  clear h
  by_cases c3 : 0 ≤ a1
  · rw [if_pos c3] at H
    have c3b0 := eq_true c3
    have c3b1 : decide (0 ≤ a1) = true := decide_eq_true c3
    clear c3
    by_cases c4 : (a1 : Int).toNat ≤ 281474976710656
    · rw [if_pos c4] at H
      have c4b0 := eq_true c4
      have c4b1 : decide ((a1 : Int).toNat ≤ 281474976710656) = true := decide_eq_true c4
      clear c4
      obtain ⟨y117, hy117⟩ : ∃ y_ : List Int, y_ = (List.replicate (a1 : Int).toNat 0) := ⟨_, rfl⟩
      replace H : (freightref1_Fixed.l0 k a0 y117 (wrap64 (a1 - 1))) = some r := by first | (rw [hy117]; with_reducible exact H) | (have H2_ := (Option.bind_some _ _).symm.trans H; rw [hy117]; with_reducible exact H2_) | (have H2_ := (Option.bind_some _ _).symm.trans H; with_reducible exact H2_) | with_reducible exact H | (rw [hy117]; exact H) | exact H
      have Ny117 := Aside0.mk hy117
      clear hy117
      have H' := Aside0.mk H
      clear H
      go_enter Tryz.func58, Tryz.ntmps58
      go_wp2_with (first | ((with_reducible refine gate_dst (N := 8) rfl ?_); refine Kd.R_make (Kd.int .u8) _ 5 rfl (N := 8) rfl 47 _ _ rfl a1 rfl rfl Tryz.underlying47 (.int .u8 0) 1 info5 rfl (by decide) (by omega) 0 (ok := fun _ => True) (okp := fun _ => True) rfl (fun _ hk => hk) trivial (of_decide_eq_true (by first | (with_reducible assumption) | assumption)) (Nat.le_trans (Nat.mul_le_mul_right _ (of_decide_eq_true (by first | (with_reducible assumption) | assumption) : a1.toNat ≤ 281474976710656)) (by omega)) (Below.refl _ _) (Nat.le_refl _) ?_; intro v118 w5 ho6 hb hg_ hnew_; clear hg_ hnew_; (first | rw [← Ny117.out] at ho6 | (simp only [Int.reduceToNat] at ho6; rw [← Ny117.out] at ho6)); have n0_ := Aside0.mk (Kd.R_lower ho6 (below_size (by repeat (first | (with_reducible first | exact HB.out | apply below_alloc | apply pw_below_drewN | apply below_drew1) | exact HB.out)))); have n1_ := Aside0.mk (below_step (by repeat (first | (with_reducible first | exact HB.out | apply below_alloc | apply pw_below_drewN | apply below_drew1) | exact HB.out)) hb); clear HB; have HO119 := n0_; have HB := n1_; clear n0_ n1_; clear hb ho6))
      go_loopg [0, 6] k (fun kq v0 v6 w' => ∃ (x0_1 : Int) (x5_1 : List Int) (x6_1 : Int), v0 = .int .i64 x0_1 ∧ v6 = .int .i64 x6_1 ∧ Aside0 (freightref1_Fixed.l0 kq x0_1 x5_1 x6_1 = some r) ∧ Aside0 (kq ≤ k) ∧ Aside0 (Kd.R (Kd.int .u8) 5 w' w.heap.size (fun _ => True) v118 x5_1) ∧ Aside0 (Below w.heap.size w w'))
      case atStart => exact ⟨(a0), (y117), (wrap64 (a1 - 1)), (by first | rfl | (simp; done) | (simp [*]; done)), (by first | rfl | (simp; done) | (simp [*]; done)), H', ⟨Nat.le_refl _⟩, ⟨by (with_reducible repeat (first | apply Kd.R_alloc | apply Kd.R_drewN | apply Kd.R_drew)); exact HO119.out⟩, ⟨by repeat (first | (with_reducible first | exact HB.out | apply below_alloc | apply pw_below_drewN | apply below_drew1) | exact HB.out)⟩⟩
      case round =>
        clear H'
        try clear p2
        try clear c3
        try clear c3b0
        try clear c3b1
        try clear c4
        try clear c4b0
        try clear c4b1
        try clear c5
        try clear p6
        obtain ⟨x0_1, x5_1, x6_1, rfl, rfl, HA, HK1, HO_5, HB⟩ := hrel
        cases gk with
        | zero => exact absurd HA.out (by simp [freightref1_Fixed.l0])
        | succ k1 =>
          have H := HA.out
          clear HA
          simp only [freightref1_Fixed.l0] at H
          by_cases c7 : x6_1 ≥ 0
          · rw [if_pos c7] at H
            have c7b0 : decide (0 ≤ x6_1) = true := decide_eq_true c7
            clear c7
            by_cases c8 : 0 ≤ x6_1
            · rw [if_pos c8] at H
              have c8b0 : decide (0 ≤ x6_1) = true := decide_eq_true c8
              clear c8
              by_cases c9 : x6_1 < (x5_1.length : Int)
              · rw [if_pos c9] at H
                have c9b0 : decide (x6_1 < (x5_1.length : Int)) = true := decide_eq_true c9
                clear c9
                obtain ⟨y120, hy120⟩ : ∃ y_ : List Int, y_ = (x5_1.set (x6_1 : Int).toNat ((Int.tmod x0_1 256) % 256)) := ⟨_, rfl⟩
                replace H : (freightref1_Fixed.l0 k1 (wrap64 (Int.tdiv x0_1 256)) y120 (wrap64 (x6_1 - 1))) = some r := by first | (rw [hy120]; with_reducible exact H) | (have H2_ := (Option.bind_some _ _).symm.trans H; rw [hy120]; with_reducible exact H2_) | (have H2_ := (Option.bind_some _ _).symm.trans H; with_reducible exact H2_) | with_reducible exact H | (rw [hy120]; exact H) | exact H
                have Ny120 := Aside0.mk hy120
                clear hy120
                have H' := Aside0.mk H
                clear H
                have p10 : 0 ≤ (x6_1 : Int) := of_decide_eq_true (by first | (with_reducible assumption) | assumption)
                have q10 : (x6_1 : Int) < ((x5_1.length : Int) : Int) := of_decide_eq_true (by first | (with_reducible assumption) | assumption)
                obtain ⟨go10, co10, eo10, gb10, gl10, cl10, HG10⟩ := Kd.R_form HO_5.out (by omega)
                (first | cases eo10 | (injection eo10 with ea_ en_ ec_; (first | subst ea_ | (injection ea_ with ea_; subst ea_)); subst ec_; clear en_))
                have GB10 := Aside0.mk gb10
                have GG10 := Aside0.mk HG10
                clear gb10 gl10 HG10
                obtain ⟨hx10_0, hf10_0⟩ := Kd.R_celln 0 HO_5.out (x6_1 : Int) p10 q10
                replace p10 := eq_true p10
                replace q10 := eq_true q10
                have HP11 := Kd.R_putg HO_5.out (x6_1 : Int) ((Int.tmod x0_1 256) % 256)
                go_wp2_with (first | ((with_reducible refine gate_store (t := 5) (p := 20) rfl ?_); refine store_event (t := 5) (p := 20) (v := ?vo_w12) (w1 := (wr.setCell ⟨go10, (x6_1 : Int).toNat, none⟩ (.int .u8 ((Int.tmod x0_1 256) % 256)))) ?hg ?ho ?hn ?hr ?_; (case ho => rfl); (case hg => rfl); (case hn => rfl); (case hr => first | (go_simp; done) | (go_simp; rfl)); intro w12 hw; have hg : wr.grownBy w12 (some go10) := (by rw [hw]; exact HP11.2); have hp_ : Kd.R (Kd.int .u8) 5 w12 w.heap.size (fun _ => True) (.slice (some ⟨go10, 0, none⟩) x5_1.length co10) y120 := (by rw [hw, Ny120.out]; exact HP11.1); clear HP11; have n0_ := Aside0.mk (hp_); have n1_ := Aside0.mk ((by rw [hw]; exact below_set (HB.out) GB10.out : Below w.heap.size w w12)); clear HO_5; clear HB; have HO_5 := n0_; have HB := n1_; clear n0_ n1_; clear hg hw hp_))
                go_roundg k1
                case measure => have := HK1.out; omega
                case rel => exact ⟨(wrap64 (Int.tdiv x0_1 256)), (y120), (wrap64 (x6_1 - 1)), (by first | rfl | (simp; done) | (simp [*]; done)), (by first | rfl | (simp; done) | (simp [*]; done)), H', ⟨by have := HK1.out; omega⟩, ⟨by (with_reducible repeat (first | apply Kd.R_alloc | apply Kd.R_drewN | apply Kd.R_drew)); exact HO_5.out⟩, ⟨by repeat (first | (with_reducible first | exact HB.out | apply below_alloc | apply pw_below_drewN | apply below_drew1) | exact HB.out)⟩⟩
              · rw [if_neg c9] at H
                exact absurd H (by simp)
            · rw [if_neg c8] at H
              exact absurd H (by simp)
          · rw [if_neg c7] at H
            have c7b0 : decide (0 ≤ x6_1) = false := decide_eq_false c7
            clear c7
            obtain rfl := Option.some.inj H
            go_wp2
            go_ret
            exact ⟨_, by first | rfl | (simp [errW_none, errW_some] <;> rfl) | (simp [*, errW_none, errW_some] <;> rfl), by (with_reducible repeat (first | apply Kd.R_alloc | apply Kd.R_drewN | apply Kd.R_drew)); exact HO_5.out, by repeat (first | (with_reducible first | exact HB.out | apply below_alloc | apply pw_below_drewN | apply below_drew1) | exact HB.out)⟩
    · rw [if_neg c4] at H
      exact absurd H (by simp)
  · rw [if_neg c3] at H
    exact absurd H (by simp)

/-! ### freightref1_Sum: function 60 -/
mutual
def freightref1_Sum.l0 : Nat → List Int → Int → Int → Option (Int)
  | 0, _, _, _ => none
  | k + 1, x0, x3, x4 => if x4 < (x0.length : Int) then (if 0 ≤ x4 then (freightref1_Sum.l1 k x0 (Go.bits .xor .i64 x3 (wrap64 (rd x0 x4))) x4 0) else (none)) else (some (wrap64 (4294967295 - x3)))
def freightref1_Sum.l1 : Nat → List Int → Int → Int → Int → Option (Int)
  | 0, _, _, _, _ => none
  | k + 1, x0, x3, x4, x5 => if x5 < 8 then (if (Int.tmod x3 2) = 1 then (freightref1_Sum.l1 k x0 (Go.bits .xor .i64 (wrap64 (Int.tdiv x3 2)) 3988292384) x4 (wrap64 (x5 + 1))) else (freightref1_Sum.l1 k x0 (wrap64 (Int.tdiv x3 2)) x4 (wrap64 (x5 + 1)))) else (freightref1_Sum.l0 k x0 x3 (wrap64 (x4 + 1)))
end
def freightref1_Sum.f (k : Nat) (l0 : List Int) : Option (Int) := freightref1_Sum.l0 k l0 4294967295 0
theorem freightref1_Sum.mono_l : ∀ k, (∀ y0 y1 y2, LeO (freightref1_Sum.l0 k y0 y1 y2) (freightref1_Sum.l0 (k + 1) y0 y1 y2)) ∧ (∀ y0 y1 y2 y3, LeO (freightref1_Sum.l1 k y0 y1 y2 y3) (freightref1_Sum.l1 (k + 1) y0 y1 y2 y3))
  | 0 => ⟨fun _ _ _ r h => by simp [freightref1_Sum.l0] at h, fun _ _ _ _ r h => by simp [freightref1_Sum.l1] at h⟩
  | k + 1 => by
    obtain ⟨ih0, ih1⟩ := freightref1_Sum.mono_l k
    refine ⟨?_, ?_⟩
    · intro y0 y1 y2
      unfold freightref1_Sum.l0
      repeat' first
      | (with_reducible exact ih0 _ _ _)
      | (with_reducible exact ih1 _ _ _ _)
      | (with_reducible exact LeO.refl _)
      | (with_reducible exact LeO.none _)
      | (with_reducible refine LeO.ite ?_ ?_)
      | (with_reducible refine LeO.bind ?_ (fun _ => ?_))
      | exact ih0 _ _ _
      | exact ih1 _ _ _ _
      | exact LeO.none _
      | refine LeO.ite ?_ ?_
      | refine LeO.bind ?_ (fun _ => ?_)
    · intro y0 y1 y2 y3
      unfold freightref1_Sum.l1
      repeat' first
      | (with_reducible exact ih0 _ _ _)
      | (with_reducible exact ih1 _ _ _ _)
      | (with_reducible exact LeO.refl _)
      | (with_reducible exact LeO.none _)
      | (with_reducible refine LeO.ite ?_ ?_)
      | (with_reducible refine LeO.bind ?_ (fun _ => ?_))
      | exact ih0 _ _ _
      | exact ih1 _ _ _ _
      | exact LeO.none _
      | refine LeO.ite ?_ ?_
      | refine LeO.bind ?_ (fun _ => ?_)
theorem freightref1_Sum.mono : ∀ a0 k, LeO (freightref1_Sum.f k a0) (freightref1_Sum.f (k + 1) a0) := by
  intro a0 k
  obtain ⟨ih0, ih1⟩ := freightref1_Sum.mono_l k
  unfold freightref1_Sum.f
  repeat' first
      | (with_reducible exact ih0 _ _ _)
      | (with_reducible exact ih1 _ _ _ _)
      | (with_reducible exact LeO.refl _)
      | (with_reducible exact LeO.none _)
      | (with_reducible refine LeO.ite ?_ ?_)
      | (with_reducible refine LeO.bind ?_ (fun _ => ?_))
      | exact ih0 _ _ _
      | exact ih1 _ _ _ _
      | exact LeO.none _
      | refine LeO.ite ?_ ?_
      | refine LeO.bind ?_ (fun _ => ?_)
set_option maxHeartbeats 8000000 in
set_option maxRecDepth 100000 in
theorem freightref1_Sum.calls (k : Nat) (A0 : Option Addr) (c0 : Nat) (l0 : List Int) (r : Int) (w : World) (hr0 : Kd.C (Kd.int .u8) w A0 l0.length l0) (hc0 : l0.length ≤ c0) (h : freightref1_Sum.f k l0 = some r) :
    Calls Tryz.prog 60 #[.slice A0 l0.length c0] w fun e w' => e = .returned (.int .i64 r) ∧ Drawn0 w w' := by
  have HR0 := Aside0.mk hr0
  have HC0 := Aside0.mk hc0
  clear hr0 hc0
  have H : (freightref1_Sum.l0 k l0 4294967295 0) = some r := h
  clear h
  have H' := Aside0.mk H
  clear H
  go_enter Tryz.func60, Tryz.ntmps60
  go_wp2
  go_loopg [3, 4] k (fun kq v3 v4 w' => ∃ (x3_1 : Int) (x4_1 : Int), v3 = .int .i64 x3_1 ∧ v4 = .int .i64 x4_1 ∧ Aside0 (freightref1_Sum.l0 kq l0 x3_1 x4_1 = some r) ∧ Aside0 (kq ≤ k) ∧ Drawn0 w w')
  case atStart => exact ⟨(4294967295), (0), (by first | rfl | (simp; done) | (simp [*]; done)), (by first | rfl | (simp; done) | (simp [*]; done)), H', ⟨Nat.le_refl _⟩, by repeat (first | exact Drawn0.refl _ | apply Drawn0.step)⟩
  case round =>
    clear H'
    obtain ⟨x3_1, x4_1, rfl, rfl, HA, HK1, ⟨m1, rfl⟩⟩ := hrel
    cases gk with
    | zero => exact absurd HA.out (by simp [freightref1_Sum.l0])
    | succ k1 =>
      have H := HA.out
      clear HA
      simp only [freightref1_Sum.l0] at H
      by_cases c2 : x4_1 < (l0.length : Int)
      · rw [if_pos c2] at H
        have c2b0 : decide (x4_1 < (l0.length : Int)) = true := decide_eq_true c2
        clear c2
        by_cases c3 : 0 ≤ x4_1
        · rw [if_pos c3] at H
          have c3b0 : decide (0 ≤ x4_1) = true := decide_eq_true c3
          clear c3
          have H' := Aside0.mk H
          clear H
          have p121 : 0 ≤ (x4_1 : Int) := of_decide_eq_true (by first | (with_reducible assumption) | assumption)
          have q121 : x4_1 < (l0.length : Int) := of_decide_eq_true (by first | (with_reducible assumption) | assumption)
          obtain ⟨ad121, e121, hx121_0⟩ := Kd.at_int HR0.out x4_1 p121 q121
          cases e121
          replace p121 := eq_true p121
          replace q121 := eq_true q121
          go_wp2
          go_loopg [3, 5] k1 (fun kq v3 v5 w' => ∃ (x3_2 : Int) (x5_2 : Int), v3 = .int .i64 x3_2 ∧ v5 = .int .i64 x5_2 ∧ Aside0 (freightref1_Sum.l1 kq l0 x3_2 x4_1 x5_2 = some r) ∧ Aside0 (kq ≤ k1) ∧ Drawn0 w w')
          case atStart => exact ⟨(Go.bits .xor .i64 x3_1 (wrap64 (rd l0 x4_1))), (0), (by first | rfl | (simp; done) | (simp [*]; done)), (by first | rfl | (simp; done) | (simp [*]; done)), H', ⟨Nat.le_refl _⟩, by repeat (first | exact Drawn0.refl _ | apply Drawn0.step)⟩
          case round =>
            clear H'
            try clear p1
            try clear q1
            try clear hx1
            try clear c2
            try clear c2b0
            try clear p2
            try clear c3
            try clear c3b0
            try clear hx121_0
            try clear p121
            try clear q121
            obtain ⟨x3_2, x5_2, rfl, rfl, HA, HK2, ⟨m2, rfl⟩⟩ := hrel
            cases gk with
            | zero => exact absurd HA.out (by simp [freightref1_Sum.l1])
            | succ k2 =>
              have H := HA.out
              clear HA
              simp only [freightref1_Sum.l1] at H
              by_cases c4 : x5_2 < 8
              · rw [if_pos c4] at H
                have c4b0 : decide (x5_2 < 8) = true := decide_eq_true c4
                clear c4
                by_cases c5 : (Int.tmod x3_2 2) = 1
                · rw [if_pos c5] at H
                  have c5b0 : ((Int.tmod x3_2 2) == 1) = true := beq_iff_eq.mpr c5
                  have c5b1 : ((Int.tmod x3_2 2) != 1) = false := bne_eq_false_iff_eq.mpr c5
                  clear c5
                  have H' := Aside0.mk H
                  clear H
                  go_wp2
                  go_roundg k2
                  case measure => have := HK1.out; have := HK2.out; omega
                  case rel => exact ⟨(Go.bits .xor .i64 (wrap64 (Int.tdiv x3_2 2)) 3988292384), (wrap64 (x5_2 + 1)), (by first | rfl | (simp; done) | (simp [*]; done)), (by first | rfl | (simp; done) | (simp [*]; done)), H', ⟨by have := HK1.out; have := HK2.out; omega⟩, by repeat (first | exact Drawn0.refl _ | apply Drawn0.step)⟩
                · rw [if_neg c5] at H
                  have c5b0 : ((Int.tmod x3_2 2) == 1) = false := beq_eq_false_iff_ne.mpr c5
                  have c5b1 : ((Int.tmod x3_2 2) != 1) = true := bne_iff_ne.mpr c5
                  have H' := Aside0.mk H
                  clear H
                  go_wp2
                  go_roundg k2
                  case measure => have := HK1.out; have := HK2.out; omega
                  case rel => exact ⟨(wrap64 (Int.tdiv x3_2 2)), (wrap64 (x5_2 + 1)), (by first | rfl | (simp; done) | (simp [*]; done)), (by first | rfl | (simp; done) | (simp [*]; done)), H', ⟨by have := HK1.out; have := HK2.out; omega⟩, by repeat (first | exact Drawn0.refl _ | apply Drawn0.step)⟩
              · rw [if_neg c4] at H
                have c4b0 : decide (x5_2 < 8) = false := decide_eq_false c4
                clear c4
                have H' := Aside0.mk H
                clear H
                go_wp2
                go_roundg k2
                case measure => have := HK1.out; have := HK2.out; omega
                case rel => exact ⟨(x3_2), (wrap64 (x4_1 + 1)), (by first | rfl | (simp; done) | (simp [*]; done)), (by first | rfl | (simp; done) | (simp [*]; done)), H', ⟨by have := HK1.out; have := HK2.out; omega⟩, by repeat (first | exact Drawn0.refl _ | apply Drawn0.step)⟩
        · rw [if_neg c3] at H
          exact absurd H (by simp)
      · rw [if_neg c2] at H
        have c2b0 : decide (x4_1 < (l0.length : Int)) = false := decide_eq_false c2
        clear c2
        obtain rfl := Option.some.inj H
        go_wp2
        go_ret
        exact ⟨by first | rfl | (simp; done) | (simp [*]; done), by repeat (first | exact Drawn0.refl _ | apply Drawn0.step)⟩

-- NOT PRINTED: function 20 (freightref16_Encode)

-- NOT PRINTED: function 103 (reflectlite_ValueOf)

-- NOT PRINTED: function 104 (reflectlite_Value_Type)

-- NOT PRINTED: function 105 (reflectlite_Value_IsNil)

-- NOT PRINTED: function 76 (reflectlite_TypeOf)

-- NOT PRINTED: function 143 (reflectlite_Value_Elem)

-- NOT PRINTED: function 144 (reflectlite_Value_Set)

-- NOT PRINTED: function 106 (errors_as)

-- NOT PRINTED: function 61 (errors_As)

-- NOT PRINTED: function 34 (api_Code)

-- NOT PRINTED: function 21 (freightlaw16_says)

end Go.Proofs.YtdekmeanlcpenaaGreatDoor.PIntakeEncodes

namespace Go.Proofs.YtdekmeanlcpenaaGreatDoor.Codec
open Go.RowKit Go.Proofs.YtdekmeanlcpenaaGreatDoorW.PrintWords Go.Proofs.YtdekmeanlcpenaaGreatDoor.Block Go.Proofs.YtdekmeanlcpenaaGreatDoor.PIntakeEncodes
theorem w64i {x : Int} (h0 : -9223372036854775808 ≤ x) (h1 : x ≤ 9223372036854775807) : wrap64 x = x := IntWalk.wrap64_in x ⟨h0, h1⟩
theorem number_l0 : ∀ (k v : Nat) (out : List Int), v < 128 ^ k → v ≤ 9223372036854775807 → out.length + k < 140737488355328 → freightref1_Number.l0 (k + 1) (v : Int) out = some (out ++ numW v)
  | 0, v, out, h, _, hl => by
    have h0 : v = 0 := by simpa using h
    subst h0
    unfold freightref1_Number.l0
    rw [if_neg (by decide), if_pos (by omega), numW_small (by decide)]
    rfl
  | k + 1, v, out, h, hv, hl => by
    unfold freightref1_Number.l0
    by_cases h1 : v < 128
    · rw [if_neg (by omega), if_pos (by omega), numW_small h1]
      congr 3
      omega
    · rw [if_pos (by omega), if_pos (by omega)]
      have e1 : Int.tdiv (v : Int) 128 = ((v / 128 : Nat) : Int) := by rw [Int.tdiv_eq_ediv_of_nonneg (by omega)]; omega
      have e2 : Int.tmod (v : Int) 128 = ((v % 128 : Nat) : Int) := by rw [Int.tmod_eq_emod_of_nonneg (by omega)]; omega
      rw [e1, e2, w64i (by omega) (by omega), w64i (by omega) (by omega)]
      have ih := number_l0 k (v / 128) (out ++ [(128 + ((v % 128 : Nat) : Int)) % 256]) (Nat.div_lt_of_lt_mul (by rw [Nat.pow_succ, Nat.mul_comm] at h; exact h)) (by omega) (by simp; omega)
      rw [ih, numW_big (show 128 ≤ v by omega), List.append_assoc]
      congr 3
      show _ :: numW (v / 128) = _
      congr 1
      omega
theorem number_f (v : Nat) (hv : v ≤ 2147483647) : freightref1_Number.f 6 (v : Int) = some (numW v) := by
  have := number_l0 5 v [] (Nat.lt_of_le_of_lt hv (by decide)) (by omega) (by simp)
  simpa [freightref1_Number.f] using this
theorem put_l0 (b : List Int) (hb : b.length ≤ 1000000) : ∀ (k i : Nat) (out : List Int), i + k = b.length → out.length + k < 140737488355328 → freightref16_put.l0 (k + 1) out b (i : Int) = some (out ++ b.drop i)
  | 0, i, out, h, hl => by
    unfold freightref16_put.l0
    rw [if_neg (by omega), List.drop_of_length_le (by omega), List.append_nil]
  | k + 1, i, out, h, hl => by
    unfold freightref16_put.l0
    rw [if_pos (by omega), if_pos (by omega), if_pos (by omega), w64i (by omega) (by omega)]
    have ih := put_l0 b hb k (i + 1) (out ++ [rd b (i : Int)]) (by omega) (by simp; omega)
    have e : ((i + 1 : Nat) : Int) = (i : Int) + 1 := by omega
    rw [← e, ih, List.append_assoc]
    have hd : b.drop i = rd b (i : Int) :: b.drop (i + 1) := by
      rw [List.drop_eq_getElem_cons (by omega : i < b.length)]
      congr 1
      rw [rd, Int.toNat_natCast, List.getD_eq_getElem?_getD, List.getElem?_eq_getElem (by omega)]
      rfl
    rw [hd]
    rfl
theorem put_f (a b : List Int) (ha : a.length ≤ 1000000) (hb : b.length ≤ 1000000) : freightref16_put.f (b.length + 1) a b = some (a ++ b) := by
  have := put_l0 b hb b.length 0 a (by omega) (by omega)
  simpa [freightref16_put.f] using this
theorem text_f (l : List Int) (hl : l.length ≤ 1000000) : freightref1_Text.f 6 l = some (txtW l) := by
  unfold freightref1_Text.f
  rw [number_f _ (by omega), Option.bind_some, if_pos (by have := numW_max (v := l.length) (by omega); omega)]
  rfl
theorem fixed_f (v : Nat) (hv : v < 4294967296) : freightref1_Fixed.f 5 (v : Int) 4 = some (fixW v 4) := by
  have e1 : ∀ v : Nat, Int.tdiv (v : Int) 256 = ((v / 256 : Nat) : Int) := fun v => by rw [Int.tdiv_eq_ediv_of_nonneg (by omega)]; omega
  have e2 : ∀ v : Nat, Int.tmod (v : Int) 256 = ((v % 256 : Nat) : Int) := fun v => by rw [Int.tmod_eq_emod_of_nonneg (by omega)]; omega
  have e3 : ∀ v : Nat, v < 4294967296 → wrap64 (v : Int) = (v : Int) := fun v h => w64i (by omega) (by omega)
  have e4 : ∀ v : Nat, (((v % 256 : Nat) : Int)) % 256 = ((v % 256 : Nat) : Int) := fun v => by omega
  have w3 : wrap64 (4 - 1) = 3 := by rw [w64i (by decide) (by decide)]; rfl
  have w2 : wrap64 (3 - 1) = 2 := by rw [w64i (by decide) (by decide)]; rfl
  have w1 : wrap64 (2 - 1) = 1 := by rw [w64i (by decide) (by decide)]; rfl
  have w0 : wrap64 (1 - 1) = 0 := by rw [w64i (by decide) (by decide)]; rfl
  have wm : wrap64 (0 - 1) = -1 := by rw [w64i (by decide) (by decide)]; rfl
  unfold freightref1_Fixed.f
  rw [if_pos (by decide), if_pos (by decide), w3]
  unfold freightref1_Fixed.l0
  rw [if_pos (by decide), if_pos (by decide), if_pos (by decide), e1, e2, e4, e3 _ (by omega), w2]
  unfold freightref1_Fixed.l0
  rw [if_pos (by decide), if_pos (by decide), if_pos (by simp), e1, e2, e4, e3 _ (by omega), w1]
  unfold freightref1_Fixed.l0
  rw [if_pos (by decide), if_pos (by decide), if_pos (by simp), e1, e2, e4, e3 _ (by omega), w0]
  unfold freightref1_Fixed.l0
  rw [if_pos (by decide), if_pos (by decide), if_pos (by simp), e1, e2, e4, e3 _ (by omega), wm]
  unfold freightref1_Fixed.l0
  rw [if_neg (by decide)]
  rfl
end Go.Proofs.YtdekmeanlcpenaaGreatDoor.Codec

namespace Go.Proofs.YtdekmeanlcpenaaGreatDoor.Codec
open Go.RowKit Go.Proofs.YtdekmeanlcpenaaGreatDoorW.PrintWords Go.Proofs.YtdekmeanlcpenaaGreatDoor.Block Go.Proofs.YtdekmeanlcpenaaGreatDoor.PIntakeEncodes
theorem ofInt_n64 (a : Nat) (ha : a < 18446744073709551616) : (BitVec.ofInt 64 (a : Int)).toNat = a := by
  rw [BitVec.toNat_ofInt]
  omega
theorem i64_xor_n (a b : Nat) (ha : a < 4294967296) (hb : b < 4294967296) : bits .xor .i64 (a : Int) (b : Int) = ((a ^^^ b : Nat) : Int) := by
  show IntKind.i64.wrap (((BitVec.ofInt 64 (a : Int)) ^^^ (BitVec.ofInt 64 (b : Int))).toNat : Int) = _
  have := Nat.xor_lt_two_pow (n := 32) ha hb
  rw [BitVec.toNat_xor, ofInt_n64 a (by omega), ofInt_n64 b (by omega), IntWalk.i64_in _ (by omega)]
theorem sum_l1 (x : List Int) (k r : Nat) (i q : Int) (hr : r < 4294967296) (h0 : 0 ≤ q) (hq : q < 8) : freightref1_Sum.l1 (k + 1) x (r : Int) i q = freightref1_Sum.l1 k x ((f1 r : Nat) : Int) i (q + 1) := by
  conv => lhs; unfold freightref1_Sum.l1
  have e1 : Int.tdiv (r : Int) 2 = ((r / 2 : Nat) : Int) := by rw [Int.tdiv_eq_ediv_of_nonneg (by omega)]; omega
  have e2 : Int.tmod (r : Int) 2 = ((r % 2 : Nat) : Int) := by rw [Int.tmod_eq_emod_of_nonneg (by omega)]; omega
  have e3 : (3988292384 : Int) = ((3988292384 : Nat) : Int) := rfl
  rw [if_pos hq, e1, e2, w64i (x := ((r / 2 : Nat) : Int)) (by omega) (by omega), w64i (x := q + 1) (by omega) (by omega)]
  unfold f1
  by_cases h : r % 2 = 1
  · rw [if_pos (by omega), if_pos h, e3, i64_xor_n _ _ (by omega) (by decide)]
  · rw [if_neg (by omega), if_neg h]
theorem sum_8 (x : List Int) (k r : Nat) (i : Int) (hr : r < 4294967296) (h0 : 0 ≤ i) (hi : i < 1000000000000) : freightref1_Sum.l1 (k + 9) x (r : Int) i 0 = freightref1_Sum.l0 k x ((f4 (f4 r) : Nat) : Int) (i + 1) := by
  have l1 := f1_lt hr
  have l2 := f1_lt l1
  have l3 := f1_lt l2
  have l4 := f1_lt l3
  have l5 := f1_lt l4
  have l6 := f1_lt l5
  have l7 := f1_lt l6
  have l8 := f1_lt l7
  rw [sum_l1 x (k + 8) r i 0 hr (by decide) (by decide), sum_l1 x (k + 7) _ i _ l1 (by decide) (by decide), sum_l1 x (k + 6) _ i _ l2 (by decide) (by decide), sum_l1 x (k + 5) _ i _ l3 (by decide) (by decide), sum_l1 x (k + 4) _ i _ l4 (by decide) (by decide), sum_l1 x (k + 3) _ i _ l5 (by decide) (by decide), sum_l1 x (k + 2) _ i _ l6 (by decide) (by decide), sum_l1 x (k + 1) _ i _ l7 (by decide) (by decide)]
  conv => lhs; unfold freightref1_Sum.l1
  rw [if_neg (by decide), w64i (by omega) (by omega)]
  rfl
theorem sum_l0 (x : List Int) (hx : Byt x) (hl : x.length ≤ 1000000) : ∀ (m i r : Nat), i + m = x.length → r < 4294967296 → freightref1_Sum.l0 (10 * m + 1) x (r : Int) (i : Int) = some ((4294967295 - sumR (x.drop i) r : Nat) : Int)
  | 0, i, r, h, hr => by
    unfold freightref1_Sum.l0
    rw [if_neg (by omega), List.drop_of_length_le (by omega), w64i (by omega) (by omega)]
    congr 1
    show _ = ((4294967295 - r : Nat) : Int)
    omega
  | m + 1, i, r, h, hr => by
    have hb := hx x[i] (List.getElem_mem (by omega))
    obtain ⟨b, hbb⟩ : ∃ b : Nat, x[i] = (b : Int) := ⟨x[i].toNat, by omega⟩
    have hrd : rd x (i : Int) = (b : Int) := by
      rw [rd, Int.toNat_natCast, List.getD_eq_getElem?_getD, List.getElem?_eq_getElem (by omega), ← hbb]
      rfl
    have hd : x.drop i = (b : Int) :: x.drop (i + 1) := by rw [List.drop_eq_getElem_cons (by omega : i < x.length), hbb]
    have hxl : r ^^^ b < 4294967296 := Nat.xor_lt_two_pow (n := 32) hr (by omega)
    rw [show 10 * (m + 1) + 1 = (10 * m + 1) + 9 + 1 by omega]
    conv => lhs; unfold freightref1_Sum.l0
    rw [if_pos (by omega), if_pos (by omega), hrd, w64i (x := (b : Int)) (by omega) (by omega), i64_xor_n r b hr (by omega), sum_8 x (10 * m + 1) (r ^^^ b) i hxl (by omega) (by omega)]
    have ih := sum_l0 x hx hl m (i + 1) (f4 (f4 (r ^^^ b))) (by omega) (f4_lt (f4_lt hxl))
    have e : ((i + 1 : Nat) : Int) = (i : Int) + 1 := by omega
    rw [← e, ih, hd]
    rfl
theorem sum_f (x : List Int) (hx : Byt x) (hl : x.length ≤ 1000000) : freightref1_Sum.f (10 * x.length + 1) x = some ((sumS x : Nat) : Int) := by
  have := sum_l0 x hx hl x.length 0 4294967295 (by omega) (by omega)
  simpa [freightref1_Sum.f, sumS] using this
end Go.Proofs.YtdekmeanlcpenaaGreatDoor.Codec

namespace Go.Proofs.YtdekmeanlcpenaaGreatDoor.Codec
open Go.RowKit Go.Proofs.YtdekmeanlcpenaaGreatDoorW.PrintWords Go.Proofs.YtdekmeanlcpenaaGreatDoor.Mid
attribute [local go_sem ↓ high] load33_eq load29_eq
attribute [local simp] rowOf_drew rowOf_drewN
attribute [local go_sem high] load33_row load29_row rowOf_drew rowOf_drewN
set_option maxHeartbeats 2000000
set_option maxRecDepth 100000
theorem rcmp_to (w : World) (x y : List Int) (cv : Int) (lx : IdOk x) (ly : IdOk y) (h : cmp x y = cv) : Calls Tryz.prog 72 #[.agg (u8s x).toArray, .agg (u8s y).toArray] w fun e w' => e = .returned (.int .i64 cv) ∧ Below w.heap.size w w' := by
  subst h
  exact order_any w x y lx ly
theorem rrising_any (A : Option Addr) (c : Nat) (ids : List (List Int)) (w : World) (hC : idK.C w A ids.length ids) (hl : ids.length ≤ 140737488355328) :
    Calls Tryz.prog 102 #[.slice A ids.length c] w fun e w' => RetB e (Rises ids) ∧ Below w.heap.size w w' := by
  have HC := Aside0.mk hC
  clear hC
  go_enter Tryz.func102, Tryz.ntmps102
  go_wp2
  go_loopg [3] ids.length (fun k v3 w' => ∃ i : Nat, v3 = .int .i64 i ∧ i + k = ids.length + 1 ∧ 1 ≤ i ∧ Aside0 (RiseUp ids i) ∧ Aside0 (Below w.heap.size w w'))
  case atStart => exact ⟨1, rfl, by omega, by omega, ⟨fun j x y h => by omega⟩, ⟨Below.refl _ _⟩⟩
  case round =>
    obtain ⟨i, rfl, hik, hi1, HU, HB⟩ := hrel
    by_cases hi : i < ids.length
    · obtain ⟨k, rfl⟩ : ∃ k, gk = k + 1 := ⟨gk - 1, by omega⟩
      have hi2 : (i : Int) < (ids.length : Int) := by omega
      obtain ⟨m, rfl⟩ : ∃ m, i = m + 1 := ⟨i - 1, by omega⟩
      obtain ⟨ad, x, rfl, hx, hxo, hxa⟩ := id_at (Kd.C_below HC.out HB.out) m (by omega)
      obtain ⟨ad', y, e1, hy, hyo, hya⟩ := id_at (Kd.C_below HC.out HB.out) (m + 1) hi
      cases e1
      have g1 : ∀ u : CW (Since wr), rowOf u.w (ad.add (m * 32)) 32 = some (u8s x) := fun u => (hxa.below u.h).id hxo
      have g2 : ∀ u : CW (Since wr), rowOf u.w (ad.add ((m + 1) * 32)) 32 = some (u8s y) := fun u => (hya.below u.h).id hyo
      have hm2 : (m : Int) < (ids.length : Int) := by omega
      have Hx := Aside0.mk (⟨hx, hxo⟩ : _ ∧ _)
      have Hy := Aside0.mk (⟨hy, hyo⟩ : _ ∧ _)
      clear hx hxo hxa hy hyo hya
      obtain ⟨cv, hcv⟩ : ∃ cv, cmp x y = cv := ⟨_, rfl⟩
      have hcr := cmp_vals x y
      rw [hcv] at hcr
      have HCV := Aside0.mk hcv
      clear hcv
      go_wp2
      refine wp_region_S (Since wr) (by kernel_rfl) (by kernel_rfl) (since_drew wr) ?_
      repeat (go_big_quiet_step (first | (go_at_call 72; refine calls_since (rcmp_to _ x y cv Hx.out.2 Hy.out.2 HCV.out))))
      refine wpQuiet_nil ?_
      rintro _ ⟨⟨w5, hb5⟩, rfl⟩
      have HB5 := Aside0.mk (below_of HB.out hb5 (Nat.le_refl _))
      clear hb5 HB
      by_cases hcz : 0 ≤ cv
      · go_wp2
        go_ret
        exact ⟨.no rfl (fun h => by have h1 := h m x y Hx.out.1 Hy.out.1; have h2 := HCV.out; omega), HB5.out⟩
      · have HU2 : Aside0 (RiseUp ids (m + 2)) := ⟨fun j a b hj ha hb => by
          by_cases he : j = m
          · subst he
            rw [Hx.out.1] at ha
            rw [Hy.out.1] at hb
            cases ha; cases hb
            have := HCV.out
            omega
          · exact HU.out j a b (by omega) ha hb⟩
        go_wp2
        go_roundg k
        case measure => omega
        case rel => exact ⟨m + 2, by go_num, by omega, by omega, HU2, HB5⟩
    · have hd : decide ((i : Int) < (ids.length : Int)) = false := by simp; omega
      have hd2 : decide (i < ids.length) = false := by simp; omega
      have Hi : Aside0 (ids.length ≤ i) := ⟨by omega⟩
      clear hik
      go_wp2
      go_ret
      exact ⟨.yes rfl (fun j x y h1 h2 => HU.out j x y (by have := (List.getElem?_eq_some_iff.1 h2).1; have := Hi.out; omega) h1 h2), HB.out⟩
end Go.Proofs.YtdekmeanlcpenaaGreatDoor.Codec

namespace Go.Proofs.YtdekmeanlcpenaaGreatDoor.Codec
open Go.RowKit Go.Proofs.YtdekmeanlcpenaaGreatDoorW.PrintWords Go.Proofs.YtdekmeanlcpenaaGreatDoor.Mid
set_option maxHeartbeats 2000000
set_option maxRecDepth 100000
theorem named_any (s : ByteArray) (w : World) : Calls Tryz.prog 101 #[.string s] w fun e w' => RetB e (NameOk s) ∧ w = w' := by
  by_cases hz : s.size = 0
  · have hse : s = { data := #[] } := by
      have h2 : s.data = #[] := Array.eq_empty_of_size_eq_zero hz
      cases s; simp at h2; rw [h2]
    subst hse
    go_enter Tryz.func101, Tryz.ntmps101
    go_wp2
    go_ret
    exact ⟨.no rfl (fun h => absurd h.pos (by decide)), rfl⟩
  · have hn : ¬ (s.size : Int) < 1 := by omega
    by_cases hm : s.size ≤ 112
    · have hm1 : (s.size : Int) ≤ 112 := by omega
      go_enter Tryz.func101, Tryz.ntmps101
      go_wp2
      go_loopg [3] s.size (fun k v3 w' => ∃ i : Nat, v3 = .int .i64 i ∧ i + k = s.size ∧ Aside0 (Lets s i) ∧ w = w')
      case atStart => exact ⟨0, rfl, by omega, ⟨fun j c h => by omega⟩, rfl⟩
      case round =>
        obtain ⟨i, rfl, hik, HL, rfl⟩ := hrel
        cases gk with
        | zero =>
          have hd : decide (i < s.size) = false := by simp; omega
          have hd2 : decide ((i : Int) < (s.size : Int)) = false := by simp; omega
          have Hi : Aside0 (i = s.size) := ⟨by omega⟩
          clear hik
          go_wp2
          go_ret
          exact ⟨.yes rfl ⟨by omega, hm, fun j c h => HL.out j c (by rw [Hi.out]; have := (List.getElem?_eq_some_iff.1 h).1; simpa using this) h⟩, rfl⟩
        | succ k =>
          have hi1 : i < s.size := by omega
          have hi2 : (i : Int) < (s.size : Int) := by omega
          obtain ⟨x, hx⟩ : ∃ x : Nat, (s[i]'hi1).toNat = x := ⟨_, rfl⟩
          have hx1 : ((s[i]'hi1).toNat : Int) = (x : Int) := by rw [hx]
          have HC : Aside0 (s.data.toList[i]? = some (s[i]'hi1)) := ⟨by rw [List.getElem?_eq_getElem (by simpa using hi1)]; rfl⟩
          have HX := Aside0.mk hx
          clear hx
          by_cases hok : okN x
          · have HY : Aside0 (Lets s (i + 1)) := ⟨fun j c hj hc => by
              by_cases he : j = i
              · subst he
                rw [HC.out] at hc
                injection hc with hc
                rw [← hc, okC_iff, HX.out]; exact hok
              · exact HL.out j c (by omega) hc⟩
            rcases hok with ⟨h1, h2⟩ | ⟨h1, h2⟩ | rfl | rfl | rfl | rfl
            · have h3 : (97 : Int) ≤ (x : Int) := by omega
              have h4 : (x : Int) ≤ 122 := by omega
              go_wp2
              go_roundg k
              case measure => omega
              case rel => exact ⟨i + 1, by go_num, by omega, HY, rfl⟩
            · have h3 : (48 : Int) ≤ (x : Int) := by omega
              have h4 : (x : Int) ≤ 57 := by omega
              have h5 : ¬ (97 : Int) ≤ (x : Int) := by omega
              go_wp2
              go_roundg k
              case measure => omega
              case rel => exact ⟨i + 1, by go_num, by omega, HY, rfl⟩
            · clear HX HC HL
              go_wp2
              go_roundg k
              case measure => omega
              case rel => exact ⟨i + 1, by go_num, by omega, HY, rfl⟩
            · clear HX HC HL
              go_wp2
              go_roundg k
              case measure => omega
              case rel => exact ⟨i + 1, by go_num, by omega, HY, rfl⟩
            · clear HX HC HL
              go_wp2
              go_roundg k
              case measure => omega
              case rel => exact ⟨i + 1, by go_num, by omega, HY, rfl⟩
            · clear HX HC HL
              go_wp2
              go_roundg k
              case measure => omega
              case rel => exact ⟨i + 1, by go_num, by omega, HY, rfl⟩
          · have HN : Aside0 (¬ NameOk s) := ⟨fun h => hok (by rw [← HX.out, ← okC_iff]; exact h.all i _ HC.out)⟩
            have n1 : ((x : Int) == 46) = false := by rw [beq_eq_false_iff_ne]; intro h; exact hok (by unfold okN; omega)
            have n2 : ((x : Int) == 45) = false := by rw [beq_eq_false_iff_ne]; intro h; exact hok (by unfold okN; omega)
            have n3 : ((x : Int) == 95) = false := by rw [beq_eq_false_iff_ne]; intro h; exact hok (by unfold okN; omega)
            have n4 : ((x : Int) == 43) = false := by rw [beq_eq_false_iff_ne]; intro h; exact hok (by unfold okN; omega)
            have m1 : ((x : Int) != 46) = true := by rw [bne, n1]; rfl
            have m2 : ((x : Int) != 45) = true := by rw [bne, n2]; rfl
            have m3 : ((x : Int) != 95) = true := by rw [bne, n3]; rfl
            have m4 : ((x : Int) != 43) = true := by rw [bne, n4]; rfl
            by_cases a1 : 97 ≤ x
            · have a2 : (97 : Int) ≤ (x : Int) := by omega
              have a3 : ¬ (x : Int) ≤ 122 := fun h => hok (by unfold okN; omega)
              have a4 : (48 : Int) ≤ (x : Int) := by omega
              have a5 : ¬ (x : Int) ≤ 57 := by omega
              clear hok
              go_wp2
              go_ret
              exact ⟨.no rfl HN.out, rfl⟩
            · have a2 : ¬ (97 : Int) ≤ (x : Int) := by omega
              by_cases b1 : 48 ≤ x
              · have b2 : (48 : Int) ≤ (x : Int) := by omega
                have b3 : ¬ (x : Int) ≤ 57 := fun h => hok (by unfold okN; omega)
                clear hok
                go_wp2
                go_ret
                exact ⟨.no rfl HN.out, rfl⟩
              · have b2 : ¬ (48 : Int) ≤ (x : Int) := by omega
                clear hok
                go_wp2
                go_ret
                exact ⟨.no rfl HN.out, rfl⟩
    · have hm1 : (112 : Int) < (s.size : Int) := by omega
      go_enter Tryz.func101, Tryz.ntmps101
      go_wp2
      go_ret
      exact ⟨.no rfl (fun h => absurd h.most hm), rfl⟩
end Go.Proofs.YtdekmeanlcpenaaGreatDoor.Codec
