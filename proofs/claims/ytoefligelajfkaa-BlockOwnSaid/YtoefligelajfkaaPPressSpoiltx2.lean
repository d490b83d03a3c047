-- PRINTED BY print.sh 35421559b90ae4d0a3588c463048766b98c2df88dd9212a6774a882060cdf62d: not written by this session
import Derived.Test.YtoefligelajfkaaPPressSpoiltx0
namespace Go.Proofs.Ytoefligelajfkaa.PPressSpoilt
open Go.RowKit Go.Proofs.YtoefligelajfkaaW.PrintWords Go.Proofs.YtoefligelajfkaaW.PrintLast Go.Proofs.YtoefligelajfkaaW.PrintMore
attribute [local go_sem] max2_int min2_int max_two min_two max_three min_three max_four min_four   -- for this text's walks alone
set_option linter.unusedVariables false
set_option linter.unusedSimpArgs false

/-! ### freightlaw4_same: function 22 -/
def freightlaw4_same.l0 : Nat → List Int → List Int → Int → Option (Bool)
  | 0, _, _, _ => none
  | k + 1, x0, x1, x5 => if x5 < (x0.length : Int) then (if 0 ≤ x5 then (if x5 < (x1.length : Int) then (if (rd x0 x5) = (rd x1 x5) then (freightlaw4_same.l0 k x0 x1 (wrap64 (x5 + 1))) else (some false)) else (none)) else (none)) else (some true)
def freightlaw4_same.f (k : Nat) (l0 : List Int) (l1 : List Int) : Option (Bool) := if (l0.length : Int) = (l1.length : Int) then (freightlaw4_same.l0 k l0 l1 0) else (some false)
theorem freightlaw4_same.mono_l : ∀ k, (∀ y0 y1 y2, LeO (freightlaw4_same.l0 k y0 y1 y2) (freightlaw4_same.l0 (k + 1) y0 y1 y2))
  | 0 => fun _ _ _ r h => by simp [freightlaw4_same.l0] at h
  | k + 1 => by
    have ih0 := freightlaw4_same.mono_l k
    · intro y0 y1 y2
      unfold freightlaw4_same.l0
      repeat' first
      | (with_reducible exact ih0 _ _ _)
      | (with_reducible exact LeO.refl _)
      | (with_reducible exact LeO.none _)
      | (with_reducible refine LeO.ite ?_ ?_)
      | (with_reducible refine LeO.bind ?_ (fun _ => ?_))
      | exact ih0 _ _ _
      | exact LeO.none _
      | refine LeO.ite ?_ ?_
      | refine LeO.bind ?_ (fun _ => ?_)
theorem freightlaw4_same.mono : ∀ a0 a1 k, LeO (freightlaw4_same.f k a0 a1) (freightlaw4_same.f (k + 1) a0 a1) := by
  intro a0 a1 k
  have ih0 := freightlaw4_same.mono_l k
  unfold freightlaw4_same.f
  repeat' first
      | (with_reducible exact ih0 _ _ _)
      | (with_reducible exact LeO.refl _)
      | (with_reducible exact LeO.none _)
      | (with_reducible refine LeO.ite ?_ ?_)
      | (with_reducible refine LeO.bind ?_ (fun _ => ?_))
      | exact ih0 _ _ _
      | exact LeO.none _
      | refine LeO.ite ?_ ?_
      | refine LeO.bind ?_ (fun _ => ?_)
set_option maxHeartbeats 8000000 in
set_option maxRecDepth 100000 in
theorem freightlaw4_same.calls (k : Nat) (A0 : Option Addr) (c0 : Nat) (l0 : List Int) (A1 : Option Addr) (c1 : Nat) (l1 : List Int) (r : Bool) (w : World) (hr0 : Kd.C (Kd.int .u8) w A0 l0.length l0) (hc0 : l0.length ≤ c0) (hr1 : Kd.C (Kd.int .u8) w A1 l1.length l1) (hc1 : l1.length ≤ c1) (h : freightlaw4_same.f k l0 l1 = some r) :
    Calls Try.prog 22 #[.slice A0 l0.length c0, .slice A1 l1.length c1] w fun e w' => e = .returned (.bool r) ∧ Drawn0 w w' := by
  have HR0 := Aside0.mk hr0
  have HC0 := Aside0.mk hc0
  clear hr0 hc0
  have HR1 := Aside0.mk hr1
  have HC1 := Aside0.mk hc1
  clear hr1 hc1
  have H : (if (l0.length : Int) = (l1.length : Int) then (freightlaw4_same.l0 k l0 l1 0) else (some false)) = some r := h
  clear h
  by_cases c3 : (l0.length : Int) = (l1.length : Int)
  · rw [if_pos c3] at H
    have c3b0 : ((l0.length : Int) == (l1.length : Int)) = true := beq_iff_eq.mpr c3
    have c3b1 : ((l0.length : Int) != (l1.length : Int)) = false := bne_eq_false_iff_eq.mpr c3
    have c3b2 : (l0.length == l1.length) = true := by first | simpa using c3 | (simp at c3 ⊢; omega)
    clear c3
    have H' := Aside0.mk H
    clear H
    go_enter Try.func22, Try.ntmps22
    go_wp2
    repeat (go_quiet (fail); try go_wp2)
    go_loopg [5] k (fun kq v5 w' => ∃ (x5_1 : Int), v5 = .int .i64 x5_1 ∧ Aside0 (freightlaw4_same.l0 kq l0 l1 x5_1 = some r) ∧ Aside0 (kq ≤ k) ∧ Drawn0 w w')
    case atStart => exact ⟨(0), (by first | rfl | (simp; done) | (simp [*]; done)), H', ⟨Nat.le_refl _⟩, by repeat (first | exact Drawn0.refl _ | apply Drawn0.step)⟩
    case round =>
      clear H'
      try clear c1
      try clear c2
      try clear p2
      try clear c3
      try clear c3b0
      try clear c3b1
      try clear c3b2
      obtain ⟨x5_1, rfl, HA, HK1, ⟨m1, rfl⟩⟩ := hrel
      cases gk with
      | zero => exact absurd HA.out (by simp [freightlaw4_same.l0])
      | succ k1 =>
        have H := HA.out
        clear HA
        simp only [freightlaw4_same.l0] at H
        by_cases c4 : x5_1 < (l0.length : Int)
        · rw [if_pos c4] at H
          have c4b0 : decide (x5_1 < (l0.length : Int)) = true := decide_eq_true c4
          clear c4
          by_cases c5 : 0 ≤ x5_1
          · rw [if_pos c5] at H
            have c5b0 : decide (0 ≤ x5_1) = true := decide_eq_true c5
            clear c5
            by_cases c6 : x5_1 < (l1.length : Int)
            · rw [if_pos c6] at H
              have c6b0 : decide (x5_1 < (l1.length : Int)) = true := decide_eq_true c6
              clear c6
              by_cases c7 : (rd l0 x5_1) = (rd l1 x5_1)
              · rw [if_pos c7] at H
                have c7b0 : ((rd l0 x5_1) == (rd l1 x5_1)) = true := beq_iff_eq.mpr c7
                have c7b1 : ((rd l0 x5_1) != (rd l1 x5_1)) = false := bne_eq_false_iff_eq.mpr c7
                clear c7
                have H' := Aside0.mk H
                clear H
                have p135 : 0 ≤ (x5_1 : Int) := of_decide_eq_true (by first | (with_reducible assumption) | assumption)
                have q135 : x5_1 < (l0.length : Int) := of_decide_eq_true (by first | (with_reducible assumption) | assumption)
                obtain ⟨ad135, e135, hx135_0⟩ := Kd.at_int HR0.out x5_1 p135 q135
                cases e135
                replace p135 := eq_true p135
                replace q135 := eq_true q135
                have p136 : 0 ≤ (x5_1 : Int) := of_decide_eq_true (by first | (with_reducible assumption) | assumption)
                have q136 : x5_1 < (l1.length : Int) := of_decide_eq_true (by first | (with_reducible assumption) | assumption)
                obtain ⟨ad136, e136, hx136_0⟩ := Kd.at_int HR1.out x5_1 p136 q136
                cases e136
                replace p136 := eq_true p136
                replace q136 := eq_true q136
                go_wp2
                repeat (go_quiet (fail); try go_wp2)
                go_roundg k1
                case measure => have := HK1.out; omega
                case rel => exact ⟨(wrap64 (x5_1 + 1)), (by first | rfl | (simp; done) | (simp [*]; done)), H', ⟨by have := HK1.out; omega⟩, by repeat (first | exact Drawn0.refl _ | apply Drawn0.step)⟩
              · rw [if_neg c7] at H
                have c7b0 : ((rd l0 x5_1) == (rd l1 x5_1)) = false := beq_eq_false_iff_ne.mpr c7
                have c7b1 : ((rd l0 x5_1) != (rd l1 x5_1)) = true := bne_iff_ne.mpr c7
                obtain rfl := Option.some.inj H
                have p135 : 0 ≤ (x5_1 : Int) := of_decide_eq_true (by first | (with_reducible assumption) | assumption)
                have q135 : x5_1 < (l0.length : Int) := of_decide_eq_true (by first | (with_reducible assumption) | assumption)
                obtain ⟨ad135, e135, hx135_0⟩ := Kd.at_int HR0.out x5_1 p135 q135
                cases e135
                replace p135 := eq_true p135
                replace q135 := eq_true q135
                have p136 : 0 ≤ (x5_1 : Int) := of_decide_eq_true (by first | (with_reducible assumption) | assumption)
                have q136 : x5_1 < (l1.length : Int) := of_decide_eq_true (by first | (with_reducible assumption) | assumption)
                obtain ⟨ad136, e136, hx136_0⟩ := Kd.at_int HR1.out x5_1 p136 q136
                cases e136
                replace p136 := eq_true p136
                replace q136 := eq_true q136
                go_wp2
                repeat (go_quiet (fail); try go_wp2)
                go_ret
                exact ⟨by first | rfl | (simp; done) | (simp [*]; done), by repeat (first | exact Drawn0.refl _ | apply Drawn0.step)⟩
            · rw [if_neg c6] at H
              exact absurd H (by simp)
          · rw [if_neg c5] at H
            exact absurd H (by simp)
        · rw [if_neg c4] at H
          have c4b0 : decide (x5_1 < (l0.length : Int)) = false := decide_eq_false c4
          clear c4
          obtain rfl := Option.some.inj H
          go_wp2
          repeat (go_quiet (fail); try go_wp2)
          go_ret
          exact ⟨by first | rfl | (simp; done) | (simp [*]; done), by repeat (first | exact Drawn0.refl _ | apply Drawn0.step)⟩
  · rw [if_neg c3] at H
    have c3b0 : ((l0.length : Int) == (l1.length : Int)) = false := beq_eq_false_iff_ne.mpr c3
    have c3b1 : ((l0.length : Int) != (l1.length : Int)) = true := bne_iff_ne.mpr c3
    have c3b2 : (l0.length == l1.length) = false := by first | simpa using c3 | (simp at c3 ⊢; omega)
    obtain rfl := Option.some.inj H
    go_enter Try.func22, Try.ntmps22
    go_wp2
    repeat (go_quiet (fail); try go_wp2)
    go_ret
    exact ⟨by first | rfl | (simp; done) | (simp [*]; done), by repeat (first | exact Drawn0.refl _ | apply Drawn0.step)⟩

-- NOT PRINTED: function 51 (press_gram)

-- NOT PRINTED: function 50 (press_grams_find)

-- NOT PRINTED: function 20 (press_Pack)

-- NOT PRINTED: function 25 (press_Unpack)

-- NOT PRINTED: function 24 (freightlaw4_awake)

/-! ### freightref4_Unpack: function 26 -/
mutual
def freightref4_Unpack.j0 : Nat → List Int → Int → Bool → Option (List Int × Int)
  | 0, _, _, _ => none
  | k + 1, x0, x1, x18 => if x18 = true then (some (([] : List Int), 1)) else (freightref4_Unpack.l0 k x0 x1 ([] : List Int) 0)
def freightref4_Unpack.l0 : Nat → List Int → Int → List Int → Int → Option (List Int × Int)
  | 0, _, _, _, _ => none
  | k + 1, x0, x1, x6, x7 => if x7 < (x0.length : Int) then (if 0 ≤ x7 then (if (wrap64 (x7 + 1)) = (x0.length : Int) then (some (([] : List Int), 40)) else (freightref4_Unpack.l1 k x0 x1 x6 (wrap64 (x7 + 1)) (wrap64 (rd x0 x7)) 0)) else (none)) else (if (x6.length : Int) < x1 then (some (([] : List Int), 41)) else (some (x6, 0)))
def freightref4_Unpack.l1 : Nat → List Int → Int → List Int → Int → Int → Int → Option (List Int × Int)
  | 0, _, _, _, _, _, _ => none
  | k + 1, x0, x1, x6, x7, x8, x9 => if x9 < 8 then (if x7 = (x0.length : Int) then (if (Int.tmod x8 2) = 1 then (some (([] : List Int), 40)) else (freightref4_Unpack.l1 k x0 x1 x6 x7 (wrap64 (Int.tdiv x8 2)) (wrap64 (x9 + 1)))) else (if ((Int.tmod x8 2) = 1) then (if (wrap64 (x7 + 1)) = (x0.length : Int) then (some (([] : List Int), 40)) else (if 0 ≤ x7 then (if x7 < (x0.length : Int) then (if 0 ≤ (wrap64 (x7 + 1)) then (if (wrap64 (x7 + 1)) < (x0.length : Int) then (if (wrap64 ((wrap64 (Int.tdiv (wrap64 ((wrap64 (256 * (wrap64 (rd x0 x7)))) + (wrap64 (rd x0 (wrap64 (x7 + 1)))))) 64)) + 1)) > (x6.length : Int) then (some (([] : List Int), 40)) else (if (wrap64 ((wrap64 ((x6.length : Int) + (Int.tmod (wrap64 ((wrap64 (256 * (wrap64 (rd x0 x7)))) + (wrap64 (rd x0 (wrap64 (x7 + 1)))))) 64))) + 3)) > x1 then (some (([] : List Int), 41)) else (freightref4_Unpack.l2 k x0 x1 x6 (wrap64 (x7 + 2)) (wrap64 (Int.tdiv x8 2)) x9 (wrap64 ((wrap64 (256 * (wrap64 (rd x0 x7)))) + (wrap64 (rd x0 (wrap64 (x7 + 1)))))) (wrap64 ((Int.tmod (wrap64 ((wrap64 (256 * (wrap64 (rd x0 x7)))) + (wrap64 (rd x0 (wrap64 (x7 + 1)))))) 64) + 3))))) else (none)) else (none)) else (none)) else (none))) else (if (x6.length : Int) = x1 then (some (([] : List Int), 41)) else (if 0 ≤ x7 then (if x7 < (x0.length : Int) then (if x6.length < 140737488355328 then (freightref4_Unpack.l1 k x0 x1 (x6 ++ [rd x0 x7]) (wrap64 (x7 + 1)) (wrap64 (Int.tdiv x8 2)) (wrap64 (x9 + 1))) else (none)) else (none)) else (none))))) else (freightref4_Unpack.l0 k x0 x1 x6 x7)
def freightref4_Unpack.l2 : Nat → List Int → Int → List Int → Int → Int → Int → Int → Int → Option (List Int × Int)
  | 0, _, _, _, _, _, _, _, _ => none
  | k + 1, x0, x1, x6, x7, x8, x9, x11, x12 => if x12 > 0 then (if 0 ≤ (wrap64 ((wrap64 ((x6.length : Int) - (wrap64 (Int.tdiv x11 64)))) - 1)) then (if (wrap64 ((wrap64 ((x6.length : Int) - (wrap64 (Int.tdiv x11 64)))) - 1)) < (x6.length : Int) then (if x6.length < 140737488355328 then (freightref4_Unpack.l2 k x0 x1 (x6 ++ [rd x6 (wrap64 ((wrap64 ((x6.length : Int) - (wrap64 (Int.tdiv x11 64)))) - 1))]) x7 x8 x9 x11 (wrap64 (x12 - 1))) else (none)) else (none)) else (none)) else (freightref4_Unpack.l1 k x0 x1 x6 x7 x8 (wrap64 (x9 + 1)))
end
def freightref4_Unpack.f (k : Nat) (l0 : List Int) (a1 : Int) : Option (List Int × Int) := if a1 < 0 then (freightref4_Unpack.j0 k l0 a1 true) else (freightref4_Unpack.j0 k l0 a1 (decide (a1 > 4096)))
theorem freightref4_Unpack.mono_l : ∀ k, (∀ y0 y1 y2, LeO (freightref4_Unpack.j0 k y0 y1 y2) (freightref4_Unpack.j0 (k + 1) y0 y1 y2)) ∧ (∀ y0 y1 y2 y3, LeO (freightref4_Unpack.l0 k y0 y1 y2 y3) (freightref4_Unpack.l0 (k + 1) y0 y1 y2 y3)) ∧ (∀ y0 y1 y2 y3 y4 y5, LeO (freightref4_Unpack.l1 k y0 y1 y2 y3 y4 y5) (freightref4_Unpack.l1 (k + 1) y0 y1 y2 y3 y4 y5)) ∧ (∀ y0 y1 y2 y3 y4 y5 y6 y7, LeO (freightref4_Unpack.l2 k y0 y1 y2 y3 y4 y5 y6 y7) (freightref4_Unpack.l2 (k + 1) y0 y1 y2 y3 y4 y5 y6 y7))
  | 0 => ⟨fun _ _ _ r h => by simp [freightref4_Unpack.j0] at h, fun _ _ _ _ r h => by simp [freightref4_Unpack.l0] at h, fun _ _ _ _ _ _ r h => by simp [freightref4_Unpack.l1] at h, fun _ _ _ _ _ _ _ _ r h => by simp [freightref4_Unpack.l2] at h⟩
  | k + 1 => by
    obtain ⟨ih0, ih1, ih2, ih3⟩ := freightref4_Unpack.mono_l k
    refine ⟨?_, ?_, ?_, ?_⟩
    · intro y0 y1 y2
      unfold freightref4_Unpack.j0
      repeat' first
      | (with_reducible exact ih0 _ _ _)
      | (with_reducible exact ih1 _ _ _ _)
      | (with_reducible exact ih2 _ _ _ _ _ _)
      | (with_reducible exact ih3 _ _ _ _ _ _ _ _)
      | (with_reducible exact LeO.refl _)
      | (with_reducible exact LeO.none _)
      | (with_reducible refine LeO.ite ?_ ?_)
      | (with_reducible refine LeO.bind ?_ (fun _ => ?_))
      | exact ih0 _ _ _
      | exact ih1 _ _ _ _
      | exact ih2 _ _ _ _ _ _
      | exact ih3 _ _ _ _ _ _ _ _
      | exact LeO.none _
      | refine LeO.ite ?_ ?_
      | refine LeO.bind ?_ (fun _ => ?_)
    · intro y0 y1 y2 y3
      unfold freightref4_Unpack.l0
      repeat' first
      | (with_reducible exact ih0 _ _ _)
      | (with_reducible exact ih1 _ _ _ _)
      | (with_reducible exact ih2 _ _ _ _ _ _)
      | (with_reducible exact ih3 _ _ _ _ _ _ _ _)
      | (with_reducible exact LeO.refl _)
      | (with_reducible exact LeO.none _)
      | (with_reducible refine LeO.ite ?_ ?_)
      | (with_reducible refine LeO.bind ?_ (fun _ => ?_))
      | exact ih0 _ _ _
      | exact ih1 _ _ _ _
      | exact ih2 _ _ _ _ _ _
      | exact ih3 _ _ _ _ _ _ _ _
      | exact LeO.none _
      | refine LeO.ite ?_ ?_
      | refine LeO.bind ?_ (fun _ => ?_)
    · intro y0 y1 y2 y3 y4 y5
      unfold freightref4_Unpack.l1
      repeat' first
      | (with_reducible exact ih0 _ _ _)
      | (with_reducible exact ih1 _ _ _ _)
      | (with_reducible exact ih2 _ _ _ _ _ _)
      | (with_reducible exact ih3 _ _ _ _ _ _ _ _)
      | (with_reducible exact LeO.refl _)
      | (with_reducible exact LeO.none _)
      | (with_reducible refine LeO.ite ?_ ?_)
      | (with_reducible refine LeO.bind ?_ (fun _ => ?_))
      | exact ih0 _ _ _
      | exact ih1 _ _ _ _
      | exact ih2 _ _ _ _ _ _
      | exact ih3 _ _ _ _ _ _ _ _
      | exact LeO.none _
      | refine LeO.ite ?_ ?_
      | refine LeO.bind ?_ (fun _ => ?_)
    · intro y0 y1 y2 y3 y4 y5 y6 y7
      unfold freightref4_Unpack.l2
      repeat' first
      | (with_reducible exact ih0 _ _ _)
      | (with_reducible exact ih1 _ _ _ _)
      | (with_reducible exact ih2 _ _ _ _ _ _)
      | (with_reducible exact ih3 _ _ _ _ _ _ _ _)
      | (with_reducible exact LeO.refl _)
      | (with_reducible exact LeO.none _)
      | (with_reducible refine LeO.ite ?_ ?_)
      | (with_reducible refine LeO.bind ?_ (fun _ => ?_))
      | exact ih0 _ _ _
      | exact ih1 _ _ _ _
      | exact ih2 _ _ _ _ _ _
      | exact ih3 _ _ _ _ _ _ _ _
      | exact LeO.none _
      | refine LeO.ite ?_ ?_
      | refine LeO.bind ?_ (fun _ => ?_)
theorem freightref4_Unpack.mono : ∀ a0 a1 k, LeO (freightref4_Unpack.f k a0 a1) (freightref4_Unpack.f (k + 1) a0 a1) := by
  intro a0 a1 k
  obtain ⟨ih0, ih1, ih2, ih3⟩ := freightref4_Unpack.mono_l k
  unfold freightref4_Unpack.f
  repeat' first
      | (with_reducible exact ih0 _ _ _)
      | (with_reducible exact ih1 _ _ _ _)
      | (with_reducible exact ih2 _ _ _ _ _ _)
      | (with_reducible exact ih3 _ _ _ _ _ _ _ _)
      | (with_reducible exact LeO.refl _)
      | (with_reducible exact LeO.none _)
      | (with_reducible refine LeO.ite ?_ ?_)
      | (with_reducible refine LeO.bind ?_ (fun _ => ?_))
      | exact ih0 _ _ _
      | exact ih1 _ _ _ _
      | exact ih2 _ _ _ _ _ _
      | exact ih3 _ _ _ _ _ _ _ _
      | exact LeO.none _
      | refine LeO.ite ?_ ?_
      | refine LeO.bind ?_ (fun _ => ?_)
set_option maxHeartbeats 8000000 in
set_option maxRecDepth 100000 in
theorem freightref4_Unpack.calls (k : Nat) (A0 : Option Addr) (c0 : Nat) (l0 : List Int) (a1 : Int) (r1 : List Int) (r2 : Int) (w : World) (hr0 : Kd.C (Kd.int .u8) w A0 l0.length l0) (hc0 : l0.length ≤ c0) (h : freightref4_Unpack.f k l0 a1 = some (r1, r2)) :
    Calls Try.prog 26 #[.slice A0 l0.length c0, .int .i64 a1] w fun e w' => ∃ v0_ : Value, e = .returned (.tuple #[v0_, .int .i64 r2]) ∧ Kd.R (Kd.int .u8) 5 w' w.heap.size (fun _ => True) v0_ r1 ∧ Below w.heap.size w w' := by
  have HR0 := Aside0.mk hr0
  have HC0 := Aside0.mk hc0
  clear hr0 hc0
  have HB := Aside0.mk (Below.refl w.heap.size w)
  have H : (if a1 < 0 then (freightref4_Unpack.j0 k l0 a1 true) else (freightref4_Unpack.j0 k l0 a1 (decide (a1 > 4096)))) = some (r1, r2) := h
  clear h
  have HC3 := Aside0.mk H
  clear H
  go_enter Try.func26, Try.ntmps26
  go_upto_region 1 with (fail)
  repeat (go_quiet (fail); go_upto_region 1 with (fail))
  go_cut [18] (fun v18 wc => ∃ (kq : Nat) (x18_2 : Bool), v18 = .bool x18_2 ∧ Aside0 (freightref4_Unpack.j0 kq l0 a1 x18_2 = some (r1, r2)) ∧ Aside0 (kq ≤ k) ∧ Aside0 (Below w.heap.size w wc))
  case first =>
    have H := HC3.out
    clear HC3
    by_cases c4 : a1 < 0
    · rw [if_pos c4] at H
      have c4b0 : decide (a1 < 0) = true := decide_eq_true c4
      clear c4
      (first | rw [c4b0] | (simp only [i64_w, i32_w]; rw [c4b0]) | skip)
      have H' := Aside0.mk H
      clear H
      go_wp2
      repeat (go_quiet (fail); try go_wp2)
      go_meet
      case rel => exact ⟨_, (true), (by first | rfl | (simp; done) | (simp [*]; done)), H', ⟨by first | omega | exact Nat.le_refl _⟩, ⟨by repeat (first | (with_reducible first | exact HB.out | apply below_alloc | apply pw_below_drewN | apply below_drew1) | exact HB.out)⟩⟩
    · rw [if_neg c4] at H
      have c4b0 : decide (a1 < 0) = false := decide_eq_false c4
      clear c4
      (first | rw [c4b0] | (simp only [i64_w, i32_w]; rw [c4b0]) | skip)
      have H' := Aside0.mk H
      clear H
      go_wp2
      repeat (go_quiet (fail); try go_wp2)
      go_meet
      case rel => exact ⟨_, (decide (a1 > 4096)), (by first | rfl | (simp; done) | (simp [*]; done)), H', ⟨by first | omega | exact Nat.le_refl _⟩, ⟨by repeat (first | (with_reducible first | exact HB.out | apply below_alloc | apply pw_below_drewN | apply below_drew1) | exact HB.out)⟩⟩
  case rest =>
    clear HC3
    try clear c2
    try clear p2
    try clear c4
    try clear c4b0
    obtain ⟨kq, x18_2, rfl, HA, HJ2, HB⟩ := hcut
    cases kq with
    | zero => exact absurd HA.out (by simp [freightref4_Unpack.j0])
    | succ kj2 =>
      have H := HA.out
      clear HA
      simp only [freightref4_Unpack.j0] at H
      by_cases c5 : x18_2 = true
      · subst c5
        have H1 : (some (([] : List Int), 1)) = some (r1, r2) := by rw [if_pos rfl] at H; exact H
        clear H
        have H := H1
        clear H1
        simp only [Option.some.injEq, Prod.mk.injEq] at H
        obtain ⟨rfl, rfl⟩ := H
        go_wp2
        repeat (go_quiet (fail); try go_wp2)
        go_ret2
        exact ⟨_, by first | rfl | (simp [errW_none, errW_some] <;> rfl) | (simp [*, errW_none, errW_some] <;> rfl), by first | exact Kd.R_nil _ _ _ _ _ | exact Kd.N_nil _ _ _ _ _ | exact Kd.V_nil _ _ _ _ _ | exact Kd.Q_nil _ _ _ _ _ | exact Kd.S_nil _ _ _ _ _, by repeat (first | (with_reducible first | exact HB.out | apply below_alloc | apply pw_below_drewN | apply below_drew1) | exact HB.out)⟩
      · replace c5 := Bool.eq_false_iff.mpr c5
        subst c5
        have H1 : (freightref4_Unpack.l0 kj2 l0 a1 ([] : List Int) 0) = some (r1, r2) := by rw [if_neg (show ¬ (false = true) by decide)] at H; exact H
        clear H
        have H := H1
        clear H1
        have H' := Aside0.mk H
        clear H
        go_wp2
        repeat (go_quiet (fail); try go_wp2)
        go_loopg [6, 7] kj2 (fun kq v6 v7 w' => ∃ (x6_2 : List Int) (x7_2 : Int), v7 = .int .i64 x7_2 ∧ Aside0 (freightref4_Unpack.l0 kq l0 a1 x6_2 x7_2 = some (r1, r2)) ∧ Aside0 (kq ≤ kj2) ∧ Aside0 (Kd.R (Kd.int .u8) 5 w' w.heap.size (fun _ => True) v6 x6_2) ∧ Aside0 (Below w.heap.size w w'))
        case atStart => exact ⟨(([] : List Int)), (0), (by first | rfl | (simp; done) | (simp [*]; done)), H', ⟨Nat.le_refl _⟩, ⟨by first | exact Kd.R_nil _ _ _ _ _ | exact Kd.N_nil _ _ _ _ _ | exact Kd.V_nil _ _ _ _ _ | exact Kd.Q_nil _ _ _ _ _ | exact Kd.S_nil _ _ _ _ _⟩, ⟨by repeat (first | (with_reducible first | exact HB.out | apply below_alloc | apply pw_below_drewN | apply below_drew1) | exact HB.out)⟩⟩
        case round =>
          clear H'
          try clear c2
          try clear p2
          try clear c4
          try clear c4b0
          try clear c5
          try clear p2
          obtain ⟨x6_2, x7_2, rfl, HA, HK2, HO_6, HB⟩ := hrel
          cases gk with
          | zero => exact absurd HA.out (by simp [freightref4_Unpack.l0])
          | succ k2 =>
            have H := HA.out
            clear HA
            simp only [freightref4_Unpack.l0] at H
            by_cases c6 : x7_2 < (l0.length : Int)
            · rw [if_pos c6] at H
              have c6b0 : decide (x7_2 < (l0.length : Int)) = true := decide_eq_true c6
              clear c6
              by_cases c7 : 0 ≤ x7_2
              · rw [if_pos c7] at H
                have c7b0 : decide (0 ≤ x7_2) = true := decide_eq_true c7
                clear c7
                by_cases c8 : (wrap64 (x7_2 + 1)) = (l0.length : Int)
                · rw [if_pos c8] at H
                  have c8b0 : ((wrap64 (x7_2 + 1)) == (l0.length : Int)) = true := beq_iff_eq.mpr c8
                  have c8b1 : ((wrap64 (x7_2 + 1)) != (l0.length : Int)) = false := bne_eq_false_iff_eq.mpr c8
                  clear c8
                  simp only [Option.some.injEq, Prod.mk.injEq] at H
                  obtain ⟨rfl, rfl⟩ := H
                  have p140 : 0 ≤ (x7_2 : Int) := of_decide_eq_true (by first | (with_reducible assumption) | assumption)
                  have q140 : x7_2 < (l0.length : Int) := of_decide_eq_true (by first | (with_reducible assumption) | assumption)
                  obtain ⟨ad140, e140, hx140_0⟩ := Kd.at_int HR0.out x7_2 p140 q140
                  cases e140
                  replace hx140_0 := (HB.out.cell (World.block_lt_of_cell? w _ hx140_0)).trans hx140_0
                  replace p140 := eq_true p140
                  replace q140 := eq_true q140
                  go_wp2
                  repeat (go_quiet (fail); try go_wp2)
                  go_ret2
                  exact ⟨_, by first | rfl | (simp [errW_none, errW_some] <;> rfl) | (simp [*, errW_none, errW_some] <;> rfl), by first | exact Kd.R_nil _ _ _ _ _ | exact Kd.N_nil _ _ _ _ _ | exact Kd.V_nil _ _ _ _ _ | exact Kd.Q_nil _ _ _ _ _ | exact Kd.S_nil _ _ _ _ _, by repeat (first | (with_reducible first | exact HB.out | apply below_alloc | apply pw_below_drewN | apply below_drew1) | exact HB.out)⟩
                · rw [if_neg c8] at H
                  have c8b0 : ((wrap64 (x7_2 + 1)) == (l0.length : Int)) = false := beq_eq_false_iff_ne.mpr c8
                  have c8b1 : ((wrap64 (x7_2 + 1)) != (l0.length : Int)) = true := bne_iff_ne.mpr c8
                  have H' := Aside0.mk H
                  clear H
                  have p140 : 0 ≤ (x7_2 : Int) := of_decide_eq_true (by first | (with_reducible assumption) | assumption)
                  have q140 : x7_2 < (l0.length : Int) := of_decide_eq_true (by first | (with_reducible assumption) | assumption)
                  obtain ⟨ad140, e140, hx140_0⟩ := Kd.at_int HR0.out x7_2 p140 q140
                  cases e140
                  replace hx140_0 := (HB.out.cell (World.block_lt_of_cell? w _ hx140_0)).trans hx140_0
                  replace p140 := eq_true p140
                  replace q140 := eq_true q140
                  go_wp2
                  repeat (go_quiet (fail); try go_wp2)
                  go_loopg [6, 7, 8, 9] k2 (fun kq v6 v7 v8 v9 w' => ∃ (x6_3 : List Int) (x7_3 : Int) (x8_3 : Int) (x9_3 : Int), v7 = .int .i64 x7_3 ∧ v8 = .int .i64 x8_3 ∧ v9 = .int .i64 x9_3 ∧ Aside0 (freightref4_Unpack.l1 kq l0 a1 x6_3 x7_3 x8_3 x9_3 = some (r1, r2)) ∧ Aside0 (kq ≤ k2) ∧ Aside0 (Kd.R (Kd.int .u8) 5 w' w.heap.size (fun _ => True) v6 x6_3) ∧ Aside0 (Below w.heap.size w w'))
                  case atStart => exact ⟨(x6_2), (wrap64 (x7_2 + 1)), (wrap64 (rd l0 x7_2)), (0), (by first | rfl | (simp; done) | (simp [*]; done)), (by first | rfl | (simp; done) | (simp [*]; done)), (by first | rfl | (simp; done) | (simp [*]; done)), H', ⟨Nat.le_refl _⟩, ⟨by (with_reducible repeat (first | apply Kd.R_alloc | apply Kd.R_drewN | apply Kd.R_drew)); exact HO_6.out⟩, ⟨by repeat (first | (with_reducible first | exact HB.out | apply below_alloc | apply pw_below_drewN | apply below_drew1) | exact HB.out)⟩⟩
                  case round =>
                    clear H'
                    try clear p1
                    try clear q1
                    try clear hx1
                    try clear c2
                    try clear p2
                    try clear c4
                    try clear c4b0
                    try clear c5
                    try clear c6
                    try clear c6b0
                    try clear p6
                    try clear c7
                    try clear c7b0
                    try clear c8
                    try clear c8b0
                    try clear c8b1
                    try clear hx140_0
                    try clear p140
                    try clear p2
                    try clear q140
                    obtain ⟨x6_3, x7_3, x8_3, x9_3, rfl, rfl, rfl, HA, HK3, HO_6, HB⟩ := hrel
                    cases gk with
                    | zero => exact absurd HA.out (by simp [freightref4_Unpack.l1])
                    | succ k3 =>
                      have H := HA.out
                      clear HA
                      simp only [freightref4_Unpack.l1] at H
                      by_cases c9 : x9_3 < 8
                      · rw [if_pos c9] at H
                        have c9b0 : decide (x9_3 < 8) = true := decide_eq_true c9
                        clear c9
                        by_cases c10 : x7_3 = (l0.length : Int)
                        · rw [if_pos c10] at H
                          have c10b0 : (x7_3 == (l0.length : Int)) = true := beq_iff_eq.mpr c10
                          have c10b1 : (x7_3 != (l0.length : Int)) = false := bne_eq_false_iff_eq.mpr c10
                          clear c10
                          by_cases c11 : (Int.tmod x8_3 2) = 1
                          · rw [if_pos c11] at H
                            have c11b0 : ((Int.tmod x8_3 2) == 1) = true := beq_iff_eq.mpr c11
                            have c11b1 : ((Int.tmod x8_3 2) != 1) = false := bne_eq_false_iff_eq.mpr c11
                            clear c11
                            simp only [Option.some.injEq, Prod.mk.injEq] at H
                            obtain ⟨rfl, rfl⟩ := H
                            go_wp2
                            repeat (go_quiet (fail); try go_wp2)
                            go_ret2
                            exact ⟨_, by first | rfl | (simp [errW_none, errW_some] <;> rfl) | (simp [*, errW_none, errW_some] <;> rfl), by first | exact Kd.R_nil _ _ _ _ _ | exact Kd.N_nil _ _ _ _ _ | exact Kd.V_nil _ _ _ _ _ | exact Kd.Q_nil _ _ _ _ _ | exact Kd.S_nil _ _ _ _ _, by repeat (first | (with_reducible first | exact HB.out | apply below_alloc | apply pw_below_drewN | apply below_drew1) | exact HB.out)⟩
                          · rw [if_neg c11] at H
                            have c11b0 : ((Int.tmod x8_3 2) == 1) = false := beq_eq_false_iff_ne.mpr c11
                            have c11b1 : ((Int.tmod x8_3 2) != 1) = true := bne_iff_ne.mpr c11
                            have H' := Aside0.mk H
                            clear H
                            go_wp2
                            repeat (go_quiet (fail); try go_wp2)
                            go_roundg k3
                            case measure => have := HJ2.out; have := HK2.out; have := HK3.out; omega
                            case rel => exact ⟨(x6_3), (x7_3), (wrap64 (Int.tdiv x8_3 2)), (wrap64 (x9_3 + 1)), (by first | rfl | (simp; done) | (simp [*]; done)), (by first | rfl | (simp; done) | (simp [*]; done)), (by first | rfl | (simp; done) | (simp [*]; done)), H', ⟨by have := HJ2.out; have := HK2.out; have := HK3.out; omega⟩, ⟨by (with_reducible repeat (first | apply Kd.R_alloc | apply Kd.R_drewN | apply Kd.R_drew)); exact HO_6.out⟩, ⟨by repeat (first | (with_reducible first | exact HB.out | apply below_alloc | apply pw_below_drewN | apply below_drew1) | exact HB.out)⟩⟩
                        · rw [if_neg c10] at H
                          have c10b0 : (x7_3 == (l0.length : Int)) = false := beq_eq_false_iff_ne.mpr c10
                          have c10b1 : (x7_3 != (l0.length : Int)) = true := bne_iff_ne.mpr c10
                          by_cases c12 : ((Int.tmod x8_3 2) = 1)
                          · rw [if_pos c12] at H
                            have c12b0 : ((Int.tmod x8_3 2) == 1) = true := beq_iff_eq.mpr c12
                            have c12b1 : ((Int.tmod x8_3 2) != 1) = false := bne_eq_false_iff_eq.mpr c12
                            clear c12
                            by_cases c13 : (wrap64 (x7_3 + 1)) = (l0.length : Int)
                            · rw [if_pos c13] at H
                              have c13b0 : ((wrap64 (x7_3 + 1)) == (l0.length : Int)) = true := beq_iff_eq.mpr c13
                              have c13b1 : ((wrap64 (x7_3 + 1)) != (l0.length : Int)) = false := bne_eq_false_iff_eq.mpr c13
                              clear c13
                              simp only [Option.some.injEq, Prod.mk.injEq] at H
                              obtain ⟨rfl, rfl⟩ := H
                              go_wp2
                              repeat (go_quiet (fail); try go_wp2)
                              go_ret2
                              exact ⟨_, by first | rfl | (simp [errW_none, errW_some] <;> rfl) | (simp [*, errW_none, errW_some] <;> rfl), by first | exact Kd.R_nil _ _ _ _ _ | exact Kd.N_nil _ _ _ _ _ | exact Kd.V_nil _ _ _ _ _ | exact Kd.Q_nil _ _ _ _ _ | exact Kd.S_nil _ _ _ _ _, by repeat (first | (with_reducible first | exact HB.out | apply below_alloc | apply pw_below_drewN | apply below_drew1) | exact HB.out)⟩
                            · rw [if_neg c13] at H
                              have c13b0 : ((wrap64 (x7_3 + 1)) == (l0.length : Int)) = false := beq_eq_false_iff_ne.mpr c13
                              have c13b1 : ((wrap64 (x7_3 + 1)) != (l0.length : Int)) = true := bne_iff_ne.mpr c13
                              by_cases c14 : 0 ≤ x7_3
                              · rw [if_pos c14] at H
                                have c14b0 : decide (0 ≤ x7_3) = true := decide_eq_true c14
                                clear c14
                                by_cases c15 : x7_3 < (l0.length : Int)
                                · rw [if_pos c15] at H
                                  have c15b0 : decide (x7_3 < (l0.length : Int)) = true := decide_eq_true c15
                                  clear c15
                                  obtain ⟨ji16, hji16⟩ : ∃ j_ : Int, (wrap64 (x7_3 + 1)) = j_ := ⟨_, rfl⟩
                                  replace H : (if 0 ≤ (ji16) then (if (ji16) < (l0.length : Int) then (if (wrap64 ((wrap64 (Int.tdiv (wrap64 ((wrap64 (256 * (wrap64 (rd l0 x7_3)))) + (wrap64 (rd l0 (ji16))))) 64)) + 1)) > (x6_3.length : Int) then (some (([] : List Int), 40)) else (if (wrap64 ((wrap64 ((x6_3.length : Int) + (Int.tmod (wrap64 ((wrap64 (256 * (wrap64 (rd l0 x7_3)))) + (wrap64 (rd l0 (ji16))))) 64))) + 3)) > a1 then (some (([] : List Int), 41)) else (freightref4_Unpack.l2 k3 l0 a1 x6_3 (wrap64 (x7_3 + 2)) (wrap64 (Int.tdiv x8_3 2)) x9_3 (wrap64 ((wrap64 (256 * (wrap64 (rd l0 x7_3)))) + (wrap64 (rd l0 (ji16))))) (wrap64 ((Int.tmod (wrap64 ((wrap64 (256 * (wrap64 (rd l0 x7_3)))) + (wrap64 (rd l0 (ji16))))) 64) + 3))))) else (none)) else (none)) = some (r1, r2) := by first | (rw [hji16] at H; exact H) | (simp only [hji16] at H ⊢; exact H)
                                  (try rw [hji16] at c13b0)
                                  (try rw [hji16] at c13b1)
                                  have hji16w : (IntKind.i64.wrap (x7_3 + 1)) = ji16 := (i64_w _).trans hji16
                                  by_cases c17 : 0 ≤ (ji16)
                                  · rw [if_pos c17] at H
                                    have c17b0 : decide (0 ≤ (ji16)) = true := decide_eq_true c17
                                    clear c17
                                    by_cases c18 : (ji16) < (l0.length : Int)
                                    · rw [if_pos c18] at H
                                      have c18b0 : decide ((ji16) < (l0.length : Int)) = true := decide_eq_true c18
                                      clear c18
                                      by_cases c19 : (wrap64 ((wrap64 (Int.tdiv (wrap64 ((wrap64 (256 * (wrap64 (rd l0 x7_3)))) + (wrap64 (rd l0 (ji16))))) 64)) + 1)) > (x6_3.length : Int)
                                      · rw [if_pos c19] at H
                                        have c19b0 : decide ((x6_3.length : Int) < (wrap64 ((wrap64 (Int.tdiv (wrap64 ((wrap64 (256 * (wrap64 (rd l0 x7_3)))) + (wrap64 (rd l0 (ji16))))) 64)) + 1))) = true := decide_eq_true c19
                                        clear c19
                                        simp only [Option.some.injEq, Prod.mk.injEq] at H
                                        obtain ⟨rfl, rfl⟩ := H
                                        have p145 : 0 ≤ (x7_3 : Int) := of_decide_eq_true (by first | (with_reducible assumption) | assumption)
                                        have q145 : x7_3 < (l0.length : Int) := of_decide_eq_true (by first | (with_reducible assumption) | assumption)
                                        obtain ⟨ad145, e145, hx145_0⟩ := Kd.at_int HR0.out x7_3 p145 q145
                                        obtain rfl : ad140 = ad145 := (by injection e145)
                                        replace hx145_0 := (HB.out.cell (World.block_lt_of_cell? w _ hx145_0)).trans hx145_0
                                        replace p145 := eq_true p145
                                        replace q145 := eq_true q145
                                        have p146 : 0 ≤ ((ji16) : Int) := of_decide_eq_true (by first | (with_reducible assumption) | assumption)
                                        have q146 : (ji16) < (l0.length : Int) := of_decide_eq_true (by first | (with_reducible assumption) | assumption)
                                        obtain ⟨ad146, e146, hx146_0⟩ := Kd.at_int HR0.out (ji16) p146 q146
                                        obtain rfl : ad140 = ad146 := (by injection e146)
                                        replace hx146_0 := (HB.out.cell (World.block_lt_of_cell? w _ hx146_0)).trans hx146_0
                                        replace p146 := eq_true p146
                                        replace q146 := eq_true q146
                                        obtain ⟨Ao20, co20, eo20⟩ := Kd.R_slice HO_6.out
                                        subst eo20
                                        go_wp2
                                        repeat (go_quiet (fail); try go_wp2)
                                        go_ret2
                                        exact ⟨_, by first | rfl | (simp [errW_none, errW_some] <;> rfl) | (simp only [← hji16]; first | rfl | (simp [errW_none, errW_some] <;> rfl)) | (simp [*, errW_none, errW_some] <;> rfl), by first | exact Kd.R_nil _ _ _ _ _ | exact Kd.N_nil _ _ _ _ _ | exact Kd.V_nil _ _ _ _ _ | exact Kd.Q_nil _ _ _ _ _ | exact Kd.S_nil _ _ _ _ _, by repeat (first | (with_reducible first | exact HB.out | apply below_alloc | apply pw_below_drewN | apply below_drew1) | exact HB.out)⟩
                                      · rw [if_neg c19] at H
                                        have c19b0 : decide ((x6_3.length : Int) < (wrap64 ((wrap64 (Int.tdiv (wrap64 ((wrap64 (256 * (wrap64 (rd l0 x7_3)))) + (wrap64 (rd l0 (ji16))))) 64)) + 1))) = false := decide_eq_false c19
                                        clear c19
                                        by_cases c21 : (wrap64 ((wrap64 ((x6_3.length : Int) + (Int.tmod (wrap64 ((wrap64 (256 * (wrap64 (rd l0 x7_3)))) + (wrap64 (rd l0 (ji16))))) 64))) + 3)) > a1
                                        · rw [if_pos c21] at H
                                          have c21b0 : decide (a1 < (wrap64 ((wrap64 ((x6_3.length : Int) + (Int.tmod (wrap64 ((wrap64 (256 * (wrap64 (rd l0 x7_3)))) + (wrap64 (rd l0 (ji16))))) 64))) + 3))) = true := decide_eq_true c21
                                          clear c21
                                          simp only [Option.some.injEq, Prod.mk.injEq] at H
                                          obtain ⟨rfl, rfl⟩ := H
                                          have p145 : 0 ≤ (x7_3 : Int) := of_decide_eq_true (by first | (with_reducible assumption) | assumption)
                                          have q145 : x7_3 < (l0.length : Int) := of_decide_eq_true (by first | (with_reducible assumption) | assumption)
                                          obtain ⟨ad145, e145, hx145_0⟩ := Kd.at_int HR0.out x7_3 p145 q145
                                          obtain rfl : ad140 = ad145 := (by injection e145)
                                          replace hx145_0 := (HB.out.cell (World.block_lt_of_cell? w _ hx145_0)).trans hx145_0
                                          replace p145 := eq_true p145
                                          replace q145 := eq_true q145
                                          have p146 : 0 ≤ ((ji16) : Int) := of_decide_eq_true (by first | (with_reducible assumption) | assumption)
                                          have q146 : (ji16) < (l0.length : Int) := of_decide_eq_true (by first | (with_reducible assumption) | assumption)
                                          obtain ⟨ad146, e146, hx146_0⟩ := Kd.at_int HR0.out (ji16) p146 q146
                                          obtain rfl : ad140 = ad146 := (by injection e146)
                                          replace hx146_0 := (HB.out.cell (World.block_lt_of_cell? w _ hx146_0)).trans hx146_0
                                          replace p146 := eq_true p146
                                          replace q146 := eq_true q146
                                          obtain ⟨Ao22, co22, eo22⟩ := Kd.R_slice HO_6.out
                                          subst eo22
                                          go_wp2
                                          repeat (go_quiet (fail); try go_wp2)
                                          go_ret2
                                          exact ⟨_, by first | rfl | (simp [errW_none, errW_some] <;> rfl) | (simp only [← hji16]; first | rfl | (simp [errW_none, errW_some] <;> rfl)) | (simp [*, errW_none, errW_some] <;> rfl), by first | exact Kd.R_nil _ _ _ _ _ | exact Kd.N_nil _ _ _ _ _ | exact Kd.V_nil _ _ _ _ _ | exact Kd.Q_nil _ _ _ _ _ | exact Kd.S_nil _ _ _ _ _, by repeat (first | (with_reducible first | exact HB.out | apply below_alloc | apply pw_below_drewN | apply below_drew1) | exact HB.out)⟩
                                        · rw [if_neg c21] at H
                                          have c21b0 : decide (a1 < (wrap64 ((wrap64 ((x6_3.length : Int) + (Int.tmod (wrap64 ((wrap64 (256 * (wrap64 (rd l0 x7_3)))) + (wrap64 (rd l0 (ji16))))) 64))) + 3))) = false := decide_eq_false c21
                                          clear c21
                                          have H' := Aside0.mk H
                                          clear H
                                          have p145 : 0 ≤ (x7_3 : Int) := of_decide_eq_true (by first | (with_reducible assumption) | assumption)
                                          have q145 : x7_3 < (l0.length : Int) := of_decide_eq_true (by first | (with_reducible assumption) | assumption)
                                          obtain ⟨ad145, e145, hx145_0⟩ := Kd.at_int HR0.out x7_3 p145 q145
                                          obtain rfl : ad140 = ad145 := (by injection e145)
                                          replace hx145_0 := (HB.out.cell (World.block_lt_of_cell? w _ hx145_0)).trans hx145_0
                                          replace p145 := eq_true p145
                                          replace q145 := eq_true q145
                                          have p146 : 0 ≤ ((ji16) : Int) := of_decide_eq_true (by first | (with_reducible assumption) | assumption)
                                          have q146 : (ji16) < (l0.length : Int) := of_decide_eq_true (by first | (with_reducible assumption) | assumption)
                                          obtain ⟨ad146, e146, hx146_0⟩ := Kd.at_int HR0.out (ji16) p146 q146
                                          obtain rfl : ad140 = ad146 := (by injection e146)
                                          replace hx146_0 := (HB.out.cell (World.block_lt_of_cell? w _ hx146_0)).trans hx146_0
                                          replace p146 := eq_true p146
                                          replace q146 := eq_true q146
                                          obtain ⟨Ao23, co23, eo23⟩ := Kd.R_slice HO_6.out
                                          subst eo23
                                          go_wp2
                                          repeat (go_quiet (fail); try go_wp2)
                                          go_loopg [6, 12] k3 (fun kq v6 v12 w' => ∃ (x6_4 : List Int) (x12_4 : Int), v12 = .int .i64 x12_4 ∧ Aside0 (freightref4_Unpack.l2 kq l0 a1 x6_4 (wrap64 (x7_3 + 2)) (wrap64 (Int.tdiv x8_3 2)) x9_3 (wrap64 ((wrap64 (256 * (wrap64 (rd l0 x7_3)))) + (wrap64 (rd l0 (ji16))))) x12_4 = some (r1, r2)) ∧ Aside0 (kq ≤ k3) ∧ Aside0 (Kd.R (Kd.int .u8) 5 w' w.heap.size (fun _ => True) v6 x6_4) ∧ Aside0 (Below w.heap.size w w'))
                                          case atStart => exact ⟨(x6_3), (wrap64 ((Int.tmod (wrap64 ((wrap64 (256 * (wrap64 (rd l0 x7_3)))) + (wrap64 (rd l0 (ji16))))) 64) + 3)), (by first | rfl | (simp; done) | (simp only [← hji16] <;> (first | rfl | simp)) | (simp [*]; done)), H', ⟨Nat.le_refl _⟩, ⟨by (with_reducible repeat (first | apply Kd.R_alloc | apply Kd.R_drewN | apply Kd.R_drew)); exact HO_6.out⟩, ⟨by repeat (first | (with_reducible first | exact HB.out | apply below_alloc | apply pw_below_drewN | apply below_drew1) | exact HB.out)⟩⟩
                                          case round =>
                                            clear H'
                                            try clear c1
                                            try clear p1
                                            try clear q1
                                            try clear hx1
                                            try clear c2
                                            try clear p2
                                            try clear c4
                                            try clear c4b0
                                            try clear c5
                                            try clear c6
                                            try clear c6b0
                                            try clear p6
                                            try clear c7
                                            try clear c7b0
                                            try clear c8
                                            try clear c8b0
                                            try clear c8b1
                                            try clear c9
                                            try clear c9b0
                                            try clear c10
                                            try clear c10b0
                                            try clear c10b1
                                            try clear c11
                                            try clear c11b0
                                            try clear c11b1
                                            try clear c12
                                            try clear c12b0
                                            try clear c12b1
                                            try clear c13
                                            try clear c13b0
                                            try clear c13b1
                                            try clear c14
                                            try clear c14b0
                                            try clear p14
                                            try clear q14
                                            try clear hx14
                                            try clear c15
                                            try clear c15b0
                                            try clear c17
                                            try clear c17b0
                                            try clear c18
                                            try clear c18b0
                                            try clear c19
                                            try clear c19b0
                                            try clear c21
                                            try clear c21b0
                                            try clear hx140_0
                                            try clear hx145_0
                                            try clear hx146_0
                                            try clear p1
                                            try clear p140
                                            try clear p145
                                            try clear p146
                                            try clear p2
                                            try clear p6
                                            try clear q1
                                            try clear q140
                                            try clear q145
                                            try clear q146
                                            obtain ⟨x6_4, x12_4, rfl, HA, HK4, HO_6, HB⟩ := hrel
                                            cases gk with
                                            | zero => exact absurd HA.out (by simp [freightref4_Unpack.l2])
                                            | succ k4 =>
                                              have H := HA.out
                                              clear HA
                                              simp only [freightref4_Unpack.l2] at H
                                              by_cases c24 : x12_4 > 0
                                              · rw [if_pos c24] at H
                                                have c24b0 : decide (0 < x12_4) = true := decide_eq_true c24
                                                clear c24
                                                obtain ⟨ji25, hji25⟩ : ∃ j_ : Int, (wrap64 ((wrap64 ((x6_4.length : Int) - (wrap64 (Int.tdiv (wrap64 ((wrap64 (256 * (wrap64 (rd l0 x7_3)))) + (wrap64 (rd l0 (ji16))))) 64)))) - 1)) = j_ := ⟨_, rfl⟩
                                                replace H : (if 0 ≤ (ji25) then (if (ji25) < (x6_4.length : Int) then (if x6_4.length < 140737488355328 then (freightref4_Unpack.l2 k4 l0 a1 (x6_4 ++ [rd x6_4 (ji25)]) (wrap64 (x7_3 + 2)) (wrap64 (Int.tdiv x8_3 2)) x9_3 (wrap64 ((wrap64 (256 * (wrap64 (rd l0 x7_3)))) + (wrap64 (rd l0 (ji16))))) (wrap64 (x12_4 - 1))) else (none)) else (none)) else (none)) = some (r1, r2) := by first | (rw [hji25] at H; exact H) | (simp only [hji25] at H ⊢; exact H)
                                                have hji25w : (IntKind.i64.wrap ((wrap64 ((x6_4.length : Int) - (wrap64 (Int.tdiv (wrap64 ((wrap64 (256 * (wrap64 (rd l0 x7_3)))) + (wrap64 (rd l0 (ji16))))) 64)))) - 1)) = ji25 := (i64_w _).trans hji25
                                                by_cases c26 : 0 ≤ (ji25)
                                                · rw [if_pos c26] at H
                                                  have c26b0 : decide (0 ≤ (ji25)) = true := decide_eq_true c26
                                                  clear c26
                                                  by_cases c27 : (ji25) < (x6_4.length : Int)
                                                  · rw [if_pos c27] at H
                                                    have c27b0 : decide ((ji25) < (x6_4.length : Int)) = true := decide_eq_true c27
                                                    clear c27
                                                    by_cases c28 : x6_4.length < 140737488355328
                                                    · rw [if_pos c28] at H
                                                      have LMc28 := Aside0.mk c28
                                                      clear c28
                                                      obtain ⟨y148, hy148⟩ : ∃ y_ : List Int, y_ = (x6_4 ++ [rd x6_4 (ji25)]) := ⟨_, rfl⟩
                                                      replace H : (freightref4_Unpack.l2 k4 l0 a1 y148 (wrap64 (x7_3 + 2)) (wrap64 (Int.tdiv x8_3 2)) x9_3 (wrap64 ((wrap64 (256 * (wrap64 (rd l0 x7_3)))) + (wrap64 (rd l0 (ji16))))) (wrap64 (x12_4 - 1))) = some (r1, r2) := by first | (rw [hy148]; with_reducible exact H) | (have H2_ := (Option.bind_some _ _).symm.trans H; rw [hy148]; with_reducible exact H2_) | (have H2_ := (Option.bind_some _ _).symm.trans H; with_reducible exact H2_) | with_reducible exact H | (rw [hy148]; exact H) | exact H
                                                      have Ny148 := Aside0.mk hy148
                                                      clear hy148
                                                      have H' := Aside0.mk H
                                                      clear H
                                                      obtain ⟨Ao29, co29, eo29⟩ := Kd.R_slice HO_6.out
                                                      subst eo29
                                                      have p147 : 0 ≤ ((ji25) : Int) := of_decide_eq_true (by first | (with_reducible assumption) | assumption)
                                                      have q147 : (ji25) < (x6_4.length : Int) := of_decide_eq_true (by first | (with_reducible assumption) | assumption)
                                                      obtain ⟨ad147, e147, hx147_0⟩ := Kd.at_int (Kd.R_reads' HO_6.out).2.2 (ji25) p147 q147
                                                      cases e147
                                                      replace p147 := eq_true p147
                                                      replace q147 := eq_true q147
                                                      go_wp2_with (first | ((with_reducible refine gate_builtin (b := .append) (xs := #[.tmp 104, .tmp 114]) rfl ?_); at_builtin; refine Kd.R_append (Kd.int .u8) (w0 := w) w.heap.size rfl (.tmp 104) (.tmp 114) 22 5 (.int .u8 0) 1 rfl Try.underlying22 info5 rfl (by decide) (by omega) (.slice (some ad147) x6_4.length co29) x6_4 (rd x6_4 (ji25)) [.int .u8 (rd x6_4 (ji25))] (fun _ => True) (fun _ => False) rfl rfl ?aP (fun _ hk => hk.elim) ?aF ?aO ?aB ?aS ?aL ?_; (case aP => exact rfl); (case aB => exact (by repeat (first | (with_reducible first | exact HB.out | apply below_alloc | apply pw_below_drewN | apply below_drew1) | exact HB.out))); (case aF => exact (fun _ _ => trivial)); (case aO => exact (by (with_reducible repeat (first | apply Kd.R_alloc | apply Kd.R_drewN | apply Kd.R_drew)); exact HO_6.out)); (case aS => exact (below_size (by repeat (first | (with_reducible first | exact HB.out | apply below_alloc | apply pw_below_drewN | apply below_drew1) | exact HB.out)))); (case aL => have := LMc28.out; omega); intro v149 w30 ho hb hg hat; rw [← Ny148.out] at ho; have n0_ := Aside0.mk (hb); have n1_ := Aside0.mk (ho); clear HB; clear HO_6; have HB := n0_; have HO150 := n1_; clear n0_ n1_; clear ho hb hg hat))
                                                      repeat (go_quiet (first | ((with_reducible refine gate_builtin (b := .append) (xs := #[.tmp 104, .tmp 114]) rfl ?_); at_builtin; refine Kd.R_append (Kd.int .u8) (w0 := w) w.heap.size rfl (.tmp 104) (.tmp 114) 22 5 (.int .u8 0) 1 rfl Try.underlying22 info5 rfl (by decide) (by omega) (.slice (some ad147) x6_4.length co29) x6_4 (rd x6_4 (ji25)) [.int .u8 (rd x6_4 (ji25))] (fun _ => True) (fun _ => False) rfl rfl ?aP (fun _ hk => hk.elim) ?aF ?aO ?aB ?aS ?aL ?_; (case aP => exact rfl); (case aB => exact (by repeat (first | (with_reducible first | exact HB.out | apply below_alloc | apply pw_below_drewN | apply below_drew1) | exact HB.out))); (case aF => exact (fun _ _ => trivial)); (case aO => exact (by (with_reducible repeat (first | apply Kd.R_alloc | apply Kd.R_drewN | apply Kd.R_drew)); exact HO_6.out)); (case aS => exact (below_size (by repeat (first | (with_reducible first | exact HB.out | apply below_alloc | apply pw_below_drewN | apply below_drew1) | exact HB.out)))); (case aL => have := LMc28.out; omega); intro v149 w30 ho hb hg hat; rw [← Ny148.out] at ho; have n0_ := Aside0.mk (hb); have n1_ := Aside0.mk (ho); clear HB; clear HO_6; have HB := n0_; have HO150 := n1_; clear n0_ n1_; clear ho hb hg hat)); try go_wp2_with (first | ((with_reducible refine gate_builtin (b := .append) (xs := #[.tmp 104, .tmp 114]) rfl ?_); at_builtin; refine Kd.R_append (Kd.int .u8) (w0 := w) w.heap.size rfl (.tmp 104) (.tmp 114) 22 5 (.int .u8 0) 1 rfl Try.underlying22 info5 rfl (by decide) (by omega) (.slice (some ad147) x6_4.length co29) x6_4 (rd x6_4 (ji25)) [.int .u8 (rd x6_4 (ji25))] (fun _ => True) (fun _ => False) rfl rfl ?aP (fun _ hk => hk.elim) ?aF ?aO ?aB ?aS ?aL ?_; (case aP => exact rfl); (case aB => exact (by repeat (first | (with_reducible first | exact HB.out | apply below_alloc | apply pw_below_drewN | apply below_drew1) | exact HB.out))); (case aF => exact (fun _ _ => trivial)); (case aO => exact (by (with_reducible repeat (first | apply Kd.R_alloc | apply Kd.R_drewN | apply Kd.R_drew)); exact HO_6.out)); (case aS => exact (below_size (by repeat (first | (with_reducible first | exact HB.out | apply below_alloc | apply pw_below_drewN | apply below_drew1) | exact HB.out)))); (case aL => have := LMc28.out; omega); intro v149 w30 ho hb hg hat; rw [← Ny148.out] at ho; have n0_ := Aside0.mk (hb); have n1_ := Aside0.mk (ho); clear HB; clear HO_6; have HB := n0_; have HO150 := n1_; clear n0_ n1_; clear ho hb hg hat)))
                                                      go_roundg k4
                                                      case measure => have := HJ2.out; have := HK2.out; have := HK3.out; have := HK4.out; omega
                                                      case rel => exact ⟨(y148), (wrap64 (x12_4 - 1)), (by first | rfl | (simp; done) | (simp [*]; done)), H', ⟨by have := HJ2.out; have := HK2.out; have := HK3.out; have := HK4.out; omega⟩, ⟨by (with_reducible repeat (first | apply Kd.R_alloc | apply Kd.R_drewN | apply Kd.R_drew)); exact HO150.out⟩, ⟨by repeat (first | (with_reducible first | exact HB.out | apply below_alloc | apply pw_below_drewN | apply below_drew1) | exact HB.out)⟩⟩
                                                    · rw [if_neg c28] at H
                                                      exact absurd H (by simp)
                                                  · rw [if_neg c27] at H
                                                    exact absurd H (by simp)
                                                · rw [if_neg c26] at H
                                                  exact absurd H (by simp)
                                              · rw [if_neg c24] at H
                                                have c24b0 : decide (0 < x12_4) = false := decide_eq_false c24
                                                clear c24
                                                have H' := Aside0.mk H
                                                clear H
                                                go_wp2
                                                repeat (go_quiet (fail); try go_wp2)
                                                go_roundg k4
                                                case measure => have := HJ2.out; have := HK2.out; have := HK3.out; have := HK4.out; omega
                                                case rel => exact ⟨(x6_4), ((wrap64 (x7_3 + 2))), ((wrap64 (Int.tdiv x8_3 2))), (wrap64 (x9_3 + 1)), (by first | rfl | (simp; done) | (simp [*]; done)), (by first | rfl | (simp; done) | (simp [*]; done)), (by first | rfl | (simp; done) | (simp [*]; done)), H', ⟨by have := HJ2.out; have := HK2.out; have := HK3.out; have := HK4.out; omega⟩, ⟨by (with_reducible repeat (first | apply Kd.R_alloc | apply Kd.R_drewN | apply Kd.R_drew)); exact HO_6.out⟩, ⟨by repeat (first | (with_reducible first | exact HB.out | apply below_alloc | apply pw_below_drewN | apply below_drew1) | exact HB.out)⟩⟩
                                    · rw [if_neg c18] at H
                                      exact absurd H (by simp)
                                  · rw [if_neg c17] at H
                                    exact absurd H (by simp)
                                · rw [if_neg c15] at H
                                  exact absurd H (by simp)
                              · rw [if_neg c14] at H
                                exact absurd H (by simp)
                          · rw [if_neg c12] at H
                            have c12b0 : ((Int.tmod x8_3 2) == 1) = false := beq_eq_false_iff_ne.mpr c12
                            have c12b1 : ((Int.tmod x8_3 2) != 1) = true := bne_iff_ne.mpr c12
                            by_cases c31 : (x6_3.length : Int) = a1
                            · rw [if_pos c31] at H
                              have c31b0 : ((x6_3.length : Int) == a1) = true := beq_iff_eq.mpr c31
                              have c31b1 : ((x6_3.length : Int) != a1) = false := bne_eq_false_iff_eq.mpr c31
                              clear c31
                              simp only [Option.some.injEq, Prod.mk.injEq] at H
                              obtain ⟨rfl, rfl⟩ := H
                              obtain ⟨Ao32, co32, eo32⟩ := Kd.R_slice HO_6.out
                              subst eo32
                              go_wp2
                              repeat (go_quiet (fail); try go_wp2)
                              go_ret2
                              exact ⟨_, by first | rfl | (simp [errW_none, errW_some] <;> rfl) | (simp [*, errW_none, errW_some] <;> rfl), by first | exact Kd.R_nil _ _ _ _ _ | exact Kd.N_nil _ _ _ _ _ | exact Kd.V_nil _ _ _ _ _ | exact Kd.Q_nil _ _ _ _ _ | exact Kd.S_nil _ _ _ _ _, by repeat (first | (with_reducible first | exact HB.out | apply below_alloc | apply pw_below_drewN | apply below_drew1) | exact HB.out)⟩
                            · rw [if_neg c31] at H
                              have c31b0 : ((x6_3.length : Int) == a1) = false := beq_eq_false_iff_ne.mpr c31
                              have c31b1 : ((x6_3.length : Int) != a1) = true := bne_iff_ne.mpr c31
                              by_cases c33 : 0 ≤ x7_3
                              · rw [if_pos c33] at H
                                have c33b0 : decide (0 ≤ x7_3) = true := decide_eq_true c33
                                clear c33
                                by_cases c34 : x7_3 < (l0.length : Int)
                                · rw [if_pos c34] at H
                                  have c34b0 : decide (x7_3 < (l0.length : Int)) = true := decide_eq_true c34
                                  clear c34
                                  by_cases c35 : x6_3.length < 140737488355328
                                  · rw [if_pos c35] at H
                                    have LMc35 := Aside0.mk c35
                                    clear c35
                                    obtain ⟨y142, hy142⟩ : ∃ y_ : List Int, y_ = (x6_3 ++ [rd l0 x7_3]) := ⟨_, rfl⟩
                                    replace H : (freightref4_Unpack.l1 k3 l0 a1 y142 (wrap64 (x7_3 + 1)) (wrap64 (Int.tdiv x8_3 2)) (wrap64 (x9_3 + 1))) = some (r1, r2) := by first | (rw [hy142]; with_reducible exact H) | (have H2_ := (Option.bind_some _ _).symm.trans H; rw [hy142]; with_reducible exact H2_) | (have H2_ := (Option.bind_some _ _).symm.trans H; with_reducible exact H2_) | with_reducible exact H | (rw [hy142]; exact H) | exact H
                                    have Ny142 := Aside0.mk hy142
                                    clear hy142
                                    have H' := Aside0.mk H
                                    clear H
                                    obtain ⟨Ao36, co36, eo36⟩ := Kd.R_slice HO_6.out
                                    subst eo36
                                    have p141 : 0 ≤ (x7_3 : Int) := of_decide_eq_true (by first | (with_reducible assumption) | assumption)
                                    have q141 : x7_3 < (l0.length : Int) := of_decide_eq_true (by first | (with_reducible assumption) | assumption)
                                    obtain ⟨ad141, e141, hx141_0⟩ := Kd.at_int HR0.out x7_3 p141 q141
                                    obtain rfl : ad140 = ad141 := (by injection e141)
                                    replace hx141_0 := (HB.out.cell (World.block_lt_of_cell? w _ hx141_0)).trans hx141_0
                                    replace p141 := eq_true p141
                                    replace q141 := eq_true q141
                                    go_wp2_with (first | ((with_reducible refine gate_builtin (b := .append) (xs := #[.tmp 54, .tmp 59]) rfl ?_); at_builtin; refine Kd.R_append (Kd.int .u8) (w0 := w) w.heap.size rfl (.tmp 54) (.tmp 59) 22 5 (.int .u8 0) 1 rfl Try.underlying22 info5 rfl (by decide) (by omega) (.slice Ao36 x6_3.length co36) x6_3 (rd l0 x7_3) [.int .u8 (rd l0 x7_3)] (fun _ => True) (fun _ => False) rfl rfl ?aP (fun _ hk => hk.elim) ?aF ?aO ?aB ?aS ?aL ?_; (case aP => exact rfl); (case aB => exact (by repeat (first | (with_reducible first | exact HB.out | apply below_alloc | apply pw_below_drewN | apply below_drew1) | exact HB.out))); (case aF => exact (fun _ _ => trivial)); (case aO => exact (by (with_reducible repeat (first | apply Kd.R_alloc | apply Kd.R_drewN | apply Kd.R_drew)); exact HO_6.out)); (case aS => exact (below_size (by repeat (first | (with_reducible first | exact HB.out | apply below_alloc | apply pw_below_drewN | apply below_drew1) | exact HB.out)))); (case aL => have := LMc35.out; omega); intro v143 w37 ho hb hg hat; rw [← Ny142.out] at ho; have n0_ := Aside0.mk (hb); have n1_ := Aside0.mk (ho); clear HB; clear HO_6; have HB := n0_; have HO144 := n1_; clear n0_ n1_; clear ho hb hg hat))
                                    repeat (go_quiet (first | ((with_reducible refine gate_builtin (b := .append) (xs := #[.tmp 54, .tmp 59]) rfl ?_); at_builtin; refine Kd.R_append (Kd.int .u8) (w0 := w) w.heap.size rfl (.tmp 54) (.tmp 59) 22 5 (.int .u8 0) 1 rfl Try.underlying22 info5 rfl (by decide) (by omega) (.slice Ao36 x6_3.length co36) x6_3 (rd l0 x7_3) [.int .u8 (rd l0 x7_3)] (fun _ => True) (fun _ => False) rfl rfl ?aP (fun _ hk => hk.elim) ?aF ?aO ?aB ?aS ?aL ?_; (case aP => exact rfl); (case aB => exact (by repeat (first | (with_reducible first | exact HB.out | apply below_alloc | apply pw_below_drewN | apply below_drew1) | exact HB.out))); (case aF => exact (fun _ _ => trivial)); (case aO => exact (by (with_reducible repeat (first | apply Kd.R_alloc | apply Kd.R_drewN | apply Kd.R_drew)); exact HO_6.out)); (case aS => exact (below_size (by repeat (first | (with_reducible first | exact HB.out | apply below_alloc | apply pw_below_drewN | apply below_drew1) | exact HB.out)))); (case aL => have := LMc35.out; omega); intro v143 w37 ho hb hg hat; rw [← Ny142.out] at ho; have n0_ := Aside0.mk (hb); have n1_ := Aside0.mk (ho); clear HB; clear HO_6; have HB := n0_; have HO144 := n1_; clear n0_ n1_; clear ho hb hg hat)); try go_wp2_with (first | ((with_reducible refine gate_builtin (b := .append) (xs := #[.tmp 54, .tmp 59]) rfl ?_); at_builtin; refine Kd.R_append (Kd.int .u8) (w0 := w) w.heap.size rfl (.tmp 54) (.tmp 59) 22 5 (.int .u8 0) 1 rfl Try.underlying22 info5 rfl (by decide) (by omega) (.slice Ao36 x6_3.length co36) x6_3 (rd l0 x7_3) [.int .u8 (rd l0 x7_3)] (fun _ => True) (fun _ => False) rfl rfl ?aP (fun _ hk => hk.elim) ?aF ?aO ?aB ?aS ?aL ?_; (case aP => exact rfl); (case aB => exact (by repeat (first | (with_reducible first | exact HB.out | apply below_alloc | apply pw_below_drewN | apply below_drew1) | exact HB.out))); (case aF => exact (fun _ _ => trivial)); (case aO => exact (by (with_reducible repeat (first | apply Kd.R_alloc | apply Kd.R_drewN | apply Kd.R_drew)); exact HO_6.out)); (case aS => exact (below_size (by repeat (first | (with_reducible first | exact HB.out | apply below_alloc | apply pw_below_drewN | apply below_drew1) | exact HB.out)))); (case aL => have := LMc35.out; omega); intro v143 w37 ho hb hg hat; rw [← Ny142.out] at ho; have n0_ := Aside0.mk (hb); have n1_ := Aside0.mk (ho); clear HB; clear HO_6; have HB := n0_; have HO144 := n1_; clear n0_ n1_; clear ho hb hg hat)))
                                    go_roundg k3
                                    case measure => have := HJ2.out; have := HK2.out; have := HK3.out; omega
                                    case rel => exact ⟨(y142), (wrap64 (x7_3 + 1)), (wrap64 (Int.tdiv x8_3 2)), (wrap64 (x9_3 + 1)), (by first | rfl | (simp; done) | (simp [*]; done)), (by first | rfl | (simp; done) | (simp [*]; done)), (by first | rfl | (simp; done) | (simp [*]; done)), H', ⟨by have := HJ2.out; have := HK2.out; have := HK3.out; omega⟩, ⟨by (with_reducible repeat (first | apply Kd.R_alloc | apply Kd.R_drewN | apply Kd.R_drew)); exact HO144.out⟩, ⟨by repeat (first | (with_reducible first | exact HB.out | apply below_alloc | apply pw_below_drewN | apply below_drew1) | exact HB.out)⟩⟩
                                  · rw [if_neg c35] at H
                                    exact absurd H (by simp)
                                · rw [if_neg c34] at H
                                  exact absurd H (by simp)
                              · rw [if_neg c33] at H
                                exact absurd H (by simp)
                      · rw [if_neg c9] at H
                        have c9b0 : decide (x9_3 < 8) = false := decide_eq_false c9
                        clear c9
                        have H' := Aside0.mk H
                        clear H
                        go_wp2
                        repeat (go_quiet (fail); try go_wp2)
                        go_roundg k3
                        case measure => have := HJ2.out; have := HK2.out; have := HK3.out; omega
                        case rel => exact ⟨(x6_3), (x7_3), (by first | rfl | (simp; done) | (simp [*]; done)), H', ⟨by have := HJ2.out; have := HK2.out; have := HK3.out; omega⟩, ⟨by (with_reducible repeat (first | apply Kd.R_alloc | apply Kd.R_drewN | apply Kd.R_drew)); exact HO_6.out⟩, ⟨by repeat (first | (with_reducible first | exact HB.out | apply below_alloc | apply pw_below_drewN | apply below_drew1) | exact HB.out)⟩⟩
              · rw [if_neg c7] at H
                exact absurd H (by simp)
            · rw [if_neg c6] at H
              have c6b0 : decide (x7_2 < (l0.length : Int)) = false := decide_eq_false c6
              clear c6
              by_cases c38 : (x6_2.length : Int) < a1
              · rw [if_pos c38] at H
                have c38b0 : decide ((x6_2.length : Int) < a1) = true := decide_eq_true c38
                clear c38
                simp only [Option.some.injEq, Prod.mk.injEq] at H
                obtain ⟨rfl, rfl⟩ := H
                obtain ⟨Ao39, co39, eo39⟩ := Kd.R_slice HO_6.out
                subst eo39
                go_wp2
                repeat (go_quiet (fail); try go_wp2)
                go_ret2
                exact ⟨_, by first | rfl | (simp [errW_none, errW_some] <;> rfl) | (simp [*, errW_none, errW_some] <;> rfl), by first | exact Kd.R_nil _ _ _ _ _ | exact Kd.N_nil _ _ _ _ _ | exact Kd.V_nil _ _ _ _ _ | exact Kd.Q_nil _ _ _ _ _ | exact Kd.S_nil _ _ _ _ _, by repeat (first | (with_reducible first | exact HB.out | apply below_alloc | apply pw_below_drewN | apply below_drew1) | exact HB.out)⟩
              · rw [if_neg c38] at H
                have c38b0 : decide ((x6_2.length : Int) < a1) = false := decide_eq_false c38
                clear c38
                simp only [Option.some.injEq, Prod.mk.injEq] at H
                obtain ⟨rfl, rfl⟩ := H
                obtain ⟨Ao40, co40, eo40⟩ := Kd.R_slice HO_6.out
                subst eo40
                go_wp2
                repeat (go_quiet (fail); try go_wp2)
                go_ret2
                exact ⟨_, by first | rfl | (simp [errW_none, errW_some] <;> rfl) | (simp [*, errW_none, errW_some] <;> rfl), by (with_reducible repeat (first | apply Kd.R_alloc | apply Kd.R_drewN | apply Kd.R_drew)); exact HO_6.out, by repeat (first | (with_reducible first | exact HB.out | apply below_alloc | apply pw_below_drewN | apply below_drew1) | exact HB.out)⟩

-- NOT PRINTED: function 5 (freightlaw4_PressSpoilt)

end Go.Proofs.Ytoefligelajfkaa.PPressSpoilt
