import Derived.Test.YtoefligelajfkaaPBlockOpensx0
import Derived.Test.YtoefligelajfkaaPBlockOpensx1
import Derived.Test.YtoefligelajfkaaSum
import Derived.IntWalk
import Derived.Test.YtoefligelajfkaaBPack
import Derived.Test.YtoefligelajfkaaRefPack
import Derived.BigQuiet
import Derived.Deep.Slices
import Derived.ChangeSame
import Derived.SizedLaws
import Derived.OpenShut
import Derived.Test.YtoefligelajfkaaLay
import Derived.Test.YtoefligelajfkaaWEqStruct
import Derived.Test.YtoefligelajfkaaKnown
import Derived.Test.YtoefligelajfkaaValidSpec
import Derived.Test.YtoefligelajfkaaBOpen
import Derived.Deep.RegionHeld3
import Derived.Deep.DrawnRows
namespace Go.Proofs.Ytoefligelajfkaa.PBlockOpens
open Go.RowKit Go.Proofs.YtoefligelajfkaaW.PrintWords Go.Proofs.YtoefligelajfkaaW.PrintLast Go.Proofs.YtoefligelajfkaaW.PrintMore
attribute [local go_sem] max2_int min2_int max_two min_two max_three min_three max_four min_four   -- for this text's walks alone
set_option linter.unusedVariables false
set_option linter.unusedSimpArgs false

/-! ### freightref11_isSize: function 53 -/
def freightref11_isSize.f (a0 : Int) : Option (Bool) := if a0 ≥ 16 then (some (decide (a0 ≤ 4096))) else (some false)
set_option maxHeartbeats 8000000 in
set_option maxRecDepth 100000 in
theorem freightref11_isSize.calls (a0 : Int) (r : Bool) (w : World) (h : freightref11_isSize.f a0 = some r) :
    Calls Try.prog 53 #[.int .i64 a0] w fun e w' => e = .returned (.bool r) ∧ Drawn0 w w' := by
  have H : (if a0 ≥ 16 then (some (decide (a0 ≤ 4096))) else (some false)) = some r := h
  clear h
  by_cases c2 : a0 ≥ 16
  · rw [if_pos c2] at H
    have c2b0 : decide (16 ≤ a0) = true := decide_eq_true c2
    clear c2
    obtain rfl := Option.some.inj H
    go_enter Try.func53, Try.ntmps53
    go_wp2
    go_ret
    exact ⟨by first | rfl | (simp; done) | (simp [*]; done), by repeat (first | exact Drawn0.refl _ | apply Drawn0.step)⟩
  · rw [if_neg c2] at H
    have c2b0 : decide (16 ≤ a0) = false := decide_eq_false c2
    clear c2
    obtain rfl := Option.some.inj H
    go_enter Try.func53, Try.ntmps53
    go_wp2
    go_ret
    exact ⟨by first | rfl | (simp; done) | (simp [*]; done), by repeat (first | exact Drawn0.refl _ | apply Drawn0.step)⟩

/-! ### freightref11_Cover: function 43 -/
def freightref11_Cover.f (a0 : Int) (a1 : Int) (a2 : Int) : Option (Int × Int) := (freightref11_isSize.f a0).bind fun t111 => (if t111 = true then (if a1 < 0 then (some (0, 0)) else (if a1 > 2147483647 then (some (0, 0)) else (if a2 < 1 then (some (0, 0)) else (if a2 > 2147483647 then (some (0, 0)) else (if a0 = 0 then (none) else (some (wrap64 (Int.tdiv a1 a0), wrap64 ((wrap64 (Int.tdiv (wrap64 ((wrap64 (a1 + a2)) - 1)) a0)) + 1)))))))) else (some (0, 0)))
set_option maxHeartbeats 8000000 in
set_option maxRecDepth 100000 in
theorem freightref11_Cover.calls (a0 : Int) (a1 : Int) (a2 : Int) (r1 : Int) (r2 : Int) (w : World) (h : freightref11_Cover.f a0 a1 a2 = some (r1, r2)) :
    Calls Try.prog 43 #[.int .i64 a0, .int .i64 a1, .int .i64 a2] w fun e w' => e = .returned (.tuple #[.int .i64 r1, .int .i64 r2]) ∧ Drawn0 w w' := by
  have H : ((freightref11_isSize.f a0).bind fun t111 => (if t111 = true then (if a1 < 0 then (some (0, 0)) else (if a1 > 2147483647 then (some (0, 0)) else (if a2 < 1 then (some (0, 0)) else (if a2 > 2147483647 then (some (0, 0)) else (if a0 = 0 then (none) else (some (wrap64 (Int.tdiv a1 a0), wrap64 ((wrap64 (Int.tdiv (wrap64 ((wrap64 (a1 + a2)) - 1)) a0)) + 1)))))))) else (some (0, 0)))) = some (r1, r2) := h
  clear h
  replace H := Option.bind_eq_some_iff.mp H
  obtain ⟨t111, A40, H⟩ := H
  replace H : (if t111 = true then (if a1 < 0 then (some (0, 0)) else (if a1 > 2147483647 then (some (0, 0)) else (if a2 < 1 then (some (0, 0)) else (if a2 > 2147483647 then (some (0, 0)) else (if a0 = 0 then (none) else (some (wrap64 (Int.tdiv a1 a0), wrap64 ((wrap64 (Int.tdiv (wrap64 ((wrap64 (a1 + a2)) - 1)) a0)) + 1)))))))) else (some (0, 0))) = some (r1, r2) := H
  have A4 := Aside0.mk A40
  clear A40
  by_cases c5 : t111 = true
  · subst c5
    have H1 : (if a1 < 0 then (some (0, 0)) else (if a1 > 2147483647 then (some (0, 0)) else (if a2 < 1 then (some (0, 0)) else (if a2 > 2147483647 then (some (0, 0)) else (if a0 = 0 then (none) else (some (wrap64 (Int.tdiv a1 a0), wrap64 ((wrap64 (Int.tdiv (wrap64 ((wrap64 (a1 + a2)) - 1)) a0)) + 1)))))))) = some (r1, r2) := by rw [if_pos rfl] at H; exact H
    clear H
    have H := H1
    clear H1
    by_cases c6 : a1 < 0
    · rw [if_pos c6] at H
      have c6b0 : decide (a1 < 0) = true := decide_eq_true c6
      clear c6
      simp only [Option.some.injEq, Prod.mk.injEq] at H
      obtain ⟨rfl, rfl⟩ := H
      go_enter Try.func43, Try.ntmps43
      go_wp2_with (first | (go_at_call 53; (with_reducible refine (freightref11_isSize.calls a0 true _ A4.out).mono ?_); rintro e w' ⟨rfl, ⟨nd, rfl⟩⟩; (try first | exact ⟨rfl, _, World.drewN_drewN _ _ _⟩ | exact ⟨rfl, _, Eq.trans (World.drewN_drewN _ _ _) (congrArg (World.drewN _) (Nat.add_assoc _ _ _))⟩)))
      repeat (go_quiet (first | (go_at_call 53; (with_reducible refine (freightref11_isSize.calls a0 true _ A4.out).mono ?_); rintro e w' ⟨rfl, ⟨nd, rfl⟩⟩; (try first | exact ⟨rfl, _, World.drewN_drewN _ _ _⟩ | exact ⟨rfl, _, Eq.trans (World.drewN_drewN _ _ _) (congrArg (World.drewN _) (Nat.add_assoc _ _ _))⟩))); try go_wp2_with (first | (go_at_call 53; (with_reducible refine (freightref11_isSize.calls a0 true _ A4.out).mono ?_); rintro e w' ⟨rfl, ⟨nd, rfl⟩⟩; (try first | exact ⟨rfl, _, World.drewN_drewN _ _ _⟩ | exact ⟨rfl, _, Eq.trans (World.drewN_drewN _ _ _) (congrArg (World.drewN _) (Nat.add_assoc _ _ _))⟩))))
      go_ret2
      exact ⟨by first | rfl | (simp; done) | (simp [*]; done), by repeat (first | exact Drawn0.refl _ | apply Drawn0.step)⟩
    · rw [if_neg c6] at H
      have c6b0 : decide (a1 < 0) = false := decide_eq_false c6
      clear c6
      by_cases c7 : a1 > 2147483647
      · rw [if_pos c7] at H
        have c7b0 : decide (2147483647 < a1) = true := decide_eq_true c7
        clear c7
        simp only [Option.some.injEq, Prod.mk.injEq] at H
        obtain ⟨rfl, rfl⟩ := H
        go_enter Try.func43, Try.ntmps43
        go_wp2_with (first | (go_at_call 53; (with_reducible refine (freightref11_isSize.calls a0 true _ A4.out).mono ?_); rintro e w' ⟨rfl, ⟨nd, rfl⟩⟩; (try first | exact ⟨rfl, _, World.drewN_drewN _ _ _⟩ | exact ⟨rfl, _, Eq.trans (World.drewN_drewN _ _ _) (congrArg (World.drewN _) (Nat.add_assoc _ _ _))⟩)))
        repeat (go_quiet (first | (go_at_call 53; (with_reducible refine (freightref11_isSize.calls a0 true _ A4.out).mono ?_); rintro e w' ⟨rfl, ⟨nd, rfl⟩⟩; (try first | exact ⟨rfl, _, World.drewN_drewN _ _ _⟩ | exact ⟨rfl, _, Eq.trans (World.drewN_drewN _ _ _) (congrArg (World.drewN _) (Nat.add_assoc _ _ _))⟩))); try go_wp2_with (first | (go_at_call 53; (with_reducible refine (freightref11_isSize.calls a0 true _ A4.out).mono ?_); rintro e w' ⟨rfl, ⟨nd, rfl⟩⟩; (try first | exact ⟨rfl, _, World.drewN_drewN _ _ _⟩ | exact ⟨rfl, _, Eq.trans (World.drewN_drewN _ _ _) (congrArg (World.drewN _) (Nat.add_assoc _ _ _))⟩))))
        go_ret2
        exact ⟨by first | rfl | (simp; done) | (simp [*]; done), by repeat (first | exact Drawn0.refl _ | apply Drawn0.step)⟩
      · rw [if_neg c7] at H
        have c7b0 : decide (2147483647 < a1) = false := decide_eq_false c7
        clear c7
        by_cases c8 : a2 < 1
        · rw [if_pos c8] at H
          have c8b0 : decide (a2 < 1) = true := decide_eq_true c8
          clear c8
          simp only [Option.some.injEq, Prod.mk.injEq] at H
          obtain ⟨rfl, rfl⟩ := H
          go_enter Try.func43, Try.ntmps43
          go_wp2_with (first | (go_at_call 53; (with_reducible refine (freightref11_isSize.calls a0 true _ A4.out).mono ?_); rintro e w' ⟨rfl, ⟨nd, rfl⟩⟩; (try first | exact ⟨rfl, _, World.drewN_drewN _ _ _⟩ | exact ⟨rfl, _, Eq.trans (World.drewN_drewN _ _ _) (congrArg (World.drewN _) (Nat.add_assoc _ _ _))⟩)))
          repeat (go_quiet (first | (go_at_call 53; (with_reducible refine (freightref11_isSize.calls a0 true _ A4.out).mono ?_); rintro e w' ⟨rfl, ⟨nd, rfl⟩⟩; (try first | exact ⟨rfl, _, World.drewN_drewN _ _ _⟩ | exact ⟨rfl, _, Eq.trans (World.drewN_drewN _ _ _) (congrArg (World.drewN _) (Nat.add_assoc _ _ _))⟩))); try go_wp2_with (first | (go_at_call 53; (with_reducible refine (freightref11_isSize.calls a0 true _ A4.out).mono ?_); rintro e w' ⟨rfl, ⟨nd, rfl⟩⟩; (try first | exact ⟨rfl, _, World.drewN_drewN _ _ _⟩ | exact ⟨rfl, _, Eq.trans (World.drewN_drewN _ _ _) (congrArg (World.drewN _) (Nat.add_assoc _ _ _))⟩))))
          go_ret2
          exact ⟨by first | rfl | (simp; done) | (simp [*]; done), by repeat (first | exact Drawn0.refl _ | apply Drawn0.step)⟩
        · rw [if_neg c8] at H
          have c8b0 : decide (a2 < 1) = false := decide_eq_false c8
          clear c8
          by_cases c9 : a2 > 2147483647
          · rw [if_pos c9] at H
            have c9b0 : decide (2147483647 < a2) = true := decide_eq_true c9
            clear c9
            simp only [Option.some.injEq, Prod.mk.injEq] at H
            obtain ⟨rfl, rfl⟩ := H
            go_enter Try.func43, Try.ntmps43
            go_wp2_with (first | (go_at_call 53; (with_reducible refine (freightref11_isSize.calls a0 true _ A4.out).mono ?_); rintro e w' ⟨rfl, ⟨nd, rfl⟩⟩; (try first | exact ⟨rfl, _, World.drewN_drewN _ _ _⟩ | exact ⟨rfl, _, Eq.trans (World.drewN_drewN _ _ _) (congrArg (World.drewN _) (Nat.add_assoc _ _ _))⟩)))
            repeat (go_quiet (first | (go_at_call 53; (with_reducible refine (freightref11_isSize.calls a0 true _ A4.out).mono ?_); rintro e w' ⟨rfl, ⟨nd, rfl⟩⟩; (try first | exact ⟨rfl, _, World.drewN_drewN _ _ _⟩ | exact ⟨rfl, _, Eq.trans (World.drewN_drewN _ _ _) (congrArg (World.drewN _) (Nat.add_assoc _ _ _))⟩))); try go_wp2_with (first | (go_at_call 53; (with_reducible refine (freightref11_isSize.calls a0 true _ A4.out).mono ?_); rintro e w' ⟨rfl, ⟨nd, rfl⟩⟩; (try first | exact ⟨rfl, _, World.drewN_drewN _ _ _⟩ | exact ⟨rfl, _, Eq.trans (World.drewN_drewN _ _ _) (congrArg (World.drewN _) (Nat.add_assoc _ _ _))⟩))))
            go_ret2
            exact ⟨by first | rfl | (simp; done) | (simp [*]; done), by repeat (first | exact Drawn0.refl _ | apply Drawn0.step)⟩
          · rw [if_neg c9] at H
            have c9b0 : decide (2147483647 < a2) = false := decide_eq_false c9
            clear c9
            by_cases c10 : a0 = 0
            · rw [if_pos c10] at H
              exact absurd H (by simp)
            · rw [if_neg c10] at H
              have c10b0 : (a0 == 0) = false := beq_eq_false_iff_ne.mpr c10
              have c10b1 : (a0 != 0) = true := bne_iff_ne.mpr c10
              simp only [Option.some.injEq, Prod.mk.injEq] at H
              obtain ⟨rfl, rfl⟩ := H
              go_enter Try.func43, Try.ntmps43
              go_wp2_with (first | (go_at_call 53; (with_reducible refine (freightref11_isSize.calls a0 true _ A4.out).mono ?_); rintro e w' ⟨rfl, ⟨nd, rfl⟩⟩; (try first | exact ⟨rfl, _, World.drewN_drewN _ _ _⟩ | exact ⟨rfl, _, Eq.trans (World.drewN_drewN _ _ _) (congrArg (World.drewN _) (Nat.add_assoc _ _ _))⟩)))
              repeat (go_quiet (first | (go_at_call 53; (with_reducible refine (freightref11_isSize.calls a0 true _ A4.out).mono ?_); rintro e w' ⟨rfl, ⟨nd, rfl⟩⟩; (try first | exact ⟨rfl, _, World.drewN_drewN _ _ _⟩ | exact ⟨rfl, _, Eq.trans (World.drewN_drewN _ _ _) (congrArg (World.drewN _) (Nat.add_assoc _ _ _))⟩))); try go_wp2_with (first | (go_at_call 53; (with_reducible refine (freightref11_isSize.calls a0 true _ A4.out).mono ?_); rintro e w' ⟨rfl, ⟨nd, rfl⟩⟩; (try first | exact ⟨rfl, _, World.drewN_drewN _ _ _⟩ | exact ⟨rfl, _, Eq.trans (World.drewN_drewN _ _ _) (congrArg (World.drewN _) (Nat.add_assoc _ _ _))⟩))))
              go_ret2
              exact ⟨by first | rfl | (simp; done) | (simp [*]; done), by repeat (first | exact Drawn0.refl _ | apply Drawn0.step)⟩
  · replace c5 := Bool.eq_false_iff.mpr c5
    subst c5
    have H1 : (some (0, 0)) = some (r1, r2) := by rw [if_neg (show ¬ (false = true) by decide)] at H; exact H
    clear H
    have H := H1
    clear H1
    simp only [Option.some.injEq, Prod.mk.injEq] at H
    obtain ⟨rfl, rfl⟩ := H
    go_enter Try.func43, Try.ntmps43
    go_wp2_with (first | (go_at_call 53; (with_reducible refine (freightref11_isSize.calls a0 false _ A4.out).mono ?_); rintro e w' ⟨rfl, ⟨nd, rfl⟩⟩; (try first | exact ⟨rfl, _, World.drewN_drewN _ _ _⟩ | exact ⟨rfl, _, Eq.trans (World.drewN_drewN _ _ _) (congrArg (World.drewN _) (Nat.add_assoc _ _ _))⟩)))
    repeat (go_quiet (first | (go_at_call 53; (with_reducible refine (freightref11_isSize.calls a0 false _ A4.out).mono ?_); rintro e w' ⟨rfl, ⟨nd, rfl⟩⟩; (try first | exact ⟨rfl, _, World.drewN_drewN _ _ _⟩ | exact ⟨rfl, _, Eq.trans (World.drewN_drewN _ _ _) (congrArg (World.drewN _) (Nat.add_assoc _ _ _))⟩))); try go_wp2_with (first | (go_at_call 53; (with_reducible refine (freightref11_isSize.calls a0 false _ A4.out).mono ?_); rintro e w' ⟨rfl, ⟨nd, rfl⟩⟩; (try first | exact ⟨rfl, _, World.drewN_drewN _ _ _⟩ | exact ⟨rfl, _, Eq.trans (World.drewN_drewN _ _ _) (congrArg (World.drewN _) (Nat.add_assoc _ _ _))⟩))))
    go_ret2
    exact ⟨by first | rfl | (simp; done) | (simp [*]; done), by repeat (first | exact Drawn0.refl _ | apply Drawn0.step)⟩

end Go.Proofs.Ytoefligelajfkaa.PBlockOpens

namespace Go.Proofs.Ytoefligelajfkaa.Block
open Go.RowKit Go.Proofs.YtoefligelajfkaaW.PrintWords Go.Proofs.YtoefligelajfkaaW.PrintLast Go.Proofs.YtoefligelajfkaaW.PrintMore Go.Proofs.Ytoefligelajfkaa.Press

theorem xor64 (a b : Nat) (ha : a < 4294967296) (hb : b < 4294967296) : bits .xor .i64 (a : Int) (b : Int) = ((a ^^^ b : Nat) : Int) := by
  show IntKind.i64.wrap (((BitVec.ofInt 64 (a : Int)) ^^^ (BitVec.ofInt 64 (b : Int))).toNat : Int) = _
  have := Nat.xor_lt_two_pow (n := 32) ha hb
  rw [BitVec.toNat_xor, ofInt_u64 a (by omega), ofInt_u64 b (by omega), IntWalk.i64_in _ (by omega)]

set_option maxHeartbeats 2000000 in
theorem ref_sum_any (A0 : Option Addr) (c0 : Nat) (l0 : List Int) (w : World) (hr0 : Kd.C (Kd.int .u8) w A0 l0.length l0) (hby : ∀ x ∈ l0, 0 ≤ x ∧ x ≤ 255) (hl : l0.length ≤ 140737488355328) :
    Calls Try.prog 54 #[.slice A0 l0.length c0] w fun e w' => e = .returned (.int .i64 (sumS l0)) ∧ w = w' := by
  have HR0 := Aside0.mk hr0
  clear hr0
  go_enter Try.func54, Try.ntmps54
  go_wp2
  go_loopg [3, 4] (l0.length) (fun k v3 v4 w' => ∃ r j : Nat, v3 = .int .i64 r ∧ v4 = .int .i64 j ∧ j + k = l0.length ∧ r < 4294967296 ∧ Aside0 (sumR (l0.drop j) r = sumR l0 4294967295) ∧ w' = w)
  case atStart => exact ⟨4294967295, 0, rfl, rfl, by omega, by omega, ⟨rfl⟩, rfl⟩
  case round =>
    obtain ⟨r, j, rfl, rfl, hjk, hr, HS, rfl⟩ := hrel
    cases gk with
    | zero =>
      have hj : j = l0.length := by omega
      subst hj
      have hs := HS.out
      rw [List.drop_length] at hs
      have hfin : (4294967295 : Int) - (r : Int) = (sumS l0 : Int) := by
        rw [sumS, ← hs]
        show _ = ((4294967295 - r : Nat) : Int)
        omega
      clear hs HS
      go_wp2
      go_ret
      exact ⟨rfl, rfl⟩
    | succ k =>
      have hjl : j < l0.length := by omega
      have hjl1 : (j : Int) < (l0.length : Int) := by omega
      obtain ⟨ad, e0, hx⟩ := Kd.at_int HR0.out (j : Int) (by omega) (by omega)
      cases e0
      obtain ⟨x, hxn⟩ : ∃ x : Nat, rd l0 (j : Int) = (x : Int) := ⟨(rd l0 (j : Int)).toNat, by have := rd_byte hby (j : Int); omega⟩
      have hxb : x ≤ 255 := by have := rd_byte hby (j : Int); omega
      rw [hxn] at hx
      simp only [Int.toNat_natCast] at hx
      obtain ⟨r1, hr1⟩ : ∃ r1, r1 = r ^^^ x := ⟨_, rfl⟩
      have hr1l : r1 < 4294967296 := by rw [hr1]; exact Nat.xor_lt_two_pow (n := 32) hr (by omega)
      have hs := HS.out
      rw [drop_cons l0 j hjl, sumR, ← rd_nat, hxn, Int.toNat_natCast, ← hr1] at hs
      have hb1 : bits .xor .i64 (r : Int) (x : Int) = (r1 : Int) := by rw [hr1]; exact xor64 r x hr (by omega)
      have HS2 := Aside0.mk hs
      clear hs HS hr1 hxn
      go_wp2
      go_loopg [3, 5] 8 (fun k v3 v5 w' => ∃ t r : Nat, v3 = .int .i64 r ∧ v5 = .int .i64 t ∧ t + k = 8 ∧ r < 4294967296 ∧ Aside0 (f1n k r = f4 (f4 r1)) ∧ w' = wr)
      case atStart => exact ⟨0, r1, rfl, rfl, rfl, hr1l, ⟨rfl⟩, rfl⟩
      case round =>
        obtain ⟨t, r2, rfl, rfl, htk, hr2, HF, rfl⟩ := hrel
        cases gk with
        | zero =>
          have ht8 : t = 8 := by omega
          subst ht8
          have hrf : r2 = f4 (f4 r1) := HF.out
          have HS3 : Aside0 (sumR (l0.drop (j + 1)) r2 = sumR l0 4294967295) := ⟨by rw [hrf]; exact HS2.out⟩
          clear hrf HF
          go_wp2
          go_roundg k
          case measure => omega
          case rel => exact ⟨r2, j + 1, rfl, by go_num, by omega, hr2, HS3, rfl⟩
        | succ kt =>
          have ht : (t : Int) < 8 := by omega
          have HF2 : Aside0 (f1n kt (f1 r2) = f4 (f4 r1)) := ⟨HF.out⟩
          have hf1 : f1 r2 < 4294967296 := f1_lt hr2
          clear HF
          by_cases hodd : r2 % 2 = 1
          · have hmod : (r2 : Int) % 2 = 1 := by omega
            have hhalf : bits .xor .i64 ((r2 : Int) / 2) 3988292384 = (f1 r2 : Int) := by
              have := xor64 (r2 / 2) 3988292384 (by omega) (by omega)
              rw [f1, if_pos hodd, ← this]; rfl
            clear hodd
            go_wp2
            go_roundg kt
            case measure => omega
            case rel => exact ⟨t + 1, f1 r2, rfl, by go_num, by omega, hf1, HF2, rfl⟩
          · have hmod : (r2 : Int) % 2 = 0 := by omega
            have hhalf : (r2 : Int) / 2 = (f1 r2 : Int) := by rw [f1, if_neg hodd]; rfl
            clear hodd
            go_wp2
            go_roundg kt
            case measure => omega
            case rel => exact ⟨t + 1, f1 r2, by first | rfl | rw [hhalf], by go_num, by omega, hf1, HF2, rfl⟩
end Go.Proofs.Ytoefligelajfkaa.Block

namespace Go.Proofs.Ytoefligelajfkaa.Block
open Go.RowKit Go.Proofs.YtoefligelajfkaaW.PrintWords Go.Proofs.YtoefligelajfkaaW.PrintLast Go.Proofs.YtoefligelajfkaaW.PrintMore Go.Proofs.Ytoefligelajfkaa.Press
open Go.Proofs.Ytoefligelajfkaa.PBlockOpens (S58 k58 z58 k58_open k58_mk k58_mkM k58_openM rd_T58 at_T58 freightref11_isSize.f freightref11_isSize.calls)

theorem ref_isz_f (size : Int) : freightref11_isSize.f size = some (decide (isSize size)) := isSize_f size

/-- What the document's Pack holds. -/
structure PInv (w0 w : World) (vo vb : Value) (out : List Int) (bl : List S58) : Prop where
  ro : Kd.R (Kd.int .u8) 5 w w0.heap.size (fun _ => True) vo out
  rb : Kd.R k58 58 w w0.heap.size (fun _ => True) vb bl
  bel : Below w0.heap.size w0 w
theorem PInv.step {w0 w w1 : World} {vo vb : Value} {out : List Int} {bl : List S58} (h : PInv w0 w vo vb out bl) (hb : Below w.heap.size w w1) : PInv w0 w1 vo vb out bl := ⟨Kd.R_below h.ro hb, Kd.R_below h.rb hb, below_step h.bel hb⟩
/-- Packed bytes: a part of what came in, or a row of one's own. -/
def Src (w0 w : World) (A : Option Addr) (k : Nat) (q : List Int) : Prop := Kd.C (Kd.int .u8) w0 A q.length q ∨ Kd.R (Kd.int .u8) 5 w w0.heap.size (fun _ => True) (.slice A q.length k) q
theorem Src.reads {w0 w : World} {A : Option Addr} {k : Nat} {q : List Int} (h : Src w0 w A k q) (hb : Below w0.heap.size w0 w) : Kd.C (Kd.int .u8) w A q.length q := by
  rcases h with h | h
  · exact Kd.C_below h hb
  · exact (Kd.R_reads' h).2.2
theorem Src.over {w0 w w1 : World} {A : Option Addr} {k : Nat} {q : List Int} {vb : Value} {bl : List S58} {base : Nat} (h : Src w0 w A k q) (hr : Kd.R k58 58 w base (fun _ => True) vb bl) (hg : w.grownBy w1 vb.ownBlock) : Src w0 w1 A k q := by
  rcases h with h | h
  · exact .inl h
  · exact .inr (Kd.R_over' (v := vb) (e' := 58) h (Kd.R_typed hr) (by decide) hg)

structure QInv (w : World) (l : List Int) (size : Nat) (rs : List Int × List S58) (wr : World) (k : Nat) (vo vb : Value) (out : List Int) (bl : List S58) (at_ : Nat) : Prop where
  inv : PInv w wr vo vb out bl
  fuel : l.length ≤ at_ + k
  run : bpR l size k out bl at_ = rs
  olen : out.length ≤ at_
  blen : bl.length ≤ at_
  at_le : at_ ≤ 70000

set_option maxRecDepth 100000 in
set_option maxHeartbeats 4000000 in
theorem rpack_walk (A0 : Option Addr) (c0 : Nat) (l0 : List Int) (size : Nat) (w : World) (hr0 : Kd.C (Kd.int .u8) w A0 l0.length l0) (hby : ∀ x ∈ l0, 0 ≤ x ∧ x ≤ 255) (hc0 : l0.length ≤ c0) (hl : l0.length ≤ 65536) (hs1 : 16 ≤ size) (hs2 : size ≤ 4096) :
    Calls Try.prog 30 #[.slice A0 l0.length c0, .int .i64 size] w fun e w' => ∃ vo vb, e = .returned (.tuple #[vo, vb, .int .i64 0]) ∧
      Kd.R (Kd.int .u8) 5 w' w.heap.size (fun _ => True) vo (bpR l0 size l0.length [] [] 0).1 ∧ k58.R 58 w' w.heap.size (fun _ => True) vb (bpR l0 size l0.length [] [] 0).2 ∧ Below w.heap.size w w' := by
  obtain ⟨rs, hrs⟩ : ∃ rs, bpR l0 size l0.length [] [] 0 = rs := ⟨_, rfl⟩
  rw [hrs]
  have HRS := Aside0.mk hrs
  have HR0 := Aside0.mk hr0
  clear hrs hr0
  have HZ : Aside0 (freightref11_isSize.f (size : Int) = some true) := ⟨by rw [ref_isz_f, decide_eq_true (show isSize (size : Int) from ⟨by omega, by omega⟩)]⟩
  have hl2 : decide ((65536 : Int) < (l0.length : Int)) = false := by simp; omega
  have hl3 : decide (65536 < l0.length) = false := by simp; omega
  go_enter Try.func30, Try.ntmps30
  go_wp2_with (go_at_call 53; refine (freightref11_isSize.calls _ _ _ HZ.out).mono ?_; rintro e w1 ⟨rfl, hd1⟩)
  have HQ0 : Aside0 (QInv w l0 size rs w1 l0.length (.slice none 0 0) (.slice none 0 0) [] [] 0) := ⟨⟨⟨Kd.R_nil _ _ _ _ _, Kd.R_nil _ _ _ _ _, hd1.below⟩, by omega, HRS.out, by simp, by simp, by omega⟩⟩
  clear hd1
  go_loopg [7, 8, 9] l0.length (fun k v7 v8 v9 w' => ∃ (at_ : Nat) (out : List Int) (bl : List S58) (Ao Ab : Option Addr) (ko kb : Nat), v7 = .slice Ao out.length ko ∧ v8 = .slice Ab bl.length kb ∧ v9 = .int .i64 at_ ∧ Aside0 (QInv w l0 size rs w' k (.slice Ao out.length ko) (.slice Ab bl.length kb) out bl at_))
  case atStart => exact ⟨0, [], [], none, none, 0, 0, rfl, rfl, rfl, HQ0⟩
  case round =>
    clear HQ0
    obtain ⟨at_, out, bl, Ao, Ab, ko, kb, rfl, rfl, rfl, HQ⟩ := hrel
    have hat0 := HQ.out.at_le
    by_cases hat : at_ < l0.length
    · have hat1 : (at_ : Int) < (l0.length : Int) := by omega
      obtain ⟨k, rfl⟩ : ∃ k, gk = k + 1 := ⟨gk - 1, by have := HQ.out.fuel; omega⟩
      obtain ⟨en, hen⟩ : ∃ en : Nat, en = min (at_ + size) l0.length := ⟨_, rfl⟩
      have he1 : at_ ≤ en := by omega
      have he2 : en ≤ c0 := by omega
      have he3 : (at_ : Int) ≤ (en : Int) := by omega
      have he4 : (en : Int) ≤ (c0 : Int) := by omega
      have he5 : ¬ c0 = at_ := by omega
      obtain ⟨ad, e, -⟩ := Kd.at_int HR0.out (at_ : Int) (by omega) hat1
      cases e
      obtain ⟨pc, hpc⟩ : ∃ pc, pc = pieceAt l0 size at_ := ⟨_, rfl⟩
      have hpl : en - at_ = pc.length := by rw [hpc, pieceAt_length]; omega
      have hpb : ∀ x ∈ pc, 0 ≤ x ∧ x ≤ 255 := by rw [hpc]; exact fun x hx => hby x (List.mem_of_mem_drop (List.mem_of_mem_take hx))
      have hpn : pc.length ≤ 4096 := by rw [hpc, pieceAt_length]; omega
      have hpC := piece_C (w := w) size at_ HR0.out hat
      rw [← hpc, Option.map_some] at hpC
      have hrun := HQ.out.run
      rw [bpR, if_pos hat, ← hpc] at hrun
      have HRUN := Aside0.mk hrun
      have HPC := Aside0.mk hpC
      have hpk2 : pc.length ≤ c0 - at_ := by omega
      have hps := pieceS_length pc
      have hpl2 : pc.length ≤ size := by rw [hpc, pieceAt_length]; omega
      have HEN := Aside0.mk hen
      obtain ⟨pk, hpk⟩ : ∃ pk, packS pc = pk := ⟨_, rfl⟩
      have HPK := Aside0.mk hpk
      have hpS : Aside0 (pieceS pc = if pc.length ≤ pk.1.length then pc else pk.1) := ⟨by rw [pieceS, hpk]⟩
      clear hrun hpC hpc hpk hen
      go_upto_if 33 with (fail)
      go_cut [10] (fun v10 wc => v10 = .int .i64 en ∧ Aside0 (QInv w l0 size rs wc (k + 1) (.slice Ao out.length ko) (.slice Ab bl.length kb) out bl at_))
      case first =>
        by_cases hbig : l0.length < at_ + size
        · have hb1 : (l0.length : Int) < (at_ : Int) + (size : Int) := by omega
          have e : (l0.length : Int) = (en : Int) := by have := HEN.out; omega
          go_wp2
          go_meet
          case rel => exact ⟨rfl, HQ⟩
        · have hb1 : decide ((l0.length : Int) < (at_ : Int) + (size : Int)) = false := by simp; omega
          have e : (at_ : Int) + (size : Int) = (en : Int) := by have := HEN.out; omega
          have HE := Aside0.mk e
          clear e
          go_wp2
          go_meet
          case rel => exact ⟨by rw [HE.out], HQ⟩
      case rest =>
        obtain ⟨rfl, HQ⟩ := hcut
        go_upto_if 49 with (go_at_call 21; refine (ref_pack_any (some (ad.add at_)) (c0 - at_) pc _ (Kd.C_below HPC.out HQ.out.inv.bel) hpk2 (by omega)).mono ?_; rw [HPK.out]; rintro e w5 ⟨v5, rfl, hR5, hB5⟩; obtain ⟨A5, k5, rfl⟩ := Kd.R_slice hR5; have H5 := Aside0.mk (⟨Kd.R_lower hR5 HQ.out.inv.bel.size, HQ.out.inv.step hB5⟩ : _ ∧ _); clear hR5 hB5)
        go_cut [12] (fun v12 wc => ∃ (A4 : Option Addr) (k4 : Nat), v12 = .slice A4 (pieceS pc).length k4 ∧ Aside0 (Src w wc A4 k4 (pieceS pc) ∧ PInv w wc (.slice Ao out.length ko) (.slice Ab bl.length kb) out bl))
        case first =>
          by_cases hge : pc.length ≤ pk.1.length
          · have hge1 : (pc.length : Int) ≤ (pk.1.length : Int) := by omega
            have HP := hpS.out
            rw [if_pos hge] at HP
            have HP := Aside0.mk HP
            clear hge
            go_wp2
            go_meet
            case rel => rw [HP.out]; exact ⟨_, _, rfl, ⟨.inl HPC.out, H5.out.2⟩⟩
          · have hge3 : (pk.1.length : Int) < (pc.length : Int) := by omega
            have HP := hpS.out
            rw [if_neg hge] at HP
            have HP := Aside0.mk HP
            clear hge
            go_wp2
            go_meet
            case rel => rw [HP.out]; exact ⟨A5, k5, rfl, ⟨.inr H5.out.1, H5.out.2⟩⟩
        case rest =>
          clear H5
          obtain ⟨A4, k4, rfl, HS⟩ := hcut
          obtain ⟨q, hq⟩ : ∃ q, pieceS pc = q := ⟨_, rfl⟩
          have hqb : ∀ x ∈ q, 0 ≤ x ∧ x ≤ 255 := by
            rw [← hq]; unfold pieceS
            split
            · exact hpb
            · exact packS_bytes pc hpb
          obtain ⟨nq, hnq⟩ : ∃ nq, sumS q = nq := ⟨_, rfl⟩
          have HBS : Aside0 (blockS out.length pc = ⟨out.length, q.length, pc.length, nq⟩) := ⟨by rw [blockS, hq, hnq]⟩
          have HNQ := Aside0.mk hnq
          have HQQ := Aside0.mk hq
          rw [hq] at hps HS ⊢
          have hql : q.length ≤ 4096 := by omega
          have hol := HQ.out.olen
          have hbl := HQ.out.blen
          clear hq hnq hpS HPK
          go_wp2_with (first
            | (go_at_call 54; refine (ref_sum_any A4 k4 q _ (HS.out.1.reads HS.out.2.bel) hqb (by omega)).mono ?_; rw [HNQ.out]; rintro e w6 ⟨rfl, rfl⟩)
            | (at_builtin; refine Kd.R_append k58 (w0 := w) w.heap.size rfl (.tmp 51) (.tmp 61) 47 58 (.agg #[.int .i64 0, .int .i64 0, .int .i64 0, .int .i64 0]) 32 rfl Try.underlying47 info58 rfl (by decide) (by omega) (.slice Ab bl.length kb) bl ⟨out.length, q.length, pc.length, nq⟩ [.int .i64 out.length, .int .i64 q.length, .int .i64 pc.length, .int .i64 nq] (fun _ => True) (fun _ => False) rfl rfl (k58_mkM _ _ _ _) (fun _ hk => hk.elim) (fun _ _ => trivial) HS.out.2.rb HS.out.2.bel HS.out.2.bel.size (by omega) ?_; intro v6 w6 ho6 hb6 hg6 hat6; obtain ⟨A6, k6, e6⟩ := Kd.R_slice ho6; rw [List.length_append, List.length_singleton] at e6; subst e6; have H6 : Aside0 (k58.R 58 w6 w.heap.size (fun _ => True) (.slice A6 (bl.length + 1) k6) (bl ++ [⟨out.length, q.length, pc.length, nq⟩]) ∧ Below w.heap.size w w6 ∧ Src w w6 A4 k4 q ∧ Kd.R (Kd.int .u8) 5 w6 w.heap.size (fun _ => True) (.slice Ao out.length ko) out) := ⟨ho6, hb6, HS.out.1.over HS.out.2.rb hg6, Kd.R_over' (v := .slice Ab bl.length kb) (e' := 58) HS.out.2.ro (Kd.R_typed HS.out.2.rb) (by decide) hg6⟩; clear ho6 hb6 hg6 hat6)
            | (at_builtin; go_loud (refine Kd.R_append_rows (Kd.int .u8) (w0 := w) w.heap.size rfl (.tmp 63) (.tmp 64) 22 5 (.int .u8 0) 1 rfl Try.underlying22 info5 rfl (by decide) (by omega) (.slice Ao out.length ko) out q A4 q.length k4 (fun _ => True) (fun _ => False) rfl rfl H6.out.2.2.2 (H6.out.2.2.1.reads H6.out.2.1) (fun _ _ h => h) (fun _ hk => hk.elim) (fun _ _ => trivial) H6.out.2.1 H6.out.2.1.size (by omega) ?_); intro v8 w8 ho8 hb8 hg8 hat8; obtain ⟨A8, k8, e8⟩ := Kd.R_slice ho8; rw [List.length_append] at e8; subst e8; have H8 : Aside0 (Kd.R (Kd.int .u8) 5 w8 w.heap.size (fun _ => True) (.slice A8 (out.length + q.length) k8) (out ++ q) ∧ k58.R 58 w8 w.heap.size (fun _ => True) (.slice A6 (bl.length + 1) k6) (bl ++ [⟨out.length, q.length, pc.length, nq⟩]) ∧ Below w.heap.size w w8) := ⟨ho8, Kd.R_over' (v := .slice Ao out.length ko) (e' := 5) H6.out.1 (Kd.R_typed H6.out.2.2.2) (by decide) hg8, hb8⟩; clear ho8 hb8 hg8 hat8))
          go_roundg k
          case measure => omega
          case rel =>
            have hr := HRUN.out
            rw [HBS.out, HQQ.out] at hr
            exact ⟨at_ + size, out ++ q, bl ++ [⟨out.length, q.length, pc.length, nq⟩], A8, A6, k8, k6, by rw [List.length_append], by rw [List.length_append, List.length_singleton], by go_num, ⟨⟨⟨by rw [List.length_append]; exact H8.out.1, by rw [List.length_append, List.length_singleton]; exact H8.out.2.1, H8.out.2.2⟩, by have := HQ.out.fuel; omega, hr, by rw [List.length_append]; omega, by rw [List.length_append, List.length_singleton]; omega, by omega⟩⟩⟩
    · have hat1 : decide ((at_ : Int) < (l0.length : Int)) = false := by simp; omega
      have hat2 : decide (at_ < l0.length) = false := by simp; omega
      have hr := HQ.out.run
      have : bpR l0 size gk out bl at_ = (out, bl) := by cases gk <;> simp [bpR, hat]
      rw [this] at hr
      subst hr
      clear this
      go_wp2
      go_ret3
      exact ⟨_, _, rfl, HQ.out.inv.ro, HQ.out.inv.rb, HQ.out.inv.bel⟩

/-- The document's Pack of any row and size. -/
theorem rpack_any (A0 : Option Addr) (c0 : Nat) (l0 : List Int) (size : Int) (w : World) (hr0 : Kd.C (Kd.int .u8) w A0 l0.length l0) (hby : ∀ x ∈ l0, 0 ≤ x ∧ x ≤ 255) (hc0 : l0.length ≤ c0) (hl : l0.length ≤ 140737488355328) :
    Calls Try.prog 30 #[.slice A0 l0.length c0, .int .i64 size] w fun e w' => ∃ vo vb, e = .returned (.tuple #[vo, vb, .int .i64 (bpackS l0 size).2.2]) ∧
      Kd.R (Kd.int .u8) 5 w' w.heap.size (fun _ => True) vo (bpackS l0 size).1 ∧ k58.R 58 w' w.heap.size (fun _ => True) vb (bpackS l0 size).2.1 ∧ Below w.heap.size w w' := by
  by_cases hs : isSize size
  · by_cases hb : l0.length > 65536
    · have e : bpackS l0 size = ([], [], 2) := by unfold bpackS; rw [if_neg (fun h => h hs), if_pos hb]
      rw [e]
      have hz : freightref11_isSize.f size = some true := by rw [ref_isz_f, decide_eq_true hs]
      have hl1 : (65536 : Int) < (l0.length : Int) := by omega
      go_enter Try.func30, Try.ntmps30
      go_wp2_with (go_at_call 53; refine (freightref11_isSize.calls _ _ _ hz).mono ?_; rintro e w1 ⟨rfl, ⟨nd, rfl⟩⟩)
      go_ret3
      exact ⟨_, _, rfl, Kd.R_nil _ _ _ _ _, Kd.R_nil _ _ _ _ _, pw_below_drewN (Below.refl _ _) _⟩
    · have hs' := hs
      obtain ⟨h1, h2⟩ := hs'
      obtain ⟨n, rfl⟩ := Int.eq_ofNat_of_zero_le (a := size) (by omega)
      have e : bpackS l0 (n : Int) = ((bpR l0 n l0.length [] [] 0).1, (bpR l0 n l0.length [] [] 0).2, 0) := by unfold bpackS; rw [if_neg (fun h => h hs), if_neg hb, Int.toNat_natCast]
      rw [e]
      exact rpack_walk A0 c0 l0 n w hr0 hby hc0 (by omega) (by omega) (by omega)
  · have e : bpackS l0 size = ([], [], 1) := by unfold bpackS; rw [if_pos hs]
    rw [e]
    have hz : freightref11_isSize.f size = some false := by rw [ref_isz_f, decide_eq_false hs]
    go_enter Try.func30, Try.ntmps30
    go_wp2_with (go_at_call 53; refine (freightref11_isSize.calls _ _ _ hz).mono ?_; rintro e w1 ⟨rfl, ⟨nd, rfl⟩⟩)
    go_ret3
    exact ⟨_, _, rfl, Kd.R_nil _ _ _ _ _, Kd.R_nil _ _ _ _ _, pw_below_drewN (Below.refl _ _) _⟩
end Go.Proofs.Ytoefligelajfkaa.Block

namespace Go.Proofs.Ytoefligelajfkaa.OpenK
open Go.ChangeShapes Go.WideShapes Go.Deep Go.Proofs.YtoefligelajfkaaW.PrintWords

/-- Whatever reads as a datum of a type reads as a value of a kind, and the value is good. -/
def Opens {α H : Type} (P : Program) (enc : TypeId × Value → H) (w : World) (d : Kd α) (e : TypeId) (good : α → Prop) : Prop :=
  ∀ (fuel : Nat) (cs : List Value) (x : DataW H × List MemPlace), DataW.trod enc P w 0 (fun _ => true) true fuel e cs = some x → (∀ n ∈ DataW.weights P e x.1, n ≤ reachBytes) → ∃ v, d.K w v cs ∧ good v

theorem opens_int {H : Type} {P : Program} {enc : TypeId × Value → H} {w : World} {e : TypeId} {k : IntKind} (he : P.underlying e = some (.int k)) : Opens P enc w (Kd.int k) e (fun n => (Lit.int k n).wf = true) := by
  intro fuel cs x h _
  obtain ⟨n, rfl, _, hw⟩ := DataW.trod_int he h
  exact ⟨n, rfl, hw⟩

theorem opens_slice {α H : Type} {P : Program} {enc : TypeId × Value → H} {w : World} {d : Kd α} {t e : TypeId} {good : α → Prop} [Inhabited α] (ht : P.underlying t = some (.slice e)) (hc : P.cellsOf e = d.sz) {B : Nat} (hB : P.bytesOf e = B) (h : Opens P enc w d e good) :
    Opens P enc w (Kd.slice e d) t (fun l => l.length * B ≤ 140737488351232 ∧ ∀ x ∈ l, good x) := by
  intro fuel cs x hx hw
  rcases open_slice ht hx with ⟨rfl, _⟩ | ⟨a, len, cap, m, n, D, Pl, rfl, _, hl, hm, rfl, rfl, hi⟩
  · exact ⟨[], ⟨none, 0, rfl, Nat.le_refl _, Kd.C_nil d w⟩, by simp, by simp⟩
  · simp only [] at hi hw
    simp only [DataW.weights, ht] at hw
    have hwl := hw _ (List.mem_cons_self)
    have hwe : ∀ i, i < len → ∀ z ∈ DataW.weights P e (D i), z ≤ reachBytes := by
      intro i hil z hz
      refine hw z (List.mem_cons_of_mem _ (List.mem_append_left _ ?_))
      have key : ∀ (l : List (DataW H)), D i ∈ l → z ∈ DataW.weightsAll P e l := by
        intro l
        induction l with
        | nil => intro h; simp at h
        | cons y r ih =>
          intro h
          rw [DataW.weightsAll, List.mem_append]
          rcases List.mem_cons.1 h with rfl | h
          · exact .inl hz
          · exact .inr (ih h)
      exact key _ (List.mem_map.2 ⟨i, List.mem_range.2 hil, rfl⟩)
    obtain ⟨f, hf⟩ := choose_lt (n := len) (p := fun i v => (∃ cs', w.cells? 0 (a.add (i * P.cellsOf e)) (P.cellsOf e) = some cs' ∧ d.K w v cs') ∧ good v) (fun i hil => by
      obtain ⟨cs', h1, h2⟩ := hi i (by omega)
      obtain ⟨v, hK, hg⟩ := h n cs' _ h2 (hwe i hil)
      exact ⟨v, ⟨cs', h1, hK⟩, hg⟩)
    refine ⟨(List.range len).map f, ⟨some a, m, by simp, by simpa using hl, ?_⟩, ?_, ?_⟩
    · refine ⟨rfl, by simp; unfold maxLen at hm; omega, fun hpos => ⟨a, rfl, fun j p hj => ?_⟩⟩
      simp only [List.length_map, List.length_range] at hpos
      rw [List.getElem?_map] at hj
      obtain ⟨i, hi1, rfl⟩ := Option.map_eq_some_iff.1 hj
      have hjl : j < len := by have := (List.getElem?_eq_some_iff.1 hi1).1; simpa using this
      have hij : i = j := by
        rw [List.getElem?_range hjl] at hi1
        simpa using hi1.symm
      subst hij
      obtain ⟨⟨cs', h1, hK⟩, _⟩ := hf i hjl
      rw [hc] at h1
      obtain ⟨_, hlen, hcell⟩ := World.cells?_some h1
      refine ⟨cs', hlen, hK, fun k u hk => ?_⟩
      have hkl : k < d.sz := by have := (List.getElem?_eq_some_iff.1 hk).1; omega
      rw [← Go.Deep.add_add, hcell k hkl]
      exact hk
    · simp only [List.length_map, List.length_range] at hwl ⊢
      rw [hB] at hwl
      refine Nat.le_trans (Nat.mul_le_mul_right _ ?_) (Nat.le_trans hwl (by decide))
      omega
    · intro x hx
      obtain ⟨i, hi1, rfl⟩ := List.mem_map.1 hx
      exact (hf i (List.mem_range.1 hi1)).2

theorem opens_pair {α β H : Type} {P : Program} {enc : TypeId × Value → H} {w : World} {a : Kd α} {b : Kd β} {e : TypeId} {f0 f1 : Field} {ga : α → Prop} {gb : β → Prop} (hs : P.underlying e = some (.struct #[f0, f1])) (o0 : f0.offset = 0) (o1 : f1.offset = a.sz)
    (c0 : P.cellsOf f0.type = a.sz) (c1 : P.cellsOf f1.type = b.sz) (hc : P.cellsOf e = a.sz + b.sz) (ha : Opens P enc w a f0.type ga) (hb : Opens P enc w b f1.type gb) : Opens P enc w (Kd.pair a b) e (fun x => ga x.1 ∧ gb x.2) := by
  intro fuel cs x h hw
  obtain ⟨y0, y1, n, rfl, hl, h0, h1⟩ := trod_struct2 hs h
  simp only [DataW.weights, hs] at hw
  rw [o0, c0, List.drop_zero] at h0
  rw [o1, c1] at h1
  have hcs : (cs.drop a.sz).take b.sz = cs.drop a.sz := List.take_of_length_le (by simp; omega)
  rw [hcs] at h1
  obtain ⟨v0, hK0, g0⟩ := ha _ _ _ h0 (fun z hz => hw z (by simp [DataW.weightsEach]; exact .inl hz))
  obtain ⟨v1, hK1, g1⟩ := hb _ _ _ h1 (fun z hz => hw z (by simp [DataW.weightsEach]; exact .inr hz))
  exact ⟨(v0, v1), ⟨_, _, (List.take_append_drop _ _).symm, hK0, hK1⟩, g0, g1⟩

/-- Another name of the values. -/
theorem opens_iso {α β H : Type} {P : Program} {enc : TypeId × Value → H} {w : World} {d : Kd α} {e : TypeId} {good : α → Prop} (f : β → α) (g : α → β) (hfg : ∀ x, f (g x) = x) (h : Opens P enc w d e good) : Opens P enc w (Kd.iso d f) e (fun x => good (f x)) := by
  intro fuel cs x hx hw
  obtain ⟨v, hK, hg⟩ := h fuel cs x hx hw
  exact ⟨g v, by show d.K w (f (g v)) cs; rw [hfg]; exact hK, by show good (f (g v)); rw [hfg]; exact hg⟩

/-- A slice among a law's arguments. -/
theorem arg_slice {α H : Type} {P : Program} {enc : TypeId × Value → H} {W : World} {d : Kd α} {t e : TypeId} {good : α → Prop} {B : Nat} {a : Option Addr} {len cap : Nat} {x : DataW H} {ps : List MemPlace} {ts : List TypeId} {ds : List (DataW H)} {j : Nat}
    (ho : Opens P enc W (Kd.slice e d) t (fun l => l.length * B ≤ 140737488351232 ∧ ∀ x ∈ l, good x)) (hsz : (DataW.weightsEach P ts ds).all (· ≤ reachBytes) = true) (ht : ts[j]? = some t) (hd : ds[j]? = some x)
    (h : DataW.Trod enc P W 0 (fun _ => true) true t (.slice a len cap) x ps) : ∃ l : List α, len = l.length ∧ l.length ≤ cap ∧ d.C W a l.length l ∧ l.length * B ≤ 140737488351232 ∧ ∀ x ∈ l, good x := by
  obtain ⟨fuel, hf⟩ := h
  obtain ⟨l, ⟨A, c, e1, h1, h2⟩, h3, h4⟩ := ho fuel _ _ hf (fun n hn => by
    have := List.all_eq_true.1 hsz _ (DataW.weights_mem_each ht hd n hn)
    simpa using this)
  simp [Value.cells] at e1
  obtain ⟨rfl, rfl, rfl⟩ := e1
  exact ⟨l, rfl, h1, h2, h3, h4⟩

open Go.Proofs.Ytoefligelajfkaa.PBlockOpens (S58 k58 k58_mk)
theorem opens58 {H : Type} {enc : TypeId × Value → H} {w : World} : Opens Try.prog enc w k58 58 (fun b => (Lit.int .i64 b.f0).wf = true ∧ (Lit.int .i64 b.f1).wf = true ∧ (Lit.int .i64 b.f2).wf = true ∧ (Lit.int .i64 b.f3).wf = true) := by
  intro fuel cs x h _
  obtain ⟨xs, n, _, rfl, hl, hlen, hf⟩ := DataW.trod_struct Try.underlying58 h
  have hc : Try.prog.cellsOf 58 = 4 := by kernel_rfl
  have h3 : Try.prog.cellsOf 3 = 1 := by kernel_rfl
  rw [hc] at hl
  match cs, hl with
  | [c0, c1, c2, c3], _ =>
    match xs, hlen with
    | [y0, y1, y2, y3], _ =>
      have f0 : DataW.trod enc Try.prog w 0 (fun _ => true) true n 3 ((([c0, c1, c2, c3] : List Value).drop 0).take (Try.prog.cellsOf 3)) = some y0 := hf 0 _ rfl
      have f1 : DataW.trod enc Try.prog w 0 (fun _ => true) true n 3 ((([c0, c1, c2, c3] : List Value).drop 1).take (Try.prog.cellsOf 3)) = some y1 := hf 1 _ rfl
      have f2 : DataW.trod enc Try.prog w 0 (fun _ => true) true n 3 ((([c0, c1, c2, c3] : List Value).drop 2).take (Try.prog.cellsOf 3)) = some y2 := hf 2 _ rfl
      have f3 : DataW.trod enc Try.prog w 0 (fun _ => true) true n 3 ((([c0, c1, c2, c3] : List Value).drop 3).take (Try.prog.cellsOf 3)) = some y3 := hf 3 _ rfl
      rw [h3] at f0 f1 f2 f3
      obtain ⟨n0, e0, _, w0⟩ := DataW.trod_int Try.underlying3 f0
      obtain ⟨n1, e1, _, w1⟩ := DataW.trod_int Try.underlying3 f1
      obtain ⟨n2, e2, _, w2⟩ := DataW.trod_int Try.underlying3 f2
      obtain ⟨n3, e3, _, w3⟩ := DataW.trod_int Try.underlying3 f3
      simp only [List.drop_zero, List.take_succ_cons, List.take_zero, List.drop_succ_cons, List.cons.injEq, and_true] at e0 e1 e2 e3
      subst e0 e1 e2 e3
      exact ⟨⟨n0, n1, n2, n3⟩, k58_mk w _, w0, w1, w2, w3⟩
theorem opens47 {H : Type} {enc : TypeId × Value → H} {w : World} : Opens Try.prog enc w (Kd.slice 58 k58) 47 (fun l => l.length * 32 ≤ 140737488351232 ∧ ∀ b ∈ l, (Lit.int .i64 b.f0).wf = true ∧ (Lit.int .i64 b.f1).wf = true ∧ (Lit.int .i64 b.f2).wf = true ∧ (Lit.int .i64 b.f3).wf = true) :=
  haveI : Inhabited S58 := ⟨⟨0, 0, 0, 0⟩⟩
  opens_slice Try.underlying47 (by kernel_rfl) (by kernel_rfl) opens58

open Go.Proofs.Ytoefligelajfkaa.PBlockOpens (S60 k60)
/-- A row of bytes that a law is given. -/
def GoodB (l : List Int) : Prop := l.length * 1 ≤ 140737488351232 ∧ ∀ x ∈ l, (Lit.int .u8 x).wf = true
def Good58 (b : S58) : Prop := (Lit.int .i64 b.f0).wf = true ∧ (Lit.int .i64 b.f1).wf = true ∧ (Lit.int .i64 b.f2).wf = true ∧ (Lit.int .i64 b.f3).wf = true
theorem opens22 {H : Type} {enc : TypeId × Value → H} {w : World} : Opens Try.prog enc w (Kd.slice 5 (Kd.int .u8)) 22 GoodB :=
  opens_slice Try.underlying22 (by kernel_rfl) (by kernel_rfl) (opens_int Try.underlying5)
theorem opens60 {H : Type} {enc : TypeId × Value → H} {w : World} : Opens Try.prog enc w k60 60 (fun x => GoodB x.f0 ∧ Good58 x.f1) :=
  opens_iso (fun x : S60 => (x.f0, x.f1)) (fun p => ⟨p.1, p.2⟩) (fun _ => rfl) (opens_pair Try.underlying60 rfl rfl (by kernel_rfl) (by kernel_rfl) (by kernel_rfl) opens22 opens58)
theorem opens56 {H : Type} {enc : TypeId × Value → H} {w : World} : Opens Try.prog enc w (Kd.slice 60 k60) 56 (fun l => l.length * 56 ≤ 140737488351232 ∧ ∀ x ∈ l, GoodB x.f0 ∧ Good58 x.f1) :=
  haveI : Inhabited S60 := ⟨⟨[], ⟨0, 0, 0, 0⟩⟩⟩
  opens_slice Try.underlying56 (by kernel_rfl) (by kernel_rfl) opens60
theorem GoodB.bytes {l : List Int} (h : GoodB l) : ∀ x ∈ l, 0 ≤ x ∧ x ≤ 255 := fun x hx => Go.bounds_u8 (h.2 x hx)

/-- A row and a size. -/
structure SAsk where
  f0 : List Int
  f1 : Int
def kAsk : Kd SAsk := Kd.iso (Kd.pair (Kd.slice 5 (Kd.int .u8)) (Kd.int .i64)) (fun x : SAsk => (x.f0, x.f1))
theorem opens42 {H : Type} {enc : TypeId × Value → H} {w : World} : Opens Try.prog enc w kAsk 42 (fun x => GoodB x.f0 ∧ (Lit.int .i64 x.f1).wf = true) :=
  opens_iso (fun x : SAsk => (x.f0, x.f1)) (fun p => ⟨p.1, p.2⟩) (fun _ => rfl) (opens_pair Try.underlying42 rfl rfl (by kernel_rfl) (by kernel_rfl) (by kernel_rfl) opens22 (opens_int Try.underlying3))
theorem opens40 {H : Type} {enc : TypeId × Value → H} {w : World} : Opens Try.prog enc w (Kd.slice 42 kAsk) 40 (fun l => l.length * 32 ≤ 140737488351232 ∧ ∀ x ∈ l, GoodB x.f0 ∧ (Lit.int .i64 x.f1).wf = true) :=
  haveI : Inhabited SAsk := ⟨⟨[], 0⟩⟩
  opens_slice Try.underlying40 (by kernel_rfl) (by kernel_rfl) opens42
def rd_Ask (xs : List SAsk) (i : Int) : SAsk := xs.getD i.toNat ⟨[], 0⟩
theorem at_Ask {w : World} {A : Option Addr} {n : Nat} {xs : List SAsk} (h : Kd.C kAsk w A n xs) (i : Int) (h0 : 0 ≤ i) (h1 : i < n) : ∃ ad A0 c0, A = some ad ∧ w.cell? (ad.add (i.toNat * 2)) = some (.slice A0 (rd_Ask xs i).f0.length c0) ∧ w.cell? ⟨(ad.add (i.toNat * 2)).block, (ad.add (i.toNat * 2)).off + 1, none⟩ = some (.int .i64 (rd_Ask xs i).f1) ∧ (rd_Ask xs i).f0.length ≤ c0 ∧ (Kd.int .u8).C w A0 (rd_Ask xs i).f0.length (rd_Ask xs i).f0 := by
  obtain ⟨ad, c, e, _, hK, hc0⟩ := Kd.C_get h (⟨[], 0⟩ : SAsk) i h0 h1
  have hc : ∀ j u, c[j]? = some u → w.cell? (ad.add (i.toNat * 2 + j)) = some u := hc0
  obtain ⟨_, _, rfl, ⟨A0, c0, rfl, l0, g0⟩, rfl⟩ := hK
  exact ⟨ad, A0, c0, e, hc 0 _ rfl, by rw [← add_field _ _ 1 (by omega)]; exact hc 1 _ rfl, l0, g0⟩
end Go.Proofs.Ytoefligelajfkaa.OpenK

namespace Go.Proofs.Ytoefligelajfkaa.Block
open Go.RowKit Go.Proofs.YtoefligelajfkaaW.PrintWords Go.Proofs.YtoefligelajfkaaW.PrintLast Go.Proofs.YtoefligelajfkaaW.PrintMore Go.Proofs.Ytoefligelajfkaa.Press

/-- The desk: its block holds a slice of bytes of the law's own. -/
structure DInv (w0 : World) (gd : Nat) (W : World) (vb : Value) (B : List Int) : Prop where
  blk : W.heap[gd]? = some (.cells #[vb] 45 (0, 0))
  row : Kd.R (Kd.int .u8) 5 W w0.heap.size (fun _ => True) vb B
  bel : Below w0.heap.size w0 W
  old : w0.heap.size ≤ gd
theorem DInv.step {w0 : World} {gd : Nat} {W W1 : World} {vb : Value} {B : List Int} (h : DInv w0 gd W vb B) (hb : Below W.heap.size W W1) : DInv w0 gd W1 vb B :=
  ⟨blk_below h.blk hb, Kd.R_below h.row hb, below_step h.bel hb, h.old⟩
theorem DInv.ne {w0 : World} {gd g n k : Nat} {W : World} {B : List Int} (h : DInv w0 gd W (.slice (some ⟨g, 0, none⟩) n k) B) : gd ≠ g := by
  intro e
  subst e
  exact ne_block h.row h.blk (by decide) rfl
theorem DInv.put {w0 : World} {gd g n k : Nat} {W : World} {B : List Int} (h : DInv w0 gd W (.slice (some ⟨g, 0, none⟩) n k) B) (i : Nat) (x : Int) : DInv w0 gd (W.setCell ⟨g, i, none⟩ (.int .u8 x)) (.slice (some ⟨g, 0, none⟩) n k) (B.set i x) := by
  have hp := Kd.R_putn (enc := Value.int .u8) (h1 := fun _ => rfl) h.row (i : Int) x
  simp only [Int.toNat_natCast] at hp
  exact ⟨blk_far h.blk (p := ⟨g, i, none⟩) h.ne _, hp, h.bel.setCell (p := ⟨g, i, none⟩) (Kd.R_base h.row g rfl) _, h.old⟩
theorem DInv.grown {w0 : World} {gd g n k : Nat} {W W1 : World} {B B1 : List Int} (h : DInv w0 gd W (.slice (some ⟨g, 0, none⟩) n k) B) (hg : W.grownBy W1 (Value.slice (some ⟨g, 0, none⟩) n k).ownBlock)
    (hr : Kd.R (Kd.int .u8) 5 W1 w0.heap.size (fun _ => True) (.slice (some ⟨g, 0, none⟩) n k) B1) (hb : Below w0.heap.size w0 W1) : DInv w0 gd W1 (.slice (some ⟨g, 0, none⟩) n k) B1 :=
  ⟨blk_grown h.blk hg (by simp [Value.ownBlock]; exact h.ne), hr, hb, h.old⟩
theorem DInv.new {w0 : World} {gd : Nat} {W W1 : World} {vb v : Value} {B B1 : List Int} (h : DInv w0 gd W vb B) (hg : W.grownBy W1 none) (hr : Kd.R (Kd.int .u8) 5 W1 w0.heap.size (fun _ => True) v B1) (hb : Below w0.heap.size w0 W1) :
    W1.heap[gd]? = some (.cells #[vb] 45 (0, 0)) ∧ DInv w0 gd (W1.setCell ⟨gd, 0, none⟩ v) v B1 := by
  have hb1 : W1.heap[gd]? = some (.cells #[vb] 45 (0, 0)) := blk_grown h.blk hg (by simp)
  refine ⟨hb1, one_setCell hb1, ?_, hb.setCell (p := ⟨gd, 0, none⟩) h.old _, h.old⟩
  exact R_kept (row := some gd) hr (grown_set _ _ _ _) (by
    cases e : v.ownBlock with
    | none => exact .inl rfl
    | some q => exact .inr (fun he => ne_block hr hb1 (by decide) (by rw [e]; exact he)))

/-- What a lay may have written: the desk's block, the row that lay there, and new memory. -/
structure Kp (W W1 : World) (gd : Nat) (v0 : Value) : Prop where
  size : W.heap.size ≤ W1.heap.size
  keep : ∀ k, k < W.heap.size → k ≠ gd → some k ≠ v0.ownBlock → W1.heap[k]? = W.heap[k]?
theorem Kp.refl (W : World) (gd : Nat) (v0 : Value) : Kp W W gd v0 := ⟨Nat.le_refl _, fun _ _ _ _ => rfl⟩
theorem Kp.grown {W W1 W2 : World} {gd : Nat} {v0 : Value} {row : Option Nat} (h : Kp W W1 gd v0) (hg : W1.grownBy W2 row) (hr : ∀ k, row = some k → k = gd ∨ some k = v0.ownBlock ∨ W.heap.size ≤ k) : Kp W W2 gd v0 :=
  ⟨Nat.le_trans h.size hg.size, fun k hk h1 h2 => by
    rw [← h.keep k hk h1 h2]
    refine hg.block k (Nat.lt_of_lt_of_le hk h.size) (fun e => ?_)
    rcases hr k e.symm with h3 | h3 | h3
    · exact h1 h3
    · exact h2 h3
    · omega⟩
theorem Kp.set {W W1 : World} {gd : Nat} {v0 : Value} (h : Kp W W1 gd v0) {g : Nat} (hg : g = gd ∨ some g = v0.ownBlock ∨ W.heap.size ≤ g) (j : Nat) (u : Value) : Kp W (W1.setCell ⟨g, j, none⟩ u) gd v0 :=
  h.grown (grown_set W1 g j u) (fun k e => by cases e; exact hg)
theorem Kp.below {W W1 W2 : World} {gd : Nat} {v0 : Value} (h : Kp W W1 gd v0) (hb : Below W1.heap.size W1 W2) : Kp W W2 gd v0 :=
  ⟨Nat.le_trans h.size hb.size, fun k hk h1 h2 => (hb.block k (Nat.lt_of_lt_of_le hk h.size)).trans (h.keep k hk h1 h2)⟩
/-- Where a row lies behind a lay. -/
def At (W : World) (v0 v : Value) : Prop := ∀ k, v.ownBlock = some k → some k = v0.ownBlock ∨ W.heap.size ≤ k

/-- So many bytes of the desk are marked. -/
def markD (B : List Int) (i : Nat) : List Int := List.replicate i 171 ++ B.drop i
theorem markD_length (B : List Int) (i : Nat) (h : i ≤ B.length) : (markD B i).length = B.length := by simp [markD]; omega
theorem markD_set (B : List Int) (i : Nat) (h : i < B.length) : (markD B i).set i 171 = markD B (i + 1) := by
  rw [markD, markD, List.set_append_right _ _ (by simp), List.length_replicate, Nat.sub_self, List.drop_eq_getElem_cons h, List.set_cons_zero, List.replicate_succ', List.append_assoc]
  rfl
def deskS (data : List Int) (n : Nat) : List Int := data ++ List.replicate (n - data.length) 171

set_option maxHeartbeats 4000000 in
theorem desk_lay_any (w0 : World) (gd : Nat) (W : World) (vb : Value) (B : List Int) (A : Option Addr) (c : Nat) (data : List Int) (hI : DInv w0 gd W vb B) (hC : Kd.C (Kd.int .u8) w0 A data.length data) (hd : data.length ≤ 300000) (hB : B.length ≤ 1000000) :
    Calls Try.prog 32 #[.pointer (some ⟨gd, 0, none⟩), .slice A data.length c] W fun e w' => ∃ g k n, e = .returned (.slice (some ⟨g, 0, none⟩) data.length k) ∧ data.length + 5 ≤ n ∧ n ≤ 1000000 ∧ DInv w0 gd w' (.slice (some ⟨g, 0, none⟩) n k) (deskS data n) ∧ Kp W w' gd vb ∧ At W vb (.slice (some ⟨g, 0, none⟩) n k) := by
  have HI := Aside0.mk hI
  have HC := Aside0.mk hC
  obtain ⟨v0, hv0⟩ : ∃ v0, vb = v0 := ⟨_, rfl⟩
  have HV0 := Aside0.mk hv0
  rw [hv0]
  clear hv0
  obtain ⟨Ab, kb, rfl⟩ := Kd.R_slice hI.row
  have hc0 := cell_of_one hI.blk
  have hf0 := free_of_one hI.blk
  clear hI hC
  obtain ⟨N, hN⟩ : ∃ N, 2 * data.length + 40 = N := ⟨_, rfl⟩
  have hN1 : 2 * (data.length : Int) + 40 = (N : Int) := by omega
  have hN2 : N ≤ 700000 := by omega
  have hN3 : data.length + 5 ≤ N := by omega
  clear hN
  go_enter Try.func32, Try.ntmps32
  go_upto_if 14 with (fail)
  go_cut [15, 16, 17, 18, 19, 20, 21, 22] (fun _ _ _ _ _ _ _ _ wc => ∃ (vb : Value) (B : List Int), data.length + 5 ≤ B.length ∧ B.length ≤ 1000000 ∧ Aside0 (DInv w0 gd wc vb B ∧ Kp W wc gd v0 ∧ At W v0 vb))
  case first =>
    by_cases hs : B.length < data.length + 5
    · have hs1 : (B.length : Int) < (data.length : Int) + 5 := by omega
      go_wp2_with (at_make; go_loud (refine Kd.R_make (Kd.int .u8) (w0 := w0) w0.heap.size 5 rfl rfl 22 _ _ rfl (N : Int) rfl rfl Try.underlying22 (.int .u8 0) 1 info5 rfl (by decide) (by omega) 0 (ok := fun _ => True) (okp := fun _ => False) rfl (fun _ _ => trivial) trivial (by omega) (by simp; omega) HI.out.bel HI.out.bel.size ?_); intro v2 w2 ho2 hb2 hg2 hat2; rw [Int.toNat_natCast] at ho2; obtain ⟨A2, k2, e2⟩ := Kd.R_slice ho2; rw [List.length_replicate] at e2; subst e2; have HD2 := Aside0.mk (HI.out.new hg2 ho2 hb2); have hc2 := cell_of_one HD2.out.1; have hf2 := free_of_one HD2.out.1; have HK2 : Aside0 (Kp W (w2.setCell ⟨gd, 0, none⟩ (.slice A2 N k2)) gd v0 ∧ At W v0 (.slice A2 N k2)) := ⟨((Kp.refl W gd v0).grown hg2 (fun _ e => by cases e)).set (.inl rfl) _ _, fun k hk => by obtain ⟨b, hb, hb'⟩ := hat2; rw [hb] at hk; injection hk with hk; exact .inr (by omega)⟩)
      go_meet
      case rel => exact ⟨_, _, by simp; omega, by simp; omega, ⟨HD2.out.2, HK2.out⟩⟩
    · have hs1 : decide ((B.length : Int) < (data.length : Int) + 5) = false := by simp; omega
      go_wp2
      go_meet
      case rel => exact ⟨_, B, by omega, hB, ⟨HI.out, Kp.refl _ _ _, fun k hk => .inl (by rw [← HV0.out]; exact hk.symm)⟩⟩
  case rest =>
    obtain ⟨vb, B, hb5, hb6, HI3⟩ := hcut
    have HI := Aside0.mk HI3.out.1
    obtain ⟨A1, k1, rfl⟩ := Kd.R_slice HI.out.row
    obtain ⟨g, k, e1, hgb, -, -⟩ := Kd.R_form HI.out.row (by omega)
    injection e1 with e1 _ e3
    subst e1 e3
    obtain ⟨n, hn⟩ : ∃ n, B.length = n := ⟨_, rfl⟩
    rw [hn] at HI hb5 hb6
    have HN := Aside0.mk hn
    have hk := (Kd.R_reads' HI.out.row).2.1
    have HG : Aside0 (g = gd ∨ some g = v0.ownBlock ∨ W.heap.size ≤ g) := ⟨.inr (HI3.out.2.2 g rfl)⟩
    have HAT := Aside0.mk HI3.out.2.2
    have HK0 := Aside0.mk HI3.out.2.1
    clear hc0 hf0 hn hN1 hN2 hN3 hB HI3
    go_wp2_with fail
    go_loopg [5] n (fun k' v5 w' => ∃ i : Nat, v5 = .int .i64 i ∧ i + k' = n ∧ Aside0 (DInv w0 gd w' (.slice (some ⟨g, 0, none⟩) n k1) (markD B i)) ∧ Aside0 (Kp W w' gd v0))
    case atStart => exact ⟨0, rfl, by omega, HI, HK0⟩
    case round =>
      clear HI HK0
      obtain ⟨i, rfl, hik, HI, HK⟩ := hrel
      have hc1 := cell_of_one HI.out.blk
      have hf1 := free_of_one HI.out.blk
      cases gk with
      | zero =>
        have hi : i = n := by omega
        subst hi
        have hm : markD B i = List.replicate i 171 := by rw [markD, List.drop_eq_nil_of_le (by have := HN.out; omega), List.append_nil]
        have hr := HI.out.row
        rw [hm] at hr
        have HR := Aside0.mk hr
        have hn3 : (data.length : Int) ≤ (k1 : Int) := by omega
        have HFIN : Aside0 (data.take (min data.length (List.replicate i (171 : Int)).length) ++ (List.replicate i (171 : Int)).drop (min data.length (List.replicate i (171 : Int)).length) = deskS data i) := ⟨by
          rw [List.length_replicate, Nat.min_eq_left (by omega), List.take_length, List.drop_replicate, deskS]⟩
        clear hm hr hik
        go_wp2_with ((with_reducible refine gate_builtin (b := .copy) (xs := #[.tmp 41, .tmp 42]) rfl ?_); go_loud (refine Kd.R_copy (0 : Int) (w0 := w0) w0.heap.size rfl (.tmp 41) (.tmp 42) 22 22 5 rfl Try.underlying22 (by kernel_rfl) (.slice (some ⟨g, 0, none⟩) i k1) (List.replicate i 171) data A data.length c (fun _ => True) rfl rfl HR.out (Kd.C_below HC.out HI.out.bel) HI.out.bel HI.out.bel.size ?_); intro w3 ho3 hb3 hg3; rw [HFIN.out] at ho3; have H3 := Aside0.mk (HI.out.grown hg3 ho3 hb3); have HK3 := Aside0.mk (HK.out.grown hg3 (fun k e => by simp [Value.ownBlock] at e; subst e; exact HG.out)); have hc3 := cell_of_one H3.out.blk; clear ho3 hb3 hg3)
        go_ret
        exact ⟨g, k1, i, rfl, hb5, hb6, H3.out, HK3.out, HAT.out⟩
      | succ k' =>
        have hi : i < n := by omega
        have hi1 : (i : Int) < (n : Int) := by omega
        obtain ⟨hx, hz⟩ := Kd.R_celln (0 : Int) HI.out.row (i : Int) (by omega) (by omega)
        simp only [Int.toNat_natCast] at hx hz
        have hN := HI.out.put i 171
        rw [markD_set B i (by rw [HN.out]; exact hi)] at hN
        have HNX := Aside0.mk hN
        have HKX := Aside0.mk (HK.out.set HG.out i (.int .u8 171))
        generalize rdOf 0 (markD B i) (i : Int) = z at hx
        clear hN
        go_wp2
        go_roundg k'
        case measure => omega
        case rel => exact ⟨i + 1, by go_num, by omega, HNX, HKX⟩

set_option maxHeartbeats 4000000 in
theorem desk_lies_any (w0 : World) (gd : Nat) (W : World) (g n k : Nat) (A : Option Addr) (c : Nat) (data : List Int) (hI : DInv w0 gd W (.slice (some ⟨g, 0, none⟩) n k) (deskS data n)) (hC : Kd.C (Kd.int .u8) w0 A data.length data) (hd : data.length ≤ n) (hn : n ≤ 1000000) :
    Calls Try.prog 33 #[.pointer (some ⟨gd, 0, none⟩), .slice A data.length c] W fun e w' => e = .returned (.bool true) ∧ Drawn0 W w' := by
  have HI := Aside0.mk hI
  have HC := Aside0.mk hC
  clear hI hC
  go_enter Try.func33, Try.ntmps33
  go_wp2
  go_loopg [5] n (fun k' v5 w' => ∃ i : Nat, v5 = .int .i64 i ∧ i + k' = n ∧ Aside0 (Drawn0 W w'))
  case atStart => exact ⟨0, rfl, by omega, ⟨Drawn0.refl _⟩⟩
  case round =>
    obtain ⟨i, rfl, hik, HD⟩ := hrel
    have HJ := Aside0.mk (HI.out.step HD.out.below)
    have hc1 := cell_of_one HJ.out.blk
    cases gk with
    | zero =>
      have hi : i = n := by omega
      subst hi
      go_wp2
      go_ret
      exact ⟨rfl, HD.out⟩
    | succ k' =>
      have hi : i < n := by omega
      have hi1 : (i : Int) < (n : Int) := by omega
      obtain ⟨hx, hz⟩ := Kd.R_celln (0 : Int) HJ.out.row (i : Int) (by omega) (by omega)
      simp only [Int.toNat_natCast] at hx hz
      by_cases hl : i < data.length
      · have hl1 : (i : Int) < (data.length : Int) := by omega
        have d1 : decide (i < data.length) = true := by simp; omega
        have d2 : decide ((i : Int) < (data.length : Int)) = true := by simp; omega
        have d3 : decide (data.length ≤ i) = false := by simp; omega
        have d4 : decide ((data.length : Int) ≤ (i : Int)) = false := by simp; omega
        obtain ⟨ad, e, hy⟩ := Kd.at_int (Kd.C_below HC.out HJ.out.bel) (i : Int) (by omega) (by omega)
        cases e
        simp only [Int.toNat_natCast] at hy
        have hxy : rdOf 0 (deskS data n) (i : Int) = rd data (i : Int) := by
          rw [rdOf, rd, Int.toNat_natCast, deskS, List.getD_eq_getElem?_getD, List.getD_eq_getElem?_getD, List.getElem?_append_left hl]
        rw [hxy] at hx
        generalize rd data (i : Int) = x at hx hy
        clear hxy
        go_wp2
        go_quiet (fail)
        go_wp2
        go_roundg k'
        case measure => omega
        case rel => exact ⟨i + 1, by go_num, by omega, ⟨HD.out.step _⟩⟩
      · have d1 : decide (i < data.length) = false := by simp; omega
        have d2 : decide ((i : Int) < (data.length : Int)) = false := by simp; omega
        have d3 : decide (data.length ≤ i) = true := by simp; omega
        have d4 : decide ((data.length : Int) ≤ (i : Int)) = true := by simp; omega
        have hxy : rdOf 0 (deskS data n) (i : Int) = 171 := by
          rw [rdOf, Int.toNat_natCast, deskS, List.getD_eq_getElem?_getD, List.getElem?_append_right (by omega), List.getElem?_replicate, if_pos (by omega)]; rfl
        rw [hxy] at hx
        clear hxy
        go_wp2
        go_quiet (fail)
        go_wp2
        go_roundg k'
        case measure => omega
        case rel => exact ⟨i + 1, by go_num, by omega, ⟨HD.out.step _⟩⟩
end Go.Proofs.Ytoefligelajfkaa.Block

namespace Go.Proofs.Ytoefligelajfkaa.Block
open Go.RowKit Go.Proofs.YtoefligelajfkaaW.PrintWords Go.Proofs.YtoefligelajfkaaW.PrintLast Go.Proofs.YtoefligelajfkaaW.PrintMore Go.Proofs.Ytoefligelajfkaa.Press
open Go.Proofs.Ytoefligelajfkaa.PBlockOpens (S58 k58 rd_T58 at_T58)

theorem eqR58 (d : Nat) (w : World) (x0 y0 : Int) (x1 y1 : Int) (x2 y2 : Int) (x3 y3 : Int) :
    (Op.equalIn (d + 2) 58 (.agg #[.int .i64 x0, .int .i64 x1, .int .i64 x2, .int .i64 x3]) (.agg #[.int .i64 y0, .int .i64 y1, .int .i64 y2, .int .i64 y3])).run Try.prog w = .ok (x0 == y0 && (x1 == y1 && (x2 == y2 && (x3 == y3)))) w := by
  refine eqA_of Try.underlying58 (by kernel_rfl) ?_
  refine eqf_cons (by rfl) (by go_simp; rfl) (by go_simp; rfl) (by go_simp) ?_
  refine eqf_cons (by rfl) (by go_simp; rfl) (by go_simp; rfl) (by go_simp) ?_
  refine eqf_cons (by rfl) (by go_simp; rfl) (by go_simp; rfl) (by go_simp) ?_
  exact eqf_last (by rfl) (by go_simp; rfl) (by go_simp; rfl) (by go_simp)

attribute [local go_sem high] eqR58
set_option maxHeartbeats 1000000 in
theorem rows_true (A0 : Option Addr) (c0 : Nat) (A1 : Option Addr) (c1 : Nat) (l : List S58) (w : World) (h0 : k58.C w A0 l.length l) (h1 : k58.C w A1 l.length l) (hl : l.length ≤ 140737488355328) :
    Calls Try.prog 36 #[.slice A0 l.length c0, .slice A1 l.length c1] w fun e w' => e = .returned (.bool true) ∧ Drawn0 w w' := by
  have H0 := Aside0.mk h0
  have H1 := Aside0.mk h1
  clear h0 h1
  go_enter Try.func36, Try.ntmps36
  go_wp2
  go_loopg [5] l.length (fun k v5 w' => ∃ i : Nat, v5 = .int .i64 i ∧ i + k = l.length ∧ Aside0 (Drawn0 w w'))
  case atStart => exact ⟨0, rfl, by omega, ⟨Drawn0.refl _⟩⟩
  case round =>
    obtain ⟨i, rfl, hik, HD⟩ := hrel
    cases gk with
    | zero =>
      have hi : i = l.length := by omega
      subst hi
      go_wp2
      go_ret
      exact ⟨rfl, HD.out⟩
    | succ k =>
      have hi : i < l.length := by omega
      have hi1 : (i : Int) < (l.length : Int) := by omega
      obtain ⟨ad, e0, a0, a1, a2, a3⟩ := at_T58 (Kd.C_below H0.out HD.out.below) (i : Int) (by omega) (by omega)
      cases e0
      obtain ⟨ad1, e1, b0, b1, b2, b3⟩ := at_T58 (Kd.C_below H1.out HD.out.below) (i : Int) (by omega) (by omega)
      cases e1
      simp only [Int.toNat_natCast] at a0 a1 a2 a3 b0 b1 b2 b3
      obtain ⟨⟨y0, y1, y2, y3⟩, hy⟩ : ∃ y, rd_T58 l (i : Int) = y := ⟨_, rfl⟩
      rw [hy] at a0 a1 a2 a3 b0 b1 b2 b3
      simp only [] at a0 a1 a2 a3 b0 b1 b2 b3
      clear hy
      go_wp2
      go_quiet (fail)
      go_wp2
      go_roundg k
      case measure => omega
      case rel => exact ⟨i + 1, by go_num, by omega, ⟨HD.out.step _⟩⟩
end Go.Proofs.Ytoefligelajfkaa.Block

namespace Go.Proofs.Ytoefligelajfkaa.Block
open Go.RowKit Go.Proofs.YtoefligelajfkaaW.PrintWords Go.Proofs.YtoefligelajfkaaW.PrintLast Go.Proofs.YtoefligelajfkaaW.PrintMore Go.Proofs.Ytoefligelajfkaa.Press
open Go.Proofs.Ytoefligelajfkaa.PBlockOpens (S58 k58 z58 k58_open k58_mk k58_mkM k58_openM rd_T58 at_T58)

set_option maxHeartbeats 1000000 in
theorem bytes_true (A0 : Option Addr) (c0 : Nat) (A1 : Option Addr) (c1 : Nat) (l : List Int) (w : World) (h0 : Kd.C (Kd.int .u8) w A0 l.length l) (h1 : Kd.C (Kd.int .u8) w A1 l.length l) (hl : l.length ≤ 140737488355328) :
    Calls Try.prog 35 #[.slice A0 l.length c0, .slice A1 l.length c1] w fun e w' => e = .returned (.bool true) ∧ Drawn0 w w' := by
  have H0 := Aside0.mk h0
  have H1 := Aside0.mk h1
  clear h0 h1
  go_enter Try.func35, Try.ntmps35
  go_wp2
  go_loopg [5] l.length (fun k v5 w' => ∃ i : Nat, v5 = .int .i64 i ∧ i + k = l.length ∧ Aside0 (Drawn0 w w'))
  case atStart => exact ⟨0, rfl, by omega, ⟨Drawn0.refl _⟩⟩
  case round =>
    obtain ⟨i, rfl, hik, HD⟩ := hrel
    cases gk with
    | zero =>
      have hi : i = l.length := by omega
      subst hi
      go_wp2
      go_ret
      exact ⟨rfl, HD.out⟩
    | succ k =>
      have hi : i < l.length := by omega
      have hi1 : (i : Int) < (l.length : Int) := by omega
      obtain ⟨ad, e0, hx⟩ := Kd.at_int (Kd.C_below H0.out HD.out.below) (i : Int) (by omega) (by omega)
      cases e0
      obtain ⟨ad1, e1, hy⟩ := Kd.at_int (Kd.C_below H1.out HD.out.below) (i : Int) (by omega) (by omega)
      cases e1
      simp only [Int.toNat_natCast] at hx hy
      generalize rd l (i : Int) = x at hx hy
      go_wp2
      go_quiet (fail)
      go_wp2
      go_roundg k
      case measure => omega
      case rel => exact ⟨i + 1, by go_num, by omega, ⟨HD.out.step _⟩⟩

theorem fits_true (A0 : Option Addr) (c0 n : Nat) (size : Int) (w : World) (h0 : n ≤ 65536) (h1 : 16 ≤ size) (h2 : size ≤ 4096) :
    Calls Try.prog 44 #[.slice A0 n c0, .int .i64 size] w fun e w' => e = .returned (.bool true) ∧ w = w' := by
  have g0 : (n : Int) ≤ 65536 := by omega
  go_enter Try.func44, Try.ntmps44
  go_wp2
  go_ret
  exact ⟨rfl, rfl⟩
theorem fits_false (A0 : Option Addr) (c0 n : Nat) (size : Int) (w : World) (h : ¬ (n ≤ 65536 ∧ 16 ≤ size ∧ size ≤ 4096)) :
    Calls Try.prog 44 #[.slice A0 n c0, .int .i64 size] w fun e w' => e = .returned (.bool false) ∧ w = w' := by
  by_cases h0 : n ≤ 65536
  · have g0 : decide ((n : Int) ≤ 65536) = true := by simp; omega
    by_cases h1 : 16 ≤ size
    · have g2 : decide (size ≤ 4096) = false := by simp; omega
      clear h
      go_enter Try.func44, Try.ntmps44
      go_wp2
      go_ret
      exact ⟨rfl, rfl⟩
    · have g1 : decide (16 ≤ size) = false := by simp; omega
      clear h
      go_enter Try.func44, Try.ntmps44
      go_wp2
      go_ret
      exact ⟨rfl, rfl⟩
  · have g0 : decide ((n : Int) ≤ 65536) = false := by simp; omega
    clear h
    go_enter Try.func44, Try.ntmps44
    go_wp2
    go_ret
    exact ⟨rfl, rfl⟩
end Go.Proofs.Ytoefligelajfkaa.Block

namespace Go.Proofs.Ytoefligelajfkaa.Block
open Go.Proofs.Ytoefligelajfkaa.PBlockOpens Go.Proofs.Ytoefligelajfkaa.Press

/-- The pieces of a row from a place on. -/
def chunksR (l : List Int) (size : Nat) : Nat → Nat → List (List Int)
  | 0, _ => []
  | k + 1, at_ => if at_ < l.length then pieceAt l size at_ :: chunksR l size k (at_ + size) else []
def blocksR : Nat → List (List Int) → List S58
  | _, [] => []
  | n, p :: t => blockS n p :: blocksR (n + (pieceS p).length) t
def catS : List (List Int) → List Int
  | [] => []
  | p :: t => pieceS p ++ catS t

theorem bpR_eq (l : List Int) (size : Nat) : ∀ (k at_ : Nat) (out : List Int) (bl : List S58), bpR l size k out bl at_ = (out ++ catS (chunksR l size k at_), bl ++ blocksR out.length (chunksR l size k at_)) := by
  intro k
  induction k with
  | zero => intro at_ out bl; simp [bpR, chunksR, catS, blocksR]
  | succ k ih =>
    intro at_ out bl
    rw [bpR, chunksR]
    split
    · rw [ih, catS, blocksR, List.length_append, List.append_assoc, List.append_assoc]; rfl
    · simp [catS, blocksR]

theorem chunks_flat (l : List Int) (size : Nat) (hs : 1 ≤ size) : ∀ (k at_ : Nat), l.length ≤ at_ + k → (chunksR l size k at_).flatten = l.drop at_ := by
  intro k
  induction k with
  | zero => intro at_ h; rw [chunksR, List.drop_eq_nil_of_le (by omega)]; rfl
  | succ k ih =>
    intro at_ h
    rw [chunksR]
    split
    · rw [List.flatten_cons, ih _ (by omega), pieceAt]
      by_cases hm : size ≤ l.length - at_
      · rw [Nat.min_eq_left hm]
        rw [← List.drop_drop, List.take_append_drop]
      · rw [Nat.min_eq_right (by omega), show l.drop (at_ + size) = [] from List.drop_eq_nil_of_le (by omega), List.append_nil, List.take_of_length_le (by simp)]
    · rw [List.drop_eq_nil_of_le (by omega)]; rfl
theorem chunks_mem (l : List Int) (size : Nat) (hs : 1 ≤ size) : ∀ (k at_ : Nat) (p : List Int), p ∈ chunksR l size k at_ → 1 ≤ p.length ∧ p.length ≤ size ∧ ∀ x ∈ p, x ∈ l := by
  intro k
  induction k with
  | zero => intro at_ p h; simp [chunksR] at h
  | succ k ih =>
    intro at_ p h
    rw [chunksR] at h
    split at h
    · rcases List.mem_cons.1 h with rfl | h
      · refine ⟨?_, ?_, fun x hx => List.mem_of_mem_drop (List.mem_of_mem_take hx)⟩ <;> rw [pieceAt_length] <;> omega
      · exact ih _ _ h
    · simp at h
theorem chunks_len (l : List Int) (size : Nat) (hs : 1 ≤ size) : ∀ (k at_ : Nat), at_ ≤ l.length → l.length ≤ at_ + k → (chunksR l size k at_).length = (l.length - at_ + size - 1) / size := by
  intro k
  induction k with
  | zero =>
    intro at_ h0 h
    rw [chunksR, show l.length - at_ = 0 by omega, Nat.div_eq_of_lt (by omega)]; rfl
  | succ k ih =>
    intro at_ h0 h
    rw [chunksR]
    split
    · rename_i hlt
      rw [List.length_cons]
      by_cases hm : at_ + size ≤ l.length
      · rw [ih _ hm (by omega), show l.length - at_ + size - 1 = (l.length - (at_ + size) + size - 1) + size by omega, Nat.add_div_right _ (by omega)]
      · have e : chunksR l size k (at_ + size) = [] := by
          cases k with
          | zero => rfl
          | succ k => rw [chunksR, if_neg (by omega)]
        rw [e, show l.length - at_ + size - 1 = (l.length - at_ - 1) + size by omega, Nat.add_div_right _ (by omega), Nat.div_eq_of_lt (by omega)]; rfl
    · rw [show l.length - at_ = 0 by omega, Nat.div_eq_of_lt (by omega)]; rfl
theorem blocks_len : ∀ (cs : List (List Int)) (n : Nat), (blocksR n cs).length = cs.length := by
  intro cs
  induction cs with
  | nil => intro n; rfl
  | cons p t ih => intro n; rw [blocksR, List.length_cons, ih, List.length_cons]

theorem pieceS_pos {p : List Int} (h1 : 1 ≤ p.length) (h2 : p.length ≤ 4096) : 1 ≤ (pieceS p).length := by
  unfold pieceS
  split
  · exact h1
  · have h := pack_unpack p h2
    cases e : (packS p).1 with
    | nil =>
      rw [e] at h
      have h0 : unpackS [] p.length = ([], 41) := by
        unfold unpackS
        rw [if_neg (by omega)]
        simp only [uR, if_true]
        unfold fin
        rw [if_pos (by simp; omega)]
      rw [h0] at h
      have := congrArg Prod.snd h
      have h2 : (41 : Int) = 0 := this
      omega
    | cons a t => simp
theorem sumS_le (l : List Int) : sumS l ≤ 4294967295 := by unfold sumS; omega
theorem blocks_valid (l : List Int) (size : Nat) (hs1 : 1 ≤ size) (hs2 : size ≤ 4096) (hby : ∀ x ∈ l, 0 ≤ x ∧ x ≤ 255) : ∀ (k at_ n : Nat), n ≤ at_ → at_ ≤ 100000 → l.length ≤ at_ + k → l.length ≤ 70000 →
    validR size (blocksR n (chunksR l size k at_)) ((l.length - at_ : Nat) : Int) n = true := by
  intro k
  induction k with
  | zero => intro at_ n h0 _ _ _; rfl
  | succ k ih =>
    intro at_ n h0 h1 h2 h3
    rw [chunksR]
    split
    · rename_i hlt
      have hp : (pieceAt l size at_).length = min size (l.length - at_) := pieceAt_length l size at_
      have hpb : ∀ x ∈ pieceAt l size at_, 0 ≤ x ∧ x ≤ 255 := fun x hx => hby x (List.mem_of_mem_drop (List.mem_of_mem_take hx))
      have hpos := pieceS_pos (p := pieceAt l size at_) (by omega) (by omega)
      have hle := pieceS_length (pieceAt l size at_)
      have hsum := sumS_le (pieceS (pieceAt l size at_))
      rw [blocksR, validR_ok ⟨by simp only [blockS]; omega, by simp only [blockS]; omega, by simp only [blockS]; omega, by simp only [blockS]; omega, by simp only [blockS]; omega, by simp only [blockS], by omega, by omega⟩]
      simp only [blockS]
      have e1 : ((l.length - at_ : Nat) : Int) - min (size : Int) ((l.length - at_ : Nat) : Int) = ((l.length - (at_ + size) : Nat) : Int) := by omega
      rw [e1, ← Int.natCast_add]
      exact ih (at_ + size) _ (by omega) (by omega) (by omega) h3
    · rfl

/-- All that a Pack of a fitting row answers. -/
theorem bpack_fits (l : List Int) (size : Nat) (hs : 16 ≤ size) (hs2 : size ≤ 4096) (hl : l.length ≤ 65536) : bpackS l size = (catS (chunksR l size l.length 0), blocksR 0 (chunksR l size l.length 0), 0) := by
  unfold bpackS
  rw [if_neg (fun h => h ⟨by omega, by omega⟩), if_neg (by omega), Int.toNat_natCast, bpR_eq]
  simp
theorem head_f0 (cs : List (List Int)) : ((blocksR 0 cs).headD z58).f0 = 0 := by cases cs <;> rfl
theorem back_valid (l : List Int) (size : Nat) (hs : 16 ≤ size) (hs2 : size ≤ 4096) (hl : l.length ≤ 65536) (hby : ∀ x ∈ l, 0 ≤ x ∧ x ≤ 255) : validS (blocksR 0 (chunksR l size l.length 0)) l.length size = true := by
  have h1 := chunks_len l size (by omega) l.length 0 (by omega) (by omega)
  rw [Nat.sub_zero] at h1
  unfold validS
  rw [if_neg, head_f0]
  · have := blocks_valid l size (by omega) hs2 hby l.length 0 0 (by omega) (by omega) (by omega) (by omega)
    rw [Nat.sub_zero] at this
    exact this
  · simp only [not_or, Classical.not_not]
    refine ⟨by omega, by omega, ⟨by omega, by omega⟩, ?_⟩
    rw [blocks_len, h1]
    have e : ((l.length : Int) + (size : Int) - 1) = ((l.length + size - 1 : Nat) : Int) := by omega
    rw [e]
    exact Int.natCast_ediv _ _
theorem back_invalid (l : List Int) (size : Nat) (hs : 16 ≤ size) (_hs2 : size ≤ 4096) (_hl : l.length ≤ 65536) : validS (blocksR 0 (chunksR l size l.length 0)) ((l.length : Int) + size) size = false := by
  have h1 := chunks_len l size (by omega) l.length 0 (by omega) (by omega)
  rw [Nat.sub_zero] at h1
  unfold validS
  rw [if_pos]
  refine .inr (.inr (.inr ?_))
  rw [blocks_len, h1]
  have e : ((l.length : Int) + (size : Int) + (size : Int) - 1) = (((l.length + size - 1) + size : Nat) : Int) := by omega
  rw [e, ← Int.natCast_ediv, Nat.add_div_right _ (by omega)]
  omega
theorem cat_len (cs : List (List Int)) : (catS cs).length ≤ cs.flatten.length := by
  induction cs with
  | nil => simp [catS]
  | cons p t ih =>
    have := pieceS_length p
    rw [catS, List.flatten_cons, List.length_append, List.length_append]; omega
theorem back_len (l : List Int) (size : Nat) (hs : 16 ≤ size) : (catS (chunksR l size l.length 0)).length ≤ l.length := by
  have h := cat_len (chunksR l size l.length 0)
  rw [chunks_flat l size (by omega) _ _ (by omega), List.drop_zero] at h
  exact h

theorem cat_append (a b : List (List Int)) : catS (a ++ b) = catS a ++ catS b := by
  induction a with
  | nil => rfl
  | cons p t ih => rw [List.cons_append, catS, catS, ih, List.append_assoc]
theorem blocks_append (a b : List (List Int)) : ∀ n, blocksR n (a ++ b) = blocksR n a ++ blocksR (n + (catS a).length) b := by
  induction a with
  | nil => intro n; rfl
  | cons p t ih =>
    intro n
    rw [List.cons_append, blocksR, blocksR, ih, catS, List.length_append, Nat.add_assoc]; rfl
theorem blocks_get (a : List (List Int)) (p : List Int) (b : List (List Int)) : rd_T58 (blocksR 0 (a ++ p :: b)) (a.length : Int) = blockS (catS a).length p := by
  rw [rd_T58, Int.toNat_natCast, blocks_append, List.getD_eq_getElem?_getD, List.getElem?_append_right (by rw [blocks_len]; exact Nat.le_refl _), blocks_len, Nat.sub_self, blocksR, Nat.zero_add]; rfl
theorem cat_mid (a : List (List Int)) (p : List Int) (b : List (List Int)) : ((catS (a ++ p :: b)).take ((catS a).length + (pieceS p).length)).drop (catS a).length = pieceS p := by
  rw [cat_append, catS, ← List.append_assoc, List.take_left' (by rw [List.length_append]), List.drop_left' rfl]
theorem open_piece {p : List Int} (n : Nat) (h1 : 1 ≤ p.length) (h2 : p.length ≤ 4096) : openS (pieceS p) (blockS n p) = (p, 0) := by
  have hpos := pieceS_pos h1 h2
  have hle := pieceS_length p
  unfold openS
  rw [if_neg]
  · by_cases he : (pieceS p).length = p.length
    · have e : pieceS p = p := by
        unfold pieceS at he ⊢
        split
        · rfl
        · rename_i hn
          rw [if_neg hn] at he
          omega
      rw [if_pos (by simp only [blockS]; omega), e]
    · have e : pieceS p = (packS p).1 := by
        unfold pieceS at he ⊢
        split
        · rename_i hn
          rw [if_pos hn] at he
          exact absurd rfl he
        · rfl
      have h := pack_unpack p h2
      rw [if_neg (by simp only [blockS]; omega), e]
      have hu : unpackS (packS p).1 (blockS n p).f2 = (p, 0) := h
      have h0 : ¬ (unpackS (packS p).1 (blockS n p).f2).2 ≠ 0 := by rw [hu]; simp
      rw [if_neg h0, hu]
  · unfold badB
    simp only [blockS]
    omega
theorem piece_bytes {p : List Int} (hby : ∀ x ∈ p, 0 ≤ x ∧ x ≤ 255) : ∀ x ∈ pieceS p, 0 ≤ x ∧ x ≤ 255 := by
  unfold pieceS
  split
  · exact hby
  · exact packS_bytes p hby
end Go.Proofs.Ytoefligelajfkaa.Block

namespace Go.Proofs.Ytoefligelajfkaa.Block
open Go.RowKit Go.Proofs.YtoefligelajfkaaW.PrintWords Go.Proofs.YtoefligelajfkaaW.PrintLast Go.Proofs.YtoefligelajfkaaW.PrintMore Go.Proofs.Ytoefligelajfkaa.Press Go.Proofs.Ytoefligelajfkaa.OpenK
open Go.Proofs.Ytoefligelajfkaa.PBlockOpens (S58 k58 freightlaw11_turn.f freightlaw11_turn.calls freightlaw11_num.f freightlaw11_num.calls)

/-- The place of the k-th question. -/
theorem turn_f (k n : Nat) (hn : n ≤ 1000000) (hk : k < 2 * n) : ∃ d, d < n ∧ freightlaw11_turn.f (k : Int) (n : Int) = some (d : Int) := by
  unfold freightlaw11_turn.f
  by_cases h : k < n
  · exact ⟨k, h, by rw [if_pos (by omega)]⟩
  · refine ⟨2 * n - 1 - k, by omega, ?_⟩
    rw [if_neg (by omega)]
    congr 1
    have e1 : wrap64 (2 * (n : Int)) = 2 * (n : Int) := by unfold wrap64; omega
    have e2 : wrap64 (2 * (n : Int) - 1) = 2 * (n : Int) - 1 := by unfold wrap64; omega
    rw [e1, e2]
    unfold wrap64
    omega

theorem bpack_len (l : List Int) (size : Int) : (bpackS l size).1.length ≤ l.length ∧ (bpackS l size).2.1.length ≤ l.length + 4096 := by
  by_cases hs : isSize size
  · by_cases hb : l.length > 65536
    · have e : bpackS l size = ([], [], 2) := by unfold bpackS; rw [if_neg (fun h => h hs), if_pos hb]
      rw [e]; simp
    · have hs' := hs
      obtain ⟨h1, h2⟩ := hs'
      obtain ⟨n, rfl⟩ := Int.eq_ofNat_of_zero_le (a := size) (by omega)
      rw [bpack_fits l n (by omega) (by omega) (by omega)]
      refine ⟨back_len l n (by omega), ?_⟩
      simp only []
      rw [blocks_len, chunks_len l n (by omega) _ _ (by omega) (by omega)]
      exact Nat.le_trans (Nat.div_le_self _ _) (by omega)
  · have e : bpackS l size = ([], [], 1) := by unfold bpackS; rw [if_pos hs]
    rw [e]; simp
theorem cells2 {w : World} {g : Nat} {a b : Value} {t : TypeId} (h : w.heap[g]? = some (.cells #[a, b] t (0, 0))) : w.cell? ⟨g, 0, none⟩ = some a ∧ w.cell? ⟨g, 1, none⟩ = some b :=
  ⟨blk_cell h 0, blk_cell h 1⟩
theorem R_kp {W W1 : World} {base gd : Nat} {v v0 : Value} {xs : List Int} (h : Kd.R (Kd.int .u8) 5 W base (fun _ => True) v xs) (hk : Kp W W1 gd v0) (hne : ∀ k, v.ownBlock = some k → k ≠ gd ∧ some k ≠ v0.ownBlock) : Kd.R (Kd.int .u8) 5 W1 base (fun _ => True) v xs :=
  Kd.R_mono (Kd.R_step (Kd.R_tight rfl h) (fun k hk1 hk2 => hk.keep k hk2 (hne k hk1.symm).1 (hne k hk1.symm).2)) (fun _ _ => trivial)
theorem U_kp {W W1 : World} {base gd : Nat} {v v0 : Value} {xs : List S58} (h : k58.R 58 W base (fun _ => True) v xs) (hk : Kp W W1 gd v0) (hne : ∀ k, v.ownBlock = some k → k ≠ gd ∧ some k ≠ v0.ownBlock) : k58.R 58 W1 base (fun _ => True) v xs :=
  Kd.R_mono (Kd.R_step (Kd.R_tight rfl h) (fun k hk1 hk2 => hk.keep k hk2 (hne k hk1.symm).1 (hne k hk1.symm).2)) (fun _ _ => trivial)
theorem desk_reads {w0 : World} {gd g n k : Nat} {W : World} {p : List Int} (h : DInv w0 gd W (.slice (some ⟨g, 0, none⟩) n k) (deskS p n)) (_hn : p.length ≤ n) : Kd.C (Kd.int .u8) W (some ⟨g, 0, none⟩) p.length p := by
  have h1 := Kd.C_take (m := p.length) (Kd.R_reads' h.row).2.2 (by simp [deskS])
  have e : (deskS p n).take p.length = p := by rw [deskS, List.take_left' rfl]
  rw [e] at h1
  exact h1

attribute [local go_sem ↓] Go.wp_at_zero Go.wp_at_succ
set_option maxRecDepth 100000 in
set_option maxHeartbeats 8000000 in
theorem blockPacks_walk (A0 : Option Addr) (c0 : Nat) (l0 : List SAsk) (w : World) (hr0 : kAsk.C w A0 l0.length l0) (_hc0 : l0.length ≤ c0) (hz : l0.length * 32 ≤ 140737488351232) (hg : ∀ x ∈ l0, GoodB x.f0 ∧ (Lit.int .i64 x.f1).wf = true) :
    Calls Try.prog 11 #[.slice A0 l0.length c0] w fun e w' => e = .returned (.bool true) ∧ Below w.heap.size w w' := by
  have HR0 := Aside0.mk hr0
  have HG := Aside0.mk hg
  have hl : l0.length ≤ 140737488355328 := by omega
  clear hr0 hg _hc0 hz
  go_enter Try.func11, Try.ntmps11
  go_wp2
  go_loopg [3, 4] l0.length (fun k v3 v4 w' => ∃ n i : Nat, v3 = .int .i64 n ∧ v4 = .int .i64 i ∧ i + k = l0.length ∧ i ≤ n ∧ n ≤ 200000 ∧ Aside0 (∀ j, j < i → (rd_Ask l0 (j : Int)).f0.length ≤ 200000) ∧ w = w')
  case atStart => exact ⟨0, 0, rfl, rfl, by omega, by omega, by omega, ⟨fun j h => absurd h (by omega)⟩, rfl⟩
  case round =>
    obtain ⟨n, i, rfl, rfl, hik, hin, hn, HL, rfl⟩ := hrel
    cases gk with
    | zero =>
      have hi : i = l0.length := by omega
      subst hi
      have hl2 : l0.length ≤ 200000 := by omega
      have HD0 : Aside0 (DInv w w.heap.size (w.alloc (.cells #[.slice none 0 0] 45)) (.slice none 0 0) []) := ⟨⟨heap_alloc_new w _, Kd.R_nil _ _ _ _ _, (Below.refl _ _).alloc (Nat.le_refl _) _, Nat.le_refl _⟩⟩
      obtain ⟨gd, hgd⟩ : ∃ gd, w.heap.size = gd := ⟨_, rfl⟩
      have HGD := Aside0.mk hgd
      rw [hgd] at HD0
      clear hgd hik hin hn
      go_wp2_with fail
      rw [HGD.out]
      generalize w.alloc (.cells #[.slice none 0 0] 45) = w1 at HD0
      go_loopg [6] (2 * l0.length) (fun k v6 w' => ∃ i : Nat, v6 = .int .i64 i ∧ i + k = 2 * l0.length ∧ Aside0 (∃ (vb : Value) (B : List Int), DInv w gd w' vb B ∧ B.length ≤ 1000000))
      case atStart => exact ⟨0, rfl, by omega, ⟨_, _, HD0.out, by simp⟩⟩
      case round =>
        clear HD0
        obtain ⟨i, rfl, hik, HI⟩ := hrel
        cases gk with
        | zero =>
          have hi : (i : Int) = 2 * (l0.length : Int) := by omega
          have hi2 : decide ((i : Int) < 2 * (l0.length : Int)) = false := by simp; omega
          obtain ⟨vb, B, hD, hB⟩ := HI.out
          have HD := Aside0.mk hD
          clear hD HI
          clear hi
          go_wp2_with (go_at_call 37; refine (known_any _).mono ?_; rintro e w6 ⟨rfl, hB6⟩)
          go_ret
          exact ⟨rfl, below_step HD.out.bel hB6⟩
        | succ k =>
          have hi1 : (i : Int) < 2 * (l0.length : Int) := by omega
          obtain ⟨vb, B, hD, hB⟩ := HI.out
          have HD := Aside0.mk hD
          clear hD HI
          obtain ⟨d, hdl, hdf⟩ := turn_f i l0.length (by omega) (by omega)
          have HDF := Aside0.mk hdf
          have hd1 : (d : Int) < (l0.length : Int) := by omega
          have HDW := Aside0.mk (HD.out.bel)
          obtain ⟨ad, Ap, cp, e, p0, p1, hcp, hCp⟩ := at_Ask (Kd.C_below HR0.out HD.out.bel) (d : Int) (by omega) hd1
          cases e
          have hCp0 : Kd.C (Kd.int .u8) w Ap (rd_Ask l0 (d : Int)).f0.length (rd_Ask l0 (d : Int)).f0 := by
            obtain ⟨ad', Ap', cp', e', p0', -, -, hC'⟩ := at_Ask HR0.out (d : Int) (by omega) hd1
            cases e'
            have := pw_cell_below HD.out.bel p0'
            rw [this] at p0
            injection p0 with p0
            injection p0 with q1 _ _
            rw [← q1]; exact hC'
          simp only [Int.toNat_natCast] at p0 p1
          have hmem : rd_Ask l0 (d : Int) ∈ l0 := by
            rw [rd_Ask, Int.toNat_natCast, List.getD_eq_getElem?_getD, List.getElem?_eq_getElem hdl]; exact List.getElem_mem hdl
          have hgood := (HG.out _ hmem).1.bytes
          have hlen := HL.out d hdl
          obtain ⟨⟨p, x0⟩, hx⟩ : ∃ x, rd_Ask l0 (d : Int) = x := ⟨_, rfl⟩
          rw [hx] at p0 p1 hcp hCp hCp0 hgood hlen
          simp only [] at p0 p1 hcp hCp hCp0 hgood hlen
          clear hx hmem hdf
          go_upto_region 13 with (go_at_call 29; refine (freightlaw11_turn.calls _ _ _ _ HDF.out).mono ?_; rintro e w2 ⟨rfl, hd2⟩; have q0 := pw_cell_below hd2.below p0; have q1 := pw_cell_below hd2.below p1; have HD2 := Aside0.mk (HD.out.step hd2.below))
          obtain ⟨gx, hgx⟩ : ∃ gx, w2.heap.size = gx := ⟨_, rfl⟩
          have HX : Aside0 ((w2.alloc (.cells #[.slice Ap p.length cp, .int .i64 x0] 42)).heap[gx]? = some (.cells #[.slice Ap p.length cp, .int .i64 x0] 42 (0, 0))) := ⟨by rw [← hgx]; exact heap_alloc_new w2 _⟩
          have HD3 := Aside0.mk (HD2.out.step (below_alloc (Below.refl _ _) (.cells #[.slice Ap p.length cp, .int .i64 x0] 42)))
          have HCP := Aside0.mk hCp0
          rw [hgx]
          clear hgx p0 p1 q0 q1 hCp hCp0 HD HD2 HDF HDW hd2
          generalize w2.alloc (.cells #[.slice Ap p.length cp, .int .i64 x0] 42) = W3 at HX HD3
          obtain ⟨y0, y1⟩ := cells2 HX.out
          obtain ⟨⟨want, wbl, f⟩, hwf⟩ : ∃ r, bpackS p x0 = r := ⟨_, rfl⟩
          have HWF := Aside0.mk hwf
          clear hwf
          go_upto_region 14 with (go_at_call 30; refine (rpack_any Ap cp p x0 _ (Kd.C_below HCP.out HD3.out.bel) hgood hcp (by omega)).mono ?_; rw [HWF.out]; rintro e w4 ⟨v4, u4, rfl, hR4, hU4, hB4⟩; obtain ⟨A4, k4, rfl⟩ := Kd.R_slice hR4; obtain ⟨E4, j4, rfl⟩ := Kd.R_slice hU4; have H4 : Aside0 (w4.heap[gx]? = some (.cells #[.slice Ap p.length cp, .int .i64 x0] 42 (0, 0)) ∧ DInv w gd w4 vb B ∧ Kd.R (Kd.int .u8) 5 w4 W3.heap.size (fun _ => True) (.slice A4 want.length k4) want ∧ k58.R 58 w4 W3.heap.size (fun _ => True) (.slice E4 wbl.length j4) wbl) := ⟨blk_below HX.out hB4, HD3.out.step hB4, hR4, hU4⟩; clear hR4 hU4 hB4)
          have hgd3 := blk_lt HD3.out.blk
          have hvb3 := Kd.R_lt HD3.out.row
          clear y0 y1
          obtain ⟨y0, y1⟩ := cells2 H4.out.1
          have HNX : Aside0 (gx ≠ gd ∧ some gx ≠ vb.ownBlock ∧ gx < w4.heap.size) := ⟨fun e => by
            have h1 := H4.out.1
            rw [e, H4.out.2.1.blk] at h1
            injection h1 with h1
            injection h1 with _ h2
            exact absurd h2 (by decide), fun e => ne_block H4.out.2.1.row H4.out.1 (by decide) e.symm, blk_lt H4.out.1⟩
          have HVB3 := Aside0.mk (⟨hgd3, hvb3⟩ : _ ∧ _)
          clear HX hgd3 hvb3
          go_region_held3 (fun w' => w'.cell? ⟨gx, 0, none⟩ = some (.slice Ap p.length cp) ∧ w'.cell? ⟨gx, 1, none⟩ = some (.int .i64 x0)) (go_keep)
            (first
              | (go_at_call 32; refine (desk_lay_any w gd _ vb B Ap cp p (H4.out.2.1.step (below_drew (Below.refl _ _))) HCP.out (by omega) hB).mono ?_; rintro e w5 ⟨g5, k5, n5, rfl, h5a, h5b, hD5, hK5, hA5⟩; have H5 : Aside0 (w5.heap[gx]? = some (.cells #[.slice Ap p.length cp, .int .i64 x0] 42 (0, 0)) ∧ DInv w gd w5 (.slice (some ⟨g5, 0, none⟩) n5 k5) (deskS p n5) ∧ Kd.R (Kd.int .u8) 5 w5 W3.heap.size (fun _ => True) (.slice A4 want.length k4) want ∧ k58.R 58 w5 W3.heap.size (fun _ => True) (.slice E4 wbl.length j4) wbl) := ⟨(hK5.keep gx HNX.out.2.2 HNX.out.1 HNX.out.2.1).trans H4.out.1, hD5, R_kp (Kd.R_drew H4.out.2.2.1) hK5 (fun k hk => ⟨by have := Kd.R_base H4.out.2.2.1 k hk; have := HVB3.out.1; omega, fun e => by have := Kd.R_base H4.out.2.2.1 k hk; have := HVB3.out.2 k e.symm; omega⟩), U_kp (Kd.R_drew H4.out.2.2.2) hK5 (fun k hk => ⟨by have := Kd.R_base H4.out.2.2.2 k hk; have := HVB3.out.1; omega, fun e => by have := Kd.R_base H4.out.2.2.2 k hk; have := HVB3.out.2 k e.symm; omega⟩)⟩; obtain ⟨z0, z1⟩ := cells2 H5.out.1; have hsz5 := hK5.size; clear hD5 hK5)
              | (go_at_call 31; refine (bpack_any (some ⟨g5, 0, none⟩) k5 p x0 _ (desk_reads H5.out.2.1 (by omega)) hgood (by have := (Kd.R_reads' H5.out.2.1.row).2.1; omega) (by omega)).mono ?_; rw [HWF.out]; rintro e w6 ⟨v6, u6, rfl, hR6, hU6, hB6⟩; obtain ⟨A6, k6, rfl⟩ := Kd.R_slice hR6; obtain ⟨E6, j6, rfl⟩ := Kd.R_slice hU6; have H6 : Aside0 (w6.heap[gx]? = some (.cells #[.slice Ap p.length cp, .int .i64 x0] 42 (0, 0)) ∧ DInv w gd w6 (.slice (some ⟨g5, 0, none⟩) n5 k5) (deskS p n5) ∧ Kd.R (Kd.int .u8) 5 w6 W3.heap.size (fun _ => True) (.slice A4 want.length k4) want ∧ Kd.R (Kd.int .u8) 5 w6 w5.heap.size (fun _ => True) (.slice A6 want.length k6) want ∧ k58.R 58 w6 W3.heap.size (fun _ => True) (.slice E4 wbl.length j4) wbl ∧ k58.R 58 w6 w5.heap.size (fun _ => True) (.slice E6 wbl.length j6) wbl) := ⟨blk_below H5.out.1 hB6, H5.out.2.1.step hB6, Kd.R_below H5.out.2.2.1 hB6, hR6, Kd.R_below H5.out.2.2.2 hB6, hU6⟩; obtain ⟨t0, t1⟩ := cells2 H6.out.1; clear hR6 hU6 hB6))
          have hg5 := Kd.R_lt H5.out.2.1.row g5 rfl
          have hgd5 := blk_lt H5.out.2.1.blk
          have hwl : want.length ≤ 140737488355328 := by
            have h1 := (bpack_len p x0).1
            rw [HWF.out] at h1
            simp only [] at h1
            omega
          have hwb : wbl.length ≤ 140737488355328 := by
            have h1 := (bpack_len p x0).2
            rw [HWF.out] at h1
            simp only [] at h1
            omega
          have hdl5 : (deskS p n5).length ≤ 1000000 := by simp [deskS]; omega
          have hfar4 : ∀ k, (Value.slice A4 want.length k4).ownBlock = some k → k ≠ gd ∧ some k ≠ (Value.slice (some ⟨g5, 0, none⟩) n5 k5).ownBlock := fun k hk => ⟨by have := Kd.R_base H4.out.2.2.1 k hk; have := HVB3.out.1; omega, fun e => by
            have h1 := Kd.R_base H4.out.2.2.1 k hk
            simp [Value.ownBlock] at e
            rcases hA5 g5 rfl with h2 | h2
            · have := HVB3.out.2 g5 h2.symm; omega
            · have h3 := Kd.R_lt H4.out.2.2.1 k hk
              have h4 : w4.heap.size ≤ g5 := h2
              omega⟩
          have hfarU : ∀ k, (Value.slice E4 wbl.length j4).ownBlock = some k → k ≠ gd ∧ some k ≠ (Value.slice (some ⟨g5, 0, none⟩) n5 k5).ownBlock := fun k hk => ⟨by have := Kd.R_base H4.out.2.2.2 k hk; have := HVB3.out.1; omega, fun e => by
            have h1 := Kd.R_base H4.out.2.2.2 k hk
            simp [Value.ownBlock] at e
            rcases hA5 g5 rfl with h2 | h2
            · have := HVB3.out.2 g5 h2.symm; omega
            · have h3 := Kd.R_lt H4.out.2.2.2 k hk
              have h4 : w4.heap.size ≤ g5 := h2
              omega⟩
          have HFARU := Aside0.mk hfarU
          have HFAR4 := Aside0.mk hfar4
          clear hfar4 hfarU z0 z1 y0 y1 hA5
          go_wp2_with (first
            | (go_at_call 33; refine (desk_lies_any w gd _ g5 n5 k5 Ap cp p H6.out.2.1 HCP.out (by omega) (by omega)).mono ?_; rintro e w7 ⟨rfl, hd7⟩; have H7 : Aside0 (DInv w gd w7 (.slice (some ⟨g5, 0, none⟩) n5 k5) (deskS p n5) ∧ Kd.R (Kd.int .u8) 5 w7 W3.heap.size (fun _ => True) (.slice A4 want.length k4) want ∧ Kd.R (Kd.int .u8) 5 w7 w5.heap.size (fun _ => True) (.slice A6 want.length k6) want ∧ k58.R 58 w7 W3.heap.size (fun _ => True) (.slice E4 wbl.length j4) wbl ∧ k58.R 58 w7 w5.heap.size (fun _ => True) (.slice E6 wbl.length j6) wbl) := ⟨H6.out.2.1.step hd7.below, Kd.R_below H6.out.2.2.1 hd7.below, Kd.R_below H6.out.2.2.2.1 hd7.below, Kd.R_below H6.out.2.2.2.2.1 hd7.below, Kd.R_below H6.out.2.2.2.2.2 hd7.below⟩; clear hd7)
            | (go_at_call 32; refine (desk_lay_any w gd _ (.slice (some ⟨g5, 0, none⟩) n5 k5) (deskS p n5) none 0 [] H7.out.1 (Kd.C_nil _ _) (by simp) hdl5).mono ?_; rintro e w8 ⟨g8, k8, n8, rfl, h8a, h8b, hD8, hK8, hA8⟩; have H8 : Aside0 (DInv w gd w8 (.slice (some ⟨g8, 0, none⟩) n8 k8) (deskS [] n8) ∧ Kd.R (Kd.int .u8) 5 w8 W3.heap.size (fun _ => True) (.slice A4 want.length k4) want ∧ Kd.R (Kd.int .u8) 5 w8 w5.heap.size (fun _ => True) (.slice A6 want.length k6) want ∧ k58.R 58 w8 W3.heap.size (fun _ => True) (.slice E4 wbl.length j4) wbl ∧ k58.R 58 w8 w5.heap.size (fun _ => True) (.slice E6 wbl.length j6) wbl) := ⟨hD8, R_kp H7.out.2.1 hK8 HFAR4.out, R_kp H7.out.2.2.1 hK8 (fun k hk => ⟨by have := Kd.R_base H7.out.2.2.1 k hk; omega, fun e => by have := Kd.R_base H7.out.2.2.1 k hk; simp [Value.ownBlock] at e; omega⟩), U_kp H7.out.2.2.2.1 hK8 HFARU.out, U_kp H7.out.2.2.2.2 hK8 (fun k hk => ⟨by have := Kd.R_base H7.out.2.2.2.2 k hk; omega, fun e => by have := Kd.R_base H7.out.2.2.2.2 k hk; simp [Value.ownBlock] at e; omega⟩)⟩; clear hD8 hK8 hA8)
            | (go_at_call 34; refine (freightlaw11_num.calls _ _ _ rfl).mono ?_; rintro e w9 ⟨rfl, hd9⟩)
            | (go_at_call 35; refine (bytes_true _ _ _ _ want _ (Kd.R_reads' (Kd.R_below H8.out.2.2.1 hd9.below)).2.2 (Kd.R_reads' (Kd.R_below H8.out.2.1 hd9.below)).2.2 hwl).mono ?_; rintro e w10 ⟨rfl, hd10⟩)
            | (go_at_call 36; refine (rows_true _ _ _ _ wbl _ (Kd.R_reads' (Kd.R_below (Kd.R_below H8.out.2.2.2.2 hd9.below) hd10.below)).2.2 (Kd.R_reads' (Kd.R_below (Kd.R_below H8.out.2.2.2.1 hd9.below) hd10.below)).2.2 hwb).mono ?_; rintro e w11 ⟨rfl, hd11⟩))
          go_roundg k
          case measure => omega
          case rel => exact ⟨i + 1, by go_num, by omega, ⟨_, _, ((H8.out.1.step hd9.below).step hd10.below).step hd11.below, by simp [deskS]; omega⟩⟩
    | succ k =>
      have hi : i < l0.length := by omega
      have hi1 : (i : Int) < (l0.length : Int) := by omega
      obtain ⟨ad, Ap, cp, e, p0, -, -, -⟩ := at_Ask HR0.out (i : Int) (by omega) hi1
      cases e
      simp only [Int.toNat_natCast] at p0
      have hmem : rd_Ask l0 (i : Int) ∈ l0 := by
        rw [rd_Ask, Int.toNat_natCast, List.getD_eq_getElem?_getD, List.getElem?_eq_getElem hi]; exact List.getElem_mem hi
      have hlen := (HG.out _ hmem).1.1
      obtain ⟨m, hm⟩ : ∃ m, (rd_Ask l0 (i : Int)).f0.length = m := ⟨_, rfl⟩
      rw [hm] at p0 hlen
      have HM := Aside0.mk hm
      clear hm hmem
      by_cases hbig : n + m + 1 > 200000
      · have hb1 : (200000 : Int) < (n : Int) + (m : Int) + 1 := by omega
        go_wp2
        go_ret
        exact ⟨rfl, Below.refl _ _⟩
      · have hb1 : decide ((200000 : Int) < (n : Int) + (m : Int) + 1) = false := by simp; omega
        by_cases hbig2 : m > 70000
        · have hb2 : (70000 : Int) < (m : Int) := by omega
          go_wp2
          go_ret
          exact ⟨rfl, Below.refl _ _⟩
        have hb2 : decide ((70000 : Int) < (m : Int)) = false := by simp; omega
        have hb3 : decide (70000 < m) = false := by simp; omega
        go_wp2
        go_roundg k
        case measure => omega
        case rel => exact ⟨n + m + 1, i + 1, by go_num, by go_num, by omega, by omega, by omega, ⟨fun j hj => by
          by_cases hji : j < i
          · exact HL.out j hji
          · have : j = i := by omega
            subst this
            rw [HM.out]; omega⟩, rfl⟩
end Go.Proofs.Ytoefligelajfkaa.Block
