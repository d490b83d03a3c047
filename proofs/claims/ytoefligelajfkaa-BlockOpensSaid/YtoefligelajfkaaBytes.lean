import Derived.Test.YtoefligelajfkaaChunks
import Derived.Test.YtoefligelajfkaaKnown
namespace Go.Proofs.Ytoefligelajfkaa.Block
open Go.RowKit Go.Proofs.YtoefligelajfkaaW.PrintWords Go.Proofs.YtoefligelajfkaaW.PrintLast Go.Proofs.YtoefligelajfkaaW.PrintMore Go.Proofs.Ytoefligelajfkaa.Press
open Go.Proofs.Ytoefligelajfkaa.PBlockOpens (S58 k58 z58 k58_open k58_mk k58_mkM k58_openM rd_T58 at_T58)

set_option maxHeartbeats 1000000 in
theorem bytes_true (A0 : Option Addr) (c0 : Nat) (A1 : Option Addr) (c1 : Nat) (l : List Int) (w : World) (h0 : Kd.C (Kd.int .u8) w A0 l.length l) (h1 : Kd.C (Kd.int .u8) w A1 l.length l) (hl : l.length ≤ 140737488355328) :
    Calls Try.prog 35 #[.slice A0 l.length c0, .slice A1 l.length c1] w fun e w' => e = .returned (.bool true) ∧ Drawn0 w w' := by
  have H0 := Aside0.mk h0
  have H1 := Aside0.mk h1
  clear h0 h1
  go_enter Try.func35, Try.ntmps35
  go_wp2
  go_loopg [5] l.length (fun k v5 w' => ∃ i : Nat, v5 = .int .i64 i ∧ i + k = l.length ∧ Aside0 (Drawn0 w w'))
  case atStart => exact ⟨0, rfl, by omega, ⟨Drawn0.refl _⟩⟩
  case round =>
    obtain ⟨i, rfl, hik, HD⟩ := hrel
    cases gk with
    | zero =>
      have hi : i = l.length := by omega
      subst hi
      go_wp2
      go_ret
      exact ⟨rfl, HD.out⟩
    | succ k =>
      have hi : i < l.length := by omega
      have hi1 : (i : Int) < (l.length : Int) := by omega
      obtain ⟨ad, e0, hx⟩ := Kd.at_int (Kd.C_below H0.out HD.out.below) (i : Int) (by omega) (by omega)
      cases e0
      obtain ⟨ad1, e1, hy⟩ := Kd.at_int (Kd.C_below H1.out HD.out.below) (i : Int) (by omega) (by omega)
      cases e1
      simp only [Int.toNat_natCast] at hx hy
      generalize rd l (i : Int) = x at hx hy
      go_wp2
      go_quiet (fail)
      go_wp2
      go_roundg k
      case measure => omega
      case rel => exact ⟨i + 1, by go_num, by omega, ⟨HD.out.step _⟩⟩

theorem fits_true (A0 : Option Addr) (c0 n : Nat) (size : Int) (w : World) (h0 : n ≤ 65536) (h1 : 16 ≤ size) (h2 : size ≤ 4096) :
    Calls Try.prog 44 #[.slice A0 n c0, .int .i64 size] w fun e w' => e = .returned (.bool true) ∧ w = w' := by
  have g0 : (n : Int) ≤ 65536 := by omega
  go_enter Try.func44, Try.ntmps44
  go_wp2
  go_ret
  exact ⟨rfl, rfl⟩
theorem fits_false (A0 : Option Addr) (c0 n : Nat) (size : Int) (w : World) (h : ¬ (n ≤ 65536 ∧ 16 ≤ size ∧ size ≤ 4096)) :
    Calls Try.prog 44 #[.slice A0 n c0, .int .i64 size] w fun e w' => e = .returned (.bool false) ∧ w = w' := by
  by_cases h0 : n ≤ 65536
  · have g0 : decide ((n : Int) ≤ 65536) = true := by simp; omega
    by_cases h1 : 16 ≤ size
    · have g2 : decide (size ≤ 4096) = false := by simp; omega
      clear h
      go_enter Try.func44, Try.ntmps44
      go_wp2
      go_ret
      exact ⟨rfl, rfl⟩
    · have g1 : decide (16 ≤ size) = false := by simp; omega
      clear h
      go_enter Try.func44, Try.ntmps44
      go_wp2
      go_ret
      exact ⟨rfl, rfl⟩
  · have g0 : decide ((n : Int) ≤ 65536) = false := by simp; omega
    clear h
    go_enter Try.func44, Try.ntmps44
    go_wp2
    go_ret
    exact ⟨rfl, rfl⟩
end Go.Proofs.Ytoefligelajfkaa.Block
