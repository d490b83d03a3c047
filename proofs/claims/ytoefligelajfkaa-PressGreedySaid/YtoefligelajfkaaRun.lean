import Derived.Test.YtoefligelajfkaaGreedy
import Derived.Test.YtoefligelajfkaaAux
import Derived.BigQuiet
namespace Go.Proofs.Ytoefligelajfkaa.Press
open Go.RowKit Go.Proofs.YtoefligelajfkaaW.PrintWords Go.Proofs.YtoefligelajfkaaW.PrintLast Go.Proofs.YtoefligelajfkaaW.PrintMore

set_option maxHeartbeats 2000000 in
/-- The law's own run. -/
theorem run_any (A0 : Option Addr) (c0 : Nat) (l0 : List Int) (p d : Nat) (w : World) (hr0 : Kd.C (Kd.int .u8) w A0 l0.length l0) (hl : l0.length ≤ 4096) (hp : p ≤ l0.length) (hd : d ≤ p) :
    Calls Try.prog 27 #[.slice A0 l0.length c0, .int .i64 p, .int .i64 d] w fun e w' => e = .returned (.int .i64 (al l0 p d)) ∧ Below w.heap.size w w' := by
  obtain ⟨most, hm⟩ : ∃ most : Nat, most = min 66 (l0.length - p) := ⟨_, rfl⟩
  obtain ⟨rs, hrs⟩ : ∃ rs : Nat, al l0 p d = rs := ⟨_, rfl⟩
  have hgs : Aside0 (grow l0 (p - d) p most most 0 = rs) := ⟨by rw [hm]; exact hrs⟩
  rw [hrs]
  have hmo1 : most ≤ 66 := by omega
  have hmo2 : p + most ≤ l0.length := by omega
  have HM := Aside0.mk hm
  have HR0 := Aside0.mk hr0
  clear hr0 hrs hm
  go_enter Try.func27, Try.ntmps27
  go_wp2
  go_loopg [7] most (fun k v7 w' => ∃ n : Nat, v7 = .int .i64 n ∧ n + k = most ∧ Aside0 (grow l0 (p - d) p most k n = rs) ∧ Aside0 (Below w.heap.size w w'))
  case atStart => exact ⟨0, rfl, by omega, hgs, ⟨Below.refl _ _⟩⟩
  case round =>
    clear hgs
    obtain ⟨n, rfl, hnk, HGR, HB⟩ := hrel
    cases gk with
    | zero =>
      have hgr := HGR.out
      simp only [grow] at hgr
      subst hgr
      by_cases h66 : n < 66
      · have h1 : (n : Int) < 66 := by omega
        have h2 : decide (n < 66) = true := by simp; omega
        obtain ⟨j, hj⟩ : ∃ j : Nat, j = p + n := ⟨_, rfl⟩
        have hs : (p : Int) + (n : Int) = (j : Int) := by omega
        have hjl : j = l0.length := by have := HM.out; omega
        have hjb : decide (l0.length < l0.length) = false := by simp
        subst hjl
        clear hj h66
        go_wp2
        go_quiet (fail)
        go_wp2
        go_ret
        exact ⟨rfl, pw_below_drewN HB.out _⟩
      · have h1 : (66 : Int) ≤ (n : Int) := by omega
        have h2 : decide (n < 66) = false := by simp; omega
        have h3 : decide ((n : Int) < 66) = false := by simp; omega
        clear h66
        go_wp2
        go_quiet (fail)
        go_wp2
        go_ret
        exact ⟨rfl, pw_below_drewN HB.out _⟩
    | succ k =>
      have h1 : (n : Int) < 66 := by omega
      have h2 : decide (n < 66) = true := by simp; omega
      obtain ⟨j2, hj2⟩ : ∃ j2 : Nat, j2 = p + n := ⟨_, rfl⟩
      obtain ⟨j1, hj1⟩ : ∃ j1 : Nat, j1 = p - d + n := ⟨_, rfl⟩
      obtain ⟨ad1, e1, hx1⟩ := Kd.at_int (Kd.C_below HR0.out HB.out) (j1 : Int) (by omega) (by omega)
      cases e1
      obtain ⟨ad2, e2, hx2⟩ := Kd.at_int (Kd.C_below HR0.out HB.out) (j2 : Int) (by omega) (by omega)
      cases e2
      simp only [Int.toNat_natCast] at hx1 hx2
      have hs2 : (p : Int) + (n : Int) = (j2 : Int) := by omega
      have hs1 : (j2 : Int) - (d : Int) = (j1 : Int) := by omega
      have hw2 : IntKind.i64.wrap ((p : Int) + (n : Int)) = (j2 : Int) := by rw [hs2]; exact IntWalk.i64_in _ (by omega)
      have hw1 : IntKind.i64.wrap ((j2 : Int) - (d : Int)) = (j1 : Int) := by rw [hs1]; exact IntWalk.i64_in _ (by omega)
      have hb1 : j1 < l0.length := by omega
      have hb2 : j2 < l0.length := by omega
      have hb3 : (j1 : Int) < (l0.length : Int) := by omega
      have hb4 : (j2 : Int) < (l0.length : Int) := by omega
      have hb5 : decide (j2 < l0.length) = true := by simp; omega
      have hgr := HGR.out
      rw [grow_succ, ← hj1, ← hj2, ← rd_nat, ← rd_nat] at hgr
      have hnm : n < most := by omega
      clear hj1 hj2 HGR
      by_cases heq : rd l0 (j1 : Int) = rd l0 (j2 : Int)
      · rw [if_pos ⟨hnm, heq⟩] at hgr
        have heq' : (rd l0 (j2 : Int) == rd l0 (j1 : Int)) = true := by rw [heq]; simp
        have HGR2 := Aside0.mk hgr
        clear hgr heq
        go_wp2
        go_quiet (fail)
        go_wp2
        go_roundg k
        case measure => omega
        case rel => exact ⟨n + 1, by go_num, by omega, HGR2, ⟨pw_below_drewN HB.out _⟩⟩
      · rw [if_neg (fun h => heq h.2)] at hgr
        have heq' : (rd l0 (j2 : Int) == rd l0 (j1 : Int)) = false := by simp only [beq_eq_false_iff_ne]; exact fun e => heq e.symm
        subst hgr
        clear heq
        go_wp2
        go_quiet (fail)
        go_wp2
        go_ret
        exact ⟨rfl, pw_below_drewN HB.out _⟩
end Go.Proofs.Ytoefligelajfkaa.Press
