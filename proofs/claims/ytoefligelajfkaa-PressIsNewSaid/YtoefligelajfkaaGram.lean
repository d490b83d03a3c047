import Derived.Test.YtoefligelajfkaaPPressSpoiltx0
import Derived.RegionTactic
import Derived.ChangeAlike
import Derived.Outline
namespace Go.Proofs.Ytoefligelajfkaa.Press
open Go.RowKit Go.Proofs.YtoefligelajfkaaW.PrintWords Go.Proofs.YtoefligelajfkaaW.PrintLast Go.Proofs.YtoefligelajfkaaW.PrintMore

theorem cell_alloc {W : World} {a : Addr} {v : Value} (h : W.cell? a = some v) (o : Obj) : (W.alloc o).cell? a = some v :=
  (World.cell?_alloc_lt _ _ _ (World.block_lt_of_cell? W a h)).trans h

set_option maxHeartbeats 800000 in
theorem gram_any (A0 : Option Addr) (c0 : Nat) (l0 : List Int) (i j1 j2 : Int) (w : World) (hr0 : Kd.C (Kd.int .u8) w A0 l0.length l0)
    (h0i : 0 ≤ i) (hi : i + 3 ≤ l0.length) (hj1 : IntKind.i64.wrap (i + 1) = j1) (hj2 : IntKind.i64.wrap (i + 2) = j2) (hl : l0.length ≤ 140737488355328) :
    Calls Try.prog 51 #[.slice A0 l0.length c0, .int .i64 i] w fun e w' =>
      e = .returned (.agg #[.int .u8 (rd l0 i), .int .u8 (rd l0 j1), .int .u8 (rd l0 j2)]) ∧ Below w.heap.size w w' := by
  have g1 : j1 = i + 1 := hj1.symm.trans (IntWalk.i64_in _ (by omega))
  have g2 : j2 = i + 2 := hj2.symm.trans (IntWalk.i64_in _ (by omega))
  have p0 : 0 ≤ i := h0i
  have q0 : i < l0.length := by omega
  have p1 : 0 ≤ j1 := by omega
  have q1 : j1 < l0.length := by omega
  have p2 : 0 ≤ j2 := by omega
  have q2 : j2 < l0.length := by omega
  clear g1 g2 hi h0i hl
  obtain ⟨ad, e0, h0⟩ := Kd.at_int hr0 i (by omega) (by omega)
  obtain ⟨ad1, e1, h1⟩ := Kd.at_int hr0 j1 (by omega) (by omega)
  obtain ⟨ad2, e2, h2⟩ := Kd.at_int hr0 j2 (by omega) (by omega)
  cases e0; cases e1; cases e2
  have k0 := cell_alloc h0 (.cells #[.int .u8 0, .int .u8 0, .int .u8 0] 81)
  have k1 := cell_alloc h1 (.cells #[.int .u8 0, .int .u8 0, .int .u8 0] 81)
  have k2 := cell_alloc h2 (.cells #[.int .u8 0, .int .u8 0, .int .u8 0] 81)
  clear hr0 h0 h1 h2
  replace p0 := eq_true p0
  replace p1 := eq_true p1
  replace p2 := eq_true p2
  replace q0 := eq_true q0
  replace q1 := eq_true q1
  replace q2 := eq_true q2
  go_enter Try.func51, Try.ntmps51
  go_wp2
  go_region
  all_goals
    go_wp2
    refine bodyPost_ret (v := .agg #[.int .u8 (rd l0 i), .int .u8 (rd l0 j1), .int .u8 (rd l0 j2)]) (by simp [results, Try.results51, go_sem]) rfl ⟨rfl, ?_⟩
    exact ((Below.refl _ _).alloc (Nat.le_refl _) _).drew
end Go.Proofs.Ytoefligelajfkaa.Press
