import Derived.Test.YtoefligelajfkaaAux
import Derived.Test.YtoefligelajfkaaUnLaw
namespace Go.Proofs.Ytoefligelajfkaa.Press
open Go.RowKit Go.Proofs.YtoefligelajfkaaW.PrintWords Go.Proofs.YtoefligelajfkaaW.PrintLast Go.Proofs.YtoefligelajfkaaW.PrintMore

set_option maxHeartbeats 4000000 in
theorem pressBounded_walk (A0 : Option Addr) (c0 : Nat) (l0 : List Int) (n : Int) (w : World) (hr0 : Kd.C (Kd.int .u8) w A0 l0.length l0) (hby : ∀ x ∈ l0, 0 ≤ x ∧ x ≤ 255) (_hc0 : l0.length ≤ c0)
    (hl : l0.length ≤ 140737488351232) (_hn : -9223372036854775808 ≤ n ∧ n ≤ 9223372036854775807) :
    Calls Try.prog 8 #[.slice A0 l0.length c0, .int .i64 n] w fun e w' => e = .returned (.bool true) ∧ Below w.heap.size w w' := by
  have HR0 := Aside0.mk hr0
  clear hr0
  rcases unpackS_ends l0 n hby with ⟨h1, h2, h3, h4, h5, h6⟩ | ⟨h1, h2⟩
  · obtain ⟨u, hu⟩ : ∃ u, unpackS l0 n = (u, 0) := ⟨_, by rw [← h1]⟩
    rw [hu] at h4 h5
    obtain rfl : n = (u.length : Int) := h4.symm
    obtain ⟨c, hc, hu2⟩ : ∃ c, c ≠ 0 ∧ unpackS l0 ((u.length : Int) + 1) = ([], c) := by
      by_cases hb : (u.length : Int) + 1 ≤ 4096
      · exact ⟨41, by decide, h6 _ (by omega) hb (by omega)⟩
      · refine ⟨1, by decide, ?_⟩
        unfold unpackS
        rw [if_pos (by omega)]
    have hb1 : u.length ≤ 4096 := by omega
    have hb2 : u.length ≤ 33 * l0.length := h5
    have hb3 : (u.length : Int) ≤ 33 * (l0.length : Int) := by omega
    have hcb : (c != 0) = true := by simpa using hc
    have HU := Aside0.mk hu
    have HU2 := Aside0.mk hu2
    clear h1 h2 h3 h4 h5 h6 hu hu2 hc
    go_enter Try.func8, Try.ntmps8
    go_wp2_with (first
      | (go_at_call 25; (with_reducible refine (unpack_any A0 c0 l0 (u.length : Int) w HR0.out hby (by omega)).mono ?_); rw [HU.out]; rintro e w2 ⟨v2, rfl, hR2, hB2⟩; obtain ⟨A2, k2, rfl⟩ := Kd.R_slice hR2; have HB2 := Aside0.mk hB2; clear hR2 hB2)
      | (go_at_call 25; (with_reducible refine (unpack_any A0 c0 l0 ((u.length : Int) + 1) w2 (Kd.C_below HR0.out HB2.out) hby (by omega)).mono ?_); rw [HU2.out]; rintro e w3 ⟨v3, rfl, hR3, hB3⟩; have HB3 := Aside0.mk (below_step HB2.out hB3); clear hR3 hB3)
      | (go_at_call 24; refine (awake_any _).mono ?_; rintro e w4 ⟨rfl, hb4⟩))
    go_ret
    exact ⟨rfl, below_step HB3.out hb4⟩
  · obtain ⟨c, hu⟩ : ∃ c, unpackS l0 n = ([], c) := ⟨_, by rw [← h2]⟩
    rw [hu] at h1
    have hcb : (c != 0) = true := by simpa using h1
    have HU := Aside0.mk hu
    clear h1 h2 hu
    go_enter Try.func8, Try.ntmps8
    go_wp2_with (first
      | (go_at_call 25; (with_reducible refine (unpack_any A0 c0 l0 n w HR0.out hby (by omega)).mono ?_); rw [HU.out]; rintro e w2 ⟨v2, rfl, hR2, hB2⟩; obtain ⟨A2, k2, rfl⟩ := Kd.R_slice hR2; have HB2 := Aside0.mk hB2; clear hR2 hB2)
      | (go_at_call 24; refine (awake_any _).mono ?_; rintro e w4 ⟨rfl, hb4⟩))
    go_ret
    exact ⟨rfl, below_step HB2.out hb4⟩
end Go.Proofs.Ytoefligelajfkaa.Press
