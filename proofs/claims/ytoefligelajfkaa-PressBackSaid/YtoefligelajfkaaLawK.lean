import Derived.Test.YtoefligelajfkaaAux
import Derived.Test.YtoefligelajfkaaRound
namespace Go.Proofs.Ytoefligelajfkaa.Press
open Go.RowKit Go.Proofs.YtoefligelajfkaaW.PrintWords Go.Proofs.YtoefligelajfkaaW.PrintLast Go.Proofs.YtoefligelajfkaaW.PrintMore

theorem unpack_other (l : List Int) (hb : Bytes l) (h : l.length ≤ 4096) (m : Int) (hm : m ≠ l.length) : unpackS (packS l).1 m = ([], if m < 0 ∨ m > 4096 then 1 else 41) := by
  by_cases hr : m < 0 ∨ m > 4096
  · rw [if_pos hr]; unfold unpackS; rw [if_pos hr]
  · rw [if_neg hr]
    rcases unpackS_ends (packS l).1 l.length (packS_bytes l hb) with ⟨_, _, _, _, _, h6⟩ | ⟨h1, _⟩
    · exact h6 m (by omega) (by omega) hm
    · rw [pack_unpack l h] at h1; exact absurd rfl h1

set_option maxHeartbeats 4000000 in
theorem back_mid (A0 : Option Addr) (c0 : Nat) (l0 p : List Int) (w : World) (HR0 : Aside0 (Kd.C (Kd.int .u8) w A0 l0.length l0)) (hby : ∀ x ∈ l0, 0 ≤ x ∧ x ≤ 255) (hc0 : l0.length ≤ c0)
    (h0 : l0.length ≠ 0) (hl : l0.length ≤ 4095) (HPK : Aside0 (packS l0 = (p, 0))) (hpb : ∀ x ∈ p, 0 ≤ x ∧ x ≤ 255) (hpl : (p.length : Int) ≤ (l0.length : Int) + ((l0.length : Int) + 7) / 8)
    (HU0 : Aside0 (unpackS p (l0.length : Int) = (l0, 0))) (HU1 : Aside0 (unpackS p ((l0.length : Int) - 1) = ([], 41))) (HU2 : Aside0 (unpackS p ((l0.length : Int) + 1) = ([], 41))) :
    Calls Try.prog 6 #[.slice A0 l0.length c0] w fun e w' => e = .returned (.bool true) ∧ Below w.heap.size w w' := by
  have a0 : ((l0.length : Int) == 0) = false := by rw [beq_eq_false_iff_ne]; omega
  have a1 : (l0.length == 0) = false := by rw [beq_eq_false_iff_ne]; omega
  have a2 : ((l0.length : Int) == 4096) = false := by rw [beq_eq_false_iff_ne]; omega
  have a3 : (l0.length == 4096) = false := by rw [beq_eq_false_iff_ne]; omega
  go_enter Try.func6, Try.ntmps6
  go_wp2_with (first
    | (go_at_call 20; refine (pack_any A0 c0 l0 w HR0.out hby (by omega)).mono ?_; rw [HPK.out]; rintro e w1 ⟨v1, rfl, hR1, hB1⟩; obtain ⟨A1, k1, rfl⟩ := Kd.R_slice hR1; have H1 := Aside0.mk (⟨hR1, hB1⟩ : _ ∧ _); clear hR1 hB1)
    | (go_at_call 25; (with_reducible refine (unpack_any A1 k1 p (l0.length : Int) w1 (Kd.R_reads' H1.out.1).2.2 hpb (by omega)).mono ?_); rw [HU0.out]; rintro e w2 ⟨v2, rfl, hR2, hB2⟩; obtain ⟨A2, k2, rfl⟩ := Kd.R_slice hR2; have H2 := Aside0.mk (⟨hR2, hB2, below_step H1.out.2 hB2⟩ : _ ∧ _ ∧ _); clear hR2 hB2)
    | (go_at_call 22; refine (same_true _ _ _ _ l0 _ (Kd.R_reads' H2.out.1).2.2 (Kd.R_reads' H2.out.1).2.1 (Kd.C_below HR0.out H2.out.2.2) hc0).mono ?_; rintro e w3 ⟨rfl, ⟨nd, rfl⟩⟩)
    | (go_at_call 25; (with_reducible refine (unpack_any A1 k1 p ((l0.length : Int) - 1) (w2.drewN nd) (Kd.C_drewN (Kd.C_below (Kd.R_reads' H1.out.1).2.2 H2.out.2.1) nd) hpb (by omega)).mono ?_); rw [HU1.out]; rintro e w4 ⟨v4, rfl, hR4, hB4⟩; obtain ⟨A4, k4, rfl⟩ := Kd.R_slice hR4; have H4 := Aside0.mk (⟨below_step (pw_below_drewN H2.out.2.1 nd) hB4, below_step (pw_below_drewN H2.out.2.2 nd) hB4⟩ : _ ∧ _); clear hR4 hB4)
    | (go_at_call 25; (with_reducible refine (unpack_any A1 k1 p ((l0.length : Int) + 1) w4 (Kd.C_below (Kd.R_reads' H1.out.1).2.2 H4.out.1) hpb (by omega)).mono ?_); rw [HU2.out]; rintro e w5 ⟨v5, rfl, hR5, hB5⟩; obtain ⟨A5, k5, rfl⟩ := Kd.R_slice hR5; have H5 := Aside0.mk (below_step H4.out.2 hB5); clear hR5 hB5)
    | (go_at_call 24; refine (awake_any _).mono ?_; rintro e w7 ⟨rfl, hb7⟩))
  go_ret
  exact ⟨rfl, below_step H5.out hb7⟩

set_option maxHeartbeats 4000000 in
theorem back_nil (A0 : Option Addr) (c0 : Nat) (l0 p : List Int) (w : World) (HR0 : Aside0 (Kd.C (Kd.int .u8) w A0 l0.length l0)) (hby : ∀ x ∈ l0, 0 ≤ x ∧ x ≤ 255) (hc0 : l0.length ≤ c0)
    (h0 : Aside0 (l0.length = 0)) (hl : l0.length ≤ 4095) (HPK : Aside0 (packS l0 = (p, 0))) (hpb : ∀ x ∈ p, 0 ≤ x ∧ x ≤ 255) (hpl : (p.length : Int) ≤ (l0.length : Int) + ((l0.length : Int) + 7) / 8)
    (HU0 : Aside0 (unpackS p (l0.length : Int) = (l0, 0))) (HU1 : Aside0 (unpackS p ((l0.length : Int) - 1) = ([], 1))) (HU2 : Aside0 (unpackS p ((l0.length : Int) + 1) = ([], 41))) :
    Calls Try.prog 6 #[.slice A0 l0.length c0] w fun e w' => e = .returned (.bool true) ∧ Below w.heap.size w w' := by
  have a0 : ((l0.length : Int) == 0) = true := by have := h0.out; rw [beq_iff_eq]; omega
  have a1 : (l0.length == 0) = true := by have := h0.out; rw [beq_iff_eq]; omega
  have a2 : ((l0.length : Int) == 4096) = false := by rw [beq_eq_false_iff_ne]; omega
  have a3 : (l0.length == 4096) = false := by rw [beq_eq_false_iff_ne]; omega
  go_enter Try.func6, Try.ntmps6
  go_wp2_with (first
    | (go_at_call 20; refine (pack_any A0 c0 l0 w HR0.out hby (by omega)).mono ?_; rw [HPK.out]; rintro e w1 ⟨v1, rfl, hR1, hB1⟩; obtain ⟨A1, k1, rfl⟩ := Kd.R_slice hR1; have H1 := Aside0.mk (⟨hR1, hB1⟩ : _ ∧ _); clear hR1 hB1)
    | (go_at_call 25; (with_reducible refine (unpack_any A1 k1 p (l0.length : Int) w1 (Kd.R_reads' H1.out.1).2.2 hpb (by omega)).mono ?_); rw [HU0.out]; rintro e w2 ⟨v2, rfl, hR2, hB2⟩; obtain ⟨A2, k2, rfl⟩ := Kd.R_slice hR2; have H2 := Aside0.mk (⟨hR2, hB2, below_step H1.out.2 hB2⟩ : _ ∧ _ ∧ _); clear hR2 hB2)
    | (go_at_call 22; refine (same_true _ _ _ _ l0 _ (Kd.R_reads' H2.out.1).2.2 (Kd.R_reads' H2.out.1).2.1 (Kd.C_below HR0.out H2.out.2.2) hc0).mono ?_; rintro e w3 ⟨rfl, ⟨nd, rfl⟩⟩)
    | (go_at_call 25; (with_reducible refine (unpack_any A1 k1 p ((l0.length : Int) - 1) (w2.drewN nd) (Kd.C_drewN (Kd.C_below (Kd.R_reads' H1.out.1).2.2 H2.out.2.1) nd) hpb (by omega)).mono ?_); rw [HU1.out]; rintro e w4 ⟨v4, rfl, hR4, hB4⟩; obtain ⟨A4, k4, rfl⟩ := Kd.R_slice hR4; have H4 := Aside0.mk (⟨below_step (pw_below_drewN H2.out.2.1 nd) hB4, below_step (pw_below_drewN H2.out.2.2 nd) hB4⟩ : _ ∧ _); clear hR4 hB4)
    | (go_at_call 25; (with_reducible refine (unpack_any A1 k1 p ((l0.length : Int) + 1) w4 (Kd.C_below (Kd.R_reads' H1.out.1).2.2 H4.out.1) hpb (by omega)).mono ?_); rw [HU2.out]; rintro e w5 ⟨v5, rfl, hR5, hB5⟩; obtain ⟨A5, k5, rfl⟩ := Kd.R_slice hR5; have H5 := Aside0.mk (below_step H4.out.2 hB5); clear hR5 hB5)
    | (go_at_call 24; refine (awake_any _).mono ?_; rintro e w7 ⟨rfl, hb7⟩))
  go_ret
  exact ⟨rfl, below_step H5.out hb7⟩

set_option maxHeartbeats 4000000 in
theorem back_top (A0 : Option Addr) (c0 : Nat) (l0 p : List Int) (w : World) (HR0 : Aside0 (Kd.C (Kd.int .u8) w A0 l0.length l0)) (hby : ∀ x ∈ l0, 0 ≤ x ∧ x ≤ 255) (hc0 : l0.length ≤ c0)
    (h0 : Aside0 (l0.length = 4096)) (hl : l0.length ≤ 4096) (hl2 : 1 ≤ l0.length) (HPK : Aside0 (packS l0 = (p, 0))) (hpb : ∀ x ∈ p, 0 ≤ x ∧ x ≤ 255) (hpl : (p.length : Int) ≤ (l0.length : Int) + ((l0.length : Int) + 7) / 8)
    (HU0 : Aside0 (unpackS p (l0.length : Int) = (l0, 0))) (HU1 : Aside0 (unpackS p ((l0.length : Int) - 1) = ([], 41))) (HU2 : Aside0 (unpackS p ((l0.length : Int) + 1) = ([], 1))) :
    Calls Try.prog 6 #[.slice A0 l0.length c0] w fun e w' => e = .returned (.bool true) ∧ Below w.heap.size w w' := by
  have a0 : ((l0.length : Int) == 0) = false := by rw [beq_eq_false_iff_ne]; omega
  have a1 : (l0.length == 0) = false := by rw [beq_eq_false_iff_ne]; omega
  have a2 : ((l0.length : Int) == 4096) = true := by have := h0.out; rw [beq_iff_eq]; omega
  have a3 : (l0.length == 4096) = true := by have := h0.out; rw [beq_iff_eq]; omega
  go_enter Try.func6, Try.ntmps6
  go_wp2_with (first
    | (go_at_call 20; refine (pack_any A0 c0 l0 w HR0.out hby (by omega)).mono ?_; rw [HPK.out]; rintro e w1 ⟨v1, rfl, hR1, hB1⟩; obtain ⟨A1, k1, rfl⟩ := Kd.R_slice hR1; have H1 := Aside0.mk (⟨hR1, hB1⟩ : _ ∧ _); clear hR1 hB1)
    | (go_at_call 25; (with_reducible refine (unpack_any A1 k1 p (l0.length : Int) w1 (Kd.R_reads' H1.out.1).2.2 hpb (by omega)).mono ?_); rw [HU0.out]; rintro e w2 ⟨v2, rfl, hR2, hB2⟩; obtain ⟨A2, k2, rfl⟩ := Kd.R_slice hR2; have H2 := Aside0.mk (⟨hR2, hB2, below_step H1.out.2 hB2⟩ : _ ∧ _ ∧ _); clear hR2 hB2)
    | (go_at_call 22; refine (same_true _ _ _ _ l0 _ (Kd.R_reads' H2.out.1).2.2 (Kd.R_reads' H2.out.1).2.1 (Kd.C_below HR0.out H2.out.2.2) hc0).mono ?_; rintro e w3 ⟨rfl, ⟨nd, rfl⟩⟩)
    | (go_at_call 25; (with_reducible refine (unpack_any A1 k1 p ((l0.length : Int) - 1) (w2.drewN nd) (Kd.C_drewN (Kd.C_below (Kd.R_reads' H1.out.1).2.2 H2.out.2.1) nd) hpb (by omega)).mono ?_); rw [HU1.out]; rintro e w4 ⟨v4, rfl, hR4, hB4⟩; obtain ⟨A4, k4, rfl⟩ := Kd.R_slice hR4; have H4 := Aside0.mk (⟨below_step (pw_below_drewN H2.out.2.1 nd) hB4, below_step (pw_below_drewN H2.out.2.2 nd) hB4⟩ : _ ∧ _); clear hR4 hB4)
    | (go_at_call 25; (with_reducible refine (unpack_any A1 k1 p ((l0.length : Int) + 1) w4 (Kd.C_below (Kd.R_reads' H1.out.1).2.2 H4.out.1) hpb (by omega)).mono ?_); rw [HU2.out]; rintro e w5 ⟨v5, rfl, hR5, hB5⟩; obtain ⟨A5, k5, rfl⟩ := Kd.R_slice hR5; have H5 := Aside0.mk (below_step H4.out.2 hB5); clear hR5 hB5)
    | (go_at_call 24; refine (awake_any _).mono ?_; rintro e w7 ⟨rfl, hb7⟩))
  go_ret
  exact ⟨rfl, below_step H5.out hb7⟩

set_option maxHeartbeats 4000000 in
theorem pressBack_walk (A0 : Option Addr) (c0 : Nat) (l0 : List Int) (w : World) (hr0 : Kd.C (Kd.int .u8) w A0 l0.length l0) (hby : ∀ x ∈ l0, 0 ≤ x ∧ x ≤ 255) (hc0 : l0.length ≤ c0)
    (hl : l0.length ≤ 140737488351232) :
    Calls Try.prog 6 #[.slice A0 l0.length c0] w fun e w' => e = .returned (.bool true) ∧ Below w.heap.size w w' := by
  have HR0 := Aside0.mk hr0
  clear hr0
  by_cases hb : l0.length ≤ 4096
  · obtain ⟨p, hp⟩ : ∃ p, (packS l0).1 = p := ⟨_, rfl⟩
    have hpk : packS l0 = (p, 0) := by rw [← hp]; unfold packS; rw [if_neg (by omega)]
    have hpb : ∀ x ∈ p, 0 ≤ x ∧ x ≤ 255 := by rw [← hp]; exact packS_bytes l0 hby
    have hpl : (p.length : Int) ≤ (l0.length : Int) + ((l0.length : Int) + 7) / 8 := by have := packS_length l0 hby; rw [hp] at this; omega
    have hu0 := pack_unpack l0 hb
    have hu1 := unpack_other l0 hby hb ((l0.length : Int) - 1) (by omega)
    have hu2 := unpack_other l0 hby hb ((l0.length : Int) + 1) (by omega)
    rw [hp] at hu0 hu1 hu2
    by_cases h0 : l0.length = 0
    · rw [if_pos (by omega)] at hu1
      rw [if_neg (by omega)] at hu2
      exact back_nil A0 c0 l0 p w HR0 hby hc0 ⟨h0⟩ (by omega) ⟨hpk⟩ hpb hpl ⟨hu0⟩ ⟨hu1⟩ ⟨hu2⟩
    · by_cases h4 : l0.length = 4096
      · rw [if_neg (by omega)] at hu1
        rw [if_pos (by omega)] at hu2
        exact back_top A0 c0 l0 p w HR0 hby hc0 ⟨h4⟩ hb (by omega) ⟨hpk⟩ hpb hpl ⟨hu0⟩ ⟨hu1⟩ ⟨hu2⟩
      · rw [if_neg (by omega)] at hu1
        rw [if_neg (by omega)] at hu2
        exact back_mid A0 c0 l0 p w HR0 hby hc0 h0 (by omega) ⟨hpk⟩ hpb hpl ⟨hu0⟩ ⟨hu1⟩ ⟨hu2⟩
  · have HPK : Aside0 (packS l0 = ([], 2)) := ⟨by unfold packS; rw [if_pos (by omega)]⟩
    have h1 : (4096 : Int) < (l0.length : Int) := by omega
    go_enter Try.func6, Try.ntmps6
    go_wp2_with (first
      | (go_at_call 20; refine (pack_any A0 c0 l0 w HR0.out hby (by omega)).mono ?_; rw [HPK.out]; rintro e w1 ⟨v1, rfl, hR1, hB1⟩; obtain ⟨A1, k1, rfl⟩ := Kd.R_slice hR1; have H1 := Aside0.mk (⟨hR1, hB1⟩ : _ ∧ _); clear hR1 hB1)
      | (go_at_call 24; refine (awake_any _).mono ?_; rintro e w7 ⟨rfl, hb7⟩))
    go_ret
    exact ⟨rfl, below_step H1.out.2 hb7⟩
end Go.Proofs.Ytoefligelajfkaa.Press
