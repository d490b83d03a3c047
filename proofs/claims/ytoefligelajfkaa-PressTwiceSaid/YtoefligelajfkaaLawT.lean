import Derived.Test.YtoefligelajfkaaAux
import Derived.Test.YtoefligelajfkaaLawU
namespace Go.Proofs.Ytoefligelajfkaa.Press
open Go.RowKit Go.Proofs.YtoefligelajfkaaW.PrintWords Go.Proofs.YtoefligelajfkaaW.PrintLast Go.Proofs.YtoefligelajfkaaW.PrintMore

set_option maxHeartbeats 4000000 in
theorem pressTwice_walk (A0 : Option Addr) (c0 : Nat) (l0 : List Int) (A1 : Option Addr) (c1 : Nat) (l1 : List Int) (w : World) (hr0 : Kd.C (Kd.int .u8) w A0 l0.length l0) (hby : ∀ x ∈ l0, 0 ≤ x ∧ x ≤ 255) (_hc0 : l0.length ≤ c0)
    (hl : l0.length ≤ 140737488351232) (hr1 : Kd.C (Kd.int .u8) w A1 l1.length l1) (hby1 : ∀ x ∈ l1, 0 ≤ x ∧ x ≤ 255) (_hc1 : l1.length ≤ c1) (hl1 : l1.length ≤ 140737488351232) :
    Calls Try.prog 9 #[.slice A0 l0.length c0, .slice A1 l1.length c1] w fun e w' => e = .returned (.bool true) ∧ Below w.heap.size w w' := by
  have HR0 := Aside0.mk hr0
  have HR1 := Aside0.mk hr1
  clear hr0 hr1
  obtain ⟨pk, hpk⟩ : ∃ pk, packS l0 = pk := ⟨_, rfl⟩
  have HPK := Aside0.mk hpk
  obtain ⟨M, hM⟩ : ∃ M, M = l0.length + 9 := ⟨_, rfl⟩
  have HM := Aside0.mk hM
  clear hpk hM
  go_enter Try.func9, Try.ntmps9
  go_wp2_with (first
    | (go_at_call 20; (with_reducible refine (pack_any A0 c0 l0 w HR0.out hby (by omega)).mono ?_); rw [HPK.out]; rintro e w1 ⟨v1, rfl, hR1, hB1⟩; obtain ⟨A2, k2, rfl⟩ := Kd.R_slice hR1; have H1 := Aside0.mk (⟨hR1, hB1⟩ : _ ∧ _); clear hR1 hB1)
    | (go_at_call 20; (with_reducible refine (pack_any A1 c1 l1 w1 (Kd.C_below HR1.out H1.out.2) hby1 (by omega)).mono ?_); rintro e w2 ⟨v2, rfl, hR2, hB2⟩; have H2 := Aside0.mk (⟨hB2, below_step H1.out.2 hB2⟩ : _ ∧ _); clear hR2 hB2)
    | (go_at_call 25; (with_reducible refine (unpack_any A1 c1 l1 (l0.length : Int) w2 (Kd.C_below HR1.out H2.out.2) hby1 (by omega)).mono ?_); rintro e w3 ⟨v3, rfl, hR3, hB3⟩; have H3 := Aside0.mk (⟨below_step H2.out.1 hB3, below_step H2.out.2 hB3⟩ : _ ∧ _); clear hR3 hB3)
    | (go_at_call 19; refine (roomy_any _ _ _ _ (Kd.C_below HR0.out H3.out.2) (by omega)).mono ?_; rintro e w4 ⟨g, rfl, hR4, hB4⟩; rw [← HM.out] at hR4; rw [← HM.out]; have H4 := Aside0.mk (⟨hR4, below_step H3.out.1 hB4, below_step H3.out.2 hB4⟩ : _ ∧ _ ∧ _); clear hR4 hB4)
    | (go_at_call 20; (with_reducible refine (pack_any _ M l0 w4 (room_given H4.out.1) hby (by omega)).mono ?_); rw [HPK.out]; rintro e w5 ⟨v5, rfl, hR5, hB5⟩; obtain ⟨A3, k3, rfl⟩ := Kd.R_slice hR5; have H5 := Aside0.mk (⟨hR5, below_step H4.out.2.1 hB5, below_step H4.out.2.2 hB5⟩ : _ ∧ _ ∧ _); clear hR5 hB5)
    | (go_at_call 22; (with_reducible refine (same_true _ _ _ _ pk.1 _ (Kd.C_below (Kd.R_reads' H1.out.1).2.2 H5.out.2.1) (Kd.R_reads' H1.out.1).2.1 (Kd.R_reads' H5.out.1).2.2 (Kd.R_reads' H5.out.1).2.1).mono ?_); rintro e w6 ⟨rfl, ⟨nd, rfl⟩⟩)
    | (go_at_call 24; refine (awake_any _).mono ?_; rintro e w7 ⟨rfl, hb7⟩))
  go_ret
  exact ⟨rfl, below_step (pw_below_drewN H5.out.2.2 _) hb7⟩
end Go.Proofs.Ytoefligelajfkaa.Press
