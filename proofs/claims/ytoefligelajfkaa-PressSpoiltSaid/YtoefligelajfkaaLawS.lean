import Derived.Test.YtoefligelajfkaaRefPack
import Derived.Test.YtoefligelajfkaaLawU
namespace Go.Proofs.Ytoefligelajfkaa.Press
open Go.RowKit Go.Proofs.YtoefligelajfkaaW.PrintWords Go.Proofs.YtoefligelajfkaaW.PrintLast Go.Proofs.YtoefligelajfkaaW.PrintMore

theorem tm_two (n : Nat) (hn : 0 < n) (a x : Int) (ha : x = a.tmod n + n) : ∃ i : Nat, x.tmod n = (i : Int) ∧ i < n := by
  have h1 := Int.tmod_lt_of_pos a (b := (n : Int)) (by omega)
  have h2 := Int.lt_tmod_of_pos a (b := (n : Int)) (by omega)
  have h3 := Int.tmod_nonneg (n : Int) (a := x) (by omega)
  have h4 := Int.tmod_lt_of_pos x (b := (n : Int)) (by omega)
  exact ⟨(x.tmod n).toNat, by omega, by omega⟩
theorem tm_at (n : Nat) (hn : 0 < n) (hl : n ≤ 6000) (a : Int) : ∃ i : Nat, (wrap64 (a.tmod n + n)).tmod n = (i : Int) ∧ i < n := by
  have h1 := Int.tmod_lt_of_pos a (b := (n : Int)) (by omega)
  have h2 := Int.lt_tmod_of_pos a (b := (n : Int)) (by omega)
  rw [w64 (by omega) (by omega)]
  exact tm_two n hn a _ rfl
theorem tm_cut (n : Nat) (hl : n ≤ 6000) (a : Int) : ∃ i : Nat, (wrap64 (wrap64 (a.tmod ((n : Int) + 1) + n) + 1)).tmod ((n : Int) + 1) = (i : Int) ∧ i ≤ n := by
  have h1 := Int.tmod_lt_of_pos a (b := (n : Int) + 1) (by omega)
  have h2 := Int.lt_tmod_of_pos a (b := (n : Int) + 1) (by omega)
  rw [w64 (x := a.tmod ((n : Int) + 1) + n) (by omega) (by omega), w64 (by omega) (by omega)]
  obtain ⟨i, h3, h4⟩ := tm_two (n + 1) (by omega) a (a.tmod ((n : Int) + 1) + n + 1) (by simp; omega)
  exact ⟨i, by rw [← h3]; simp, by omega⟩

set_option maxHeartbeats 4000000 in
theorem pressSpoilt_walk (A0 : Option Addr) (c0 : Nat) (l0 : List Int) (at_ to_ cut off : Int) (w : World) (hr0 : Kd.C (Kd.int .u8) w A0 l0.length l0) (hby : ∀ x ∈ l0, 0 ≤ x ∧ x ≤ 255) (hc0 : l0.length ≤ c0)
    (hl : l0.length ≤ 140737488351232) (_hat : -9223372036854775808 ≤ at_ ∧ at_ ≤ 9223372036854775807) (hto : 0 ≤ to_ ∧ to_ ≤ 255) (_hcut : -9223372036854775808 ≤ cut ∧ cut ≤ 9223372036854775807) (_hoff : -9223372036854775808 ≤ off ∧ off ≤ 9223372036854775807) :
    Calls Try.prog 5 #[.slice A0 l0.length c0, .int .i64 at_, .int .u8 to_, .int .i64 cut, .int .i64 off] w fun e w' => e = .returned (.bool true) ∧ Below w.heap.size w w' := by
  obtain ⟨p, f, hpk⟩ : ∃ p f, packS l0 = (p, f) := ⟨_, _, rfl⟩
  have HPK := Aside0.mk hpk
  have HR0 := Aside0.mk hr0
  clear hr0
  by_cases h0 : p.length = 0
  · have h01 : ((p.length : Int) == 0) = true := by rw [beq_iff_eq]; omega
    have h02 : (p.length == 0) = true := by rw [beq_iff_eq]; omega
    clear hpk
    go_enter Try.func5, Try.ntmps5
    go_wp2_with (first
      | (go_at_call 21; refine (ref_pack_any _ _ _ _ HR0.out hc0 (by omega)).mono ?_; rw [HPK.out]; rintro e w3 ⟨v3, rfl, hR3, hB3⟩; obtain ⟨A3, k3, rfl⟩ := Kd.R_slice hR3; have H3 := Aside0.mk (⟨hR3, hB3⟩ : _ ∧ _); clear hR3 hB3)
      | (go_at_call 24; refine (awake_any _).mono ?_; rintro e w7 ⟨rfl, hb7⟩))
    go_ret
    exact ⟨rfl, below_step H3.out.2 hb7⟩
  · have h01 : ((p.length : Int) == 0) = false := by rw [beq_eq_false_iff_ne]; omega
    have h02 : (p.length == 0) = false := by rw [beq_eq_false_iff_ne]; omega
    have hpl : p.length ≤ 5000 := by
      by_cases hb : l0.length ≤ 4096
      · have := packS_length l0 hby
        rw [hpk] at this
        simp only at this
        omega
      · unfold packS at hpk
        rw [if_pos (by omega)] at hpk
        injection hpk with h _
        rw [← h]; simp
    have hpb : ∀ x ∈ p, 0 ≤ x ∧ x ≤ 255 := by have := packS_bytes l0 hby; rw [hpk] at this; exact this
    have HN0 := Aside0.mk h0
    have hne : ¬ p = [] := fun e => h0 (by rw [e]; rfl)
    clear hpk h0
    go_enter Try.func5, Try.ntmps5
    go_upto_region 6 with (go_at_call 21; refine (ref_pack_any _ _ _ _ HR0.out hc0 (by omega)).mono ?_; rw [HPK.out]; rintro e w3 ⟨v3, rfl, hR3, hB3⟩; obtain ⟨A3, k3, rfl⟩ := Kd.R_slice hR3; have H3 := Aside0.mk (⟨hR3, hB3⟩ : _ ∧ _); clear hR3 hB3)
    obtain ⟨i, hi1, hi2⟩ := tm_at p.length (by have := HN0.out; omega) (by omega) at_
    obtain ⟨m, hm1, hm2⟩ := tm_cut p.length (by omega) cut
    rw [hi1, hm1]
    clear hi1 hm1
    have hR3 := H3.out.1
    have hk3 := (Kd.R_reads' hR3).2.1
    obtain ⟨g, cap, ev1, hgb, hglt, cells, hcells⟩ := Kd.R_form hR3 (by omega)
    injection ev1 with e1 e2 e3
    subst e1 e3
    obtain ⟨hc, hz⟩ := Kd.R_celln (0 : Int) hR3 (i : Int) (by omega) (by omega)
    simp only [Int.toNat_natCast] at hc hz
    obtain ⟨z0, hz0⟩ : ∃ z0 : Int, rdOf 0 p (i : Int) = z0 := ⟨_, rfl⟩
    rw [hz0] at hc
    have hR4 := Kd.R_putn (enc := Value.int .u8) (h1 := fun _ => rfl) hR3 (i : Int) to_
    simp only [Int.toNat_natCast] at hR4
    obtain ⟨q, hq⟩ : ∃ q, q = (p.set i to_).take m := ⟨_, rfl⟩
    have hql : q.length = m := by rw [hq]; simp; omega
    have hqb : ∀ x ∈ q, 0 ≤ x ∧ x ≤ 255 := by
      rw [hq]
      intro x hx
      rcases List.mem_or_eq_of_mem_set (List.mem_of_mem_take hx) with h | rfl
      · exact hpb x h
      · exact hto
    have hC4 := Kd.C_take (m := m) (Kd.R_reads' hR4).2.2 (by simp; omega)
    rw [← hq] at hC4
    have HQ := Aside0.mk (⟨hC4, H3.out.2.setCell (p := ⟨g, i, none⟩) hgb (.int .u8 to_)⟩ : _ ∧ _)
    have HQL := Aside0.mk hql
    have hi3 : (i : Int) < (p.length : Int) := by omega
    have hm3 : (m : Int) ≤ (k3 : Int) := by omega
    have hm4 : m ≤ k3 := by omega
    have hm5 : m ≤ 6000 := by omega
    clear hR3 hcells hgb hglt cells hz0 hR4 hC4 hq hql hpb HN0
    go_upto_region 7 with (fail)
    have hql : q.length = m := HQL.out
    subst hql
    clear hc hz HQL
    generalize World.setCell w3 ⟨g, i, none⟩ (.int .u8 to_) = w4 at HQ
    generalize hnn : wrap64 ((l0.length : Int) + off) = nn
    obtain ⟨un, hun⟩ : ∃ un, unpackS q nn = un := ⟨_, rfl⟩
    have HUN := Aside0.mk hun
    clear hun
    go_wp2_with (first
      | (go_at_call 25; go_loud (refine (unpack_any _ _ q nn _ HQ.out.1 hqb (by omega)).mono ?_); rw [HUN.out]; rintro e w5 ⟨v5, rfl, hR5, hB5⟩; obtain ⟨A5, k5, rfl⟩ := Kd.R_slice hR5; have H5 := Aside0.mk (⟨hR5, hB5, below_step HQ.out.2 hB5⟩ : _ ∧ _ ∧ _); clear hR5 hB5)
      | (go_at_call 26; go_loud (refine (ref_unpack_any _ _ q nn _ (Kd.C_below HQ.out.1 H5.out.2.1) hqb hm4 (by omega)).mono ?_); rw [HUN.out]; rintro e w6 ⟨v6, rfl, hR6, hB6⟩; obtain ⟨A6, k6, rfl⟩ := Kd.R_slice hR6; have H6 := Aside0.mk (⟨hR6, hB6, below_step H5.out.2.2 hB6⟩ : _ ∧ _ ∧ _); clear hR6 hB6)
      | (go_at_call 22; refine (same_true _ _ _ _ un.1 _ (Kd.C_below (Kd.R_reads' H5.out.1).2.2 H6.out.2.1) (Kd.R_reads' H5.out.1).2.1 (Kd.R_reads' H6.out.1).2.2 (Kd.R_reads' H6.out.1).2.1).mono ?_; rintro e w7 ⟨rfl, ⟨nd, rfl⟩⟩)
      | (go_at_call 24; refine (awake_any _).mono ?_; rintro e w8 ⟨rfl, hb8⟩))
    go_ret
    exact ⟨rfl, below_step (pw_below_drewN H6.out.2.2 _) hb8⟩
end Go.Proofs.Ytoefligelajfkaa.Press
