import Derived.Test.YtoefligelajfkaaAux
namespace Go.Proofs.Ytoefligelajfkaa.Press
open Go.RowKit Go.Proofs.YtoefligelajfkaaW.PrintWords Go.Proofs.YtoefligelajfkaaW.PrintLast Go.Proofs.YtoefligelajfkaaW.PrintMore

theorem room_given {w : World} {base g n : Nat} {l : List Int} (h : Kd.R (Kd.int .u8) 5 w base (fun _ => True) (.slice (some ⟨g, 0, none⟩) n n) (roomS l)) : Kd.C (Kd.int .u8) w (some ⟨g, 0, none⟩) l.length l := by
  have h1 := Kd.C_take (m := l.length) (Kd.R_reads' h).2.2 (by rw [roomS_length]; omega)
  rw [roomS_take] at h1
  exact h1
theorem room_whole {w : World} {base g n : Nat} {l : List Int} (h : Kd.R (Kd.int .u8) 5 w base (fun _ => True) (.slice (some ⟨g, 0, none⟩) n n) (roomS l)) (hn : n = l.length + 9) : Kd.C (Kd.int .u8) w (some ⟨g, 0, none⟩) n (roomS l) := by
  have h1 := (Kd.R_reads' h).2.2
  rw [roomS_length, ← hn] at h1
  exact h1

theorem grown_set (W : World) (b j : Nat) (z : Value) : W.grownBy (W.setCell ⟨b, j, none⟩ z) (some b) :=
  ⟨rfl, rfl, rfl, by simp [World.setCell], fun _ _ hi => Below.heap_setCell _ _ _ _ (fun e => hi (by rw [e]))⟩
theorem empty_row (W : World) (base : Nat) (hb : base ≤ W.heap.size) : Kd.R (Kd.int .u8) 5 (W.alloc (.cells #[] 5)) base (fun _ => True) (.slice (some ⟨W.heap.size, 0, none⟩) 0 0) [] :=
  Kd.R_of_own (own_lit W base 5 .u8 [] hb (by simp)) (fun _ _ => trivial)

set_option maxHeartbeats 4000000 in
theorem pressUnpacks_walk (A0 : Option Addr) (c0 : Nat) (l0 : List Int) (n : Int) (w : World) (hr0 : Kd.C (Kd.int .u8) w A0 l0.length l0) (hby : ∀ x ∈ l0, 0 ≤ x ∧ x ≤ 255) (hc0 : l0.length ≤ c0)
    (hl : l0.length ≤ 140737488351232) (_hn : -9223372036854775808 ≤ n ∧ n ≤ 9223372036854775807) :
    Calls Try.prog 4 #[.slice A0 l0.length c0, .int .i64 n] w fun e w' => e = .returned (.bool true) ∧ Below w.heap.size w w' := by
  obtain ⟨un, hun⟩ : ∃ un, unpackS l0 n = un := ⟨_, rfl⟩
  have HUN := Aside0.mk hun
  clear hun
  have HR0 := Aside0.mk hr0
  clear hr0
  obtain ⟨M, hM⟩ : ∃ M, M = l0.length + 9 := ⟨_, rfl⟩
  have HM := Aside0.mk hM
  clear hM
  go_enter Try.func4, Try.ntmps4
  go_upto_region 6 with (first
    | (go_at_call 19; refine (roomy_any _ _ _ _ HR0.out (by omega)).mono ?_; rintro e w1 ⟨g, rfl, hR1, hB1⟩; rw [← HM.out] at hR1; rw [← HM.out]; have H1 := Aside0.mk (⟨hR1, hB1⟩ : _ ∧ _); clear hR1 hB1)
    | (go_at_call 25; refine (unpack_any _ _ _ _ _ (room_given H1.out.1) hby (by omega)).mono ?_; rw [HUN.out]; rintro e w2 ⟨v2, rfl, hR2, hB2⟩; obtain ⟨A2, k2, rfl⟩ := Kd.R_slice hR2; have H2 := Aside0.mk (⟨hR2, hB2, below_step H1.out.2 hB2⟩ : _ ∧ _ ∧ _); clear hR2 hB2)
    | (go_at_call 26; refine (ref_unpack_any _ _ _ _ _ (Kd.C_below HR0.out H2.out.2.2) hby hc0 (by omega)).mono ?_; rw [HUN.out]; rintro e w3 ⟨v3, rfl, hR3, hB3⟩; obtain ⟨A3, k3, rfl⟩ := Kd.R_slice hR3; have H3 := Aside0.mk (⟨hR3, hB3, below_step H2.out.2.2 hB3⟩ : _ ∧ _ ∧ _); clear hR3 hB3)
    | (go_at_call 22; refine (same_true _ _ _ _ un.1 _ (Kd.C_below (Kd.R_reads' H2.out.1).2.2 H3.out.2.1) (Kd.R_reads' H2.out.1).2.1 (Kd.R_reads' H3.out.1).2.2 (Kd.R_reads' H3.out.1).2.1).mono ?_; rintro e w4 ⟨rfl, ⟨nd4, rfl⟩⟩)
    | (go_at_call 23; refine (kept_true _ _ _ _ _ _ _ HM.out (Kd.C_drewN (Kd.C_below (Kd.C_below (room_whole H1.out.1 HM.out) H2.out.2.1) H3.out.2.1) _) (Nat.le_refl _) (Kd.C_drewN (Kd.C_below HR0.out H3.out.2.2) _) hc0 (by omega)).mono ?_; rintro e w5 ⟨rfl, ⟨nd5, rfl⟩⟩))
  have HQ : Aside0 (Kd.R (Kd.int .u8) 5 (w3.drewN (nd4 + nd5)) w.heap.size (fun _ => True) (.slice (some ⟨g, 0, none⟩) M M) (roomS l0) ∧ Kd.R (Kd.int .u8) 5 (w3.drewN (nd4 + nd5)) w1.heap.size (fun _ => True) (.slice A2 un.1.length k2) un.1 ∧
      Kd.R (Kd.int .u8) 5 (w3.drewN (nd4 + nd5)) w2.heap.size (fun _ => True) (.slice A3 un.1.length k3) un.1 ∧ Below w.heap.size w (w3.drewN (nd4 + nd5)) ∧ g < w1.heap.size ∧ w1.heap.size ≤ w2.heap.size ∧ w2.heap.size ≤ (w3.drewN (nd4 + nd5)).heap.size) :=
    ⟨Kd.R_drewN (Kd.R_below (Kd.R_below H1.out.1 H2.out.2.1) H3.out.2.1) _, Kd.R_drewN (Kd.R_below H2.out.1 H3.out.2.1) _, Kd.R_drewN H3.out.1 _, pw_below_drewN H3.out.2.2 _, Kd.R_lt H1.out.1 g rfl, H2.out.2.1.size, H3.out.2.1.size⟩
  clear H1 H2 H3
  generalize World.drewN w3 (nd4 + nd5) = w6 at HQ
  by_cases h0 : l0.length = 0
  · have h01 : ((l0.length : Int) == 0) = true := by rw [beq_iff_eq]; omega
    have h02 : (l0.length == 0) = true := by rw [beq_iff_eq]; omega
    have H0 := Aside0.mk h0
    clear h0
    go_wp2_with (go_at_call 24; refine (awake_any _).mono ?_; rintro e w7 ⟨rfl, hb7⟩)
    go_ret
    exact ⟨rfl, below_step HQ.out.2.2.2.1 hb7⟩
  · have h01 : ((l0.length : Int) == 0) = false := by rw [beq_eq_false_iff_ne]; omega
    have h02 : (l0.length == 0) = false := by rw [beq_eq_false_iff_ne]; omega
    go_upto_region 9 with (at_builtin; refine Kd.R_append_rows (Kd.int .u8) (w0 := w) w.heap.size rfl (.tmp 50) (.tmp 51) 22 5 (.int .u8 0) 1 rfl Try.underlying22 info5 rfl (by decide) (by omega) (.slice (some ⟨w6.heap.size, 0, none⟩) 0 0) [] l0 A0 l0.length c0 (fun _ => True) (fun _ => False) rfl rfl (empty_row w6 w.heap.size HQ.out.2.2.2.1.size) (Kd.C_alloc (Kd.C_below HR0.out HQ.out.2.2.2.1) _) (fun _ _ h => h) (fun _ hk => hk.elim) (fun _ _ => trivial) (below_alloc HQ.out.2.2.2.1 _) (by simp; have := HQ.out.2.2.2.1.size; omega) (by simp; omega) ?_; intro v8 w8 ho8 hb8 hg8 hat8)
    have ho8' : Kd.R (Kd.int .u8) 5 w8 w.heap.size (fun _ => True) v8 l0 := by simpa using ho8
    obtain ⟨t, cap8, ev8, htb, htl, cells8, hcells8⟩ := Kd.R_form ho8' (by omega)
    subst ev8
    have ht6 : w6.heap.size ≤ t := by
      rcases hat8 with h | ⟨q, h, hq⟩
      · simp [Value.ownBlock] at h; omega
      · simp [Value.ownBlock] at h; simp at hq; omega
    have hq5 := HQ.out.2.2.2.2.1
    have hq6 := HQ.out.2.2.2.2.2.1
    have hq7 := HQ.out.2.2.2.2.2.2
    have hgt : g ≠ t := by omega
    clear hat8 hcells8 cells8
    obtain ⟨j, hj⟩ : ∃ j : Nat, j = l0.length - 1 := ⟨_, rfl⟩
    have hj1 : (l0.length : Int) - 1 = (j : Int) := by omega
    have hj2 : j < l0.length := by omega
    have hj3 : (j : Int) < (l0.length : Int) := by omega
    obtain ⟨hc8, hz8⟩ := Kd.R_celln (0 : Int) ho8' (j : Int) (by omega) (by omega)
    simp only [Int.toNat_natCast] at hc8 hz8
    obtain ⟨x0, hx0⟩ : ∃ x0 : Int, rdOf 0 l0 (j : Int) = x0 := ⟨_, rfl⟩
    rw [hx0] at hc8
    obtain ⟨y, hy⟩ : ∃ y : Int, bits .xor .u8 x0 1 = y := ⟨_, rfl⟩
    have hyb : 0 ≤ y ∧ y ≤ 255 := by
      rw [← hy]
      have hb := rd_byte hby (j : Int)
      have e : x0 = rd l0 (j : Int) := hx0.symm
      rw [e, u8_xor _ _ hb.1 (by omega) (by omega) (by omega)]
      have := @Nat.xor_lt_two_pow (rd l0 (j : Int)).toNat (1 : Int).toNat 8 (by omega) (by decide)
      omega
    obtain ⟨l1, hl1⟩ : ∃ l1, l1 = l0.set j y := ⟨_, rfl⟩
    have hlen1 : l1.length = l0.length := by rw [hl1]; simp
    have hby1 : ∀ x ∈ l1, 0 ≤ x ∧ x ≤ 255 := by
      rw [hl1]
      intro x hx
      rcases List.mem_or_eq_of_mem_set hx with h | rfl
      · exact hby x h
      · exact hyb
    have hroom : (roomS l0).set j y = roomS l1 := by
      rw [hl1, roomS, roomS, List.set_append_left _ _ hj2]
    have hbw8 : Below w.heap.size w w8 := hb8
    have hg8' : ∀ {b : Nat} {vv : Value} {xs : List Int}, Kd.R (Kd.int .u8) 5 w6 b (fun _ => True) vv xs → Kd.R (Kd.int .u8) 5 w8 b (fun _ => True) vv xs := by
      intro b vv xs h
      refine R_kept (Kd.R_alloc h _) hg8 ?_
      cases hv : vv.ownBlock with
      | none => exact .inl rfl
      | some q => exact .inr (by have := Kd.R_lt h q hv; simp [Value.ownBlock]; omega)
    have hW8 := hg8' HQ.out.1
    obtain ⟨hcg, hzg⟩ := Kd.R_celln (0 : Int) hW8 (j : Int) (by omega) (by have := HM.out; omega)
    simp only [Int.toNat_natCast] at hcg hzg
    have hne : (⟨t, j, none⟩ : Addr) ≠ ⟨g, j, none⟩ := by intro h; injection h with h; exact hgt h.symm
    have hcg9 : (w8.setCell ⟨t, j, none⟩ (.int .u8 y)).cell? ⟨g, j, none⟩ = some (.int .u8 (rdOf 0 (roomS l0) (j : Int))) := (cell_far (by simpa using hgt) _).trans hcg
    have hzg9 : (w8.setCell ⟨t, j, none⟩ (.int .u8 y)).frozen? ⟨g, j, none⟩ = false := by
      rw [World.frozen?_of_block (w := w8) (a := ⟨g, j, none⟩) (Below.heap_setCell w8 ⟨t, j, none⟩ (.int .u8 y) g hgt)]
      exact hzg
    have hct9 : (w8.setCell ⟨t, j, none⟩ (.int .u8 y)).cell? ⟨t, j, none⟩ = some (.int .u8 y) := World.cell?_setCell_same _ _ _ hc8
    -- the world behind both stores
    have put : ∀ {b q n c : Nat} {W : World} {xs : List Int} (p : Nat), Kd.R (Kd.int .u8) 5 W b (fun _ => True) (.slice (some ⟨q, 0, none⟩) n c) xs → q ≠ p → ∀ z : Int, Kd.R (Kd.int .u8) 5 (W.setCell ⟨p, j, none⟩ (.int .u8 z)) b (fun _ => True) (.slice (some ⟨q, 0, none⟩) n c) xs := by
      intro b q n c W xs p h hne z
      refine R_kept (row := some p) h (grown_set _ _ _ _) (.inr (by simp [Value.ownBlock, hne]))
    have hT9 := Kd.R_putn (enc := Value.int .u8) (h1 := fun _ => rfl) ho8' (j : Int) y
    simp only [Int.toNat_natCast] at hT9
    have hG9 := Kd.R_putn (enc := Value.int .u8) (h1 := fun _ => rfl) (put t hW8 hgt y) (j : Int) y
    simp only [Int.toNat_natCast] at hG9
    have hT10 := put g hT9 (fun e => hgt e.symm) y
    have keep : ∀ {b : Nat} {A : Option Addr} {k n : Nat} {xs : List Int}, w1.heap.size ≤ b → Kd.R (Kd.int .u8) 5 w6 b (fun _ => True) (.slice A n k) xs → Kd.R (Kd.int .u8) 5 ((w8.setCell ⟨t, j, none⟩ (.int .u8 y)).setCell ⟨g, j, none⟩ (.int .u8 y)) b (fun _ => True) (.slice A n k) xs := by
      intro b A k n xs hbb h
      have h8 := hg8' h
      cases hv : (Value.slice A n k).ownBlock with
      | none => exact R_kept (row := some g) (R_kept (row := some t) h8 (grown_set _ _ _ _) (.inl hv)) (grown_set _ _ _ _) (.inl hv)
      | some q =>
        have hq1 := Kd.R_lt h q hv
        have hq2 := Kd.R_base h q hv
        exact R_kept (row := some g) (R_kept (row := some t) h8 (grown_set _ _ _ _) (.inr (by rw [hv]; simp; omega))) (grown_set _ _ _ _) (.inr (by rw [hv]; simp; omega))
    rw [hroom] at hG9
    rw [← hl1] at hT10
    have hgb : w.heap.size ≤ g := Kd.R_base HQ.out.1 g rfl
    have HZ := Aside0.mk (⟨hG9, hT10, keep (Nat.le_refl _) HQ.out.2.1, keep hq6 HQ.out.2.2.1, (hbw8.setCell (p := ⟨t, j, none⟩) htb (.int .u8 y)).setCell (p := ⟨g, j, none⟩) hgb (.int .u8 y)⟩ : _ ∧ _ ∧ _ ∧ _ ∧ _)
    have HL1 := Aside0.mk hlen1
    clear hG9 hT10 hT9 keep put hg8' hW8 hbw8 hroom hl1 ho8 ho8' hb8 hg8 HQ hq5 hq6 hq7 hgb htb htl ht6 hyb hlen1 hx0
    subst hj
    clear hj1
    go_upto_region 11 with (fail)
    obtain ⟨un1, hun1⟩ : ∃ un1, unpackS l1 n = un1 := ⟨_, rfl⟩
    have HUN1 := Aside0.mk hun1
    have HM1 : M = l1.length + 9 := by rw [HM.out, HL1.out]
    have HM2 := Aside0.mk HM1
    clear hun1 HM1 hct9 hcg9 hzg9 hne hc8 hz8 hcg hzg hy HUN h01 h02
    generalize World.setCell (World.setCell w8 ⟨t, l0.length - 1, none⟩ (.int .u8 y)) ⟨g, l0.length - 1, none⟩ (.int .u8 y) = w10 at HZ
    have hl1 : l1.length ≤ 140737488351232 := by rw [HL1.out]; exact hl
    go_wp2_with (first
      | (go_at_call 25; have hcc := unpack_any _ M l1 n _ (room_given HZ.out.1) hby1 (by omega); rw [HUN1.out, HL1.out] at hcc; refine hcc.mono ?_; clear hcc; rintro e w2' ⟨v2, rfl, hR2, hB2⟩; obtain ⟨B2, m2, rfl⟩ := Kd.R_slice hR2; have H2 := Aside0.mk (⟨hR2, hB2, below_step HZ.out.2.2.2.2 hB2⟩ : _ ∧ _ ∧ _); clear hR2 hB2)
      | (go_at_call 26; have hcc := ref_unpack_any _ cap8 l1 n _ (Kd.C_below (Kd.R_reads' HZ.out.2.1).2.2 H2.out.2.1) hby1 (by rw [HL1.out]; exact (Kd.R_reads' HZ.out.2.1).2.1) (by omega); rw [HUN1.out, HL1.out] at hcc; refine hcc.mono ?_; clear hcc; rintro e w3' ⟨v3, rfl, hR3, hB3⟩; obtain ⟨B3, m3, rfl⟩ := Kd.R_slice hR3; have H3 := Aside0.mk (⟨hR3, hB3, below_step H2.out.2.2 hB3⟩ : _ ∧ _ ∧ _); clear hR3 hB3)
      | (go_at_call 22; (with_reducible refine (same_true _ _ _ _ un1.1 _ (Kd.C_below (Kd.R_reads' H2.out.1).2.2 H3.out.2.1) (Kd.R_reads' H2.out.1).2.1 (Kd.R_reads' H3.out.1).2.2 (Kd.R_reads' H3.out.1).2.1).mono ?_); rintro e w4 ⟨rfl, ⟨nd6, rfl⟩⟩)
      | (go_at_call 22; refine (same_true _ _ _ _ un.1 _ (Kd.C_drewN (Kd.C_below (Kd.C_below (Kd.R_reads' HZ.out.2.2.1).2.2 H2.out.2.1) H3.out.2.1) _) (Kd.R_reads' HZ.out.2.2.1).2.1 (Kd.C_drewN (Kd.C_below (Kd.C_below (Kd.R_reads' HZ.out.2.2.2.1).2.2 H2.out.2.1) H3.out.2.1) _) (Kd.R_reads' HZ.out.2.2.2.1).2.1).mono ?_; rintro e w5 ⟨rfl, ⟨nd7, rfl⟩⟩)
      | (go_at_call 23; have hcc := kept_true _ M M _ cap8 l1 _ HM2.out (Kd.C_drewN (Kd.C_below (Kd.C_below (room_whole HZ.out.1 HM2.out) H2.out.2.1) H3.out.2.1) (nd6 + nd7)) (Nat.le_refl _) (Kd.C_drewN (Kd.C_below (Kd.C_below (Kd.R_reads' HZ.out.2.1).2.2 H2.out.2.1) H3.out.2.1) (nd6 + nd7)) (by rw [HL1.out]; exact (Kd.R_reads' HZ.out.2.1).2.1) (by omega); rw [HL1.out] at hcc; refine hcc.mono ?_; clear hcc; rintro e w5 ⟨rfl, ⟨nd8, rfl⟩⟩)
      | (go_at_call 24; refine (awake_any _).mono ?_; rintro e w7 ⟨rfl, hb7⟩))
    go_ret
    exact ⟨rfl, below_step (pw_below_drewN H3.out.2.2 _) hb7⟩
end Go.Proofs.Ytoefligelajfkaa.Press
