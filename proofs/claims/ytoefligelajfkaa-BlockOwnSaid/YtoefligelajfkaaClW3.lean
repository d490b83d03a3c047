import Derived.Test.YtoefligelajfkaaClW2
import Derived.Test.YtoefligelajfkaaClW1
import Derived.Test.YtoefligelajfkaaPBlockOpensx1
import Derived.Deep.RegionHeld3
import Derived.Deep.AppendLies
import Derived.OneCell
import Derived.Deep.RegionLaw
import Derived.Test.YtoefligelajfkaaWEqStruct
import Derived.BigQuiet
import Derived.Deep.QuietTactic
import Derived.OrdersHeld
import Derived.StillTail
namespace Go.Proofs.Ytoefligelajfkaa.Press
open Go.RowKit Go.Proofs.YtoefligelajfkaaW.PrintWords Go.Proofs.YtoefligelajfkaaW.PrintLast Go.Proofs.YtoefligelajfkaaW.PrintMore

theorem room_given {w : World} {base g n : Nat} {l : List Int} (h : Kd.R (Kd.int .u8) 5 w base (fun _ => True) (.slice (some ⟨g, 0, none⟩) n n) (roomS l)) : Kd.C (Kd.int .u8) w (some ⟨g, 0, none⟩) l.length l := by
  have h1 := Kd.C_take (m := l.length) (Kd.R_reads' h).2.2 (by rw [roomS_length]; omega)
  rw [roomS_take] at h1
  exact h1
theorem room_whole {w : World} {base g n : Nat} {l : List Int} (h : Kd.R (Kd.int .u8) 5 w base (fun _ => True) (.slice (some ⟨g, 0, none⟩) n n) (roomS l)) (hn : n = l.length + 9) : Kd.C (Kd.int .u8) w (some ⟨g, 0, none⟩) n (roomS l) := by
  have h1 := (Kd.R_reads' h).2.2
  rw [roomS_length, ← hn] at h1
  exact h1

theorem grown_set (W : World) (b j : Nat) (z : Value) : W.grownBy (W.setCell ⟨b, j, none⟩ z) (some b) :=
  ⟨rfl, rfl, rfl, by simp [World.setCell], fun _ _ hi => Below.heap_setCell _ _ _ _ (fun e => hi (by rw [e]))⟩
theorem empty_row (W : World) (base : Nat) (hb : base ≤ W.heap.size) : Kd.R (Kd.int .u8) 5 (W.alloc (.cells #[] 5)) base (fun _ => True) (.slice (some ⟨W.heap.size, 0, none⟩) 0 0) [] :=
  Kd.R_of_own (own_lit W base 5 .u8 [] hb (by simp)) (fun _ _ => trivial)

set_option maxHeartbeats 4000000 in
theorem pressUnpacks_walk (A0 : Option Addr) (c0 : Nat) (l0 : List Int) (n : Int) (w : World) (hr0 : Kd.C (Kd.int .u8) w A0 l0.length l0) (hby : ∀ x ∈ l0, 0 ≤ x ∧ x ≤ 255) (hc0 : l0.length ≤ c0)
    (hl : l0.length ≤ 140737488351232) (_hn : -9223372036854775808 ≤ n ∧ n ≤ 9223372036854775807) :
    Calls Try.prog 4 #[.slice A0 l0.length c0, .int .i64 n] w fun e w' => e = .returned (.bool true) ∧ Below w.heap.size w w' := by
  obtain ⟨un, hun⟩ : ∃ un, unpackS l0 n = un := ⟨_, rfl⟩
  have HUN := Aside0.mk hun
  clear hun
  have HR0 := Aside0.mk hr0
  clear hr0
  obtain ⟨M, hM⟩ : ∃ M, M = l0.length + 9 := ⟨_, rfl⟩
  have HM := Aside0.mk hM
  clear hM
  go_enter Try.func4, Try.ntmps4
  go_upto_region 6 with (first
    | (go_at_call 19; refine (roomy_any _ _ _ _ HR0.out (by omega)).mono ?_; rintro e w1 ⟨g, rfl, hR1, hB1⟩; rw [← HM.out] at hR1; rw [← HM.out]; have H1 := Aside0.mk (⟨hR1, hB1⟩ : _ ∧ _); clear hR1 hB1)
    | (go_at_call 25; refine (unpack_any _ _ _ _ _ (room_given H1.out.1) hby (by omega)).mono ?_; rw [HUN.out]; rintro e w2 ⟨v2, rfl, hR2, hB2⟩; obtain ⟨A2, k2, rfl⟩ := Kd.R_slice hR2; have H2 := Aside0.mk (⟨hR2, hB2, below_step H1.out.2 hB2⟩ : _ ∧ _ ∧ _); clear hR2 hB2)
    | (go_at_call 26; refine (ref_unpack_any _ _ _ _ _ (Kd.C_below HR0.out H2.out.2.2) hby hc0 (by omega)).mono ?_; rw [HUN.out]; rintro e w3 ⟨v3, rfl, hR3, hB3⟩; obtain ⟨A3, k3, rfl⟩ := Kd.R_slice hR3; have H3 := Aside0.mk (⟨hR3, hB3, below_step H2.out.2.2 hB3⟩ : _ ∧ _ ∧ _); clear hR3 hB3)
    | (go_at_call 22; refine (same_true _ _ _ _ un.1 _ (Kd.C_below (Kd.R_reads' H2.out.1).2.2 H3.out.2.1) (Kd.R_reads' H2.out.1).2.1 (Kd.R_reads' H3.out.1).2.2 (Kd.R_reads' H3.out.1).2.1).mono ?_; rintro e w4 ⟨rfl, ⟨nd4, rfl⟩⟩)
    | (go_at_call 23; refine (kept_true _ _ _ _ _ _ _ HM.out (Kd.C_drewN (Kd.C_below (Kd.C_below (room_whole H1.out.1 HM.out) H2.out.2.1) H3.out.2.1) _) (Nat.le_refl _) (Kd.C_drewN (Kd.C_below HR0.out H3.out.2.2) _) hc0 (by omega)).mono ?_; rintro e w5 ⟨rfl, ⟨nd5, rfl⟩⟩))
  have HQ : Aside0 (Kd.R (Kd.int .u8) 5 (w3.drewN (nd4 + nd5)) w.heap.size (fun _ => True) (.slice (some ⟨g, 0, none⟩) M M) (roomS l0) ∧ Kd.R (Kd.int .u8) 5 (w3.drewN (nd4 + nd5)) w1.heap.size (fun _ => True) (.slice A2 un.1.length k2) un.1 ∧
      Kd.R (Kd.int .u8) 5 (w3.drewN (nd4 + nd5)) w2.heap.size (fun _ => True) (.slice A3 un.1.length k3) un.1 ∧ Below w.heap.size w (w3.drewN (nd4 + nd5)) ∧ g < w1.heap.size ∧ w1.heap.size ≤ w2.heap.size ∧ w2.heap.size ≤ (w3.drewN (nd4 + nd5)).heap.size) :=
    ⟨Kd.R_drewN (Kd.R_below (Kd.R_below H1.out.1 H2.out.2.1) H3.out.2.1) _, Kd.R_drewN (Kd.R_below H2.out.1 H3.out.2.1) _, Kd.R_drewN H3.out.1 _, pw_below_drewN H3.out.2.2 _, Kd.R_lt H1.out.1 g rfl, H2.out.2.1.size, H3.out.2.1.size⟩
  clear H1 H2 H3
  generalize World.drewN w3 (nd4 + nd5) = w6 at HQ
  by_cases h0 : l0.length = 0
  · have h01 : ((l0.length : Int) == 0) = true := by rw [beq_iff_eq]; omega
    have h02 : (l0.length == 0) = true := by rw [beq_iff_eq]; omega
    have H0 := Aside0.mk h0
    clear h0
    go_wp2_with (go_at_call 24; refine (awake_any _).mono ?_; rintro e w7 ⟨rfl, hb7⟩)
    go_ret
    exact ⟨rfl, below_step HQ.out.2.2.2.1 hb7⟩
  · have h01 : ((l0.length : Int) == 0) = false := by rw [beq_eq_false_iff_ne]; omega
    have h02 : (l0.length == 0) = false := by rw [beq_eq_false_iff_ne]; omega
    go_upto_region 9 with (at_builtin; refine Kd.R_append_rows (Kd.int .u8) (w0 := w) w.heap.size rfl (.tmp 50) (.tmp 51) 22 5 (.int .u8 0) 1 rfl Try.underlying22 info5 rfl (by decide) (by omega) (.slice (some ⟨w6.heap.size, 0, none⟩) 0 0) [] l0 A0 l0.length c0 (fun _ => True) (fun _ => False) rfl rfl (empty_row w6 w.heap.size HQ.out.2.2.2.1.size) (Kd.C_alloc (Kd.C_below HR0.out HQ.out.2.2.2.1) _) (fun _ _ h => h) (fun _ hk => hk.elim) (fun _ _ => trivial) (below_alloc HQ.out.2.2.2.1 _) (by simp; have := HQ.out.2.2.2.1.size; omega) (by simp; omega) ?_; intro v8 w8 ho8 hb8 hg8 hat8)
    have ho8' : Kd.R (Kd.int .u8) 5 w8 w.heap.size (fun _ => True) v8 l0 := by simpa using ho8
    obtain ⟨t, cap8, ev8, htb, htl, cells8, hcells8⟩ := Kd.R_form ho8' (by omega)
    subst ev8
    have ht6 : w6.heap.size ≤ t := by
      rcases hat8 with h | ⟨q, h, hq⟩
      · simp [Value.ownBlock] at h; omega
      · simp [Value.ownBlock] at h; simp at hq; omega
    have hq5 := HQ.out.2.2.2.2.1
    have hq6 := HQ.out.2.2.2.2.2.1
    have hq7 := HQ.out.2.2.2.2.2.2
    have hgt : g ≠ t := by omega
    clear hat8 hcells8 cells8
    obtain ⟨j, hj⟩ : ∃ j : Nat, j = l0.length - 1 := ⟨_, rfl⟩
    have hj1 : (l0.length : Int) - 1 = (j : Int) := by omega
    have hj2 : j < l0.length := by omega
    have hj3 : (j : Int) < (l0.length : Int) := by omega
    obtain ⟨hc8, hz8⟩ := Kd.R_celln (0 : Int) ho8' (j : Int) (by omega) (by omega)
    simp only [Int.toNat_natCast] at hc8 hz8
    obtain ⟨x0, hx0⟩ : ∃ x0 : Int, rdOf 0 l0 (j : Int) = x0 := ⟨_, rfl⟩
    rw [hx0] at hc8
    obtain ⟨y, hy⟩ : ∃ y : Int, bits .xor .u8 x0 1 = y := ⟨_, rfl⟩
    have hyb : 0 ≤ y ∧ y ≤ 255 := by
      rw [← hy]
      have hb := rd_byte hby (j : Int)
      have e : x0 = rd l0 (j : Int) := hx0.symm
      rw [e, u8_xor _ _ hb.1 (by omega) (by omega) (by omega)]
      have := @Nat.xor_lt_two_pow (rd l0 (j : Int)).toNat (1 : Int).toNat 8 (by omega) (by decide)
      omega
    obtain ⟨l1, hl1⟩ : ∃ l1, l1 = l0.set j y := ⟨_, rfl⟩
    have hlen1 : l1.length = l0.length := by rw [hl1]; simp
    have hby1 : ∀ x ∈ l1, 0 ≤ x ∧ x ≤ 255 := by
      rw [hl1]
      intro x hx
      rcases List.mem_or_eq_of_mem_set hx with h | rfl
      · exact hby x h
      · exact hyb
    have hroom : (roomS l0).set j y = roomS l1 := by
      rw [hl1, roomS, roomS, List.set_append_left _ _ hj2]
    have hbw8 : Below w.heap.size w w8 := hb8
    have hg8' : ∀ {b : Nat} {vv : Value} {xs : List Int}, Kd.R (Kd.int .u8) 5 w6 b (fun _ => True) vv xs → Kd.R (Kd.int .u8) 5 w8 b (fun _ => True) vv xs := by
      intro b vv xs h
      refine R_kept (Kd.R_alloc h _) hg8 ?_
      cases hv : vv.ownBlock with
      | none => exact .inl rfl
      | some q => exact .inr (by have := Kd.R_lt h q hv; simp [Value.ownBlock]; omega)
    have hW8 := hg8' HQ.out.1
    obtain ⟨hcg, hzg⟩ := Kd.R_celln (0 : Int) hW8 (j : Int) (by omega) (by have := HM.out; omega)
    simp only [Int.toNat_natCast] at hcg hzg
    have hne : (⟨t, j, none⟩ : Addr) ≠ ⟨g, j, none⟩ := by intro h; injection h with h; exact hgt h.symm
    have hcg9 : (w8.setCell ⟨t, j, none⟩ (.int .u8 y)).cell? ⟨g, j, none⟩ = some (.int .u8 (rdOf 0 (roomS l0) (j : Int))) := (cell_far (by simpa using hgt) _).trans hcg
    have hzg9 : (w8.setCell ⟨t, j, none⟩ (.int .u8 y)).frozen? ⟨g, j, none⟩ = false := by
      rw [World.frozen?_of_block (w := w8) (a := ⟨g, j, none⟩) (Below.heap_setCell w8 ⟨t, j, none⟩ (.int .u8 y) g hgt)]
      exact hzg
    have hct9 : (w8.setCell ⟨t, j, none⟩ (.int .u8 y)).cell? ⟨t, j, none⟩ = some (.int .u8 y) := World.cell?_setCell_same _ _ _ hc8
    -- the world behind both stores
    have put : ∀ {b q n c : Nat} {W : World} {xs : List Int} (p : Nat), Kd.R (Kd.int .u8) 5 W b (fun _ => True) (.slice (some ⟨q, 0, none⟩) n c) xs → q ≠ p → ∀ z : Int, Kd.R (Kd.int .u8) 5 (W.setCell ⟨p, j, none⟩ (.int .u8 z)) b (fun _ => True) (.slice (some ⟨q, 0, none⟩) n c) xs := by
      intro b q n c W xs p h hne z
      refine R_kept (row := some p) h (grown_set _ _ _ _) (.inr (by simp [Value.ownBlock, hne]))
    have hT9 := Kd.R_putn (enc := Value.int .u8) (h1 := fun _ => rfl) ho8' (j : Int) y
    simp only [Int.toNat_natCast] at hT9
    have hG9 := Kd.R_putn (enc := Value.int .u8) (h1 := fun _ => rfl) (put t hW8 hgt y) (j : Int) y
    simp only [Int.toNat_natCast] at hG9
    have hT10 := put g hT9 (fun e => hgt e.symm) y
    have keep : ∀ {b : Nat} {A : Option Addr} {k n : Nat} {xs : List Int}, w1.heap.size ≤ b → Kd.R (Kd.int .u8) 5 w6 b (fun _ => True) (.slice A n k) xs → Kd.R (Kd.int .u8) 5 ((w8.setCell ⟨t, j, none⟩ (.int .u8 y)).setCell ⟨g, j, none⟩ (.int .u8 y)) b (fun _ => True) (.slice A n k) xs := by
      intro b A k n xs hbb h
      have h8 := hg8' h
      cases hv : (Value.slice A n k).ownBlock with
      | none => exact R_kept (row := some g) (R_kept (row := some t) h8 (grown_set _ _ _ _) (.inl hv)) (grown_set _ _ _ _) (.inl hv)
      | some q =>
        have hq1 := Kd.R_lt h q hv
        have hq2 := Kd.R_base h q hv
        exact R_kept (row := some g) (R_kept (row := some t) h8 (grown_set _ _ _ _) (.inr (by rw [hv]; simp; omega))) (grown_set _ _ _ _) (.inr (by rw [hv]; simp; omega))
    rw [hroom] at hG9
    rw [← hl1] at hT10
    have hgb : w.heap.size ≤ g := Kd.R_base HQ.out.1 g rfl
    have HZ := Aside0.mk (⟨hG9, hT10, keep (Nat.le_refl _) HQ.out.2.1, keep hq6 HQ.out.2.2.1, (hbw8.setCell (p := ⟨t, j, none⟩) htb (.int .u8 y)).setCell (p := ⟨g, j, none⟩) hgb (.int .u8 y)⟩ : _ ∧ _ ∧ _ ∧ _ ∧ _)
    have HL1 := Aside0.mk hlen1
    clear hG9 hT10 hT9 keep put hg8' hW8 hbw8 hroom hl1 ho8 ho8' hb8 hg8 HQ hq5 hq6 hq7 hgb htb htl ht6 hyb hlen1 hx0
    subst hj
    clear hj1
    go_upto_region 11 with (fail)
    obtain ⟨un1, hun1⟩ : ∃ un1, unpackS l1 n = un1 := ⟨_, rfl⟩
    have HUN1 := Aside0.mk hun1
    have HM1 : M = l1.length + 9 := by rw [HM.out, HL1.out]
    have HM2 := Aside0.mk HM1
    clear hun1 HM1 hct9 hcg9 hzg9 hne hc8 hz8 hcg hzg hy HUN h01 h02
    generalize World.setCell (World.setCell w8 ⟨t, l0.length - 1, none⟩ (.int .u8 y)) ⟨g, l0.length - 1, none⟩ (.int .u8 y) = w10 at HZ
    have hl1 : l1.length ≤ 140737488351232 := by rw [HL1.out]; exact hl
    go_wp2_with (first
      | (go_at_call 25; have hcc := unpack_any _ M l1 n _ (room_given HZ.out.1) hby1 (by omega); rw [HUN1.out, HL1.out] at hcc; refine hcc.mono ?_; clear hcc; rintro e w2' ⟨v2, rfl, hR2, hB2⟩; obtain ⟨B2, m2, rfl⟩ := Kd.R_slice hR2; have H2 := Aside0.mk (⟨hR2, hB2, below_step HZ.out.2.2.2.2 hB2⟩ : _ ∧ _ ∧ _); clear hR2 hB2)
      | (go_at_call 26; have hcc := ref_unpack_any _ cap8 l1 n _ (Kd.C_below (Kd.R_reads' HZ.out.2.1).2.2 H2.out.2.1) hby1 (by rw [HL1.out]; exact (Kd.R_reads' HZ.out.2.1).2.1) (by omega); rw [HUN1.out, HL1.out] at hcc; refine hcc.mono ?_; clear hcc; rintro e w3' ⟨v3, rfl, hR3, hB3⟩; obtain ⟨B3, m3, rfl⟩ := Kd.R_slice hR3; have H3 := Aside0.mk (⟨hR3, hB3, below_step H2.out.2.2 hB3⟩ : _ ∧ _ ∧ _); clear hR3 hB3)
      | (go_at_call 22; (with_reducible refine (same_true _ _ _ _ un1.1 _ (Kd.C_below (Kd.R_reads' H2.out.1).2.2 H3.out.2.1) (Kd.R_reads' H2.out.1).2.1 (Kd.R_reads' H3.out.1).2.2 (Kd.R_reads' H3.out.1).2.1).mono ?_); rintro e w4 ⟨rfl, ⟨nd6, rfl⟩⟩)
      | (go_at_call 22; refine (same_true _ _ _ _ un.1 _ (Kd.C_drewN (Kd.C_below (Kd.C_below (Kd.R_reads' HZ.out.2.2.1).2.2 H2.out.2.1) H3.out.2.1) _) (Kd.R_reads' HZ.out.2.2.1).2.1 (Kd.C_drewN (Kd.C_below (Kd.C_below (Kd.R_reads' HZ.out.2.2.2.1).2.2 H2.out.2.1) H3.out.2.1) _) (Kd.R_reads' HZ.out.2.2.2.1).2.1).mono ?_; rintro e w5 ⟨rfl, ⟨nd7, rfl⟩⟩)
      | (go_at_call 23; have hcc := kept_true _ M M _ cap8 l1 _ HM2.out (Kd.C_drewN (Kd.C_below (Kd.C_below (room_whole HZ.out.1 HM2.out) H2.out.2.1) H3.out.2.1) (nd6 + nd7)) (Nat.le_refl _) (Kd.C_drewN (Kd.C_below (Kd.C_below (Kd.R_reads' HZ.out.2.1).2.2 H2.out.2.1) H3.out.2.1) (nd6 + nd7)) (by rw [HL1.out]; exact (Kd.R_reads' HZ.out.2.1).2.1) (by omega); rw [HL1.out] at hcc; refine hcc.mono ?_; clear hcc; rintro e w5 ⟨rfl, ⟨nd8, rfl⟩⟩)
      | (go_at_call 24; refine (awake_any _).mono ?_; rintro e w7 ⟨rfl, hb7⟩))
    go_ret
    exact ⟨rfl, below_step (pw_below_drewN H3.out.2.2 _) hb7⟩
end Go.Proofs.Ytoefligelajfkaa.Press

namespace Go.Proofs.Ytoefligelajfkaa.Block
open Go.RowKit Go.Proofs.YtoefligelajfkaaW.PrintWords Go.Proofs.YtoefligelajfkaaW.PrintLast Go.Proofs.YtoefligelajfkaaW.PrintMore Go.Proofs.Ytoefligelajfkaa.Press

def tabL (f : Nat → Nat) (i : Nat) : List Int := (List.range 16).map fun j => if j < i then (f j : Int) else 0
theorem tabL_length (f : Nat → Nat) (i : Nat) : (tabL f i).length = 16 := by simp [tabL]
theorem tabL_zero (f : Nat → Nat) : tabL f 0 = List.replicate 16 0 := by rfl
theorem tabL_set (f : Nat → Nat) (i : Nat) (h : i < 16) : (tabL f i).set i (f i : Int) = tabL f (i + 1) := by
  apply List.ext_getElem
  · simp [tabL]
  · intro j h1 h2
    rw [List.getElem_set]
    simp only [tabL, List.getElem_map, List.getElem_range]
    split
    · subst_vars; rw [if_pos (by omega)]
    · by_cases hj : j < i
      · rw [if_pos hj, if_pos (by omega)]
      · rw [if_neg hj, if_neg (by omega)]
theorem tabL_get (f : Nat → Nat) (j : Nat) (h : j < 16) : rd (tabL f 16) (j : Int) = (f j : Int) := by
  rw [rd_nat, List.getD_eq_getElem?_getD, List.getElem?_eq_getElem (by rw [tabL_length]; exact h)]
  simp [tabL, h]

def f1n : Nat → Nat → Nat
  | 0, r => r
  | k + 1, r => f1n k (f1 r)

theorem f1n_lt : ∀ (k r : Nat), r < 4294967296 → f1n k r < 4294967296 := by
  intro k
  induction k with
  | zero => intro r h; exact h
  | succ k ih => intro r h; exact ih _ (f1_lt h)
theorem low_odd {r : Nat} (hr : r < 4294967296) (h : r % 2 = 1) : bits .and .u32 (r : Int) 1 = 1 := by
  have := u32_and_nat r 1 hr (by omega)
  rw [Nat.and_one_is_mod, h] at this
  exact this
theorem low_even {r : Nat} (hr : r < 4294967296) (h : ¬ r % 2 = 1) : bits .and .u32 (r : Int) 1 = 0 := by
  have := u32_and_nat r 1 hr (by omega)
  rw [Nat.and_one_is_mod, show r % 2 = 0 by omega] at this
  exact this
theorem half_odd {r : Nat} (hr : r < 4294967296) (h : r % 2 = 1) : bits .xor .u32 ((r : Int) / 2) 3988292384 = (f1 r : Int) := by
  have := u32_xor_nat (r / 2) 3988292384 (by omega) (by omega)
  rw [f1, if_pos h, ← this]; rfl
theorem half_even {r : Nat} (h : ¬ r % 2 = 1) : (r : Int) / 2 = (f1 r : Int) := by rw [f1, if_neg h]; rfl
theorem low_16 {r : Nat} (hr : r < 4294967296) : bits .and .u32 (r : Int) 15 = ((r % 16 : Nat) : Int) := by
  have := u32_and_nat r 15 hr (by omega)
  rw [show (15 : Nat) = 2 ^ 4 - 1 from rfl, Nat.and_two_pow_sub_one_eq_mod] at this
  exact this
theorem xor_16 {r : Nat} (hr : r < 4294967296) : bits .xor .u32 ((r : Int) / 16) ((f4 (r % 16) : Nat) : Int) = (f4 r : Int) := by
  have := u32_xor_nat (r / 16) (f4 (r % 16)) (by omega) (f4_lt (by omega))
  rw [f4_table r, ← this]; rfl

set_option maxHeartbeats 2000000 in
theorem sum_any (A0 : Option Addr) (c0 : Nat) (l0 : List Int) (w : World) (hr0 : Kd.C (Kd.int .u8) w A0 l0.length l0) (hby : ∀ x ∈ l0, 0 ≤ x ∧ x ≤ 255) (hl : l0.length ≤ 140737488355328) :
    Calls Try.prog 45 #[.slice A0 l0.length c0] w fun e w' => e = .returned (.int .i64 (sumS l0)) ∧ Below w.heap.size w w' := by
  have HR0 := Aside0.mk hr0
  clear hr0
  have hrep : (nums .u32 (List.replicate 16 0)).toArray = #[Value.int .u32 0, .int .u32 0, .int .u32 0, .int .u32 0, .int .u32 0, .int .u32 0, .int .u32 0, .int .u32 0, .int .u32 0, .int .u32 0, .int .u32 0, .int .u32 0, .int .u32 0, .int .u32 0, .int .u32 0, .int .u32 0] := rfl
  have h0 := Aside0.mk (Kd.R_of_own (own_lit w w.heap.size 86 .u32 (List.replicate 16 0) (Nat.le_refl _) (by simp)) (fun _ _ => trivial) : Kd.R (Kd.int .u32) 86 (w.alloc (.cells (nums .u32 (List.replicate 16 0)).toArray 86)) w.heap.size (fun _ => True) (.slice (some ⟨w.heap.size, 0, none⟩) 16 16) (List.replicate 16 0))
  rw [hrep] at h0
  clear hrep
  go_enter Try.func45, Try.ntmps45
  go_wp2
  go_loopg [10] 16 (fun k v10 w' => ∃ i : Nat, v10 = .int .i64 i ∧ i + k = 16 ∧ Aside0 (Kd.R (Kd.int .u32) 86 w' w.heap.size (fun _ => True) (.slice (some ⟨w.heap.size, 0, none⟩) 16 16) (tabL f4 i) ∧ Below w.heap.size w w'))
  case atStart => exact ⟨0, rfl, rfl, ⟨by rw [tabL_zero]; exact h0.out, (Below.refl _ _).alloc (Nat.le_refl _) _⟩⟩
  case round =>
    clear h0
    obtain ⟨i, rfl, hik, HT⟩ := hrel
    cases gk with
    | zero => 
      have hi16 : i = 16 := by omega
      subst hi16
      clear hik
      go_wp2
      go_loopg [7, 32] (l0.length) (fun k v7 v32 w' => ∃ r j : Nat, v7 = .int .u32 r ∧ v32 = .int .i64 j ∧ j + k = l0.length ∧ r < 4294967296 ∧ Aside0 (sumR (l0.drop j) r = sumR l0 4294967295) ∧ w' = wr)
      case atStart => exact ⟨4294967295, 0, rfl, rfl, by omega, by omega, ⟨rfl⟩, rfl⟩
      case round =>
        obtain ⟨r, j, rfl, rfl, hjk, hr, HS, rfl⟩ := hrel
        cases gk with
        | zero =>
          have hj : j = l0.length := by omega
          subst hj
          have hs := HS.out
          rw [List.drop_length] at hs
          have hfin : bits .xor .u32 (r : Int) 4294967295 = (sumS l0 : Int) := by
            have h1 := u32_xor_nat r 4294967295 hr (by omega)
            rw [xor_mask hr] at h1
            rw [sumS, ← hs]; exact h1
          have hsl : sumS l0 ≤ 4294967295 := by unfold sumS; omega
          clear hs HS
          go_wp2
          go_ret
          exact ⟨rfl, HT.out.2⟩
        | succ k =>
          have hjl : j < l0.length := by omega
          obtain ⟨ad, e0, hx⟩ := Kd.at_int (Kd.C_below HR0.out HT.out.2) (j : Int) (by omega) (by omega)
          cases e0
          obtain ⟨x, hxn⟩ : ∃ x : Nat, rd l0 (j : Int) = (x : Int) := ⟨(rd l0 (j : Int)).toNat, by have := rd_byte hby (j : Int); omega⟩
          have hxb : x ≤ 255 := by have := rd_byte hby (j : Int); omega
          rw [hxn] at hx
          simp only [Int.toNat_natCast] at hx
          obtain ⟨r1, hr1⟩ : ∃ r1, r1 = r ^^^ x := ⟨_, rfl⟩
          have hr1l : r1 < 4294967296 := by rw [hr1]; exact Nat.xor_lt_two_pow (n := 32) hr (by omega)
          have hs := HS.out
          rw [drop_cons l0 j hjl, sumR, ← rd_nat, hxn, Int.toNat_natCast, ← hr1] at hs
          have hb1 : bits .xor .u32 (r : Int) (x : Int) = (r1 : Int) := by rw [hr1]; exact u32_xor_nat r x hr (by omega)
          obtain ⟨r2, hr2⟩ : ∃ r2, r2 = f4 r1 := ⟨_, rfl⟩
          obtain ⟨r3, hr3⟩ : ∃ r3, r3 = f4 r2 := ⟨_, rfl⟩
          have hr2l : r2 < 4294967296 := by rw [hr2]; exact f4_lt hr1l
          have hr3l : r3 < 4294967296 := by rw [hr3]; exact f4_lt hr2l
          rw [← hr2, ← hr3] at hs
          obtain ⟨m1, hm1⟩ : ∃ m1, m1 = r1 % 16 := ⟨_, rfl⟩
          obtain ⟨m2, hm2⟩ : ∃ m2, m2 = r2 % 16 := ⟨_, rfl⟩
          have hm1l : m1 < 16 := by omega
          have hm2l : m2 < 16 := by omega
          have ha1 := low_16 hr1l
          have ha2 := low_16 hr2l
          have hb2 := xor_16 hr1l
          have hb3 := xor_16 hr2l
          rw [← hm1] at ha1 hb2
          rw [← hm2] at ha2 hb3
          rw [← hr2] at hb2
          rw [← hr3] at hb3
          obtain ⟨t1, ht1⟩ : ∃ t1, t1 = f4 m1 := ⟨_, rfl⟩
          obtain ⟨t2, ht2⟩ : ∃ t2, t2 = f4 m2 := ⟨_, rfl⟩
          rw [← ht1] at hb2
          rw [← ht2] at hb3
          obtain ⟨hc1, -⟩ := Kd.R_celln (0 : Int) HT.out.1 (m1 : Int) (by omega) (by omega)
          obtain ⟨hc2, -⟩ := Kd.R_celln (0 : Int) HT.out.1 (m2 : Int) (by omega) (by omega)
          have hg1 : rdOf 0 (tabL f4 16) (m1 : Int) = (t1 : Int) := by rw [ht1]; exact tabL_get f4 m1 hm1l
          have hg2 : rdOf 0 (tabL f4 16) (m2 : Int) = (t2 : Int) := by rw [ht2]; exact tabL_get f4 m2 hm2l
          rw [hg1] at hc1
          rw [hg2] at hc2
          simp only [Int.toNat_natCast] at hc1 hc2
          have HS2 := Aside0.mk hs
          have hm1i : (m1 : Int) < 16 := by omega
          have hm2i : (m2 : Int) < 16 := by omega
          clear hs HS hr1 hr2 hr3 hm1 hm2 ht1 ht2 hg1 hg2 hxn
          go_wp2
          go_roundg k
          case measure => omega
          case rel => exact ⟨r3, j + 1, rfl, by go_num, by omega, hr3l, HS2, rfl⟩
    | succ k =>
      have hi : i < 16 := by omega
      have hi1 : (i : Int) < 16 := by omega
      go_wp2
      go_loopg [5, 6, 15] 4 (fun k v5 v6 v15 w' => ∃ t r : Nat, v5 = .int .u32 r ∧ v15 = .int .i64 t ∧ t + k = 4 ∧ r < 4294967296 ∧ Aside0 (f1n k r = f4 i) ∧ Aside0 (Kd.R (Kd.int .u32) 86 w' w.heap.size (fun _ => True) (.slice (some ⟨w.heap.size, 0, none⟩) 16 16) (tabL f4 i) ∧ Below w.heap.size w w'))
      case atStart => exact ⟨0, i, rfl, rfl, rfl, by omega, ⟨rfl⟩, HT⟩
      case round =>
        clear HT
        obtain ⟨t, r, rfl, rfl, htk, hr, HF, HT⟩ := hrel
        cases gk with
        | zero =>
          have ht4 : t = 4 := by omega
          subst ht4
          have hrf : r = f4 i := HF.out
          have hR := HT.out.1
          obtain ⟨hc, hz⟩ := Kd.R_celln (0 : Int) hR (i : Int) (by omega) (by omega)
          simp only [Int.toNat_natCast] at hc hz
          have hP := Kd.R_putn (enc := Value.int .u32) (h1 := fun _ => rfl) hR (i : Int) (r : Int)
          simp only [Int.toNat_natCast] at hP
          have HN : Aside0 (Kd.R (Kd.int .u32) 86 (wr.setCell ⟨w.heap.size, i, none⟩ (.int .u32 r)) w.heap.size (fun _ => True) (.slice (some ⟨w.heap.size, 0, none⟩) 16 16) (tabL f4 (i + 1)) ∧ Below w.heap.size w (wr.setCell ⟨w.heap.size, i, none⟩ (.int .u32 r))) := ⟨by rw [← tabL_set f4 i hi, ← hrf]; exact hP, HT.out.2.setCell (p := ⟨w.heap.size, i, none⟩) (Nat.le_refl _) _⟩
          clear hrf hR hP HT HF
          go_wp2
          go_roundg k
          case measure => omega
          case rel => exact ⟨i + 1, by go_num, by omega, HN⟩
        | succ kt =>
          have ht : (t : Int) < 4 := by omega
          have HF2 : Aside0 (f1n kt (f1 r) = f4 i) := ⟨HF.out⟩
          have hf1 : f1 r < 4294967296 := f1_lt hr
          clear HF
          by_cases hodd : r % 2 = 1
          · have hlow := low_odd hr hodd
            have hhalf := half_odd hr hodd
            clear hodd
            go_wp2
            go_roundg kt
            case measure => omega
            case rel => exact ⟨t + 1, f1 r, rfl, by go_num, by omega, hf1, HF2, HT⟩
          · have hlow := low_even hr hodd
            have hhalf := half_even hodd
            clear hodd
            go_wp2
            go_roundg kt
            case measure => omega
            case rel => exact ⟨t + 1, f1 r, by first | rfl | rw [hhalf], by go_num, by omega, hf1, HF2, HT⟩
end Go.Proofs.Ytoefligelajfkaa.Block

namespace Go.Proofs.Ytoefligelajfkaa.Press

theorem fin_ok {n : Int} {out r : List Int} {e : Int} (h : fin n out = (r, e)) (ho : (out.length : Int) ≤ n) : (e = 0 ∧ r = out ∧ (r.length : Int) = n) ∨ (e = 41 ∧ r = []) := by
  unfold fin at h
  split at h
  · simp only [Prod.mk.injEq] at h
    exact .inr ⟨h.2.symm, h.1.symm⟩
  · simp only [Prod.mk.injEq] at h
    obtain ⟨rfl, rfl⟩ := h
    exact .inl ⟨rfl, rfl, by omega⟩

/-- How an Unpack ends: with just so many bytes, not more than 33 for a packed one, and for that number alone; or with an error and nothing. -/
structure Ends (n : Int) (p out : List Int) (g : Int) (items : Nat) : Prop where
  ends : ((uR n p out g items).2 = 0 ∧ ((uR n p out g items).1.length : Int) = n ∧ (uR n p out g items).1.length ≤ out.length + 33 * p.length ∧ ∀ m : Int, (out.length : Int) ≤ m → m ≠ n → uR m p out g items = ([], 41)) ∨
    (((uR n p out g items).2 = 40 ∨ (uR n p out g items).2 = 41) ∧ (uR n p out g items).1 = [])

theorem Ends.err40 {n : Int} {p out : List Int} {g : Int} {items : Nat} (h : uR n p out g items = ([], 40)) : Ends n p out g items := ⟨.inr (by rw [h]; exact ⟨.inl rfl, rfl⟩)⟩
theorem Ends.err41 {n : Int} {p out : List Int} {g : Int} {items : Nat} (h : uR n p out g items = ([], 41)) : Ends n p out g items := ⟨.inr (by rw [h]; exact ⟨.inr rfl, rfl⟩)⟩
theorem Ends.fin {n : Int} {p out : List Int} {g : Int} {items : Nat} (h : ∀ m, uR m p out g items = fin m out) (ho : (out.length : Int) ≤ n) : Ends n p out g items := by
  refine ⟨?_⟩
  rw [h n]
  by_cases hl : (out.length : Int) < n
  · exact .inr (by unfold Press.fin; rw [if_pos hl]; exact ⟨.inr rfl, rfl⟩)
  · refine .inl ?_
    have e : Press.fin n out = (out, 0) := by unfold Press.fin; rw [if_neg hl]
    rw [e]
    refine ⟨rfl, by simp only; omega, by simp, fun m hm hmn => ?_⟩
    rw [h m, Press.fin, if_pos (by omega)]
/-- One step that hands on to another state. -/
theorem Ends.step {n : Int} {p out : List Int} {g : Int} {items : Nat} {p' out' : List Int} {g' : Int} {items' : Nat} (k : Ends n p' out' g' items') (h : uR n p out g items = uR n p' out' g' items') (hl : out'.length + 33 * p'.length ≤ out.length + 33 * p.length)
    (hm : ∀ m : Int, (out.length : Int) ≤ m → m ≠ n → uR m p out g items = ([], 41) ∨ ((out'.length : Int) ≤ m ∧ uR m p out g items = uR m p' out' g' items')) : Ends n p out g items := by
  refine ⟨?_⟩
  rw [h]
  rcases k.ends with ⟨h1, h2, h3, h4⟩ | h5
  · refine .inl ⟨h1, h2, by omega, fun m h6 h7 => ?_⟩
    rcases hm m h6 h7 with h8 | ⟨h8, h9⟩
    · exact h8
    · rw [h9]; exact h4 m h8 h7
  · exact .inr h5

theorem uR_ends (n : Int) : ∀ (k : Nat) (p out : List Int) (g : Int) (items : Nat), p.length ≤ k → (∀ x ∈ p, 0 ≤ x ∧ x ≤ 255) → (out.length : Int) ≤ n → Ends n p out g items := by
  intro k
  induction k with
  | zero =>
    intro p out g items hk hb ho
    obtain rfl : p = [] := List.eq_nil_of_length_eq_zero (by omega)
    by_cases h8 : items = 8
    · exact .fin (fun m => by rw [uR, if_pos h8]) ho
    · by_cases hg : g = 0
      · exact .fin (fun m => by rw [uR, if_neg h8, if_pos hg]) ho
      · exact .err40 (by rw [uR, if_neg h8, if_neg hg])
  | succ k ih =>
    intro p out g items hk hb ho
    match p, hk, hb with
    | [], hk, hb => exact ih [] out g items (by simp) (by simp) ho
    | [x], hk, hb =>
      by_cases h8 : items = 8
      · exact .err40 (by rw [uR, if_pos h8])
      · by_cases hg : g % 2 = 1
        · exact .err40 (by rw [uR, if_neg h8, if_pos hg])
        · have e : ∀ m : Int, (out.length : Int) ≠ m → uR m [x] out g items = uR m [] (out ++ [x]) (g / 2) (items + 1) := fun m hm => by
            conv => lhs; rw [uR, if_neg h8, if_neg hg, if_neg hm]
          by_cases hn : (out.length : Int) = n
          · exact .err41 (by rw [uR, if_neg h8, if_neg hg, if_pos hn])
          · refine .step (ih [] (out ++ [x]) (g / 2) (items + 1) (by simp) (by simp) (by simp; try omega)) (e n hn) (by simp; try omega) fun m hm hmn => ?_
            by_cases hm2 : (out.length : Int) = m
            · exact .inl (by rw [uR, if_neg h8, if_neg hg, if_pos hm2])
            · exact .inr ⟨by simp; omega, e m hm2⟩
    | x :: y :: r, hk, hb =>
      have hx := hb x (by simp)
      have hy := hb y (by simp)
      have hb1 : ∀ z ∈ y :: r, 0 ≤ z ∧ z ≤ 255 := fun z hz => hb z (by simp at hz ⊢; exact .inr hz)
      have hb2 : ∀ z ∈ r, 0 ≤ z ∧ z ≤ 255 := fun z hz => hb z (by simp [hz])
      simp only [List.length_cons] at hk
      by_cases h8 : items = 8
      · exact .step (ih (y :: r) out x 0 (by simp; omega) hb1 ho) (by rw [uR, if_pos h8]) (by simp; try omega) fun m hm _ => .inr ⟨hm, by rw [uR, if_pos h8]⟩
      · by_cases hg : g % 2 = 1
        · generalize hv : 256 * x + y = v
          by_cases c1 : (out.length : Int) < v / 64 + 1
          · exact .err40 (by rw [uR, if_neg h8, if_pos hg, hv, if_pos c1])
          · by_cases c2 : n < out.length + (v % 64 + 3)
            · exact .err41 (by rw [uR, if_neg h8, if_pos hg, hv, if_neg c1, if_pos c2])
            · have hcl : (copyB (v / 64 + 1).toNat (v % 64 + 3).toNat out).length = out.length + (v % 64 + 3).toNat := copyB_length _ _ _
              refine .step (ih r (copyB (v / 64 + 1).toNat (v % 64 + 3).toNat out) (g / 2) (items + 1) (by omega) hb2 (by rw [hcl]; omega)) (by rw [uR, if_neg h8, if_pos hg, hv, if_neg c1, if_neg c2]) (by rw [hcl]; simp; omega) fun m hm hmn => ?_
              by_cases c3 : m < out.length + (v % 64 + 3)
              · exact .inl (by rw [uR, if_neg h8, if_pos hg, hv, if_neg c1, if_pos c3])
              · exact .inr ⟨by rw [hcl]; omega, by rw [uR, if_neg h8, if_pos hg, hv, if_neg c1, if_neg c3]⟩
        · have e : ∀ m : Int, (out.length : Int) ≠ m → uR m (x :: y :: r) out g items = uR m (y :: r) (out ++ [x]) (g / 2) (items + 1) := fun m hm => by
            conv => lhs; rw [uR, if_neg h8, if_neg hg, if_neg hm]
          by_cases hn : (out.length : Int) = n
          · exact .err41 (by rw [uR, if_neg h8, if_neg hg, if_pos hn])
          · refine .step (ih (y :: r) (out ++ [x]) (g / 2) (items + 1) (by simp; omega) hb1 (by simp; omega)) (e n hn) (by simp; try omega) fun m hm hmn => ?_
            by_cases hm2 : (out.length : Int) = m
            · exact .inl (by rw [uR, if_neg h8, if_neg hg, if_pos hm2])
            · exact .inr ⟨by simp; omega, e m hm2⟩

/-- How Unpack ends. -/
theorem unpackS_ends (p : List Int) (n : Int) (hb : ∀ x ∈ p, 0 ≤ x ∧ x ≤ 255) :
    ((unpackS p n).2 = 0 ∧ 0 ≤ n ∧ n ≤ 4096 ∧ ((unpackS p n).1.length : Int) = n ∧ (unpackS p n).1.length ≤ 33 * p.length ∧ ∀ m : Int, 0 ≤ m → m ≤ 4096 → m ≠ n → unpackS p m = ([], 41)) ∨
    ((unpackS p n).2 ≠ 0 ∧ (unpackS p n).1 = []) := by
  by_cases h : n < 0 ∨ n > 4096
  · refine .inr ?_
    unfold unpackS
    rw [if_pos h]
    exact ⟨by decide, rfl⟩
  · have e : unpackS p n = uR n p [] 0 8 := by unfold unpackS; rw [if_neg h]
    rw [e]
    rcases (uR_ends n p.length p [] 0 8 (Nat.le_refl _) hb (by simp; omega)).ends with ⟨h1, h2, h3, h4⟩ | ⟨h5, h6⟩
    · refine .inl ⟨h1, by omega, by omega, h2, by simpa using h3, fun m hm0 hm1 hmn => ?_⟩
      unfold unpackS
      rw [if_neg (by omega)]
      exact h4 m (by simpa using hm0) hmn
    · exact .inr ⟨by omega, h6⟩

end Go.Proofs.Ytoefligelajfkaa.Press

namespace Go.Proofs.Ytoefligelajfkaa.Press

theorem pow2_pos (b : Nat) : (0 : Int) < 2 ^ b := Int.pow_pos (by omega)

/-- What was packed so far is whole: it unpacks to the first bytes. -/
def Full (l out : List Int) (at_ : Nat) : Prop := ∀ X : List Int, uR l.length (out ++ X) [] 0 8 = uR l.length X (l.take at_) 0 8

/-- A group is open: so many items of it are there. -/
structure Enc (l out : List Int) (flag b at_ : Nat) : Prop where
  enc : ∃ (pre pay dec : List Int) (fl : Int), out = pre ++ fl :: pay ∧ flag = pre.length ∧ 0 ≤ fl ∧ fl < 2 ^ b ∧ (b ≠ 0 → pay ≠ []) ∧
    (∀ X : List Int, uR l.length (pre ++ X) [] 0 8 = uR l.length X dec 0 8) ∧
    ∀ (Y : List Int) (g : Int), 0 ≤ g → g % 2 ^ b = fl → uR l.length (pay ++ Y) dec g 0 = uR l.length Y (l.take at_) (g / 2 ^ b) b

theorem uR_open (n : Int) (x : Int) (p out : List Int) (h : p ≠ []) : uR n (x :: p) out 0 8 = uR n p out x 0 := by
  cases p with
  | nil => exact absurd rfl h
  | cons y r => rw [uR, if_pos rfl]

theorem Full.open {l out : List Int} {at_ : Nat} (h : Full l out at_) : Enc l (out ++ [0]) out.length 0 at_ :=
  ⟨out, [], l.take at_, 0, rfl, rfl, by omega, by decide, fun h => absurd rfl h, h, fun Y g _ _ => by simp⟩

theorem Enc.close {l out : List Int} {flag at_ : Nat} (h : Enc l out flag 8 at_) : Full l out at_ := by
  obtain ⟨pre, pay, dec, fl, rfl, rfl, h0, h1, hp, h2, h3⟩ := h.enc
  intro X
  rw [List.append_assoc, h2, List.cons_append, uR_open _ _ _ _ (by have := hp (by decide); intro e; exact this (List.append_eq_nil_iff.1 e).1),
    h3 X fl h0 (Int.emod_eq_of_lt h0 h1)]
  exact uR_eight _ _ _ _ _

theorem Enc.last {l out : List Int} {flag b : Nat} (h : Enc l out flag b l.length) (hb : b ≠ 0) (hb8 : b ≠ 8) : uR l.length out [] 0 8 = (l, 0) := by
  obtain ⟨pre, pay, dec, fl, rfl, rfl, h0, h1, hp, h2, h3⟩ := h.enc
  have e := h3 [] fl h0 (Int.emod_eq_of_lt h0 h1)
  rw [List.append_nil] at e
  rw [h2, uR_open _ _ _ _ (hp hb), e, Int.ediv_eq_zero_of_lt h0 h1, List.take_length]
  rw [uR, if_neg hb8, if_pos rfl, fin, if_neg (by omega)]

theorem emod_split {g : Int} {b : Nat} {fl : Int} {i : Int} (_hi : i = 0 ∨ i = 1) (h0 : 0 ≤ fl) (h1 : fl < 2 ^ b) (h : g % 2 ^ (b + 1) = fl + i * 2 ^ b) : g % 2 ^ b = fl ∧ g / 2 ^ b % 2 = i ∧ g / 2 ^ (b + 1) = g / 2 ^ b / 2 := by
  have hp := pow2_pos b
  have e : (2 : Int) ^ (b + 1) = 2 ^ b * 2 := Int.pow_succ ..
  have e2 : g / 2 ^ (b + 1) = g / 2 ^ b / 2 := by rw [e, Int.ediv_ediv_of_nonneg (by omega)]
  refine ⟨?_, ?_, e2⟩
  · have e3 : g % 2 ^ b = (g % 2 ^ (b + 1)) % 2 ^ b := by rw [e, Int.emod_emod_of_dvd _ ⟨2, rfl⟩]
    rw [e3, h, Int.add_mul_emod_self_right]
    exact Int.emod_eq_of_lt h0 h1
  · have e4 : g = 2 ^ (b + 1) * (g / 2 ^ (b + 1)) + g % 2 ^ (b + 1) := (Int.mul_ediv_add_emod g _).symm
    have e5 : g / 2 ^ b = 2 * (g / 2 ^ (b + 1)) + i := by
      conv => lhs; rw [e4, h, e]
      have e6 : (2 ^ b * 2 * (g / (2 ^ b * 2)) : Int) = 2 * (g / (2 ^ b * 2)) * 2 ^ b := by
        rw [Int.mul_comm (2 ^ b) 2, Int.mul_assoc, Int.mul_comm (2 ^ b) (g / _), ← Int.mul_assoc]
      rw [e6, show (2 * (g / (2 ^ b * 2)) * 2 ^ b + (fl + i * 2 ^ b) : Int) = fl + (2 * (g / (2 ^ b * 2)) + i) * 2 ^ b by rw [Int.add_mul]; omega]
      rw [Int.add_mul_ediv_right _ _ (by omega), Int.ediv_eq_zero_of_lt h0 h1, e, Int.zero_add]
    rw [e5]
    omega

theorem take_succ_getD (l : List Int) (i : Nat) (h : i < l.length) : l.take (i + 1) = l.take i ++ [l.getD i 0] := by
  rw [List.take_succ_eq_append_getElem h, List.getD_eq_getElem?_getD, List.getElem?_eq_getElem h]; rfl

theorem Enc.lit {l out : List Int} {flag b at_ : Nat} (h : Enc l out flag b at_) (hb : b < 8) (hat : at_ < l.length) : Enc l (out ++ [l.getD at_ 0]) flag (b + 1) (at_ + 1) := by
  obtain ⟨pre, pay, dec, fl, rfl, rfl, h0, h1, hp, h2, h3⟩ := h.enc
  refine ⟨pre, pay ++ [l.getD at_ 0], dec, fl, by simp, rfl, h0, ?_, fun _ => by simp, h2, fun Y g hg0 hg => ?_⟩
  · have := pow2_pos b
    rw [Int.pow_succ]; omega
  · obtain ⟨e1, e2, e3⟩ := emod_split (i := 0) (.inl rfl) h0 h1 (by rw [hg]; omega)
    rw [List.append_assoc, h3 _ g hg0 e1, e3, take_succ_getD l at_ hat]
    have hl : ((l.take at_).length : Int) ≠ l.length := by simp; omega
    have hg2 : ¬ g / 2 ^ b % 2 = 1 := by omega
    cases Y with
    | nil => show uR _ [l.getD at_ 0] _ _ _ = _; conv => lhs; rw [uR, if_neg (by omega), if_neg hg2, if_neg hl]
    | cons y r => show uR _ (l.getD at_ 0 :: y :: r) _ _ _ = _; conv => lhs; rw [uR, if_neg (by omega), if_neg hg2, if_neg hl]

theorem copy_take (l : List Int) (d : Nat) : ∀ (L at_ : Nat), 1 ≤ d → d ≤ at_ → at_ + L ≤ l.length → (∀ i, i < L → l.getD (at_ + i) 0 = l.getD (at_ + i - d) 0) → copyB d L (l.take at_) = l.take (at_ + L) := by
  intro L
  induction L with
  | zero => intro at_ _ _ _ _; rfl
  | succ L ih =>
    intro at_ hd hda hl hm
    have hlen : (l.take at_).length = at_ := by simp; omega
    rw [copyB, hlen]
    have e : (l.take at_).getD (at_ - d) 0 = l.getD at_ 0 := by
      have h1 := hm 0 (by omega)
      rw [Nat.add_zero] at h1
      rw [h1]
      rw [List.getD_eq_getElem?_getD, List.getD_eq_getElem?_getD, List.getElem?_take, if_pos (by omega)]
    rw [e, ← take_succ_getD l at_ (by omega), ih (at_ + 1) hd (by omega) (by omega) fun i hi => ?_]
    · congr 1; omega
    · have := hm (i + 1) (by omega)
      rw [show at_ + 1 + i = at_ + (i + 1) by omega]; exact this

theorem Enc.mtch {l out : List Int} {flag b at_ : Nat} (h : Enc l out flag b at_) (hb : b < 8) (L d : Nat) (hL : 3 ≤ L) (hL2 : L ≤ 66) (hd : 1 ≤ d) (hd2 : d ≤ 1024) (hda : d ≤ at_) (hl : at_ + L ≤ l.length)
    (hm : ∀ i, i < L → l.getD (at_ + i) 0 = l.getD (at_ + i - d) 0) :
    Enc l (mark (out ++ [itemV (L, d) / 256, itemV (L, d) % 256]) flag b) flag (b + 1) (at_ + L) := by
  obtain ⟨pre, pay, dec, fl, rfl, rfl, h0, h1, hp, h2, h3⟩ := h.enc
  have hv : itemV (L, d) = ((d : Int) - 1) * 64 + (L - 3) := by unfold itemV; simp only; omega
  generalize itemV (L, d) = v at hv
  have hmk : mark (pre ++ fl :: pay ++ [v / 256, v % 256]) pre.length b = pre ++ (fl + 2 ^ b) :: (pay ++ [v / 256, v % 256]) := by
    unfold mark
    have e1 : (pre ++ fl :: pay ++ [v / 256, v % 256]).getD pre.length 0 = fl := by simp [List.getD_eq_getElem?_getD]
    rw [e1]
    simp
  rw [hmk]
  have hp2 := pow2_pos b
  refine ⟨pre, pay ++ [v / 256, v % 256], dec, fl + 2 ^ b, rfl, rfl, by omega, ?_, fun _ => by simp, h2, fun Y g hg0 hg => ?_⟩
  · rw [Int.pow_succ]; omega
  · obtain ⟨e1, e2, e3⟩ := emod_split (i := 1) (.inr rfl) h0 h1 (by rw [hg]; omega)
    rw [List.append_assoc, h3 _ g hg0 e1, e3]
    show uR _ (v / 256 :: v % 256 :: Y) _ _ _ = _
    have hlen : (l.take at_).length = at_ := by simp; omega
    rw [uR, if_neg (by omega), if_pos e2, show 256 * (v / 256) + v % 256 = v by omega, hlen, if_neg (by omega), if_neg (by omega)]
    rw [show (v / 64 + 1).toNat = d by omega, show (v % 64 + 3).toNat = L by omega, copy_take l d L at_ hd hda hl hm]


/-- A found match is one. -/
theorem grow_spec (l : List Int) (f a most : Nat) : ∀ (k n : Nat), n + k = most → (∀ i, n ≤ i → i < grow l f a most k n → l.getD (f + i) 0 = l.getD (a + i) 0) ∧ (grow l f a most k n = most ∨ l.getD (f + grow l f a most k n) 0 ≠ l.getD (a + grow l f a most k n) 0) := by
  intro k
  induction k with
  | zero =>
    intro n h
    exact ⟨fun i h1 h2 => by simp only [grow] at h2; omega, .inl (by simp only [grow]; omega)⟩
  | succ k ih =>
    intro n h
    rw [grow_succ]
    split
    · rename_i hc
      obtain ⟨h1, h2⟩ := ih (n + 1) (by omega)
      refine ⟨fun i hi hi2 => ?_, h2⟩
      by_cases e : i = n
      · subst e; exact hc.2
      · exact h1 i (by omega) hi2
    · rename_i hc
      refine ⟨fun i h1 h2 => by omega, ?_⟩
      by_cases e : n = most
      · exact .inl e
      · exact .inr fun he => hc ⟨by omega, he⟩

/-- So many bytes are alike from both places on. -/
def Alike (l : List Int) (at_ d n : Nat) : Prop := ∀ i, i < n → l.getD (at_ + i) 0 = l.getD (at_ + i - d) 0

theorem findL_alike (l : List Int) (at_ most : Nat) (hm : 3 ≤ most) : ∀ (ps : List Int) (len dist : Nat), (∀ x ∈ ps, 0 ≤ x ∧ x < at_ ∧ gramEq l x.toNat at_ = true) → (len = 0 ∨ Alike l at_ dist len) →
    ((findL l at_ most ps len dist).1 = 0 ∨ Alike l at_ (findL l at_ most ps len dist).2 (findL l at_ most ps len dist).1) := by
  intro ps
  induction ps with
  | nil => intro len dist _ h; exact h
  | cons f rest ih =>
    intro len dist hp h
    have hf := hp f (by simp)
    have hr : ∀ x ∈ rest, 0 ≤ x ∧ x < at_ ∧ gramEq l x.toNat at_ = true := fun x hx => hp x (by simp [hx])
    have hg := (grow_spec l f.toNat at_ most (most - 3) 3 (by omega)).1
    have ha : Alike l at_ (at_ - f.toNat) (grow l f.toNat at_ most (most - 3) 3) := by
      intro i hi
      have e : at_ + i - (at_ - f.toNat) = f.toNat + i := by omega
      rw [e]
      by_cases h3 : i < 3
      · have hq := hf.2.2
        unfold gramEq at hq
        simp only [Bool.and_eq_true, decide_eq_true_eq] at hq
        obtain ⟨⟨q0, q1⟩, q2⟩ := hq
        have : i = 0 ∨ i = 1 ∨ i = 2 := by omega
        rcases this with rfl | rfl | rfl
        · exact q0.symm
        · exact q1.symm
        · exact q2.symm
      · exact (hg i (by omega) hi).symm
    unfold findL
    split
    · exact h
    · split
      · split
        · exact .inr ha
        · exact ih _ _ hr (.inr ha)
      · split
        · exact h
        · exact ih _ _ hr h

theorem places_gram {l : List Int} {at_ p : Nat} {x : Int} (h : x ∈ places l at_ p) : gramEq l x.toNat p = true := by
  unfold places at h
  obtain ⟨q, hq, rfl⟩ := List.mem_map.1 h
  have := (List.mem_filter.1 hq).2
  simp only [Bool.and_eq_true] at this
  simpa using this.2

theorem fnd_alike (l : List Int) (at_ : Nat) : (fnd l at_).1 = 0 ∨ Alike l at_ (fnd l at_).2 (fnd l at_).1 := by
  unfold fnd findS
  split
  · exact .inl rfl
  · exact findL_alike l at_ _ (by omega) _ 0 0 (fun x hx => ⟨(places_mem (List.mem_reverse.1 hx)).1, (places_mem (List.mem_reverse.1 hx)).2, places_gram (List.mem_reverse.1 hx)⟩) (.inl rfl)

/-- What is known between two items. -/
def St (l out : List Int) (flag items at_ : Nat) : Prop := (items % 8 = 0 ∧ Full l out at_) ∨ (items % 8 ≠ 0 ∧ Enc l out flag (items % 8) at_)

theorem St.next {l out : List Int} {flag items at_ : Nat} (h : Enc l out flag (items % 8 + 1) at_) : St l out flag (items + 1) at_ := by
  by_cases h7 : items % 8 = 7
  · rw [h7] at h
    exact .inl ⟨by omega, h.close⟩
  · have e : (items + 1) % 8 = items % 8 + 1 := by omega
    exact .inr ⟨by omega, by rw [e]; exact h⟩

theorem packR_back (l : List Int) : ∀ (k : Nat) (out : List Int) (flag items at_ : Nat), at_ ≤ l.length → l.length ≤ at_ + k → St l out flag items at_ → uR l.length (packR l k out flag items at_) [] 0 8 = (l, 0) := by
  intro k
  induction k with
  | zero =>
    intro out flag items at_ h1 h2 h
    obtain rfl : at_ = l.length := by omega
    rw [packR]
    rcases h with ⟨_, h⟩ | ⟨h8, h⟩
    · have := h []
      rw [List.append_nil] at this
      rw [this, List.take_length, uR, if_pos rfl, fin, if_neg (by omega)]
    · exact h.last h8 (by omega)
  | succ k ih =>
    intro out flag items at_ h1 h2 h
    rw [packR]
    by_cases hat : at_ < l.length
    · rw [if_pos hat]
      have hE : Enc l (if items % 8 = 0 then out ++ [0] else out) (if items % 8 = 0 then out.length else flag) (items % 8) at_ := by
        rcases h with ⟨h8, h⟩ | ⟨h8, h⟩
        · rw [if_pos h8, if_pos h8, h8]; exact h.open
        · rw [if_neg h8, if_neg h8]; exact h
      by_cases hn : (fnd l at_).1 = 0
      · rw [if_pos hn]
        exact ih _ _ _ _ (by omega) (by omega) (St.next (hE.lit (by omega) hat))
      · rw [if_neg hn]
        have hb := (fnd_bounds l at_).resolve_left hn
        have ha := (fnd_alike l at_).resolve_left hn
        have hM := hE.mtch (by omega) (fnd l at_).1 (fnd l at_).2 hb.1 hb.2.1 hb.2.2.2.1 hb.2.2.2.2.1 hb.2.2.2.2.2 hb.2.2.1 ha
        exact ih _ _ _ _ (by omega) (by omega) (St.next hM)
    · rw [if_neg hat]
      obtain rfl : at_ = l.length := by omega
      rcases h with ⟨_, h⟩ | ⟨h8, h⟩
      · have := h []
        rw [List.append_nil] at this
        rw [this, List.take_length, uR, if_pos rfl, fin, if_neg (by omega)]
      · exact h.last h8 (by omega)

/-- What was packed unpacks to just what it was. -/
theorem pack_unpack (l : List Int) (h : l.length ≤ 4096) : unpackS (packS l).1 l.length = (l, 0) := by
  have e : packS l = (packR l l.length [] 0 0 0, 0) := by unfold packS; rw [if_neg (by omega)]
  rw [e]
  unfold unpackS
  rw [if_neg (by omega)]
  exact packR_back l l.length [] 0 0 0 (by omega) (by omega) (.inl ⟨rfl, fun X => by simp⟩)

def Bytes (l : List Int) : Prop := ∀ x ∈ l, 0 ≤ x ∧ x ≤ 255
theorem Bytes.append {a b : List Int} (h : Bytes a) (k : Bytes b) : Bytes (a ++ b) := fun x hx => (List.mem_append.1 hx).elim (h x) (k x)
theorem Bytes.getD {l : List Int} (h : Bytes l) (i : Nat) : 0 ≤ l.getD i 0 ∧ l.getD i 0 ≤ 255 := by
  rw [List.getD_eq_getElem?_getD]
  cases hi : l[i]? with
  | none => simp
  | some x => exact h x (List.mem_of_getElem? hi)
theorem pow_le_128 {b : Nat} (h : b ≤ 7) : (2 : Int) ^ b ≤ 128 := by exact_mod_cast (Nat.pow_le_pow_right (by omega) h : 2 ^ b ≤ 2 ^ 7)

/-- What is packed is bytes, and not more than is said. -/
theorem packR_bytes (l : List Int) (hl : Bytes l) : ∀ (k : Nat) (out : List Int) (flag items at_ : Nat), at_ ≤ l.length → items ≤ at_ → Bytes out → (items % 8 ≠ 0 → FlagOk out flag (items % 8)) → out.length ≤ at_ + (items + 7) / 8 →
    Bytes (packR l k out flag items at_) ∧ (packR l k out flag items at_).length ≤ l.length + (l.length + 7) / 8 := by
  intro k
  induction k with
  | zero => intro out flag items at_ h1 h2 h3 h4 h5; exact ⟨h3, by rw [packR]; omega⟩
  | succ k ih =>
    intro out flag items at_ h1 h2 h3 h4 h5
    rw [packR]
    by_cases hat : at_ < l.length
    · rw [if_pos hat]
      obtain ⟨out1, flag1, ho, hf, hB, hF, hL⟩ : ∃ out1 flag1, (if items % 8 = 0 then out ++ [0] else out) = out1 ∧ (if items % 8 = 0 then out.length else flag) = flag1 ∧ Bytes out1 ∧ FlagOk out1 flag1 (items % 8) ∧ out1.length ≤ at_ + (items + 8) / 8 := by
        by_cases h8 : items % 8 = 0
        · refine ⟨_, _, rfl, rfl, ?_⟩
          rw [if_pos h8, if_pos h8, h8]
          exact ⟨h3.append (by intro x hx; simp at hx; omega), FlagOk.new out, by simp; omega⟩
        · refine ⟨_, _, rfl, rfl, ?_⟩
          rw [if_neg h8, if_neg h8]
          exact ⟨h3, h4 h8, by omega⟩
      rw [ho, hf]
      have nxt : ∀ {o : List Int}, FlagOk o flag1 (items % 8 + 1) → ((items + 1) % 8 ≠ 0 → FlagOk o flag1 ((items + 1) % 8)) := fun h h8 => by
        have e : (items + 1) % 8 = items % 8 + 1 := by omega
        rw [e]; exact h
      by_cases hn : (fnd l at_).1 = 0
      · rw [if_pos hn]
        refine ih _ _ _ _ (by omega) (by omega) (hB.append ?_) (nxt (hF.append _).up) (by simp; omega)
        intro x hx
        simp at hx
        subst hx
        exact hl.getD at_
      · rw [if_neg hn]
        have hb := (fnd_bounds l at_).resolve_left hn
        have hv : 0 ≤ itemV (fnd l at_) ∧ itemV (fnd l at_) ≤ 65535 := by unfold itemV; omega
        have hB2 : Bytes (out1 ++ [itemV (fnd l at_) / 256, itemV (fnd l at_) % 256]) := by
          refine hB.append fun x hx => ?_
          simp at hx
          rcases hx with rfl | rfl <;> omega
        have hF2 := hF.append [itemV (fnd l at_) / 256, itemV (fnd l at_) % 256]
        refine ih _ _ _ _ (by omega) (by omega) ?_ (nxt hF2.mark) (by rw [mark_length]; simp; omega)
        unfold mark
        intro x hx
        rcases List.mem_or_eq_of_mem_set hx with h | rfl
        · exact hB2 x h
        · have := hF2.lo
          have := hF2.hi
          have := pow_le_128 (b := items % 8) (by omega)
          have := pow2_pos (items % 8)
          omega
    · rw [if_neg hat]; exact ⟨h3, by omega⟩

theorem packS_bytes (l : List Int) (hl : Bytes l) : Bytes (packS l).1 := by
  unfold packS
  split
  · intro x hx; simp at hx
  · exact (packR_bytes l hl l.length [] 0 0 0 (by omega) (by omega) (fun x hx => by simp at hx) (fun h => absurd rfl h) (by simp)).1
theorem packS_length (l : List Int) (hl : Bytes l) : (packS l).1.length ≤ l.length + (l.length + 7) / 8 := by
  unfold packS
  split
  · simp
  · exact (packR_bytes l hl l.length [] 0 0 0 (by omega) (by omega) (fun x hx => by simp at hx) (fun h => absurd rfl h) (by simp)).2

end Go.Proofs.Ytoefligelajfkaa.Press

namespace Go.Proofs.Ytoefligelajfkaa.Block
open Go.RowKit Go.Proofs.YtoefligelajfkaaW.PrintWords Go.Proofs.YtoefligelajfkaaW.PrintLast Go.Proofs.YtoefligelajfkaaW.PrintMore Go.Proofs.Ytoefligelajfkaa.Press
open Go.Proofs.Ytoefligelajfkaa.PBlockOpens (S58 k58 z58 k58_open k58_mk k58_mkM k58_openM rd_T58 at_T58)

/-- What is laid of a piece. -/
def pieceS (l : List Int) : List Int := if l.length ≤ (packS l).1.length then l else (packS l).1
/-- The block of a piece behind so many bytes. -/
def blockS (n : Nat) (l : List Int) : S58 := ⟨n, (pieceS l).length, l.length, sumS (pieceS l)⟩

theorem info58 : (Try.prog.info? 58).map (fun i => (i.zero, i.size, i.bytes)) = some (some (.agg #[.int .i64 0, .int .i64 0, .int .i64 0, .int .i64 0]), 4, 32) := by kernel_rfl

theorem block_below {w0 w1 : World} {n b : Nat} {o : Obj} (h : Below n w0 w1) (hb : b < n) (ho : w0.heap[b]? = some o) : w1.heap[b]? = some o := by
  rw [← ho]; exact h.block b hb

/-- What the closure works on. -/
structure LInv (w0 : World) (base Bo Bb : Nat) (w : World) (vo vb : Value) (out : List Int) (bl : List S58) : Prop where
  bo : w.heap[Bo]? = some (.cells #[vo] 22 (0, 0))
  bb : w.heap[Bb]? = some (.cells #[vb] 47 (0, 0))
  ro : Kd.R (Kd.int .u8) 5 w base (fun _ => True) vo out
  rb : Kd.R k58 58 w base (fun _ => True) vb bl
  hbo : base ≤ Bo
  hbb : base ≤ Bb
  bel : Below base w0 w

theorem ne_block {α : Type} {d : Kd α} {e base b : Nat} {w : World} {v : Value} {xs : List α} {cs : Array Value} {t : Nat} {fr : Nat × Nat} (h : d.R e w base (fun _ => True) v xs) (hb : w.heap[b]? = some (.cells cs t fr)) (ht : t ≠ e) : v.ownBlock ≠ some b := by
  intro he
  obtain ⟨cells, hc⟩ := Kd.R_typed h b he
  rw [hb] at hc
  injection hc with hc
  injection hc with _ h2
  exact ht h2
theorem grown_block {W W1 : World} {row : Option Nat} {b : Nat} {o : Obj} (hg : W.grownBy W1 row) (hb : W.heap[b]? = some o) (hne : row ≠ some b) : W1.heap[b]? = some o := by
  rw [← hb]
  exact hg.block b (lt_of_block hb) (Ne.symm hne)
theorem type_ne {α β : Type} {d1 : Kd α} {d2 : Kd β} {e1 e2 b1 b2 : Nat} {w : World} {v1 v2 : Value} {xs : List α} {ys : List β} (h1 : d1.R e1 w b1 (fun _ => True) v1 xs) (h2 : d2.R e2 w b2 (fun _ => True) v2 ys) (ht : e1 ≠ e2) : v1.ownBlock = none ∨ v1.ownBlock ≠ v2.ownBlock := by
  cases hv : v1.ownBlock with
  | none => exact .inl rfl
  | some b =>
    refine .inr fun he => ?_
    obtain ⟨c1, hc1⟩ := Kd.R_typed h1 b hv
    obtain ⟨c2, hc2⟩ := Kd.R_typed h2 b he.symm
    rw [hc1] at hc2
    injection hc2 with hc2
    injection hc2 with _ h
    exact ht h
theorem bel_next {w0 w w1 : World} {base : Nat} (h : Below base w0 w) (hs : base ≤ w.heap.size) (hb : Below w.heap.size w w1) : Below base w0 w1 := h.trans (hb.mono hs)
theorem LInv.base_le {w0 : World} {base Bo Bb : Nat} {w : World} {vo vb : Value} {out : List Int} {bl : List S58} (h : LInv w0 base Bo Bb w vo vb out bl) : base ≤ w.heap.size := Nat.le_trans h.hbo (Nat.le_of_lt (lt_of_block h.bo))
theorem LInv.step {w0 : World} {base Bo Bb : Nat} {w w1 : World} {vo vb : Value} {out : List Int} {bl : List S58} (h : LInv w0 base Bo Bb w vo vb out bl) (hb : Below w.heap.size w w1) : LInv w0 base Bo Bb w1 vo vb out bl :=
  ⟨block_below hb (lt_of_block h.bo) h.bo, block_below hb (lt_of_block h.bb) h.bb, Kd.R_below h.ro hb, Kd.R_below h.rb hb, h.hbo, h.hbb, bel_next h.bel h.base_le hb⟩

theorem lay_mid {w0 w5 w6 : World} {base b4 Bo Bb : Nat} {vo vb v6 v4 : Value} {out q : List Int} {bl bl6 : List S58} (hI5 : LInv w0 base Bo Bb w5 vo vb out bl) (hq5 : Kd.R (Kd.int .u8) 5 w5 b4 (fun _ => True) v4 q)
    (ho6 : k58.R 58 w6 base (fun _ => True) v6 bl6) (hb6 : Below base w0 w6) (hg6 : w5.grownBy w6 vb.ownBlock) (hB6 : w6.heap[Bb]? = some (.cells #[vb] 47 (0, 0))) (hO6 : w6.heap[Bo]? = some (.cells #[vo] 22 (0, 0))) :
    LInv w0 base Bo Bb (w6.setCell ⟨Bb, 0, none⟩ v6) vo v6 out bl6 ∧ Kd.R (Kd.int .u8) 5 (w6.setCell ⟨Bb, 0, none⟩ v6) b4 (fun _ => True) v4 q := by
  have hne : Bo ≠ Bb := by
    intro e
    subst e
    rw [hO6] at hB6
    injection hB6 with h
    injection h with _ h
    exact absurd h (by decide)
  have hty : ∀ k, (Value.slice (some ⟨Bb, 0, none⟩) 1 1).ownBlock = some k → ∃ cells, w6.heap[k]? = some (.cells cells 47 (0, 0)) := fun k hk => by cases hk; exact ⟨_, hB6⟩
  have hR6 := Kd.R_over' (v := vb) (e' := 58) hI5.ro (Kd.R_typed hI5.rb) (by decide) hg6
  have hq6 := Kd.R_over' (v := vb) (e' := 58) hq5 (Kd.R_typed hI5.rb) (by decide) hg6
  have hset : w6.grownBy (w6.setCell ⟨Bb, 0, none⟩ v6) (Value.slice (some ⟨Bb, 0, none⟩) 1 1).ownBlock := grown_set w6 Bb 0 v6
  exact ⟨⟨(Below.heap_setCell w6 ⟨Bb, 0, none⟩ v6 Bo hne).trans hO6, one_setCell hB6, Kd.R_over' (v := .slice (some ⟨Bb, 0, none⟩) 1 1) hR6 hty (by decide) hset, Kd.R_over' (v := .slice (some ⟨Bb, 0, none⟩) 1 1) ho6 hty (by decide) hset, hI5.hbo, hI5.hbb, hb6.setCell (p := ⟨Bb, 0, none⟩) hI5.hbb _⟩,
    Kd.R_over' (v := .slice (some ⟨Bb, 0, none⟩) 1 1) hq6 hty (by decide) hset⟩
theorem lay_end {w0 w7 w8 : World} {base Bo Bb : Nat} {vo vb v8 : Value} {out out8 : List Int} {bl : List S58} (hI7 : LInv w0 base Bo Bb w7 vo vb out bl)
    (ho8 : Kd.R (Kd.int .u8) 5 w8 base (fun _ => True) v8 out8) (hb8 : Below base w0 w8) (hg8 : w7.grownBy w8 vo.ownBlock) (hB8 : w8.heap[Bb]? = some (.cells #[vb] 47 (0, 0))) (hO8 : w8.heap[Bo]? = some (.cells #[vo] 22 (0, 0))) :
    LInv w0 base Bo Bb (w8.setCell ⟨Bo, 0, none⟩ v8) v8 vb out8 bl := by
  have hne : Bb ≠ Bo := by
    intro e
    subst e
    rw [hO8] at hB8
    injection hB8 with h
    injection h with _ h
    exact absurd h (by decide)
  have hty : ∀ k, (Value.slice (some ⟨Bo, 0, none⟩) 1 1).ownBlock = some k → ∃ cells, w8.heap[k]? = some (.cells cells 22 (0, 0)) := fun k hk => by cases hk; exact ⟨_, hO8⟩
  have hR8 := Kd.R_over' (v := vo) (e' := 5) hI7.rb (Kd.R_typed hI7.ro) (by decide) hg8
  have hset : w8.grownBy (w8.setCell ⟨Bo, 0, none⟩ v8) (Value.slice (some ⟨Bo, 0, none⟩) 1 1).ownBlock := grown_set w8 Bo 0 v8
  exact ⟨one_setCell hO8, (Below.heap_setCell w8 ⟨Bo, 0, none⟩ v8 Bb hne).trans hB8, Kd.R_over' (v := .slice (some ⟨Bo, 0, none⟩) 1 1) ho8 hty (by decide) hset, Kd.R_over' (v := .slice (some ⟨Bo, 0, none⟩) 1 1) hR8 hty (by decide) hset, hI7.hbo, hI7.hbb, hb8.setCell (p := ⟨Bo, 0, none⟩) hI7.hbo _⟩

set_option maxHeartbeats 4000000 in
theorem lay_any (w0 : World) (base Bo Bb : Nat) (A0 : Option Addr) (c0 : Nat) (l0 : List Int) (w : World) (vo vb : Value) (out : List Int) (bl : List S58) (hI : LInv w0 base Bo Bb w vo vb out bl)
    (hr0 : Kd.C (Kd.int .u8) w A0 l0.length l0) (hby : ∀ x ∈ l0, 0 ≤ x ∧ x ≤ 255) (hl : l0.length ≤ 4096) (hout : out.length ≤ 1000000) (hbl : bl.length ≤ 1000000) :
    Calls Try.prog 56 #[.slice A0 l0.length c0, .pointer (some ⟨Bb, 0, none⟩), .pointer (some ⟨Bo, 0, none⟩)] w fun e w' => e = .returned (.tuple #[]) ∧
      ∃ vo' vb', LInv w0 base Bo Bb w' vo' vb' (out ++ pieceS l0) (bl ++ [blockS out.length l0]) := by
  have HR0 := Aside0.mk hr0
  have HI := Aside0.mk hI
  clear hr0 hI
  obtain ⟨p, hp⟩ : ∃ p, (packS l0).1 = p := ⟨_, rfl⟩
  have hpk : packS l0 = (p, 0) := by rw [← hp]; unfold packS; rw [if_neg (by omega)]
  have hpb : ∀ x ∈ p, 0 ≤ x ∧ x ≤ 255 := by rw [← hp]; exact packS_bytes l0 hby
  have hpl : p.length ≤ 6000 := by have := packS_length l0 hby; rw [hp] at this; omega
  have hpc : Aside0 (pieceS l0 = if l0.length ≤ p.length then l0 else p) := ⟨by rw [pieceS, hp]⟩
  have HPK := Aside0.mk hpk
  clear hp hpk
  go_enter Try.func56, Try.ntmps56
  go_upto_if 19 with (go_at_call 20; refine (pack_any _ _ _ _ HR0.out hby (by omega)).mono ?_; rw [HPK.out]; rintro e w1 ⟨v1, rfl, hR1, hB1⟩; obtain ⟨A1, k1, rfl⟩ := Kd.R_slice hR1; have H1 := Aside0.mk (⟨hR1, hB1⟩ : _ ∧ _); clear hR1 hB1)
  go_cut [4] (fun v4 wc => ∃ (A4 : Option Addr) (k4 : Nat), v4 = .slice A4 (pieceS l0).length k4 ∧ Aside0 (Kd.R (Kd.int .u8) 5 wc w.heap.size (fun _ => True) (.slice A4 (pieceS l0).length k4) (pieceS l0)) ∧ Aside0 (Below w.heap.size w wc))
  case first =>
    by_cases hge : l0.length ≤ p.length
    · have hge1 : (l0.length : Int) ≤ (p.length : Int) := by omega
      have HP := hpc.out
      rw [if_pos hge] at HP
      have HP := Aside0.mk HP
      clear hge
      go_wp2_with (first
        | (at_make; go_loud (refine Kd.R_make (Kd.int .u8) (w0 := w) w.heap.size 5 rfl rfl 22 _ _ rfl (l0.length : Int) rfl rfl Try.underlying22 (.int .u8 0) 1 info5 rfl (by decide) (by omega) 0 (ok := fun _ => True) (okp := fun _ => False) rfl (fun _ _ => trivial) trivial (by omega) (by simp; omega) H1.out.2 H1.out.2.size ?_); intro v2 w2 ho2 hb2 hg2 hat2)
        | ((with_reducible refine gate_builtin (b := .copy) (xs := #[.tmp 23, .tmp 24]) rfl ?_); go_loud (refine Kd.R_copy (0 : Int) (w0 := w) w.heap.size rfl (.tmp 23) (.tmp 24) 22 22 5 rfl Try.underlying22 (by kernel_rfl) v2 (List.replicate l0.length 0) l0 A0 l0.length c0 (fun _ => True) rfl rfl ho2 (Kd.C_below HR0.out hb2) hb2 hb2.size ?_); intro w3 ho3 hb3 hg3))
      go_meet
      case rel =>
        have ho3' : Kd.R (Kd.int .u8) 5 w3 w.heap.size (fun _ => True) v2 l0 := by
          have e : l0.take (min l0.length (List.replicate l0.length (0 : Int)).length) ++ (List.replicate l0.length (0 : Int)).drop (min l0.length (List.replicate l0.length (0 : Int)).length) = l0 := by simp
          have h := ho3
          rw [e] at h
          exact h
        obtain ⟨A4, k4, rfl⟩ := Kd.R_slice ho3'
        rw [HP.out]
        exact ⟨A4, k4, rfl, ⟨ho3'⟩, ⟨hb3⟩⟩
    · have hge1 : decide ((l0.length : Int) ≤ (p.length : Int)) = false := by simp; omega
      have hge2 : decide (l0.length ≤ p.length) = false := by simp; omega
      have hge3 : (p.length : Int) < (l0.length : Int) := by omega
      clear hge1 hge2
      have HP := hpc.out
      rw [if_neg hge] at HP
      have HP := Aside0.mk HP
      clear hge
      go_wp2
      go_meet
      case rel =>
        rw [HP.out]
        exact ⟨A1, k1, rfl, ⟨H1.out.1⟩, ⟨H1.out.2⟩⟩
  case rest =>
    obtain ⟨A4, k4, rfl, HC4, HB4⟩ := hcut
    have HI1 := Aside0.mk ((HI.out.step HB4.out).step (Below.refl wc.heap.size wc).drew)
    have HC5 : Aside0 (Kd.R (Kd.int .u8) 5 wc.drew w.heap.size (fun _ => True) (.slice A4 (pieceS l0).length k4) (pieceS l0)) := ⟨Kd.R_drew HC4.out⟩
    obtain ⟨q, hq⟩ : ∃ q, pieceS l0 = q := ⟨_, rfl⟩
    have hqb : ∀ x ∈ q, 0 ≤ x ∧ x ≤ 255 := by
      rw [← hq, hpc.out]
      split
      · exact hby
      · exact hpb
    have hql : q.length ≤ 6000 := by
      rw [← hq, hpc.out]
      split <;> omega
    obtain ⟨nq, hnq⟩ : ∃ nq, sumS q = nq := ⟨_, rfl⟩
    have HBS : Aside0 (blockS out.length l0 = ⟨out.length, q.length, l0.length, nq⟩) := ⟨by rw [blockS, hq, hnq]⟩
    have HNQ := Aside0.mk hnq
    have HQQ := Aside0.mk hq
    rw [hq] at HC4 HC5 ⊢
    clear hq hnq hpc HPK H1 HI HB4 hpb hpl HR0
    obtain ⟨Ao, ko, rfl⟩ := Kd.R_slice HI1.out.ro
    have hcb := cell_of_one HI1.out.bb
    have hco := cell_of_one HI1.out.bo
    have hfb := free_of_one HI1.out.bb
    have hfo := free_of_one HI1.out.bo
    go_wp2_with fail
    go_region_law (first
      | (refine Kd.R_append_step k58 (w0 := w0) base rfl (.tmp 26) (.tmp 36) 47 58 _ 32 rfl Try.underlying47 info58 rfl (by decide) (by omega) vb bl ⟨out.length, q.length, l0.length, nq⟩ _ (fun _ => True) (fun _ => False) rfl rfl (k58_mkM _ _ _ _) (fun _ hk => hk.elim) (fun _ _ => trivial) (Kd.R_below HI1.out.rb hb5) (bel_next HI1.out.bel HI1.out.base_le hb5) (Nat.le_trans HI1.out.base_le hb5.size) (by omega) ?_; intro v6 w6 ho6 hb6 hg6 hat6; obtain ⟨A6, k6, e6⟩ := Kd.R_slice ho6; rw [List.length_append, List.length_singleton] at e6; subst e6; have hB6 := grown_block hg6 hI5.bb (ne_block hI5.rb hI5.bb (by decide)); have hO6 := grown_block hg6 hI5.bo (ne_block hI5.rb hI5.bo (by decide)); have hc6 := cell_of_one hB6; have hf6 := free_of_one hB6)
      | (go_simp; go_at_call 45; refine (sum_any _ _ _ _ (Kd.R_reads' HC5.out).2.2 hqb (by omega)).mono ?_; rw [HNQ.out]; rintro e w5 ⟨rfl, hb5⟩; have hI5 := HI1.out.step hb5; have hcb5 := cell_of_one hI5.bb; have hco5 := cell_of_one hI5.bo; have hcbA := cell_alloc hcb5 (.cells #[.int .i64 out.length, .int .i64 q.length, .int .i64 l0.length, .int .i64 nq] 58); have hcoA := cell_alloc hco5 (.cells #[.int .i64 out.length, .int .i64 q.length, .int .i64 l0.length, .int .i64 nq] 58)))
    all_goals
      have HN := Aside0.mk (lay_mid hI5 (Kd.R_below HC5.out hb5) ho6 hb6 hg6 hB6 hO6)
      clear hcb hco hfb hfo hcb5 hco5 hcbA hcoA hc6 hf6 hB6 hO6 hat6 hg6 hb6 ho6 hI5 hb5
      generalize Value.slice A6 (bl.length + 1) k6 = v7 at HN
      generalize w6.setCell ⟨Bb, 0, none⟩ v7 = w7 at HN
      have hco7 := cell_of_one HN.out.1.bo
      go_wp2_with (at_builtin; go_loud (refine Kd.R_append_rows (Kd.int .u8) (w0 := w0) base rfl (.tmp 38) (.tmp 39) 22 5 (.int .u8 0) 1 rfl Try.underlying22 info5 rfl (by decide) (by omega) (.slice Ao out.length ko) out q A4 q.length k4 (fun _ => True) (fun _ => False) rfl rfl HN.out.1.ro (Kd.R_reads' HN.out.2).2.2 (fun _ _ h => h) (fun _ hk => hk.elim) (fun _ _ => trivial) HN.out.1.bel HN.out.1.base_le (by omega) ?_); intro v8 w8 ho8 hb8 hg8 hat8; obtain ⟨A8, k8, e8⟩ := Kd.R_slice ho8; rw [List.length_append] at e8; subst e8; have hB8 := grown_block hg8 HN.out.1.bb (ne_block HN.out.1.ro HN.out.1.bb (by decide)); have hO8 := grown_block hg8 HN.out.1.bo (ne_block HN.out.1.ro HN.out.1.bo (by decide)); have hc8 := cell_of_one hO8; have hf8 := free_of_one hO8)
      go_end0
      rw [HBS.out, HQQ.out]
      exact ⟨rfl, _, _, lay_end HN.out.1 ho8 hb8 hg8 hB8 hO8⟩
end Go.Proofs.Ytoefligelajfkaa.Block

namespace Go.Proofs.Ytoefligelajfkaa.Block
open Go.RowKit Go.Proofs.YtoefligelajfkaaW.PrintWords Go.Proofs.YtoefligelajfkaaW.PrintLast Go.Proofs.YtoefligelajfkaaW.PrintMore Go.Proofs.Ytoefligelajfkaa.Press
open Go.Proofs.Ytoefligelajfkaa.PBlockOpens (S58 k58 rd_T58 at_T58)

theorem eqR58 (d : Nat) (w : World) (x0 y0 : Int) (x1 y1 : Int) (x2 y2 : Int) (x3 y3 : Int) :
    (Op.equalIn (d + 2) 58 (.agg #[.int .i64 x0, .int .i64 x1, .int .i64 x2, .int .i64 x3]) (.agg #[.int .i64 y0, .int .i64 y1, .int .i64 y2, .int .i64 y3])).run Try.prog w = .ok (x0 == y0 && (x1 == y1 && (x2 == y2 && (x3 == y3)))) w := by
  refine eqA_of Try.underlying58 (by kernel_rfl) ?_
  refine eqf_cons (by rfl) (by go_simp; rfl) (by go_simp; rfl) (by go_simp) ?_
  refine eqf_cons (by rfl) (by go_simp; rfl) (by go_simp; rfl) (by go_simp) ?_
  refine eqf_cons (by rfl) (by go_simp; rfl) (by go_simp; rfl) (by go_simp) ?_
  exact eqf_last (by rfl) (by go_simp; rfl) (by go_simp; rfl) (by go_simp)

attribute [local go_sem high] eqR58
set_option maxHeartbeats 1000000 in
theorem rows_true (A0 : Option Addr) (c0 : Nat) (A1 : Option Addr) (c1 : Nat) (l : List S58) (w : World) (h0 : k58.C w A0 l.length l) (h1 : k58.C w A1 l.length l) (hl : l.length ≤ 140737488355328) :
    Calls Try.prog 36 #[.slice A0 l.length c0, .slice A1 l.length c1] w fun e w' => e = .returned (.bool true) ∧ Drawn0 w w' := by
  have H0 := Aside0.mk h0
  have H1 := Aside0.mk h1
  clear h0 h1
  go_enter Try.func36, Try.ntmps36
  go_wp2
  go_loopg [5] l.length (fun k v5 w' => ∃ i : Nat, v5 = .int .i64 i ∧ i + k = l.length ∧ Aside0 (Drawn0 w w'))
  case atStart => exact ⟨0, rfl, by omega, ⟨Drawn0.refl _⟩⟩
  case round =>
    obtain ⟨i, rfl, hik, HD⟩ := hrel
    cases gk with
    | zero =>
      have hi : i = l.length := by omega
      subst hi
      go_wp2
      go_ret
      exact ⟨rfl, HD.out⟩
    | succ k =>
      have hi : i < l.length := by omega
      have hi1 : (i : Int) < (l.length : Int) := by omega
      obtain ⟨ad, e0, a0, a1, a2, a3⟩ := at_T58 (Kd.C_below H0.out HD.out.below) (i : Int) (by omega) (by omega)
      cases e0
      obtain ⟨ad1, e1, b0, b1, b2, b3⟩ := at_T58 (Kd.C_below H1.out HD.out.below) (i : Int) (by omega) (by omega)
      cases e1
      simp only [Int.toNat_natCast] at a0 a1 a2 a3 b0 b1 b2 b3
      obtain ⟨⟨y0, y1, y2, y3⟩, hy⟩ : ∃ y, rd_T58 l (i : Int) = y := ⟨_, rfl⟩
      rw [hy] at a0 a1 a2 a3 b0 b1 b2 b3
      simp only [] at a0 a1 a2 a3 b0 b1 b2 b3
      clear hy
      go_wp2
      go_quiet (fail)
      go_wp2
      go_roundg k
      case measure => omega
      case rel => exact ⟨i + 1, by go_num, by omega, ⟨HD.out.step _⟩⟩
end Go.Proofs.Ytoefligelajfkaa.Block

namespace Go.Proofs.Ytoefligelajfkaa.Own
open Go.RowKit Go.Proofs.YtoefligelajfkaaW.PrintWords Go.Proofs.YtoefligelajfkaaW.PrintLast Go.Proofs.YtoefligelajfkaaW.PrintMore Go.Proofs.Ytoefligelajfkaa.Press Go.Proofs.Ytoefligelajfkaa.Sep Go.Proofs.Ytoefligelajfkaa.Block

theorem reps_at {n i j : Nat} {p : List Value} {u : Value} (hi : i < n) (hu : p[j]? = some u) : (reps n p)[i * p.length + j]? = some u := by
  induction n generalizing i with
  | zero => omega
  | succ n ih =>
    have hj := (List.getElem?_eq_some_iff.1 hu).1
    rw [reps_succ]
    by_cases h : i < n
    · rw [List.getElem?_append_left]
      · exact ih h
      · rw [reps_length]
        have : (i + 1) * p.length ≤ n * p.length := Nat.mul_le_mul_right _ h
        rw [Nat.succ_mul] at this
        omega
    · obtain rfl : i = n := by omega
      rw [List.getElem?_append_right (by rw [reps_length]; omega), reps_length, show i * p.length + j - i * p.length = j from by omega]
      exact hu
theorem reps_at2 {n r i j : Nat} {p q : List Value} {u : Value} (hpq : q.length = p.length) (h1 : n ≤ i) (hi : i < n + r) (hu : q[j]? = some u) : (reps n p ++ reps r q)[i * p.length + j]? = some u := by
  have h2 : n * p.length ≤ i * p.length := Nat.mul_le_mul_right _ h1
  rw [List.getElem?_append_right (by rw [reps_length]; omega), reps_length, show i * p.length + j - n * p.length = (i - n) * q.length + j from by rw [hpq, Nat.sub_mul]; omega]
  exact reps_at (by omega) hu

theorem Ent.l_cell {b e sz n r : Nat} {l g : SlV} {p q : List Value} {F : Nat → Prop} {W : World} (h : Ent b e sz l g p q n r F W) {i : Nat} (hi : i < n) : ∃ gl c, l = ⟨some ⟨gl, 0, none⟩, n, c⟩ ∧ ∀ j u, p[j]? = some u → W.cell? ⟨gl, i * p.length + j, none⟩ = some u := by
  obtain ⟨g1, c, e1, -, h2, -⟩ := own_cell h.lo (by omega)
  obtain ⟨lA, ln, lc⟩ := l
  injection e1 with e2 e3 e4
  subst e2 e3 e4
  exact ⟨g1, _, rfl, fun j u hu => h2 _ u (reps_at hi hu)⟩
theorem Ent.g_cell {b e sz n r : Nat} {l g : SlV} {p q : List Value} {F : Nat → Prop} {W : World} (h : Ent b e sz l g p q n r F W) (hpq : q.length = p.length) {i : Nat} (hi : i < n + r) : ∃ gl c, g = ⟨some ⟨gl, 0, none⟩, n + r, c⟩ ∧ (i < n → ∀ j u, p[j]? = some u → W.cell? ⟨gl, i * p.length + j, none⟩ = some u) ∧ (n ≤ i → ∀ j u, q[j]? = some u → W.cell? ⟨gl, i * p.length + j, none⟩ = some u) := by
  obtain ⟨g1, c, e1, -, h2, -⟩ := own_cell h.go (by omega)
  obtain ⟨lA, ln, lc⟩ := g
  injection e1 with e2 e3 e4
  subst e2 e3 e4
  refine ⟨g1, _, rfl, fun h3 j u hu => h2 _ u ?_, fun h3 j u hu => h2 _ u (reps_at2 hpq h3 hi hu)⟩
  have h4 := reps_at h3 hu
  rw [List.getElem?_append_left (List.getElem?_eq_some_iff.1 h4).1]
  exact h4

section
variable {b kb R : Nat} {vr vl : SlV} {rs ls : List BRow} {X : Col → Pr} {c : Nat → Col} {w0 W W1 : World}
theorem st_entry (h : Store b w0 W c (stS b kb R vr vl rs ls X)) {k : Nat} {r : BRow} (hr : rs[k]? = some r) : ∃ gr cap, vr = ⟨some ⟨gr, 0, none⟩, rs.length, cap⟩ ∧ rs.length ≤ cap ∧ W.cell? ⟨gr, k * 3, none⟩ = some r.l.v ∧ W.cell? ⟨gr, k * 3 + 1, none⟩ = some r.g.v ∧ W.cell? ⟨gr, k * 3 + 2, none⟩ = some (.int .u8 r.mark) ∧
    ∃ n t, t ≤ R ∧ n ≤ 1000000 ∧ Ent b 5 1 r.l r.g (pB r.mark) (pB (r.mark + 1)) n t (fun g => c g = .row k) W := by
  obtain ⟨h1, h2, h3⟩ := st_rows h
  have hk := (List.getElem?_eq_some_iff.1 hr).1
  obtain ⟨g1, cp, e1, hcp, h4, -⟩ := own_cell h1 (by omega)
  obtain ⟨vA, vn, vc⟩ := vr
  injection e1 with e2 e3 e4
  simp only at h3
  subst e2 e4 h3
  have h5 := h.all (.row k)
  simp only [stS, hr] at h5
  exact ⟨g1, _, rfl, hcp, h4 (k * 3 + 0) _ (flatMap_at rs k r hr 0 _ rfl), h4 _ _ (flatMap_at rs k r hr 1 _ rfl), h4 _ _ (flatMap_at rs k r hr 2 _ rfl), h5⟩
theorem st_entryL (h : Store b w0 W c (stS b kb R vr vl rs ls X)) {k : Nat} {r : BRow} (hr : ls[k]? = some r) : ∃ gr cap, vl = ⟨some ⟨gr, 0, none⟩, ls.length, cap⟩ ∧ ls.length ≤ cap ∧ W.cell? ⟨gr, k * 3, none⟩ = some r.l.v ∧ W.cell? ⟨gr, k * 3 + 1, none⟩ = some r.g.v ∧ W.cell? ⟨gr, k * 3 + 2, none⟩ = some (.int .i64 r.mark) ∧
    ∃ n t, t ≤ R ∧ n ≤ 1000000 ∧ Ent b 58 4 r.l r.g (pL r.mark) (pL (r.mark + 1)) n t (fun g => c g = .lst k) W := by
  obtain ⟨h1, h2, h3⟩ := st_lists h
  have hk := (List.getElem?_eq_some_iff.1 hr).1
  obtain ⟨g1, cp, e1, hcp, h4, -⟩ := own_cell h1 (by omega)
  obtain ⟨vA, vn, vc⟩ := vl
  injection e1 with e2 e3 e4
  simp only at h3
  subst e2 e4 h3
  have h5 := h.all (.lst k)
  simp only [stS, hr] at h5
  exact ⟨g1, _, rfl, hcp, h4 (k * 3 + 0) _ (flatMap_at ls k r hr 0 _ rfl), h4 _ _ (flatMap_at ls k r hr 1 _ rfl), h4 _ _ (flatMap_at ls k r hr 2 _ rfl), h5⟩
end
attribute [local go_sem high] Go.Proofs.Ytoefligelajfkaa.Block.eqR58
set_option maxHeartbeats 8000000 in
set_option maxRecDepth 100000 in
theorem still_any (b kb R : Nat) (vr vl : SlV) (rs ls : List BRow) (X : Col → Pr) (c : Nat → Col) (w0 w : World) (hb0 : b ≤ w0.heap.size) (hR : R ≤ 1000000000000)
    (H : Store b w0 w c (stS b kb R vr vl rs ls X)) (hrs : rs.length ≤ 100000000) (hls : ls.length ≤ 100000000) (hm : ∀ r ∈ rs, 0 ≤ r.mark ∧ r.mark ≤ 200) (hml : ∀ r ∈ ls, 0 ≤ r.mark ∧ r.mark ≤ 1000000000) :
    Calls Try.prog 48 #[.pointer (some ⟨kb, 0, none⟩)] w fun e w' => e = .returned (.bool true) ∧ Below w.heap.size w w' := by
  have HH := Aside0.mk H
  have HM := Aside0.mk hm
  have HML := Aside0.mk hml
  have hrn : vr.n = rs.length := (st_rows H).2.2
  have hln : vl.n = ls.length := (st_lists H).2.2
  obtain ⟨Ar, nr, kr⟩ := vr
  obtain ⟨Al, nl, kl⟩ := vl
  simp only at hrn hln
  subst hrn hln
  clear H hm hml
  go_enter Try.func48, Try.ntmps48
  go_wp2
  go_loopg [3, 4, 5] rs.length (fun k v3 v4 v5 w' => ∃ i : Nat, v3 = .int .i64 i ∧ i + k = rs.length ∧ Aside0 (Below w.heap.size w w'))
  case atStart => exact ⟨0, rfl, by omega, ⟨Below.refl _ _⟩⟩
  case round =>
    obtain ⟨i, rfl, hik, HB⟩ := hrel
    have hS := HH.out.below hb0 HB.out
    obtain ⟨hbk, -, -⟩ := st_book hS
    have hc0 : wr.cell? ⟨kb, 0, none⟩ = some (.slice Ar rs.length kr) := by rw [blk_cell hbk]; rfl
    have hc1 : wr.cell? ⟨kb, 1, none⟩ = some (.slice Al ls.length kl) := by rw [blk_cell hbk]; rfl
    clear hbk
    cases gk with
    | zero =>
      obtain rfl : i = rs.length := by omega
      clear hS hik
      go_wp2
      go_loopg [6, 7, 8] ls.length (fun k v6 v7 v8 w' => ∃ i : Nat, v6 = .int .i64 i ∧ i + k = ls.length ∧ Aside0 (Below w.heap.size w w'))
      case atStart => exact ⟨0, rfl, by omega, HB⟩
      case round =>
        clear HB hc0 hc1
        obtain ⟨i, rfl, hik, HB⟩ := hrel
        have hS := HH.out.below hb0 HB.out
        obtain ⟨hbk, -, -⟩ := st_book hS
        have hc1 : wr.cell? ⟨kb, 1, none⟩ = some (.slice Al ls.length kl) := by rw [blk_cell hbk]; rfl
        clear hbk
        cases gk with
        | zero =>
          obtain rfl : i = ls.length := by omega
          clear hS
          go_wp2
          go_ret
          exact ⟨rfl, HB.out⟩
        | succ k =>
          have hi : i < ls.length := by omega
          have hi2 : (i : Int) < (ls.length : Int) := by omega
          obtain ⟨r, hr⟩ : ∃ r, ls[i]? = some r := ⟨_, List.getElem?_eq_getElem hi⟩
          obtain ⟨hm0, hm1⟩ := HML.out r (List.mem_of_getElem? hr)
          obtain ⟨gr, cap, e, hcap, h0, h1, h2, n, t, htR, hn, hE⟩ := st_entryL hS hr
          cases e
          obtain ⟨⟨lA, ln, lc⟩, ⟨gA, gn, gc⟩, m⟩ := r
          obtain rfl : ln = n := hE.ln
          have HGN : Aside0 (gn = ln + t) := ⟨hE.gn⟩
          have hgnb : gn ≤ 2000000000000 := by have := HGN.out; omega
          replace h0 : wr.cell? ⟨gr, i * 3, none⟩ = some (.slice lA ln lc) := h0
          replace h1 : wr.cell? ⟨gr, i * 3 + 1, none⟩ = some (.slice gA gn gc) := h1
          replace h2 : wr.cell? ⟨gr, i * 3 + 2, none⟩ = some (.int .i64 m) := h2
          replace hm0 : 0 ≤ m := hm0
          replace hm1 : m ≤ 1000000000 := hm1
          have HE := Aside0.mk hE
          have hw8 : IntKind.i64.wrap (m + 1) = m + 1 := IntWalk.i64_in _ (by omega)
          clear hS hE hr
          go_wp2
          clear h0 h1 h2 hc1
          obtain ⟨wo, rfl⟩ : ∃ wo : World, wo = wr := ⟨_, rfl⟩
          go_loopg [8] gn (fun q v8 w' => ∃ j : Nat, v8 = .int .i64 j ∧ j + q = gn ∧ Aside0 (Drawn0 (wo.alloc (.cells #[.slice lA ln lc, .slice gA gn gc, .int .i64 m] 90)) w'))
          case atStart => exact ⟨0, rfl, by omega, ⟨Drawn0.refl _⟩⟩
          case round =>
            obtain ⟨j, rfl, hjq, HD⟩ := hrel
            have hBW : Below wo.heap.size wo wr := by
              obtain ⟨nd, hnd⟩ := HD.out.out
              rw [hnd]
              exact pw_below_drewN (below_alloc (Below.refl _ _) _) nd
            have hbx : wr.heap[wo.heap.size]? = some (.cells #[.slice lA ln lc, .slice gA gn gc, .int .i64 m] 90 (0, 0)) := by
              obtain ⟨nd, hnd⟩ := HD.out.out
              rw [hnd]
              exact heap_alloc_new wo _
            have hb0 : wr.cell? ⟨wo.heap.size, 0, none⟩ = some (.slice lA ln lc) := by rw [blk_cell hbx]; rfl
            have hb1 : wr.cell? ⟨wo.heap.size, 1, none⟩ = some (.slice gA gn gc) := by rw [blk_cell hbx]; rfl
            have hb2 : wr.cell? ⟨wo.heap.size, 2, none⟩ = some (.int .i64 m) := by rw [blk_cell hbx]; rfl
            have HBW := Aside0.mk hBW
            clear hbx hBW
            cases gk with
            | zero =>
              obtain rfl : j = gn := by omega
              go_wp2
              go_roundg k
              case measure => omega
              case rel => exact ⟨i + 1, by go_num, by omega, ⟨HB.out.trans (HBW.out.mono HB.out.size)⟩⟩
            | succ q =>
              have hj : j < gn := by omega
              have hj2 : (j : Int) < (gn : Int) := by omega
              have hj0 : (0 : Int) ≤ (j : Int) := by omega
              obtain ⟨gg, gcap, eg, hg1, hg2⟩ := Ent.g_cell HE.out rfl (show j < ln + t by have := HGN.out; omega)
              cases eg
              by_cases hjl : j < ln
              · have hjl2 : (j : Int) < (ln : Int) := by omega
                obtain ⟨gl, lcap, el, hl1⟩ := Ent.l_cell HE.out hjl
                cases el
                have hcl : wr.cell? ⟨gl, j * 4, none⟩ = some (.int .i64 m) := pw_cell_below HBW.out (hl1 0 _ rfl)
                have hcg : wr.cell? ⟨gg, j * 4, none⟩ = some (.int .i64 m) := pw_cell_below HBW.out (hg1 hjl 0 _ rfl)
                clear hg1 hg2 hl1
                have d1 : decide ((ln : Int) ≤ (j : Int)) = false := by simp; omega
                have d2 : decide (ln ≤ j) = false := by simp; omega
                have d3 : decide (j < ln) = true := by simp; omega
                have d4 : decide ((j : Int) < (ln : Int)) = true := by simp; omega
                go_wp2
                go_quiet (fail)
                go_wp2
                go_roundg q
                case measure => omega
                case rel => exact ⟨j + 1, by go_num, by omega, ⟨HD.out.step _⟩⟩
              · have hjl2 : (ln : Int) ≤ (j : Int) := by omega
                have hcg : wr.cell? ⟨gg, j * 4, none⟩ = some (.int .i64 (m + 1)) := pw_cell_below HBW.out (hg2 (by omega) 0 _ rfl)
                have hcg1 : wr.cell? ⟨gg, j * 4 + 1, none⟩ = some (.int .i64 0) := pw_cell_below HBW.out (hg2 (by omega) 1 _ rfl)
                have hcg2 : wr.cell? ⟨gg, j * 4 + 2, none⟩ = some (.int .i64 0) := pw_cell_below HBW.out (hg2 (by omega) 2 _ rfl)
                have hcg3 : wr.cell? ⟨gg, j * 4 + 3, none⟩ = some (.int .i64 0) := pw_cell_below HBW.out (hg2 (by omega) 3 _ rfl)
                have d1 : decide ((ln : Int) ≤ (j : Int)) = true := by simp; omega
                have d2 : decide (ln ≤ j) = true := by simp; omega
                have d3 : decide (j < ln) = false := by simp; omega
                have d4 : decide ((j : Int) < (ln : Int)) = false := by simp; omega
                clear hg1 hg2 hjl
                go_wp2
                go_quiet (fail)
                go_wp2
                go_roundg q
                case measure => omega
                case rel => exact ⟨j + 1, by go_num, by omega, ⟨HD.out.step _⟩⟩
    | succ k =>
      have hi : i < rs.length := by omega
      have hi2 : (i : Int) < (rs.length : Int) := by omega
      obtain ⟨r, hr⟩ : ∃ r, rs[i]? = some r := ⟨_, List.getElem?_eq_getElem hi⟩
      obtain ⟨hm0, hm1⟩ := HM.out r (List.mem_of_getElem? hr)
      obtain ⟨gr, cap, e, hcap, h0, h1, h2, n, t, htR, hn, hE⟩ := st_entry hS hr
      cases e
      obtain ⟨⟨lA, ln, lc⟩, ⟨gA, gn, gc⟩, m⟩ := r
      obtain rfl : ln = n := hE.ln
      have HGN : Aside0 (gn = ln + t) := ⟨hE.gn⟩
      have hgnb : gn ≤ 2000000000000 := by have := HGN.out; omega
      replace h0 : wr.cell? ⟨gr, i * 3, none⟩ = some (.slice lA ln lc) := h0
      replace h1 : wr.cell? ⟨gr, i * 3 + 1, none⟩ = some (.slice gA gn gc) := h1
      replace h2 : wr.cell? ⟨gr, i * 3 + 2, none⟩ = some (.int .u8 m) := h2
      replace hm0 : 0 ≤ m := hm0
      replace hm1 : m ≤ 200 := hm1
      have HE := Aside0.mk hE
      have hw8 : IntKind.u8.wrap (m + 1) = m + 1 := IntWalk.u8_in _ (by omega)
      clear hS hE hr
      go_wp2
      clear h0 h1 h2 hc0 hc1
      obtain ⟨wo, rfl⟩ : ∃ wo : World, wo = wr := ⟨_, rfl⟩
      go_loopg [5] gn (fun q v5 w' => ∃ j : Nat, v5 = .int .i64 j ∧ j + q = gn ∧ Aside0 (Drawn0 (wo.alloc (.cells #[.slice lA ln lc, .slice gA gn gc, .int .u8 m] 88)) w'))
      case atStart => exact ⟨0, rfl, by omega, ⟨Drawn0.refl _⟩⟩
      case round =>
        obtain ⟨j, rfl, hjq, HD⟩ := hrel
        have hBW : Below wo.heap.size wo wr := by
          obtain ⟨nd, hnd⟩ := HD.out.out
          rw [hnd]
          exact pw_below_drewN (below_alloc (Below.refl _ _) _) nd
        have hbx : wr.heap[wo.heap.size]? = some (.cells #[.slice lA ln lc, .slice gA gn gc, .int .u8 m] 88 (0, 0)) := by
          obtain ⟨nd, hnd⟩ := HD.out.out
          rw [hnd]
          exact heap_alloc_new wo _
        have hb0 : wr.cell? ⟨wo.heap.size, 0, none⟩ = some (.slice lA ln lc) := by rw [blk_cell hbx]; rfl
        have hb1 : wr.cell? ⟨wo.heap.size, 1, none⟩ = some (.slice gA gn gc) := by rw [blk_cell hbx]; rfl
        have hb2 : wr.cell? ⟨wo.heap.size, 2, none⟩ = some (.int .u8 m) := by rw [blk_cell hbx]; rfl
        have HBW := Aside0.mk hBW
        clear hbx hBW
        cases gk with
        | zero =>
          obtain rfl : j = gn := by omega
          go_wp2
          go_roundg k
          case measure => omega
          case rel => exact ⟨i + 1, by go_num, by omega, ⟨HB.out.trans (HBW.out.mono HB.out.size)⟩⟩
        | succ q =>
          have hj : j < gn := by omega
          have hj2 : (j : Int) < (gn : Int) := by omega
          have hj0 : (0 : Int) ≤ (j : Int) := by omega
          obtain ⟨gg, gcap, eg, hg1, hg2⟩ := Ent.g_cell HE.out rfl (show j < ln + t by have := HGN.out; omega)
          cases eg
          by_cases hjl : j < ln
          · have hjl2 : (j : Int) < (ln : Int) := by omega
            obtain ⟨gl, lcap, el, hl1⟩ := Ent.l_cell HE.out hjl
            cases el
            have hcl : wr.cell? ⟨gl, j, none⟩ = some (.int .u8 m) := pw_cell_below HBW.out (by have := hl1 0 _ rfl; simpa [pB] using this)
            have hcg : wr.cell? ⟨gg, j, none⟩ = some (.int .u8 m) := pw_cell_below HBW.out (by have := hg1 hjl 0 _ rfl; simpa [pB] using this)
            clear hg1 hg2 hl1
            have d1 : decide ((ln : Int) ≤ (j : Int)) = false := by simp; omega
            have d2 : decide (ln ≤ j) = false := by simp; omega
            have d3 : decide (j < ln) = true := by simp; omega
            have d4 : decide ((j : Int) < (ln : Int)) = true := by simp; omega
            go_wp2
            go_quiet (fail)
            go_wp2
            go_roundg q
            case measure => omega
            case rel => exact ⟨j + 1, by go_num, by omega, ⟨HD.out.step _⟩⟩
          · have hjl2 : (ln : Int) ≤ (j : Int) := by omega
            have hcg : wr.cell? ⟨gg, j, none⟩ = some (.int .u8 (m + 1)) := pw_cell_below HBW.out (by have := hg2 (by omega) 0 _ rfl; simpa [pB] using this)
            have d1 : decide ((ln : Int) ≤ (j : Int)) = true := by simp; omega
            have d2 : decide (ln ≤ j) = true := by simp; omega
            have d3 : decide (j < ln) = false := by simp; omega
            have d4 : decide ((j : Int) < (ln : Int)) = false := by simp; omega
            clear hg1 hg2 hjl
            go_wp2
            go_quiet (fail)
            go_wp2
            go_roundg q
            case measure => omega
            case rel => exact ⟨j + 1, by go_num, by omega, ⟨HD.out.step _⟩⟩
end Go.Proofs.Ytoefligelajfkaa.Own

namespace Go.Proofs.Ytoefligelajfkaa.Sep
section
variable {P : Program} {ops : Array Oper} {Q : Exit → Act → World → Prop} {md : Region.Mode} {S : World → Prop} {n : Nat}
/-- Whatever order is picked, and S holds behind each operation but number n (which waits for all whose value hangs on S). -/
def wpAnyK (P : Program) (md : Region.Mode) (ops : Array Oper) (Q : Exit → Act → World → Prop) (S : World → Prop) (n : Nat) : Nat → Array Bool → Act → World → Prop
  | 0, listed, a, w => Region.ready md ops listed = [] ∧ Q .normal a w
  | fuel + 1, listed, a, w => (Region.ready md ops listed = [] → Q .normal a w) ∧ ∀ i ∈ Region.ready md ops listed, wpOp P ops Q i (fun a' w' => (i ≠ n → S w') ∧ wpAnyK P md ops Q S n fuel (listed.setIfInBounds i true) a' w') a w
theorem wpAny_of_K : ∀ (fuel : Nat) (listed : Array Bool) (a : Act) (w : World), wpAnyK P md ops Q S n fuel listed a w → wpAny P md ops Q fuel listed a w
  | 0, _, _, _, h => h
  | fuel + 1, _, _, _, h => ⟨h.1, fun i hi => wpOp_mono (fun a' w' h' => wpAny_of_K fuel _ a' w' h'.2) (h.2 i hi)⟩

theorem not_ready_of_waits {listed : Array Bool} {i : Nat} (hw : Region.waitsFor md ops n i = true) (hun : listed.getD i true = false) : n ∉ Region.ready md ops listed := by
  intro hr
  obtain ⟨oj, hoj, e, he, hb, hon⟩ := Region.waitsFor_spec hw
  obtain ⟨-, o', ho', hall⟩ := mem_ready.1 hr
  have : o' = oj := Option.some.inj (ho'.symm.trans hoj)
  subst this
  have h2 := hall e he hb
  rw [hon, getD_both hun] at h2
  cases h2

theorem wpAnyK_first {i : Nat} {oi : Oper} {v : Value} (hi : ops[i]? = some oi) (hwn : Region.waitsFor md ops n i = true) (hsel : ∀ (j : Nat) (o : Oper) cs b, ops[j]? = some o → o.op ≠ .select cs b)
    (hQ : ∀ c a w, Q (.panic c) (a.put oi.dst v) w → Q (.panic c) a w) :
    ∀ (fuel : Nat) (listed : Array Bool) (a : Act) (w : World),
      (∀ j oj, ops[j]? = some oj → j ≠ i → listed.getD j true = false → (∀ e ∈ oj.after, Region.binds md e = true → e.on ≠ i) → oi.apart ops oj = true) →
      i ∈ Region.ready md ops listed → i ≠ n → YieldsIf P ops S oi v a → S w →
      wpAnyK P md ops Q S n fuel (listed.setIfInBounds i true) (a.put oi.dst v) w → wpAnyK P md ops Q S n (fuel + 1) listed a w := by
  intro fuel
  induction fuel with
  | zero =>
    intro listed a w _ hr hin hy hS H
    refine ⟨fun h => (by rw [h] at hr; cases hr), fun j hj => ?_⟩
    by_cases hji : j = i
    · subst hji; exact hy.wpOp hi hS ⟨fun _ => hS, H⟩
    · have h1 := ready_mono hj hji
      rw [H.1] at h1
      cases h1
  | succ fuel ih =>
    intro listed a w hfree hr hin hy hS H
    have hun := (mem_ready.1 hr).1
    refine ⟨fun h => (by rw [h] at hr; cases hr), fun j hj => ?_⟩
    by_cases hji : j = i
    · subst hji; exact hy.wpOp hi hS ⟨fun _ => hS, H⟩
    · have hjn : j ≠ n := fun e => not_ready_of_waits hwn hun (e ▸ hj)
      have h1 := H.2 j (ready_mono hj hji)
      obtain ⟨hjun, oj, hoj, hall⟩ := mem_ready.1 hj
      have hnot : ∀ e ∈ oj.after, Region.binds md e = true → e.on ≠ i := fun e he hb heq => by
        have h2 := hall e he hb
        rw [heq, getD_both hun] at h2
        cases h2
      have h2 := wpOp_putIf hoj (hfree j oj hoj hji hjun hnot) (fun cs b => hsel i oi cs b hi) (fun cs b => hsel j oj cs b hoj) hQ hy h1
      refine wpOp_mono (fun a' w' h3 => ⟨h3.2.1, ih (listed.setIfInBounds j true) a' w' (fun k ok hk hki hunk hno => ?_) (ready_mono hr (Ne.symm hji)) hin h3.1 (h3.2.1 hjn) ?_⟩) h2
      · refine hfree k ok hk hki ?_ hno
        by_cases hjk : j = k
        · subst hjk; exact hjun
        · rw [getD_set_ne true hjk] at hunk; exact hunk
      · rw [Array.setIfInBounds_comm _ _ hji]
        exact h3.2.2

theorem wpAnyK_take {i : Nat} {oi : Oper} {v : Value} {fuel : Nat} {listed : Array Bool} {a : Act} {w : World} (hi : ops[i]? = some oi) (hwn : Region.waitsFor md ops n i = true) (hin : i ≠ n)
    (hs : Region.noSelect ops = true) (hf : Region.free md ops listed i = true) (hr : (Region.ready md ops listed).contains i = true)
    (hQ : ∀ c a w, Q (.panic c) (a.put oi.dst v) w → Q (.panic c) a w) (hy : YieldsIf P ops S oi v a) (hS : S w)
    (h : wpAnyK P md ops Q S n fuel (listed.setIfInBounds i true) (a.put oi.dst v) w) : wpAnyK P md ops Q S n (fuel + 1) listed a w :=
  wpAnyK_first hi hwn (Region.noSelect_spec hs) hQ fuel listed a w (Region.free_spec hi hf) (by simpa using hr) hin hy hS h
/-- One alone may come up. -/
theorem wpAnyK_one {i : Nat} {o : Oper} {fuel : Nat} {listed : Array Bool} {a : Act} {w : World} (hr : Region.ready md ops listed = [i]) (hi : ops[i]? = some o) (hw : Region.wanted o (yielded ops a.tmps) = true)
    (h : o.wp P a w (fun a' w' => (i ≠ n → S w') ∧ wpAnyK P md ops Q S n fuel (listed.setIfInBounds i true) a' w') Q) : wpAnyK P md ops Q S n (fuel + 1) listed a w := by
  refine ⟨fun h0 => (by rw [hr] at h0; cases h0), fun j hj => ?_⟩
  rw [hr, List.mem_singleton] at hj
  subst hj
  unfold wpOp
  simp only [hi, hw, if_true]
  exact .inl h
theorem wpAnyK_done {listed : Array Bool} {a : Act} {w : World} (hr : Region.ready md ops listed = []) (h : Q .normal a w) : ∀ fuel, wpAnyK P md ops Q S n fuel listed a w
  | 0 => ⟨hr, h⟩
  | _ + 1 => ⟨fun _ => h, by rw [hr]; simp⟩
theorem wp_region_K (S : World → Prop) (n : Nat) {id : Nat} {a : Act} {w : World} (hm : P.follows .mixedOrders = true) (h : wpAnyK P .any ops Q S n ops.size (Array.replicate ops.size false) a w.drew) : (Code.region id ops true).wp P Q a w :=
  wp_region_any hm (wpAny_of_K _ _ _ _ h)
end
end Go.Proofs.Ytoefligelajfkaa.Sep
