import Derived.Test.YtoefligelajfkaaRefPack
import Derived.Test.YtoefligelajfkaaLawU
namespace Go.Proofs.Ytoefligelajfkaa.Press
open Go.RowKit Go.Proofs.YtoefligelajfkaaW.PrintWords Go.Proofs.YtoefligelajfkaaW.PrintLast Go.Proofs.YtoefligelajfkaaW.PrintMore

/-- The twin's byte. -/
def xr (l : List Int) (i : Nat) : Int := bits .xor .u8 (l.getD i 0) ((i % 3 : Nat) : Int)
def tw (l : List Int) (k : Nat) : List Int := (List.range k).map (xr l)
theorem tw_length (l : List Int) (k : Nat) : (tw l k).length = k := by simp [tw]
theorem tw_succ (l : List Int) (k : Nat) : tw l (k + 1) = tw l k ++ [xr l k] := by simp [tw, List.range_succ]
theorem xr_byte {l : List Int} (hby : ∀ x ∈ l, 0 ≤ x ∧ x ≤ 255) (i : Nat) : 0 ≤ xr l i ∧ xr l i ≤ 255 := by
  have hb : 0 ≤ l.getD i 0 ∧ l.getD i 0 ≤ 255 := by
    by_cases h : i < l.length
    · have := hby _ (List.getElem_mem h)
      simpa [List.getD_eq_getElem?_getD, List.getElem?_eq_getElem h] using this
    · simp [List.getD_eq_getElem?_getD, List.getElem?_eq_none (Nat.le_of_not_lt h)]
  unfold xr
  rw [u8_xor _ _ hb.1 (by omega) (by omega) (by omega)]
  have := @Nat.xor_lt_two_pow (l.getD i 0).toNat ((i % 3 : Nat) : Int).toNat 8 (by omega) (by omega)
  omega
theorem tw_bytes {l : List Int} (hby : ∀ x ∈ l, 0 ≤ x ∧ x ≤ 255) (k : Nat) : ∀ x ∈ tw l k, 0 ≤ x ∧ x ≤ 255 := by
  intro x hx
  obtain ⟨i, _, rfl⟩ := List.mem_map.1 hx
  exact xr_byte hby i

def gv (l : List Int) (k : Nat) : List Int := tw l k ++ l.drop k
theorem gv_length (l : List Int) (k : Nat) (h : k ≤ l.length) : (gv l k).length = l.length := by simp [gv, tw_length]; omega
theorem gv_zero (l : List Int) : gv l 0 = l := rfl
theorem gv_all (l : List Int) : gv l l.length = tw l l.length := by simp [gv]
theorem gv_set (l : List Int) (k : Nat) (h : k < l.length) : (roomS (gv l k)).set k (xr l k) = roomS (gv l (k + 1)) := by
  have e : (gv l k).set k (xr l k) = gv l (k + 1) := by
    unfold gv
    rw [List.set_append_right _ _ (by rw [tw_length]; exact Nat.le_refl _), tw_length, Nat.sub_self, List.drop_eq_getElem_cons h, List.set_cons_zero, tw_succ, List.append_assoc]
    rfl
  rw [roomS, roomS, List.set_append_left _ _ (by rw [gv_length _ _ (by omega)]; exact h), e]

/-- What is known in the loop that makes the twin. -/
structure TInv (w : World) (l0 pk : List Int) (B b1 b2 g M : Nat) (va vb : Value) (wr : World) (v9 : Value) (i : Nat) : Prop where
  tw : Kd.R (Kd.int .u8) 5 wr w.heap.size (fun _ => True) v9 (tw l0 i)
  gv : Kd.R (Kd.int .u8) 5 wr w.heap.size (fun _ => True) (.slice (some ⟨g, 0, none⟩) M M) (roomS (gv l0 i))
  got : Kd.R (Kd.int .u8) 5 wr b1 (fun _ => True) va pk
  want : Kd.R (Kd.int .u8) 5 wr b2 (fun _ => True) vb pk
  bel : Below w.heap.size w wr
  far : ∀ q, v9.ownBlock = some q → B ≤ q
  size : B ≤ wr.heap.size
  gB : g < B
  gb : w.heap.size ≤ g
  ga : ∀ q, va.ownBlock = some q → q < B ∧ q ≠ g
  gw : ∀ q, vb.ownBlock = some q → q < B ∧ q ≠ g

theorem TInv.next {w wr w2 : World} {l0 pk : List Int} {B b1 b2 g M : Nat} {va vb v9 : Value} {i t cap : Nat} (H : TInv w l0 pk B b1 b2 g M va vb wr v9 i) (hi : i < l0.length) {y : Int} (hy : y = xr l0 i)
    (ho : Kd.R (Kd.int .u8) 5 w2 w.heap.size (fun _ => True) (.slice (some ⟨t, 0, none⟩) (i + 1) cap) (Press.tw l0 i ++ [y])) (hb : Below w.heap.size w w2) (hg : wr.grownBy w2 v9.ownBlock)
    (hat : (Value.slice (some ⟨t, 0, none⟩) (i + 1) cap).ownBlock = v9.ownBlock ∨ ∃ b, (Value.slice (some ⟨t, 0, none⟩) (i + 1) cap).ownBlock = some b ∧ wr.heap.size ≤ b) :
    w2.cell? ⟨g, i, none⟩ ≠ none ∧ w2.frozen? ⟨g, i, none⟩ = false ∧ (∃ z, w2.cell? ⟨g, i, none⟩ = some (.int .u8 z)) ∧
    TInv w l0 pk B b1 b2 g M va vb (w2.setCell ⟨g, i, none⟩ (.int .u8 y)) (.slice (some ⟨t, 0, none⟩) (i + 1) cap) (i + 1) := by
  have ht : B ≤ t := by
    rcases hat with h | ⟨q, h, hq⟩
    · exact H.far t (by rw [← h]; rfl)
    · have := H.size
      simp [Value.ownBlock] at h; omega
  have ne : ∀ {v : Value}, (∀ q, v.ownBlock = some q → q < B) → v.ownBlock = none ∨ v.ownBlock ≠ v9.ownBlock := by
    intro v hv
    cases e : v.ownBlock with
    | none => exact .inl rfl
    | some q =>
      refine .inr fun he => ?_
      have h1 := hv q e
      have h2 := H.far q he.symm
      omega
  have hgv2 := R_kept H.gv hg (ne (fun q hq => by simp [Value.ownBlock] at hq; have := H.gB; omega))
  obtain ⟨hc, hz⟩ := Kd.R_celln (0 : Int) hgv2 (i : Int) (by omega) (by
    have := (Kd.R_reads' hgv2).1
    rw [roomS_length, gv_length _ _ (by omega)] at this
    omega)
  simp only [Int.toNat_natCast] at hc hz
  have hp := Kd.R_putn (enc := Value.int .u8) (h1 := fun _ => rfl) hgv2 (i : Int) y
  simp only [Int.toNat_natCast] at hp
  subst hy
  rw [gv_set _ _ hi] at hp
  have hga := R_kept H.got hg (ne (fun q hq => (H.ga q hq).1))
  have hgw := R_kept H.want hg (ne (fun q hq => (H.gw q hq).1))
  have far : ∀ {v : Value}, (∀ q, v.ownBlock = some q → q < B ∧ q ≠ g) → v.ownBlock = none ∨ v.ownBlock ≠ some g := by
    intro v hv
    cases e : v.ownBlock with
    | none => exact .inl rfl
    | some q => exact .inr (by have := (hv q e).2; simpa using this)
  refine ⟨by rw [hc]; simp, hz, ⟨_, hc⟩, ?_⟩
  refine ⟨?_, hp, R_kept hga (grown_set _ _ _ _) (far H.ga), R_kept hgw (grown_set _ _ _ _) (far H.gw), hb.setCell (p := ⟨g, i, none⟩) H.gb _, ?_, ?_, H.gB, H.gb, H.ga, H.gw⟩
  · rw [tw_succ]
    exact R_kept ho (grown_set _ _ _ _) (.inr (by simp [Value.ownBlock]; have := H.gB; omega))
  · intro q hq
    simp [Value.ownBlock] at hq
    omega
  · have h1 := hg.size
    have h2 := H.size
    have e : (w2.setCell ⟨g, i, none⟩ (.int .u8 (xr l0 i))).heap.size = w2.heap.size := by simp [World.setCell]
    omega

set_option maxHeartbeats 4000000 in
theorem pressPacks_walk (A0 : Option Addr) (c0 : Nat) (l0 : List Int) (w : World) (hr0 : Kd.C (Kd.int .u8) w A0 l0.length l0) (hby : ∀ x ∈ l0, 0 ≤ x ∧ x ≤ 255) (hc0 : l0.length ≤ c0)
    (hl : l0.length ≤ 140737488351232) :
    Calls Try.prog 3 #[.slice A0 l0.length c0] w fun e w' => e = .returned (.bool true) ∧ Below w.heap.size w w' := by
  obtain ⟨pk, hpk⟩ : ∃ pk, packS l0 = pk := ⟨_, rfl⟩
  have HPK := Aside0.mk hpk
  clear hpk
  have HR0 := Aside0.mk hr0
  clear hr0
  obtain ⟨M, hM⟩ : ∃ M, M = l0.length + 9 := ⟨_, rfl⟩
  have HM := Aside0.mk hM
  clear hM
  go_enter Try.func3, Try.ntmps3
  go_upto_region 6 with (first
    | (go_at_call 19; refine (roomy_any _ _ _ _ HR0.out (by omega)).mono ?_; rintro e w1 ⟨g, rfl, hR1, hB1⟩; rw [← HM.out] at hR1; rw [← HM.out]; have H1 := Aside0.mk (⟨hR1, hB1⟩ : _ ∧ _); clear hR1 hB1)
    | (go_at_call 20; refine (pack_any _ _ _ _ (room_given H1.out.1) hby (by omega)).mono ?_; rw [HPK.out]; rintro e w2 ⟨v2, rfl, hR2, hB2⟩; obtain ⟨A2, k2, rfl⟩ := Kd.R_slice hR2; have H2 := Aside0.mk (⟨hR2, hB2, below_step H1.out.2 hB2⟩ : _ ∧ _ ∧ _); clear hR2 hB2)
    | (go_at_call 21; refine (ref_pack_any _ _ _ _ (Kd.C_below HR0.out H2.out.2.2) hc0 (by omega)).mono ?_; rw [HPK.out]; rintro e w3 ⟨v3, rfl, hR3, hB3⟩; obtain ⟨A3, k3, rfl⟩ := Kd.R_slice hR3; have H3 := Aside0.mk (⟨hR3, hB3, below_step H2.out.2.2 hB3⟩ : _ ∧ _ ∧ _); clear hR3 hB3)
    | (go_at_call 22; refine (same_true _ _ _ _ pk.1 _ (Kd.C_below (Kd.R_reads' H2.out.1).2.2 H3.out.2.1) (Kd.R_reads' H2.out.1).2.1 (Kd.R_reads' H3.out.1).2.2 (Kd.R_reads' H3.out.1).2.1).mono ?_; rintro e w4 ⟨rfl, ⟨nd4, rfl⟩⟩)
    | (go_at_call 23; refine (kept_true _ _ _ _ _ _ _ HM.out (Kd.C_drewN (Kd.C_below (Kd.C_below (room_whole H1.out.1 HM.out) H2.out.2.1) H3.out.2.1) _) (Nat.le_refl _) (Kd.C_drewN (Kd.C_below HR0.out H3.out.2.2) _) hc0 (by omega)).mono ?_; rintro e w5 ⟨rfl, ⟨nd5, rfl⟩⟩))
  have hq1 := Kd.R_lt H1.out.1 g rfl
  have hT : TInv w l0 pk.1 (w3.drewN (nd4 + nd5)).heap.size w1.heap.size w2.heap.size g M (.slice A2 pk.1.length k2) (.slice A3 pk.1.length k3) (w3.drewN (nd4 + nd5)) (.slice none 0 0) 0 := by
    have s2 := H2.out.2.1.size
    have s3 := H3.out.2.1.size
    have e : (w3.drewN (nd4 + nd5)).heap.size = w3.heap.size := by simp
    refine ⟨Kd.R_nil _ _ _ _ _, Kd.R_drewN (Kd.R_below (Kd.R_below H1.out.1 H2.out.2.1) H3.out.2.1) _, Kd.R_drewN (Kd.R_below H2.out.1 H3.out.2.1) _, Kd.R_drewN H3.out.1 _, pw_below_drewN H3.out.2.2 _, (fun q hq => by cases hq), Nat.le_refl _, by omega, Kd.R_base H1.out.1 g rfl, fun q hq => ?_, fun q hq => ?_⟩
    · have := Kd.R_base H2.out.1 q hq
      have := Kd.R_lt H2.out.1 q hq
      omega
    · have := Kd.R_base H3.out.1 q hq
      have := Kd.R_lt H3.out.1 q hq
      omega
  have HT0 := Aside0.mk hT
  clear H1 H2 H3 hT hq1
  generalize (w3.drewN (nd4 + nd5)).heap.size = B at HT0
  generalize World.drewN w3 (nd4 + nd5) = w6 at HT0
  generalize w1.heap.size = b1 at HT0
  generalize w2.heap.size = b2 at HT0
  go_wp2
  go_loopg [9, 10] (l0.length) (fun k v9 v10 w' => ∃ i : Nat, v10 = .int .i64 i ∧ i + k = l0.length ∧ Aside0 (TInv w l0 pk.1 B b1 b2 g M (.slice A2 pk.1.length k2) (.slice A3 pk.1.length k3) w' v9 i))
  case atStart => exact ⟨0, rfl, by omega, HT0⟩
  case round =>
    clear HT0
    obtain ⟨i, rfl, hik, HT⟩ := hrel
    obtain ⟨A9, k9, e9⟩ := Kd.R_slice HT.out.tw
    rw [tw_length] at e9
    subst e9
    cases gk with
    | zero =>
      have hi : i = l0.length := by omega
      subst hi
      obtain ⟨l1, hl1⟩ : ∃ l1, l1 = tw l0 l0.length := ⟨_, rfl⟩
      have hlen1 : l1.length = l0.length := by rw [hl1, tw_length]
      have hby1 : ∀ x ∈ l1, 0 ≤ x ∧ x ≤ 255 := by rw [hl1]; exact tw_bytes hby _
      have hT := HT.out
      have hTW := hT.tw
      have hGV := hT.gv
      rw [← hl1] at hTW
      rw [gv_all, ← hl1] at hGV
      have hTWc := (Kd.R_reads' hTW).2.2
      have hTWk := (Kd.R_reads' hTW).2.1
      rw [← hlen1] at hTWk
      have HZ := Aside0.mk (⟨hGV, hTWc, hT.got, hT.want, hT.bel⟩ : _ ∧ _ ∧ _ ∧ _ ∧ _)
      have HL1 := Aside0.mk hlen1
      clear hT hTW hGV hTWc hl1 hlen1 HT
      obtain ⟨pk1, hpk1⟩ : ∃ pk1, packS l1 = pk1 := ⟨_, rfl⟩
      have HPK1 := Aside0.mk hpk1
      have HM2 : Aside0 (M = l1.length + 9) := ⟨by rw [HM.out, HL1.out]⟩
      clear hpk1
      have hl1 : l1.length ≤ 140737488351232 := by rw [HL1.out]; exact hl
      go_wp2_with (first
        | (go_at_call 20; have hcc := pack_any _ M l1 _ (room_given HZ.out.1) hby1 (by omega); rw [HPK1.out, HL1.out] at hcc; refine hcc.mono ?_; clear hcc; rintro e w2' ⟨v2, rfl, hR2, hB2⟩; obtain ⟨B2, m2, rfl⟩ := Kd.R_slice hR2; have H2 := Aside0.mk (⟨hR2, hB2, below_step HZ.out.2.2.2.2 hB2⟩ : _ ∧ _ ∧ _); clear hR2 hB2)
        | (go_at_call 21; go_loud (have hcc := ref_pack_any _ k9 l1 _ (Kd.C_below HZ.out.2.1 H2.out.2.1) hTWk (by omega); rw [HPK1.out, HL1.out] at hcc); refine hcc.mono ?_; clear hcc; rintro e w3' ⟨v3, rfl, hR3, hB3⟩; obtain ⟨B3, m3, rfl⟩ := Kd.R_slice hR3; have H3 := Aside0.mk (⟨hR3, hB3, below_step H2.out.2.2 hB3⟩ : _ ∧ _ ∧ _); clear hR3 hB3)
        | (go_at_call 22; (with_reducible refine (same_true _ _ _ _ pk1.1 _ (Kd.C_below (Kd.R_reads' H2.out.1).2.2 H3.out.2.1) (Kd.R_reads' H2.out.1).2.1 (Kd.R_reads' H3.out.1).2.2 (Kd.R_reads' H3.out.1).2.1).mono ?_); rintro e w4 ⟨rfl, ⟨nd6, rfl⟩⟩)
        | (go_at_call 22; refine (same_true _ _ _ _ pk.1 _ (Kd.C_drewN (Kd.C_below (Kd.C_below (Kd.R_reads' HZ.out.2.2.1).2.2 H2.out.2.1) H3.out.2.1) _) (Kd.R_reads' HZ.out.2.2.1).2.1 (Kd.C_drewN (Kd.C_below (Kd.C_below (Kd.R_reads' HZ.out.2.2.2.1).2.2 H2.out.2.1) H3.out.2.1) _) (Kd.R_reads' HZ.out.2.2.2.1).2.1).mono ?_; rintro e w5 ⟨rfl, ⟨nd7, rfl⟩⟩)
        | (go_at_call 23; have hcc := kept_true _ M M _ k9 l1 _ HM2.out (Kd.C_drewN (Kd.C_below (Kd.C_below (room_whole HZ.out.1 HM2.out) H2.out.2.1) H3.out.2.1) (nd6 + nd7)) (Nat.le_refl _) (Kd.C_drewN (Kd.C_below (Kd.C_below HZ.out.2.1 H2.out.2.1) H3.out.2.1) (nd6 + nd7)) hTWk (by omega); rw [HL1.out] at hcc; refine hcc.mono ?_; clear hcc; rintro e w5 ⟨rfl, ⟨nd8, rfl⟩⟩)
        | (go_at_call 24; refine (awake_any _).mono ?_; rintro e w7 ⟨rfl, hb7⟩))
      go_ret
      exact ⟨rfl, below_step (pw_below_drewN H3.out.2.2 _) hb7⟩
    | succ k =>
      have hi : i < l0.length := by omega
      obtain ⟨ad, e0, hx⟩ := Kd.at_int (Kd.C_below HR0.out HT.out.bel) (i : Int) (by omega) (by omega)
      cases e0
      simp only [Int.toNat_natCast] at hx
      obtain ⟨y, hy⟩ : ∃ y, bits .xor .u8 (rd l0 (i : Int)) ((i : Int) % 3) = y := ⟨_, rfl⟩
      have hyx : Aside0 (y = xr l0 i) := ⟨by rw [← hy, rd_nat, xr]; simp⟩
      go_upto_region 11 with (at_builtin; refine Kd.R_append (Kd.int .u8) (w0 := w) w.heap.size rfl (.tmp 49) (.tmp 58) 22 5 (.int .u8 0) 1 rfl Try.underlying22 info5 rfl (by decide) (by omega) (.slice A9 i k9) (tw l0 i) y [.int .u8 y] (fun _ => True) (fun _ => False) rfl rfl rfl (fun _ hk => hk.elim) (fun _ _ => trivial) HT.out.tw HT.out.bel HT.out.bel.size (by rw [tw_length]; omega) ?_; intro v1 w2 ho hb hg hat')
      have hlen9 : (tw l0 i ++ [y]).length = i + 1 := by simp [tw_length]
      obtain ⟨t, cap, ev1, hgb, hglt, cells, hcells⟩ := Kd.R_form ho (by rw [hlen9]; omega)
      rw [hlen9] at ev1
      subst ev1
      have hN := HT.out.next hi hyx.out ho hb hg hat'
      obtain ⟨-, hz, ⟨z, hc⟩, hN⟩ := hN
      obtain ⟨hx9, hz9⟩ := Kd.R_celln (0 : Int) ho (i : Int) (by omega) (by omega)
      have hrd : rdOf 0 (tw l0 i ++ [y]) (i : Int) = y := by simp [rdOf, List.getD_eq_getElem?_getD, tw_length]
      rw [hrd] at hx9
      simp only [Int.toNat_natCast] at hx9 hz9
      have HN := Aside0.mk hN
      clear hN ho hb hg hat' hgb hglt hcells cells hlen9 hrd hx hyx
      have hiM : i < M := by have := HM.out; omega
      go_wp2
      go_roundg k
      case measure => omega
      case rel => exact ⟨i + 1, by go_num, by omega, HN⟩
end Go.Proofs.Ytoefligelajfkaa.Press
