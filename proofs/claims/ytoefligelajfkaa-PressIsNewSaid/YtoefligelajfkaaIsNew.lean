import Derived.Test.YtoefligelajfkaaNew
import Derived.BigQuiet
import Derived.Test.YtoefligelajfkaaOpenK
namespace Go.Proofs.Ytoefligelajfkaa.Press
open Go.RowKit Go.Proofs.YtoefligelajfkaaW.PrintWords Go.Proofs.YtoefligelajfkaaW.PrintLast Go.Proofs.YtoefligelajfkaaW.PrintMore

set_option maxHeartbeats 4000000 in
set_option maxRecDepth 100000 in
theorem isNew_walk (A0 : Option Addr) (c0 : Nat) (rows : List (List Int)) (w : World) (hr0 : Kd.C kRow w A0 rows.length rows) (hc0 : rows.length ≤ c0) (hby0 : ∀ r ∈ rows, ∀ x ∈ r, 0 ≤ x ∧ x ≤ 255) :
    Calls Try.prog 10 #[.slice A0 rows.length c0] w fun e w' => e = .returned (.bool true) ∧ Below w.heap.size w w' := by
  obtain ⟨rs, hrs⟩ : ∃ rs, rs = rows.take 12 := ⟨_, rfl⟩
  have hC : Kd.C kRow w A0 rs.length rs := by
    have h := Kd.C_take (m := min 12 rows.length) hr0 (by omega)
    have e : rows.take (min 12 rows.length) = rs := by rw [hrs, List.take_eq_take_iff]; omega
    rw [e] at h
    have e2 : min 12 rows.length = rs.length := by rw [hrs, List.length_take]
    first | exact h | (rw [e2] at h; exact h)
  have hlen : rs.length = min 12 rows.length := by rw [hrs, List.length_take]
  have hby : ∀ r ∈ rs, ∀ x ∈ r, 0 ≤ x ∧ x ≤ 255 := fun r hr => hby0 r (List.mem_of_mem_take (hrs ▸ hr))
  have hl12 : rs.length ≤ 12 := by omega
  have HR0 := Aside0.mk hC
  have HLE := Aside0.mk hlen
  have HBY := Aside0.mk hby
  clear hr0 hC hrs hlen hby0 hby
  go_enter Try.func10, Try.ntmps10
  go_upto_if 20 with (fail)
  go_cut [0] (fun v0 wc => v0 = .slice A0 rs.length c0 ∧ wc = w)
  case first =>
    by_cases h4 : rows.length > 12
    · have h41 : (12 : Int) < (rows.length : Int) := by omega
      have h42 : rs.length = 12 := by have := HLE.out; omega
      have h43 : (12 : Int) ≤ (c0 : Int) := by omega
      have h44 : 12 ≤ c0 := by omega
      have H4 := Aside0.mk h42
      clear h42 HLE
      go_wp2
      go_meet
      case rel => exact ⟨by rw [H4.out], rfl⟩
    · have h41 : (rows.length : Int) ≤ 12 := by omega
      have h42 : rs.length = rows.length := by have := HLE.out; omega
      have H4 := Aside0.mk h42
      clear h42 HLE
      go_wp2
      go_meet
      case rel => exact ⟨by rw [H4.out], rfl⟩
  case rest =>
    obtain ⟨rfl, hwc⟩ := hcut
    have hwc : w = wc := hwc.symm
    subst hwc
    have hcl : rs.length ≤ c0 := by have := HLE.out; omega
    clear HLE
    go_wp2
    go_loopg [3, 4] rs.length (fun k v3 v4 w' => ∃ i : Nat, v4 = .int .i64 i ∧ i + k = rs.length ∧ Aside0 (NInv w.heap.size w w' v3 (6 * i)))
    case atStart => exact ⟨0, rfl, by omega, ⟨NInv.start w⟩⟩
    case round =>
      obtain ⟨i, rfl, hik, HA⟩ := hrel
      have h3 : ∃ A3 n3 c3, u3 = .slice A3 n3 c3 := by
        obtain ⟨us, ys, h1, _⟩ := HA.out
        obtain ⟨A, c, e⟩ := Kd.R_slice h1
        exact ⟨A, _, c, e⟩
      obtain ⟨A3, n3, c3, rfl⟩ := h3
      cases gk with
      | zero =>
        obtain ⟨us, ys, h1, h2, h3, h4, h5⟩ := HA.out
        obtain rfl : n3 = us.length := (Kd.R_reads' h1).1
        have H1 := Aside0.mk (And.intro h1 (And.intro h2 (And.intro h4 h5)))
        have h72 : us.length ≤ 72 := by omega
        have hi : i = rs.length := by omega
        subst hi
        clear HA h1 h2 h3 h4 h5
        go_wp2_with (first
          | (go_at_call 28; (with_reducible refine (apart_any w.heap.size A3 c3 us ys w wr H1.out.1 H1.out.2.1 H1.out.2.2.2 (Nat.le_refl _) h72 H1.out.2.2.1).mono ?_); rintro e w2 ⟨rfl, hB2⟩; have HB2 := Aside0.mk hB2; clear hB2)
          | (go_at_call 24; refine (awake_any _).mono ?_; rintro e w3 ⟨rfl, hb3⟩))
        go_ret
        exact ⟨rfl, below_step HB2.out hb3⟩
      | succ k =>
        have hi : i < rs.length := by omega
        have hi2 : (i : Int) < (rs.length : Int) := by omega
        have hBw : Below w.heap.size w wr := by obtain ⟨_, _, _, _, _, _, h⟩ := HA.out; exact h
        obtain ⟨ad, A1, c1, r, rfl, hri, hc1, hrc, hCr⟩ := at_row (Kd.C_below HR0.out hBw) i hi
        obtain ⟨d, hd⟩ : ∃ d, d = r.take 600 := ⟨_, rfl⟩
        have hCd : Kd.C (Kd.int .u8) wr A1 d.length d := by
          have h := Kd.C_take (m := min 600 r.length) hCr (by omega)
          have e : r.take (min 600 r.length) = d := by rw [hd, List.take_eq_take_iff]; omega
          rw [e] at h
          have e2 : min 600 r.length = d.length := by rw [hd, List.length_take]
          first | exact h | (rw [e2] at h; exact h)
        have hdl : d.length = min 600 r.length := by rw [hd, List.length_take]
        have hbd : ∀ x ∈ d, 0 ≤ x ∧ x ≤ 255 := fun x hx => HBY.out r (List.mem_of_getElem? hri) x (List.mem_of_mem_take (hd ▸ hx))
        have hrm : r.length ≤ 9223372036854775807 := Kd.C_max hCr
        have HCD := Aside0.mk hCd
        have HBD := Aside0.mk hbd
        have HDL := Aside0.mk hdl
        have hd6 : d.length ≤ 600 := by omega
        clear hCd hbd hdl hd hri hCr hBw
        go_upto_if 35 with (fail)
        go_cut [5] (fun v5 wc => v5 = .slice A1 d.length c1 ∧ wc = wr)
        case first =>
          by_cases h4 : r.length > 600
          · have h41 : (600 : Int) < (r.length : Int) := by omega
            have h42 : d.length = 600 := by have := HDL.out; omega
            have h43 : (600 : Int) ≤ (c1 : Int) := by omega
            have h44 : 600 ≤ c1 := by omega
            have H4 := Aside0.mk h42
            clear h42 HDL
            go_wp2
            go_meet
            case rel => exact ⟨by rw [H4.out], rfl⟩
          · have h41 : (r.length : Int) ≤ 600 := by omega
            have h42 : d.length = r.length := by have := HDL.out; omega
            have H4 := Aside0.mk h42
            clear h42 HDL
            go_wp2
            go_meet
            case rel => exact ⟨by rw [H4.out], rfl⟩
        case rest =>
          obtain ⟨rfl, hwc⟩ := hcut
          have hwc : wr = wc := hwc.symm
          subst hwc
          have hdc : d.length ≤ c1 := by have := HDL.out; omega
          clear HDL hc1
          obtain ⟨p, hp⟩ : ∃ p, (packS d).1 = p := ⟨_, rfl⟩
          have hpk : packS d = (p, 0) := by rw [← hp]; unfold packS; rw [if_neg (by omega)]
          have hpb : ∀ x ∈ p, 0 ≤ x ∧ x ≤ 255 := by rw [← hp]; exact packS_bytes d HBD.out
          have hpl : p.length ≤ 700 := by have := packS_length d HBD.out; rw [hp] at this; omega
          have hun : unpackS p d.length = (d, 0) := by rw [← hp]; exact pack_unpack d (by omega)
          have HPK := Aside0.mk hpk
          have HPB := Aside0.mk hpb
          have HUN := Aside0.mk hun
          have HM0 := Aside0.mk (And.intro HCD.out HA.out.mid)
          obtain ⟨M1, hM1⟩ : ∃ M1, M1 = d.length + 9 := ⟨_, rfl⟩
          obtain ⟨M2, hM2⟩ : ∃ M2, M2 = p.length + 9 := ⟨_, rfl⟩
          have hM1b : M1 ≤ 1000000 := by omega
          have hM2b : M2 ≤ 1000000 := by omega
          have HM1 := Aside0.mk hM1
          have HM2 := Aside0.mk hM2
          have hw0 : Aside0 (w.heap.size ≤ w.heap.size) := ⟨Nat.le_refl _⟩
          clear hpk hp hpb hun hM1 hM2 HCD HA
          go_wp2_with (first
            | (go_at_call 19; (with_reducible refine (roomy_any A1 c1 d wr HM0.out.1 (by omega)).mono ?_); rintro e w1 ⟨g1, rfl, hR1, hB1⟩; rw [← HM1.out] at hR1; rw [← HM1.out]; have H1 := Aside0.mk (⟨Kd.C_below HM0.out.1 hB1, room_given hR1, HM0.out.2.add hw0.out hB1 hR1 hM1b⟩ : _ ∧ _ ∧ _); clear hR1 hB1)
            | (go_at_call 20; (with_reducible refine (pack_any _ M1 d w1 H1.out.2.1 HBD.out (by omega)).mono ?_); rw [HPK.out]; rintro e w2 ⟨v2, rfl, hR2, hB2⟩; replace hR2 : Kd.R (Kd.int .u8) 5 w2 w1.heap.size (fun _ => True) v2 p := hR2; obtain ⟨A2, k2, rfl⟩ := Kd.R_slice hR2; have hk2 : p.length ≤ k2 := (Kd.R_reads' hR2).2.1; have H2 := Aside0.mk (⟨Kd.C_below H1.out.1 hB2, Kd.C_below H1.out.2.1 hB2, (Kd.R_reads' hR2).2.2, H1.out.2.2.add hw0.out hB2 hR2 (by omega)⟩ : _ ∧ _ ∧ _ ∧ _); clear hR2 hB2)
            | (go_at_call 20; (with_reducible refine (pack_any _ M1 d w2 H2.out.2.1 HBD.out (by omega)).mono ?_); rw [HPK.out]; rintro e w3 ⟨v3, rfl, hR3, hB3⟩; replace hR3 : Kd.R (Kd.int .u8) 5 w3 w2.heap.size (fun _ => True) v3 p := hR3; obtain ⟨A4, k4, rfl⟩ := Kd.R_slice hR3; have hk4 : p.length ≤ k4 := (Kd.R_reads' hR3).2.1; have H3 := Aside0.mk (⟨Kd.C_below H2.out.1 hB3, Kd.C_below H2.out.2.2.1 hB3, (Kd.R_reads' hR3).2.2, H2.out.2.2.2.add hw0.out hB3 hR3 (by omega)⟩ : _ ∧ _ ∧ _ ∧ _); clear hR3 hB3)
            | (go_at_call 19; (with_reducible refine (roomy_any A2 k2 p w3 H3.out.2.1 (by omega)).mono ?_); rintro e w4 ⟨g4, rfl, hR4, hB4⟩; rw [← HM2.out] at hR4; rw [← HM2.out]; have H4 := Aside0.mk (⟨Kd.C_below H3.out.1 hB4, Kd.C_below H3.out.2.1 hB4, Kd.C_below H3.out.2.2.1 hB4, room_given hR4, H3.out.2.2.2.add hw0.out hB4 hR4 hM2b⟩ : _ ∧ _ ∧ _ ∧ _ ∧ _); clear hR4 hB4)
            | (go_at_call 25; (with_reducible refine (unpack_any _ M2 p (d.length : Int) w4 H4.out.2.2.2.1 HPB.out (by omega)).mono ?_); rw [HUN.out]; rintro e w5 ⟨v5, rfl, hR5, hB5⟩; replace hR5 : Kd.R (Kd.int .u8) 5 w5 w4.heap.size (fun _ => True) v5 d := hR5; obtain ⟨A5, k5, rfl⟩ := Kd.R_slice hR5; have hk5 : d.length ≤ k5 := (Kd.R_reads' hR5).2.1; have H5 := Aside0.mk (⟨Kd.C_below H4.out.1 hB5, Kd.C_below H4.out.2.1 hB5, Kd.C_below H4.out.2.2.1 hB5, Kd.C_below H4.out.2.2.2.1 hB5, (Kd.R_reads' hR5).2.2, H4.out.2.2.2.2.add hw0.out hB5 hR5 (by omega)⟩ : _ ∧ _ ∧ _ ∧ _ ∧ _ ∧ _); clear hR5 hB5)
            | (go_at_call 25; (with_reducible refine (unpack_any _ M2 p (d.length : Int) w5 H5.out.2.2.2.1 HPB.out (by omega)).mono ?_); rw [HUN.out]; rintro e w6 ⟨v6, rfl, hR6, hB6⟩; replace hR6 : Kd.R (Kd.int .u8) 5 w6 w5.heap.size (fun _ => True) v6 d := hR6; obtain ⟨A6, k6, rfl⟩ := Kd.R_slice hR6; have hk6 : d.length ≤ k6 := (Kd.R_reads' hR6).2.1; have H6 := Aside0.mk (⟨Kd.C_below H5.out.1 hB6, Kd.C_below H5.out.2.1 hB6, Kd.C_below H5.out.2.2.1 hB6, Kd.C_below H5.out.2.2.2.2.1 hB6, (Kd.R_reads' hR6).2.2, H5.out.2.2.2.2.2.add hw0.out hB6 hR6 (by omega)⟩ : _ ∧ _ ∧ _ ∧ _ ∧ _ ∧ _); clear hR6 hB6)
            | (go_at_call 22; (with_reducible refine (same_true _ _ _ _ d w6 H6.out.2.2.2.1 hk5 H6.out.1 hdc).mono ?_); rintro e w7 ⟨rfl, hd7⟩; have hB7 := below_drawn hd7; have H7 := Aside0.mk (⟨Kd.C_below H6.out.1 hB7, Kd.C_below H6.out.2.1 hB7, Kd.C_below H6.out.2.2.1 hB7, Kd.C_below H6.out.2.2.2.2.1 hB7, H6.out.2.2.2.2.2.below hw0.out hB7⟩ : _ ∧ _ ∧ _ ∧ _ ∧ _); clear hd7 hB7)
            | (go_at_call 22; (with_reducible refine (same_true _ _ _ _ d w7 H7.out.2.2.2.1 hk6 H7.out.1 hdc).mono ?_); rintro e w8 ⟨rfl, hd8⟩; have hB8 := below_drawn hd8; have H8 := Aside0.mk (⟨Kd.C_below H7.out.2.1 hB8, Kd.C_below H7.out.2.2.1 hB8, H7.out.2.2.2.2.below hw0.out hB8⟩ : _ ∧ _ ∧ _); clear hd8 hB8)
            | (go_at_call 22; (with_reducible refine (same_true _ _ _ _ p w8 H8.out.1 hk2 H8.out.2.1 hk4).mono ?_); rintro e w9 ⟨rfl, hd9⟩; have hB9 := below_drawn hd9; obtain ⟨us, hus, hO, hBl, hnext⟩ := ((H8.out.2.2.below hw0.out hB9).below hw0.out (below_alloc (Below.refl _ _) (.cells #[.slice (some ⟨g1, 0, none⟩) M1 M1, .slice A2 p.length k2, .slice A4 p.length k4, .slice (some ⟨g4, 0, none⟩) M2 M2, .slice A5 d.length k5, .slice A6 d.length k6] 22))).done; have H9 := Aside0.mk (⟨hus, hO, hBl, hnext⟩ : _ ∧ _ ∧ _ ∧ _); clear hd9 hB9 hus hO hBl hnext)
            | (at_builtin; go_loud (refine Kd.R_append_rows skd (w0 := w) w.heap.size rfl (.tmp 88) (.tmp 95) 38 22 (.slice none 0 0) 24 rfl Try.underlying38 info22 rfl (by decide) (by omega) (.slice A3 n3 c3) us [⟨some ⟨g1, 0, none⟩, M1, M1⟩, ⟨A2, p.length, k2⟩, ⟨A4, p.length, k4⟩, ⟨some ⟨g4, 0, none⟩, M2, M2⟩, ⟨A5, d.length, k5⟩, ⟨A6, d.length, k6⟩] (some ⟨w9.heap.size, 0, none⟩) 6 6 (fun _ => True) (fun _ => False) rfl rfl H9.out.2.1 (reads_six w9 _ _ _ _ _ _) (fun _ _ h => h) (fun _ hk => hk.elim) (fun _ _ => trivial) H9.out.2.2.1 H9.out.2.2.1.size (by have := H9.out.1; omega) ?_); intro v1 w10 hv1 hb1 hg1 hat1; have H10 := Aside0.mk (H9.out.2.2.2 v1 w10 hv1 hb1 hg1); clear hv1 hb1 hg1 hat1))
          go_roundg k
          case measure => omega
          case rel => exact ⟨i + 1, by go_num, by omega, ⟨by rw [show 6 * (i + 1) = 6 * i + 6 from by omega]; exact H10.out⟩⟩

theorem pressIsNew_walk (A0 : Option Addr) (c0 : Nat) (rows : List (List Int)) (w : World) (hr0 : Kd.C kRow w A0 rows.length rows) (hc0 : rows.length ≤ c0) (_hz : rows.length * 24 ≤ 140737488351232) (hg : ∀ r ∈ rows, OpenK.GoodB r) :
    Calls Try.prog 10 #[.slice A0 rows.length c0] w fun e w' => e = .returned (.bool true) ∧ Below w.heap.size w w' :=
  isNew_walk A0 c0 rows w hr0 hc0 (fun r hr => (hg r hr).bytes)
end Go.Proofs.Ytoefligelajfkaa.Press
namespace Go.Proofs.Ytoefligelajfkaa.OpenK
open Go.RowKit Go.Proofs.YtoefligelajfkaaW.PrintWords
theorem opens38 {H : Type} {enc : TypeId × Value → H} {w : World} : Opens Try.prog enc w (Kd.slice 22 (Kd.slice 5 (Kd.int .u8))) 38 (fun l => l.length * 24 ≤ 140737488351232 ∧ ∀ x ∈ l, GoodB x) :=
  opens_slice Try.underlying38 (by kernel_rfl) (by kernel_rfl) opens22
end Go.Proofs.Ytoefligelajfkaa.OpenK
