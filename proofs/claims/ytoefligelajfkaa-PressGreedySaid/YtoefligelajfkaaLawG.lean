import Derived.Test.YtoefligelajfkaaRun
import Derived.Test.YtoefligelajfkaaLawU
namespace Go.Proofs.Ytoefligelajfkaa.Press
open Go.RowKit Go.Proofs.YtoefligelajfkaaW.PrintWords Go.Proofs.YtoefligelajfkaaW.PrintLast Go.Proofs.YtoefligelajfkaaW.PrintMore

theorem bst_pos (l : List Int) (at_ : Nat) : ∀ k, (bst l at_ k).1 = 0 ∨ (1 ≤ (bst l at_ k).2 ∧ (bst l at_ k).2 ≤ k) := by
  intro k
  induction k with
  | zero => exact .inl rfl
  | succ k ih =>
    rw [bst_succ]
    split
    · exact .inr ⟨by simp only; omega, by simp only; omega⟩
    · rcases ih with h | h
      · exact .inl h
      · exact .inr ⟨h.1, by omega⟩

theorem good_eight {l p : List Int} {i at_ : Nat} {g : Int} (h : Good l (p.drop i) at_ g 8) : (i < p.length → Good l (p.drop (i + 1)) at_ (p.getD i 0) 0) ∧ (p.length ≤ i → at_ = l.length) := by
  generalize hr : p.drop i = r at h
  generalize hb : (8 : Nat) = b at h
  cases h with
  | done => exact ⟨fun hi => (by rw [drop_cons p i hi] at hr; cases hr), fun _ => rfl⟩
  | flag x r _ _ h =>
    refine ⟨fun hi => ?_, fun hi => ?_⟩
    · rw [drop_cons p i hi] at hr
      injection hr with h1 h2
      rw [h1, h2]; exact h
    · rw [List.drop_eq_nil_of_le hi] at hr; cases hr
  | rest _ _ _ hb8 => omega
  | lit _ _ _ _ hb8 => omega
  | mtch _ _ _ _ hb8 => omega

theorem good_item {l p : List Int} {i at_ b : Nat} {g : Int} (h : Good l (p.drop i) at_ g b) (hb : b < 8) :
    (at_ = l.length ∧ g % 2 = 0 ∧ Good l (p.drop i) at_ (g / 2) (b + 1)) ∨
    (at_ < l.length ∧ i < p.length ∧ g % 2 = 0 ∧ (best l at_).1 < 3 ∧ p.getD i 0 = l.getD at_ 0 ∧ Good l (p.drop (i + 1)) (at_ + 1) (g / 2) (b + 1)) ∨
    (at_ < l.length ∧ i + 1 < p.length ∧ g % 2 = 1 ∧ 3 ≤ (best l at_).1 ∧ 256 * p.getD i 0 + p.getD (i + 1) 0 = itemV (best l at_) ∧ Good l (p.drop (i + 2)) (at_ + (best l at_).1) (g / 2) (b + 1)) := by
  generalize hr : p.drop i = r at h
  cases h with
  | done => omega
  | flag => omega
  | rest _ _ _ _ h2 h => exact .inl ⟨rfl, h2, h⟩
  | lit r _ _ _ _ hat h2 h3 h =>
    have hi : i < p.length := by
      rcases Nat.lt_or_ge i p.length with h | h
      · exact h
      · rw [List.drop_eq_nil_of_le h] at hr; cases hr
    rw [drop_cons p i hi] at hr
    injection hr with e1 e2
    exact .inr (.inl ⟨hat, hi, h2, h3, e1, by rw [e2]; exact h⟩)
  | mtch r _ _ _ _ hat h2 h3 h =>
    have hi : i < p.length := by
      rcases Nat.lt_or_ge i p.length with h | h
      · exact h
      · rw [List.drop_eq_nil_of_le h] at hr; cases hr
    rw [drop_cons p i hi] at hr
    injection hr with e1 e2
    have hi1 : i + 1 < p.length := by
      rcases Nat.lt_or_ge (i + 1) p.length with h | h
      · exact h
      · rw [List.drop_eq_nil_of_le h] at e2; cases e2
    rw [drop_cons p (i + 1) hi1] at e2
    injection e2 with e2 e3
    exact .inr (.inr ⟨hat, hi1, h2, h3, by rw [e1, e2]; omega, by rw [e3]; exact h⟩)

theorem good_any {l r : List Int} {at_ : Nat} {g g' : Int} (h : Good l r at_ g 8) : Good l r at_ g' 8 := by
  generalize hb : (8 : Nat) = b at h
  cases h with
  | done => exact .done g'
  | flag x r _ _ h => exact .flag x r _ g' h
  | rest _ _ _ hb8 => omega
  | lit _ _ _ _ hb8 => omega
  | mtch _ _ _ _ hb8 => omega

theorem half_nat (g : Nat) : (g : Int) / 2 = ((g / 2 : Nat) : Int) := by simp

set_option maxHeartbeats 8000000 in
set_option maxRecDepth 100000 in
theorem pressGreedy_walk (A0 : Option Addr) (c0 : Nat) (l0 : List Int) (w : World) (hr0 : Kd.C (Kd.int .u8) w A0 l0.length l0) (hby0 : ∀ x ∈ l0, 0 ≤ x ∧ x ≤ 255) (hc0 : l0.length ≤ c0)
    (hl0 : l0.length ≤ 140737488351232) :
    Calls Try.prog 7 #[.slice A0 l0.length c0] w fun e w' => e = .returned (.bool true) ∧ Below w.heap.size w w' := by
  obtain ⟨l, hle⟩ : ∃ l, l = l0.take 4096 := ⟨_, rfl⟩
  have hlen : l.length = min 4096 l0.length := by rw [hle]; simp
  have hC : Kd.C (Kd.int .u8) w A0 l.length l := by
    have := Kd.C_take (m := l.length) hr0 (by omega)
    rw [hlen, ← List.take_take] at this
    rw [hlen, hle]
    simpa using this
  have hby : ∀ x ∈ l, 0 ≤ x ∧ x ≤ 255 := fun x hx => hby0 x (List.mem_of_mem_take (hle ▸ hx))
  have hl : l.length ≤ 4096 := by omega
  obtain ⟨p, hp⟩ : ∃ p, (packS l).1 = p := ⟨_, rfl⟩
  have hpk : packS l = (p, 0) := by rw [← hp]; unfold packS; rw [if_neg (by omega)]
  have hpb : ∀ x ∈ p, 0 ≤ x ∧ x ≤ 255 := by rw [← hp]; exact packS_bytes l hby
  have hpl : p.length ≤ 5000 := by have := packS_length l hby; rw [hp] at this; omega
  have hG0 : Aside0 (Good l p 0 0 8) := ⟨by rw [← hp]; exact pack_good l hl⟩
  have HPK := Aside0.mk hpk
  have HR0 := Aside0.mk hC
  have HLE := Aside0.mk hlen
  clear hr0 hby0 hC hp hpk hle hlen
  go_enter Try.func7, Try.ntmps7
  go_upto_if 16 with (fail)
  go_cut [0] (fun v0 wc => v0 = .slice A0 l.length c0 ∧ wc = w)
  case first =>
    by_cases h4 : l0.length > 4096
    · have h41 : (4096 : Int) < (l0.length : Int) := by omega
      have h42 : l.length = 4096 := by have := HLE.out; omega
      have h43 : (4096 : Int) ≤ (c0 : Int) := by omega
      have h44 : 4096 ≤ c0 := by omega
      have H4 := Aside0.mk h42
      clear h42 HLE
      go_wp2
      go_meet
      case rel => exact ⟨by rw [H4.out], rfl⟩
    · have h41 : (l0.length : Int) ≤ 4096 := by omega
      have h42 : l.length = l0.length := by have := HLE.out; omega
      have H4 := Aside0.mk h42
      clear h42 HLE
      go_wp2
      go_meet
      case rel => exact ⟨by rw [H4.out], rfl⟩
  case rest =>
    obtain ⟨rfl, hwc⟩ := hcut
    have hwc : w = wc := hwc.symm
    subst hwc
    have hcl : l.length ≤ c0 := by have := HLE.out; omega
    clear HLE
    go_wp2_with (go_at_call 20; refine (pack_any _ _ _ _ HR0.out hby (by omega)).mono ?_; rw [HPK.out]; rintro e w1 ⟨v1, rfl, hR1, hB1⟩; obtain ⟨A1, k1, rfl⟩ := Kd.R_slice hR1; have H1 := Aside0.mk (⟨(Kd.R_reads' hR1).2.2, hB1⟩ : _ ∧ _); clear hR1 hB1)
    go_loopg [5, 6] (p.length) (fun k v5 v6 w' => ∃ at_ i : Nat, v5 = .int .i64 at_ ∧ v6 = .int .i64 i ∧ at_ ≤ l.length ∧ i ≤ p.length ∧ p.length ≤ i + k ∧ Aside0 (Good l (p.drop i) at_ 0 8) ∧ Aside0 (Below w1.heap.size w1 w'))
    case atStart => exact ⟨0, 0, rfl, rfl, by omega, by omega, by omega, hG0, ⟨Below.refl _ _⟩⟩
    case round =>
      clear hG0
      obtain ⟨at_, i, rfl, rfl, hat, hip, hik, HG, HB⟩ := hrel
      have hC1 : Kd.C (Kd.int .u8) wr A1 p.length p := Kd.C_below H1.out.1 HB.out
      have HC1 := Aside0.mk hC1
      clear hC1
      by_cases hi : i < p.length
      · obtain ⟨k, rfl⟩ : ∃ k, gk = k + 1 := ⟨gk - 1, by omega⟩
        have hi1 : (i : Int) < (p.length : Int) := by omega
        have hg8 := Aside0.mk ((good_eight HG.out).1 hi)
        obtain ⟨ad, e0, hx⟩ := Kd.at_int HC1.out (i : Int) (by omega) (by omega)
        cases e0
        obtain ⟨xg, hxg⟩ : ∃ xg : Nat, rd p (i : Int) = (xg : Int) := ⟨(rd p (i : Int)).toNat, by have := rd_byte hpb (i : Int); omega⟩
        have hxg2 : xg ≤ 255 := by have := rd_byte hpb (i : Int); omega
        rw [hxg] at hx
        simp only [Int.toNat_natCast] at hx
        have hG1 : Aside0 (Good l (p.drop (i + 1)) at_ (xg : Int) 0) := ⟨by rw [← hxg, rd_nat]; exact hg8.out⟩
        clear hg8 HG hxg
        go_wp2
        go_loopg [5, 6, 7, 8] 8 (fun kb v5 v6 v7 v8 w' => ∃ at_ i g b : Nat, v5 = .int .i64 at_ ∧ v6 = .int .i64 i ∧ v7 = .int .i64 g ∧ v8 = .int .i64 b ∧ at_ ≤ l.length ∧ i ≤ p.length ∧ p.length ≤ i + k ∧ g ≤ 255 ∧ b + kb = 8 ∧ Aside0 (Good l (p.drop i) at_ (g : Int) b) ∧ Aside0 (Below w1.heap.size w1 w'))
        case atStart => exact ⟨at_, i + 1, xg, 0, rfl, by go_num, rfl, rfl, by omega, by omega, by omega, by omega, rfl, hG1, HB⟩
        case round =>
          clear hG1 HB hx hat hip hik hi hi1 hxg2 HC1
          obtain ⟨at_, i, g, b, rfl, rfl, rfl, rfl, hat, hip, hik, hg255, hbk, HG, HB3⟩ := hrel
          cases gk with
          | zero =>
            obtain rfl : b = 8 := by omega
            go_wp2
            go_roundg k
            case measure => omega
            case rel => exact ⟨at_, i, rfl, rfl, by omega, by omega, by omega, ⟨good_any HG.out⟩, HB3⟩
          | succ kb =>
            have hb8 : b < 8 := by omega
            have hb81 : (b : Int) < 8 := by omega
            rcases good_item HG.out hb8 with ⟨he, hg2, hgd⟩ | ⟨hal, hip1, hg2, hb3, hrd, hgd⟩ | ⟨hal, hip1, hg2, hb3, hrd, hgd⟩
            · have he1 : ((at_ : Int) == (l.length : Int)) = true := by rw [beq_iff_eq]; omega
              have he2 : (at_ == l.length) = true := by rw [beq_iff_eq]; omega
              have hgb : ((g : Int) % 2 == 1) = false := by rw [beq_eq_false_iff_ne]; omega
              have hgb2 : (g % 2 == 1) = false := by rw [beq_eq_false_iff_ne]; omega
              have HIT := Aside0.mk hgd
              clear hgd HG he hg2
              go_wp2
              go_roundg kb
              case measure => omega
              case rel => exact ⟨at_, i, g / 2, b + 1, rfl, rfl, by go_num, by go_num, by omega, by omega, by omega, by omega, by omega, ⟨by rw [← half_nat]; exact HIT.out⟩, HB3⟩
            · have he1 : ((at_ : Int) == (l.length : Int)) = false := by rw [beq_eq_false_iff_ne]; omega
              have he2 : (at_ == l.length) = false := by rw [beq_eq_false_iff_ne]; omega
              have hgb : ((g : Int) % 2 == 1) = false := by rw [beq_eq_false_iff_ne]; omega
              have hgb2 : (g % 2 == 1) = false := by rw [beq_eq_false_iff_ne]; omega
              have HIT := Aside0.mk (⟨hb3, hgd⟩ : (best l at_).1 < 3 ∧ _)
              have hip2 : (i : Int) < (p.length : Int) := by omega
              have hip3 : decide (p.length ≤ i) = false := by simp; omega
              have hal2 : (at_ : Int) < (l.length : Int) := by omega
              have hrr : Aside0 (rd p (i : Int) = rd l (at_ : Int)) := ⟨by rw [rd_nat, rd_nat]; exact hrd⟩
              clear hgd HG hg2 hb3 hrd
              go_wp2
              go_loopg [10, 11, 12] (min 1024 at_) (fun kd v10 v11 v12 w' => ∃ d bn nn e : Nat, v10 = .int .i64 bn ∧ v11 = .int .i64 nn ∧ v12 = .int .i64 e ∧ e = d + 1 ∧ d + kd = min 1024 at_ ∧ Aside0 (bst l at_ d = (bn, nn)) ∧ Aside0 (Below w1.heap.size w1 w'))
              case atStart => exact ⟨0, 0, 0, 1, rfl, rfl, rfl, rfl, by omega, ⟨rfl⟩, HB3⟩
              case round =>
                clear HB3
                obtain ⟨d, bn, nn, e, rfl, rfl, rfl, he, hdk, HBN, HB3⟩ := hrel
                cases gk with
                | zero =>
                  have hbst : best l at_ = (bn, nn) := by rw [best, ← HBN.out]; congr 1; omega
                  by_cases h1024 : e ≤ 1024
                  · have hd1 : (e : Int) ≤ 1024 := by omega
                    have hd2 : decide ((e : Int) ≤ (at_ : Int)) = false := by simp; omega
                    have hd3 : decide (e ≤ at_) = false := by simp; omega
                    have hbest3 : decide (3 ≤ bn) = false := by have := HIT.out.1; rw [hbst] at this; simp only at this; simp; omega
                    have hbest4 : decide ((3 : Int) ≤ (bn : Int)) = false := by have := HIT.out.1; rw [hbst] at this; simp only at this; simp; omega
                    clear hbst
                    obtain ⟨ad2, e2, hx2⟩ := Kd.at_int (Kd.C_below (Kd.C_below HR0.out H1.out.2) HB3.out) (at_ : Int) (by omega) (by omega)
                    cases e2
                    obtain ⟨ad3, e3, hx3⟩ := Kd.at_int (Kd.C_below H1.out.1 HB3.out) (i : Int) (by omega) (by omega)
                    cases e3
                    rw [hrr.out] at hx3
                    simp only [Int.toNat_natCast] at hx2 hx3
                    go_wp2
                    go_quiet (fail)
                    go_wp2
                    go_roundg kb
                    case measure => omega
                    case rel => exact ⟨at_ + 1, i + 1, g / 2, b + 1, by go_num, by go_num, by go_num, by go_num, by omega, by omega, by omega, by omega, by omega, ⟨by rw [← half_nat]; exact HIT.out.2⟩, ⟨pw_below_drewN HB3.out _⟩⟩
                  · have hd1 : decide ((e : Int) ≤ 1024) = false := by simp; omega
                    have hd2 : decide (e ≤ 1024) = false := by simp; omega
                    have hbest3 : decide (3 ≤ bn) = false := by have := HIT.out.1; rw [hbst] at this; simp only at this; simp; omega
                    have hbest4 : decide ((3 : Int) ≤ (bn : Int)) = false := by have := HIT.out.1; rw [hbst] at this; simp only at this; simp; omega
                    clear hbst
                    obtain ⟨ad2, e2, hx2⟩ := Kd.at_int (Kd.C_below (Kd.C_below HR0.out H1.out.2) HB3.out) (at_ : Int) (by omega) (by omega)
                    cases e2
                    obtain ⟨ad3, e3, hx3⟩ := Kd.at_int (Kd.C_below H1.out.1 HB3.out) (i : Int) (by omega) (by omega)
                    cases e3
                    rw [hrr.out] at hx3
                    simp only [Int.toNat_natCast] at hx2 hx3
                    go_wp2
                    go_quiet (fail)
                    go_wp2
                    go_roundg kb
                    case measure => omega
                    case rel => exact ⟨at_ + 1, i + 1, g / 2, b + 1, by go_num, by go_num, by go_num, by go_num, by omega, by omega, by omega, by omega, by omega, ⟨by rw [← half_nat]; exact HIT.out.2⟩, ⟨pw_below_drewN HB3.out _⟩⟩
                | succ kd =>
                  have hd1 : (e : Int) ≤ 1024 := by omega
                  have hd2 : e ≤ 1024 := by omega
                  have hd3 : (e : Int) ≤ (at_ : Int) := by omega
                  have hd4 : decide (e ≤ at_) = true := by simp; omega
                  have HE := Aside0.mk (⟨he, hdk⟩ : e = d + 1 ∧ d + (kd + 1) = min 1024 at_)
                  clear he hdk
                  obtain ⟨an, han⟩ : ∃ an, al l at_ e = an := ⟨_, rfl⟩
                  have HAN := Aside0.mk han
                  clear han
                  by_cases hlt : bn < an
                  · have hlt1 : (bn : Int) < (an : Int) := by omega
                    have hlt2 : decide (bn < an) = true := by simp; omega
                    go_wp2_with (go_at_call 27; refine (run_any _ _ _ _ _ _ (Kd.C_below (Kd.C_below HR0.out H1.out.2) HB3.out) hl (by omega) (by omega)).mono ?_; rw [HAN.out]; rintro e' w2 ⟨rfl, hb2⟩; have HB4 := Aside0.mk (below_step HB3.out hb2); clear hb2)
                    go_roundg kd
                    case measure => omega
                    case rel => exact ⟨d + 1, an, e, e + 1, by go_num, by go_num, by go_num, by have := HE.out.1; omega, by have := HE.out.2; omega, ⟨by rw [bst_succ, ← HE.out.1, HBN.out, HAN.out, if_pos hlt]⟩, HB4⟩
                  · have hlt1 : (an : Int) ≤ (bn : Int) := by omega
                    have hlt2 : decide (bn < an) = false := by simp; omega
                    go_wp2_with (go_at_call 27; refine (run_any _ _ _ _ _ _ (Kd.C_below (Kd.C_below HR0.out H1.out.2) HB3.out) hl (by omega) (by omega)).mono ?_; rw [HAN.out]; rintro e' w2 ⟨rfl, hb2⟩; have HB4 := Aside0.mk (below_step HB3.out hb2); clear hb2)
                    go_roundg kd
                    case measure => omega
                    case rel => exact ⟨d + 1, bn, nn, e + 1, by go_num, by go_num, by go_num, by have := HE.out.1; omega, by have := HE.out.2; omega, ⟨by rw [bst_succ, ← HE.out.1, HBN.out, HAN.out, if_neg hlt]⟩, HB4⟩
            · have he1 : ((at_ : Int) == (l.length : Int)) = false := by rw [beq_eq_false_iff_ne]; omega
              have he2 : (at_ == l.length) = false := by rw [beq_eq_false_iff_ne]; omega
              have hgb : ((g : Int) % 2 == 1) = true := by rw [beq_iff_eq]; omega
              have hgb2 : (g % 2 == 1) = true := by rw [beq_iff_eq]; omega
              obtain ⟨j, hj⟩ : ∃ j : Nat, j = i + 1 := ⟨_, rfl⟩
              have hj1 : (i : Int) + 1 = (j : Int) := by omega
              obtain ⟨xn, hxn⟩ : ∃ xn : Nat, rd p (i : Int) = (xn : Int) := ⟨(rd p (i : Int)).toNat, by have := rd_byte hpb (i : Int); omega⟩
              obtain ⟨yn, hyn⟩ : ∃ yn : Nat, rd p (j : Int) = (yn : Int) := ⟨(rd p (j : Int)).toNat, by have := rd_byte hpb (j : Int); omega⟩
              have hxn2 : xn ≤ 255 := by have := rd_byte hpb (i : Int); omega
              have hyn2 : yn ≤ 255 := by have := rd_byte hpb (j : Int); omega
              rw [← hj, ← rd_nat, ← rd_nat, hxn, hyn] at hrd
              have HIT := Aside0.mk (⟨hb3, hrd, hgd⟩ : 3 ≤ (best l at_).1 ∧ _ ∧ _)
              have hxn := Aside0.mk hxn
              have hyn := Aside0.mk hyn
              have hip0 : i < p.length := by omega
              have hip2 : (i : Int) < (p.length : Int) := by omega
              have hip3 : decide (p.length ≤ i) = false := by simp; omega
              have hjp : j < p.length := by omega
              have hjp2 : (j : Int) < (p.length : Int) := by omega
              have hjp3 : decide (p.length ≤ j) = false := by simp; omega
              have hal2 : (at_ : Int) < (l.length : Int) := by omega
              have HJ := Aside0.mk hj
              clear hgd HG hg2 hb3 hrd hj hip1
              go_wp2
              go_loopg [10, 11, 12] (min 1024 at_) (fun kd v10 v11 v12 w' => ∃ d bn nn e : Nat, v10 = .int .i64 bn ∧ v11 = .int .i64 nn ∧ v12 = .int .i64 e ∧ e = d + 1 ∧ d + kd = min 1024 at_ ∧ Aside0 (bst l at_ d = (bn, nn)) ∧ Aside0 (Below w1.heap.size w1 w'))
              case atStart => exact ⟨0, 0, 0, 1, rfl, rfl, rfl, rfl, by omega, ⟨rfl⟩, HB3⟩
              case round =>
                clear HB3
                obtain ⟨d, bn, nn, e, rfl, rfl, rfl, he, hdk, HBN, HB3⟩ := hrel
                cases gk with
                | zero =>
                  have hbst : best l at_ = (bn, nn) := by rw [best, ← HBN.out]; congr 1; omega
                  by_cases h1024 : e ≤ 1024
                  · have hd1 : (e : Int) ≤ 1024 := by omega
                    have hd2 : decide ((e : Int) ≤ (at_ : Int)) = false := by simp; omega
                    have hd3 : decide (e ≤ at_) = false := by simp; omega
                    have hb3 : 3 ≤ bn := by have := HIT.out.1; rw [hbst] at this; exact this
                    have hb31 : (3 : Int) ≤ (bn : Int) := by omega
                    have hb32 : decide (3 ≤ bn) = true := by simp; omega
                    have hbn66 : bn ≤ 66 ∧ at_ + bn ≤ l.length := by have := bst_le l at_ (min 1024 at_); rw [best] at hbst; rw [hbst] at this; simp only at this; omega
                    have hnn : 1 ≤ nn ∧ nn ≤ 1024 := by have := bst_pos l at_ (min 1024 at_); rw [best] at hbst; rw [hbst] at this; simp only at this; omega
                    obtain ⟨v, hv⟩ : ∃ v : Nat, v = (nn - 1) * 64 + (bn - 3) := ⟨_, rfl⟩
                    have hv1 : ((nn : Int) - 1) * 64 + (bn : Int) - 3 = (v : Int) := by omega
                    have hv2 : 256 * (xn : Int) + (yn : Int) = (v : Int) := by have := HIT.out.2.1; rw [hbst, itemV] at this; simp only at this; rw [this, hv]
                    have hgood : Good l (p.drop (i + 2)) (at_ + bn) ((g : Int) / 2) (b + 1) := by have := HIT.out.2.2; rw [hbst] at this; exact this
                    have HGD := Aside0.mk hgood
                    obtain ⟨ad2, e2, hx2⟩ := Kd.at_int (Kd.C_below H1.out.1 HB3.out) (j : Int) (by omega) (by omega)
                    cases e2
                    obtain ⟨ad3, e3, hx3⟩ := Kd.at_int (Kd.C_below H1.out.1 HB3.out) (i : Int) (by omega) (by omega)
                    cases e3
                    rw [hyn.out] at hx2
                    rw [hxn.out] at hx3
                    simp only [Int.toNat_natCast] at hx2 hx3
                    clear hbst hv hgood
                    obtain ⟨hbn66, hatb⟩ := hbn66
                    obtain ⟨hnn1, hnn2⟩ := hnn
                    go_wp2
                    go_quiet (fail)
                    go_wp2
                    go_roundg kb
                    case measure => omega
                    case rel => exact ⟨at_ + bn, i + 2, g / 2, b + 1, by go_num, by go_num, by go_num, by go_num, by omega, by have := HJ.out; omega, by omega, by omega, by omega, ⟨by rw [← half_nat]; exact HGD.out⟩, ⟨pw_below_drewN HB3.out _⟩⟩
                  · have hd1 : decide ((e : Int) ≤ 1024) = false := by simp; omega
                    have hd2 : decide (e ≤ 1024) = false := by simp; omega
                    have hb3 : 3 ≤ bn := by have := HIT.out.1; rw [hbst] at this; exact this
                    have hb31 : (3 : Int) ≤ (bn : Int) := by omega
                    have hb32 : decide (3 ≤ bn) = true := by simp; omega
                    have hbn66 : bn ≤ 66 ∧ at_ + bn ≤ l.length := by have := bst_le l at_ (min 1024 at_); rw [best] at hbst; rw [hbst] at this; simp only at this; omega
                    have hnn : 1 ≤ nn ∧ nn ≤ 1024 := by have := bst_pos l at_ (min 1024 at_); rw [best] at hbst; rw [hbst] at this; simp only at this; omega
                    obtain ⟨v, hv⟩ : ∃ v : Nat, v = (nn - 1) * 64 + (bn - 3) := ⟨_, rfl⟩
                    have hv1 : ((nn : Int) - 1) * 64 + (bn : Int) - 3 = (v : Int) := by omega
                    have hv2 : 256 * (xn : Int) + (yn : Int) = (v : Int) := by have := HIT.out.2.1; rw [hbst, itemV] at this; simp only at this; rw [this, hv]
                    have hgood : Good l (p.drop (i + 2)) (at_ + bn) ((g : Int) / 2) (b + 1) := by have := HIT.out.2.2; rw [hbst] at this; exact this
                    have HGD := Aside0.mk hgood
                    obtain ⟨ad2, e2, hx2⟩ := Kd.at_int (Kd.C_below H1.out.1 HB3.out) (j : Int) (by omega) (by omega)
                    cases e2
                    obtain ⟨ad3, e3, hx3⟩ := Kd.at_int (Kd.C_below H1.out.1 HB3.out) (i : Int) (by omega) (by omega)
                    cases e3
                    rw [hyn.out] at hx2
                    rw [hxn.out] at hx3
                    simp only [Int.toNat_natCast] at hx2 hx3
                    clear hbst hv hgood
                    obtain ⟨hbn66, hatb⟩ := hbn66
                    obtain ⟨hnn1, hnn2⟩ := hnn
                    go_wp2
                    go_quiet (fail)
                    go_wp2
                    go_roundg kb
                    case measure => omega
                    case rel => exact ⟨at_ + bn, i + 2, g / 2, b + 1, by go_num, by go_num, by go_num, by go_num, by omega, by have := HJ.out; omega, by omega, by omega, by omega, ⟨by rw [← half_nat]; exact HGD.out⟩, ⟨pw_below_drewN HB3.out _⟩⟩
                | succ kd =>
                  have hd1 : (e : Int) ≤ 1024 := by omega
                  have hd2 : e ≤ 1024 := by omega
                  have hd3 : (e : Int) ≤ (at_ : Int) := by omega
                  have hd4 : decide (e ≤ at_) = true := by simp; omega
                  have HE := Aside0.mk (⟨he, hdk⟩ : e = d + 1 ∧ d + (kd + 1) = min 1024 at_)
                  clear he hdk
                  obtain ⟨an, han⟩ : ∃ an, al l at_ e = an := ⟨_, rfl⟩
                  have HAN := Aside0.mk han
                  clear han
                  by_cases hlt : bn < an
                  · have hlt1 : (bn : Int) < (an : Int) := by omega
                    have hlt2 : decide (bn < an) = true := by simp; omega
                    go_wp2_with (go_at_call 27; refine (run_any _ _ _ _ _ _ (Kd.C_below (Kd.C_below HR0.out H1.out.2) HB3.out) hl (by omega) (by omega)).mono ?_; rw [HAN.out]; rintro e' w2 ⟨rfl, hb2⟩; have HB4 := Aside0.mk (below_step HB3.out hb2); clear hb2)
                    go_roundg kd
                    case measure => omega
                    case rel => exact ⟨d + 1, an, e, e + 1, by go_num, by go_num, by go_num, by have := HE.out.1; omega, by have := HE.out.2; omega, ⟨by rw [bst_succ, ← HE.out.1, HBN.out, HAN.out, if_pos hlt]⟩, HB4⟩
                  · have hlt1 : (an : Int) ≤ (bn : Int) := by omega
                    have hlt2 : decide (bn < an) = false := by simp; omega
                    go_wp2_with (go_at_call 27; refine (run_any _ _ _ _ _ _ (Kd.C_below (Kd.C_below HR0.out H1.out.2) HB3.out) hl (by omega) (by omega)).mono ?_; rw [HAN.out]; rintro e' w2 ⟨rfl, hb2⟩; have HB4 := Aside0.mk (below_step HB3.out hb2); clear hb2)
                    go_roundg kd
                    case measure => omega
                    case rel => exact ⟨d + 1, bn, nn, e + 1, by go_num, by go_num, by go_num, by have := HE.out.1; omega, by have := HE.out.2; omega, ⟨by rw [bst_succ, ← HE.out.1, HBN.out, HAN.out, if_neg hlt]⟩, HB4⟩
      · have hat2 : at_ = l.length := (good_eight HG.out).2 (by omega)
        subst hat2
        have hi1 : (p.length : Int) ≤ (i : Int) := by omega
        clear HC1 HG
        go_wp2_with (go_at_call 24; refine (awake_any _).mono ?_; rintro e w7 ⟨rfl, hb7⟩)
        go_ret
        exact ⟨rfl, below_step (below_step H1.out.2 HB.out) hb7⟩
end Go.Proofs.Ytoefligelajfkaa.Press
