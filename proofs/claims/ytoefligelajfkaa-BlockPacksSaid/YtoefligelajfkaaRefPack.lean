import Derived.Test.YtoefligelajfkaaMatch
import Derived.Test.YtoefligelajfkaaRefUn
import Derived.Test.YtoefligelajfkaaBest
import Derived.Test.YtoefligelajfkaaPack
namespace Go.Proofs.Ytoefligelajfkaa.Press
open Go.RowKit Go.Proofs.YtoefligelajfkaaW.PrintWords Go.Proofs.YtoefligelajfkaaW.PrintLast Go.Proofs.YtoefligelajfkaaW.PrintMore Go.Proofs.Ytoefligelajfkaa.PPressSpoilt

theorem alike_run (l : List Int) (at_ g : Nat) (hg : g ≤ at_) (hat : at_ ≤ l.length) (hl : l.length ≤ 4096) : ∀ (f n k : Nat), n + f = min 66 (l.length - at_) → f < k →
    freightref4_alike.l0 k l (g : Int) at_ n = some ((grow l g at_ (min 66 (l.length - at_)) f n : Nat) : Int) := by
  intro f
  induction f with
  | zero =>
    intro n k hn hk
    obtain ⟨k, rfl⟩ : ∃ j, k = j + 1 := ⟨k - 1, by omega⟩
    simp only [freightref4_alike.l0, grow]
    by_cases h : n < 66
    · rw [if_pos (by omega), w64 (x := (at_ : Int) + n) (by omega) (by omega), if_neg (by omega)]
    · rw [if_neg (by omega)]
  | succ f ih =>
    intro n k hn hk
    obtain ⟨k, rfl⟩ : ∃ j, k = j + 1 := ⟨k - 1, by omega⟩
    simp only [freightref4_alike.l0]
    rw [grow_succ, w64 (x := (at_ : Int) + n) (by omega) (by omega), w64 (x := (g : Int) + n) (by omega) (by omega), w64 (x := (n : Int) + 1) (by omega) (by omega)]
    rw [if_pos (by omega), if_pos (by omega), if_pos (by omega), if_pos (by omega), if_pos (by omega)]
    rw [show (g : Int) + n = ((g + n : Nat) : Int) by omega, show (at_ : Int) + n = ((at_ + n : Nat) : Int) by omega, show (n : Int) + 1 = ((n + 1 : Nat) : Int) by omega, rd_nat, rd_nat]
    by_cases h : l.getD (g + n) 0 = l.getD (at_ + n) 0
    · rw [if_pos h, if_pos ⟨by omega, h⟩]
      exact ih (n + 1) k (by omega) (by omega)
    · rw [if_neg h, if_neg (fun hh => h hh.2)]

theorem alike_f (l : List Int) (at_ d k : Nat) (hat : at_ ≤ l.length) (hl : l.length ≤ 4096) (hk : 66 < k) :
    freightref4_alike.f k l ((at_ - d : Nat) : Int) at_ = some (al l at_ d : Int) := by
  have := alike_run l at_ (at_ - d) (by omega) hat hl (min 66 (l.length - at_)) 0 k (by omega) (by omega)
  exact this

theorem match_run (l : List Int) (at_ : Nat) (hat : at_ ≤ l.length) (hl : l.length ≤ 4096) : ∀ (j d k : Nat), d + j = min 1024 at_ → 2 * j + 80 < k →
    freightref4_match.l0 k l at_ (bst l at_ d).1 (bst l at_ d).2 ((d + 1 : Nat) : Int) = some (((bst l at_ (min 1024 at_)).1 : Int), ((bst l at_ (min 1024 at_)).2 : Int)) := by
  intro j
  induction j with
  | zero =>
    intro d k hd hk
    obtain ⟨k, rfl⟩ : ∃ j, k = j + 2 := ⟨k - 2, by omega⟩
    rw [freightref4_match.l0]
    have e : d = min 1024 at_ := by omega
    by_cases h : ((d + 1 : Nat) : Int) ≤ 1024
    · rw [if_pos h, show decide (((d + 1 : Nat) : Int) ≤ (at_ : Int)) = false by simp; omega, freightref4_match.j1, if_neg (by simp), ← e]
    · rw [if_neg h, freightref4_match.j1, if_neg (by simp), ← e]
  | succ j ih =>
    intro d k hd hk
    obtain ⟨k, rfl⟩ : ∃ j, k = j + 2 := ⟨k - 2, by omega⟩
    rw [freightref4_match.l0, if_pos (by omega), show decide (((d + 1 : Nat) : Int) ≤ (at_ : Int)) = true by simp; omega, freightref4_match.j1, if_pos rfl]
    rw [show wrap64 ((at_ : Int) - ((d + 1 : Nat) : Int)) = ((at_ - (d + 1) : Nat) : Int) by rw [w64 (by omega) (by omega)]; omega]
    rw [alike_f l at_ (d + 1) k hat hl (by omega), Option.bind_some]
    rw [show wrap64 (((d + 1 : Nat) : Int) + 1) = ((d + 1 + 1 : Nat) : Int) by rw [w64 (by omega) (by omega)]; omega]
    have ih' := ih (d + 1) k (by omega) (by omega)
    rw [bst_succ] at ih'
    by_cases h : (bst l at_ d).1 < al l at_ (d + 1)
    · rw [if_pos h] at ih'
      rw [if_pos (by omega)]
      exact ih'
    · rw [if_neg h] at ih'
      rw [if_neg (by omega)]
      exact ih'

/-- freightref4's match. -/
theorem match_any (A0 : Option Addr) (c0 : Nat) (l0 : List Int) (at_ : Nat) (w : World) (hr0 : Kd.C (Kd.int .u8) w A0 l0.length l0) (hc0 : l0.length ≤ c0) (hat : at_ ≤ l0.length) (hl : l0.length ≤ 4096) :
    Calls Try.prog 52 #[.slice A0 l0.length c0, .int .i64 at_] w fun e w' => e = .returned (.tuple #[.int .i64 (bst l0 at_ (min 1024 at_)).1, .int .i64 (bst l0 at_ (min 1024 at_)).2]) ∧ Below w.heap.size w w' :=
  (freightref4_match.calls 3000 A0 c0 l0 at_ _ _ w hr0 hc0 (match_run l0 at_ hat hl (min 1024 at_) 0 3000 (by omega) (by omega))).mono fun e w' h => ⟨h.1, h.2.below⟩

/-- What is known at the loop's head. -/
structure RInv (w : World) (l0 : List Int) (rs : List Int) (wr : World) (k : Nat) (vo : Value) (out : List Int) (flag items at_ bit : Nat) : Prop where
  at_le : at_ ≤ l0.length
  fuel : l0.length ≤ at_ + k
  items_le : items ≤ at_
  olen : out.length ≤ 3 * items
  fl : items % 8 ≠ 0 → FlagOk out flag (items % 8)
  bit_eq : bit = if items % 8 = 0 then 8 else items % 8
  run : packR l0 k out flag items at_ = rs
  own : Kd.R (Kd.int .u8) 5 wr w.heap.size (fun _ => True) vo out
  bel : Below w.heap.size w wr

structure RMid (w : World) (wr : World) (vo : Value) (out : List Int) (flag items : Nat) : Prop where
  fl : FlagOk out flag (items % 8)
  olen : out.length ≤ 3 * items + 1
  own : Kd.R (Kd.int .u8) 5 wr w.heap.size (fun _ => True) vo out
  bel : Below w.heap.size w wr

theorem bit_next (items : Nat) : items % 8 + 1 = if (items + 1) % 8 = 0 then 8 else (items + 1) % 8 := by split <;> omega
theorem FlagOk.next {out : List Int} {flag items : Nat} (h : FlagOk out flag (items % 8 + 1)) : (items + 1) % 8 ≠ 0 → FlagOk out flag ((items + 1) % 8) := by
  intro h8
  have : (items + 1) % 8 = items % 8 + 1 := by omega
  rw [this]; exact h

theorem add_flag (fb : Int) (b : Nat) (hb : b < 8) (h0 : 0 ≤ fb) (h1 : fb < 2 ^ b) : (fb + 2 ^ b) % 256 = fb + 2 ^ b := by
  have : b = 0 ∨ b = 1 ∨ b = 2 ∨ b = 3 ∨ b = 4 ∨ b = 5 ∨ b = 6 ∨ b = 7 := by omega
  rcases this with rfl | rfl | rfl | rfl | rfl | rfl | rfl | rfl <;> (simp at h1 ⊢; omega)

set_option maxHeartbeats 4000000 in
set_option maxRecDepth 100000 in
theorem refpack_walk (A0 : Option Addr) (c0 : Nat) (l0 : List Int) (w : World) (hr0 : Kd.C (Kd.int .u8) w A0 l0.length l0) (hc0 : l0.length ≤ c0) (hl : l0.length ≤ 4096) :
    Calls Try.prog 21 #[.slice A0 l0.length c0] w fun e w' => ∃ v, e = .returned (.tuple #[v, .int .i64 0]) ∧
      Kd.R (Kd.int .u8) 5 w' w.heap.size (fun _ => True) v (packR l0 l0.length [] 0 0 0) ∧ Below w.heap.size w w' := by
  obtain ⟨rs, hrs⟩ : ∃ rs, packR l0 l0.length [] 0 0 0 = rs := ⟨_, rfl⟩
  rw [hrs]
  have HRS := Aside0.mk hrs
  clear hrs
  have HR0 := Aside0.mk hr0
  clear hr0
  have hl1 : (l0.length : Int) ≤ 4096 := by omega
  have hl2 : decide ((4096 : Int) < (l0.length : Int)) = false := by simp; omega
  have hl3 : decide (4096 < l0.length) = false := by simp; omega
  go_enter Try.func21, Try.ntmps21
  go_wp2
  go_loopg [4, 5, 6, 7] (l0.length) (fun k v4 v5 v6 v7 w' => ∃ (out : List Int) (flag items at_ bit : Nat), v5 = .int .i64 flag ∧ v6 = .int .i64 bit ∧ v7 = .int .i64 at_ ∧ RInv w l0 rs w' k v4 out flag items at_ bit)
  case atStart => exact ⟨[], 0, 0, 0, 8, rfl, rfl, rfl, ⟨Nat.zero_le _, by omega, Nat.le_refl _, by simp, fun h => absurd rfl h, rfl, HRS.out, Kd.R_nil _ _ _ _ _, Below.refl _ _⟩⟩
  case round =>
    obtain ⟨out, flag, items, at_, bit, rfl, rfl, rfl, HI0⟩ := hrel
    obtain ⟨Ao, co, eo⟩ := Kd.R_slice HI0.own
    subst eo
    by_cases hat : at_ < l0.length
    · have hat1 : (at_ : Int) < (l0.length : Int) := by omega
      have hit : items ≤ 4096 := by have := HI0.items_le; omega
      have hol : out.length ≤ 12288 := by have := HI0.olen; omega
      cases gk with
      | zero => exact absurd HI0.fuel (by omega)
      | succ k =>
      go_upto_if 19 with (fail)
      go_cut [4, 5, 6] (fun v4 v5 v6 wc => ∃ flag1 bit1 : Nat, v5 = .int .i64 flag1 ∧ v6 = .int .i64 bit1 ∧ bit1 = items % 8 ∧ flag1 = (if items % 8 = 0 then out.length else flag) ∧ RMid w wc v4 (if items % 8 = 0 then out ++ [0] else out) flag1 items)
      case first =>
        by_cases h8 : items % 8 = 0
        · have h80 : bit = 8 := by rw [HI0.bit_eq, if_pos h8]
          have h81 : ((bit : Int) == 8) = true := by simp; omega
          have H8 := Aside0.mk h8
          clear h8 h80
          go_wp2_with (at_builtin; refine Kd.R_append (Kd.int .u8) (w0 := w) w.heap.size rfl (.tmp 22) (.tmp 23) 22 5 (.int .u8 0) 1 rfl Try.underlying22 info5 rfl (by decide) (by omega) (.slice Ao out.length co) out 0 [.int .u8 0] (fun _ => True) (fun _ => False) rfl rfl rfl (fun _ hk => hk.elim) (fun _ _ => trivial) HI0.own HI0.bel HI0.bel.size (by omega) ?_; intro v1 w2 ho hb hg hat')
          go_meet
          case rel =>
            refine ⟨out.length, 0, rfl, rfl, H8.out.symm, by rw [if_pos H8.out], ?_⟩
            rw [if_pos H8.out]
            exact ⟨by rw [H8.out]; exact FlagOk.new out, by have := HI0.olen; simp; omega, ho, hb⟩
        · have h80 : bit = items % 8 := by rw [HI0.bit_eq, if_neg h8]
          have h81 : ((bit : Int) == 8) = false := by simp; omega
          have H8 := Aside0.mk h8
          clear h8
          go_wp2
          go_meet
          case rel =>
            refine ⟨flag, bit, rfl, rfl, h80, by rw [if_neg H8.out], ?_⟩
            rw [if_neg H8.out]
            exact ⟨HI0.fl H8.out, by have := HI0.olen; omega, HI0.own, HI0.bel⟩
      case rest =>
        obtain ⟨flag1, bit1, rfl, rfl, hbit1, hfl1, HM⟩ := hcut
        obtain ⟨out1, ho1⟩ : ∃ o, o = (if items % 8 = 0 then out ++ [0] else out) := ⟨_, rfl⟩
        have hrun := HI0.run
        rw [packR, if_pos hat, ← hfl1, ← ho1] at hrun
        rw [← ho1] at HM
        have hb := fnd_bounds l0 at_
        have hbe := fnd_best l0 at_
        obtain ⟨mn, md, hmd⟩ : ∃ mn md, bst l0 at_ (min 1024 at_) = (mn, md) := ⟨_, _, rfl⟩
        rw [hmd] at hbe
        rw [hbe] at hb hrun
        have HMD := Aside0.mk hmd
        have hb7 : bit1 < 8 := by omega
        have HBIT := Aside0.mk hbit1
        clear hmd hbe hfl1 ho1 hbit1
        obtain ⟨Ao1, co1, eo1⟩ := Kd.R_slice HM.own
        subst eo1
        have hol1 : out1.length ≤ 12289 := by have := HM.olen; omega
        by_cases hn3 : 3 ≤ mn
        · have hn31 : (3 : Int) ≤ (mn : Int) := by omega
          have hcb : cutB (mn, md) = (mn, md) := by rw [cutB, if_pos hn3]
          rw [hcb] at hb hrun
          have hbb := hb.resolve_left (by simp only; omega)
          clear hb hcb
          rw [if_neg (by simp only; omega)] at hrun
          have HRUN := Aside0.mk hrun
          clear hrun
          obtain ⟨hb1, hb2, hb3, hb4, hb5, hb6⟩ := hbb
          simp only at hb1 hb2 hb3 hb4 hb5 hb6
          obtain ⟨v, hv⟩ : ∃ v : Nat, v = (md - 1) * 64 + (mn - 3) := ⟨_, rfl⟩
          have hv1 : ((md : Int) - 1) * 64 + (mn : Int) - 3 = (v : Int) := by omega
          have hv2 : v ≤ 65535 := by omega
          have HV := Aside0.mk hv
          clear hv
          go_wp2_with (first
            | (go_at_call 52; refine (match_any _ _ _ _ _ (Kd.C_below HR0.out HM.bel) hc0 (by omega) hl).mono ?_; rw [HMD.out]; rintro e w3 ⟨rfl, hb3⟩; have hR3 := Kd.R_below HM.own hb3; have hB3 := below_step HM.bel hb3; clear hb3)
            | (at_builtin; go_loud (refine Kd.R_append_rows (Kd.int .u8) (w0 := w) w.heap.size rfl (.tmp 39) (.tmp 46) 22 5 (.int .u8 0) 1 rfl Try.underlying22 info5 rfl (by decide) (by omega) (.slice Ao1 out1.length co1) out1 [(v : Int) / 256, (v : Int) % 256] (some ⟨w3.heap.size, 0, none⟩) 2 2 (fun _ => True) (fun _ => False) rfl rfl (Kd.R_alloc hR3 _) (reads_two w3 w.heap.size _ _ hB3.size) (fun _ _ h => h) (fun _ hk => hk.elim) (fun _ _ => trivial) (below_alloc hB3 _) (by simp; have := hB3.size; omega) (by omega) ?_); intro v1 w4 ho hb7 hg4 hat'))
          obtain ⟨out3, ho3⟩ : ∃ o, o = out1 ++ [(v : Int) / 256, (v : Int) % 256] := ⟨_, rfl⟩
          rw [← ho3] at ho
          have hfk : FlagOk out3 flag1 (items % 8) := by rw [ho3]; exact HM.fl.append _
          have hflt := hfk.lt
          obtain ⟨g, cap, ev1, hgb, hglt, cells, hcells⟩ := Kd.R_form ho (by omega)
          subst ev1
          obtain ⟨hc, hz⟩ := Kd.R_celln (0 : Int) ho (flag1 : Int) (by omega) (by omega)
          simp only [Int.toNat_natCast] at hc hz
          obtain ⟨fb, hfb⟩ : ∃ fb : Int, rdOf 0 out3 (flag1 : Int) = fb := ⟨_, rfl⟩
          rw [hfb] at hc
          have hflt1 : (flag1 : Int) < (out3.length : Int) := by omega
          have HQ := Aside0.mk (⟨ho, hb7⟩ : Kd.R (Kd.int .u8) 5 w4 w.heap.size (fun _ => True) (.slice (some ⟨g, 0, none⟩) out3.length cap) out3 ∧ Below w.heap.size w w4)
          have HO3 := Aside0.mk (⟨ho3, hfb⟩ : out3 = out1 ++ [(v : Int) / 256, (v : Int) % 256] ∧ rdOf 0 out3 (flag1 : Int) = fb)
          clear ho hb7 hcells ho3 hfb hg4 hat' hfk
          go_region
          go_wp2
          go_roundg k
          case measure => omega
          case rel =>
            have hr := HRUN.out
            have hfk : FlagOk out3 flag1 (items % 8) := by rw [HO3.out.1]; exact HM.fl.append _
            have hfd : fb = out3.getD flag1 0 := by rw [← HO3.out.2]; simp [rdOf]
            have hor : (fb + 2 ^ (items % 8)) % 256 = fb + 2 ^ (items % 8) := add_flag fb (items % 8) (by omega) (by rw [hfd]; exact hfk.lo) (by rw [hfd]; exact hfk.hi)
            have hmk : mark out3 flag1 (items % 8) = out3.set flag1 (fb + 2 ^ (items % 8)) := by rw [mark, hfd]
            have hR := Kd.R_drew (Kd.R_putn (enc := Value.int .u8) (h1 := fun _ => rfl) HQ.out.1 (flag1 : Int) (fb + 2 ^ (items % 8)))
            simp only [Int.toNat_natCast] at hR
            have hiv : itemV (mn, md) = (v : Int) := by rw [itemV, HV.out]
            have hbi := HBIT.out
            subst hbi
            rw [hor]
            rw [hiv, ← HO3.out.1] at hr
            exact ⟨mark out3 flag1 (items % 8), flag1, items + 1, at_ + mn, items % 8 + 1, rfl, by go_num, by go_num, by omega, by have := HI0.fuel; omega, by have := HI0.items_le; omega, by rw [mark_length, HO3.out.1]; have := HM.olen; simp; omega, hfk.mark.next, bit_next items, hr, by rw [hmk]; exact hR, (HQ.out.2.setCell hgb _).drew⟩
        · have hn31 : decide ((3 : Int) ≤ (mn : Int)) = false := by simp; omega
          have hn32 : decide (3 ≤ mn) = false := by simp; omega
          have hcb : cutB (mn, md) = (0, 0) := by rw [cutB, if_neg hn3]
          rw [hcb, if_pos rfl] at hrun
          have HRUN := Aside0.mk hrun
          clear hrun hb hcb hn3
          go_wp2_with (first
            | (go_at_call 52; refine (match_any _ _ _ _ _ (Kd.C_below HR0.out HM.bel) hc0 (by omega) hl).mono ?_; rw [HMD.out]; rintro e w3 ⟨rfl, hb3⟩; have hR3 := Kd.R_below HM.own hb3; have hB3 := below_step HM.bel hb3; obtain ⟨ad, e0, hx⟩ := Kd.at_int (Kd.C_below HR0.out hB3) (at_ : Int) (by omega) (by omega); cases e0; simp only [Int.toNat_natCast] at hx; clear hb3)
            | (at_builtin; refine Kd.R_append (Kd.int .u8) (w0 := w) w.heap.size rfl (.tmp 61) (.tmp 66) 22 5 (.int .u8 0) 1 rfl Try.underlying22 info5 rfl (by decide) (by omega) (.slice Ao1 out1.length co1) out1 (rd l0 at_) [.int .u8 (rd l0 at_)] (fun _ => True) (fun _ => False) rfl rfl rfl (fun _ hk => hk.elim) (fun _ _ => trivial) hR3 hB3 hB3.size (by omega) ?_; intro v1 w4 ho hb4 hg4 hat'))
          go_roundg k
          case measure => omega
          case rel =>
            have hr := HRUN.out
            exact ⟨out1 ++ [rd l0 at_], flag1, items + 1, at_ + 1, bit1 + 1, rfl, by go_num, by go_num, by omega, by have := HI0.fuel; omega, by have := HI0.items_le; omega, by have := HM.olen; simp; omega, (HM.fl.append _).up.next, by rw [HBIT.out]; exact bit_next items, by rw [rd_nat]; exact hr, ho, hb4⟩
    · have hat0 : at_ = l0.length := by have := HI0.at_le; omega
      have hat1 : (l0.length : Int) ≤ (at_ : Int) := by omega
      have hr := HI0.run
      have : packR l0 gk out flag items at_ = out := by cases gk <;> simp [packR, hat]
      rw [this] at hr
      subst hr
      clear this hat0
      go_wp2
      go_ret2
      exact ⟨_, rfl, HI0.own, HI0.bel⟩

/-- freightref4.Pack of any bytes. -/
theorem ref_pack_any (A0 : Option Addr) (c0 : Nat) (l0 : List Int) (w : World) (hr0 : Kd.C (Kd.int .u8) w A0 l0.length l0) (hc0 : l0.length ≤ c0) (hl : l0.length ≤ 140737488355328) :
    Calls Try.prog 21 #[.slice A0 l0.length c0] w fun e w' => ∃ v, e = .returned (.tuple #[v, .int .i64 (packS l0).2]) ∧
      Kd.R (Kd.int .u8) 5 w' w.heap.size (fun _ => True) v (packS l0).1 ∧ Below w.heap.size w w' := by
  by_cases h : l0.length > 4096
  · have hs : packS l0 = ([], 2) := by unfold packS; rw [if_pos h]
    rw [hs]
    have h1 : (4096 : Int) < (l0.length : Int) := by omega
    go_enter Try.func21, Try.ntmps21
    go_wp2
    go_ret2
    exact ⟨_, rfl, Kd.R_nil _ _ _ _ _, Below.refl _ _⟩
  · have hs : packS l0 = (packR l0 l0.length [] 0 0 0, 0) := by unfold packS; rw [if_neg h]
    rw [hs]
    exact refpack_walk A0 c0 l0 w hr0 hc0 (by omega)
end Go.Proofs.Ytoefligelajfkaa.Press
