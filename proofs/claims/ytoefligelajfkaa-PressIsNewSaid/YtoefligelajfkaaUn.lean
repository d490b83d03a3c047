import Derived.Test.YtoefligelajfkaaPPressSpoiltx2
import Derived.Test.YtoefligelajfkaaSpec
import Derived.Test.YtoefligelajfkaaScope
import Derived.WalkMore
import Derived.Outline
namespace Go.Proofs.Ytoefligelajfkaa.Press
open Go.RowKit Go.Proofs.YtoefligelajfkaaW.PrintWords Go.Proofs.YtoefligelajfkaaW.PrintLast Go.Proofs.YtoefligelajfkaaW.PrintMore

def UFrame (A0 : Option Addr) (c0 : Nat) (l0 : List Int) (n : Int) (vo : Value) (at_ : Nat) (u7 u9 : Value) (a : Act) : Prop :=
  ∃ u10 u11 u12 u13 u14 u15 u16 u17 u18 u19 u20 u21 u22 u23 u24 u25 u26 u27 u28 u29 u30 u31 u32 u33 u34 u35 u36 u37 u38 u39 u40 u41 u42 u43 u44 u45 u46 u47 u48 u49 u50 u51 u52 u53 u54 u55 u56 u57 u58 u59 u60 u61 u62 u63 u64 u65 u66 u67 u68 u69 u70 u71 u72 u73 u74 u75 u76 u77 u78 u79 u80 u81 u82 u83 u84 u85 u86 u87 u88 u89 u90 u91 u92 u93 u94 u95 u96 u97 u98 u99 u100 u101 u102 u103 u104 u105 u106 u107 u108 u109 u110 u111 u112 u113 u114 u115 u116 u117 u118 u119 : Value, a = { tmps := #[.slice A0 l0.length c0, .int .i64 n, undef, undef, .slice none 0 0, .int .i64 0, vo, u7, .int .i64 (at_ : Int), u9, u10, u11, u12, u13, u14, u15, u16, u17, u18, u19, u20, u21, u22, u23, u24, u25, u26, u27, u28, u29, u30, u31, u32, u33, u34, u35, u36, u37, u38, u39, u40, u41, u42, u43, u44, u45, u46, u47, u48, u49, u50, u51, u52, u53, u54, u55, u56, u57, u58, u59, u60, u61, u62, u63, u64, u65, u66, u67, u68, u69, u70, u71, u72, u73, u74, u75, u76, u77, u78, u79, u80, u81, u82, u83, u84, u85, u86, u87, u88, u89, u90, u91, u92, u93, u94, u95, u96, u97, u98, u99, u100, u101, u102, u103, u104, u105, u106, u107, u108, u109, u110, u111, u112, u113, u114, u115, u116, u117, u118, u119], defers := [] }

def UJ (w0 : World) (A0 : Option Addr) (c0 : Nat) (l0 : List Int) (n : Int) (rs : List Int × Int) (m l : Nat) (a : Act) (w : World) : Prop :=
  ∃ (out : List Int) (vo : Value) (at_ : Nat) (u7 u9 : Value), UFrame A0 c0 l0 n vo at_ u7 u9 a ∧ at_ ≤ l0.length ∧ (out.length : Int) ≤ n ∧ Kd.R (Kd.int .u8) 5 w w0.heap.size (fun _ => True) vo out ∧ Below w0.heap.size w0 w ∧
    ((l = 0 ∧ fin n out = rs) ∨ (l = 1 ∧ uR n (l0.drop at_) out 0 8 = rs ∧ m = 2 * (l0.length - at_) + 1) ∨
     (l = 2 ∧ ∃ (flag : Int) (items : Nat), u7 = .int .u8 flag ∧ u9 = .int .i64 items ∧ items ≤ 8 ∧ 0 ≤ flag ∧ flag ≤ 255 ∧ uR n (l0.drop at_) out (flag / 2 ^ items) items = rs ∧ m = 2 * (l0.length - at_) + 2))

theorem half_pow (f : Int) (i : Nat) : f / 2 ^ (i + 1) = f / 2 ^ i / 2 := by
  rw [Int.pow_succ, Int.ediv_ediv_of_nonneg (Int.le_of_lt (Int.pow_pos (by omega)))]
theorem i64_join8 (x y : Int) (h0 : 0 ≤ x) (h1 : x ≤ 255) (h2 : 0 ≤ y) (h3 : y ≤ 255) : bits .or .i64 (x * 256) y = x * 256 + y :=
  bits_join .i64 16 (by decide) (fun n a b => IntWalk.i64_in n (by omega)) 8 (x * 256) y (by omega) (by omega) (by omega) (by omega) (by omega) (by omega)
theorem i64_and63 (x : Int) (h0 : 0 ≤ x) (h1 : x ≤ 65535) : bits .and .i64 x 63 = x % 64 :=
  bits_mask .i64 16 (by decide) (fun n a b => IntWalk.i64_in n (by omega)) 6 (by decide) x h0 (by omega)
theorem rd_byte {l : List Int} (h : ∀ x ∈ l, 0 ≤ x ∧ x ≤ 255) (i : Int) : 0 ≤ rd l i ∧ rd l i ≤ 255 := by
  unfold rd
  rw [List.getD_eq_getElem?_getD]
  cases hi : l[i.toNat]? with
  | none => simp
  | some x => exact h x (List.mem_of_getElem? hi)
theorem info5 : (Try.prog.info? 5).map (fun i => (i.zero, i.size, i.bytes)) = some (some (.int .u8 0), 1, 1) := by kernel_rfl

set_option maxHeartbeats 4000000 in
set_option maxRecDepth 100000 in
theorem unpack_walk (A0 : Option Addr) (c0 : Nat) (l0 : List Int) (N : Nat) (w : World) (hr0 : Kd.C (Kd.int .u8) w A0 l0.length l0) (hby : ∀ x ∈ l0, 0 ≤ x ∧ x ≤ 255)
    (hl : l0.length ≤ 140737488355328) (hn : N ≤ 4096) :
    Calls Try.prog 25 #[.slice A0 l0.length c0, .int .i64 (N : Int)] w fun e w' => ∃ v, e = .returned (.tuple #[v, .int .i64 (uR N l0 [] 0 8).2]) ∧
      Kd.R (Kd.int .u8) 5 w' w.heap.size (fun _ => True) v (uR N l0 [] 0 8).1 ∧ Below w.heap.size w w' := by
  obtain ⟨i0, hi, hz0, hz1, hz2⟩ := info_parts info5
  have HI := Aside0.mk hi
  have HZ0 := Aside0.mk hz0
  have HZ1 := Aside0.mk hz1
  have HZ2 := Aside0.mk hz2
  clear hi hz0 hz1 hz2
  have hd0 : decide ((N : Int) < 0) = false := by simp
  have hd1 : decide ((N : Int) > 4096) = false := by simp; omega
  have hd2 : decide ((4096 : Int) < N) = false := by simp; omega
  obtain ⟨rs, hrs⟩ : ∃ rs, uR N l0 [] 0 8 = rs := ⟨_, rfl⟩
  rw [hrs]
  have HRS := Aside0.mk hrs
  clear hrs
  go_enter Try.func25, Try.ntmps25
  go_wp2
  refine wp_scope_three (UJ w A0 c0 l0 N rs) rfl rfl rfl ?_ ?_ ?_ ?_
  · intro m a w' hJ
    obtain ⟨out, vo, at_, u7, u9, hF, _, _, HR, HB, h0 | ⟨h, _⟩ | ⟨h, _⟩⟩ := hJ
    case inr.inl => cases h
    case inr.inr => cases h
    obtain ⟨_, h0⟩ := h0
    unfold UFrame at hF
    iterate 110 (obtain ⟨_, hF⟩ := hF)
    subst hF
    have HO := Aside0.mk HR
    obtain ⟨Ao, co, eo⟩ := Kd.R_slice HR
    clear HR
    subst eo
    have HB' := Aside0.mk HB
    clear HB
    unfold fin at h0
    by_cases hlt : (out.length : Int) < N
    · rw [if_pos hlt] at h0
      subst h0
      have hlt' : decide (out.length < N) = true := by simp; omega
      go_wp2
      simp only [jumps]
      go_ret2
      exact ⟨_, rfl, Kd.R_nil _ _ _ _ _, HB'.out⟩
    · rw [if_neg hlt] at h0
      subst h0
      have hlt' : decide (out.length < N) = false := by simp; omega
      go_wp2
      simp only [jumps]
      go_ret2
      exact ⟨_, rfl, HO.out, HB'.out⟩
  · intro m a w' hJ
    obtain ⟨out, vo, at_, u7, u9, hF, hat, hol, HR, HB, ⟨h, _⟩ | ⟨h, _⟩ | ⟨_, flag, items, rfl, rfl, hi8, hf0, hf1, hu, hm⟩⟩ := hJ
    case inl => cases h
    case inr.inl => cases h
    unfold UFrame at hF
    iterate 110 (obtain ⟨_, hF⟩ := hF)
    subst hF
    have HO := Aside0.mk HR
    have HB' := Aside0.mk HB
    clear HB
    have HU := Aside0.mk hu
    clear hu
    have HM := Aside0.mk hm
    clear hm
    have HM1 := Aside0.mk hn
    obtain ⟨Ao, co, eo⟩ := Kd.R_slice HR
    clear HR
    subst eo
    by_cases h8 : items = 8
    · subst h8
      go_wp2
      go_step3
      show below3 _ _ 1 _ _
      refine ⟨Or.inr (Or.inl rfl), _, ?_, out, _, at_, .int .u8 flag, .int .i64 8, ?_, hat, hol, HO.out, HB'.out, Or.inr (Or.inl ⟨rfl, (uR_eight _ _ _ _ _).trans HU.out, rfl⟩)⟩
      · rw [HM.out]; omega
      · unfold UFrame
        repeat apply Exists.intro
        rfl
    · have h8' : ((items : Int) == 8) = false := by simp; omega
      have h8'' : (items == 8) = false := by simp; omega
      by_cases he : at_ = l0.length
      · have he' : (at_ == l0.length) = true := by simp [he]
        have HE := Aside0.mk he
        clear he
        by_cases hz : flag / 2 ^ items = 0
        · have hz' : (flag / 2 ^ items != 0) = false := by simp [hz]
          have HZ := Aside0.mk hz
          clear hz
          go_wp2
          go_step3
          show below3 _ _ 0 _ _
          refine ⟨Or.inl rfl, 0, by rw [HM.out]; omega, out, _, at_, .int .u8 flag, .int .i64 items, ?_, hat, hol, HO.out, HB'.out, Or.inl ⟨rfl, ?_⟩⟩
          · unfold UFrame
            repeat apply Exists.intro
            rfl
          · have h1 := HU.out
            rw [HE.out, uR_i0 h8 HZ.out] at h1
            exact h1
        · have hz' : (flag / 2 ^ items != 0) = true := by simp [hz]
          have HZ := Aside0.mk hz
          clear hz
          go_wp2
          simp only [jumps]
          have h1 := HU.out
          rw [HE.out, uR_i1 h8 HZ.out] at h1
          subst h1
          go_ret2
          exact ⟨_, rfl, Kd.R_nil _ _ _ _ _, HB'.out⟩
      · have he' : (at_ == l0.length) = false := by simp [he]
        have hlt : at_ < l0.length := by omega
        have hfb : 0 ≤ flag / 2 ^ items ∧ flag / 2 ^ items < 256 := by
          have hp : (1 : Int) ≤ 2 ^ items := by exact_mod_cast Nat.one_le_two_pow
          exact ⟨Int.ediv_nonneg hf0 (by omega), by have := Int.ediv_le_self (2 ^ items) hf0; omega⟩
        have hand : bits .and .u8 (flag / 2 ^ items) 1 = flag / 2 ^ items % 2 := bits_mask .u8 8 (by decide) wraps_u8 1 (by decide) _ hfb.1 hfb.2
        clear he
        by_cases hg : flag / 2 ^ items % 2 = 1
        · have hg' : (bits .and .u8 (flag / 2 ^ items) 1 == 1) = true := by rw [hand, hg]; rfl
          have HG := Aside0.mk hg
          clear hg hand
          by_cases h2 : at_ + 2 ≤ l0.length
          · have h2' : (at_ : Int) + 2 ≤ (l0.length : Int) := by omega
            obtain ⟨ad, e0, hx⟩ := Kd.at_int (Kd.C_below hr0 HB'.out) (at_ : Int) (by omega) (by omega)
            cases e0
            obtain ⟨j1, hj1⟩ : ∃ j1 : Nat, j1 = at_ + 1 := ⟨_, rfl⟩
            obtain ⟨ad', e1, hx1⟩ := Kd.at_int (Kd.C_below hr0 HB'.out) (j1 : Int) (by omega) (by omega)
            cases e1
            simp only [Int.toNat_natCast] at hx hx1
            have hj2 : (at_ : Int) + 1 = (j1 : Int) := by omega
            have hj3 : IntKind.i64.wrap ((at_ : Int) + 1) = (j1 : Int) := by rw [hj2]; exact IntWalk.i64_in _ (by omega)
            have hj4 : j1 < l0.length := by omega
            have hb0 := rd_byte hby (at_ : Int)
            have hb1 := rd_byte hby (j1 : Int)
            have HJ1 := Aside0.mk hj1
            clear hj1
            obtain ⟨v, hv⟩ : ∃ v : Int, v = 256 * rd l0 at_ + rd l0 j1 := ⟨_, rfl⟩
            have hv1 : bits .or .i64 (rd l0 (at_ : Int) * 256) (rd l0 (j1 : Int)) = v := by
              rw [hv, show 256 * rd l0 (at_ : Int) = rd l0 (at_ : Int) * 256 by omega]
              exact i64_join8 _ _ hb0.1 hb0.2 hb1.1 hb1.2
            have hv2 : 0 ≤ v := by omega
            have hv3 : v ≤ 65535 := by omega
            obtain ⟨bk, hbk⟩ : ∃ bk : Nat, v / 64 + 1 = (bk : Int) := ⟨(v / 64 + 1).toNat, by omega⟩
            obtain ⟨K, hK⟩ : ∃ K : Nat, v % 64 + 3 = (K : Int) := ⟨(v % 64 + 3).toNat, by omega⟩
            have hv4 : bits .and .i64 v 63 = v % 64 := i64_and63 v hv2 hv3
            have hbk1 : 1 ≤ bk := by omega
            have hbk2 : bk ≤ 1025 := by omega
            have hK1 : 3 ≤ K := by omega
            have hK2 : K ≤ 66 := by omega
            have h1 := HU.out
            rw [uR_m2 h8 HG.out (by have := HJ1.out; omega) (v := v) (by rw [hv]; simp [rd, HJ1.out]), hbk, hK] at h1
            simp only [Int.toNat_natCast] at h1
            have HV := Aside0.mk hv
            clear hv
            by_cases hc1 : (out.length : Int) < bk
            · rw [if_pos hc1] at h1
              subst h1
              go_wp2
              go_quiet (fail)
              go_wp2
              simp only [jumps]
              go_ret2
              exact ⟨_, rfl, Kd.R_nil _ _ _ _ _, pw_below_drewN HB'.out _⟩
            · rw [if_neg hc1] at h1
              have hc1' : (bk : Int) ≤ out.length := by omega
              by_cases hc2 : (N : Int) < out.length + K
              · rw [if_pos hc2] at h1
                subst h1
                go_wp2
                go_quiet (fail)
                go_wp2
                simp only [jumps]
                go_ret2
                exact ⟨_, rfl, Kd.R_nil _ _ _ _ _, pw_below_drewN HB'.out _⟩
              · rw [if_neg hc2] at h1
                have hc2' : (out.length : Int) + K ≤ N := by omega
                have hcb : decide (out.length < bk) = false := by simp; omega
                clear hc1 hc2
                have H1 := Aside0.mk h1
                clear h1
                go_wp2
                go_quiet (fail)
                go_wp2
                have HA0 := Aside0.mk (⟨Kd.R_drewN HO.out nq, pw_below_drewN HB'.out nq⟩ : Kd.R (Kd.int .u8) 5 (w'.drewN nq) w.heap.size (fun _ => True) (.slice Ao out.length co) out ∧ Below w.heap.size w (w'.drewN nq))
                clear HO HB' hx hx1 hv1 hv4 hbk hK
                generalize World.drewN w' nq = wq at HA0
                go_loopg [6, 12] K (fun k v6 v12 w2 => ∃ out2 : List Int, v12 = .int .i64 (k : Int) ∧ k ≤ K ∧ Aside0 (copyB bk k out2 = copyB bk K out ∧ Kd.R (Kd.int .u8) 5 w2 w.heap.size (fun _ => True) v6 out2 ∧ Below w.heap.size w w2) ∧ Aside0 (out2.length + k = out.length + K))
                case atStart => exact ⟨out, rfl, Nat.le_refl _, ⟨rfl, HA0.out.1, HA0.out.2⟩, ⟨rfl⟩⟩
                case round =>
                  obtain ⟨out2, rfl, hkK, HA, HLN⟩ := hrel
                  have hlen1 : out2.length + gk ≤ out.length + K := by rw [HLN.out]; omega
                  have hlen3 : out.length + K ≤ out2.length + gk := by rw [HLN.out]; omega
                  by_cases hk0 : gk = 0
                  · subst hk0
                    obtain ⟨Ao2, co2, eo2⟩ := Kd.R_slice HA.out.2.1
                    subst eo2
                    go_wp2
                    go_step3
                    show below3 _ _ 2 _ _
                    have h1 := H1.out
                    have h2 := HA.out.1
                    simp only [copyB] at h2
                    refine ⟨Or.inr (Or.inr rfl), 2 * (l0.length - (at_ + 2)) + 2, by rw [HM.out]; omega, out2, _, at_ + 2, .int .u8 flag, .int .i64 (items + 1 : Nat), ?_, by omega, by omega, HA.out.2.1, HA.out.2.2, Or.inr (Or.inr ⟨rfl, flag, items + 1, rfl, rfl, by omega, hf0, hf1, ?_, rfl⟩)⟩
                    · unfold UFrame
                      repeat apply Exists.intro
                      rfl
                    · rw [h2, half_pow]; exact h1
                  · have hk0' : (0 : Int) < (gk : Int) := by omega
                    obtain ⟨Ao2, co2, eo2⟩ := Kd.R_slice HA.out.2.1
                    subst eo2
                    obtain ⟨ji, hji⟩ : ∃ ji : Nat, (out2.length : Int) - (bk : Int) = (ji : Int) := ⟨out2.length - bk, by omega⟩
                    have hji2 : ji < out2.length := by omega
                    have hji3 : (ji : Int) < (out2.length : Int) := by omega
                    obtain ⟨ad3, e3, hx3⟩ := Kd.at_int (Kd.R_reads' HA.out.2.1).2.2 (ji : Int) (by omega) (by omega)
                    cases e3
                    simp only [Int.toNat_natCast] at hx3
                    obtain ⟨k', rfl⟩ : ∃ k', gk = k' + 1 := ⟨gk - 1, by omega⟩
                    have hlen2 : out2.length ≤ 4096 := by omega
                    have HJ := Aside0.mk hji
                    go_wp2_with (at_builtin; refine Kd.R_append (Kd.int .u8) (w0 := w) w.heap.size rfl (.tmp 88) (.tmp 96) 22 5 (.int .u8 0) 1 rfl Try.underlying22 info5 rfl (by decide) (by omega) (.slice (some ad3) out2.length co2) out2 (rd out2 ji) [.int .u8 (rd out2 ji)] (fun _ => True) (fun _ => False) rfl rfl rfl (fun _ hk => hk.elim) (fun _ _ => trivial) HA.out.2.1 HA.out.2.2 HA.out.2.2.size (by omega) ?_; intro v1 w1 ho hb hg hat')
                    go_roundg k'
                    case measure => omega
                    case rel =>
                      refine ⟨out2 ++ [rd out2 ji], by go_num, by omega, ⟨?_, ho, hb⟩, ⟨by simp; omega⟩⟩
                      rw [← HA.out.1, copyB]
                      have : out2.length - bk = ji := by have := HJ.out; omega
                      rw [this]
                      simp [rd]
          · have h2' : (l0.length : Int) < (at_ : Int) + 2 := by omega
            go_wp2
            simp only [jumps]
            have h1 := HU.out
            rw [uR_m1 h8 HG.out (by omega)] at h1
            subst h1
            go_ret2
            exact ⟨_, rfl, Kd.R_nil _ _ _ _ _, HB'.out⟩
        · have hg' : (bits .and .u8 (flag / 2 ^ items) 1 == 1) = false := by rw [hand]; simpa using hg
          have HG := Aside0.mk hg
          clear hg hand
          by_cases hN : (out.length : Int) = N
          · have hN' : ((out.length : Int) == (N : Int)) = true := by simpa using hN
            have hN'' : (out.length == N) = true := by simp; omega
            have HN := Aside0.mk hN
            clear hN
            go_wp2
            simp only [jumps]
            have h1 := HU.out
            rw [uR_l1 h8 HG.out hlt HN.out] at h1
            subst h1
            go_ret2
            exact ⟨_, rfl, Kd.R_nil _ _ _ _ _, HB'.out⟩
          · have hN' : ((out.length : Int) == (N : Int)) = false := by simpa using hN
            have hN'' : (out.length == N) = false := by simp; omega
            have HN := Aside0.mk hN
            clear hN
            obtain ⟨ad, e0, hx⟩ := Kd.at_int (Kd.C_below hr0 HB'.out) (at_ : Int) (by omega) (by omega)
            cases e0
            simp only [Int.toNat_natCast] at hx
            go_wp2_with (at_builtin; refine Kd.R_append (Kd.int .u8) (w0 := w) w.heap.size rfl (.tmp 104) (.tmp 109) 22 5 (.int .u8 0) 1 rfl Try.underlying22 info5 rfl (by decide) (by omega) (.slice Ao out.length co) out (rd l0 at_) [.int .u8 (rd l0 at_)] (fun _ => True) (fun _ => False) rfl rfl rfl (fun _ hk => hk.elim) (fun _ _ => trivial) HO.out HB'.out HB'.out.size (by omega) ?_; intro v1 w1 ho hb hg hat')
            go_step3
            show below3 _ _ 2 _ _
            have h1 := HU.out
            rw [uR_l2 h8 HG.out hlt HN.out] at h1
            refine ⟨Or.inr (Or.inr rfl), 2 * (l0.length - (at_ + 1)) + 2, by rw [HM.out]; omega, out ++ [rd l0 at_], _, at_ + 1, .int .u8 flag, .int .i64 (items + 1 : Nat), ?_, by omega, ?_, ho, hb, Or.inr (Or.inr ⟨rfl, flag, items + 1, rfl, rfl, by omega, hf0, hf1, ?_, rfl⟩)⟩
            · unfold UFrame
              repeat apply Exists.intro
              rfl
            · simp; have := HN.out; omega
            · rw [← h1, half_pow]; simp [rd]
  · intro m a w' hJ hitem
    obtain ⟨out, vo, at_, u7, u9, hF, hat, hol, HR, HB, ⟨h, _⟩ | ⟨_, hu, hm⟩ | ⟨h, _⟩⟩ := hJ
    case inl => cases h
    case inr.inr => cases h
    unfold UFrame at hF
    iterate 110 (obtain ⟨_, hF⟩ := hF)
    subst hF
    have HO := Aside0.mk HR
    clear HR
    have HB' := Aside0.mk HB
    clear HB
    have HU := Aside0.mk hu
    clear hu
    have HM := Aside0.mk hm
    clear hm
    have HM1 := Aside0.mk hn
    by_cases he : at_ = l0.length
    · have he' : (at_ == l0.length) = true := by simp [he]
      have HE := Aside0.mk he
      clear he
      go_wp2
      go_step3
      show below3 _ _ 0 _ _
      refine ⟨Or.inl rfl, 0, by rw [HM.out]; omega, out, vo, at_, u7, u9, ?_, hat, hol, HO.out, HB'.out, Or.inl ⟨rfl, ?_⟩⟩
      · unfold UFrame
        repeat apply Exists.intro
        rfl
      · have h1 := HU.out
        rw [HE.out, List.drop_length] at h1
        simpa [uR] using h1
    · have he' : (at_ == l0.length) = false := by simp [he]
      have hlt : at_ < l0.length := by omega
      clear he
      obtain ⟨ad, e0, hx⟩ := Kd.at_int (Kd.C_below hr0 HB'.out) (at_ : Int) (by omega) (by omega)
      cases e0
      simp only [Int.toNat_natCast] at hx
      go_wp2
      · have hq : ((at_ : Int) + 1 == (l0.length : Int)) = true := by assumption
        simp only [jumps]
        have h1 := HU.out
        rw [uR_g1 (by simp at hq; omega : at_ + 1 = l0.length)] at h1
        subst h1
        go_ret2
        exact ⟨_, rfl, Kd.R_nil _ _ _ _ _, HB'.out⟩
      · have hq : ((at_ : Int) + 1 == (l0.length : Int)) = false := by assumption
        have hq' : at_ + 1 ≠ l0.length := by simp at hq; omega
        go_step3
        go_step
        go_step
        refine hitem (2 * (l0.length - (at_ + 1)) + 2) _ _ (by rw [HM.out]; omega) ?_
        have h1 := HU.out
        rw [uR_g2 (by omega)] at h1
        refine ⟨out, vo, at_ + 1, _, _, ?_, by omega, hol, HO.out, HB'.out, Or.inr (Or.inr ⟨rfl, rd l0 at_, 0, rfl, rfl, by omega, ?_, ?_, ?_, rfl⟩)⟩
        · unfold UFrame
          repeat apply Exists.intro
          rfl
        · exact (rd_byte hby at_).1
        · exact (rd_byte hby at_).2
        · simpa [rd] using h1
  · intro hgroup
    go_wp2_with (at_make; refine wpList_make_own _ rfl _ _ 22 rfl w.heap.size 5 i0 (.int .u8 0) 1 Try.underlying22 HI.out HZ0.out HZ1.out .i64 .i64 _ N rfl rfl rfl (by rw [HZ2.out]; omega) (by simp only [maxLen]; omega) (Nat.le_refl _) ?_)
    intro w1 hown hgrow
    go_wp2
    go_step3
    go_step
    go_step
    refine hgroup (2 * (l0.length - 0) + 1) _ _ ?_
    refine ⟨[], _, 0, .int .u8 0, .int .i64 0, ?_, Nat.zero_le _, by simp, Kd.R_of_own (by simp [encs]; exact hown) (fun _ _ => trivial), (Below.refl _ _).grown hgrow (Nat.le_refl _) (by simp), Or.inr (Or.inl ⟨rfl, HRS.out, rfl⟩)⟩
    unfold UFrame
    repeat apply Exists.intro
    rfl

/-- press.Unpack of any bytes and any number: what 'unpackS' says; new memory. -/
theorem unpack_any (A0 : Option Addr) (c0 : Nat) (l0 : List Int) (n : Int) (w : World) (hr0 : Kd.C (Kd.int .u8) w A0 l0.length l0) (hby : ∀ x ∈ l0, 0 ≤ x ∧ x ≤ 255)
    (hl : l0.length ≤ 140737488355328) :
    Calls Try.prog 25 #[.slice A0 l0.length c0, .int .i64 n] w fun e w' => ∃ v, e = .returned (.tuple #[v, .int .i64 (unpackS l0 n).2]) ∧
      Kd.R (Kd.int .u8) 5 w' w.heap.size (fun _ => True) v (unpackS l0 n).1 ∧ Below w.heap.size w w' := by
  by_cases h : n < 0 ∨ n > 4096
  · have hs : unpackS l0 n = ([], 1) := by unfold unpackS; rw [if_pos h]
    rw [hs]
    by_cases h0 : n < 0
    · have hd : decide (n < 0) = true := by simpa using h0
      go_enter Try.func25, Try.ntmps25
      go_wp2
      go_step3
      go_wp2
      rw [Exit.noGoto_ret]
      go_ret2
      exact ⟨_, rfl, Kd.R_nil _ _ _ _ _, Below.refl _ _⟩
    · have h1 : 4096 < n := by omega
      have hd : decide (n < 0) = false := by simpa using h0
      have hd2 : decide (4096 < n) = true := by simpa using h1
      go_enter Try.func25, Try.ntmps25
      go_wp2
      go_step3
      go_wp2
      rw [Exit.noGoto_ret]
      go_ret2
      exact ⟨_, rfl, Kd.R_nil _ _ _ _ _, Below.refl _ _⟩
  · obtain ⟨N, rfl⟩ := Int.eq_ofNat_of_zero_le (show 0 ≤ n by omega)
    have hs : unpackS l0 (N : Int) = uR N l0 [] 0 8 := by unfold unpackS; rw [if_neg h]
    rw [hs]
    exact unpack_walk A0 c0 l0 N w hr0 hby hl (by omega)
end Go.Proofs.Ytoefligelajfkaa.Press
