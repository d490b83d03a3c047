import Derived.Test.YtdekmeanlcpenaaGreatDoorCe7
import Derived.Test.YtdekmeanlcpenaaGreatDoorCe5
import Derived.IntWalk
import Derived.Test.YtdekmeanlcpenaaGreatDoorCe2
import Derived.Lib.ConvBytes
import Derived.Test.YtdekmeanlcpenaaGreatDoorCe6
import Derived.Test.YtdekmeanlcpenaaGreatDoorCe3
set_option linter.unusedSimpArgs false
set_option linter.unusedVariables false
namespace Go.Proofs.YtdekmeanlcpenaaGreatDoor.Codec
open Go.RowKit Go.Proofs.YtdekmeanlcpenaaGreatDoorW.PrintWords Go.Proofs.YtdekmeanlcpenaaGreatDoor.Mid Go.Proofs.YtdekmeanlcpenaaGreatDoor.Pick Go.Proofs.YtdekmeanlcpenaaGreatDoor.Block
attribute [local go_sem ↓ high] load33_eq load29_eq
attribute [local simp] rowOf_drew rowOf_drewN
attribute [local go_sem high] load33_row load29_row rowOf_drew rowOf_drewN
set_option maxHeartbeats 4000000
set_option maxRecDepth 100000
/-- What parsing answers. -/
inductive RetParse (W : World) (l : List Int) (e : Ending) (w' : World) : Prop
  | yes (rs : List Res) (A : Option Addr) (c : Nat) (hP : Parsed l rs) (ok : ∀ r ∈ rs, ResOk r) (he : e = .returned (.tuple #[.slice A rs.length c, .int .i64 0])) (hR : Kd.R resK 33 w' W.heap.size (fun _ => True) (.slice A rs.length c) rs) (hB : Below W.heap.size W w')
  | no (hP : ∀ rs, ¬ Parsed l rs) (he : e = .returned (.tuple #[.slice none 0 0, .int .i64 80])) (hB : Below W.heap.size W w')
theorem parse_any (W : World) (A : Option Addr) (c : Nat) (l : List Int) (hC : Kd.C (Kd.int .u8) W A l.length l) (hb : Byt l) (hl : l.length ≤ 1000000000000) :
    Calls Tryz.prog 111 #[.slice A l.length c] W (RetParse W l) := by
  obtain ⟨⟨n, s1⟩, e1⟩ : ∃ p, (RS.start l).num = p := ⟨_, rfl⟩
  have HE := Aside0.mk e1
  have HC := Aside0.mk hC
  have HBy := Aside0.mk hb
  have hs1 : s1.data = l := by
    have h1 : (RS.start l).num.2.data = l := by rw [RS.num]; split <;> (try split) <;> rfl
    rw [e1] at h1; exact h1
  have HS1 := Aside0.mk hs1
  clear hC hb e1 hs1
  by_cases hn : n ≤ 32
  case neg =>
    have hn1 : (32 : Int) < (n : Int) := by omega
    have Hn := Aside0.mk hn
    clear hn
    go_enter Tryz.func111, Tryz.ntmps111
    go_wp2_with (first
      | (go_at_call 108; refine (read_any W A c l HC.out HBy.out hl).mono ?_; rintro e w1 ⟨g, D, kk, rfl, h1, h2, h3, -⟩; have H1 := Aside0.mk (⟨h1, h2, h3⟩ : _ ∧ _ ∧ _); clear h1 h2 h3)
      | (go_at_call 112; go_loud (refine (rnum_any w1 g kk D _ H1.out.2.1).mono ?_; rw [HE.out]; rintro e w2 ⟨rfl, h1, h2⟩; have H2 := Aside0.mk (⟨h1, h2⟩ : _ ∧ _); clear h1 h2))
      | fail)
    go_ret2
    exact .no (fun rs h => Hn.out (by have := h.most; rw [HE.out] at this; exact this)) rfl (H1.out.2.2.grown H2.out.2 H1.out.2.2.size (fun k hk => by cases hk; exact H1.out.1))
  case pos =>
    have hn1 : (n : Int) ≤ 32 := by omega
    have Hn := Aside0.mk hn
    go_enter Tryz.func111, Tryz.ntmps111
    go_wp2_with (first
      | (go_at_call 108; refine (read_any W A c l HC.out HBy.out hl).mono ?_; rintro e w1 ⟨g, D, kk, rfl, h1, h2, h3, -⟩; have H1 := Aside0.mk (⟨h1, h2, h3⟩ : _ ∧ _ ∧ _); clear h1 h2 h3)
      | (go_at_call 112; go_loud (refine (rnum_any w1 g kk D _ H1.out.2.1).mono ?_; rw [HE.out]; rintro e w2 ⟨rfl, h1, h2⟩; have H2 := Aside0.mk (⟨h1, h2⟩ : _ ∧ _); clear h1 h2))
      | fail)
    obtain ⟨b, hbd⟩ : ∃ b, w2.heap.size = b := ⟨_, rfl⟩
    have HP : Aside0 (PS resK 33 W b g kk D w2 s1 (.slice none 0 0) []) := ⟨hbd ▸ PS.start H2.out.1 (H1.out.2.2.grown H2.out.2 H1.out.2.2.size (fun k hk => by cases hk; exact H1.out.1)) H1.out.1⟩
    clear H1 H2 hbd
    go_loopg [6, 17] n (fun k v6 v17 w' => ∃ i : Nat, v17 = .int .i64 i ∧ i + k = n ∧ Aside0 (PS resK 33 W b g kk D w' (resS i s1).2 v6 (resS i s1).1))
    case atStart => exact ⟨0, rfl, by omega, HP⟩
    case round =>
      clear HP
      obtain ⟨i, rfl, hik, HP⟩ := hrel
      cases gk with
      | zero =>
        have hin : Aside0 (i = n) := ⟨by omega⟩
        obtain ⟨⟨rs, y⟩, hy⟩ : ∃ p, resS i s1 = p := ⟨_, rfl⟩
        rw [hy] at HP
        have hlen := resS_len i s1
        have hok := resS_ok i s1 (by rw [HS1.out]; exact HBy.out)
        rw [hy] at hlen hok
        simp only at hlen hok
        have HF : Aside0 (resS (RS.start l).num.1 (RS.start l).num.2 = (rs, y)) := ⟨by rw [HE.out]; simp only; rw [← hin.out]; exact hy⟩
        obtain ⟨A6, c6, e6⟩ := Kd.R_slice HP.out.row
        subst e6
        have Hok := Aside0.mk hok
        have hd : decide (i < n) = false := by simp; omega
        clear hy hok hin hlen
        simp only at HP
        by_cases hc : y.code = 0
        · have Hc := Aside0.mk hc
          obtain ⟨lf, hlf⟩ : ∃ lf, y.left = lf := ⟨_, rfl⟩
          have Hlf := Aside0.mk hlf
          clear hlf
          by_cases h0 : lf = 0
          · have H0 := Aside0.mk h0
            have bl : decide ((0 : Int) < (lf : Int)) = false := by simp; omega
            by_cases hT : Table rs
            · have HT := Aside0.mk hT
              clear hT
              go_wp2_with (first
                | (go_at_call 31; refine (valid_yes A6 c6 rs w22 C2.out.2.2 C2.out.2.1 HT.out).mono ?_; rintro e w23 ⟨rfl, hb⟩; have P3 := Aside0.mk (P2.out.below hb); clear hb)
                | (go_at_call 115; refine (left_any _ g kk D y P1.out.rd).mono ?_; rw [Hlf.out]; rintro e w22 ⟨rfl, hb⟩; have P2 := Aside0.mk (P1.out.below hb); have C2 := Aside0.mk (Kd.R_reads' P2.out.row); clear hb)
                | (go_at_call 114; refine (err_any _ g kk D y HP.out.rd).mono ?_; rintro e w21 ⟨rfl, hb⟩; have P1 := Aside0.mk (HP.out.below hb); clear hb)
                | fail)
              go_ret2
              exact .yes rs A6 c6 ⟨by rw [HE.out]; exact Hn.out, by rw [HF.out], by rw [HF.out]; exact Hc.out, by rw [HF.out]; simp only; rw [Hlf.out, H0.out], HT.out⟩ Hok.out rfl (Kd.R_lower P3.out.row (Nat.le_trans P3.out.old (Nat.le_of_lt P3.out.lt))) P3.out.bel
            · have HT := Aside0.mk hT
              clear hT
              go_wp2_with (first
                | (go_at_call 31; refine (valid_no A6 c6 rs w22 C2.out.2.2 C2.out.2.1 HT.out).mono ?_; rintro e w23 ⟨rfl, hb⟩; have P3 := Aside0.mk (P2.out.below hb); clear hb)
                | (go_at_call 115; refine (left_any _ g kk D y P1.out.rd).mono ?_; rw [Hlf.out]; rintro e w22 ⟨rfl, hb⟩; have P2 := Aside0.mk (P1.out.below hb); have C2 := Aside0.mk (Kd.R_reads' P2.out.row); clear hb)
                | (go_at_call 114; refine (err_any _ g kk D y HP.out.rd).mono ?_; rintro e w21 ⟨rfl, hb⟩; have P1 := Aside0.mk (HP.out.below hb); clear hb)
                | fail)
              go_ret2
              exact .no (fun qs h => HT.out (by have e := h.is; rw [HF.out] at e; simp only at e; rw [← e]; exact h.table)) rfl P3.out.bel
          · have bl : (0 : Int) < (lf : Int) := by omega
            have H0 := Aside0.mk h0
            clear h0
            go_wp2_with (first
              | (go_at_call 115; refine (left_any _ g kk D y P1.out.rd).mono ?_; rw [Hlf.out]; rintro e w22 ⟨rfl, hb⟩; have P2 := Aside0.mk (P1.out.below hb); clear hb)
              | (go_at_call 114; refine (err_any _ g kk D y HP.out.rd).mono ?_; rintro e w21 ⟨rfl, hb⟩; have P1 := Aside0.mk (HP.out.below hb); clear hb)
              | fail)
            go_ret2
            exact .no (fun qs h => H0.out (by have e := h.left; rw [HF.out] at e; simp only at e; rw [← Hlf.out]; exact e)) rfl P2.out.bel
        · have Hc := Aside0.mk hc
          go_wp2_with (first
            | (go_at_call 114; refine (err_any _ g kk D y HP.out.rd).mono ?_; rintro e w21 ⟨rfl, hb⟩; have P1 := Aside0.mk (HP.out.below hb); clear hb)
            | fail)
          go_ret2
          exact .no (fun qs h => Hc.out (by have e := h.code; rw [HF.out] at e; exact e)) rfl P1.out.bel
      | succ q =>
        have hi : i < n := by omega
        have hi1 : (i : Int) < (n : Int) := by omega
        obtain ⟨y, hy⟩ : ∃ y, (resS i s1).2 = y := ⟨_, rfl⟩
        have Hd : Aside0 (Byt y.data) := ⟨by rw [← hy, resS_data, HS1.out]; exact HBy.out⟩
        have HI : Aside0 ((resS i s1).1.length = i) := ⟨resS_len i s1⟩
        have HO : Aside0 (∀ r ∈ (resS i s1).1, ResOk r) := ⟨resS_ok i s1 (by rw [HS1.out]; exact HBy.out)⟩
        go_upto_region 9 with (fail)
        obtain ⟨q8, hq8⟩ : ∃ q8, wr.heap.size = q8 := ⟨_, rfl⟩
        obtain ⟨w8, hw8⟩ : ∃ w8, wr.alloc (.cells Tryz.zeroCells33 33) = w8 := ⟨_, rfl⟩
        have K8 : Aside0 (w8.heap[q8]? = some (.cells (resC ⟨zero32, zero32, 0⟩).toArray 33 (0, 0))) := ⟨by rw [← hw8, ← hq8, zero33]; exact heap_alloc_new wr _⟩
        have P8 : Aside0 (PS resK 33 W b g kk D w8 y u6 (resS i s1).1) := ⟨by rw [← hw8, ← hy]; exact HP.out.below (below_alloc (Below.refl _ _) _)⟩
        have N8 : Aside0 (b ≤ q8 ∧ some q8 ≠ u6.ownBlock) := ⟨by rw [← hq8]; exact HP.out.new⟩
        rw [hw8, hq8]
        have HY := Aside0.mk hy
        clear hw8 hq8 HP hy
        obtain ⟨⟨x1, y1⟩, ex⟩ : ∃ p, y.raw 32 = p := ⟨_, rfl⟩
        have E9 := Aside0.mk ex
        have X9 : Aside0 (x1.length ≤ 32 ∧ Byt x1) := ⟨by have h := raw_byt Hd.out 32; rw [ex] at h; exact ⟨h.2, h.1⟩⟩
        have D9 : Aside0 (y1.data = y.data) := ⟨by have h := raw_data y 32; rw [ex] at h; exact h⟩
        have Hd1 : Aside0 (Byt y1.data) := ⟨by rw [D9.out]; exact Hd.out⟩
        clear ex
        go_upto_region 9 with (fail)
        refine wp_region_held (S := fun _ => True) (by kernel_rfl) ?_
        refine wpAnyH_take (i := 0) (v := ?_) rfl (by kernel_rfl) (by kernel_rfl) (by kernel_rfl) (fun _ _ _ h => h) (Or.inl ⟨by rfl, ?_⟩) trivial ?_
        rotate_left
        · (intro wG hSw; go_simp; try with_reducible rfl)
        try simp only [Act.put, List.setIfInBounds_toArray, List.set]
        refine wpAnyH_take (i := 1) (v := ?_) rfl (by kernel_rfl) (by kernel_rfl) (by kernel_rfl) (fun _ _ _ h => h) (Or.inl ⟨by rfl, ?_⟩) trivial ?_
        rotate_left
        · (intro wG hSw; go_simp; try with_reducible rfl)
        try simp only [Act.put, List.setIfInBounds_toArray, List.set]
        refine wpAnyH_take (i := 2) (v := ?_) rfl (by kernel_rfl) (by kernel_rfl) (by kernel_rfl) (fun _ _ _ h => h) (Or.inl ⟨by rfl, ?_⟩) trivial ?_
        rotate_left
        · (intro wG hSw; go_simp; try with_reducible rfl)
        try simp only [Act.put, List.setIfInBounds_toArray, List.set]
        refine heldOne (i := 3) (by kernel_rfl) rfl (by rfl) ?_
        go_simp
        go_at_call 113
        refine (rraw_any _ g kk D y 32 (P8.out.rd.below (below_drew (Below.refl _ _))) (by decide)).mono ?_
        rw [E9.out]
        rintro e w9 ⟨A9, c9, rfl, r9, h9, gw9⟩
        try simp only [Act.put, List.setIfInBounds_toArray, List.set]
        refine heldOne (i := 4) (by kernel_rfl) rfl (by rfl) ?_
        have b9 := blk_grown (blk_drew K8.out) gw9 (fun e => absurd (Option.some.inj e) (by have := P8.out.lt; have := N8.out.1; omega))
        refine wp_copy32 (.tmp 20) (.tmp 22) rfl q8 0 32 c9 A9 x1 rfl rfl _ 33 b9 (Kd.R_reads' r9).2.2 X9.out.1 (by simp [resC, u8s_length, zero32]) ?_
        intro v9 hv9 gv9
        refine ⟨trivial, ?_⟩
        have K9 : Aside0 (v9.heap[q8]? = some (.cells (resC ⟨pad32 x1, zero32, 0⟩).toArray 33 (0, 0))) := ⟨by rw [hv9, splice_act X9.out.1]⟩
        have P9 : Aside0 (PS resK 33 W b g kk D v9 y1 u6 (resS i s1).1) := ⟨((P8.out.below (below_drew (Below.refl _ _))).step rfl h9 D9.out gw9).beside rfl N8.out.1 N8.out.2 gv9⟩
        clear r9 h9 gw9 hv9 gv9 b9 P8 K8
        try simp only [Act.put, List.setIfInBounds_toArray, List.set]
        refine wpAnyH_done (by kernel_rfl) ?_ _
        obtain ⟨⟨x2, y2⟩, ex⟩ : ∃ p, y1.raw 32 = p := ⟨_, rfl⟩
        have E10 := Aside0.mk ex
        have X10 : Aside0 (x2.length ≤ 32 ∧ Byt x2) := ⟨by have h := raw_byt Hd1.out 32; rw [ex] at h; exact ⟨h.2, h.1⟩⟩
        have D10 : Aside0 (y2.data = y1.data) := ⟨by have h := raw_data y1 32; rw [ex] at h; exact h⟩
        have Hd2 : Aside0 (Byt y2.data) := ⟨by rw [D10.out]; exact Hd1.out⟩
        clear ex
        go_upto_region 10 with (fail)
        refine wp_region_held (S := fun _ => True) (by kernel_rfl) ?_
        refine wpAnyH_take (i := 0) (v := ?_) rfl (by kernel_rfl) (by kernel_rfl) (by kernel_rfl) (fun _ _ _ h => h) (Or.inl ⟨by rfl, ?_⟩) trivial ?_
        rotate_left
        · (intro wG hSw; go_simp; try with_reducible rfl)
        try simp only [Act.put, List.setIfInBounds_toArray, List.set]
        refine wpAnyH_take (i := 1) (v := ?_) rfl (by kernel_rfl) (by kernel_rfl) (by kernel_rfl) (fun _ _ _ h => h) (Or.inl ⟨by rfl, ?_⟩) trivial ?_
        rotate_left
        · (intro wG hSw; go_simp; try with_reducible rfl)
        try simp only [Act.put, List.setIfInBounds_toArray, List.set]
        refine wpAnyH_take (i := 2) (v := ?_) rfl (by kernel_rfl) (by kernel_rfl) (by kernel_rfl) (fun _ _ _ h => h) (Or.inl ⟨by rfl, ?_⟩) trivial ?_
        rotate_left
        · (intro wG hSw; go_simp; try with_reducible rfl)
        try simp only [Act.put, List.setIfInBounds_toArray, List.set]
        refine heldOne (i := 3) (by kernel_rfl) rfl (by rfl) ?_
        go_simp
        go_at_call 113
        refine (rraw_any _ g kk D y1 32 (P9.out.rd.below (below_drew (Below.refl _ _))) (by decide)).mono ?_
        rw [E10.out]
        rintro e w10 ⟨A10, c10, rfl, r10, h10, gw10⟩
        try simp only [Act.put, List.setIfInBounds_toArray, List.set]
        refine heldOne (i := 4) (by kernel_rfl) rfl (by rfl) ?_
        have b10 := blk_grown (blk_drew K9.out) gw10 (fun e => absurd (Option.some.inj e) (by have := P9.out.lt; have := N8.out.1; omega))
        refine wp_copy32 (.tmp 25) (.tmp 27) rfl q8 32 32 c10 A10 x2 rfl rfl _ 33 b10 (Kd.R_reads' r10).2.2 X10.out.1 (by rw [resC, List.length_append, List.length_append, u8s_length, u8s_length, (pad32_ok X9.out.1 X9.out.2).len]; simp [zero32]) ?_
        intro v10 hv10 gv10
        refine ⟨trivial, ?_⟩
        have K10 : Aside0 (v10.heap[q8]? = some (.cells (resC ⟨pad32 x1, pad32 x2, 0⟩).toArray 33 (0, 0))) := ⟨by rw [hv10, splice_root (pad32_ok X9.out.1 X9.out.2).len X10.out.1]⟩
        have P10 : Aside0 (PS resK 33 W b g kk D v10 y2 u6 (resS i s1).1) := ⟨((P9.out.below (below_drew (Below.refl _ _))).step rfl h10 D10.out gw10).beside rfl N8.out.1 N8.out.2 gv10⟩
        clear r10 h10 gw10 hv10 gv10 b10 P9 K9
        try simp only [Act.put, List.setIfInBounds_toArray, List.set]
        refine wpAnyH_done (by kernel_rfl) ?_ _
        obtain ⟨⟨m, y3⟩, ex⟩ : ∃ p, y2.fixed 1 = p := ⟨_, rfl⟩
        have E11 := Aside0.mk ex
        have X11 : Aside0 (0 ≤ m ∧ m ≤ 255) := ⟨by have h := fixed1_bounds Hd2.out; rw [ex] at h; exact h⟩
        have D11 : Aside0 (y3.data = y2.data) := ⟨by have h := fixed_data y2 1; rw [ex] at h; exact h⟩
        clear ex
        go_upto_region 12 with (first
          | (go_at_call 109
             refine (rfixed_any _ g kk D y2 1 P10.out.rd (by decide) (by decide)).mono ?_
             rw [E11.out]
             rintro e w11 ⟨rfl, h11, gw11⟩
             have b11 := blk_grown K10.out gw11 (fun e => absurd (Option.some.inj e) (by have := P10.out.lt; have := N8.out.1; omega))
             have f11 : w11.frozen? ⟨q8, 64, none⟩ = false := blk_frozen b11 _
             have l11 : (u8s (pad32 x1)).length = 32 := by rw [u8s_length, (pad32_ok X9.out.1 X9.out.2).len]
             have l12 : (u8s (pad32 x2)).length = 32 := by rw [u8s_length, (pad32_ok X10.out.1 X10.out.2).len]
             have c11 : w11.cell? ⟨q8, 64, none⟩ = some (.int .i64 0) := (blk_cell b11 _).trans (by
               rw [List.getElem?_toArray, resC, List.getElem?_append_right (by simp only; omega), List.getElem?_append_right (by simp only; omega)]
               simp only [l11, l12]; rfl)
             have K11 : Aside0 ((w11.setCell ⟨q8, 64, none⟩ (.int .i64 m)).heap[q8]? = some (.cells (resC ⟨pad32 x1, pad32 x2, m⟩).toArray 33 (0, 0))) := ⟨by
               have h := blk_set b11 64 (.int .i64 m)
               rw [h]
               congr 2
               rw [List.setIfInBounds_toArray, resC, resC]
               simp only
               rw [List.set_append_right _ _ (by omega), List.set_append_right _ _ (by omega)]
               simp only [l11, l12]
               rfl⟩
             have P11 : Aside0 (PS resK 33 W b g kk D (w11.setCell ⟨q8, 64, none⟩ (.int .i64 m)) y3 u6 (resS i s1).1) := ⟨(P10.out.step rfl h11 D11.out gw11).beside rfl N8.out.1 N8.out.2 (grown_set w11 ⟨q8, 64, none⟩ _)⟩
             clear h11 gw11 b11 P10 K10 l11 l12)
          | fail)
        obtain ⟨w12, hw12⟩ : ∃ w12, w11.setCell ⟨q8, 64, none⟩ (.int .i64 m) = w12 := ⟨_, rfl⟩
        rw [hw12] at K11 P11 ⊢
        obtain ⟨r, hr⟩ : ∃ r, (⟨pad32 x1, pad32 x2, m⟩ : Res) = r := ⟨_, rfl⟩
        have hro : ResOk r := by
          rw [← hr]
          exact ⟨pad32_ok X9.out.1 X9.out.2, pad32_ok X10.out.1 X10.out.2, by have := X11.out; simp only; omega⟩
        rw [hr] at K11
        have hld : rowOf w12 ⟨q8, 0, none⟩ 65 = some (resC r) := (At.blk K11.out).res hro
        have HN : Aside0 (resS (i + 1) s1 = ((resS i s1).1 ++ [r], y3)) := ⟨by rw [resS, HY.out, E9.out]; simp only; rw [E10.out]; simp only; rw [E11.out, hr]⟩
        have Hro := Aside0.mk hro
        obtain ⟨z, hz1, hz2⟩ := info33full
        have Hz := Aside0.mk (And.intro hz1 hz2)
        clear hz1 hz2 hr hro hw12 c11 f11 K11
        go_wp2_with (first
          | (refine wpList_build33 rfl _ rfl r Hro.out rfl ?_)
          | (at_builtin; refine Kd.R_append resK (w0 := w12) b rfl (.tmp 32) (.tmp 34) 22 33 z 72 rfl Tryz.underlying22 Hz.out.1 Hz.out.2 (by decide) (by decide) u6 (resS i s1).1 r (resC r) (fun _ => True) (fun _ => False) rfl rfl (res_M Hro.out) (fun _ h => h.elim) (fun _ _ => trivial) P11.out.row (Below.refl _ _) P11.out.bsz (by rw [HI.out]; omega) ?_
             intro v13 w13 h1 h2 h3 h4
             have P13 : Aside0 (PS resK 33 W b g kk D w13 y3 v13 ((resS i s1).1 ++ [r])) := ⟨P11.out.put h1 h2⟩
             clear h1 h2 h3 h4)
          | go_in)
        go_roundg q
        case measure => omega
        case rel => exact ⟨i + 1, by go_num, by omega, ⟨by rw [HN.out]; exact P13.out⟩⟩
end Go.Proofs.YtdekmeanlcpenaaGreatDoor.Codec

namespace Go.Proofs.YtdekmeanlcpenaaGreatDoor.Codec
open Go.RowKit Go.Proofs.YtdekmeanlcpenaaGreatDoorW.PrintWords Go.Proofs.YtdekmeanlcpenaaGreatDoor.Mid
set_option maxHeartbeats 1000000
set_option maxRecDepth 100000
theorem i64_and127 (x : Int) (h0 : 0 ≤ x) (h1 : x ≤ 2147483647) : bits .and .i64 x 127 = x % 128 :=
  bits_mask .i64 32 (by decide) (fun n a b => IntWalk.i64_in n (by omega)) 7 (by decide) x h0 (by omega)
theorem i64_or128 (m : Nat) (h : m < 128) : bits .or .i64 (m : Int) 128 = ((128 + m : Nat) : Int) := by
  have : ∀ m : Fin 128, bits .or .i64 ((m.val : Nat) : Int) 128 = ((128 + m.val : Nat) : Int) := by decide +kernel
  exact this ⟨m, h⟩
theorem u8_M {w : World} {b : Nat} {ok : Nat → Prop} (x : Int) : (Kd.int .u8).M w b ok x [.int .u8 x] := rfl

theorem number_any (b0 g : Nat) (u : Value) (out : List Int) (v : Nat) (w : World) (hW : Wr b0 w g u out) (hv : v ≤ 2147483647) (hl : out.length ≤ 900000000) :
    Calls Tryz.prog 98 #[.pointer (some ⟨g, 0, none⟩), .int .i64 v] w fun e w' => e = .returned (.tuple #[]) ∧ NxE b0 w g u (out ++ numW v) w' := by
  have HW := Aside0.mk hW
  have hv1 : (v : Int) ≤ 2147483647 := by omega
  have HV := Aside0.mk (numW_max hv)
  clear hW
  go_enter Tryz.func98, Tryz.ntmps98
  go_wp2
  go_loopg [1, 5] 4 (fun k v1 v5 w' => ∃ (x : Nat) (done : List Int) (A : Option Addr) (c : Nat), v1 = .int .i64 x ∧ v5 = .slice A done.length c ∧ x ≤ 2147483647 ∧ Aside0 (x < 128 ^ (k + 1)) ∧ Aside0 (done ++ numW x = numW v) ∧ Aside0 (Kd.R (Kd.int .u8) 5 w' w.heap.size (fun _ => True) (.slice A done.length c) done ∧ Below w.heap.size w w'))
  case atStart => exact ⟨v, [], none, 0, rfl, rfl, hv, ⟨by show v < 128 ^ 5; omega⟩, ⟨rfl⟩, ⟨Kd.R_nil _ _ _ _ _, Below.refl _ _⟩⟩
  case round =>
    obtain ⟨x, done, A, c, rfl, rfl, hx, HF, HD, HR⟩ := hrel
    have hdl : done.length ≤ 5 := by have h1 := congrArg List.length HD.out; have h2 := HV.out; rw [List.length_append] at h1; omega
    have hx1 : (x : Int) ≤ 2147483647 := by omega
    by_cases hs : x < 128
    · have hs1 : ¬ (127 < (x : Int)) := by omega
      have hs2 : decide (127 < (x : Int)) = false := by simp; omega
      have HN : Aside0 (done ++ [(x : Int)] = numW v) := ⟨by rw [← numW_small hs]; exact HD.out⟩
      clear HF HD
      go_wp2_with (first
        | (at_builtin; refine Kd.R_append (Kd.int .u8) (w0 := w) w.heap.size rfl (.tmp 30) (.tmp 33) 47 5 (.int .u8 0) 1 rfl Tryz.underlying47 info5 rfl (by decide) (by omega) (.slice A done.length c) done (x : Int) [.int .u8 x] (fun _ => True) (fun _ => False) rfl rfl (u8_M _) (fun _ hk => hk.elim) (fun _ _ => trivial) HR.out.1 HR.out.2 HR.out.2.size (by omega) ?_
           intro v8 w8 ho8 hb8 hg8 hat8
           obtain ⟨A8, k8, e8⟩ := Kd.R_slice ho8
           rw [List.length_append, List.length_singleton] at e8
           subst e8
           have H8 : Aside0 (Kd.C (Kd.int .u8) w8 A8 (done.length + 1) (done ++ [(x : Int)]) ∧ Below w.heap.size w w8) := ⟨by have h := (Kd.R_reads' ho8).2.2; rw [List.length_append, List.length_singleton] at h; exact h, hb8⟩
           clear ho8 hb8 hg8 hat8)
        | (go_at_call 99; (with_reducible refine (put_any b0 g u out (done ++ [(x : Int)]) A8 (done.length + 1) k8 _ (HW.out.below H8.out.2) H8.out.1 (by omega)).mono ?_); rintro e w9 ⟨rfl, h1⟩; have H9 := Aside0.mk h1; clear h1))
      go_end0
      rw [← HN.out]
      obtain ⟨A9, k9, h9⟩ := H9.out
      exact ⟨rfl, A9, k9, Nx.from_below HW.out H8.out.2 h9⟩
    · obtain ⟨k, rfl⟩ : ∃ k, gk = k + 1 := by
        cases gk with
        | zero => have := HF.out; simp at this; omega
        | succ k => exact ⟨k, rfl⟩
      have hb1 : 127 < (x : Int) := by omega
      obtain ⟨m, hm⟩ : ∃ m, m = x % 128 := ⟨_, rfl⟩
      obtain ⟨q, hq⟩ : ∃ q, q = x / 128 := ⟨_, rfl⟩
      have hm1 : m < 128 := by omega
      have hand : bits .and .i64 (x : Int) 127 = (m : Int) := by rw [i64_and127 _ (by omega) (by omega), hm]; rfl
      have hor := i64_or128 m hm1
      obtain ⟨y, hy⟩ : ∃ y, y = 128 + m := ⟨_, rfl⟩
      rw [← hy] at hor
      have hy1 : (y : Int) ≤ 255 := by omega
      have hshr : (x : Int) / 128 = (q : Int) := by rw [hq]; rfl
      have hql : q ≤ 2147483647 := by omega
      have HQ : Aside0 (q < 128 ^ (k + 1)) := ⟨by have h1 := HF.out; rw [hq]; exact Nat.div_lt_of_lt_mul (by rw [Nat.pow_succ] at h1; omega)⟩
      have HN : Aside0 ((done ++ [(y : Int)]) ++ numW q = numW v) := ⟨by rw [← HD.out, numW_big (v := x) (by omega), hy, hm, hq, List.append_assoc]; rfl⟩
      clear hm hq hy HF HD hs
      go_wp2_with (first
        | (at_builtin; refine Kd.R_append (Kd.int .u8) (w0 := w) w.heap.size rfl (.tmp 21) (.tmp 26) 47 5 (.int .u8 0) 1 rfl Tryz.underlying47 info5 rfl (by decide) (by omega) (.slice A done.length c) done (y : Int) [.int .u8 y] (fun _ => True) (fun _ => False) rfl rfl (u8_M _) (fun _ hk => hk.elim) (fun _ _ => trivial) HR.out.1 HR.out.2 HR.out.2.size (by omega) ?_
           intro v8 w8 ho8 hb8 hg8 hat8
           obtain ⟨A8, k8, e8⟩ := Kd.R_slice ho8
           rw [List.length_append, List.length_singleton] at e8
           subst e8
           have H8 := Aside0.mk (⟨ho8, hb8⟩ : _ ∧ _)
           clear ho8 hb8 hg8 hat8))
      go_roundg k
      case measure => omega
      case rel => exact ⟨q, done ++ [(y : Int)], A8, k8, by first | rfl | rw [hshr], by rw [List.length_append, List.length_singleton], hql, HQ, HN, ⟨by rw [List.length_append, List.length_singleton]; have h := H8.out.1; exact h, H8.out.2⟩⟩
end Go.Proofs.YtdekmeanlcpenaaGreatDoor.Codec

namespace Go.Proofs.YtdekmeanlcpenaaGreatDoor.Codec
open Go.RowKit Go.Proofs.YtdekmeanlcpenaaGreatDoorW.PrintWords Go.Proofs.YtdekmeanlcpenaaGreatDoor.Mid
set_option maxHeartbeats 1000000
set_option maxRecDepth 100000
theorem fixed1_any (b0 g : Nat) (u : Value) (out : List Int) (v : Nat) (w : World) (hW : Wr b0 w g u out) (hv : v < 256) (hl : out.length ≤ 900000000) :
    Calls Tryz.prog 51 #[.pointer (some ⟨g, 0, none⟩), .int .i64 v, .int .i64 1] w fun e w' => e = .returned (.tuple #[]) ∧ NxE b0 w g u (out ++ fixW v 1) w' := by
  have HW := Aside0.mk hW
  have HV := Aside0.mk hv
  have hb1 : decide ((v : Int) < 0) = false := by simp
  have hb2 : decide ((256 : Int) ≤ (v : Int)) = false := by simp; omega
  clear hW hv
  go_enter Tryz.func51, Tryz.ntmps51
  go_upto_region 1 with (fail)
  go_wp2_with fail
  refine wp_loop_rounds 2 ?_
  rw [rounds_succ]
  go_wp2_with (first
    | (at_builtin; refine Kd.R_append (Kd.int .u8) (w0 := w) w.heap.size rfl (.tmp 35) (.tmp 41) 47 5 (.int .u8 0) 1 rfl Tryz.underlying47 info5 rfl (by decide) (by omega) (.slice none 0 0) ([] : List Int) ((v : Int) % 256) [.int .u8 ((v : Int) % 256)] (fun _ => True) (fun _ => False) rfl rfl (u8_M _) (fun _ hk => hk.elim) (fun _ _ => trivial) (Kd.R_nil _ _ _ _ _) (Below.refl _ _) (Nat.le_refl _) (by decide) ?_
       intro v1 w1 ho hb hg hat
       obtain ⟨d1, hd⟩ : ∃ d, d = ([] : List Int) ++ [(v : Int) % 256] := ⟨_, rfl⟩
       have D1 := Aside0.mk hd
       rw [← hd] at ho
       clear hd
       obtain ⟨A1, k1, e1⟩ := Kd.R_slice ho
       subst e1
       have H1 := Aside0.mk (⟨ho, hb⟩ : _ ∧ _)
       clear ho hb hg hat))
  have hl1 : d1.length ≤ 1 := by rw [D1.out]; simp
  rw [rounds_succ]
  go_wp2_with (go_at_call 99; (with_reducible refine (put_any b0 g u out d1 A1 d1.length k1 _ (HW.out.below H1.out.2) (Kd.R_reads' H1.out.1).2.2 (by omega)).mono ?_); rintro e w9 ⟨rfl, h1⟩; have H9 := Aside0.mk h1; clear h1)
  go_end0
  have e : fixW v 1 = d1 := by rw [D1.out]; simp [fixW]; first | done | (have := HV.out; omega)
  rw [e]
  obtain ⟨A9, k9, h9⟩ := H9.out
  exact ⟨rfl, A9, k9, Nx.from_below HW.out H1.out.2 h9⟩
theorem fixed4_any (b0 g : Nat) (u : Value) (out : List Int) (v : Nat) (w : World) (hW : Wr b0 w g u out) (hv : v < 4294967296) (hl : out.length ≤ 900000000) :
    Calls Tryz.prog 51 #[.pointer (some ⟨g, 0, none⟩), .int .i64 v, .int .i64 4] w fun e w' => e = .returned (.tuple #[]) ∧ NxE b0 w g u (out ++ fixW v 4) w' := by
  have HW := Aside0.mk hW
  have HV := Aside0.mk hv
  have hb1 : decide ((v : Int) < 0) = false := by simp
  have hb2 : decide ((4294967296 : Int) ≤ (v : Int)) = false := by simp; omega
  clear hW hv
  go_enter Tryz.func51, Tryz.ntmps51
  go_upto_region 1 with (fail)
  go_wp2_with fail
  refine wp_loop_rounds 5 ?_
  rw [rounds_succ]
  go_wp2_with (first
    | (at_builtin; refine Kd.R_append (Kd.int .u8) (w0 := w) w.heap.size rfl (.tmp 35) (.tmp 41) 47 5 (.int .u8 0) 1 rfl Tryz.underlying47 info5 rfl (by decide) (by omega) (.slice none 0 0) ([] : List Int) ((v : Int) / 16777216 % 256) [.int .u8 ((v : Int) / 16777216 % 256)] (fun _ => True) (fun _ => False) rfl rfl (u8_M _) (fun _ hk => hk.elim) (fun _ _ => trivial) (Kd.R_nil _ _ _ _ _) (Below.refl _ _) (Nat.le_refl _) (by decide) ?_
       intro v1 w1 ho hb hg hat
       obtain ⟨d1, hd⟩ : ∃ d, d = ([] : List Int) ++ [(v : Int) / 16777216 % 256] := ⟨_, rfl⟩
       have D1 := Aside0.mk hd
       rw [← hd] at ho
       clear hd
       obtain ⟨A1, k1, e1⟩ := Kd.R_slice ho
       subst e1
       have H1 := Aside0.mk (⟨ho, hb⟩ : _ ∧ _)
       clear ho hb hg hat))
  have hl1 : d1.length ≤ 1 := by rw [D1.out]; simp
  rw [rounds_succ]
  go_wp2_with (first
    | (at_builtin; refine Kd.R_append (Kd.int .u8) (w0 := w) w.heap.size rfl (.tmp 35) (.tmp 41) 47 5 (.int .u8 0) 1 rfl Tryz.underlying47 info5 rfl (by decide) (by omega) (.slice A1 d1.length k1) d1 ((v : Int) / 65536 % 256) [.int .u8 ((v : Int) / 65536 % 256)] (fun _ => True) (fun _ => False) rfl rfl (u8_M _) (fun _ hk => hk.elim) (fun _ _ => trivial) H1.out.1 H1.out.2 H1.out.2.size (by omega) ?_
       intro v2 w2 ho hb hg hat
       obtain ⟨d2, hd⟩ : ∃ d, d = d1 ++ [(v : Int) / 65536 % 256] := ⟨_, rfl⟩
       have D2 := Aside0.mk hd
       rw [← hd] at ho
       clear hd
       obtain ⟨A2, k2, e2⟩ := Kd.R_slice ho
       subst e2
       have H2 := Aside0.mk (⟨ho, hb⟩ : _ ∧ _)
       clear ho hb hg hat))
  have hl2 : d2.length ≤ 2 := by rw [D2.out]; simp; omega
  rw [rounds_succ]
  go_wp2_with (first
    | (at_builtin; refine Kd.R_append (Kd.int .u8) (w0 := w) w.heap.size rfl (.tmp 35) (.tmp 41) 47 5 (.int .u8 0) 1 rfl Tryz.underlying47 info5 rfl (by decide) (by omega) (.slice A2 d2.length k2) d2 ((v : Int) / 256 % 256) [.int .u8 ((v : Int) / 256 % 256)] (fun _ => True) (fun _ => False) rfl rfl (u8_M _) (fun _ hk => hk.elim) (fun _ _ => trivial) H2.out.1 H2.out.2 H2.out.2.size (by omega) ?_
       intro v3 w3 ho hb hg hat
       obtain ⟨d3, hd⟩ : ∃ d, d = d2 ++ [(v : Int) / 256 % 256] := ⟨_, rfl⟩
       have D3 := Aside0.mk hd
       rw [← hd] at ho
       clear hd
       obtain ⟨A3, k3, e3⟩ := Kd.R_slice ho
       subst e3
       have H3 := Aside0.mk (⟨ho, hb⟩ : _ ∧ _)
       clear ho hb hg hat))
  have hl3 : d3.length ≤ 3 := by rw [D3.out]; simp; omega
  rw [rounds_succ]
  go_wp2_with (first
    | (at_builtin; refine Kd.R_append (Kd.int .u8) (w0 := w) w.heap.size rfl (.tmp 35) (.tmp 41) 47 5 (.int .u8 0) 1 rfl Tryz.underlying47 info5 rfl (by decide) (by omega) (.slice A3 d3.length k3) d3 ((v : Int) % 256) [.int .u8 ((v : Int) % 256)] (fun _ => True) (fun _ => False) rfl rfl (u8_M _) (fun _ hk => hk.elim) (fun _ _ => trivial) H3.out.1 H3.out.2 H3.out.2.size (by omega) ?_
       intro v4 w4 ho hb hg hat
       obtain ⟨d4, hd⟩ : ∃ d, d = d3 ++ [(v : Int) % 256] := ⟨_, rfl⟩
       have D4 := Aside0.mk hd
       rw [← hd] at ho
       clear hd
       obtain ⟨A4, k4, e4⟩ := Kd.R_slice ho
       subst e4
       have H4 := Aside0.mk (⟨ho, hb⟩ : _ ∧ _)
       clear ho hb hg hat))
  have hl4 : d4.length ≤ 4 := by rw [D4.out]; simp; omega
  rw [rounds_succ]
  go_wp2_with (go_at_call 99; (with_reducible refine (put_any b0 g u out d4 A4 d4.length k4 _ (HW.out.below H4.out.2) (Kd.R_reads' H4.out.1).2.2 (by omega)).mono ?_); rintro e w9 ⟨rfl, h1⟩; have H9 := Aside0.mk h1; clear h1)
  go_end0
  have e : fixW v 4 = d4 := by rw [D4.out, D3.out, D2.out, D1.out]; simp [fixW]; first | done | (have := HV.out; omega)
  rw [e]
  obtain ⟨A9, k9, h9⟩ := H9.out
  exact ⟨rfl, A9, k9, Nx.from_below HW.out H4.out.2 h9⟩
end Go.Proofs.YtdekmeanlcpenaaGreatDoor.Codec

namespace Go.Proofs.YtdekmeanlcpenaaGreatDoor.Codec
open Go.RowKit Go.Proofs.YtdekmeanlcpenaaGreatDoorW.PrintWords Go.Proofs.YtdekmeanlcpenaaGreatDoor.Mid
set_option maxHeartbeats 1000000
set_option maxRecDepth 100000
theorem text_any (b0 g : Nat) (u : Value) (out xs : List Int) (A : Option Addr) (m c : Nat) (w : World) (hW : Wr b0 w g u out) (hx : Kd.C (Kd.int .u8) w A m xs) (hA : ∀ ad, A = some ad → 0 < m → ¬ Ws g u ad.block) (hm : m ≤ 1000000) (hl : out.length ≤ 800000000) :
    Calls Tryz.prog 97 #[.pointer (some ⟨g, 0, none⟩), .slice A m c] w fun e w' => e = .returned (.tuple #[]) ∧ NxE b0 w g u (out ++ txtW xs) w' := by
  have HW := Aside0.mk hW
  have HX := Aside0.mk hx
  have HA := Aside0.mk hA
  have hnl := numW_max (v := m) (by omega)
  clear hW hx hA
  go_enter Tryz.func97, Tryz.ntmps97
  go_wp2_with (first
    | (go_at_call 98; refine (number_any b0 g u out m _ HW.out (by omega) (by omega)).mono ?_; rintro e w1 ⟨rfl, A1, k1, h1⟩; have H1 := Aside0.mk h1; clear h1)
    | (go_at_call 50; refine (raw_any b0 g (.slice A1 (out ++ numW m).length k1) (out ++ numW m) xs A m c _ H1.out.wr (C_away HX.out H1.out.kept HA.out) (by rw [List.length_append]; omega)).mono ?_; rintro e w2 ⟨rfl, A2, k2, h2⟩; have H2 := Aside0.mk h2; clear h2))
  go_end0
  have e : out ++ numW m ++ xs = out ++ txtW xs := by rw [List.append_assoc, txtW, HX.out.1]
  rw [← e]
  exact ⟨rfl, A2, k2, H1.out.trans H2.out⟩
end Go.Proofs.YtdekmeanlcpenaaGreatDoor.Codec

namespace Go.Proofs.YtdekmeanlcpenaaGreatDoor.Codec
open Go.RowKit Go.Proofs.YtdekmeanlcpenaaGreatDoorW.PrintWords Go.Proofs.YtdekmeanlcpenaaGreatDoor.Mid
/-- Bytes that lie somewhere, as a row that reads. -/
theorem C_at {w : World} {p : Addr} {xs : List Int} (h : At w p (u8s xs)) (hm : xs.length ≤ 9223372036854775807) : Kd.C (Kd.int .u8) w (some p) xs.length xs := by
  refine ⟨rfl, hm, fun _ => ⟨p, rfl, fun j x hj => ⟨[.int .u8 x], rfl, rfl, fun i u hu => ?_⟩⟩⟩
  cases i with
  | zero =>
    simp at hu
    subst hu
    have h1 := h j (.int .u8 x) (by rw [u8s, List.getElem?_map, hj]; rfl)
    rw [← Addr.add_add, show j * (Kd.int IntKind.u8).sz = j from Nat.mul_one j]
    have e : (p.add j).add 0 = p.add j := by rw [Addr.add_add]; rfl
    rw [e]
    exact h1
  | succ i => simp at hu
theorem C_id {w : World} {p : Addr} {x : List Int} (hx : IdOk x) (h : At w p (u8s x)) : Kd.C (Kd.int .u8) w (some p) 32 x := by
  have := C_at h (by rw [hx.len]; decide)
  rwa [hx.len] at this
theorem Nx.off {b0 g k : Nat} {W W1 : World} {v v1 : Value} {out1 : List Int} (h : Nx b0 W g v W1 v1 out1) (hk : k < W.heap.size) (hn : ¬ Ws g v k) : ¬ Ws g v1 k := fun hk1 => by
  rcases h.ws hk1 with h | h
  · exact hn h
  · omega
theorem Wr.off_new {b0 g k : Nat} {W : World} {v : Value} {out : List Int} (h : Wr b0 W g v out) (hk : W.heap.size ≤ k) : ¬ Ws g v k := fun hk1 => by have := (h.ws_lt hk1).2; omega
theorem Wr.off_old {b0 g k : Nat} {W : World} {v : Value} {out : List Int} (h : Wr b0 W g v out) (hk : k < b0) : ¬ Ws g v k := fun hk1 => by have := (h.ws_lt hk1).1; omega
/-- What is written of a table behind so many results. -/
def tabUp (rs : List Res) (i : Nat) : List Int := numW rs.length ++ (rs.take i).flatMap resW
theorem tabUp_all (rs : List Res) (i : Nat) (h : rs.length ≤ i) : tabUp rs i = tabW rs := by rw [tabUp, List.take_of_length_le h, tabW]
theorem tabUp_step {rs : List Res} {i : Nat} {r : Res} (h : rs[i]? = some r) : tabUp rs (i + 1) = tabUp rs i ++ resW r := by
  rw [tabUp, tabUp, List.take_add_one, h, List.flatMap_append, ← List.append_assoc]; simp
theorem tabUp_len {rs : List Res} (ok : ∀ r ∈ rs, ResOk r) (i : Nat) (hm : rs.length ≤ 32) : (tabUp rs i).length ≤ 2085 := by
  rw [tabUp, List.length_append, flatRes_length (fun r hr => ok r (List.mem_of_mem_take hr)), List.length_take]
  have := numW_max (v := rs.length) (by omega)
  omega
attribute [local go_sem ↓ high] load33_eq load29_eq
attribute [local simp] rowOf_drew rowOf_drewN
attribute [local go_sem high] load33_row load29_row rowOf_drew rowOf_drewN
set_option maxHeartbeats 2000000
set_option maxRecDepth 100000
theorem tab_no (A : Option Addr) (c : Nat) (rs : List Res) (w : World) (hC : resK.C w A rs.length rs) (hc : rs.length ≤ c) (hT : ¬ Table rs) :
    Calls Tryz.prog 96 #[.slice A rs.length c] w fun e w' => e = .returned (.tuple #[.slice none 0 0, .int .i64 80]) ∧ Below w.heap.size w w' := by
  have HT := Aside0.mk hT
  clear hT
  go_enter Tryz.func96, Tryz.ntmps96
  go_wp2_with (go_at_call 31; refine (table_valid A c rs _ hC hc).mono ?_; rintro e w1 ⟨⟨b, rfl, hb⟩, h1⟩; have h0 : b = false := (by cases b; rfl; exact absurd (hb.1 rfl) HT.out); subst h0; have H1 := Aside0.mk h1; clear h1 hb)
  go_ret2
  exact ⟨rfl, H1.out⟩
theorem tab_yes (A : Option Addr) (c : Nat) (rs : List Res) (w : World) (hC : resK.C w A rs.length rs) (hc : rs.length ≤ c) (hok : ∀ r ∈ rs, ResOk r) (hT : Table rs) :
    Calls Tryz.prog 96 #[.slice A rs.length c] w fun e w' => ∃ A1 k1, e = .returned (.tuple #[.slice A1 (tabW rs).length k1, .int .i64 0]) ∧ Kd.R (Kd.int .u8) 5 w' w.heap.size (fun _ => True) (.slice A1 (tabW rs).length k1) (tabW rs) ∧ Below w.heap.size w w' := by
  have HT := Aside0.mk hT
  have HC := Aside0.mk hC
  have HO := Aside0.mk hok
  have hm := hT.most
  clear hT hC hok
  go_enter Tryz.func96, Tryz.ntmps96
  go_wp2_with (first
    | (go_at_call 31; refine (table_valid A c rs _ HC.out hc).mono ?_; rintro e w1 ⟨⟨b, rfl, hb⟩, h1⟩; have h0 : b = true := hb.2 HT.out; subst h0; have H1 := Aside0.mk h1; have HS := Aside0.mk (Wr.start w1); clear h1 hb)
    | (go_at_call 98; refine (number_any w1.heap.size w1.heap.size (.slice none 0 0) [] rs.length _ HS.out (by omega) (by decide)).mono ?_; rintro e w2 ⟨rfl, A2, k2, h2⟩; have H2 := Aside0.mk h2; clear h2)
    | go_in)
  have HB2 : Aside0 (Below w.heap.size w w2) := ⟨(below_alloc H1.out (.cells #[.int .i64 0, .int .i64 0, .slice none 0 0] 114)).trans (H2.out.bel.mono H1.out.size)⟩
  have HN2 : Aside0 (∃ A k, Nx w1.heap.size (w1.alloc (.cells #[.int .i64 0, .int .i64 0, .slice none 0 0] 114)) w1.heap.size (.slice none 0 0) w2 (.slice A (tabUp rs 0).length k) (tabUp rs 0)) := ⟨A2, k2, by rw [show tabUp rs 0 = [] ++ numW rs.length by simp [tabUp]]; exact H2.out⟩
  have HS1 := Aside0.mk H1.out.size
  clear H2 H1 HS
  go_loopg [15] rs.length (fun k v15 w' => ∃ i : Nat, v15 = .int .i64 i ∧ i + k = rs.length ∧ Aside0 (Below w.heap.size w w') ∧ Aside0 (∃ A k, Nx w1.heap.size (w1.alloc (.cells #[.int .i64 0, .int .i64 0, .slice none 0 0] 114)) w1.heap.size (.slice none 0 0) w' (.slice A (tabUp rs i).length k) (tabUp rs i)))
  case atStart => exact ⟨0, rfl, by omega, HB2, HN2⟩
  case round =>
    clear HN2 HB2
    obtain ⟨i, rfl, hik, HB, HN⟩ := hrel
    cases gk with
    | zero =>
      have hd : decide (i < rs.length) = false := by simp; omega
      have hi : Aside0 (rs.length ≤ i) := ⟨by omega⟩
      obtain ⟨A3, k3, h3⟩ := HN.out
      rw [tabUp_all rs i hi.out] at h3
      have H3 := Aside0.mk h3
      have hl3 := tab_le HT.out HO.out
      clear hik h3 HN
      go_wp2_with (go_at_call 53; refine (data_any w1.heap.size w1.heap.size (.slice A3 (tabW rs).length k3) (tabW rs) _ H3.out.wr (by omega)).mono ?_; rintro e w4 ⟨A4, k4, rfl, h4, h5⟩; have H4 := Aside0.mk (⟨h4, h5⟩ : _ ∧ _); clear h4 h5)
      go_ret2
      exact ⟨A4, k4, rfl, Kd.R_lower H4.out.1 HB.out.size, HB.out.trans (H4.out.2.mono HB.out.size)⟩
    | succ k =>
      have hi : i < rs.length := by omega
      have hi1 : (i : Int) < (rs.length : Int) := by omega
      have hi32 : (i : Int) < 32 := by omega
      obtain ⟨ad, r, rfl, hr, ho, hat⟩ := res_at (Kd.C_below HC.out HB.out) i hi
      have hld := hat.res ho
      obtain ⟨A3, k3, h3⟩ := HN.out
      have hTc := HT.out.code r (List.mem_of_getElem? hr)
      obtain ⟨cn, hcn⟩ : ∃ cn : Nat, r.code = (cn : Int) := ⟨r.code.toNat, by omega⟩
      have hcn2 : cn < 256 := by omega
      obtain ⟨W, hW⟩ : ∃ W, W = wr.alloc (.cells (resC r).toArray 33) := ⟨_, rfl⟩
      have hbk : W.heap[wr.heap.size]? = some (.cells (resC r).toArray 33 (0, 0)) := hW ▸ heap_alloc_new wr _
      have hBW : Below wr.heap.size wr W := hW ▸ below_alloc (Below.refl _ _) _
      have HWr : Aside0 (Wr w1.heap.size W w1.heap.size (.slice A3 (tabUp rs i).length k3) (tabUp rs i)) := ⟨h3.wr.below hBW⟩
      have hoff := h3.wr.off_new (Nat.le_refl wr.heap.size)
      have hlt := blk_lt hbk
      have hul := tabUp_len HO.out i hm
      have HN3 := Aside0.mk h3
      have HBW := Aside0.mk hBW
      have HW := Aside0.mk hW
      have HBK := Aside0.mk hbk
      have HOF := Aside0.mk hoff
      have HLT := Aside0.mk hlt
      have Hr := Aside0.mk hr
      have Ho := Aside0.mk ho
      have HCN := Aside0.mk hcn
      have hal := ho.act.len
      have hrl := ho.root.len
      have HAL := Aside0.mk (⟨hal, hrl⟩ : _ ∧ _)
      clear hW hbk hBW hoff h3 hr ho hat hTc hcn hlt hal hrl HN
      go_upto_region 8 with (first | (refine store33_new rfl rfl _ _ rfl r Ho.out rfl rfl ?_; rw [← HW.out]) | fail)
      go_wp2_with (first
        | (go_at_call 50; (with_reducible refine (raw_any w1.heap.size w1.heap.size (.slice A3 (tabUp rs i).length k3) (tabUp rs i) r.act (some ⟨wr.heap.size, 0, none⟩) 32 32 W HWr.out (C_id Ho.out.act (res_act (At.blk HBK.out))) (by omega)).mono ?_)
           rintro e w4 ⟨rfl, A4, k4, h4⟩
           have HBK4 := Aside0.mk (blk_kept HBK.out h4.kept HOF.out)
           have HOF4 := Aside0.mk (h4.off HLT.out HOF.out)
           have H4 := Aside0.mk h4
           clear h4)
        | (go_at_call 50; (with_reducible refine (raw_any w1.heap.size w1.heap.size (.slice A4 (tabUp rs i ++ r.act).length k4) (tabUp rs i ++ r.act) r.root (some ⟨wr.heap.size, 32, none⟩) 32 32 w4 H4.out.wr (C_id Ho.out.root (by have h := res_root Ho.out (At.blk HBK4.out); rwa [Addr.add_mid] at h)) (by rw [List.length_append]; have := HAL.out.1; omega)).mono ?_)
           rintro e w5 ⟨rfl, A5, k5, h5⟩
           have HBK5 := Aside0.mk (blk_kept HBK4.out h5.kept HOF4.out)
           have q5 : w5.cell? ⟨wr.heap.size, 64, none⟩ = some (.int .i64 cn) := by have h := res_code Ho.out (At.blk HBK5.out); rw [Addr.add_mid, HCN.out] at h; exact h
           have H5 := Aside0.mk h5
           clear h5)
        | (go_at_call 51; (with_reducible refine (fixed1_any w1.heap.size w1.heap.size (.slice A5 (tabUp rs i ++ r.act ++ r.root).length k5) (tabUp rs i ++ r.act ++ r.root) cn w5 H5.out.wr hcn2 (by rw [List.length_append, List.length_append]; have := HAL.out; omega)).mono ?_)
           rintro e w6 ⟨rfl, A6, k6, h6⟩
           have H6 := Aside0.mk h6
           clear h6 q5))
      have e6 : Aside0 (tabUp rs i ++ r.act ++ r.root ++ fixW cn 1 = tabUp rs (i + 1)) := ⟨by rw [tabUp_step Hr.out, resW, HCN.out]; simp [fixW]; omega⟩
      have HN6 : Aside0 (∃ A k, Nx w1.heap.size (w1.alloc (.cells #[.int .i64 0, .int .i64 0, .slice none 0 0] 114)) w1.heap.size (.slice none 0 0) w6 (.slice A (tabUp rs (i + 1)).length k) (tabUp rs (i + 1))) := ⟨A6, k6, by rw [← e6.out]; exact ((((HN3.out.then_below HBW.out).trans H4.out).trans H5.out).trans H6.out)⟩
      have HB6 : Aside0 (Below w.heap.size w w6) := ⟨HB.out.trans (((HBW.out.mono HB.out.size).trans ((H4.out.bel.mono HS1.out))).trans ((H5.out.bel.mono HS1.out).trans (H6.out.bel.mono HS1.out)))⟩
      clear HN3 H4 H5 H6
      go_roundg k
      case measure => omega
      case rel => exact ⟨i + 1, by go_num, by omega, HB6, HN6⟩
end Go.Proofs.YtdekmeanlcpenaaGreatDoor.Codec

namespace Go.Proofs.YtdekmeanlcpenaaGreatDoor.Codec
open Go.RowKit Go.Proofs.YtdekmeanlcpenaaGreatDoorW.PrintWords Go.Proofs.YtdekmeanlcpenaaGreatDoor.Mid
theorem Nx.cell {b0 g : Nat} {W W1 : World} {v v1 : Value} {o : List Int} (h : Nx b0 W g v W1 v1 o) {a : Addr} {u : Value} (hc : W.cell? a = some u) (ha : a.block < b0) : W1.cell? a = some u := by
  rw [World.cell?, h.bel.block _ ha]; exact hc
theorem C_str (W : World) (s : ByteArray) (hs : s.size ≤ 9223372036854775807) : Kd.C (Kd.int .u8) (Lib.bytesWorld W 5 s) (some ⟨W.heap.size, 0, none⟩) s.size (sBytes s) :=
  Kd.C_of_reads (enc := Value.int .u8) (d := (0 : Int)) (h1 := fun _ => rfl) (bytes_reads W 5 s hs)
/-- A row of one's own reads as long as its block lies below. -/
theorem R_low {b b0 : Nat} {W W1 : World} {v : Value} {xs : List Int} (h : Kd.R (Kd.int .u8) 5 W b (fun _ => True) v xs) (hl : ∀ k, v.ownBlock = some k → k < b0) (hb : Below b0 W W1) : Kd.R (Kd.int .u8) 5 W1 b (fun _ => True) v xs := by
  refine Kd.R_mono (Kd.R_move (ok := fun k => some k = v.ownBlock) (Kd.R_tight rfl h) (fun k hk => hb.block k (hl k hk.symm))) (fun _ _ => trivial)
section
variable {b0 g : Nat} {W w0 w : World} {u : Value} {out : List Int}
theorem NxE.below {w1 : World} (h : NxE b0 W g u out w) (hb : Below w.heap.size w w1) : NxE b0 W g u out w1 := by
  obtain ⟨A, k, h⟩ := h
  exact ⟨A, k, h.then_below hb⟩
theorem NxE.bel (h : NxE b0 W g u out w) : Below b0 W w := by
  obtain ⟨A, k, h⟩ := h
  exact h.bel
theorem NxE.size (h : NxE b0 W g u out w) : b0 ≤ w.heap.size := by
  obtain ⟨A, k, h⟩ := h
  exact h.wr.size
theorem NxE.cell (h : NxE b0 W g u out w) {a : Addr} {v : Value} (hc : W.cell? a = some v) (ha : a.block < b0) : w.cell? a = some v := by
  obtain ⟨A, k, h⟩ := h
  exact h.cell hc ha
theorem NxE.start (w : World) : NxE w.heap.size (w.alloc (.cells #[.int .i64 0, .int .i64 0, .slice none 0 0] 114)) w.heap.size (.slice none 0 0) [] (w.alloc (.cells #[.int .i64 0, .int .i64 0, .slice none 0 0] 114)) :=
  ⟨none, 0, Wr.start w, Kept.refl _ _, .inl rfl, Below.refl _ _⟩
theorem sx_fixed1 (h : NxE b0 W g u out w) (v : Nat) (hv : v < 256) (hl : out.length ≤ 900000000) : Calls Tryz.prog 51 #[.pointer (some ⟨g, 0, none⟩), .int .i64 v, .int .i64 1] w fun e w' => e = .returned (.tuple #[]) ∧ NxE b0 W g u (out ++ fixW v 1) w' := by
  obtain ⟨A, k, h⟩ := h
  exact (fixed1_any b0 g _ out v w h.wr hv hl).mono fun e w' ⟨he, A', k', h'⟩ => ⟨he, A', k', h.trans h'⟩
theorem sx_mark (h : NxE b0 W g u out w) (hl : out.length ≤ 900000000) : Calls Tryz.prog 51 #[.pointer (some ⟨g, 0, none⟩), .int .i64 74, .int .i64 1] w fun e w' => e = .returned (.tuple #[]) ∧ NxE b0 W g u (out ++ fixW 74 1) w' := sx_fixed1 h 74 (by decide) hl
theorem sx_fixed4 (h : NxE b0 W g u out w) (v : Nat) (hv : v < 4294967296) (hl : out.length ≤ 900000000) : Calls Tryz.prog 51 #[.pointer (some ⟨g, 0, none⟩), .int .i64 v, .int .i64 4] w fun e w' => e = .returned (.tuple #[]) ∧ NxE b0 W g u (out ++ fixW v 4) w' := by
  obtain ⟨A, k, h⟩ := h
  exact (fixed4_any b0 g _ out v w h.wr hv hl).mono fun e w' ⟨he, A', k', h'⟩ => ⟨he, A', k', h.trans h'⟩
theorem sx_number (h : NxE b0 W g u out w) (v : Nat) (hv : v ≤ 2147483647) (hl : out.length ≤ 900000000) : Calls Tryz.prog 98 #[.pointer (some ⟨g, 0, none⟩), .int .i64 v] w fun e w' => e = .returned (.tuple #[]) ∧ NxE b0 W g u (out ++ numW v) w' := by
  obtain ⟨A, k, h⟩ := h
  exact (number_any b0 g _ out v w h.wr hv hl).mono fun e w' ⟨he, A', k', h'⟩ => ⟨he, A', k', h.trans h'⟩
theorem sx_raw (h : NxE b0 W g u out w) (A : Option Addr) (m c : Nat) (xs : List Int) (hx : Kd.C (Kd.int .u8) w A m xs) (hl : out.length + m ≤ 1000000000) : Calls Tryz.prog 50 #[.pointer (some ⟨g, 0, none⟩), .slice A m c] w fun e w' => e = .returned (.tuple #[]) ∧ NxE b0 W g u (out ++ xs) w' := by
  obtain ⟨A1, k, h⟩ := h
  exact (raw_any b0 g _ out xs A m c w h.wr hx hl).mono fun e w' ⟨he, A', k', h'⟩ => ⟨he, A', k', h.trans h'⟩
theorem sx_text_new (h : NxE b0 W g u out w0) (hb : Below w0.heap.size w0 w) (A : Option Addr) (m c : Nat) (xs : List Int) (hx : Kd.C (Kd.int .u8) w A m xs) (hA : ∀ ad, A = some ad → w0.heap.size ≤ ad.block) (hm : m ≤ 1000000) (hl : out.length ≤ 800000000) :
    Calls Tryz.prog 97 #[.pointer (some ⟨g, 0, none⟩), .slice A m c] w fun e w' => e = .returned (.tuple #[]) ∧ NxE b0 W g u (out ++ txtW xs) w' := by
  obtain ⟨A1, k, h⟩ := h
  have h2 := h.then_below hb
  exact (text_any b0 g _ out xs A m c w h2.wr hx (fun ad he _ => h.wr.off_new (hA ad he)) hm hl).mono fun e w' ⟨he, A', k', h'⟩ => ⟨he, A', k', h2.trans h'⟩
theorem sx_text_old (h : NxE b0 W g u out w) (A : Option Addr) (m c : Nat) (xs : List Int) (hx : Kd.C (Kd.int .u8) w A m xs) (hA : ∀ ad, A = some ad → ad.block < b0) (hm : m ≤ 1000000) (hl : out.length ≤ 800000000) :
    Calls Tryz.prog 97 #[.pointer (some ⟨g, 0, none⟩), .slice A m c] w fun e w' => e = .returned (.tuple #[]) ∧ NxE b0 W g u (out ++ txtW xs) w' := by
  obtain ⟨A1, k, h⟩ := h
  exact (text_any b0 g _ out xs A m c w h.wr hx (fun ad he _ => h.wr.off_old (hA ad he)) hm hl).mono fun e w' ⟨he, A', k', h'⟩ => ⟨he, A', k', h.trans h'⟩
theorem sx_data (h : NxE b0 W g u out w) (hl : out.length ≤ 1000000000) :
    Calls Tryz.prog 53 #[.pointer (some ⟨g, 0, none⟩)] w fun e w' => ∃ A k, e = .returned (.tuple #[.slice A out.length k, .int .i64 0]) ∧ Kd.R (Kd.int .u8) 5 w' w.heap.size (fun _ => True) (.slice A out.length k) out ∧ Below w.heap.size w w' := by
  obtain ⟨A1, k, h⟩ := h
  exact data_any b0 g _ out w h.wr hl
end
/-- The address of a row of one's own lies where its block does. -/
theorem row_block {W : World} {b : Nat} {A : Option Addr} {n k : Nat} {xs : List Int} (h : Kd.R (Kd.int .u8) 5 W b (fun _ => True) (.slice A n k) xs) : ∀ ad, A = some ad → ad.block < W.heap.size := fun ad he => by
  subst he
  exact Kd.R_lt h ad.block rfl
/-- A journal's form, so far: behind so many ids. -/
def bodyUp (j : Jn) (i : Nat) : List Int := fixW 74 1 ++ txtW (sBytes j.name) ++ fixW j.ent.toNat 4 ++ fixW j.idx.toNat 4 ++ txtW (tabW j.res) ++ numW j.need.length ++ (j.need.take i).flatten
theorem bodyUp_step {j : Jn} {i : Nat} {x : List Int} (h : j.need[i]? = some x) : bodyUp j (i + 1) = bodyUp j i ++ x := by
  rw [bodyUp, bodyUp, List.take_add_one, h, List.flatten_append, ← List.append_assoc]; simp
theorem bodyUp_all (j : Jn) (i : Nat) (h : j.need.length ≤ i) : bodyUp j i ++ txtW (tabW j.tab) = bodyW j := by
  rw [bodyUp, List.take_of_length_le h, bodyW]; simp only [List.append_assoc]
theorem bodyUp_le {j : Jn} (V : JnV j) (K : JnOk j) (i : Nat) : (bodyUp j i).length ≤ 8000 := by
  have h1 := txt_le (l := sBytes j.name) (m := 112) (by rw [sBytes_length]; exact V.name.most) (by omega)
  have h2 := txt_le (tab_le V.res K.res) (by omega)
  have h4 := numW_max (v := j.need.length) (by have := V.most; omega)
  have h5 := ids_length (ids := j.need.take i) (fun x hx => K.need x (List.mem_of_mem_take hx))
  have h6 := V.most
  rw [List.length_take] at h5
  simp only [bodyUp, List.length_append, fixW_length]
  omega
attribute [local go_sem ↓ high] load33_eq load29_eq
attribute [local simp] rowOf_drew rowOf_drewN
attribute [local go_sem high] load33_row load29_row rowOf_drew rowOf_drewN
set_option maxHeartbeats 4000000
set_option maxRecDepth 100000
theorem written_any (j : Jn) (A1 : Option Addr) (c1 : Nat) (A2 : Option Addr) (c2 : Nat) (A3 : Option Addr) (c3 : Nat) (w : World) (hJ : JAt w j A1 c1 A2 c2 A3 c3) (V : JnV j) :
    Calls Tryz.prog 49 #[.agg (jC j A1 c1 A2 c2 A3 c3).toArray] w fun e w' => ∃ A k, e = .returned (.slice A (bodyW j).length k) ∧ Kd.R (Kd.int .u8) 5 w' w.heap.size (fun _ => True) (.slice A (bodyW j).length k) (bodyW j) ∧ Below w.heap.size w w' := by
  obtain ⟨W, hW⟩ : ∃ W, W = w.alloc (.cells (jC j A1 c1 A2 c2 A3 c3).toArray 60) := ⟨_, rfl⟩
  have hbk : W.heap[w.heap.size]? = some (.cells (jC j A1 c1 A2 c2 A3 c3).toArray 60 (0, 0)) := hW ▸ heap_alloc_new w _
  have hBW : Below w.heap.size w W := hW ▸ below_alloc (Below.refl _ _) _
  have c3' : W.cell? ⟨w.heap.size, 3, none⟩ = some (.slice A1 j.res.length c1) := (blk_cell hbk _).trans rfl
  have HW := Aside0.mk hW
  have HBW := Aside0.mk hBW
  have HBK := Aside0.mk hbk
  have HJ := Aside0.mk (hJ.below hBW)
  have HV := Aside0.mk V
  have hcv : ∀ u, (convert 9 47 (.string j.name)).run Tryz.prog u = .ok (.slice (some ⟨u.heap.size, 0, none⟩) j.name.size (grownCap u j.name.size 0 5)) (Lib.bytesWorld u 5 j.name) := fun u => print_bytes (u := .string) 9 47 5 (by kernel_rfl) Tryz.underlying47 Tryz.underlying5 j.name u
  clear hW hBW hbk hJ V
  go_enter Tryz.func49, Tryz.ntmps49
  go_upto_region 1 with (fail)
  rw [← HW.out]
  go_upto_region 4 with (first
    | (have X := HB1; go_at_call 96; refine (tab_yes A3 c3 j.tab _ (Kd.C_below HJ.out.r3 HB1.out) HJ.out.l3 HJ.out.ok.tab HV.out.tab).mono ?_
       rintro e w2 ⟨B2, k2, rfl, hr2, hb2⟩
       have H2 := Aside0.mk (⟨Kd.R_below HR1.out hb2, hr2⟩ : _ ∧ _)
       have HB2 := Aside0.mk (below_step HB1.out hb2)
       have HS := Aside0.mk (Wr.start w2)
       clear hr2 hb2)
    | (go_at_call 96; refine (tab_yes A1 c1 j.res _ HJ.out.r1 HJ.out.l1 HJ.out.ok.res HV.out.res).mono ?_
       rintro e w1 ⟨B1, k1, rfl, hr1, hb1⟩
       have s5 : w1.cell? ⟨w.heap.size, 5, none⟩ = some (.slice A3 j.tab.length c3) := pw_cell_below hb1 ((blk_cell HBK.out _).trans rfl)
       have HR1 := Aside0.mk hr1
       have HB1 := Aside0.mk hb1
       clear hr1 hb1)
    | fail)
  obtain ⟨b0, hb0⟩ : ∃ b0, w2.heap.size = b0 := ⟨_, rfl⟩
  have HX : Aside0 (NxE b0 (w2.alloc (.cells #[.int .i64 0, .int .i64 0, .slice none 0 0] 114)) b0 (.slice none 0 0) [] (w2.alloc (.cells #[.int .i64 0, .int .i64 0, .slice none 0 0] 114))) := ⟨by have h := NxE.start w2; rw [hb0] at h; exact h⟩
  rw [hb0]
  have HB3 : Aside0 (Below W.heap.size W (w2.alloc (.cells #[.int .i64 0, .int .i64 0, .slice none 0 0] 114))) := ⟨below_alloc HB2.out _⟩
  have HR : Aside0 (Kd.R (Kd.int .u8) 5 (w2.alloc (.cells #[.int .i64 0, .int .i64 0, .slice none 0 0] 114)) 0 (fun _ => True) (.slice B1 (tabW j.res).length k1) (tabW j.res) ∧ Kd.R (Kd.int .u8) 5 (w2.alloc (.cells #[.int .i64 0, .int .i64 0, .slice none 0 0] 114)) 0 (fun _ => True) (.slice B2 (tabW j.tab).length k2) (tabW j.tab)) :=
    ⟨Kd.R_lower (Kd.R_alloc H2.out.1 _) (Nat.zero_le _), Kd.R_lower (Kd.R_alloc H2.out.2 _) (Nat.zero_le _)⟩
  have HA : Aside0 ((∀ ad, B1 = some ad → ad.block < b0) ∧ (∀ ad, B2 = some ad → ad.block < b0)) := ⟨fun ad he => hb0 ▸ row_block H2.out.1 ad he, fun ad he => hb0 ▸ row_block H2.out.2 ad he⟩
  have HO : Aside0 ((∀ k, (Value.slice B1 (tabW j.res).length k1).ownBlock = some k → k < b0) ∧ (∀ k, (Value.slice B2 (tabW j.tab).length k2).ownBlock = some k → k < b0)) := ⟨fun k hk => hb0 ▸ Kd.R_lt H2.out.1 k hk, fun k hk => hb0 ▸ Kd.R_lt H2.out.2 k hk⟩
  have hg0 : w.heap.size < b0 := by have h1 := blk_lt HBK.out; have h2 := HB2.out.size; omega
  have Hb0 : Aside0 (W.heap.size ≤ b0 ∧ w2.heap.size = b0) := ⟨by rw [← hb0]; exact HB2.out.size, hb0⟩
  clear HS H2 HR1 HB1 HB2 s5 hb0 X
  generalize w2.alloc (.cells #[.int .i64 0, .int .i64 0, .slice none 0 0] 114) = W3 at HX HB3 HR ⊢
  have d0 : W3.cell? ⟨w.heap.size, 0, none⟩ = some (.string j.name) := pw_cell_below HB3.out ((blk_cell HBK.out _).trans rfl)
  have d1 : W3.cell? ⟨w.heap.size, 1, none⟩ = some (.int .i64 j.ent) := pw_cell_below HB3.out ((blk_cell HBK.out _).trans rfl)
  have d2 : W3.cell? ⟨w.heap.size, 2, none⟩ = some (.int .i64 j.idx) := pw_cell_below HB3.out ((blk_cell HBK.out _).trans rfl)
  have d4 : W3.cell? ⟨w.heap.size, 4, none⟩ = some (.slice A2 j.need.length c2) := pw_cell_below HB3.out ((blk_cell HBK.out _).trans rfl)
  obtain ⟨en, hen⟩ : ∃ en : Nat, j.ent = (en : Int) := ⟨j.ent.toNat, by have := HV.out.ent; omega⟩
  obtain ⟨ix, hix⟩ : ∃ ix : Nat, j.idx = (ix : Int) := ⟨j.idx.toNat, by have := HV.out.idx; omega⟩
  have HE : Aside0 (en < 4294967296 ∧ ix < 4294967296 ∧ j.ent.toNat = en ∧ j.idx.toNat = ix) := ⟨by have := HV.out.ent; omega, by have := HV.out.idx; omega, by omega, by omega⟩
  rw [hen] at d1
  rw [hix] at d2
  have hn1 := HV.out.name.most
  have HN1 : Aside0 ((sBytes j.name).length = j.name.size) := ⟨sBytes_length _⟩
  have D0 := Aside0.mk d0
  have D1 := Aside0.mk d1
  have D2 := Aside0.mk d2
  have D4 := Aside0.mk d4
  clear d0 d1 d2 d4 hen hix
  have hn2 := HV.out.most
  have HT : Aside0 ((tabW j.res).length ≤ 2081 ∧ (tabW j.tab).length ≤ 2081) := ⟨tab_le HV.out.res HJ.out.ok.res, tab_le HV.out.tab HJ.out.ok.tab⟩
  go_wp2_with (first
    | (go_at_call 98; (with_reducible refine (sx_number H8.out j.need.length (by omega) (by have := L8.out; omega)).mono ?_)
       rintro e w9 ⟨rfl, h9⟩
       have q9 := h9.cell D4.out hg0
       have H9 := Aside0.mk h9
       clear h9)
    | (have X := H7; go_at_call 97; (with_reducible refine (sx_text_old H7.out B1 (tabW j.res).length k1 (tabW j.res) (Kd.R_reads' (R_low HR.out.1 HO.out.1 H7.out.bel)).2.2 HA.out.1 (by have := HT.out.1; omega) (by have := L7.out; omega)).mono ?_)
       rintro e w8 ⟨rfl, h8⟩
       have q8 := h8.cell D4.out hg0
       have H8 := Aside0.mk h8
       have L8 : Aside0 (([] ++ fixW 74 1 ++ txtW (sBytes j.name) ++ fixW en 4 ++ fixW ix 4 ++ txtW (tabW j.res)).length ≤ 3000) := ⟨by rw [List.length_append]; have h1 := L7.out; have h2 := txt_le (l := tabW j.res) HT.out.1 (by omega); omega⟩
       clear h8)
    | (have X := H6; go_at_call 51; (with_reducible refine (sx_fixed4 H6.out ix HE.out.2.1 (by have := L6.out; omega)).mono ?_)
       rintro e w7 ⟨rfl, h7⟩
       have H7 := Aside0.mk h7
       have L7 : Aside0 (([] ++ fixW 74 1 ++ txtW (sBytes j.name) ++ fixW en 4 ++ fixW ix 4).length ≤ 200) := ⟨by rw [List.length_append, fixW_length]; have := L6.out; omega⟩
       clear h7)
    | (have X := H5; go_at_call 51; (with_reducible refine (sx_fixed4 H5.out en HE.out.1 (by have := L5.out; omega)).mono ?_)
       rintro e w6 ⟨rfl, h6⟩
       have q2 := h6.cell D2.out hg0
       have H6 := Aside0.mk h6
       have L6 : Aside0 (([] ++ fixW 74 1 ++ txtW (sBytes j.name) ++ fixW en 4).length ≤ 180) := ⟨by rw [List.length_append, fixW_length]; have := L5.out; omega⟩
       clear h6)
    | (go_at_call 97; (with_reducible refine (sx_text_new H4.out (bytes_below (Below.refl _ _) (Nat.le_refl _) 5 j.name) (some ⟨w4.heap.size, 0, none⟩) j.name.size _ (sBytes j.name) (C_str w4 j.name (by omega)) (fun ad he => by cases he; exact Nat.le_refl _) (by omega) (by have := L4.out; omega)).mono ?_)
       rintro e w5 ⟨rfl, h5⟩
       have q1 := h5.cell D1.out hg0
       have H5 := Aside0.mk h5
       have L5 : Aside0 (([] ++ fixW 74 1 ++ txtW (sBytes j.name)).length ≤ 170) := ⟨by rw [List.length_append]; have h1 := L4.out; have h2 := txt_le (l := sBytes j.name) (m := 112) (by rw [HN1.out]; exact hn1) (by omega); omega⟩
       clear h5)
    | (go_at_call 51; (with_reducible refine (sx_mark HX.out (by decide)).mono ?_)
       rintro e w4 ⟨rfl, h4⟩
       have q0 := h4.cell D0.out hg0
       have H4 := Aside0.mk h4
       have L4 : Aside0 (([] ++ fixW 74 1).length ≤ 1) := ⟨by simp [fixW_length]⟩
       clear h4)
    | fail)
  have HN9 : Aside0 (NxE b0 W3 b0 (.slice none 0 0) (bodyUp j 0) w9) := ⟨by
    have e : bodyUp j 0 = [] ++ fixW 74 1 ++ txtW (sBytes j.name) ++ fixW en 4 ++ fixW ix 4 ++ txtW (tabW j.res) ++ numW j.need.length := by
      rw [bodyUp, HE.out.2.2.1, HE.out.2.2.2]; simp
    rw [e]; exact H9.out⟩
  clear H4 H5 H6 H7 H8 H9 HX q0 q1 q2 q8 q9 L4 L5 L6 L7 L8 X
  go_loopg [44] j.need.length (fun k v44 w' => ∃ i : Nat, v44 = .int .i64 i ∧ i + k = j.need.length ∧ Aside0 (NxE b0 W3 b0 (.slice none 0 0) (bodyUp j i) w'))
  case atStart => exact ⟨0, rfl, by omega, HN9⟩
  case round =>
    clear HN9
    obtain ⟨i, rfl, hik, HN⟩ := hrel
    have hbl := bodyUp_le HV.out HJ.out.ok i
    cases gk with
    | zero =>
      have hd : decide (i < j.need.length) = false := by simp; omega
      have Hi : Aside0 (j.need.length ≤ i) := ⟨by omega⟩
      have hbl2 := body_le HV.out HJ.out.ok
      clear hik
      go_wp2_with (first
        | (go_at_call 97; (with_reducible refine (sx_text_old HN.out B2 (tabW j.tab).length k2 (tabW j.tab) (Kd.R_reads' (R_low HR.out.2 HO.out.2 HN.out.bel)).2.2 HA.out.2 (by have := HT.out.2; omega) (by omega)).mono ?_)
           rintro e w10 ⟨rfl, h10⟩
           rw [bodyUp_all j i Hi.out] at h10
           have H10 := Aside0.mk h10
           clear h10)
        | (go_at_call 53; (with_reducible refine (sx_data H10.out (by omega)).mono ?_); rintro e w11 ⟨A4, k4, rfl, h4, h5⟩; have H11 := Aside0.mk (⟨h4, h5⟩ : _ ∧ _); clear h4 h5)
        | fail)
      go_ret
      have hb : Below W.heap.size W w10 := HB3.out.trans (H10.out.bel.mono Hb0.out.1)
      exact ⟨A4, k4, rfl, Kd.R_lower H11.out.1 (Nat.le_trans HBW.out.size hb.size), HBW.out.trans ((below_step hb H11.out.2).mono HBW.out.size)⟩
    | succ k =>
      have hi : i < j.need.length := by omega
      have hi1 : (i : Int) < (j.need.length : Int) := by omega
      have hb : Below W.heap.size W wr := HB3.out.trans (HN.out.bel.mono Hb0.out.1)
      obtain ⟨ad, x, rfl, hx, hxo, hxa⟩ := id_at (Kd.C_below HJ.out.r2 hb) i hi
      have hld := hxa.id hxo
      obtain ⟨V4, hV4⟩ : ∃ V4, V4 = wr.alloc (.cells (u8s x).toArray 29) := ⟨_, rfl⟩
      have hbk : V4.heap[wr.heap.size]? = some (.cells (u8s x).toArray 29 (0, 0)) := hV4 ▸ heap_alloc_new wr _
      have HV4 := Aside0.mk hV4
      have HN4 : Aside0 (NxE b0 W3 b0 (.slice none 0 0) (bodyUp j i) V4) := ⟨HN.out.below (hV4 ▸ below_alloc (Below.refl _ _) _)⟩
      have HK := Aside0.mk hbk
      have Hx := Aside0.mk (⟨hx, hxo⟩ : _ ∧ _)
      clear hV4 hbk hx hxo hxa hb
      go_wp2_with (first
        | (refine store29_new rfl rfl _ _ rfl _ (by rfl) x Hx.out.2 rfl rfl ?_; rw [← HV4.out])
        | (go_at_call 50; (with_reducible refine (sx_raw HN4.out (some ⟨wr.heap.size, 0, none⟩) 32 32 x (C_id Hx.out.2 (At.blk HK.out)) (by omega)).mono ?_)
           rintro e w10 ⟨rfl, h10⟩
           rw [← bodyUp_step Hx.out.1] at h10
           have H10 := Aside0.mk h10
           clear h10)
        | fail)
      clear HN HN4
      go_roundg k
      case measure => omega
      case rel => exact ⟨i + 1, by go_num, by omega, H10⟩
end Go.Proofs.YtdekmeanlcpenaaGreatDoor.Codec

namespace Go.Proofs.YtdekmeanlcpenaaGreatDoor.Codec
open Go.RowKit Go.Proofs.YtdekmeanlcpenaaGreatDoorW.PrintWords Go.Proofs.YtdekmeanlcpenaaGreatDoor.Mid Go.Proofs.YtdekmeanlcpenaaGreatDoor.Block
theorem info60 : (Tryz.prog.info? 60).map (·.size) = some 6 := by kernel_rfl
theorem load60_eq (x : Value) : Instr.loadAt 60 x = ldRow 60 x := rfl
theorem load60_row (w : World) (p : Addr) : (ldRow 60 (.pointer (some p))).run Tryz.prog w = match rowOf w p 6 with
    | some cs => .ok (.agg cs.toArray) w
    | none => (loadVar 60 p).run Tryz.prog w := by
  unfold ldRow
  cases h : rowOf w p 6 with
  | none => simp only [Instr.loadAt, Instr.sureAddr, Sem.run_bind, Sem.run_pure, Result.andThen_ok]
  | some cs =>
    obtain ⟨h1, h2⟩ := rowOf_eq h
    exact Mid.run_load w p 60 cs _ h1 Tryz.underlying60 rfl (by rw [h2]; exact info60)
theorem jrow {w : World} {g : Nat} {j : Jn} {A1 A2 A3 : Option Addr} {c1 c2 c3 : Nat} (h : w.heap[g]? = some (.cells (jC j A1 c1 A2 c2 A3 c3).toArray 60 (0, 0))) : rowOf w ⟨g, 0, none⟩ 6 = some (jC j A1 c1 A2 c2 A3 c3) := (At.blk h).row rfl
def opEnc : ByteArray := { data := #[105, 110, 116, 97, 107, 101, 46, 101, 110, 99, 111, 100, 101] }
attribute [local go_sem ↓ high] load33_eq load29_eq load60_eq build69_eq build29_eq
attribute [local simp] rowOf_drew rowOf_drewN
attribute [local go_sem high] load33_row load29_row load60_row rowOf_drew rowOf_drewN bld29_none
set_option maxHeartbeats 4000000
set_option maxRecDepth 100000
section
variable (j : Jn) (A1 : Option Addr) (c1 : Nat) (A2 : Option Addr) (c2 : Nat) (A3 : Option Addr) (c3 : Nat) (w : World)
theorem enc_no (hJ : JAt w j A1 c1 A2 c2 A3 c3) (V : ¬ JnV j) :
    Calls Tryz.prog 19 #[.agg (jC j A1 c1 A2 c2 A3 c3).toArray] w fun e w' => (∃ g, e = .returned (.tuple #[.slice none 0 0, .iface 79 (.pointer (some ⟨g, 0, none⟩))]) ∧ w.heap.size ≤ g ∧ w'.heap[g]? = some (.cells (faultC opEnc .empty z32 (errno 161)).toArray 82 (0, 0))) ∧ Below w.heap.size w w' := by
  obtain ⟨W, hW⟩ : ∃ W, W = w.alloc (.cells (jC j A1 c1 A2 c2 A3 c3).toArray 60) := ⟨_, rfl⟩
  have hbk : W.heap[w.heap.size]? = some (.cells (jC j A1 c1 A2 c2 A3 c3).toArray 60 (0, 0)) := hW ▸ heap_alloc_new w _
  have hBW : Below w.heap.size w W := hW ▸ below_alloc (Below.refl _ _) _
  have hr := jrow hbk
  have HW := Aside0.mk hW
  have HBW := Aside0.mk hBW
  have HJ := Aside0.mk (hJ.below hBW)
  have HV := Aside0.mk V
  have hbb := fun u => bld69_two u opEnc (errno 161) rfl
  unfold opEnc errno at hbb
  clear hW hBW hbk hJ V
  go_enter Tryz.func19, Tryz.ntmps19
  go_upto_region 1 with (fail)
  rw [← HW.out]
  go_wp2_with (first
    | (go_at_call 48; refine (isJournal_any j A1 c1 A2 c2 A3 c3 _ HJ.out).mono ?_; rintro e w1 ⟨hR, hb⟩; have he := RetB.is_false hR HV.out; subst he; have HB1 := Aside0.mk hb; clear hb hR)
    | fail)
  go_ret2
  exact ⟨⟨w1.heap.size, rfl, Nat.le_trans HBW.out.size HB1.out.size, heap_alloc_new w1 _⟩, HBW.out.trans ((below_alloc HB1.out _).mono HBW.out.size)⟩
theorem enc_yes (hJ : JAt w j A1 c1 A2 c2 A3 c3) (V : JnV j) :
    Calls Tryz.prog 19 #[.agg (jC j A1 c1 A2 c2 A3 c3).toArray] w fun e w' => ∃ A k, e = .returned (.tuple #[.slice A (encW j).length k, .nilIface]) ∧ Kd.R (Kd.int .u8) 5 w' w.heap.size (fun _ => True) (.slice A (encW j).length k) (encW j) ∧ Below w.heap.size w w' := by
  obtain ⟨W, hW⟩ : ∃ W, W = w.alloc (.cells (jC j A1 c1 A2 c2 A3 c3).toArray 60) := ⟨_, rfl⟩
  have hbk : W.heap[w.heap.size]? = some (.cells (jC j A1 c1 A2 c2 A3 c3).toArray 60 (0, 0)) := hW ▸ heap_alloc_new w _
  have hBW : Below w.heap.size w W := hW ▸ below_alloc (Below.refl _ _) _
  have hr := jrow hbk
  have HW := Aside0.mk hW
  have HBW := Aside0.mk hBW
  have HBK := Aside0.mk hbk
  have HJ := Aside0.mk (hJ.below hBW)
  have HV := Aside0.mk V
  have hbl := body_le V hJ.ok
  have hby := Aside0.mk (body_byt V hJ.ok)
  have hsl := sumS_lt (bodyW j)
  have HSL := Aside0.mk hsl
  clear hW hBW hbk hJ V hsl
  go_enter Tryz.func19, Tryz.ntmps19
  go_upto_region 1 with (fail)
  rw [← HW.out]
  go_wp2_with (first
    | (go_at_call 48; refine (isJournal_any j A1 c1 A2 c2 A3 c3 _ HJ.out).mono ?_; rintro e w1 ⟨hR, hb⟩; have he := RetB.is_true hR HV.out; subst he; have hr1 := jrow (blk_below HBK.out hb); have HB1 := Aside0.mk hb; clear hb hR)
    | (go_at_call 49; refine (written_any j A1 c1 A2 c2 A3 c3 _ (HJ.out.below HB1.out) HV.out).mono ?_
       rintro e w2 ⟨A, k, rfl, hR, hb⟩
       have HR2 := Aside0.mk hR
       have HB2 := Aside0.mk (below_step HB1.out hb)
       have HX := Aside0.mk (NxE.start w2)
       clear hR hb)
    | (go_at_call 50; (with_reducible refine (sx_raw HX.out A (bodyW j).length k (bodyW j) (Kd.R_reads' (Kd.R_alloc HR2.out _)).2.2 (by simp; omega)).mono ?_)
       rintro e w3 ⟨rfl, h3⟩
       have HC3 : Aside0 (Kd.C (Kd.int .u8) w3 A (bodyW j).length (bodyW j)) := ⟨(Kd.R_reads' (R_low (Kd.R_alloc HR2.out _) (Kd.R_lt HR2.out) h3.bel)).2.2⟩
       have H3 := Aside0.mk h3
       clear h3)
    | (go_at_call 52; refine (sum_any A k (bodyW j) _ HC3.out hby.out (by omega)).mono ?_; rintro e w4 ⟨rfl, hb⟩; have H4 := Aside0.mk (H3.out.below hb); clear hb)
    | (go_at_call 51; (with_reducible refine (sx_fixed4 H4.out (sumS (bodyW j)) HSL.out (by simp; omega)).mono ?_); rintro e w5 ⟨rfl, h5⟩; have H5 := Aside0.mk h5; clear h5)
    | (go_at_call 53; (with_reducible refine (sx_data H5.out (by simp [fixW_length]; omega)).mono ?_); rintro e w6 ⟨A6, k6, rfl, h4, h5⟩; have H6 := Aside0.mk (⟨h4, h5⟩ : _ ∧ _); clear h4 h5)
    | fail)
  go_ret2
  have hb : Below W.heap.size W w5 := (below_alloc HB2.out (.cells #[.int .i64 0, .int .i64 0, .slice none 0 0] 114)).trans (H5.out.bel.mono HB2.out.size)
  exact ⟨A6, k6, by rw [encW, List.length_append]; rfl, Kd.R_lower H6.out.1 (Nat.le_trans HBW.out.size hb.size), HBW.out.trans ((below_step hb H6.out.2).mono HBW.out.size)⟩
end
end Go.Proofs.YtdekmeanlcpenaaGreatDoor.Codec
