import Derived.Test.YtdekmeanlcpenaaGreatDoorCg15
import Derived.Test.YtdekmeanlcpenaaGreatDoorCg14
set_option linter.unusedSimpArgs false
set_option linter.unusedVariables false
namespace Go.Proofs.YtdekmeanlcpenaaGreatDoor.Block
end Go.Proofs.YtdekmeanlcpenaaGreatDoor.Block
namespace Go.Proofs.YtdekmeanlcpenaaGreatDoor.Codec
end Go.Proofs.YtdekmeanlcpenaaGreatDoor.Codec
namespace Go.Proofs.YtdekmeanlcpenaaGreatDoor.Err
end Go.Proofs.YtdekmeanlcpenaaGreatDoor.Err
namespace Go.Proofs.YtdekmeanlcpenaaGreatDoor.Law
end Go.Proofs.YtdekmeanlcpenaaGreatDoor.Law
namespace Go.Proofs.YtdekmeanlcpenaaGreatDoor.Mid
end Go.Proofs.YtdekmeanlcpenaaGreatDoor.Mid
namespace Go.Proofs.YtdekmeanlcpenaaGreatDoor.PIntakeDecodes
end Go.Proofs.YtdekmeanlcpenaaGreatDoor.PIntakeDecodes
namespace Go.Proofs.YtdekmeanlcpenaaGreatDoor.Pick
end Go.Proofs.YtdekmeanlcpenaaGreatDoor.Pick
namespace Go.Proofs.YtdekmeanlcpenaaGreatDoor.Codec
open Go.RowKit Go.Proofs.YtdekmeanlcpenaaGreatDoorW.PrintWords Go.Proofs.YtdekmeanlcpenaaGreatDoorW.PrintLast Go.Proofs.YtdekmeanlcpenaaGreatDoorW.PrintMore Go.Proofs.YtdekmeanlcpenaaGreatDoor.Mid Go.Proofs.YtdekmeanlcpenaaGreatDoor.Pick Go.Proofs.YtdekmeanlcpenaaGreatDoor.Block Go.Proofs.YtdekmeanlcpenaaGreatDoor.PIntakeDecodes Go.Proofs.YtdekmeanlcpenaaGreatDoor.Law
attribute [local go_sem ↓ high] load33_eq load29_eq load60_eq
attribute [local simp] rowOf_drew rowOf_drewN
attribute [local go_sem high] load33_row load29_row load60_row rowOf_drew rowOf_drewN
set_option maxHeartbeats 40000000
set_option maxRecDepth 100000
set_option linter.unusedVariables false
set_option linter.unusedSimpArgs false
theorem rdec_F (W : World) (A : Option Addr) (c : Nat) (l : List Int) (hC : Kd.C (Kd.int .u8) W A l.length l) (hb : Byt l) (hl : l.length ≤ 140737488351232) (hcp : l.length ≤ c) (hN : ¬ nOf l ≤ 65) :
    Calls Tryz.prog 27 #[.slice A l.length c] W (RetDec W l) := by
  obtain ⟨⟨x1, s1⟩, e1⟩ : ∃ p, (RS.start l).fixed 1 = p := ⟨_, rfl⟩
  obtain ⟨⟨x2, s2⟩, e2⟩ : ∃ p, s1.text l.length = p := ⟨_, rfl⟩
  obtain ⟨⟨x3, s3⟩, e3⟩ : ∃ p, s2.fixed 4 = p := ⟨_, rfl⟩
  obtain ⟨⟨x4, s4⟩, e4⟩ : ∃ p, s3.fixed 4 = p := ⟨_, rfl⟩
  obtain ⟨⟨x5, s5⟩, e5⟩ : ∃ p, s4.text l.length = p := ⟨_, rfl⟩
  obtain ⟨⟨n, s6⟩, e6⟩ : ∃ p, s5.num = p := ⟨_, rfl⟩
  obtain ⟨m, hm⟩ : ∃ m, m = 65 := ⟨_, rfl⟩
  obtain ⟨⟨x7, s7⟩, e7⟩ : ∃ p, needS m s6 = p := ⟨_, rfl⟩
  obtain ⟨⟨x8, s8⟩, e8⟩ : ∃ p, s7.text l.length = p := ⟨_, rfl⟩
  have hN1 : nOf l = n := by rw [nOf, e1]; simp only; rw [e2]; simp only; rw [e3]; simp only; rw [e4]; simp only; rw [e5]; simp only; rw [e6]
  rw [hN1] at hN
  have HG : Aside0 (∀ j, JnV j → JnOk j → encW j = l → GotEnc j x1 x2 x3 x4 x5 n x7 x8 s8 []) := ⟨fun j V K h => got_all V K h e1 e2 e3 e4 e5 e6 (fun hq => by omega) e7 e8⟩
  have hd1 : s1.data = l := by have h := fixed_data (RS.start l) 1; rw [e1] at h; exact h
  have hd2 : s2.data = l := by have h := text_data s1 l.length; rw [e2] at h; exact h.trans hd1
  have hd3 : s3.data = l := by have h := fixed_data s2 4; rw [e3] at h; exact h.trans hd2
  have hd4 : s4.data = l := by have h := fixed_data s3 4; rw [e4] at h; exact h.trans hd3
  have hd5 : s5.data = l := by have h := text_data s4 l.length; rw [e5] at h; exact h.trans hd4
  have hd6 : s6.data = l := by have h := num_data s5; rw [e6] at h; exact h.trans hd5
  have hd7 : s7.data = l := by have h := needS_data m s6; rw [e7] at h; exact h.trans hd6
  have HX2 : Aside0 (Byt x2 ∧ x2.length ≤ 140737488351232) := ⟨by have h := text_byt (s := s1) (by rw [hd1]; exact hb) l.length; rw [e2] at h; exact ⟨h.1, Nat.le_trans h.2 hl⟩⟩
  have HX5 : Aside0 (Byt x5 ∧ x5.length ≤ 140737488351232) := ⟨by have h := text_byt (s := s4) (by rw [hd4]; exact hb) l.length; rw [e5] at h; exact ⟨h.1, Nat.le_trans h.2 hl⟩⟩
  have HX8 : Aside0 (Byt x8 ∧ x8.length ≤ 140737488351232) := ⟨by have h := text_byt (s := s7) (by rw [hd7]; exact hb) l.length; rw [e8] at h; exact ⟨h.1, Nat.le_trans h.2 hl⟩⟩
  have HX7 : Aside0 ((∀ x ∈ x7, IdOk x) ∧ x7.length = m) := ⟨needS_ok m s6 x7 s7 e7 (by rw [hd6]; exact hb), by have h := needS_len m s6; rw [e7] at h; exact h⟩
  have E1 := Aside0.mk e1
  have E2 := Aside0.mk e2
  have E3 := Aside0.mk e3
  have E4 := Aside0.mk e4
  have E5 := Aside0.mk e5
  have E6 := Aside0.mk e6
  have E7 := Aside0.mk e7
  have E8 := Aside0.mk e8
  have HM : Aside0 (m ≤ 65 ∧ (m < 65 → m = n) ∧ m ≤ n) := ⟨by omega, by omega, by omega⟩
  have hmn : (65 : Int) < (n : Int) := by omega
  subst hm
  have HC := Aside0.mk hC
  have HBy := Aside0.mk hb
  have HCp := Aside0.mk hcp
  clear hC hb hcp e1 e2 e3 e4 e5 e6 e7 e8 hd1 hd2 hd3 hd4 hd5 hd6 hd7 hN1 hN
  have hb60 : ∀ u : World, (Instr.build 60 #[]).run Tryz.prog u = .ok (.agg #[.string ⟨#[]⟩, .int .i64 0, .int .i64 0, .slice none 0 0, .slice none 0 0, .slice none 0 0]) u := fun u => by kernel_rfl
  have hb132 : ∀ (u : World) (A : Option Addr) (p q : Nat), (Instr.build 132 #[(0, .slice A p q)]).run Tryz.prog u = .ok (.agg #[.slice A p q, .int .i64 0, .int .i64 0, .int .i64 0]) u := fun u A p q => by kernel_rfl
  go_enter Tryz.func27, Tryz.ntmps27
  go_upto_region 1 with (fail)
  obtain ⟨q2, hq2⟩ : ∃ q2, W.heap.size = q2 := ⟨_, rfl⟩
  obtain ⟨W1, hW1⟩ : ∃ W1, W.alloc (.cells (jV .empty 0 0 nilS nilS nilS).toArray 60) = W1 := ⟨_, rfl⟩
  have HO1 : Aside0 (W1.heap[q2]? = some (.cells (jV .empty 0 0 nilS nilS nilS).toArray 60 (0, 0)) ∧ Below W.heap.size W W1 ∧ W.heap.size ≤ q2 ∧ q2 < W1.heap.size) := ⟨by rw [← hW1, ← hq2]; exact ⟨heap_alloc_new W _, below_alloc (Below.refl _ _) _, Nat.le_refl _, by simp⟩⟩
  unfold jV nilS at hW1
  have hW1' : W.alloc (.cells #[.string ⟨#[]⟩, .int .i64 0, .int .i64 0, .slice none 0 0, .slice none 0 0, .slice none 0 0] 60) = W1 := hW1
  rw [hW1', hq2]
  clear hW1 hW1' hq2
  go_upto_region 3 with (fail)
  obtain ⟨g, hg⟩ : ∃ g, W1.heap.size = g := ⟨_, rfl⟩
  obtain ⟨q5, hq5⟩ : ∃ q5, g + 1 = q5 := ⟨_, rfl⟩
  obtain ⟨w2, hw2⟩ : ∃ w2, (W1.alloc (.cells #[.slice A l.length c, .int .i64 0, .int .i64 0, .int .i64 0] 132)).alloc (.cells #[.string ⟨#[]⟩, .int .i64 0, .int .i64 0, .slice none 0 0, .slice none 0 0, .slice none 0 0] 60) = w2 := ⟨_, rfl⟩
  have J0 : Aside0 (DS W g q2 q5 w2 (RS.start l) (jV .empty 0 0 nilS nilS nilS)) := by
    have hI := IsS132.new W W1 A c l 0 0 0 HO1.out.2.1 ⟨HC.out, HCp.out⟩
    have hb1 : Below W1.heap.size W1 w2 := by rw [← hw2]; exact below_alloc (below_alloc (Below.refl _ _) _) _
    have hb2 : Below W.heap.size W w2 := HO1.out.2.1.trans (hb1.mono HO1.out.2.1.size)
    have hsz : (W1.alloc (.cells #[.slice A l.length c, .int .i64 0, .int .i64 0, .int .i64 0] 132)).heap.size = q5 := by rw [← hq5, ← hg]; simp
    have hblk : w2.heap[q5]? = some (.cells (jV .empty 0 0 nilS nilS nilS).toArray 60 (0, 0)) := by rw [← hw2, ← hsz]; exact heap_alloc_new _ _
    have hI2 : IsS132 W w2 g l 0 0 0 := by rw [← hw2, ← hg]; exact hI.alloc _
    exact ⟨⟨⟨hI2, hb2, HBy.out, hl, Nat.zero_le _⟩, blk_below HO1.out.1 hb1, hblk, HO1.out.2.2.1, by have := HO1.out.2.2.2; omega, by omega⟩⟩
  rw [hw2, hg, hq5]
  clear hw2 hg hq5 HO1
  go_upto_region 4 with (first
    | (go_at_call 66; refine (tk_fixed W w2 g _ J0.out.rd 1 (by decide) (by decide)).mono ?_
       rw [E1.out]
       rintro e w3 ⟨rfl, h1, h2⟩
       have J1 := Aside0.mk (J0.out.step h1 h2)
       clear h1 h2)
    | go_in)
  go_upto_region 5 with (first
    | (go_at_call 67; refine (tk_text W w3 g s1 J1.out.rd l.length hl).mono ?_
       rw [E2.out]
       rintro e w4 ⟨A3, c3, rfl, r3, h1, h2⟩
       have J2 := Aside0.mk (J1.out.step h1 h2)
       have hcv := Kd.C_string (P := Tryz.prog) (src := 47) (dst := 9) (e := 5) (c := c3) Tryz.underlying47 Tryz.underlying5 und9 (Kd.R_reads' r3).2.2
       have k0 : w4.cell? ⟨q5, 0, none⟩ = some (.string .empty) := (blk_cell J2.out.blk _).trans rfl
       have f0 : w4.frozen? ⟨q5, 0, none⟩ = false := blk_frozen J2.out.blk _
       clear h1 h2)
    | go_in)
  have J3 : Aside0 (DS W g q2 q5 (w4.setCell ⟨q5, 0, none⟩ (.string (strOfNums x2))) s2 (jV (strOfNums x2) 0 0 nilS nilS nilS)) := ⟨J2.out.put (blk_set J2.out.blk 0 _) (grown_set w4 ⟨q5, 0, none⟩ _)⟩
  generalize w4.setCell ⟨q5, 0, none⟩ (.string (strOfNums x2)) = w5 at J3 ⊢
  clear k0 f0 hcv r3 J0 J1 J2
  go_upto_region 6 with (first
    | (go_at_call 66; refine (tk_fixed W w5 g s2 J3.out.rd 4 (by decide) (by decide)).mono ?_
       rw [E3.out]
       rintro e w6 ⟨rfl, h1, h2⟩
       have J4 := Aside0.mk (J3.out.step h1 h2)
       have k1 : w6.cell? ⟨q5, 1, none⟩ = some (.int .i64 0) := (blk_cell J4.out.blk _).trans rfl
       have f1 : w6.frozen? ⟨q5, 1, none⟩ = false := blk_frozen J4.out.blk _
       clear h1 h2)
    | go_in)
  have J5 : Aside0 (DS W g q2 q5 (w6.setCell ⟨q5, 1, none⟩ (.int .i64 x3)) s3 (jV (strOfNums x2) x3 0 nilS nilS nilS)) := ⟨J4.out.put (blk_set J4.out.blk 1 _) (grown_set w6 ⟨q5, 1, none⟩ _)⟩
  generalize w6.setCell ⟨q5, 1, none⟩ (.int .i64 x3) = w7 at J5 ⊢
  clear k1 f1 J3 J4
  go_upto_region 7 with (first
    | (go_at_call 66; refine (tk_fixed W w7 g s3 J5.out.rd 4 (by decide) (by decide)).mono ?_
       rw [E4.out]
       rintro e w8 ⟨rfl, h1, h2⟩
       have J6 := Aside0.mk (J5.out.step h1 h2)
       have k2 : w8.cell? ⟨q5, 2, none⟩ = some (.int .i64 0) := (blk_cell J6.out.blk _).trans rfl
       have f2 : w8.frozen? ⟨q5, 2, none⟩ = false := blk_frozen J6.out.blk _
       clear h1 h2)
    | go_in)
  have J7 : Aside0 (DS W g q2 q5 (w8.setCell ⟨q5, 2, none⟩ (.int .i64 x4)) s4 (jV (strOfNums x2) x3 x4 nilS nilS nilS)) := ⟨J6.out.put (blk_set J6.out.blk 2 _) (grown_set w8 ⟨q5, 2, none⟩ _)⟩
  generalize w8.setCell ⟨q5, 2, none⟩ (.int .i64 x4) = w9 at J7 ⊢
  clear k2 f2 J5 J6
  go_upto_region 8 with (first
    | (go_at_call 67; refine (tk_text W w9 g s4 J7.out.rd l.length hl).mono ?_
       rw [E5.out]
       rintro e wa ⟨A5, c5, rfl, r5, h1, h2⟩
       have J8 := Aside0.mk (J7.out.step h1 h2)
       have R5 := Aside0.mk r5
       clear r5 h1 h2)
    | (go_at_call 68; refine (p8_all wa A5 c5 x5 (Kd.R_reads' R5.out).2.2 HX5.out.1 HX5.out.2).mono ?_
       rintro e wb ⟨rs5, A6, c6, ec5, rfl, r6, hb6, ok6, hl6, hw6⟩
       have J9 := Aside0.mk (J8.out.below hb6)
       have OK6 := Aside0.mk (And.intro ok6 (And.intro hl6 hw6))
       have R6 := Aside0.mk (And.intro r6 J8.out.lt5)
       clear hb6 ok6 r6 hl6 hw6)
    | go_in)
  go_upto_region 9 with (first
    | (go_at_call 69; refine (tk_num W wb g s5 J9.out.rd).mono ?_
       rw [E6.out]
       rintro e wc ⟨rfl, h1, h2⟩
       have J10 := Aside0.mk (J9.out.step h1 h2)
       have R7 := Aside0.mk (R_kb rfl R6.out.1 h2 (fun e => by have h3 := Kd.R_base R6.out.1 _ e.symm; have h4 := R6.out.2; have h5 := J9.out.lt; omega))
       clear h1 h2)
    | go_in)
  obtain ⟨v6, hv6⟩ : ∃ v6 : Value, .slice A6 rs5.length c6 = v6 := ⟨_, rfl⟩
  have HV6 := Aside0.mk hv6
  have HR6 : Aside0 (Kd.R resK 33 wc (q5 + 1) (fun _ => True) v6 rs5 ∧ (∀ k, v6.ownBlock = some k → k < wc.heap.size)) := ⟨by rw [← hv6]; exact ⟨Kd.R_lower R7.out R6.out.2, Kd.R_lt R7.out⟩⟩
  rw [hv6]
  clear hv6 R5 R6 R7 J7 J8 J9
  obtain ⟨b7, hb7⟩ : ∃ b7, wc.heap.size = b7 := ⟨_, rfl⟩
  rw [hb7] at HR6
  have HQ7 : Aside0 (q5 < b7) := ⟨by rw [← hb7]; exact J10.out.lt5⟩
  go_upto_region 10 with (fail)
  have L0 : Aside0 (LB W g q2 q5 b7 wc s6 (jV (strOfNums x2) x3 x4 nilS nilS nilS) nilS [] v6 rs5) := ⟨⟨J10.out, Kd.R_nil _ _ _ _ _, HR6.out.1, by omega, HQ7.out⟩⟩
  clear hb7 J10
  go_loopg [10] 65 (fun k v10 w' => ∃ (i : Nat) (v4 : Value), v10 = .int .i64 i ∧ i + k = 65 ∧ Aside0 (LB W g q2 q5 b7 w' (needS i s6).2 (jV (strOfNums x2) x3 x4 nilS v4 nilS) v4 (needS i s6).1 v6 rs5))
  case atStart => exact ⟨0, nilS, rfl, by omega, L0⟩
  case round =>
    clear L0
    obtain ⟨i, v4, rfl, hik, LL⟩ := hrel
    cases gk with
    | zero =>
      obtain rfl : i = 65 := by omega
      rw [E7.out] at LL
      simp only at LL
      clear hik
      go_upto_region 20 with (first
        | (go_at_call 67; refine (tk_text W wr g s7 LL.out.d.rd l.length hl).mono ?_
           rw [E8.out]
           rintro e wd ⟨A8, c8, rfl, r8, h1, h2⟩
           have M1 := Aside0.mk (LL.out.step h1 h2)
           have R8 := Aside0.mk r8
           clear r8 h1 h2)
        | (go_at_call 68; refine (p8_all wd A8 c8 x8 (Kd.R_reads' R8.out).2.2 HX8.out.1 HX8.out.2).mono ?_
           rintro e we ⟨rs8, A9, c9, ec8, rfl, r9, hb9, ok9, hl9, hw9⟩
           have M2 := Aside0.mk (M1.out.below hb9)
           have OK9 := Aside0.mk (And.intro ok9 (And.intro hl9 hw9))
           have R9 := Aside0.mk (And.intro r9 M1.out.d.lt5)
           clear hb9 ok9 r9 hl9 hw9)
        | go_in)
      have DM := Aside0.mk M2.out.d
      have g2 : we.cell? ⟨g, 2, none⟩ = some (.int .i64 s8.code) := by
        obtain ⟨A0, c0, h1, -⟩ := DM.out.rd.is
        exact (blk_cell h1 _).trans rfl
      have HU : Aside0 (∀ j', JnV j' → JnOk j' → encW j' = l → ec5 = 0 ∧ ec8 = 0 ∧ j' = ⟨strOfNums x2, x3, x4, rs5, x7, rs8⟩) := ⟨fun j' V K h => got_is8 V K (HG.out j' V K h) HX2.out.1 OK6.out.2.2 OK9.out.2.2⟩
      clear LL M1 R8
      by_cases h74 : x1 = 74
      case neg =>
        have H74 := Aside0.mk h74
        have b74 : (x1 != 74) = true := by simp [bne_iff_ne]; exact h74
        clear h74
        go_wp2_with (first
          | (refine wpList_store_blk rfl rfl 60 _ _ rfl DM.out.out (jV .empty 0 0 nilS nilS nilS) rfl rfl rfl info60 (jV_one rfl rfl rfl) ?_
             intro wz z1 z2 z3
             have HZ : Aside0 (Below W.heap.size W wz ∧ wz.heap[q2]? = some (.cells (jV .empty 0 0 nilS nilS nilS).toArray 60 (0, 0))) := ⟨DM.out.rd.bel.grown z2 DM.out.rd.bel.size (fun k hk => by cases hk; exact DM.out.old), z1⟩
             clear z1 z2 z3)
          | go_in)
        refine bodyPost_ret (results_ct60 (by rfl) rfl _ _ q2 rfl HZ.out.2) rfl ?_
        exact ret_dec_no (fun j' V K h => H74.out (HG.out j' V K h).first) HZ.out.1
      case pos =>
        have b74 : (x1 != 74) = false := by simp [h74]
        by_cases hsc : s8.code = 0
        case neg =>
          have HSC := Aside0.mk hsc
          have bsc : ((s8.code : Int) != 0) = true := by simp [bne_iff_ne]; omega
          clear hsc h74
          go_wp2_with (first
            | (refine wpList_store_blk rfl rfl 60 _ _ rfl DM.out.out (jV .empty 0 0 nilS nilS nilS) rfl rfl rfl info60 (jV_one rfl rfl rfl) ?_
               intro wz z1 z2 z3
               have HZ : Aside0 (Below W.heap.size W wz ∧ wz.heap[q2]? = some (.cells (jV .empty 0 0 nilS nilS nilS).toArray 60 (0, 0))) := ⟨DM.out.rd.bel.grown z2 DM.out.rd.bel.size (fun k hk => by cases hk; exact DM.out.old), z1⟩
               clear z1 z2 z3)
            | go_in)
          refine bodyPost_ret (results_ct60 (by rfl) rfl _ _ q2 rfl HZ.out.2) rfl ?_
          exact ret_dec_no (fun j' V K h => HSC.out (HG.out j' V K h).stop.code) HZ.out.1
        case pos =>
          have bsc : ((s8.code : Int) != 0) = false := by simp; omega
          by_cases h5 : ec5 = 0
          case neg =>
            have H5 := Aside0.mk h5
            have b5 : (ec5 != 0) = true := by simp [bne_iff_ne]; exact h5
            clear h5 hsc h74
            go_wp2_with (first
              | (refine wpList_store_blk rfl rfl 60 _ _ rfl DM.out.out (jV .empty 0 0 nilS nilS nilS) rfl rfl rfl info60 (jV_one rfl rfl rfl) ?_
                 intro wz z1 z2 z3
                 have HZ : Aside0 (Below W.heap.size W wz ∧ wz.heap[q2]? = some (.cells (jV .empty 0 0 nilS nilS nilS).toArray 60 (0, 0))) := ⟨DM.out.rd.bel.grown z2 DM.out.rd.bel.size (fun k hk => by cases hk; exact DM.out.old), z1⟩
                 clear z1 z2 z3)
              | go_in)
            refine bodyPost_ret (results_ct60 (by rfl) rfl _ _ q2 rfl HZ.out.2) rfl ?_
            exact ret_dec_no (fun j' V K h => H5.out (HU.out j' V K h).1) HZ.out.1
          case pos =>
            have b5 : (ec5 != 0) = false := by simp [h5]
            by_cases h8 : ec8 = 0
            case neg =>
              have H8 := Aside0.mk h8
              have b8 : (ec8 != 0) = true := by simp [bne_iff_ne]; exact h8
              clear h8 h5 hsc h74
              go_wp2_with (first
                | (refine wpList_store_blk rfl rfl 60 _ _ rfl DM.out.out (jV .empty 0 0 nilS nilS nilS) rfl rfl rfl info60 (jV_one rfl rfl rfl) ?_
                   intro wz z1 z2 z3
                   have HZ : Aside0 (Below W.heap.size W wz ∧ wz.heap[q2]? = some (.cells (jV .empty 0 0 nilS nilS nilS).toArray 60 (0, 0))) := ⟨DM.out.rd.bel.grown z2 DM.out.rd.bel.size (fun k hk => by cases hk; exact DM.out.old), z1⟩
                   clear z1 z2 z3)
                | go_in)
              refine bodyPost_ret (results_ct60 (by rfl) rfl _ _ q2 rfl HZ.out.2) rfl ?_
              exact ret_dec_no (fun j' V K h => H8.out (HU.out j' V K h).2.1) HZ.out.1
            case pos =>
              have b8 : (ec8 != 0) = false := by simp [h8]
              clear h8 h5 hsc h74
              go_upto_region 22 with (fail)
              obtain ⟨A4, c4, rfl⟩ := Kd.R_slice M2.out.r4
              have RV : Aside0 (Kd.R resK 33 we (q5 + 1) (fun _ => True) (.slice A6 rs5.length c6) rs5) := ⟨by rw [HV6.out]; exact M2.out.r6⟩
              have ne6 : ∀ u, (Value.slice A6 rs5.length c6).ownBlock = some u → q5 + 1 ≤ u := fun u e => Kd.R_base RV.out u e
              have ne4 : ∀ u, (Value.slice A4 x7.length c4).ownBlock = some u → b7 ≤ u := fun u e => Kd.R_base M2.out.r4 u e
              have ne8 : ∀ u, (Value.slice A9 rs8.length c9).ownBlock = some u → wd.heap.size ≤ u := fun u e => Kd.R_base R9.out.1 u e
              have h10 := R9.out.2
              have H6 := HV6.out
              rw [← H6]
              have k3 : we.cell? ⟨q5, 3, none⟩ = some (.slice none 0 0) := (blk_cell DM.out.blk _).trans rfl
              have k5 : we.cell? ⟨q5, 5, none⟩ = some (.slice none 0 0) := (blk_cell DM.out.blk _).trans rfl
              have f3 : we.frozen? ⟨q5, 3, none⟩ = false := blk_frozen DM.out.blk _
              have f5 : we.frozen? ⟨q5, 5, none⟩ = false := blk_frozen DM.out.blk _
              have hb3 : (we.setCell ⟨q5, 3, none⟩ (.slice A6 rs5.length c6)).heap[q5]? = some (Obj.cells (jV (strOfNums x2) x3 x4 (.slice A6 rs5.length c6) (.slice A4 x7.length c4) nilS).toArray 60 (0, 0)) := blk_set DM.out.blk 3 (.slice A6 rs5.length c6)
              have JT : Aside0 (DS W g q2 q5 ((we.setCell ⟨q5, 3, none⟩ (.slice A6 rs5.length c6)).setCell ⟨q5, 5, none⟩ (.slice A9 rs8.length c9)) s8 (jC ⟨strOfNums x2, x3, x4, rs5, x7, rs8⟩ A6 c6 A4 c4 A9 c9)) :=
                ⟨(DM.out.put (ds := jV (strOfNums x2) x3 x4 (.slice A6 rs5.length c6) (.slice A4 x7.length c4) nilS) hb3 (grown_set we ⟨q5, 3, none⟩ _)).put (blk_set hb3 5 (.slice A9 rs8.length c9)) (grown_set _ ⟨q5, 5, none⟩ _)⟩
              have RT : Aside0 (Kd.R resK 33 ((we.setCell ⟨q5, 3, none⟩ (.slice A6 rs5.length c6)).setCell ⟨q5, 5, none⟩ (.slice A9 rs8.length c9)) (q5 + 1) (fun _ => True) (.slice A6 rs5.length c6) rs5 ∧ Kd.R idK 29 ((we.setCell ⟨q5, 3, none⟩ (.slice A6 rs5.length c6)).setCell ⟨q5, 5, none⟩ (.slice A9 rs8.length c9)) (q5 + 1) (fun _ => True) (.slice A4 x7.length c4) x7 ∧ Kd.R resK 33 ((we.setCell ⟨q5, 3, none⟩ (.slice A6 rs5.length c6)).setCell ⟨q5, 5, none⟩ (.slice A9 rs8.length c9)) (q5 + 1) (fun _ => True) (.slice A9 rs8.length c9) rs8) :=
                ⟨Kd.R_grown1 (Kd.R_grown1 RV.out rfl (grown_set we ⟨q5, 3, none⟩ _) (fun e => by have h1 := ne6 q5 e.symm; omega)) rfl (grown_set _ ⟨q5, 5, none⟩ _) (fun e => by have h1 := ne6 q5 e.symm; omega),
                 Kd.R_lower (Kd.R_grown1 (Kd.R_grown1 M2.out.r4 rfl (grown_set we ⟨q5, 3, none⟩ _) (fun e => by have h1 := ne4 q5 e.symm; have h3 := HQ7.out; omega)) rfl (grown_set _ ⟨q5, 5, none⟩ _) (fun e => by have h1 := ne4 q5 e.symm; have h3 := HQ7.out; omega)) HQ7.out,
                 Kd.R_lower (Kd.R_grown1 (Kd.R_grown1 R9.out.1 rfl (grown_set we ⟨q5, 3, none⟩ _) (fun e => by have h1 := ne8 q5 e.symm; omega)) rfl (grown_set _ ⟨q5, 5, none⟩ _) (fun e => by have h1 := ne8 q5 e.symm; omega)) h10⟩
              have HK : Aside0 (JnOk ⟨strOfNums x2, x3, x4, rs5, x7, rs8⟩) := ⟨OK6.out.1, HX7.out.1, OK9.out.1⟩
              have HLN : Aside0 (rs5.length ≤ 140737488355328 ∧ x7.length ≤ 140737488355328 ∧ rs8.length ≤ 140737488355328) := ⟨by have := OK6.out.2.1; omega, by rw [HX7.out.2]; have := HM.out.1; omega, by have := OK9.out.2.1; omega⟩
              clear hb3 ne6 ne4 ne8 RV M2 h10 H6 R9
              go_upto_region 24 with (fail)
              obtain ⟨wh, hwh⟩ : ∃ wh, (we.setCell ⟨q5, 3, none⟩ (.slice A6 rs5.length c6)).setCell ⟨q5, 5, none⟩ (.slice A9 rs8.length c9) = wh := ⟨_, rfl⟩
              rw [hwh] at JT RT ⊢
              obtain ⟨j, hj⟩ : ∃ j : Jn, (⟨strOfNums x2, x3, x4, rs5, x7, rs8⟩ : Jn) = j := ⟨_, rfl⟩
              have ej : j.res = rs5 ∧ j.need = x7 ∧ j.tab = rs8 := by rw [← hj]; exact ⟨rfl, rfl, rfl⟩
              rw [hj] at JT HK
              rw [← ej.1, ← ej.2.1, ← ej.2.2] at RT HLN
              have HU2 : Aside0 (∀ j', JnV j' → JnOk j' → encW j' = l → j' = j) := ⟨fun j' V K h => (HU.out j' V K h).2.2.trans hj⟩
              have HJA : Aside0 (JAt wh j A6 c6 A4 c4 A9 c9) := ⟨⟨HK.out, (Kd.R_reads' RT.out.1).2.2, (Kd.R_reads' RT.out.1).2.1, (Kd.R_reads' RT.out.2.1).2.2, (Kd.R_reads' RT.out.2.1).2.1, (Kd.R_reads' RT.out.2.2).2.2, (Kd.R_reads' RT.out.2.2).2.1⟩⟩
              have hld : rowOf wh ⟨q5, 0, none⟩ 6 = some (jC j A6 c6 A4 c4 A9 c9) := jrow JT.out.blk
              obtain ⟨cf, hcf⟩ : ∃ cf, codeF j = cf := ⟨_, rfl⟩
              obtain ⟨bf, hbf⟩ : ∃ bf, decide (encF j = l) = bf := ⟨_, rfl⟩
              have HCF := Aside0.mk (And.intro hcf hbf)
              clear hwh ej k3 k5 f3 f5 DM HU g2 hcf hbf
              go_upto_region 26 with (first
                | (go_at_call 20; refine (rencode_any j A6 c6 A4 c4 A9 c9 wh HJA.out HLN.out.1 HLN.out.2.1 HLN.out.2.2).mono ?_; rw [HCF.out.1]; rintro e wi ⟨Ae, ke, rfl, re, hbi⟩
                   have JT2 := Aside0.mk (JT.out.below hbi)
                   have RT2 := Aside0.mk (⟨Kd.R_below RT.out.1 hbi, Kd.R_below RT.out.2.1 hbi, Kd.R_below RT.out.2.2 hbi⟩ : _ ∧ _ ∧ _)
                   have RE := Aside0.mk re
                   clear re hbi)
                | (go_at_call 71; refine (like_any Ae ke (encF j) A c l wi (Kd.R_reads' RE.out).2.2 (Kd.R_reads' RE.out).2.1 (Kd.C_below HC.out JT2.out.rd.bel) HCp.out (by have := encF_le HK.out; omega)).mono ?_; rw [HCF.out.2]; rintro e wj ⟨rfl, hbj⟩
                   have JT3 := Aside0.mk (JT2.out.below hbj)
                   have RT3 := Aside0.mk (⟨Kd.R_below RT2.out.1 hbj, Kd.R_below RT2.out.2.1 hbj, Kd.R_below RT2.out.2.2 hbj⟩ : _ ∧ _ ∧ _)
                   have hld3 : rowOf wj ⟨q5, 0, none⟩ 6 = some (jC j A6 c6 A4 c4 A9 c9) := jrow JT3.out.blk
                   clear hbj)
                | go_in)
              by_cases hcz : cf = 0
              case neg =>
                have HCZ : Aside0 (¬ JnV j) := ⟨fun V => hcz (by rw [← HCF.out.1, codeF_yes V])⟩
                have bcf : (cf != 0) = true := by simp [bne_iff_ne]; exact hcz
                clear hcz
                go_wp2_with (first
                  | (refine wpList_store_blk rfl rfl 60 _ _ rfl JT3.out.out (jV .empty 0 0 nilS nilS nilS) rfl rfl rfl info60 (jV_one rfl rfl rfl) ?_
                     intro wz z1 z2 z3
                     have HZ : Aside0 (Below W.heap.size W wz ∧ wz.heap[q2]? = some (.cells (jV .empty 0 0 nilS nilS nilS).toArray 60 (0, 0))) := ⟨JT3.out.rd.bel.grown z2 JT3.out.rd.bel.size (fun k hk => by cases hk; exact JT3.out.old), z1⟩
                     clear z1 z2 z3)
                  | go_in)
                refine bodyPost_ret (results_ct60 (by rfl) rfl _ _ q2 rfl HZ.out.2) rfl ?_
                exact ret_dec_no (fun j' V K h => HCZ.out (by rw [← HU2.out j' V K h]; exact V)) HZ.out.1
              case pos =>
                have HV : Aside0 (JnV j) := ⟨Classical.byContradiction fun V => by have h := HCF.out.1; rw [codeF_no V, hcz] at h; exact absurd h (by decide)⟩
                have bcf : (cf != 0) = false := by simp [hcz]
                have hbe := HCF.out.2
                rw [encF_yes HV.out] at hbe
                clear hcz
                cases bf with
                | false =>
                  have HBE : Aside0 (encW j ≠ l) := ⟨of_decide_eq_false hbe⟩
                  clear hbe
                  go_wp2_with (first
                    | (refine wpList_store_blk rfl rfl 60 _ _ rfl JT3.out.out (jV .empty 0 0 nilS nilS nilS) rfl rfl rfl info60 (jV_one rfl rfl rfl) ?_
                       intro wz z1 z2 z3
                       have HZ : Aside0 (Below W.heap.size W wz ∧ wz.heap[q2]? = some (.cells (jV .empty 0 0 nilS nilS nilS).toArray 60 (0, 0))) := ⟨JT3.out.rd.bel.grown z2 JT3.out.rd.bel.size (fun k hk => by cases hk; exact JT3.out.old), z1⟩
                       clear z1 z2 z3)
                    | go_in)
                  refine bodyPost_ret (results_ct60 (by rfl) rfl _ _ q2 rfl HZ.out.2) rfl ?_
                  exact ret_dec_no (fun j' V K h => HBE.out (by rw [← HU2.out j' V K h]; exact h)) HZ.out.1
                | true =>
                  have HBE : Aside0 (encW j = l) := ⟨of_decide_eq_true hbe⟩
                  clear hbe
                  go_wp2_with (first
                    | (refine wpList_store_blk rfl rfl 60 _ _ rfl JT3.out.out (jC j A6 c6 A4 c4 A9 c9) rfl rfl rfl info60 jC_one ?_
                       intro wz z1 z2 z3
                       have HZ : Aside0 (Below W.heap.size W wz ∧ wz.heap[q2]? = some (.cells (jC j A6 c6 A4 c4 A9 c9).toArray 60 (0, 0))) := ⟨JT3.out.rd.bel.grown z2 JT3.out.rd.bel.size (fun k hk => by cases hk; exact JT3.out.old), z1⟩
                       have ZZ := Aside0.mk z2
                       clear z1 z2 z3)
                    | go_in)
                  refine bodyPost_ret (results_ct60 (by rfl) rfl _ _ q2 rfl HZ.out.2) rfl ?_
                  have ho := JT3.out.old
                  have hl2 := JT3.out.lt2
                  have hl3 := JT3.out.lt
                  refine ⟨j, 0, A6, c6, A4, c4, A9, c9, rfl, .inl ⟨HV.out, HBE.out, rfl⟩, HK.out, ?_, ?_, ?_, HZ.out.1⟩
                  · exact Kd.R_lower (Kd.R_grown1 RT3.out.1 rfl ZZ.out (fun e => by have h1 : q5 + 1 ≤ q2 := Kd.R_base RT3.out.1 _ e.symm; omega)) (by omega)
                  · exact Kd.R_lower (Kd.R_grown1 RT3.out.2.1 rfl ZZ.out (fun e => by have h1 : q5 + 1 ≤ q2 := Kd.R_base RT3.out.2.1 _ e.symm; omega)) (by omega)
                  · exact Kd.R_lower (Kd.R_grown1 RT3.out.2.2 rfl ZZ.out (fun e => by have h1 : q5 + 1 ≤ q2 := Kd.R_base RT3.out.2.2 _ e.symm; omega)) (by omega)
    | succ q =>
      have hi : i < n := by omega
      have hi1 : (i : Int) < (n : Int) := by omega
      have hi64 : (i : Int) ≤ 64 := by omega
      go_upto_region 13 with (fail)
      obtain ⟨q9, hq9⟩ : ∃ q9, wr.heap.size = q9 := ⟨_, rfl⟩
      obtain ⟨wa, hwa⟩ : ∃ wa, wr.alloc (.cells #[.int .u8 0, .int .u8 0, .int .u8 0, .int .u8 0, .int .u8 0, .int .u8 0, .int .u8 0, .int .u8 0, .int .u8 0, .int .u8 0, .int .u8 0, .int .u8 0, .int .u8 0, .int .u8 0, .int .u8 0, .int .u8 0, .int .u8 0, .int .u8 0, .int .u8 0, .int .u8 0, .int .u8 0, .int .u8 0, .int .u8 0, .int .u8 0, .int .u8 0, .int .u8 0, .int .u8 0, .int .u8 0, .int .u8 0, .int .u8 0, .int .u8 0, .int .u8 0] 29) = wa := ⟨_, rfl⟩
      obtain ⟨y, hy⟩ : ∃ y, (needS i s6).2 = y := ⟨_, rfl⟩
      obtain ⟨⟨x, y1⟩, ex⟩ : ∃ p, y.raw 32 = p := ⟨_, rfl⟩
      have K9 : Aside0 (wa.heap[q9]? = some (.cells (u8s (x.take 0 ++ List.replicate (32 - 0) 0)).toArray 29 (0, 0)) ∧ q9 < wa.heap.size) := ⟨by rw [← hwa, ← hq9]; exact ⟨heap_alloc_new wr _, by simp⟩⟩
      have N9 : Aside0 (b7 ≤ q9 ∧ some q9 ≠ v4.ownBlock ∧ some q9 ≠ v6.ownBlock) := ⟨by rw [← hq9]; exact ⟨LL.out.sz, fun e => absurd (Kd.R_lt LL.out.r4 _ e.symm) (Nat.lt_irrefl _), fun e => absurd (Kd.R_lt LL.out.r6 _ e.symm) (Nat.lt_irrefl _)⟩⟩
      have L9 : Aside0 (LB W g q2 q5 b7 wa y (jV (strOfNums x2) x3 x4 nilS v4 nilS) v4 (needS i s6).1 v6 rs5) := ⟨by rw [← hwa, ← hy]; exact LL.out.below (below_alloc (Below.refl _ _) _)⟩
      rw [hwa, hq9]
      have EX := Aside0.mk ex
      have hyb : Byt y.data := L9.out.d.rd.byt
      have XB : Aside0 (x.length ≤ 32 ∧ Byt x) := ⟨by have h := raw_byt hyb 32; rw [ex] at h; exact ⟨h.2, h.1⟩⟩
      have HN : Aside0 (needS (i + 1) s6 = ((needS i s6).1 ++ [pad32 x], y1)) := ⟨by rw [needS_snoc, hy, ex]⟩
      have HL : Aside0 ((needS i s6).1.length = i) := ⟨needS_len i s6⟩
      have hx32 := XB.out.1
      clear hwa hq9 LL hy ex hyb
      go_upto_region 15 with (first
        | (go_at_call 70; refine (tk_raw W wa g y L9.out.d.rd 32 (by decide)).mono ?_
           rw [EX.out]
           rintro e wb ⟨Ac, cc, rfl, rc, h1, h2⟩
           have LA := Aside0.mk (L9.out.step h1 h2)
           have KA : Aside0 (wb.heap[q9]? = some (.cells (u8s (x.take 0 ++ List.replicate (32 - 0) 0)).toArray 29 (0, 0))) := ⟨(h2.2 q9 K9.out.2 (by have := L9.out.d.lt; have := L9.out.q5; have := N9.out.1; omega) (by simp)).trans K9.out.1⟩
           have RC := Aside0.mk rc
           clear rc h1 h2)
        | go_in)
      have HQ9 : Aside0 (q9 < wa.heap.size) := ⟨K9.out.2⟩
      clear L9 K9
      obtain ⟨wo, rfl⟩ : ∃ wo : World, wo = wr := ⟨_, rfl⟩
      go_loopg [13] x.length (fun k v13 w' => ∃ (j : Nat), v13 = .int .i64 j ∧ j + k = x.length ∧ Aside0 (LB W g q2 q5 b7 w' y1 (jV (strOfNums x2) x3 x4 nilS v4 nilS) v4 (needS i s6).1 v6 rs5) ∧ Aside0 (w'.heap[q9]? = some (.cells (u8s (x.take j ++ List.replicate (32 - j) 0)).toArray 29 (0, 0))) ∧ Aside0 (Kd.R (Kd.int .u8) 5 w' wa.heap.size (fun _ => True) (.slice Ac x.length cc) x))
      case atStart => exact ⟨0, rfl, by omega, LA, KA, RC⟩
      case round =>
        clear LA KA RC
        obtain ⟨j, rfl, hjk, LA, KA, RC⟩ := hrel
        cases gk with
        | zero =>
          have hj : j = x.length := by omega
          have hdx : decide (j < x.length) = false := by simp; omega
          have hpo := pad32_ok XB.out.1 XB.out.2
          have KP : Aside0 (wr.heap[q9]? = some (.cells (u8s (pad32 x)).toArray 29 (0, 0))) := ⟨by have h := KA.out; rw [hj, List.take_length] at h; exact h⟩
          have hld : rowOf wr ⟨q9, 0, none⟩ 32 = some (u8s (pad32 x)) := (At.blk KP.out).id hpo
          have c54 : wr.cell? ⟨q5, 4, none⟩ = some v4 := (blk_cell LA.out.d.blk _).trans rfl
          have Hpo := Aside0.mk hpo
          obtain ⟨z, hz1, hz2⟩ := info29x
          have Hz := Aside0.mk (And.intro hz1 hz2)
          clear hpo hz1 hz2 hj RC KA hjk
          go_upto_region 11 with (first
            | (refine wpList_build29 rfl _ rfl (pad32 x) Hpo.out rfl ?_)
            | (at_builtin; refine Kd.R_append idK (w0 := wr) b7 rfl (.tmp 62) (.tmp 64) 23 29 z 32 rfl Tryz.underlying23 Hz.out.1 Hz.out.2 (by decide) (by decide) v4 (needS i s6).1 (pad32 x) (u8s (pad32 x)) (fun _ => True) (fun _ => False) rfl rfl (id_M Hpo.out) (fun _ h => h.elim) (fun _ _ => trivial) LA.out.r4 (Below.refl _ _) LA.out.sz (by rw [HL.out]; omega) ?_
               intro ve we h1 h2 h3 h4
               obtain ⟨Ae, ce, rfl⟩ := Kd.R_slice h1
               have JE := Aside0.mk (LA.out.d.low LA.out.q5 h2)
               have VE := Aside0.mk (R_lowE rfl LA.out.r6 HR6.out.2 h2)
               have AE := Aside0.mk h1
               have BE : Aside0 (b7 ≤ we.heap.size) := ⟨Nat.le_trans LA.out.sz h2.size⟩
               have c55 : we.cell? ⟨q5, 4, none⟩ = some v4 := (blk_cell JE.out.blk _).trans rfl
               have f55 : we.frozen? ⟨q5, 4, none⟩ = false := blk_frozen JE.out.blk _
               clear h1 h2 h3 h4)
            | go_in)
          have JF : Aside0 (DS W g q2 q5 (we.setCell ⟨q5, 4, none⟩ (.slice Ae ((needS i s6).1 ++ [pad32 x]).length ce)) y1 (jV (strOfNums x2) x3 x4 nilS (.slice Ae ((needS i s6).1 ++ [pad32 x]).length ce) nilS)) := ⟨JE.out.put (blk_set JE.out.blk 4 _) (grown_set we ⟨q5, 4, none⟩ _)⟩
          have hle : ((needS i s6).1 ++ [pad32 x]).length = (needS i s6).1.length + 1 := by simp
          rw [hle] at JF AE
          have LF : Aside0 (LB W g q2 q5 b7 (we.setCell ⟨q5, 4, none⟩ (.slice Ae ((needS i s6).1.length + 1) ce)) y1 (jV (strOfNums x2) x3 x4 nilS (.slice Ae ((needS i s6).1.length + 1) ce) nilS) (.slice Ae ((needS i s6).1.length + 1) ce) ((needS i s6).1 ++ [pad32 x]) v6 rs5) :=
            ⟨⟨JF.out, Kd.R_grown1 AE.out rfl (grown_set we ⟨q5, 4, none⟩ _) (fun e => by have h1 : b7 ≤ q5 := Kd.R_base AE.out _ e.symm; have h2 := HQ7.out; omega), Kd.R_grown1 VE.out rfl (grown_set we ⟨q5, 4, none⟩ _) (fun e => by have h1 : q5 + 1 ≤ q5 := Kd.R_base VE.out _ e.symm; omega), Nat.le_trans BE.out (grown_set we ⟨q5, 4, none⟩ _).size, HQ7.out⟩⟩
          clear hle AE VE BE JE c54 c55 f55 LA JF
          generalize we.setCell ⟨q5, 4, none⟩ (.slice Ae ((needS i s6).1.length + 1) ce) = wf at LF ⊢
          go_wp2
          go_roundg q
          case measure => omega
          case rel => exact ⟨i + 1, _, by go_num, by omega, ⟨by rw [HN.out]; exact LF.out⟩⟩
        | succ q3 =>
          have hj : j < x.length := by omega
          have hj1 : (j : Int) < (x.length : Int) := by omega
          have hj2 : (j : Int) < 32 := by omega
          obtain ⟨ad2, e0, hz1⟩ := Kd.at_int (Kd.R_reads' RC.out).2.2 (j : Int) (by omega) (by omega)
          cases e0
          obtain ⟨b1, hb1⟩ : ∃ b1, rd x (j : Int) = b1 := ⟨_, rfl⟩
          rw [Int.toNat_natCast, hb1] at hz1
          obtain ⟨cv1, cv1h⟩ := fill_cell (x := x) (a := j) (by omega) hj
          have K8c : wr.cell? ⟨q9, j, none⟩ = some cv1 := (blk_cell KA.out _).trans (by rw [List.getElem?_toArray]; exact cv1h)
          have K8f : wr.frozen? ⟨q9, j, none⟩ = false := blk_frozen KA.out _
          have K1 : Aside0 ((wr.setCell ⟨q9, j, none⟩ (.int .u8 b1)).heap[q9]? = some (.cells (u8s (x.take (j + 1) ++ List.replicate (32 - (j + 1)) 0)).toArray 29 (0, 0))) := ⟨by
            have h9 := blk_at (i := j) (v := .int .u8 b1) KA.out
            have hg : x.getD j 0 = b1 := by rw [← hb1, rd_nat]
            rw [u8s_set, ← hg, fill_more hx32 hj, hg] at h9
            exact h9⟩
          have L1 : Aside0 (LB W g q2 q5 b7 (wr.setCell ⟨q9, j, none⟩ (.int .u8 b1)) y1 (jV (strOfNums x2) x3 x4 nilS v4 nilS) v4 (needS i s6).1 v6 rs5) := ⟨LA.out.set N9.out.1 N9.out.2.1 N9.out.2.2⟩
          have R1 : Aside0 (Kd.R (Kd.int .u8) 5 (wr.setCell ⟨q9, j, none⟩ (.int .u8 b1)) wa.heap.size (fun _ => True) (.slice (some ad2) x.length cc) x) := ⟨Kd.R_grown1 RC.out rfl (grown_set wr ⟨q9, j, none⟩ _) (fun e => by have h1 : wa.heap.size ≤ q9 := Kd.R_base RC.out _ e.symm; have h2 := HQ9.out; omega)⟩
          clear cv1h hb1 LA KA RC
          go_wp2
          go_roundg q3
          case measure => omega
          case rel => exact ⟨j + 1, by go_num, by omega, L1, K1, R1⟩
end Go.Proofs.YtdekmeanlcpenaaGreatDoor.Codec

namespace Go.Proofs.YtdekmeanlcpenaaGreatDoor.Law
open Go.RowKit Go.Proofs.YtdekmeanlcpenaaGreatDoorW.PrintWords Go.Proofs.YtdekmeanlcpenaaGreatDoorW.PrintLast Go.Proofs.YtdekmeanlcpenaaGreatDoorW.PrintMore Go.Proofs.YtdekmeanlcpenaaGreatDoor.Mid Go.Proofs.YtdekmeanlcpenaaGreatDoor.Pick Go.Proofs.YtdekmeanlcpenaaGreatDoor.Err Go.Proofs.YtdekmeanlcpenaaGreatDoor.Codec Go.Proofs.YtdekmeanlcpenaaGreatDoor.Block
set_option maxHeartbeats 4000000
set_option maxRecDepth 100000
set_option linter.unusedVariables false
def jn0 : Jn := ⟨.empty, 0, 0, [], [], []⟩
open Classical in
/-- What bytes are decoded to. -/
noncomputable def decJ (l : List Int) : Jn := if h : ∃ j, JnV j ∧ JnOk j ∧ encW j = l then h.choose else jn0
open Classical in
noncomputable def decN (l : List Int) : Int := if ∃ j, JnV j ∧ JnOk j ∧ encW j = l then 0 else 161
theorem decJ_yes {l : List Int} {j : Jn} (V : JnV j) (K : JnOk j) (h : encW j = l) : decJ l = j ∧ decN l = 0 := by
  have hex : ∃ j, JnV j ∧ JnOk j ∧ encW j = l := ⟨j, V, K, h⟩
  unfold decJ decN
  rw [dif_pos hex, if_pos hex]
  have hs := hex.choose_spec
  exact ⟨enc_inj hs.1 hs.2.1 V K (hs.2.2.trans h.symm), rfl⟩
theorem decJ_no {l : List Int} (hn : ∀ j, JnV j → JnOk j → encW j ≠ l) : decJ l = jn0 ∧ decN l = 161 := by
  have hex : ¬ ∃ j, JnV j ∧ JnOk j ∧ encW j = l := fun ⟨j, V, K, h⟩ => hn j V K h
  unfold decJ decN
  rw [dif_neg hex, if_neg hex]
  exact ⟨rfl, rfl⟩
theorem decJ_len (l : List Int) : (decJ l).res.length ≤ 140737488355328 ∧ (decJ l).need.length ≤ 140737488355328 ∧ (decJ l).tab.length ≤ 140737488355328 := by
  by_cases hex : ∃ j, JnV j ∧ JnOk j ∧ encW j = l
  · obtain ⟨j, V, K, h⟩ := hex
    rw [(decJ_yes V K h).1]
    have h1 := V.res.most
    have h2 := V.most
    have h3 := V.tab.most
    omega
  · rw [(decJ_no (fun j V K h => hex ⟨j, V, K, h⟩)).1]
    exact ⟨Nat.zero_le _, Nat.zero_le _, Nat.zero_le _⟩
theorem ret_is {W w' : World} {l : List Int} {j : Jn} {n : Int} {A1 A2 A3 : Option Addr} {c1 c2 c3 : Nat} (h : RetDecJ W l j n A1 c1 A2 c2 A3 c3 w') : decJ l = j ∧ decN l = n := by
  rcases h.what with ⟨V, e, hn⟩ | ⟨V, e, hn⟩
  · rw [hn]; exact decJ_yes V h.ok e
  · rw [hn, e]; exact decJ_no V
/-- A journal that was decoded: rows of one's own from block b on. -/
structure DecR (b : Nat) (j : Jn) (A1 : Option Addr) (c1 : Nat) (A2 : Option Addr) (c2 : Nat) (A3 : Option Addr) (c3 : Nat) (w : World) : Prop where
  ok : JnOk j
  r1 : Kd.R resK 33 w b (fun _ => True) (.slice A1 j.res.length c1) j.res
  r2 : Kd.R idK 29 w b (fun _ => True) (.slice A2 j.need.length c2) j.need
  r3 : Kd.R resK 33 w b (fun _ => True) (.slice A3 j.tab.length c3) j.tab
section
variable {b : Nat} {j : Jn} {A1 A2 A3 : Option Addr} {c1 c2 c3 : Nat} {w w1 : World}
theorem DecR.below (h : DecR b j A1 c1 A2 c2 A3 c3 w) (hb : Below w.heap.size w w1) : DecR b j A1 c1 A2 c2 A3 c3 w1 := ⟨h.ok, Kd.R_below h.r1 hb, Kd.R_below h.r2 hb, Kd.R_below h.r3 hb⟩
theorem DecR.put (h : DecR b j A1 c1 A2 c2 A3 c3 w) {q i : Nat} {v : Value} (hq : q < b) : DecR b j A1 c1 A2 c2 A3 c3 (w.setCell ⟨q, i, none⟩ v) := ⟨h.ok, R_put_far rfl h.r1 hq, R_put_far rfl h.r2 hq, R_put_far rfl h.r3 hq⟩
theorem DecR.lower (h : DecR b j A1 c1 A2 c2 A3 c3 w) {b0 : Nat} (hb : b0 ≤ b) : DecR b0 j A1 c1 A2 c2 A3 c3 w := ⟨h.ok, Kd.R_lower h.r1 hb, Kd.R_lower h.r2 hb, Kd.R_lower h.r3 hb⟩
theorem DecR.at (h : DecR b j A1 c1 A2 c2 A3 c3 w) : JAt w j A1 c1 A2 c2 A3 c3 := ⟨h.ok, (Kd.R_reads' h.r1).2.2, (Kd.R_reads' h.r1).2.1, (Kd.R_reads' h.r2).2.2, (Kd.R_reads' h.r2).2.1, (Kd.R_reads' h.r3).2.2, (Kd.R_reads' h.r3).2.1⟩
end
/-- Both decoders, on bytes whose answer has a name. -/
theorem idec_any (W : World) (A : Option Addr) (c n : Nat) (l : List Int) (hn : l.length = n) (j : Jn) (k : Int) (hj : decJ l = j) (hk : decN l = k) (hC : Kd.C (Kd.int .u8) W A l.length l) (hb : Byt l) (hl : l.length ≤ 140737488351232) (hcp : l.length ≤ c) :
    Calls Tryz.prog 26 #[.slice A n c] W fun e w' => ∃ ve A1 c1 A2 c2 A3 c3, e = .returned (.tuple #[.agg #[.string j.name, .int .i64 j.ent, .int .i64 j.idx, .slice A1 j.res.length c1, .slice A2 j.need.length c2, .slice A3 j.tab.length c3], ve]) ∧ ErrIs opDec w' ve k ∧ DecR W.heap.size j A1 c1 A2 c2 A3 c3 w' ∧ Below W.heap.size W w' := by
  subst hn
  by_cases hex : ∃ j, JnV j ∧ JnOk j ∧ encW j = l
  · obtain ⟨i, V, K, h⟩ := hex
    have h1 := decJ_yes V K h
    obtain rfl : i = j := h1.1.symm.trans hj
    obtain rfl : (0 : Int) = k := h1.2.symm.trans hk
    exact (dec_yes W A c l hC hb hl hcp i V K h).mono fun e w' ⟨A1, c1, A2, c2, A3, c3, he, r1, r2, r3, hB⟩ => ⟨_, A1, c1, A2, c2, A3, c3, he, .inl ⟨rfl, rfl⟩, ⟨K, r1, r2, r3⟩, hB⟩
  · have hno : ∀ j, JnV j → JnOk j → encW j ≠ l := fun j V K h => hex ⟨j, V, K, h⟩
    have h1 := decJ_no hno
    obtain rfl : jn0 = j := h1.1.symm.trans hj
    obtain rfl : (161 : Int) = k := h1.2.symm.trans hk
    exact (dec_no W A c l hC hb hl hcp hno).mono fun e w' ⟨g, he, hg1, hg2, hB⟩ => ⟨_, none, 0, none, 0, none, 0, he, .inr ⟨by decide, g, rfl, hg2⟩, ⟨⟨(fun _ h => by cases h), (fun _ h => by cases h), (fun _ h => by cases h)⟩, Kd.R_nil _ _ _ _ _, Kd.R_nil _ _ _ _ _, Kd.R_nil _ _ _ _ _⟩, hB⟩
theorem rdec16 (W : World) (A : Option Addr) (c : Nat) (l : List Int) (hC : Kd.C (Kd.int .u8) W A l.length l) (hb : Byt l) (hl : l.length ≤ 140737488351232) (hcp : l.length ≤ c) : Calls Tryz.prog 27 #[.slice A l.length c] W (RetDec W l) := by
  by_cases h : nOf l ≤ 65
  · exact rdec_T W A c l hC hb hl hcp h
  · exact rdec_F W A c l hC hb hl hcp h
theorem rdec_any (W : World) (A : Option Addr) (c n : Nat) (l : List Int) (hn : l.length = n) (j : Jn) (k : Int) (hj : decJ l = j) (hk : decN l = k) (hC : Kd.C (Kd.int .u8) W A l.length l) (hb : Byt l) (hl : l.length ≤ 140737488351232) (hcp : l.length ≤ c) :
    Calls Tryz.prog 27 #[.slice A n c] W fun e w' => ∃ A1 c1 A2 c2 A3 c3, e = .returned (.tuple #[.agg #[.string j.name, .int .i64 j.ent, .int .i64 j.idx, .slice A1 j.res.length c1, .slice A2 j.need.length c2, .slice A3 j.tab.length c3], .int .i64 k]) ∧ DecR W.heap.size j A1 c1 A2 c2 A3 c3 w' ∧ Below W.heap.size W w' := by
  subst hn
  refine (rdec16 W A c l hC hb hl hcp).mono fun e w' ⟨i, m, A1, c1, A2, c2, A3, c3, he, h⟩ => ?_
  have h1 := ret_is h
  obtain rfl : i = j := h1.1.symm.trans hj
  obtain rfl : m = k := h1.2.symm.trans hk
  exact ⟨A1, c1, A2, c2, A3, c3, he, ⟨h.ok, h.r1, h.r2, h.r3⟩, h.bel⟩
theorem own_given {w : World} {b g n k : Nat} {l m : List Int} (h : Kd.R (Kd.int .u8) 5 w b (fun _ => True) (.slice (some ⟨g, 0, none⟩) n k) (l ++ m)) : Kd.C (Kd.int .u8) w (some ⟨g, 0, none⟩) l.length l := by
  have h1 := (Kd.R_reads' h).2.2
  have h2 := Kd.C_take (m := l.length) h1 (by rw [List.length_append]; omega)
  rw [List.take_left'  rfl] at h2
  exact h2
/-- The law's memory: the bytes handed in, marked behind, in a row of one's own; two journals. -/
structure LM (W : World) (l : List Int) (n3 g3 k3 b5 q5 q7 : Nat) (j : Jn) (A1 : Option Addr) (c1 : Nat) (A2 : Option Addr) (c2 : Nat) (A3 : Option Addr) (c3 : Nat) (B1 : Option Addr) (d1 : Nat) (B2 : Option Addr) (d2 : Nat) (B3 : Option Addr) (d3 : Nat) (w : World) : Prop where
  r3 : Kd.R (Kd.int .u8) 5 w W.heap.size (fun _ => True) (.slice (some ⟨g3, 0, none⟩) n3 k3) (l ++ [171, 171, 171])
  a : DecR b5 j A1 c1 A2 c2 A3 c3 w
  b : DecR b5 j B1 d1 B2 d2 B3 d3 w
  c5 : w.heap[q5]? = some (.cells (jC j A1 c1 A2 c2 A3 c3).toArray 60 (0, 0))
  c7 : w.heap[q7]? = some (.cells (jC j B1 d1 B2 d2 B3 d3).toArray 60 (0, 0))
  bel : Below W.heap.size W w
  lt : g3 < b5
  l5 : b5 ≤ q5
  l7 : b5 ≤ q7
section
variable {W w w1 : World} {l : List Int} {n3 g3 k3 b5 q5 q7 : Nat} {j : Jn} {A1 A2 A3 B1 B2 B3 : Option Addr} {c1 c2 c3 d1 d2 d3 : Nat}
theorem LM.below (h : LM W l n3 g3 k3 b5 q5 q7 j A1 c1 A2 c2 A3 c3 B1 d1 B2 d2 B3 d3 w) (hb : Below w.heap.size w w1) : LM W l n3 g3 k3 b5 q5 q7 j A1 c1 A2 c2 A3 c3 B1 d1 B2 d2 B3 d3 w1 :=
  ⟨Kd.R_below h.r3 hb, h.a.below hb, h.b.below hb, blk_below h.c5 hb, blk_below h.c7 hb, below_step h.bel hb, h.lt, h.l5, h.l7⟩
theorem set_zero {l m : List Int} (h : l ≠ []) (y : Int) : (l ++ m).set 0 y = l.set 0 y ++ m := by
  cases l with
  | nil => exact absurd rfl h
  | cons a t => rfl
theorem LM.put (h : LM W l n3 g3 k3 b5 q5 q7 j A1 c1 A2 c2 A3 c3 B1 d1 B2 d2 B3 d3 w) (hl : l ≠ []) (y : Int) : LM W (l.set 0 y) n3 g3 k3 b5 q5 q7 j A1 c1 A2 c2 A3 c3 B1 d1 B2 d2 B3 d3 (w.setCell ⟨g3, 0, none⟩ (.int .u8 y)) := by
  have hr := Kd.R_putn h.r3 (0 : Int) y
  simp only [Int.toNat_zero] at hr
  rw [set_zero hl] at hr
  have hG : w.grownBy (w.setCell ⟨g3, 0, none⟩ (.int .u8 y)) (some g3) := grownBlk w ⟨g3, 0, none⟩ _
  exact ⟨hr, h.a.put h.lt, h.b.put h.lt, blk_grown h.c5 hG (fun e => absurd (Option.some.inj e) (by have := h.lt; have := h.l5; omega)), blk_grown h.c7 hG (fun e => absurd (Option.some.inj e) (by have := h.lt; have := h.l7; omega)), h.bel.grown hG h.bel.size (fun k hk => by cases hk; exact Kd.R_base h.r3 _ rfl), h.lt, h.l5, h.l7⟩
theorem LM.given (h : LM W l n3 g3 k3 b5 q5 q7 j A1 c1 A2 c2 A3 c3 B1 d1 B2 d2 B3 d3 w) : Kd.C (Kd.int .u8) w (some ⟨g3, 0, none⟩) l.length l := own_given h.r3
end
end Go.Proofs.YtdekmeanlcpenaaGreatDoor.Law
