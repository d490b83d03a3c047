import Derived.Test.YtdekmeanlcpenaaGreatDoorCg11
import Derived.Test.YtdekmeanlcpenaaGreatDoorCg12
set_option linter.unusedSimpArgs false
set_option linter.unusedVariables false
namespace Go.Proofs.YtdekmeanlcpenaaGreatDoor.Block
end Go.Proofs.YtdekmeanlcpenaaGreatDoor.Block
namespace Go.Proofs.YtdekmeanlcpenaaGreatDoor.Mid
end Go.Proofs.YtdekmeanlcpenaaGreatDoor.Mid
namespace Go.Proofs.YtdekmeanlcpenaaGreatDoor.Pick
end Go.Proofs.YtdekmeanlcpenaaGreatDoor.Pick
namespace Go.Proofs.YtdekmeanlcpenaaGreatDoor.Codec
open Go.RowKit Go.Proofs.YtdekmeanlcpenaaGreatDoorW.PrintWords Go.Proofs.YtdekmeanlcpenaaGreatDoor.Mid Go.Proofs.YtdekmeanlcpenaaGreatDoor.Pick Go.Proofs.YtdekmeanlcpenaaGreatDoor.Block
attribute [local go_sem ↓ high] load33_eq load29_eq load60_eq
attribute [local simp] rowOf_drew rowOf_drewN
attribute [local go_sem high] load33_row load29_row load60_row rowOf_drew rowOf_drewN
set_option maxHeartbeats 40000000
set_option maxRecDepth 100000
theorem jread_F (W : World) (A : Option Addr) (c : Nat) (l : List Int) (hC : Kd.C (Kd.int .u8) W A l.length l) (hb : Byt l) (hl : l.length ≤ 140737488351232) (hcp : l.length ≤ c) (hP : ∀ j, JnRead l j → ¬ JnV j) :
    Calls Tryz.prog 65 #[.slice A l.length c] W (RetRead W l) := by
  obtain ⟨⟨x1, s1⟩, e1⟩ : ∃ p, (RS.start l).fixed 1 = p := ⟨_, rfl⟩
  obtain ⟨⟨x2, s2⟩, e2⟩ : ∃ p, s1.text 112 = p := ⟨_, rfl⟩
  obtain ⟨⟨x3, s3⟩, e3⟩ : ∃ p, s2.fixed 4 = p := ⟨_, rfl⟩
  obtain ⟨⟨x4, s4⟩, e4⟩ : ∃ p, s3.fixed 4 = p := ⟨_, rfl⟩
  obtain ⟨⟨x5, s5⟩, e5⟩ : ∃ p, s4.text l.length = p := ⟨_, rfl⟩
  obtain ⟨⟨n, s6⟩, e6⟩ : ∃ p, s5.num = p := ⟨_, rfl⟩
  obtain ⟨⟨x7, s7⟩, e7⟩ : ∃ p, needS n s6 = p := ⟨_, rfl⟩
  obtain ⟨⟨x8, s8⟩, e8⟩ : ∃ p, s7.text l.length = p := ⟨_, rfl⟩
  obtain ⟨⟨x9, s9⟩, e9⟩ : ∃ p, s8.fixed 4 = p := ⟨_, rfl⟩
  have HG : Aside0 (∀ j, JnV j → JnOk j → encW j = l → GotEnc j x1 x2 x3 x4 x5 n x7 x8 s8 []) := ⟨fun j V K h => got_enc V K (Nat.le_refl _) (by rw [List.append_nil]; exact h) e1 e2 e3 e4 e5 e6 (fun _ => rfl) e7 e8⟩
  have r1 : rd1 l = (x1, s1) := e1
  have r2 : rd2 l = (x2, s2) := by rw [rd2, r1]; exact e2
  have r3 : rd3 l = (x3, s3) := by rw [rd3, r2]; exact e3
  have r4 : rd4 l = (x4, s4) := by rw [rd4, r3]; exact e4
  have r5 : rd5 l = (x5, s5) := by rw [rd5, r4]; exact e5
  have r6 : rd6 l = (n, s6) := by rw [rd6, r5]; exact e6
  have r7 : rd7 l = (x7, s7) := by rw [rd7, r6]; exact e7
  have r8 : rd8 l = (x8, s8) := by rw [rd8, r7]; exact e8
  have HRd : Aside0 (∀ rs qs, Parsed x5 rs → Parsed x8 qs → JnRead l ⟨strOfNums x2, x3, x4, rs, x7, qs⟩) := ⟨fun rs qs h h' => ⟨by rw [r5]; exact h, by rw [r8]; exact h', by rw [r2, r3, r4, r7]⟩⟩
  have HP := Aside0.mk hP
  clear r1 r2 r3 r4 r5 r6 r7 r8 hP
  have E1 := Aside0.mk e1
  have E2 := Aside0.mk e2
  have E3 := Aside0.mk e3
  have E4 := Aside0.mk e4
  have E5 := Aside0.mk e5
  have E6 := Aside0.mk e6
  have E7 := Aside0.mk e7
  have E8 := Aside0.mk e8
  have E9 := Aside0.mk e9
  have HC := Aside0.mk hC
  have HBy := Aside0.mk hb
  have HCp := Aside0.mk hcp
  clear hC hb hcp e1 e2 e3 e4 e5 e6 e7 e8 e9
  have hb60 : ∀ u : World, (Instr.build 60 #[]).run Tryz.prog u = .ok (.agg #[.string ⟨#[]⟩, .int .i64 0, .int .i64 0, .slice none 0 0, .slice none 0 0, .slice none 0 0]) u := fun u => by kernel_rfl
  go_enter Tryz.func65, Tryz.ntmps65
  go_upto_region 1 with (fail)
  obtain ⟨q2, hq2⟩ : ∃ q2, W.heap.size = q2 := ⟨_, rfl⟩
  obtain ⟨W1, hW1⟩ : ∃ W1, W.alloc (.cells (jV .empty 0 0 nilS nilS nilS).toArray 60) = W1 := ⟨_, rfl⟩
  have HO1 : Aside0 (W1.heap[q2]? = some (.cells (jV .empty 0 0 nilS nilS nilS).toArray 60 (0, 0)) ∧ Below W.heap.size W W1 ∧ W.heap.size ≤ q2 ∧ q2 < W1.heap.size) := ⟨by rw [← hW1, ← hq2]; exact ⟨heap_alloc_new W _, below_alloc (Below.refl _ _) _, Nat.le_refl _, by simp⟩⟩
  have HW1 := Aside0.mk hW1
  unfold jV nilS at hW1
  have hW1' : W.alloc (.cells #[.string ⟨#[]⟩, .int .i64 0, .int .i64 0, .slice none 0 0, .slice none 0 0, .slice none 0 0] 60) = W1 := hW1
  rw [hW1', hq2]
  clear hW1 hW1' hq2
  go_upto_region 2 with (first
    | (go_at_call 108; refine (read_any W1 A c l (Kd.C_below HC.out (by have h := HO1.out.2.1; exact h)) HBy.out hl).mono ?_
       rintro e w1 ⟨g, D, kk, rfl, h1, h2, h3, h4⟩
       have J0 : Aside0 (JP W g kk D q2 w1 (RS.start l)) := ⟨⟨h2, blk_below HO1.out.1 h3, HO1.out.2.1.trans (h3.mono HO1.out.2.1.size), HO1.out.2.2.1, by have := HO1.out.2.2.2; omega, fun _ ad he => by have := h4 ad he; have := HO1.out.2.2.2; omega⟩⟩
       clear h1 h2 h3 h4)
    | fail)
  by_cases h74 : x1 = 74
  case neg =>
    have H74 := Aside0.mk h74
    go_upto_region 3 with (first
      | (go_at_call 109; refine (rfixed_any w1 g kk D _ 1 J0.out.rd (by decide) (by decide)).mono ?_
         rw [E1.out]
         rintro e w2 ⟨rfl, h1, h2⟩
         have J1 : Aside0 (JP W g kk D q2 w2 s1) := ⟨J0.out.step h1 (by have h := fixed_data (RS.start l) 1; rw [E1.out] at h; exact h) h2⟩
         clear h1 h2)
      | fail)
    go_wp2_with (first
      | (refine wpList_store_blk rfl rfl 60 _ _ rfl J1.out.out (jV .empty 0 0 nilS nilS nilS) rfl rfl rfl info60 (jV_one rfl rfl rfl) ?_
         intro wz z1 z2 z3
         have HZ : Aside0 (Below W.heap.size W wz ∧ wz.heap[q2]? = some (.cells (jV .empty 0 0 nilS nilS nilS).toArray 60 (0, 0))) := ⟨J1.out.bel.grown z2 J1.out.bel.size (fun k hk => by cases hk; exact J1.out.old), z1⟩
         clear z1 z2 z3)
      | fail)
    refine bodyPost_ret (results_ct60 (by rfl) rfl _ _ q2 rfl HZ.out.2) rfl ?_
    exact .no (fun j V K h => H74.out (HG.out j V K h).first) _ rfl (jV_one rfl rfl rfl) rfl HZ.out.1
  case pos =>
    have H74 := Aside0.mk h74
    go_upto_region 4 with (first
      | (go_at_call 109; refine (rfixed_any w1 g kk D _ 1 J0.out.rd (by decide) (by decide)).mono ?_
         rw [E1.out]
         rintro e w2 ⟨rfl, h1, h2⟩
         have J1 : Aside0 (JP W g kk D q2 w2 s1) := ⟨J0.out.step h1 (by have h := fixed_data (RS.start l) 1; rw [E1.out] at h; exact h) h2⟩
         clear h1 h2)
      | fail)
    clear h74 J0
    have hdt1 : s1.data = l := by have h := fixed_data (RS.start l) 1; rw [E1.out] at h; exact h
    have hdt2 : s2.data = s1.data := by have h := text_data s1 112; rw [E2.out] at h; exact h
    have hdt3 : s3.data = s2.data := by have h := fixed_data s2 4; rw [E3.out] at h; exact h
    have hdt4 : s4.data = s3.data := by have h := fixed_data s3 4; rw [E4.out] at h; exact h
    have HD : Aside0 (s1.data = l ∧ s2.data = s1.data ∧ s3.data = s2.data ∧ s4.data = s3.data) := ⟨hdt1, hdt2, hdt3, hdt4⟩
    have hb63 : ∀ (u : World) (nm : ByteArray) (a b : Int), (Instr.build 60 #[(0, .string nm), (1, .int .i64 a), (2, .int .i64 b)]).run Tryz.prog u = .ok (.agg #[.string nm, .int .i64 a, .int .i64 b, .slice none 0 0, .slice none 0 0, .slice none 0 0]) u := fun u nm a b => by kernel_rfl
    clear hdt1 hdt2 hdt3 hdt4
    refine wp_region_held (S := fun _ => True) (by kernel_rfl) ?_
    change wpAnyH _ _ _ _ _ _ _ _ w2.drew
    obtain ⟨v2, hv2⟩ : ∃ v2, w2.drew = v2 := ⟨_, rfl⟩
    have K1 : Aside0 (JP W g kk D q2 v2 s1) := ⟨by rw [← hv2]; exact J1.out.below (below_drew (Below.refl _ _))⟩
    rw [hv2]
    clear hv2 J1
    refine wpAnyH_take (i := 0) (v := ?_) rfl (by kernel_rfl) (by kernel_rfl) (by kernel_rfl) (fun _ _ _ h => h) (Or.inl ⟨by rfl, ?_⟩) trivial ?_
    rotate_left
    · (intro wG hSw; go_simp; try with_reducible rfl)
    try simp only [Act.put, List.setIfInBounds_toArray, List.set]
    refine wpAnyH_take (i := 3) (v := ?_) rfl (by kernel_rfl) (by kernel_rfl) (by kernel_rfl) (fun _ _ _ h => h) (Or.inl ⟨by rfl, ?_⟩) trivial ?_
    rotate_left
    · (intro wG hSw; go_simp; try with_reducible rfl)
    try simp only [Act.put, List.setIfInBounds_toArray, List.set]
    refine wpAnyH_take (i := 5) (v := ?_) rfl (by kernel_rfl) (by kernel_rfl) (by kernel_rfl) (fun _ _ _ h => h) (Or.inl ⟨by rfl, ?_⟩) trivial ?_
    rotate_left
    · (intro wG hSw; go_simp; try with_reducible rfl)
    try simp only [Act.put, List.setIfInBounds_toArray, List.set]
    refine wpAnyH_rest (G := fun q _ _ w => JS W g kk D q2 q w s4 (jV (strOfNums x2) x3 x4 nilS nilS nilS)) (A := ?A) ?h ?rest
    case h =>
      intro hdone
      refine heldTwo (i := 1) (j := 8) (by kernel_rfl) rfl rfl (by rfl) (by rfl) ?_ ?_
      · skip
        go_simp
        go_at_call 110
        refine (rtext_any _ g kk D s1 112 K1.out.rd (by decide)).mono ?_
        rw [E2.out]
        rintro e v2c ⟨A3, c3, rfl, r3, h3, gw3⟩
        have K1c := Aside0.mk (K1.out.step h3 HD.out.2.1 gw3)
        have hbg := K1.out.rd.lt
        have R3 := Aside0.mk r3
        try simp only [Act.put, List.setIfInBounds_toArray, List.set]
        clear r3 h3 gw3 
        refine wpAnyH_weak (S' := fun u => Kd.R (Kd.int .u8) 5 u v2.heap.size (fun _ => True) (.slice A3 x2.length c3) x2) (fun _ _ => trivial) _ _ _ _ ?_
        refine wpAnyH_take (i := 2) (v := ?_) rfl (by kernel_rfl) (by kernel_rfl) (by kernel_rfl) (fun _ _ _ h => h) (Or.inl ⟨by rfl, ?_⟩) R3.out ?_
        rotate_left
        · (intro wG hSw; have hcv := Kd.C_string (P := Tryz.prog) (src := 47) (dst := 9) (e := 5) (c := c3) Tryz.underlying47 Tryz.underlying5 und9 (Kd.R_reads' hSw).2.2; go_simp; try with_reducible rfl)
        try simp only [Act.put, List.setIfInBounds_toArray, List.set]
        refine heldTwo (i := 4) (j := 8) (by kernel_rfl) rfl rfl (by rfl) (by rfl) ?_ ?_
        · skip
          go_simp
          go_at_call 109
          refine (rfixed_any _ g kk D s2 4 K1c.out.rd (by decide) (by decide)).mono ?_
          rw [E3.out]
          rintro e v2cc ⟨rfl, h3, gw3⟩
          have R4 := Aside0.mk (Kd.R_grown1 R3.out rfl gw3 (fun e => by have := Kd.R_base R3.out _ e.symm; omega))
          have K1cc := Aside0.mk (K1c.out.step h3 HD.out.2.2.1 gw3)
          refine ⟨R4.out, ?_⟩
          clear h3 gw3 K1c
          try simp only [Act.put, List.setIfInBounds_toArray, List.set]
          refine heldTwo (i := 6) (j := 8) (by kernel_rfl) rfl rfl (by rfl) (by rfl) ?_ ?_
          · skip
            go_simp
            go_at_call 109
            refine (rfixed_any _ g kk D s3 4 K1cc.out.rd (by decide) (by decide)).mono ?_
            rw [E4.out]
            rintro e v2ccc ⟨rfl, h3, gw3⟩
            have R5 := Aside0.mk (Kd.R_grown1 R4.out rfl gw3 (fun e => by have := Kd.R_base R4.out _ e.symm; omega))
            have K1ccc := Aside0.mk (K1cc.out.step h3 HD.out.2.2.2 gw3)
            refine ⟨R5.out, ?_⟩
            clear h3 gw3 K1cc
            try simp only [Act.put, List.setIfInBounds_toArray, List.set]
            refine wpAnyH_take (i := 7) (v := ?_) rfl (by kernel_rfl) (by kernel_rfl) (by kernel_rfl) (fun _ _ _ h => h) (Or.inl ⟨by rfl, ?_⟩) R5.out ?_
            rotate_left
            · (intro wG hSw; go_simp; try with_reducible rfl)
            try simp only [Act.put, List.setIfInBounds_toArray, List.set]
            refine heldOne (i := 8) (by kernel_rfl) rfl (by rfl) ?_
            go_simp
            have K1ccca := Aside0.mk K1ccc.out.new
            unfold jV nilS at K1ccca
            obtain ⟨q5, hq5⟩ : ∃ q5, v2ccc.heap.size = q5 := ⟨_, rfl⟩
            have HQ : Aside0 (some q5 ≠ (Value.slice A3 x2.length c3).ownBlock) := ⟨fun e => absurd (Kd.R_lt R5.out _ e.symm) (by omega)⟩
            have R5' := Aside0.mk (Kd.R_alloc R5.out (.cells #[.string ⟨#[]⟩, .int .i64 0, .int .i64 0, .slice none 0 0, .slice none 0 0, .slice none 0 0] 60))
            have K1cccb : Aside0 (JS W g kk D q2 q5 (v2ccc.alloc (.cells #[.string ⟨#[]⟩, .int .i64 0, .int .i64 0, .slice none 0 0, .slice none 0 0, .slice none 0 0] 60)) s4 (jV .empty 0 0 nilS nilS nilS)) := ⟨by rw [← hq5]; exact K1ccca.out⟩
            rw [hq5]
            generalize v2ccc.alloc (.cells #[.string ⟨#[]⟩, .int .i64 0, .int .i64 0, .slice none 0 0, .slice none 0 0, .slice none 0 0] 60) = v2ccca at K1cccb R5' ⊢
            clear K1ccca K1ccc hq5
            refine ⟨R5'.out, ?_⟩
            clear R5
            have R5 := R5'
            clear R5'
            try simp only [Act.put, List.setIfInBounds_toArray, List.set]
            refine heldOne (i := 9) (by kernel_rfl) rfl (by rfl) ?_
            refine wp_store_blk 60 _ _ rfl K1cccb.out.blk (jV (strOfNums x2) x3 x4 nilS nilS nilS) rfl rfl rfl info60 (jV_one rfl rfl rfl) ?_
            intro wz z1 z2 z3
            refine ⟨Kd.R_grown1 R5.out rfl z2 HQ.out, ?_⟩
            try simp only [Act.put, List.setIfInBounds_toArray, List.set]
            exact wpAnyH_done (by kernel_rfl) (hdone q5 A3 c3 wz (K1cccb.out.put z1 z2)) _
          · skip
            go_simp
            have K1cca := Aside0.mk K1cc.out.new
            unfold jV nilS at K1cca
            obtain ⟨q5, hq5⟩ : ∃ q5, v2cc.heap.size = q5 := ⟨_, rfl⟩
            have HQ : Aside0 (some q5 ≠ (Value.slice A3 x2.length c3).ownBlock) := ⟨fun e => absurd (Kd.R_lt R4.out _ e.symm) (by omega)⟩
            have R4' := Aside0.mk (Kd.R_alloc R4.out (.cells #[.string ⟨#[]⟩, .int .i64 0, .int .i64 0, .slice none 0 0, .slice none 0 0, .slice none 0 0] 60))
            have K1ccb : Aside0 (JS W g kk D q2 q5 (v2cc.alloc (.cells #[.string ⟨#[]⟩, .int .i64 0, .int .i64 0, .slice none 0 0, .slice none 0 0, .slice none 0 0] 60)) s3 (jV .empty 0 0 nilS nilS nilS)) := ⟨by rw [← hq5]; exact K1cca.out⟩
            rw [hq5]
            generalize v2cc.alloc (.cells #[.string ⟨#[]⟩, .int .i64 0, .int .i64 0, .slice none 0 0, .slice none 0 0, .slice none 0 0] 60) = v2cca at K1ccb R4' ⊢
            clear K1cca K1cc hq5
            refine ⟨R4'.out, ?_⟩
            clear R4
            have R4 := R4'
            clear R4'
            try simp only [Act.put, List.setIfInBounds_toArray, List.set]
            refine heldOne (i := 6) (by kernel_rfl) rfl (by rfl) ?_
            go_simp
            go_at_call 109
            refine (rfixed_any _ g kk D s3 4 K1ccb.out.jp.rd (by decide) (by decide)).mono ?_
            rw [E4.out]
            rintro e v2ccac ⟨rfl, h3, gw3⟩
            have R5 := Aside0.mk (Kd.R_grown1 R4.out rfl gw3 (fun e => by have := Kd.R_base R4.out _ e.symm; omega))
            have K1ccbc := Aside0.mk (K1ccb.out.step h3 HD.out.2.2.2 gw3)
            refine ⟨R5.out, ?_⟩
            clear h3 gw3 K1ccb
            try simp only [Act.put, List.setIfInBounds_toArray, List.set]
            refine wpAnyH_take (i := 7) (v := ?_) rfl (by kernel_rfl) (by kernel_rfl) (by kernel_rfl) (fun _ _ _ h => h) (Or.inl ⟨by rfl, ?_⟩) R5.out ?_
            rotate_left
            · (intro wG hSw; go_simp; try with_reducible rfl)
            try simp only [Act.put, List.setIfInBounds_toArray, List.set]
            refine heldOne (i := 9) (by kernel_rfl) rfl (by rfl) ?_
            refine wp_store_blk 60 _ _ rfl K1ccbc.out.blk (jV (strOfNums x2) x3 x4 nilS nilS nilS) rfl rfl rfl info60 (jV_one rfl rfl rfl) ?_
            intro wz z1 z2 z3
            refine ⟨Kd.R_grown1 R5.out rfl z2 HQ.out, ?_⟩
            try simp only [Act.put, List.setIfInBounds_toArray, List.set]
            exact wpAnyH_done (by kernel_rfl) (hdone q5 A3 c3 wz (K1ccbc.out.put z1 z2)) _
        · skip
          go_simp
          have K1ca := Aside0.mk K1c.out.new
          unfold jV nilS at K1ca
          obtain ⟨q5, hq5⟩ : ∃ q5, v2c.heap.size = q5 := ⟨_, rfl⟩
          have HQ : Aside0 (some q5 ≠ (Value.slice A3 x2.length c3).ownBlock) := ⟨fun e => absurd (Kd.R_lt R3.out _ e.symm) (by omega)⟩
          have R3' := Aside0.mk (Kd.R_alloc R3.out (.cells #[.string ⟨#[]⟩, .int .i64 0, .int .i64 0, .slice none 0 0, .slice none 0 0, .slice none 0 0] 60))
          have K1cb : Aside0 (JS W g kk D q2 q5 (v2c.alloc (.cells #[.string ⟨#[]⟩, .int .i64 0, .int .i64 0, .slice none 0 0, .slice none 0 0, .slice none 0 0] 60)) s2 (jV .empty 0 0 nilS nilS nilS)) := ⟨by rw [← hq5]; exact K1ca.out⟩
          rw [hq5]
          generalize v2c.alloc (.cells #[.string ⟨#[]⟩, .int .i64 0, .int .i64 0, .slice none 0 0, .slice none 0 0, .slice none 0 0] 60) = v2ca at K1cb R3' ⊢
          clear K1ca K1c hq5
          refine ⟨R3'.out, ?_⟩
          clear R3
          have R3 := R3'
          clear R3'
          try simp only [Act.put, List.setIfInBounds_toArray, List.set]
          refine heldOne (i := 4) (by kernel_rfl) rfl (by rfl) ?_
          go_simp
          go_at_call 109
          refine (rfixed_any _ g kk D s2 4 K1cb.out.jp.rd (by decide) (by decide)).mono ?_
          rw [E3.out]
          rintro e v2cac ⟨rfl, h3, gw3⟩
          have R4 := Aside0.mk (Kd.R_grown1 R3.out rfl gw3 (fun e => by have := Kd.R_base R3.out _ e.symm; omega))
          have K1cbc := Aside0.mk (K1cb.out.step h3 HD.out.2.2.1 gw3)
          refine ⟨R4.out, ?_⟩
          clear h3 gw3 K1cb
          try simp only [Act.put, List.setIfInBounds_toArray, List.set]
          refine heldOne (i := 6) (by kernel_rfl) rfl (by rfl) ?_
          go_simp
          go_at_call 109
          refine (rfixed_any _ g kk D s3 4 K1cbc.out.jp.rd (by decide) (by decide)).mono ?_
          rw [E4.out]
          rintro e v2cacc ⟨rfl, h3, gw3⟩
          have R5 := Aside0.mk (Kd.R_grown1 R4.out rfl gw3 (fun e => by have := Kd.R_base R4.out _ e.symm; omega))
          have K1cbcc := Aside0.mk (K1cbc.out.step h3 HD.out.2.2.2 gw3)
          refine ⟨R5.out, ?_⟩
          clear h3 gw3 K1cbc
          try simp only [Act.put, List.setIfInBounds_toArray, List.set]
          refine wpAnyH_take (i := 7) (v := ?_) rfl (by kernel_rfl) (by kernel_rfl) (by kernel_rfl) (fun _ _ _ h => h) (Or.inl ⟨by rfl, ?_⟩) R5.out ?_
          rotate_left
          · (intro wG hSw; go_simp; try with_reducible rfl)
          try simp only [Act.put, List.setIfInBounds_toArray, List.set]
          refine heldOne (i := 9) (by kernel_rfl) rfl (by rfl) ?_
          refine wp_store_blk 60 _ _ rfl K1cbcc.out.blk (jV (strOfNums x2) x3 x4 nilS nilS nilS) rfl rfl rfl info60 (jV_one rfl rfl rfl) ?_
          intro wz z1 z2 z3
          refine ⟨Kd.R_grown1 R5.out rfl z2 HQ.out, ?_⟩
          try simp only [Act.put, List.setIfInBounds_toArray, List.set]
          exact wpAnyH_done (by kernel_rfl) (hdone q5 A3 c3 wz (K1cbcc.out.put z1 z2)) _
      · skip
        go_simp
        have K1a := Aside0.mk K1.out.new
        unfold jV nilS at K1a
        obtain ⟨q5, hq5⟩ : ∃ q5, v2.heap.size = q5 := ⟨_, rfl⟩
        have K1b : Aside0 (JS W g kk D q2 q5 (v2.alloc (.cells #[.string ⟨#[]⟩, .int .i64 0, .int .i64 0, .slice none 0 0, .slice none 0 0, .slice none 0 0] 60)) s1 (jV .empty 0 0 nilS nilS nilS)) := ⟨by rw [← hq5]; exact K1a.out⟩
        rw [hq5]
        generalize v2.alloc (.cells #[.string ⟨#[]⟩, .int .i64 0, .int .i64 0, .slice none 0 0, .slice none 0 0, .slice none 0 0] 60) = v2a at K1b  ⊢
        clear K1a  hq5
        try simp only [Act.put, List.setIfInBounds_toArray, List.set]
        refine heldOne (i := 1) (by kernel_rfl) rfl (by rfl) ?_
        go_simp
        go_at_call 110
        refine (rtext_any _ g kk D s1 112 K1b.out.jp.rd (by decide)).mono ?_
        rw [E2.out]
        rintro e v2ac ⟨A3, c3, rfl, r3, h3, gw3⟩
        have K1bc := Aside0.mk (K1b.out.step h3 HD.out.2.1 gw3)
        have hbg := K1b.out.jp.rd.lt
        have R3 := Aside0.mk r3
        try simp only [Act.put, List.setIfInBounds_toArray, List.set]
        have HQ : Aside0 (some q5 ≠ (Value.slice A3 x2.length c3).ownBlock) := ⟨fun e => by have h1 := Kd.R_base r3 _ e.symm; have h2 := K1b.out.lt5; omega⟩
        clear r3 h3 gw3 K1b
        refine wpAnyH_weak (S' := fun u => Kd.R (Kd.int .u8) 5 u v2a.heap.size (fun _ => True) (.slice A3 x2.length c3) x2) (fun _ _ => trivial) _ _ _ _ ?_
        refine wpAnyH_take (i := 2) (v := ?_) rfl (by kernel_rfl) (by kernel_rfl) (by kernel_rfl) (fun _ _ _ h => h) (Or.inl ⟨by rfl, ?_⟩) R3.out ?_
        rotate_left
        · (intro wG hSw; have hcv := Kd.C_string (P := Tryz.prog) (src := 47) (dst := 9) (e := 5) (c := c3) Tryz.underlying47 Tryz.underlying5 und9 (Kd.R_reads' hSw).2.2; go_simp; try with_reducible rfl)
        try simp only [Act.put, List.setIfInBounds_toArray, List.set]
        refine heldOne (i := 4) (by kernel_rfl) rfl (by rfl) ?_
        go_simp
        go_at_call 109
        refine (rfixed_any _ g kk D s2 4 K1bc.out.jp.rd (by decide) (by decide)).mono ?_
        rw [E3.out]
        rintro e v2acc ⟨rfl, h3, gw3⟩
        have R4 := Aside0.mk (Kd.R_grown1 R3.out rfl gw3 (fun e => by have := Kd.R_base R3.out _ e.symm; omega))
        have K1bcc := Aside0.mk (K1bc.out.step h3 HD.out.2.2.1 gw3)
        refine ⟨R4.out, ?_⟩
        clear h3 gw3 K1bc
        try simp only [Act.put, List.setIfInBounds_toArray, List.set]
        refine heldOne (i := 6) (by kernel_rfl) rfl (by rfl) ?_
        go_simp
        go_at_call 109
        refine (rfixed_any _ g kk D s3 4 K1bcc.out.jp.rd (by decide) (by decide)).mono ?_
        rw [E4.out]
        rintro e v2accc ⟨rfl, h3, gw3⟩
        have R5 := Aside0.mk (Kd.R_grown1 R4.out rfl gw3 (fun e => by have := Kd.R_base R4.out _ e.symm; omega))
        have K1bccc := Aside0.mk (K1bcc.out.step h3 HD.out.2.2.2 gw3)
        refine ⟨R5.out, ?_⟩
        clear h3 gw3 K1bcc
        try simp only [Act.put, List.setIfInBounds_toArray, List.set]
        refine wpAnyH_take (i := 7) (v := ?_) rfl (by kernel_rfl) (by kernel_rfl) (by kernel_rfl) (fun _ _ _ h => h) (Or.inl ⟨by rfl, ?_⟩) R5.out ?_
        rotate_left
        · (intro wG hSw; go_simp; try with_reducible rfl)
        try simp only [Act.put, List.setIfInBounds_toArray, List.set]
        refine heldOne (i := 9) (by kernel_rfl) rfl (by rfl) ?_
        refine wp_store_blk 60 _ _ rfl K1bccc.out.blk (jV (strOfNums x2) x3 x4 nilS nilS nilS) rfl rfl rfl info60 (jV_one rfl rfl rfl) ?_
        intro wz z1 z2 z3
        refine ⟨Kd.R_grown1 R5.out rfl z2 HQ.out, ?_⟩
        try simp only [Act.put, List.setIfInBounds_toArray, List.set]
        exact wpAnyH_done (by kernel_rfl) (hdone q5 A3 c3 wz (K1bccc.out.put z1 z2)) _
    case rest =>
      intro q5 A3 c3 w4 J4
      have JS4 := Aside0.mk J4
      clear J4 K1 hb63
      have HD4 : Aside0 (s4.data = l ∧ s5.data = l ∧ s6.data = l) := by
        have a := HD.out
        have h5 := text_data s4 l.length
        rw [E5.out] at h5
        have h6 := num_data s5
        rw [E6.out] at h6
        simp only at h5 h6
        exact ⟨by rw [a.2.2.2, a.2.2.1, a.2.1, a.1], by rw [h5, a.2.2.2, a.2.2.1, a.2.1, a.1], by rw [h6, h5, a.2.2.2, a.2.2.1, a.2.1, a.1]⟩
      have HX5 : Aside0 (Byt x5 ∧ x5.length ≤ 140737488351232) := by
        have h := text_byt (s := s4) (by rw [HD4.out.1]; exact HBy.out) l.length
        rw [E5.out] at h
        exact ⟨h.1, by have := h.2; simp only at this; omega⟩
      by_cases hP5 : ∃ rs, Parsed x5 rs
      case neg =>
        have HP5 := Aside0.mk hP5
        clear hP5
        go_upto_region 8 with (first
          | (go_at_call 112; refine (rnum_any w6 g kk D s5 J6.out.jp.rd).mono ?_; rw [E6.out]; rintro e w7 ⟨rfl, h7, gw7⟩
             have J7 := Aside0.mk (J6.out.step h7 (by rw [HD4.out.2.1, HD4.out.2.2]) gw7)
             clear h7 gw7)
          | (go_at_call 111; refine (parse_no w5 A5 c5 x5 (Kd.R_reads' R5.out).2.2 HX5.out.1 HX5.out.2 HP5.out).mono ?_; rintro e w6 ⟨rfl, hb6⟩
             have J6 := Aside0.mk (J5.out.below hb6)
             clear hb6)
          | (go_at_call 110; refine (rtext_any w4 g kk D s4 l.length JS4.out.jp.rd hl).mono ?_; rw [E5.out]; rintro e w5 ⟨A5, c5, rfl, r5, h5, gw5⟩
             have J5 := Aside0.mk (JS4.out.step h5 (by rw [HD4.out.1, HD4.out.2.1]) gw5)
             have R5 := Aside0.mk r5
             clear r5 h5 gw5)
          | fail)
        go_wp2_with (first
          | (refine wpList_store_blk rfl rfl 60 _ _ rfl J7.out.jp.out (jV .empty 0 0 nilS nilS nilS) rfl rfl rfl info60 (jV_one rfl rfl rfl) ?_
             intro wz z1 z2 z3
             have HZ : Aside0 (Below W.heap.size W wz ∧ wz.heap[q2]? = some (.cells (jV .empty 0 0 nilS nilS nilS).toArray 60 (0, 0))) := ⟨J7.out.jp.bel.grown z2 J7.out.jp.bel.size (fun k hk => by cases hk; exact J7.out.jp.old), z1⟩
             clear z1 z2 z3)
          | fail)
        refine bodyPost_ret (results_ct60 (by rfl) rfl _ _ q2 rfl HZ.out.2) rfl ?_
        exact .no (fun j V K h => HP5.out ⟨j.res, by rw [(HG.out j V K h).res]; exact parsed_tab K.res V.res⟩) _ rfl (jV_one rfl rfl rfl) rfl HZ.out.1
      case pos =>
        obtain ⟨rs5, hP5⟩ := hP5
        have HP5 := Aside0.mk hP5
        clear hP5
        by_cases h64 : n ≤ 64
        case neg =>
          have H64 := Aside0.mk h64
          have h64i : (64 : Int) < (n : Int) := by omega
          clear h64
          go_upto_region 8 with (first
            | (go_at_call 112; refine (rnum_any w6 g kk D s5 J6.out.jp.rd).mono ?_; rw [E6.out]; rintro e w7 ⟨rfl, h7, gw7⟩
               have J7 := Aside0.mk (J6.out.step h7 (by rw [HD4.out.2.1, HD4.out.2.2]) gw7)
               clear h7 gw7)
            | (go_at_call 111; refine (parse_yes w5 A5 c5 x5 (Kd.R_reads' R5.out).2.2 HX5.out.1 HX5.out.2 HP5.out).mono ?_; rintro e w6 ⟨A6, c6, rfl, r6, ok6, hb6⟩
               have J6 := Aside0.mk (J5.out.below hb6)
               clear hb6 ok6 r6)
            | (go_at_call 110; refine (rtext_any w4 g kk D s4 l.length JS4.out.jp.rd hl).mono ?_; rw [E5.out]; rintro e w5 ⟨A5, c5, rfl, r5, h5, gw5⟩
               have J5 := Aside0.mk (JS4.out.step h5 (by rw [HD4.out.1, HD4.out.2.1]) gw5)
               have R5 := Aside0.mk r5
               clear r5 h5 gw5)
            | fail)
          go_wp2_with (first
            | (refine wpList_store_blk rfl rfl 60 _ _ rfl J7.out.jp.out (jV .empty 0 0 nilS nilS nilS) rfl rfl rfl info60 (jV_one rfl rfl rfl) ?_
               intro wz z1 z2 z3
               have HZ : Aside0 (Below W.heap.size W wz ∧ wz.heap[q2]? = some (.cells (jV .empty 0 0 nilS nilS nilS).toArray 60 (0, 0))) := ⟨J7.out.jp.bel.grown z2 J7.out.jp.bel.size (fun k hk => by cases hk; exact J7.out.jp.old), z1⟩
               clear z1 z2 z3)
            | fail)
          refine bodyPost_ret (results_ct60 (by rfl) rfl _ _ q2 rfl HZ.out.2) rfl ?_
          exact .no (fun j V K h => H64.out (by rw [(HG.out j V K h).many]; exact V.most)) _ rfl (jV_one rfl rfl rfl) rfl HZ.out.1
        case pos =>
          have H64 := Aside0.mk h64
          have h64i : (n : Int) ≤ 64 := by omega
          clear h64
          go_wp2_with (first
            | (go_at_call 112; refine (rnum_any w6 g kk D s5 J6.out.jp.rd).mono ?_; rw [E6.out]; rintro e w7 ⟨rfl, h7, gw7⟩
               have J7 := Aside0.mk (J6.out.step h7 (by rw [HD4.out.2.1, HD4.out.2.2]) gw7)
               have R7 := Aside0.mk (Kd.R_grown1 R6.out.1 rfl gw7 (fun e => by have h1 := Kd.R_base R6.out.1 _ e.symm; have h2 := R6.out.2; have h3 := J5.out.lt; omega))
               have B7 : Aside0 (w6.heap.size ≤ w7.heap.size) := ⟨gw7.size⟩
               clear h7 gw7)
            | (go_at_call 111; refine (parse_yes w5 A5 c5 x5 (Kd.R_reads' R5.out).2.2 HX5.out.1 HX5.out.2 HP5.out).mono ?_; rintro e w6 ⟨A6, c6, rfl, r6, ok6, hb6⟩
               have J6 := Aside0.mk (J5.out.below hb6)
               have OK6 := Aside0.mk ok6
               have R6 := Aside0.mk (⟨r6, J5.out.lt5⟩ : _ ∧ _)
               clear hb6 ok6 r6)
            | (go_at_call 110; refine (rtext_any w4 g kk D s4 l.length JS4.out.jp.rd hl).mono ?_; rw [E5.out]; rintro e w5 ⟨A5, c5, rfl, r5, h5, gw5⟩
               have J5 := Aside0.mk (JS4.out.step h5 (by rw [HD4.out.1, HD4.out.2.1]) gw5)
               have R5 := Aside0.mk r5
               clear r5 h5 gw5)
            | fail)
          obtain ⟨v6, hv6⟩ : ∃ v6 : Value, .slice A6 rs5.length c6 = v6 := ⟨_, rfl⟩
          have HV6 := Aside0.mk hv6
          have HR6 : Aside0 (Kd.R resK 33 w7 (q5 + 1) (fun _ => True) v6 rs5 ∧ (∀ k, v6.ownBlock = some k → k < w7.heap.size)) := ⟨by rw [← hv6]; exact ⟨Kd.R_lower R7.out R6.out.2, Kd.R_lt R7.out⟩⟩
          rw [hv6]
          clear hv6 R5 R6 R7 J5 J6 B7 JS4
          obtain ⟨b7, hb7⟩ : ∃ b7, w7.heap.size = b7 := ⟨_, rfl⟩
          rw [hb7] at HR6
          have HQ7 : Aside0 (q5 < b7) := ⟨by rw [← hb7]; exact J7.out.lt5⟩
          go_loopg [47] n (fun k v47 w' => ∃ (i : Nat) (v4 : Value), v47 = .int .i64 i ∧ i + k = n ∧ Aside0 (JS W g kk D q2 q5 w' (needS i s6).2 (jV (strOfNums x2) x3 x4 nilS v4 nilS)) ∧ Aside0 (Kd.R idK 29 w' b7 (fun _ => True) v4 (needS i s6).1) ∧ Aside0 (Kd.R resK 33 w' (q5 + 1) (fun _ => True) v6 rs5) ∧ Aside0 (b7 ≤ w'.heap.size))
          case atStart => exact ⟨0, nilS, rfl, by omega, J7, ⟨Kd.R_nil _ _ _ _ _⟩, ⟨HR6.out.1⟩, ⟨by omega⟩⟩
          case round =>
            obtain ⟨i, v4, rfl, hik, JL, RL, RV, BL⟩ := hrel
            cases gk with
            | zero =>
              obtain rfl : i = n := by omega
              rw [E7.out] at JL RL
              simp only at JL RL
              have hd0 : s7.data = l := by have h := needS_data i s6; rw [E7.out] at h; simp only at h; rw [h, HD4.out.2.2]
              have HD8 : Aside0 (s7.data = l ∧ s8.data = s7.data ∧ s9.data = s8.data) := by
                have h8 := text_data s7 l.length
                rw [E8.out] at h8
                have h9 := fixed_data s8 4
                rw [E9.out] at h9
                exact ⟨hd0, h8, h9⟩
              have HX8 : Aside0 (Byt x8 ∧ x8.length ≤ 140737488351232) := by
                have h := text_byt (s := s7) (by rw [hd0]; exact HBy.out) l.length
                rw [E8.out] at h
                exact ⟨h.1, by have := h.2; simp only at this; omega⟩
              have hdc : decide (i < i) = false := by simp
              clear hd0 hik
              by_cases hc9 : s9.code = 0
              case neg =>
                have HC9 := Aside0.mk hc9
                go_upto_region 19 with (first
                  | (go_at_call 114; refine (err_any w12 g kk D s9 J12.out.jp.rd).mono ?_; rintro e w13 ⟨rfl, hb13⟩
                     have J13 := Aside0.mk (J12.out.below hb13)
                     have B13 := Aside0.mk hb13
                     clear hb13)
                  | (go_at_call 109; refine (rfixed_any w11 g kk D s8 4 J11.out.jp.rd (by decide) (by decide)).mono ?_; rw [E9.out]; rintro e w12 ⟨rfl, h12, gw12⟩
                     have J12 := Aside0.mk (J11.out.step h12 HD8.out.2.2 gw12)
                     have G12 := Aside0.mk gw12
                     clear h12 gw12)
                  | (go_at_call 111; refine (parse_w w10 A10 c10 x8 (Kd.R_reads' R10.out).2.2 HX8.out.1 HX8.out.2).mono ?_; rintro e w11 ⟨A11, n11, c11, m11, rfl, hb11⟩
                     have J11 := Aside0.mk (J10.out.below hb11)
                     clear hb11)
                  | (go_at_call 110; refine (rtext_any wr g kk D s7 l.length JL.out.jp.rd hl).mono ?_; rw [E8.out]; rintro e w10 ⟨A10, c10, rfl, r10, h10, gw10⟩
                     have J10 := Aside0.mk (JL.out.step h10 HD8.out.2.1 gw10)
                     have R10 := Aside0.mk r10
                     have G10 := Aside0.mk gw10
                     clear r10 h10 gw10)
                  | fail)
                go_wp2_with (first
                  | (refine wpList_store_blk rfl rfl 60 _ _ rfl J13.out.jp.out (jV .empty 0 0 nilS nilS nilS) rfl rfl rfl info60 (jV_one rfl rfl rfl) ?_
                     intro wz z1 z2 z3
                     have HZ : Aside0 (Below W.heap.size W wz ∧ wz.heap[q2]? = some (.cells (jV .empty 0 0 nilS nilS nilS).toArray 60 (0, 0))) := ⟨J13.out.jp.bel.grown z2 J13.out.jp.bel.size (fun k hk => by cases hk; exact J13.out.jp.old), z1⟩
                     clear z1 z2 z3)
                  | fail)
                refine bodyPost_ret (results_ct60 (by rfl) rfl _ _ q2 rfl HZ.out.2) rfl ?_
                exact .no (fun j V K h => HC9.out ((HG.out j V K h).last E9.out).1) _ rfl (jV_one rfl rfl rfl) rfl HZ.out.1
              case pos =>
                have HC9 := Aside0.mk hc9
                by_cases hP8 : ∃ rs, Parsed x8 rs
                case neg =>
                  have HP8 := Aside0.mk hP8
                  clear hP8
                  go_upto_region 19 with (first
                    | (go_at_call 114; refine (err_any w12 g kk D s9 J12.out.jp.rd).mono ?_; rintro e w13 ⟨rfl, hb13⟩
                       have J13 := Aside0.mk (J12.out.below hb13)
                       have B13 := Aside0.mk hb13
                       clear hb13)
                    | (go_at_call 109; refine (rfixed_any w11 g kk D s8 4 J11.out.jp.rd (by decide) (by decide)).mono ?_; rw [E9.out]; rintro e w12 ⟨rfl, h12, gw12⟩
                       have J12 := Aside0.mk (J11.out.step h12 HD8.out.2.2 gw12)
                       have G12 := Aside0.mk gw12
                       clear h12 gw12)
                    | (go_at_call 111; refine (parse_no w10 A10 c10 x8 (Kd.R_reads' R10.out).2.2 HX8.out.1 HX8.out.2 HP8.out).mono ?_; rintro e w11 ⟨rfl, hb11⟩
                       have J11 := Aside0.mk (J10.out.below hb11)
                       clear hb11)
                    | (go_at_call 110; refine (rtext_any wr g kk D s7 l.length JL.out.jp.rd hl).mono ?_; rw [E8.out]; rintro e w10 ⟨A10, c10, rfl, r10, h10, gw10⟩
                       have J10 := Aside0.mk (JL.out.step h10 HD8.out.2.1 gw10)
                       have R10 := Aside0.mk r10
                       have G10 := Aside0.mk gw10
                       clear r10 h10 gw10)
                    | fail)
                  go_wp2_with (first
                    | (refine wpList_store_blk rfl rfl 60 _ _ rfl J13.out.jp.out (jV .empty 0 0 nilS nilS nilS) rfl rfl rfl info60 (jV_one rfl rfl rfl) ?_
                       intro wz z1 z2 z3
                       have HZ : Aside0 (Below W.heap.size W wz ∧ wz.heap[q2]? = some (.cells (jV .empty 0 0 nilS nilS nilS).toArray 60 (0, 0))) := ⟨J13.out.jp.bel.grown z2 J13.out.jp.bel.size (fun k hk => by cases hk; exact J13.out.jp.old), z1⟩
                       clear z1 z2 z3)
                    | fail)
                  refine bodyPost_ret (results_ct60 (by rfl) rfl _ _ q2 rfl HZ.out.2) rfl ?_
                  exact .no (fun j V K h => HP8.out ⟨j.tab, by rw [(HG.out j V K h).tab]; exact parsed_tab K.tab V.tab⟩) _ rfl (jV_one rfl rfl rfl) rfl HZ.out.1
                case pos =>
                  obtain ⟨rs8, hP8⟩ := hP8
                  have HP8 := Aside0.mk hP8
                  clear hP8
                  obtain ⟨lf, hlf⟩ : ∃ lf, s9.left = lf := ⟨_, rfl⟩
                  have HLF := Aside0.mk hlf
                  clear hlf
                  by_cases hl9 : lf = 0
                  case neg =>
                    have HL9 := Aside0.mk hl9
                    have hlb : ((lf : Int) == 0) = false := by simp; omega
                    go_upto_region 19 with (first
                      | (go_at_call 115; refine (left_any w13 g kk D s9 J13.out.jp.rd).mono ?_; rw [HLF.out]; rintro e w14 ⟨rfl, hb14⟩
                         have J14 := Aside0.mk (J13.out.below hb14)
                         have B14 := Aside0.mk hb14
                         clear hb14)
                      | (go_at_call 114; refine (err_any w12 g kk D s9 J12.out.jp.rd).mono ?_; rintro e w13 ⟨rfl, hb13⟩
                         have J13 := Aside0.mk (J12.out.below hb13)
                         have B13 := Aside0.mk hb13
                         clear hb13)
                      | (go_at_call 109; refine (rfixed_any w11 g kk D s8 4 J11.out.jp.rd (by decide) (by decide)).mono ?_; rw [E9.out]; rintro e w12 ⟨rfl, h12, gw12⟩
                         have J12 := Aside0.mk (J11.out.step h12 HD8.out.2.2 gw12)
                         have G12 := Aside0.mk gw12
                         clear h12 gw12)
                      | (go_at_call 111; refine (parse_yes w10 A10 c10 x8 (Kd.R_reads' R10.out).2.2 HX8.out.1 HX8.out.2 HP8.out).mono ?_; rintro e w11 ⟨A11, c11, rfl, r11, ok11, hb11⟩
                         have J11 := Aside0.mk (J10.out.below hb11)
                         have R11 := Aside0.mk r11
                         have OK11 := Aside0.mk ok11
                         have B11 := Aside0.mk hb11
                         clear r11 ok11 hb11)
                      | (go_at_call 110; refine (rtext_any wr g kk D s7 l.length JL.out.jp.rd hl).mono ?_; rw [E8.out]; rintro e w10 ⟨A10, c10, rfl, r10, h10, gw10⟩
                         have J10 := Aside0.mk (JL.out.step h10 HD8.out.2.1 gw10)
                         have R10 := Aside0.mk r10
                         have G10 := Aside0.mk gw10
                         clear r10 h10 gw10)
                      | fail)
                    go_wp2_with (first
                      | (refine wpList_store_blk rfl rfl 60 _ _ rfl J14.out.jp.out (jV .empty 0 0 nilS nilS nilS) rfl rfl rfl info60 (jV_one rfl rfl rfl) ?_
                         intro wz z1 z2 z3
                         have HZ : Aside0 (Below W.heap.size W wz ∧ wz.heap[q2]? = some (.cells (jV .empty 0 0 nilS nilS nilS).toArray 60 (0, 0))) := ⟨J14.out.jp.bel.grown z2 J14.out.jp.bel.size (fun k hk => by cases hk; exact J14.out.jp.old), z1⟩
                         clear z1 z2 z3)
                      | fail)
                    refine bodyPost_ret (results_ct60 (by rfl) rfl _ _ q2 rfl HZ.out.2) rfl ?_
                    exact .no (fun j V K h => HL9.out (by rw [← HLF.out]; exact ((HG.out j V K h).last E9.out).2)) _ rfl (jV_one rfl rfl rfl) rfl HZ.out.1
                  case pos =>
                    have HL9 := Aside0.mk hl9
                    obtain ⟨A4, c4, rfl⟩ := Kd.R_slice RL.out
                    go_upto_region 20 with (first
                      | (go_at_call 115; refine (left_any w13 g kk D s9 J13.out.jp.rd).mono ?_; rw [HLF.out]; rintro e w14 ⟨rfl, hb14⟩
                         have J14 := Aside0.mk (J13.out.below hb14)
                         have B14 := Aside0.mk hb14
                         clear hb14)
                      | (go_at_call 114; refine (err_any w12 g kk D s9 J12.out.jp.rd).mono ?_; rintro e w13 ⟨rfl, hb13⟩
                         have J13 := Aside0.mk (J12.out.below hb13)
                         have B13 := Aside0.mk hb13
                         clear hb13)
                      | (go_at_call 109; refine (rfixed_any w11 g kk D s8 4 J11.out.jp.rd (by decide) (by decide)).mono ?_; rw [E9.out]; rintro e w12 ⟨rfl, h12, gw12⟩
                         have J12 := Aside0.mk (J11.out.step h12 HD8.out.2.2 gw12)
                         have G12 := Aside0.mk gw12
                         clear h12 gw12)
                      | (go_at_call 111; refine (parse_yes w10 A10 c10 x8 (Kd.R_reads' R10.out).2.2 HX8.out.1 HX8.out.2 HP8.out).mono ?_; rintro e w11 ⟨A11, c11, rfl, r11, ok11, hb11⟩
                         have J11 := Aside0.mk (J10.out.below hb11)
                         have R11 := Aside0.mk r11
                         have OK11 := Aside0.mk ok11
                         have B11 := Aside0.mk hb11
                         clear r11 ok11 hb11)
                      | (go_at_call 110; refine (rtext_any wr g kk D s7 l.length JL.out.jp.rd hl).mono ?_; rw [E8.out]; rintro e w10 ⟨A10, c10, rfl, r10, h10, gw10⟩
                         have J10 := Aside0.mk (JL.out.step h10 HD8.out.2.1 gw10)
                         have R10 := Aside0.mk r10
                         have G10 := Aside0.mk gw10
                         clear r10 h10 gw10)
                      | fail)
                    have ne6 : ∀ u, (Value.slice A6 rs5.length c6).ownBlock = some u → q5 + 1 ≤ u := fun u e => Kd.R_base RV.out u (by rw [← HV6.out]; exact e)
                    have ne4 : ∀ u, (Value.slice A4 x7.length c4).ownBlock = some u → b7 ≤ u := fun u e => Kd.R_base RL.out u e
                    have ne8 : ∀ u, (Value.slice A11 rs8.length c11).ownBlock = some u → w10.heap.size ≤ u := fun u e => Kd.R_base R11.out u e
                    have RV14 : Aside0 (Kd.R resK 33 w14 (q5 + 1) (fun _ => True) (.slice A6 rs5.length c6) rs5) := ⟨Kd.R_below (Kd.R_below (Kd.R_grown1 (Kd.R_below (Kd.R_grown1 (by rw [HV6.out]; exact RV.out) rfl G10.out (fun e => by have h1 := ne6 g e.symm; have h2 := JL.out.lt; omega)) B11.out) rfl G12.out (fun e => by have h1 := ne6 g e.symm; have h2 := JL.out.lt; omega)) B13.out) B14.out⟩
                    have RL14 : Aside0 (Kd.R idK 29 w14 b7 (fun _ => True) (.slice A4 x7.length c4) x7) := ⟨Kd.R_below (Kd.R_below (Kd.R_grown1 (Kd.R_below (Kd.R_grown1 RL.out rfl G10.out (fun e => by have h1 := ne4 g e.symm; have h2 := JL.out.lt; have h3 := HQ7.out; omega)) B11.out) rfl G12.out (fun e => by have h1 := ne4 g e.symm; have h2 := JL.out.lt; have h3 := HQ7.out; omega)) B13.out) B14.out⟩
                    have R814 : Aside0 (Kd.R resK 33 w14 w10.heap.size (fun _ => True) (.slice A11 rs8.length c11) rs8) := ⟨Kd.R_below (Kd.R_below (Kd.R_grown1 R11.out rfl G12.out (fun e => by have h1 := ne8 g e.symm; have h2 := J10.out.lt; have h3 := J10.out.lt5; omega)) B13.out) B14.out⟩
                    have h10 := J10.out.lt5
                    have H6 := HV6.out
                    rw [← H6]
                    have k3 : w14.cell? ⟨q5, 3, none⟩ = some (.slice none 0 0) := (blk_cell J14.out.blk _).trans rfl
                    have k5 : w14.cell? ⟨q5, 5, none⟩ = some (.slice none 0 0) := (blk_cell J14.out.blk _).trans rfl
                    have f3 : w14.frozen? ⟨q5, 3, none⟩ = false := blk_frozen J14.out.blk _
                    have f5 : w14.frozen? ⟨q5, 5, none⟩ = false := blk_frozen J14.out.blk _
                    have hb3 : (w14.setCell ⟨q5, 3, none⟩ (.slice A6 rs5.length c6)).heap[q5]? = some (Obj.cells (jV (strOfNums x2) x3 x4 (.slice A6 rs5.length c6) (.slice A4 x7.length c4) nilS).toArray 60 (0, 0)) := blk_set J14.out.blk 3 (.slice A6 rs5.length c6)
                    have JT : Aside0 (JS W g kk D q2 q5 ((w14.setCell ⟨q5, 3, none⟩ (.slice A6 rs5.length c6)).setCell ⟨q5, 5, none⟩ (.slice A11 rs8.length c11)) s9 (jC ⟨strOfNums x2, x3, x4, rs5, x7, rs8⟩ A6 c6 A4 c4 A11 c11)) :=
                      ⟨(J14.out.put (ds := jV (strOfNums x2) x3 x4 (.slice A6 rs5.length c6) (.slice A4 x7.length c4) nilS) hb3 (grown_set w14 ⟨q5, 3, none⟩ _)).put (blk_set hb3 5 (.slice A11 rs8.length c11)) (grown_set _ ⟨q5, 5, none⟩ _)⟩
                    have RT : Aside0 (Kd.R resK 33 ((w14.setCell ⟨q5, 3, none⟩ (.slice A6 rs5.length c6)).setCell ⟨q5, 5, none⟩ (.slice A11 rs8.length c11)) (q5 + 1) (fun _ => True) (.slice A6 rs5.length c6) rs5 ∧ Kd.R idK 29 ((w14.setCell ⟨q5, 3, none⟩ (.slice A6 rs5.length c6)).setCell ⟨q5, 5, none⟩ (.slice A11 rs8.length c11)) (q5 + 1) (fun _ => True) (.slice A4 x7.length c4) x7 ∧ Kd.R resK 33 ((w14.setCell ⟨q5, 3, none⟩ (.slice A6 rs5.length c6)).setCell ⟨q5, 5, none⟩ (.slice A11 rs8.length c11)) (q5 + 1) (fun _ => True) (.slice A11 rs8.length c11) rs8) :=
                      ⟨Kd.R_grown1 (Kd.R_grown1 RV14.out rfl (grown_set w14 ⟨q5, 3, none⟩ _) (fun e => by have h1 := ne6 q5 e.symm; omega)) rfl (grown_set _ ⟨q5, 5, none⟩ _) (fun e => by have h1 := ne6 q5 e.symm; omega),
                       Kd.R_lower (Kd.R_grown1 (Kd.R_grown1 RL14.out rfl (grown_set w14 ⟨q5, 3, none⟩ _) (fun e => by have h1 := ne4 q5 e.symm; have h3 := HQ7.out; omega)) rfl (grown_set _ ⟨q5, 5, none⟩ _) (fun e => by have h1 := ne4 q5 e.symm; have h3 := HQ7.out; omega)) HQ7.out,
                       Kd.R_lower (Kd.R_grown1 (Kd.R_grown1 R814.out rfl (grown_set w14 ⟨q5, 3, none⟩ _) (fun e => by have h1 := ne8 q5 e.symm; omega)) rfl (grown_set _ ⟨q5, 5, none⟩ _) (fun e => by have h1 := ne8 q5 e.symm; omega)) h10⟩
                    have HK : Aside0 (JnOk ⟨strOfNums x2, x3, x4, rs5, x7, rs8⟩) := ⟨OK6.out, needS_ok i s6 x7 s7 E7.out (by rw [HD4.out.2.2]; exact HBy.out), OK11.out⟩
                    clear hb3 ne6 ne4 ne8 RV14 RL14 R814 h10 H6 JL RL RV R11 R10 G10 G12 B11 B13 B14 J10 J11 J12 J13
                    go_upto_region 21 with (fail)
                    obtain ⟨w15, hw15⟩ : ∃ w15, (w14.setCell ⟨q5, 3, none⟩ (.slice A6 rs5.length c6)).setCell ⟨q5, 5, none⟩ (.slice A11 rs8.length c11) = w15 := ⟨_, rfl⟩
                    rw [hw15] at JT RT ⊢
                    obtain ⟨j, hj⟩ : ∃ j : Jn, (⟨strOfNums x2, x3, x4, rs5, x7, rs8⟩ : Jn) = j := ⟨_, rfl⟩
                    have ej : j.res = rs5 ∧ j.need = x7 ∧ j.tab = rs8 := by rw [← hj]; exact ⟨rfl, rfl, rfl⟩
                    rw [hj] at JT HK
                    rw [← ej.1, ← ej.2.1, ← ej.2.2] at RT
                    have HXB : Byt x2 := by
                      have h := text_byt (s := s1) (by rw [HD.out.1]; exact HBy.out) 112
                      rw [E2.out] at h
                      exact h.1
                    have HU : Aside0 (∀ j', JnV j' → JnOk j' → encW j' = l → j' = j) := ⟨fun j' V K h => by rw [got_is V K (HG.out j' V K h) HXB HP5.out HP8.out, hj]⟩
                    have HJA : Aside0 (JAt w15 j A6 c6 A4 c4 A11 c11) := ⟨⟨HK.out, (Kd.R_reads' RT.out.1).2.2, (Kd.R_reads' RT.out.1).2.1, (Kd.R_reads' RT.out.2.1).2.2, (Kd.R_reads' RT.out.2.1).2.1, (Kd.R_reads' RT.out.2.2).2.2, (Kd.R_reads' RT.out.2.2).2.1⟩⟩
                    have hld : rowOf w15 ⟨q5, 0, none⟩ 6 = some (jC j A6 c6 A4 c4 A11 c11) := jrow JT.out.blk
                    have hV := HP.out j (by rw [← hj]; exact HRd.out rs5 rs8 HP5.out HP8.out)
                    clear hw15 ej HXB k3 k5 f3 f5 J14
                    have HV := Aside0.mk hV
                    clear hV
                    go_upto_region 22 with (first
                      | (go_at_call 19; refine (enc_no j A6 c6 A4 c4 A11 c11 w15 HJA.out HV.out).mono ?_; rintro e w16 ⟨⟨gf, rfl, hf1, hf2⟩, hb16⟩
                         have JT16 := Aside0.mk (JT.out.below hb16)
                         clear hf1 hf2 hb16)
                      | fail)
                    refine wp_region_held (S := fun u => rowOf u ⟨q5, 0, none⟩ 6 = some (jC j A6 c6 A4 c4 A11 c11)) (by kernel_rfl) ?_
                    change wpAnyH _ _ _ _ _ _ _ _ w16.drew
                    have S16 : Aside0 (rowOf w16.drew ⟨q5, 0, none⟩ 6 = some (jC j A6 c6 A4 c4 A11 c11)) := ⟨jrow (blk_drew JT16.out.blk)⟩
                    refine wpAnyH_take (i := 1) (v := ?_) rfl (by kernel_rfl) (by kernel_rfl) (by kernel_rfl) (fun _ _ _ h => h) (Or.inl ⟨by kernel_rfl, ?_⟩) S16.out ?_
                    rotate_left
                    · (intro wG hSw; have qS : rowOf wG ⟨q5, 0, none⟩ 6 = some (jC j A6 c6 A4 c4 A11 c11) := hSw; go_simp; try with_reducible rfl)
                    try simp only [Act.put, List.getElem_toArray, List.getElem_cons_succ, List.getElem_cons_zero, List.setIfInBounds_toArray, List.set]
                    refine wpAnyH_take (i := 2) (v := ?_) rfl (by kernel_rfl) (by kernel_rfl) (by kernel_rfl) (fun _ _ _ h => h) (Or.inl ⟨by kernel_rfl, ?_⟩) S16.out ?_
                    rotate_left
                    · (intro wG hSw; have qS : rowOf wG ⟨q5, 0, none⟩ 6 = some (jC j A6 c6 A4 c4 A11 c11) := hSw; go_simp; try with_reducible rfl)
                    try simp only [Act.put, List.getElem_toArray, List.getElem_cons_succ, List.getElem_cons_zero, List.setIfInBounds_toArray, List.set]
                    refine wpAnyH_take (i := 3) (v := ?_) rfl (by kernel_rfl) (by kernel_rfl) (by kernel_rfl) (fun _ _ _ h => h) (Or.inl ⟨by kernel_rfl, ?_⟩) S16.out ?_
                    rotate_left
                    · (intro wG hSw; have qS : rowOf wG ⟨q5, 0, none⟩ 6 = some (jC j A6 c6 A4 c4 A11 c11) := hSw; go_simp; try with_reducible rfl)
                    try simp only [Act.put, List.getElem_toArray, List.getElem_cons_succ, List.getElem_cons_zero, List.setIfInBounds_toArray, List.set]
                    refine wpAnyH_take (i := 0) (v := ?_) rfl (by kernel_rfl) (by kernel_rfl) (by kernel_rfl) (fun _ _ _ h => h) (Or.inl ⟨by kernel_rfl, ?_⟩) S16.out ?_
                    rotate_left
                    · (intro wG hSw; have qS : rowOf wG ⟨q5, 0, none⟩ 6 = some (jC j A6 c6 A4 c4 A11 c11) := hSw; go_simp; try with_reducible rfl)
                    try simp only [Act.put, List.getElem_toArray, List.getElem_cons_succ, List.getElem_cons_zero, List.setIfInBounds_toArray, List.set]
                    refine wpAnyH_take (i := 4) (v := undef) rfl (by kernel_rfl) (by kernel_rfl) (by kernel_rfl) (fun _ _ _ h => h) (Or.inr ⟨by kernel_rfl, rfl⟩) S16.out ?_
                    try simp only [Act.put, List.getElem_toArray, List.getElem_cons_succ, List.getElem_cons_zero, List.setIfInBounds_toArray, List.set]
                    refine wpAnyH_take (i := 5) (v := undef) rfl (by kernel_rfl) (by kernel_rfl) (by kernel_rfl) (fun _ _ _ h => h) (Or.inr ⟨by kernel_rfl, rfl⟩) S16.out ?_
                    try simp only [Act.put, List.getElem_toArray, List.getElem_cons_succ, List.getElem_cons_zero, List.setIfInBounds_toArray, List.set]
                    refine wpAnyH_take (i := 6) (v := undef) rfl (by kernel_rfl) (by kernel_rfl) (by kernel_rfl) (fun _ _ _ h => h) (Or.inr ⟨by kernel_rfl, rfl⟩) S16.out ?_
                    try simp only [Act.put, List.getElem_toArray, List.getElem_cons_succ, List.getElem_cons_zero, List.setIfInBounds_toArray, List.set]
                    refine wpAnyH_take (i := 7) (v := ?_) rfl (by kernel_rfl) (by kernel_rfl) (by kernel_rfl) (fun _ _ _ h => h) (Or.inl ⟨by kernel_rfl, ?_⟩) S16.out ?_
                    rotate_left
                    · (intro wG hSw; have qS : rowOf wG ⟨q5, 0, none⟩ 6 = some (jC j A6 c6 A4 c4 A11 c11) := hSw; go_simp; try with_reducible rfl)
                    try simp only [Act.put, List.getElem_toArray, List.getElem_cons_succ, List.getElem_cons_zero, List.setIfInBounds_toArray, List.set]
                    have JT17 := Aside0.mk (JT16.out.below (below_drew (Below.refl _ _)))
                    refine heldOne (i := 8) (by kernel_rfl) rfl (by kernel_rfl) ?_
                    refine wp_store_blk 60 _ _ rfl JT17.out.jp.out (jC j A6 c6 A4 c4 A11 c11) rfl rfl rfl info60 jC_one ?_
                    intro wz z1 z2 z3
                    have SZ : Aside0 (rowOf wz ⟨q5, 0, none⟩ 6 = some (jC j A6 c6 A4 c4 A11 c11)) := ⟨jrow (blk_grown JT17.out.blk z2 (fun e => absurd (Option.some.inj e) (by have h1 := JT17.out.lt; have h2 := JT17.out.jp.lt2; omega)))⟩
                    have HZ : Aside0 (Below W.heap.size W wz ∧ wz.heap[q2]? = some (.cells (jC j A6 c6 A4 c4 A11 c11).toArray 60 (0, 0))) := ⟨JT17.out.jp.bel.grown z2 JT17.out.jp.bel.size (fun k hk => by cases hk; exact JT17.out.jp.old), z1⟩
                    have ZZ := Aside0.mk z2
                    refine ⟨SZ.out, ?_⟩
                    clear z1 z2 z3
                    try simp only [Act.put, List.getElem_toArray, List.getElem_cons_succ, List.getElem_cons_zero, List.setIfInBounds_toArray, List.set]
                    refine wpAnyH_take (i := 9) (v := ?_) rfl (by kernel_rfl) (by kernel_rfl) (by kernel_rfl) (fun _ _ _ h => h) (Or.inl ⟨by kernel_rfl, ?_⟩) SZ.out ?_
                    rotate_left
                    · (intro wG hSw; have qS : rowOf wG ⟨q5, 0, none⟩ 6 = some (jC j A6 c6 A4 c4 A11 c11) := hSw; go_simp; try with_reducible rfl)
                    try simp only [Act.put, List.getElem_toArray, List.getElem_cons_succ, List.getElem_cons_zero, List.setIfInBounds_toArray, List.set]
                    refine wpAnyH_done (by kernel_rfl) ?_ _
                    go_wp2
                    refine bodyPost_ret (results_ct60 (by rfl) rfl _ _ q2 rfl HZ.out.2) rfl ?_
                    exact .no (fun j' V K h => HV.out (by rw [← HU.out j' V K h]; exact V)) _ rfl jC_one rfl HZ.out.1
            | succ q =>
              have hi : i < n := by omega
              have hi1 : (i : Int) < (n : Int) := by omega
              go_upto_region 12 with (fail)
              obtain ⟨q9, hq9⟩ : ∃ q9, wr.heap.size = q9 := ⟨_, rfl⟩
              obtain ⟨wa, hwa⟩ : ∃ wa, wr.alloc (.cells #[.int .u8 0, .int .u8 0, .int .u8 0, .int .u8 0, .int .u8 0, .int .u8 0, .int .u8 0, .int .u8 0, .int .u8 0, .int .u8 0, .int .u8 0, .int .u8 0, .int .u8 0, .int .u8 0, .int .u8 0, .int .u8 0, .int .u8 0, .int .u8 0, .int .u8 0, .int .u8 0, .int .u8 0, .int .u8 0, .int .u8 0, .int .u8 0, .int .u8 0, .int .u8 0, .int .u8 0, .int .u8 0, .int .u8 0, .int .u8 0, .int .u8 0, .int .u8 0] 29) = wa := ⟨_, rfl⟩
              have K9 : Aside0 (wa.heap[q9]? = some (.cells (u8s zero32).toArray 29 (0, 0)) ∧ q9 < wa.heap.size) := ⟨by rw [← hwa, ← hq9]; exact ⟨heap_alloc_new wr _, by simp⟩⟩
              have J9 : Aside0 (JS W g kk D q2 q5 wa (needS i s6).2 (jV (strOfNums x2) x3 x4 nilS v4 nilS)) := ⟨by rw [← hwa]; exact JL.out.below (below_alloc (Below.refl _ _) _)⟩
              have A9 : Aside0 (Kd.R idK 29 wa b7 (fun _ => True) v4 (needS i s6).1) := ⟨by rw [← hwa]; exact Kd.R_alloc RL.out _⟩
              have V9 : Aside0 (Kd.R resK 33 wa (q5 + 1) (fun _ => True) v6 rs5) := ⟨by rw [← hwa]; exact Kd.R_alloc RV.out _⟩
              have N9 : Aside0 (b7 ≤ q9 ∧ some q9 ≠ v4.ownBlock ∧ some q9 ≠ v6.ownBlock) := ⟨by rw [← hq9]; exact ⟨BL.out, fun e => absurd (Kd.R_lt RL.out _ e.symm) (Nat.lt_irrefl _), fun e => absurd (Kd.R_lt RV.out _ e.symm) (Nat.lt_irrefl _)⟩⟩
              rw [hwa, hq9]
              clear hwa hq9 JL RL RV BL
              obtain ⟨y, hy⟩ : ∃ y, (needS i s6).2 = y := ⟨_, rfl⟩
              obtain ⟨⟨x, y1⟩, ex⟩ : ∃ p, y.raw 32 = p := ⟨_, rfl⟩
              rw [hy] at J9
              have EX := Aside0.mk ex
              have hyb : Byt y.data := J9.out.jp.rd.byt
              have XB : Aside0 (x.length ≤ 32 ∧ Byt x) := ⟨by have h := raw_byt hyb 32; rw [ex] at h; exact ⟨h.2, h.1⟩⟩
              have DX : Aside0 (y1.data = y.data) := ⟨by have h := raw_data y 32; rw [ex] at h; exact h⟩
              have HN : Aside0 (needS (i + 1) s6 = ((needS i s6).1 ++ [pad32 x], y1)) := ⟨by rw [needS_snoc, hy, ex]⟩
              have HL : Aside0 ((needS i s6).1.length = i) := ⟨needS_len i s6⟩
              clear hy ex hyb
              refine wp_region_held (S := fun _ => True) (by kernel_rfl) ?_
              refine wpAnyH_take (i := 0) (v := ?_) rfl (by kernel_rfl) (by kernel_rfl) (by kernel_rfl) (fun _ _ _ h => h) (Or.inl ⟨by rfl, ?_⟩) trivial ?_
              rotate_left
              · (intro wG hSw; go_simp; try with_reducible rfl)
              try simp only [Act.put, List.setIfInBounds_toArray, List.set]
              refine wpAnyH_take (i := 1) (v := ?_) rfl (by kernel_rfl) (by kernel_rfl) (by kernel_rfl) (fun _ _ _ h => h) (Or.inl ⟨by rfl, ?_⟩) trivial ?_
              rotate_left
              · (intro wG hSw; go_simp; try with_reducible rfl)
              try simp only [Act.put, List.setIfInBounds_toArray, List.set]
              refine heldOne (i := 2) (by kernel_rfl) rfl (by rfl) ?_
              go_simp
              go_at_call 113
              refine (rraw_any _ g kk D y 32 (J9.out.jp.rd.below (below_drew (Below.refl _ _))) (by decide)).mono ?_
              rw [EX.out]
              rintro e wc ⟨Ac, cc, rfl, rc, hc, gwc⟩
              try simp only [Act.put, List.setIfInBounds_toArray, List.set]
              refine heldOne (i := 3) (by kernel_rfl) rfl (by rfl) ?_
              have bc := blk_grown (blk_drew K9.out.1) gwc (fun e => absurd (Option.some.inj e) (by have := J9.out.lt; have := HQ7.out; have := N9.out.1; omega))
              refine wp_copy32 (.tmp 49) (.tmp 51) rfl q9 0 32 cc Ac x rfl rfl _ 29 bc (Kd.R_reads' rc).2.2 XB.out.1 (by simp [u8s_length, zero32]) ?_
              intro wd hwd gwd
              have hszd : b7 ≤ wc.heap.size := by have h1 := gwc.size; have h2 := K9.out.2; have h3 := N9.out.1; simp at h1; omega
              have KD : Aside0 (wd.heap[q9]? = some (.cells (u8s (pad32 x)).toArray 29 (0, 0)) ∧ b7 ≤ wd.heap.size) := ⟨by rw [hwd, pad_splice], Nat.le_trans hszd gwd.size⟩
              have JD : Aside0 (JS W g kk D q2 q5 wd y1 (jV (strOfNums x2) x3 x4 nilS v4 nilS)) := ⟨((J9.out.below (below_drew (Below.refl _ _))).step hc DX.out gwc).low HQ7.out (below_grown gwd N9.out.1 hszd)⟩
              have AD : Aside0 (Kd.R idK 29 wd b7 (fun _ => True) v4 (needS i s6).1) := ⟨Kd.R_grown1 (Kd.R_grown1 (Kd.R_below A9.out (below_drew (Below.refl _ _))) rfl gwc (fun e => by have h1 := Kd.R_base A9.out _ e.symm; have h2 := J9.out.lt; have h3 := HQ7.out; omega)) rfl gwd N9.out.2.1⟩
              have VD : Aside0 (Kd.R resK 33 wd (q5 + 1) (fun _ => True) v6 rs5) := ⟨Kd.R_grown1 (Kd.R_grown1 (Kd.R_below V9.out (below_drew (Below.refl _ _))) rfl gwc (fun e => by have h1 := Kd.R_base V9.out _ e.symm; have h2 := J9.out.lt; omega)) rfl gwd N9.out.2.2⟩
              refine ⟨trivial, ?_⟩
              try simp only [Act.put, List.setIfInBounds_toArray, List.set]
              refine wpAnyH_done (by kernel_rfl) ?_ _
              have hpo := pad32_ok XB.out.1 XB.out.2
              have hld : rowOf wd ⟨q9, 0, none⟩ 32 = some (u8s (pad32 x)) := (At.blk KD.out.1).id hpo
              have c54 : wd.cell? ⟨q5, 4, none⟩ = some v4 := (blk_cell JD.out.blk _).trans rfl
              have Hpo := Aside0.mk hpo
              obtain ⟨z, hz1, hz2⟩ := info29x
              have Hz := Aside0.mk (And.intro hz1 hz2)
              clear rc hc gwc bc hwd gwd hszd J9 A9 V9 K9 hpo hz1 hz2
              go_upto_region 14 with (first
                | (refine wpList_build29 rfl _ rfl (pad32 x) Hpo.out rfl ?_)
                | (at_builtin; refine Kd.R_append idK (w0 := wd) b7 rfl (.tmp 54) (.tmp 56) 23 29 z 32 rfl Tryz.underlying23 Hz.out.1 Hz.out.2 (by decide) (by decide) v4 (needS i s6).1 (pad32 x) (u8s (pad32 x)) (fun _ => True) (fun _ => False) rfl rfl (id_M Hpo.out) (fun _ h => h.elim) (fun _ _ => trivial) AD.out (Below.refl _ _) KD.out.2 (by rw [HL.out]; omega) ?_
                   intro ve we h1 h2 h3 h4
                   obtain ⟨Ae, ce, rfl⟩ := Kd.R_slice h1
                   have JE := Aside0.mk (JD.out.low HQ7.out h2)
                   have VE := Aside0.mk (R_lowE rfl VD.out HR6.out.2 h2)
                   have AE := Aside0.mk h1
                   have BE : Aside0 (b7 ≤ we.heap.size) := ⟨Nat.le_trans KD.out.2 h2.size⟩
                   have c55 : we.cell? ⟨q5, 4, none⟩ = some v4 := (blk_cell JE.out.blk _).trans rfl
                   have f55 : we.frozen? ⟨q5, 4, none⟩ = false := blk_frozen JE.out.blk _
                   clear h1 h2 h3 h4)
                | go_in)
              have JF : Aside0 (JS W g kk D q2 q5 (we.setCell ⟨q5, 4, none⟩ (.slice Ae ((needS i s6).1 ++ [pad32 x]).length ce)) y1 (jV (strOfNums x2) x3 x4 nilS (.slice Ae ((needS i s6).1 ++ [pad32 x]).length ce) nilS)) := ⟨JE.out.put (blk_set JE.out.blk 4 _) (grown_set we ⟨q5, 4, none⟩ _)⟩
              have hle : ((needS i s6).1 ++ [pad32 x]).length = (needS i s6).1.length + 1 := by simp
              rw [hle] at JF AE
              have HF : Aside0 (Kd.R idK 29 (we.setCell ⟨q5, 4, none⟩ (.slice Ae ((needS i s6).1.length + 1) ce)) b7 (fun _ => True) (.slice Ae ((needS i s6).1.length + 1) ce) ((needS i s6).1 ++ [pad32 x]) ∧ Kd.R resK 33 (we.setCell ⟨q5, 4, none⟩ (.slice Ae ((needS i s6).1.length + 1) ce)) (q5 + 1) (fun _ => True) v6 rs5 ∧ b7 ≤ (we.setCell ⟨q5, 4, none⟩ (.slice Ae ((needS i s6).1.length + 1) ce)).heap.size) :=
                ⟨Kd.R_grown1 AE.out rfl (grown_set we ⟨q5, 4, none⟩ _) (fun e => by have h1 : b7 ≤ q5 := Kd.R_base AE.out _ e.symm; have h2 := HQ7.out; omega), Kd.R_grown1 VE.out rfl (grown_set we ⟨q5, 4, none⟩ _) (fun e => by have h1 : q5 + 1 ≤ q5 := Kd.R_base VE.out _ e.symm; omega), Nat.le_trans BE.out (grown_set we ⟨q5, 4, none⟩ _).size⟩
              clear hle AE VE BE JE c54 c55 f55 AD VD KD JD
              generalize we.setCell ⟨q5, 4, none⟩ (.slice Ae ((needS i s6).1.length + 1) ce) = wf at HF JF ⊢
              go_wp2
              go_roundg q
              case measure => omega
              case rel => exact ⟨i + 1, _, by go_num, by omega, ⟨by rw [HN.out]; exact JF.out⟩, ⟨by rw [HN.out]; exact HF.out.1⟩, ⟨HF.out.2.1⟩, ⟨HF.out.2.2⟩⟩
end Go.Proofs.YtdekmeanlcpenaaGreatDoor.Codec

namespace Go.Proofs.YtdekmeanlcpenaaGreatDoor.Codec
open Go.RowKit Go.Proofs.YtdekmeanlcpenaaGreatDoorW.PrintWords Go.Proofs.YtdekmeanlcpenaaGreatDoor.Mid Go.Proofs.YtdekmeanlcpenaaGreatDoor.Pick Go.Proofs.YtdekmeanlcpenaaGreatDoor.Block
theorem jread_any (W : World) (A : Option Addr) (c : Nat) (l : List Int) (hC : Kd.C (Kd.int .u8) W A l.length l) (hb : Byt l) (hl : l.length ≤ 140737488351232) (hcp : l.length ≤ c) :
    Calls Tryz.prog 65 #[.slice A l.length c] W (RetRead W l) := by
  by_cases h : ∃ j, JnRead l j ∧ JnV j
  · obtain ⟨j, h1, h2⟩ := h
    exact jread_T W A c l hC hb hl hcp (fun i hi => by rw [hi.one h1]; exact h2)
  · exact jread_F W A c l hC hb hl hcp (fun i hi hv => h ⟨i, hi, hv⟩)
end Go.Proofs.YtdekmeanlcpenaaGreatDoor.Codec
