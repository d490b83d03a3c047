import Derived.Test.YtdekmeanlcpenaaGreatDoorCg7
set_option linter.unusedSimpArgs false
set_option linter.unusedVariables false
namespace Go.Proofs.YtdekmeanlcpenaaGreatDoor.Block
end Go.Proofs.YtdekmeanlcpenaaGreatDoor.Block
namespace Go.Proofs.YtdekmeanlcpenaaGreatDoor.Mid
end Go.Proofs.YtdekmeanlcpenaaGreatDoor.Mid
namespace Go.Proofs.YtdekmeanlcpenaaGreatDoor.PIntakeDecodes
end Go.Proofs.YtdekmeanlcpenaaGreatDoor.PIntakeDecodes
namespace Go.Proofs.YtdekmeanlcpenaaGreatDoor.Pick
end Go.Proofs.YtdekmeanlcpenaaGreatDoor.Pick
namespace Go.Proofs.YtdekmeanlcpenaaGreatDoor.Codec
open Go.RowKit Go.Proofs.YtdekmeanlcpenaaGreatDoorW.PrintWords Go.Proofs.YtdekmeanlcpenaaGreatDoor.Mid Go.Proofs.YtdekmeanlcpenaaGreatDoor.Block
set_option maxHeartbeats 8000000
set_option maxRecDepth 100000
theorem text_un (s : RS) (h0 : s.code = 0) (x kk er most : Nat) (l : List Int) (hl : s.rest = l) (hr : numR l 0 0 1 = (x, kk, er)) : s.text most = if er ≠ 0 then ([], s.bad er) else if most < x then ([], s.bad 2) else if s.data.length - s.at_ - kk < x then ([], s.bad 10) else ((l.drop kk).take x, s.on (kk + x)) := by
  rw [RS.text, if_neg (by simp [h0]), hl, hr]
theorem rtext_yes (W : World) (g k : Nat) (D : Option Addr) (s : RS) (most : Nat) (h : Rd W g D k s) (h0 : s.code = 0) (hm : most ≤ 140737488351232) :
    Calls Tryz.prog 110 #[.pointer (some ⟨g, 0, none⟩), .int .i64 most] W (RetRaw W g D k (s.text most).1 (s.text most).2) := by
  obtain ⟨dt, a, cd, pl⟩ := s
  simp only at h0
  subst h0
  have hal := h.at_
  have hll := h.len
  have hcp := h.cap
  simp only at hal hll hcp
  have c2 : W.cell? ⟨g, 2, none⟩ = some (.slice D dt.length k) := (blk_cell h.blk _).trans rfl
  have c3 : W.cell? ⟨g, 3, none⟩ = some (.int .i64 a) := (blk_cell h.blk _).trans rfl
  have g2 : ∀ x : CW (Since W), x.w.cell? ⟨g, 2, none⟩ = some (.slice D dt.length k) := fun x => pw_cell_below x.h c2
  have g3 : ∀ x : CW (Since W), x.w.cell? ⟨g, 3, none⟩ = some (.int .i64 a) := fun x => pw_cell_below x.h c3
  obtain ⟨i5, hi5, hs5⟩ := info5s
  obtain ⟨A', hcut, hA'⟩ := print_cut (P := Tryz.prog) 47 5 .i64 Tryz.underlying47 hi5 hs5 D dt.length k a hal
  obtain ⟨l, hl⟩ : ∃ l, dt.drop a = l := ⟨_, rfl⟩
  have hll2 : dt.length - a = l.length := by rw [← hl, List.length_drop]
  rw [hll2] at hcut
  have HCl : Aside0 (Kd.C (Kd.int .u8) W A' l.length l) := ⟨by
    have h1 := hA' W .u8 dt hcp (Kd.reads_of_C (enc := Value.int .u8) (d := (0 : Int)) (h1 := fun _ => rfl) h.dat)
    rw [hll2, hl] at h1
    exact Kd.C_of_reads (enc := Value.int .u8) (d := (0 : Int)) (h1 := fun _ => rfl) h1⟩
  have HBl : Aside0 (Byt l) := ⟨by rw [← hl]; exact byt_drop h.byt _⟩
  have hlen : l.length ≤ 140737488351232 := by omega
  obtain ⟨⟨x, kk, er⟩, hr⟩ : ∃ r, numR l 0 0 1 = r := ⟨_, rfl⟩
  have HR := Aside0.mk hr
  have hrest : RS.rest ⟨dt, a, 0, pl⟩ = l := hl
  have HT : Aside0 (RS.rest ⟨dt, a, 0, pl⟩ = l ∧ dt.length - a = l.length) := ⟨hrest, hll2⟩
  have H := Aside0.mk h
  clear h hA' hr hi5 hs5 hl hll2 hrest
  have hm0 : ¬ (most : Int) < 0 := by omega
  rw [text_un ⟨dt, a, 0, pl⟩ rfl x kk er most l HT.out.1 HR.out]
  by_cases he : er = 0
  · subst he
    rw [if_neg (by simp)]
    have hkl := numR_le l 0 0 1 x kk (by omega) HR.out
    have hka : a + kk ≤ dt.length := by have := HT.out.2; omega
    have hxm : (x : Int) ≤ 2147483647 := by omega
    have hkk : (kk : Int) ≤ 5 := by omega
    have hal1 : (a : Int) ≤ (dt.length : Int) := by omega
    have hll1 : (dt.length : Int) ≤ 140737488351232 := by omega
    have hka1 : (a : Int) + (kk : Int) ≤ (dt.length : Int) := by omega
    clear hkl
    by_cases hB : most < x
    · rw [if_pos hB]
      have hB1 : (most : Int) < (x : Int) := by omega
      clear hB
      go_enter Tryz.func110, Tryz.ntmps110
      go_upto_region 6 with (go_at_call 148; refine (goes_yes H.out rfl).mono ?_; rintro e w1 ⟨rfl, rfl⟩)
      refine wp_region_S (Since W) (by kernel_rfl) (by kernel_rfl) (since_drew W) ?_
      repeat (go_big_quiet_step (first | (go_at_call 150; refine calls_since (codeNum_to A' _ l _ _ _ _ (Kd.C_below HCl.out (CW.h _)) HBl.out hlen HR.out))))
      refine wpQuiet_nil ?_
      rintro w5 ⟨x5, e5⟩
      have hb5' : Below W.heap.size W w5 := e5 ▸ x5.h
      clear e5 x5 hcut g2 g3
      have H5 := Aside0.mk (H.out.below hb5')
      have HB5 := Aside0.mk hb5'
      have g2 : ∀ x : CW (Since w5), x.w.cell? ⟨g, 2, none⟩ = some (.slice D dt.length k) := fun x => pw_cell_below x.h (pw_cell_below hb5' c2)
      have g3 : ∀ x : CW (Since w5), x.w.cell? ⟨g, 3, none⟩ = some (.int .i64 a) := fun x => pw_cell_below x.h (pw_cell_below hb5' c3)
      clear hb5' H c2 c3
      go_upto_region 7 with (fail)
      refine wp_region_S (Since w5) (by kernel_rfl) (by kernel_rfl) (since_drew w5) ?_
      repeat (go_big_quiet_step (fail))
      refine wpQuiet_nil ?_
      rintro w6 ⟨x6, e6⟩
      have hb6' : Below w5.heap.size w5 w6 := e6 ▸ x6.h
      clear e6 x6 g2 g3
      have H6 := Aside0.mk (H5.out.below hb6')
      have HB6 := Aside0.mk (below_step HB5.out hb6')
      have d3 : w6.cell? ⟨g, 3, none⟩ = some (.int .i64 a) := (blk_cell H6.out.blk _).trans rfl
      clear hb6' HB5 H5
      have HS : Aside0 (w6.drew.cell? ⟨g, 3, none⟩ = some (.int .i64 a)) := ⟨d3⟩
      go_upto_region 13 with (fail)
      refine wp_region_held (S := fun u => u.cell? ⟨g, 3, none⟩ = some (.int .i64 a)) (by kernel_rfl) ?_
      change wpAnyH _ _ _ _ _ _ _ _ w6.drew
      refine wpAnyH_take (i := 0) (v := ?_) rfl (by kernel_rfl) (by kernel_rfl) (by kernel_rfl) (fun _ _ _ h => h) (Or.inl ⟨by rfl, ?_⟩) HS.out ?_
      rotate_left
      · (intro wG hSw; have q3 : wG.cell? ⟨g, 3, none⟩ = some (.int .i64 a) := hSw; go_simp; try with_reducible rfl)
      try simp only [Act.put, List.setIfInBounds_toArray, List.set]
      refine wpAnyH_take (i := 1) (v := ?_) rfl (by kernel_rfl) (by kernel_rfl) (by kernel_rfl) (fun _ _ _ h => h) (Or.inl ⟨by rfl, ?_⟩) HS.out ?_
      rotate_left
      · (intro wG hSw; have q3 : wG.cell? ⟨g, 3, none⟩ = some (.int .i64 a) := hSw; go_simp; try with_reducible rfl)
      try simp only [Act.put, List.setIfInBounds_toArray, List.set]
      refine wpAnyH_take (i := 2) (v := ?_) rfl (by kernel_rfl) (by kernel_rfl) (by kernel_rfl) (fun _ _ _ h => h) (Or.inl ⟨by rfl, ?_⟩) HS.out ?_
      rotate_left
      · (intro wG hSw; have q3 : wG.cell? ⟨g, 3, none⟩ = some (.int .i64 a) := hSw; go_simp; try with_reducible rfl)
      try simp only [Act.put, List.setIfInBounds_toArray, List.set]
      refine wpAnyH_take (i := 3) (v := ?_) rfl (by kernel_rfl) (by kernel_rfl) (by kernel_rfl) (fun _ _ _ h => h) (Or.inl ⟨by rfl, ?_⟩) HS.out ?_
      rotate_left
      · (intro wG hSw; have q3 : wG.cell? ⟨g, 3, none⟩ = some (.int .i64 a) := hSw; go_simp; try with_reducible rfl)
      try simp only [Act.put, List.setIfInBounds_toArray, List.set]
      refine wpAnyH_take (i := 4) (v := ?_) rfl (by kernel_rfl) (by kernel_rfl) (by kernel_rfl) (fun _ _ _ h => h) (Or.inl ⟨by rfl, ?_⟩) HS.out ?_
      rotate_left
      · (intro wG hSw; have q3 : wG.cell? ⟨g, 3, none⟩ = some (.int .i64 a) := hSw; go_simp; try with_reducible rfl)
      try simp only [Act.put, List.setIfInBounds_toArray, List.set]
      refine wpAnyH_take (i := 5) (v := ?_) rfl (by kernel_rfl) (by kernel_rfl) (by kernel_rfl) (fun _ _ _ h => h) (Or.inl ⟨by rfl, ?_⟩) HS.out ?_
      rotate_left
      · (intro wG hSw; have q3 : wG.cell? ⟨g, 3, none⟩ = some (.int .i64 a) := hSw; go_simp; try with_reducible rfl)
      try simp only [Act.put, List.setIfInBounds_toArray, List.set]
      refine wpAnyH_take (i := 6) (v := ?_) rfl (by kernel_rfl) (by kernel_rfl) (by kernel_rfl) (fun _ _ _ h => h) (Or.inl ⟨by rfl, ?_⟩) HS.out ?_
      rotate_left
      · (intro wG hSw; have q3 : wG.cell? ⟨g, 3, none⟩ = some (.int .i64 a) := hSw; go_simp; try with_reducible rfl)
      try simp only [Act.put, List.setIfInBounds_toArray, List.set]
      refine wpAnyH_take (i := 7) (v := ?_) rfl (by kernel_rfl) (by kernel_rfl) (by kernel_rfl) (fun _ _ _ h => h) (Or.inl ⟨by rfl, ?_⟩) HS.out ?_
      rotate_left
      · (intro wG hSw; have q3 : wG.cell? ⟨g, 3, none⟩ = some (.int .i64 a) := hSw; go_simp; try with_reducible rfl)
      try simp only [Act.put, List.setIfInBounds_toArray, List.set]
      refine heldOne (i := 8) (by kernel_rfl) rfl (by rfl) ?_
      go_simp
      go_at_call 142
      refine (spoil_any g 2 a (.int .i64 pl) (.slice D dt.length k) (.int .i64 a) _ (blk_drew H6.out.blk)).mono ?_
      rintro e w7 ⟨rfl, hb7, hg7⟩
      refine ⟨(blk_cell hb7 _).trans rfl, ?_⟩
      have HG7 : Aside0 (W.grownBy w7 (some g)) := ⟨(Mid.grown_of_below (below_drew HB6.out)).trans hg7⟩
      have H7 : Aside0 (Rd w7 g D k (RS.bad ⟨dt, a, 0, pl⟩ 2)) := ⟨(H6.out.below (below_drew (Below.refl _ _))).put rfl H6.out.at_ hg7 hb7⟩
      clear hb7 hg7 d3
      try simp only [Act.put, List.setIfInBounds_toArray, List.set]
      refine wpAnyH_done (by kernel_rfl) ?_ _
      go_wp2
      go_ret
      exact ⟨none, 0, rfl, Kd.R_nil _ _ _ _ _, H7.out, HG7.out⟩
    · rw [if_neg hB]
      have hB1 : ¬ (most : Int) < (x : Int) := by omega
      by_cases hC : dt.length - a - kk < x
      · rw [if_pos hC]
        have hC1 : (dt.length : Int) - (a : Int) - (kk : Int) < (x : Int) := by omega
        clear hB hC
        go_enter Tryz.func110, Tryz.ntmps110
        go_upto_region 6 with (go_at_call 148; refine (goes_yes H.out rfl).mono ?_; rintro e w1 ⟨rfl, rfl⟩)
        refine wp_region_S (Since W) (by kernel_rfl) (by kernel_rfl) (since_drew W) ?_
        repeat (go_big_quiet_step (first | (go_at_call 150; refine calls_since (codeNum_to A' _ l _ _ _ _ (Kd.C_below HCl.out (CW.h _)) HBl.out hlen HR.out))))
        refine wpQuiet_nil ?_
        rintro w5 ⟨x5, e5⟩
        have hb5' : Below W.heap.size W w5 := e5 ▸ x5.h
        clear e5 x5 hcut g2 g3
        have H5 := Aside0.mk (H.out.below hb5')
        have HB5 := Aside0.mk hb5'
        have g2 : ∀ x : CW (Since w5), x.w.cell? ⟨g, 2, none⟩ = some (.slice D dt.length k) := fun x => pw_cell_below x.h (pw_cell_below hb5' c2)
        have g3 : ∀ x : CW (Since w5), x.w.cell? ⟨g, 3, none⟩ = some (.int .i64 a) := fun x => pw_cell_below x.h (pw_cell_below hb5' c3)
        clear hb5' H c2 c3
        go_upto_region 7 with (fail)
        refine wp_region_S (Since w5) (by kernel_rfl) (by kernel_rfl) (since_drew w5) ?_
        repeat (go_big_quiet_step (fail))
        refine wpQuiet_nil ?_
        rintro w6 ⟨x6, e6⟩
        have hb6' : Below w5.heap.size w5 w6 := e6 ▸ x6.h
        clear e6 x6 g2 g3
        have H6 := Aside0.mk (H5.out.below hb6')
        have HB6 := Aside0.mk (below_step HB5.out hb6')
        have d3 : w6.cell? ⟨g, 3, none⟩ = some (.int .i64 a) := (blk_cell H6.out.blk _).trans rfl
        clear hb6' HB5 H5
        have HS : Aside0 (w6.drew.cell? ⟨g, 3, none⟩ = some (.int .i64 a)) := ⟨d3⟩
        go_upto_region 13 with (fail)
        refine wp_region_held (S := fun u => u.cell? ⟨g, 3, none⟩ = some (.int .i64 a)) (by kernel_rfl) ?_
        change wpAnyH _ _ _ _ _ _ _ _ w6.drew
        refine wpAnyH_take (i := 0) (v := ?_) rfl (by kernel_rfl) (by kernel_rfl) (by kernel_rfl) (fun _ _ _ h => h) (Or.inl ⟨by rfl, ?_⟩) HS.out ?_
        rotate_left
        · (intro wG hSw; have q3 : wG.cell? ⟨g, 3, none⟩ = some (.int .i64 a) := hSw; go_simp; try with_reducible rfl)
        try simp only [Act.put, List.setIfInBounds_toArray, List.set]
        refine wpAnyH_take (i := 1) (v := ?_) rfl (by kernel_rfl) (by kernel_rfl) (by kernel_rfl) (fun _ _ _ h => h) (Or.inl ⟨by rfl, ?_⟩) HS.out ?_
        rotate_left
        · (intro wG hSw; have q3 : wG.cell? ⟨g, 3, none⟩ = some (.int .i64 a) := hSw; go_simp; try with_reducible rfl)
        try simp only [Act.put, List.setIfInBounds_toArray, List.set]
        refine wpAnyH_take (i := 2) (v := ?_) rfl (by kernel_rfl) (by kernel_rfl) (by kernel_rfl) (fun _ _ _ h => h) (Or.inl ⟨by rfl, ?_⟩) HS.out ?_
        rotate_left
        · (intro wG hSw; have q3 : wG.cell? ⟨g, 3, none⟩ = some (.int .i64 a) := hSw; go_simp; try with_reducible rfl)
        try simp only [Act.put, List.setIfInBounds_toArray, List.set]
        refine wpAnyH_take (i := 3) (v := ?_) rfl (by kernel_rfl) (by kernel_rfl) (by kernel_rfl) (fun _ _ _ h => h) (Or.inl ⟨by rfl, ?_⟩) HS.out ?_
        rotate_left
        · (intro wG hSw; have q3 : wG.cell? ⟨g, 3, none⟩ = some (.int .i64 a) := hSw; go_simp; try with_reducible rfl)
        try simp only [Act.put, List.setIfInBounds_toArray, List.set]
        refine wpAnyH_take (i := 4) (v := ?_) rfl (by kernel_rfl) (by kernel_rfl) (by kernel_rfl) (fun _ _ _ h => h) (Or.inl ⟨by rfl, ?_⟩) HS.out ?_
        rotate_left
        · (intro wG hSw; have q3 : wG.cell? ⟨g, 3, none⟩ = some (.int .i64 a) := hSw; go_simp; try with_reducible rfl)
        try simp only [Act.put, List.setIfInBounds_toArray, List.set]
        refine wpAnyH_take (i := 5) (v := ?_) rfl (by kernel_rfl) (by kernel_rfl) (by kernel_rfl) (fun _ _ _ h => h) (Or.inl ⟨by rfl, ?_⟩) HS.out ?_
        rotate_left
        · (intro wG hSw; have q3 : wG.cell? ⟨g, 3, none⟩ = some (.int .i64 a) := hSw; go_simp; try with_reducible rfl)
        try simp only [Act.put, List.setIfInBounds_toArray, List.set]
        refine wpAnyH_take (i := 6) (v := ?_) rfl (by kernel_rfl) (by kernel_rfl) (by kernel_rfl) (fun _ _ _ h => h) (Or.inl ⟨by rfl, ?_⟩) HS.out ?_
        rotate_left
        · (intro wG hSw; have q3 : wG.cell? ⟨g, 3, none⟩ = some (.int .i64 a) := hSw; go_simp; try with_reducible rfl)
        try simp only [Act.put, List.setIfInBounds_toArray, List.set]
        refine wpAnyH_take (i := 7) (v := ?_) rfl (by kernel_rfl) (by kernel_rfl) (by kernel_rfl) (fun _ _ _ h => h) (Or.inl ⟨by rfl, ?_⟩) HS.out ?_
        rotate_left
        · (intro wG hSw; have q3 : wG.cell? ⟨g, 3, none⟩ = some (.int .i64 a) := hSw; go_simp; try with_reducible rfl)
        try simp only [Act.put, List.setIfInBounds_toArray, List.set]
        refine heldOne (i := 8) (by kernel_rfl) rfl (by rfl) ?_
        go_simp
        go_at_call 142
        refine (spoil_any g 10 a (.int .i64 pl) (.slice D dt.length k) (.int .i64 a) _ (blk_drew H6.out.blk)).mono ?_
        rintro e w7 ⟨rfl, hb7, hg7⟩
        refine ⟨(blk_cell hb7 _).trans rfl, ?_⟩
        have HG7 : Aside0 (W.grownBy w7 (some g)) := ⟨(Mid.grown_of_below (below_drew HB6.out)).trans hg7⟩
        have H7 : Aside0 (Rd w7 g D k (RS.bad ⟨dt, a, 0, pl⟩ 10)) := ⟨(H6.out.below (below_drew (Below.refl _ _))).put rfl H6.out.at_ hg7 hb7⟩
        clear hb7 hg7 d3
        try simp only [Act.put, List.setIfInBounds_toArray, List.set]
        refine wpAnyH_done (by kernel_rfl) ?_ _
        go_wp2
        go_ret
        exact ⟨none, 0, rfl, Kd.R_nil _ _ _ _ _, H7.out, HG7.out⟩
      · rw [if_neg hC]
        have hC1 : ¬ (dt.length : Int) - (a : Int) - (kk : Int) < (x : Int) := by omega
        have hCx : a + kk + x ≤ dt.length := by omega
        clear hB hC
        go_enter Tryz.func110, Tryz.ntmps110
        go_upto_region 6 with (go_at_call 148; refine (goes_yes H.out rfl).mono ?_; rintro e w1 ⟨rfl, rfl⟩)
        refine wp_region_S (Since W) (by kernel_rfl) (by kernel_rfl) (since_drew W) ?_
        repeat (go_big_quiet_step (first | (go_at_call 150; refine calls_since (codeNum_to A' _ l _ _ _ _ (Kd.C_below HCl.out (CW.h _)) HBl.out hlen HR.out))))
        refine wpQuiet_nil ?_
        rintro w5 ⟨x5, e5⟩
        have hb5' : Below W.heap.size W w5 := e5 ▸ x5.h
        clear e5 x5 hcut g2 g3
        have H5 := Aside0.mk (H.out.below hb5')
        have HB5 := Aside0.mk hb5'
        have g2 : ∀ x : CW (Since w5), x.w.cell? ⟨g, 2, none⟩ = some (.slice D dt.length k) := fun x => pw_cell_below x.h (pw_cell_below hb5' c2)
        have g3 : ∀ x : CW (Since w5), x.w.cell? ⟨g, 3, none⟩ = some (.int .i64 a) := fun x => pw_cell_below x.h (pw_cell_below hb5' c3)
        clear hb5' H c2 c3
        go_upto_region 7 with (fail)
        refine wp_region_S (Since w5) (by kernel_rfl) (by kernel_rfl) (since_drew w5) ?_
        repeat (go_big_quiet_step (fail))
        refine wpQuiet_nil ?_
        rintro w6 ⟨x6, e6⟩
        have hb6' : Below w5.heap.size w5 w6 := e6 ▸ x6.h
        clear e6 x6 g2 g3
        have H6 := Aside0.mk (H5.out.below hb6')
        have HB6 := Aside0.mk (below_step HB5.out hb6')
        have d3 : w6.cell? ⟨g, 3, none⟩ = some (.int .i64 a) := (blk_cell H6.out.blk _).trans rfl
        clear hb6' HB5 H5
        have f3 : w6.frozen? ⟨g, 3, none⟩ = false := blk_frozen H6.out.blk _
        have hb7 : (w6.setCell ⟨g, 3, none⟩ (.int .i64 ((a : Int) + (kk : Int)))).heap[g]? = some (.cells #[.int .i64 ((0 : Nat) : Int), .int .i64 pl, .slice D dt.length k, .int .i64 ((a + kk : Nat) : Int)] 265 (0, 0)) := blk_set H6.out.blk 3 _
        have HG7 : Aside0 (W.grownBy (w6.setCell ⟨g, 3, none⟩ (.int .i64 ((a : Int) + (kk : Int)))) (some g)) := ⟨(Mid.grown_of_below HB6.out).trans (grown_set w6 ⟨g, 3, none⟩ _)⟩
        have H7 : Aside0 (Rd (w6.setCell ⟨g, 3, none⟩ (.int .i64 ((a : Int) + (kk : Int)))) g D k (RS.on ⟨dt, a, 0, pl⟩ kk)) := ⟨H6.out.put rfl hka (grown_set w6 ⟨g, 3, none⟩ _) hb7⟩
        clear hb7
        have hraw : (RS.on ⟨dt, a, 0, pl⟩ kk).raw x = ((l.drop kk).take x, RS.on ⟨dt, a, 0, pl⟩ (kk + x)) := by
          rw [RS.raw, if_neg (by simp [RS.on]), if_neg (by show ¬ dt.length - (a + kk) < x; omega)]
          have e1 : (RS.on ⟨dt, a, 0, pl⟩ kk).rest = l.drop kk := by rw [← HT.out.1]; simp [RS.rest, RS.on]
          rw [e1]
          simp [RS.on, Nat.add_assoc]
        have hxl : ((l.drop kk).take x).length = x := by rw [List.length_take, List.length_drop]; have := HT.out.2; omega
        obtain ⟨xs, hxs⟩ : ∃ xs, (l.drop kk).take x = xs := ⟨_, rfl⟩
        rw [hxs] at hraw hxl
        have HXS := Aside0.mk hxs
        have HRW := Aside0.mk hraw
        have hxl2 : xs.length ≤ 2147483647 := by omega
        clear hraw hxs hxl
        go_wp2_with (first
          | (go_at_call 149; refine (take_any _ g k D _ x H7.out rfl).mono ?_; rw [HRW.out]; rintro e w8 ⟨A, c, rfl, hc, hCC, hRR, hG⟩; have H8 := Aside0.mk (⟨hCC, hRR, World.grownBy.trans HG7.out hG⟩ : _ ∧ _ ∧ _); clear hCC hRR hG hc)
          | (at_builtin; refine Kd.R_append_rows (Kd.int .u8) (w0 := w8) w8.heap.size rfl (.const (.slice none 0 0)) (.tmp 85) 47 5 (.int .u8 0) 1 rfl Tryz.underlying47 info5 rfl (by decide) (by omega) (.slice none 0 0) [] xs A xs.length c (fun _ => True) (fun _ => False) rfl rfl (Kd.R_nil _ _ _ _ _) H8.out.1 (fun _ _ h => h) (fun _ hk => hk.elim) (fun _ _ => trivial) (Below.refl _ _) (Nat.le_refl _) (by simp; omega) ?_
             intro v9 w9 ho9 hb9 hg9 hat9
             rw [List.nil_append] at ho9
             obtain ⟨A9, k9, e9⟩ := Kd.R_slice ho9
             subst e9
             have H9 := Aside0.mk (⟨ho9, hb9⟩ : _ ∧ _)
             clear ho9 hb9 hg9 hat9)
          | fail)
        go_ret
        rw [HXS.out]
        exact ⟨A9, k9, rfl, Kd.R_lower H9.out.1 H8.out.2.2.size, H8.out.2.1.below H9.out.2, World.grownBy.trans H8.out.2.2 (Mid.grown_of_below H9.out.2)⟩
  · rw [if_pos he]
    have hz := numR_zero l 0 0 1 x kk er HR.out he
    obtain ⟨rfl, rfl⟩ := hz
    have hne : ((er : Int) == 0) = false := by rw [beq_eq_false_iff_ne]; omega
    have hne2 : ((er : Int) != 0) = true := by rw [bne, hne]; rfl
    have hal1 : (a : Int) ≤ (dt.length : Int) := by omega
    have hll1 : (dt.length : Int) ≤ 140737488351232 := by omega
    clear he
    go_enter Tryz.func110, Tryz.ntmps110
    go_upto_region 6 with (go_at_call 148; refine (goes_yes H.out rfl).mono ?_; rintro e w1 ⟨rfl, rfl⟩)
    refine wp_region_S (Since W) (by kernel_rfl) (by kernel_rfl) (since_drew W) ?_
    repeat (go_big_quiet_step (first | (go_at_call 150; refine calls_since (codeNum_to A' _ l _ _ _ _ (Kd.C_below HCl.out (CW.h _)) HBl.out hlen HR.out))))
    refine wpQuiet_nil ?_
    rintro w5 ⟨x5, e5⟩
    have hb5' : Below W.heap.size W w5 := e5 ▸ x5.h
    clear e5 x5 hcut g2 g3
    have H5 := Aside0.mk (H.out.below hb5')
    have HB5 := Aside0.mk hb5'
    have g2 : ∀ x : CW (Since w5), x.w.cell? ⟨g, 2, none⟩ = some (.slice D dt.length k) := fun x => pw_cell_below x.h (pw_cell_below hb5' c2)
    have g3 : ∀ x : CW (Since w5), x.w.cell? ⟨g, 3, none⟩ = some (.int .i64 a) := fun x => pw_cell_below x.h (pw_cell_below hb5' c3)
    clear hb5' H c2 c3
    go_upto_region 7 with (fail)
    refine wp_region_S (Since w5) (by kernel_rfl) (by kernel_rfl) (since_drew w5) ?_
    repeat (go_big_quiet_step (fail))
    refine wpQuiet_nil ?_
    rintro w6 ⟨x6, e6⟩
    have hb6' : Below w5.heap.size w5 w6 := e6 ▸ x6.h
    clear e6 x6 g2 g3
    have H6 := Aside0.mk (H5.out.below hb6')
    have HB6 := Aside0.mk (below_step HB5.out hb6')
    have d3 : w6.cell? ⟨g, 3, none⟩ = some (.int .i64 a) := (blk_cell H6.out.blk _).trans rfl
    clear hb6' HB5 H5
    have HS : Aside0 (w6.drew.cell? ⟨g, 3, none⟩ = some (.int .i64 a)) := ⟨d3⟩
    go_upto_region 13 with (fail)
    refine wp_region_held (S := fun u => u.cell? ⟨g, 3, none⟩ = some (.int .i64 a)) (by kernel_rfl) ?_
    change wpAnyH _ _ _ _ _ _ _ _ w6.drew
    refine wpAnyH_take (i := 0) (v := ?_) rfl (by kernel_rfl) (by kernel_rfl) (by kernel_rfl) (fun _ _ _ h => h) (Or.inl ⟨by rfl, ?_⟩) HS.out ?_
    rotate_left
    · (intro wG hSw; have q3 : wG.cell? ⟨g, 3, none⟩ = some (.int .i64 a) := hSw; go_simp; try with_reducible rfl)
    try simp only [Act.put, List.setIfInBounds_toArray, List.set]
    refine wpAnyH_take (i := 1) (v := ?_) rfl (by kernel_rfl) (by kernel_rfl) (by kernel_rfl) (fun _ _ _ h => h) (Or.inl ⟨by rfl, ?_⟩) HS.out ?_
    rotate_left
    · (intro wG hSw; have q3 : wG.cell? ⟨g, 3, none⟩ = some (.int .i64 a) := hSw; go_simp; try with_reducible rfl)
    try simp only [Act.put, List.setIfInBounds_toArray, List.set]
    refine wpAnyH_take (i := 2) (v := ?_) rfl (by kernel_rfl) (by kernel_rfl) (by kernel_rfl) (fun _ _ _ h => h) (Or.inl ⟨by rfl, ?_⟩) HS.out ?_
    rotate_left
    · (intro wG hSw; have q3 : wG.cell? ⟨g, 3, none⟩ = some (.int .i64 a) := hSw; go_simp; try with_reducible rfl)
    try simp only [Act.put, List.setIfInBounds_toArray, List.set]
    refine wpAnyH_take (i := 3) (v := ?_) rfl (by kernel_rfl) (by kernel_rfl) (by kernel_rfl) (fun _ _ _ h => h) (Or.inl ⟨by rfl, ?_⟩) HS.out ?_
    rotate_left
    · (intro wG hSw; have q3 : wG.cell? ⟨g, 3, none⟩ = some (.int .i64 a) := hSw; go_simp; try with_reducible rfl)
    try simp only [Act.put, List.setIfInBounds_toArray, List.set]
    refine wpAnyH_take (i := 4) (v := ?_) rfl (by kernel_rfl) (by kernel_rfl) (by kernel_rfl) (fun _ _ _ h => h) (Or.inl ⟨by rfl, ?_⟩) HS.out ?_
    rotate_left
    · (intro wG hSw; have q3 : wG.cell? ⟨g, 3, none⟩ = some (.int .i64 a) := hSw; go_simp; try with_reducible rfl)
    try simp only [Act.put, List.setIfInBounds_toArray, List.set]
    refine wpAnyH_take (i := 5) (v := ?_) rfl (by kernel_rfl) (by kernel_rfl) (by kernel_rfl) (fun _ _ _ h => h) (Or.inl ⟨by rfl, ?_⟩) HS.out ?_
    rotate_left
    · (intro wG hSw; have q3 : wG.cell? ⟨g, 3, none⟩ = some (.int .i64 a) := hSw; go_simp; try with_reducible rfl)
    try simp only [Act.put, List.setIfInBounds_toArray, List.set]
    refine wpAnyH_take (i := 6) (v := ?_) rfl (by kernel_rfl) (by kernel_rfl) (by kernel_rfl) (fun _ _ _ h => h) (Or.inl ⟨by rfl, ?_⟩) HS.out ?_
    rotate_left
    · (intro wG hSw; have q3 : wG.cell? ⟨g, 3, none⟩ = some (.int .i64 a) := hSw; go_simp; try with_reducible rfl)
    try simp only [Act.put, List.setIfInBounds_toArray, List.set]
    refine wpAnyH_take (i := 7) (v := ?_) rfl (by kernel_rfl) (by kernel_rfl) (by kernel_rfl) (fun _ _ _ h => h) (Or.inl ⟨by rfl, ?_⟩) HS.out ?_
    rotate_left
    · (intro wG hSw; have q3 : wG.cell? ⟨g, 3, none⟩ = some (.int .i64 a) := hSw; go_simp; try with_reducible rfl)
    try simp only [Act.put, List.setIfInBounds_toArray, List.set]
    refine heldOne (i := 8) (by kernel_rfl) rfl (by rfl) ?_
    go_simp
    go_at_call 142
    refine (spoil_any g er a (.int .i64 pl) (.slice D dt.length k) (.int .i64 a) _ (blk_drew H6.out.blk)).mono ?_
    rintro e w7 ⟨rfl, hb7, hg7⟩
    refine ⟨(blk_cell hb7 _).trans rfl, ?_⟩
    have HG7 : Aside0 (W.grownBy w7 (some g)) := ⟨(Mid.grown_of_below (below_drew HB6.out)).trans hg7⟩
    have H7 : Aside0 (Rd w7 g D k (RS.bad ⟨dt, a, 0, pl⟩ er)) := ⟨(H6.out.below (below_drew (Below.refl _ _))).put rfl H6.out.at_ hg7 hb7⟩
    clear hb7 hg7 d3
    try simp only [Act.put, List.setIfInBounds_toArray, List.set]
    refine wpAnyH_done (by kernel_rfl) ?_ _
    go_wp2
    go_ret
    exact ⟨none, 0, rfl, Kd.R_nil _ _ _ _ _, H7.out, HG7.out⟩

theorem rtext_any (W : World) (g k : Nat) (D : Option Addr) (s : RS) (most : Nat) (h : Rd W g D k s) (hm : most ≤ 140737488351232) :
    Calls Tryz.prog 110 #[.pointer (some ⟨g, 0, none⟩), .int .i64 most] W (RetRaw W g D k (s.text most).1 (s.text most).2) := by
  by_cases h0 : s.code = 0
  · exact rtext_yes W g k D s most h h0 hm
  · rw [show s.text most = ([], s) by rw [RS.text, if_pos h0]]
    have H := Aside0.mk h
    have H0 := Aside0.mk h0
    clear h h0
    go_enter Tryz.func110, Tryz.ntmps110
    go_wp2_with (first
      | (go_at_call 148; refine (goes_no H.out H0.out).mono ?_; rintro e w1 ⟨rfl, rfl⟩)
      | fail)
    go_ret
    exact ⟨none, 0, rfl, Kd.R_nil _ _ _ _ _, H.out, World.grownBy.refl W _⟩
end Go.Proofs.YtdekmeanlcpenaaGreatDoor.Codec

namespace Go.Proofs.YtdekmeanlcpenaaGreatDoor.Codec
open Go.RowKit Go.Proofs.YtdekmeanlcpenaaGreatDoorW.PrintWords Go.Proofs.YtdekmeanlcpenaaGreatDoor.Mid Go.Proofs.YtdekmeanlcpenaaGreatDoor.Pick Go.Proofs.YtdekmeanlcpenaaGreatDoor.Block
attribute [local go_sem ↓ high] load33_eq load29_eq
attribute [local simp] rowOf_drew rowOf_drewN
attribute [local go_sem high] load33_row load29_row rowOf_drew rowOf_drewN
set_option maxHeartbeats 4000000
set_option maxRecDepth 100000
/-- What parsing answers. -/
inductive RetParse (W : World) (l : List Int) (e : Ending) (w' : World) : Prop
  | yes (rs : List Res) (A : Option Addr) (c : Nat) (hP : Parsed l rs) (ok : ∀ r ∈ rs, ResOk r) (he : e = .returned (.tuple #[.slice A rs.length c, .int .i64 0])) (hR : Kd.R resK 33 w' W.heap.size (fun _ => True) (.slice A rs.length c) rs) (hB : Below W.heap.size W w')
  | no (hP : ∀ rs, ¬ Parsed l rs) (he : e = .returned (.tuple #[.slice none 0 0, .int .i64 80])) (hB : Below W.heap.size W w')
theorem parse_any (W : World) (A : Option Addr) (c : Nat) (l : List Int) (hC : Kd.C (Kd.int .u8) W A l.length l) (hb : Byt l) (hl : l.length ≤ 140737488351232) :
    Calls Tryz.prog 111 #[.slice A l.length c] W (RetParse W l) := by
  obtain ⟨⟨n, s1⟩, e1⟩ : ∃ p, (RS.start l).num = p := ⟨_, rfl⟩
  have HE := Aside0.mk e1
  have HC := Aside0.mk hC
  have HBy := Aside0.mk hb
  have hs1 : s1.data = l := by
    have h1 : (RS.start l).num.2.data = l := by rw [RS.num]; split <;> (try split) <;> rfl
    rw [e1] at h1; exact h1
  have HS1 := Aside0.mk hs1
  clear hC hb e1 hs1
  by_cases hn : n ≤ 32
  case neg =>
    have hn1 : (32 : Int) < (n : Int) := by omega
    have Hn := Aside0.mk hn
    clear hn
    go_enter Tryz.func111, Tryz.ntmps111
    go_wp2_with (first
      | (go_at_call 108; refine (read_any W A c l HC.out HBy.out hl).mono ?_; rintro e w1 ⟨g, D, kk, rfl, h1, h2, h3, -⟩; have H1 := Aside0.mk (⟨h1, h2, h3⟩ : _ ∧ _ ∧ _); clear h1 h2 h3)
      | (go_at_call 112; go_loud (refine (rnum_any w1 g kk D _ H1.out.2.1).mono ?_; rw [HE.out]; rintro e w2 ⟨rfl, h1, h2⟩; have H2 := Aside0.mk (⟨h1, h2⟩ : _ ∧ _); clear h1 h2))
      | fail)
    go_ret2
    exact .no (fun rs h => Hn.out (by have := h.most; rw [HE.out] at this; exact this)) rfl (H1.out.2.2.grown H2.out.2 H1.out.2.2.size (fun k hk => by cases hk; exact H1.out.1))
  case pos =>
    have hn1 : (n : Int) ≤ 32 := by omega
    have Hn := Aside0.mk hn
    go_enter Tryz.func111, Tryz.ntmps111
    go_wp2_with (first
      | (go_at_call 108; refine (read_any W A c l HC.out HBy.out hl).mono ?_; rintro e w1 ⟨g, D, kk, rfl, h1, h2, h3, -⟩; have H1 := Aside0.mk (⟨h1, h2, h3⟩ : _ ∧ _ ∧ _); clear h1 h2 h3)
      | (go_at_call 112; go_loud (refine (rnum_any w1 g kk D _ H1.out.2.1).mono ?_; rw [HE.out]; rintro e w2 ⟨rfl, h1, h2⟩; have H2 := Aside0.mk (⟨h1, h2⟩ : _ ∧ _); clear h1 h2))
      | fail)
    obtain ⟨b, hbd⟩ : ∃ b, w2.heap.size = b := ⟨_, rfl⟩
    have HP : Aside0 (PS resK 33 W b g kk D w2 s1 (.slice none 0 0) []) := ⟨hbd ▸ PS.start H2.out.1 (H1.out.2.2.grown H2.out.2 H1.out.2.2.size (fun k hk => by cases hk; exact H1.out.1)) H1.out.1⟩
    clear H1 H2 hbd
    go_loopg [6, 17] n (fun k v6 v17 w' => ∃ i : Nat, v17 = .int .i64 i ∧ i + k = n ∧ Aside0 (PS resK 33 W b g kk D w' (resS i s1).2 v6 (resS i s1).1))
    case atStart => exact ⟨0, rfl, by omega, HP⟩
    case round =>
      clear HP
      obtain ⟨i, rfl, hik, HP⟩ := hrel
      cases gk with
      | zero =>
        have hin : Aside0 (i = n) := ⟨by omega⟩
        obtain ⟨⟨rs, y⟩, hy⟩ : ∃ p, resS i s1 = p := ⟨_, rfl⟩
        rw [hy] at HP
        have hlen := resS_len i s1
        have hok := resS_ok i s1 (by rw [HS1.out]; exact HBy.out)
        rw [hy] at hlen hok
        simp only at hlen hok
        have HF : Aside0 (resS (RS.start l).num.1 (RS.start l).num.2 = (rs, y)) := ⟨by rw [HE.out]; simp only; rw [← hin.out]; exact hy⟩
        obtain ⟨A6, c6, e6⟩ := Kd.R_slice HP.out.row
        subst e6
        have Hok := Aside0.mk hok
        have hd : decide (i < n) = false := by simp; omega
        clear hy hok hin hlen
        simp only at HP
        by_cases hc : y.code = 0
        · have Hc := Aside0.mk hc
          obtain ⟨lf, hlf⟩ : ∃ lf, y.left = lf := ⟨_, rfl⟩
          have Hlf := Aside0.mk hlf
          clear hlf
          by_cases h0 : lf = 0
          · have H0 := Aside0.mk h0
            have bl : decide ((0 : Int) < (lf : Int)) = false := by simp; omega
            by_cases hT : Table rs
            · have HT := Aside0.mk hT
              clear hT
              go_wp2_with (first
                | (go_at_call 31; refine (valid_yes A6 c6 rs w22 C2.out.2.2 C2.out.2.1 HT.out).mono ?_; rintro e w23 ⟨rfl, hb⟩; have P3 := Aside0.mk (P2.out.below hb); clear hb)
                | (go_at_call 115; refine (left_any _ g kk D y P1.out.rd).mono ?_; rw [Hlf.out]; rintro e w22 ⟨rfl, hb⟩; have P2 := Aside0.mk (P1.out.below hb); have C2 := Aside0.mk (Kd.R_reads' P2.out.row); clear hb)
                | (go_at_call 114; refine (err_any _ g kk D y HP.out.rd).mono ?_; rintro e w21 ⟨rfl, hb⟩; have P1 := Aside0.mk (HP.out.below hb); clear hb)
                | fail)
              go_ret2
              exact .yes rs A6 c6 ⟨by rw [HE.out]; exact Hn.out, by rw [HF.out], by rw [HF.out]; exact Hc.out, by rw [HF.out]; simp only; rw [Hlf.out, H0.out], HT.out⟩ Hok.out rfl (Kd.R_lower P3.out.row (Nat.le_trans P3.out.old (Nat.le_of_lt P3.out.lt))) P3.out.bel
            · have HT := Aside0.mk hT
              clear hT
              go_wp2_with (first
                | (go_at_call 31; refine (valid_no A6 c6 rs w22 C2.out.2.2 C2.out.2.1 HT.out).mono ?_; rintro e w23 ⟨rfl, hb⟩; have P3 := Aside0.mk (P2.out.below hb); clear hb)
                | (go_at_call 115; refine (left_any _ g kk D y P1.out.rd).mono ?_; rw [Hlf.out]; rintro e w22 ⟨rfl, hb⟩; have P2 := Aside0.mk (P1.out.below hb); have C2 := Aside0.mk (Kd.R_reads' P2.out.row); clear hb)
                | (go_at_call 114; refine (err_any _ g kk D y HP.out.rd).mono ?_; rintro e w21 ⟨rfl, hb⟩; have P1 := Aside0.mk (HP.out.below hb); clear hb)
                | fail)
              go_ret2
              exact .no (fun qs h => HT.out (by have e := h.is; rw [HF.out] at e; simp only at e; rw [← e]; exact h.table)) rfl P3.out.bel
          · have bl : (0 : Int) < (lf : Int) := by omega
            have H0 := Aside0.mk h0
            clear h0
            go_wp2_with (first
              | (go_at_call 115; refine (left_any _ g kk D y P1.out.rd).mono ?_; rw [Hlf.out]; rintro e w22 ⟨rfl, hb⟩; have P2 := Aside0.mk (P1.out.below hb); clear hb)
              | (go_at_call 114; refine (err_any _ g kk D y HP.out.rd).mono ?_; rintro e w21 ⟨rfl, hb⟩; have P1 := Aside0.mk (HP.out.below hb); clear hb)
              | fail)
            go_ret2
            exact .no (fun qs h => H0.out (by have e := h.left; rw [HF.out] at e; simp only at e; rw [← Hlf.out]; exact e)) rfl P2.out.bel
        · have Hc := Aside0.mk hc
          go_wp2_with (first
            | (go_at_call 114; refine (err_any _ g kk D y HP.out.rd).mono ?_; rintro e w21 ⟨rfl, hb⟩; have P1 := Aside0.mk (HP.out.below hb); clear hb)
            | fail)
          go_ret2
          exact .no (fun qs h => Hc.out (by have e := h.code; rw [HF.out] at e; exact e)) rfl P1.out.bel
      | succ q =>
        have hi : i < n := by omega
        have hi1 : (i : Int) < (n : Int) := by omega
        obtain ⟨y, hy⟩ : ∃ y, (resS i s1).2 = y := ⟨_, rfl⟩
        have Hd : Aside0 (Byt y.data) := ⟨by rw [← hy, resS_data, HS1.out]; exact HBy.out⟩
        have HI : Aside0 ((resS i s1).1.length = i) := ⟨resS_len i s1⟩
        have HO : Aside0 (∀ r ∈ (resS i s1).1, ResOk r) := ⟨resS_ok i s1 (by rw [HS1.out]; exact HBy.out)⟩
        go_upto_region 9 with (fail)
        obtain ⟨q8, hq8⟩ : ∃ q8, wr.heap.size = q8 := ⟨_, rfl⟩
        obtain ⟨w8, hw8⟩ : ∃ w8, wr.alloc (.cells Tryz.zeroCells33 33) = w8 := ⟨_, rfl⟩
        have K8 : Aside0 (w8.heap[q8]? = some (.cells (resC ⟨zero32, zero32, 0⟩).toArray 33 (0, 0))) := ⟨by rw [← hw8, ← hq8, zero33]; exact heap_alloc_new wr _⟩
        have P8 : Aside0 (PS resK 33 W b g kk D w8 y u6 (resS i s1).1) := ⟨by rw [← hw8, ← hy]; exact HP.out.below (below_alloc (Below.refl _ _) _)⟩
        have N8 : Aside0 (b ≤ q8 ∧ some q8 ≠ u6.ownBlock) := ⟨by rw [← hq8]; exact HP.out.new⟩
        rw [hw8, hq8]
        have HY := Aside0.mk hy
        clear hw8 hq8 HP hy
        obtain ⟨⟨x1, y1⟩, ex⟩ : ∃ p, y.raw 32 = p := ⟨_, rfl⟩
        have E9 := Aside0.mk ex
        have X9 : Aside0 (x1.length ≤ 32 ∧ Byt x1) := ⟨by have h := raw_byt Hd.out 32; rw [ex] at h; exact ⟨h.2, h.1⟩⟩
        have D9 : Aside0 (y1.data = y.data) := ⟨by have h := raw_data y 32; rw [ex] at h; exact h⟩
        have Hd1 : Aside0 (Byt y1.data) := ⟨by rw [D9.out]; exact Hd.out⟩
        clear ex
        go_upto_region 9 with (fail)
        refine wp_region_held (S := fun _ => True) (by kernel_rfl) ?_
        refine wpAnyH_take (i := 0) (v := ?_) rfl (by kernel_rfl) (by kernel_rfl) (by kernel_rfl) (fun _ _ _ h => h) (Or.inl ⟨by rfl, ?_⟩) trivial ?_
        rotate_left
        · (intro wG hSw; go_simp; try with_reducible rfl)
        try simp only [Act.put, List.setIfInBounds_toArray, List.set]
        refine wpAnyH_take (i := 1) (v := ?_) rfl (by kernel_rfl) (by kernel_rfl) (by kernel_rfl) (fun _ _ _ h => h) (Or.inl ⟨by rfl, ?_⟩) trivial ?_
        rotate_left
        · (intro wG hSw; go_simp; try with_reducible rfl)
        try simp only [Act.put, List.setIfInBounds_toArray, List.set]
        refine wpAnyH_take (i := 2) (v := ?_) rfl (by kernel_rfl) (by kernel_rfl) (by kernel_rfl) (fun _ _ _ h => h) (Or.inl ⟨by rfl, ?_⟩) trivial ?_
        rotate_left
        · (intro wG hSw; go_simp; try with_reducible rfl)
        try simp only [Act.put, List.setIfInBounds_toArray, List.set]
        refine heldOne (i := 3) (by kernel_rfl) rfl (by rfl) ?_
        go_simp
        go_at_call 113
        refine (rraw_any _ g kk D y 32 (P8.out.rd.below (below_drew (Below.refl _ _))) (by decide)).mono ?_
        rw [E9.out]
        rintro e w9 ⟨A9, c9, rfl, r9, h9, gw9⟩
        try simp only [Act.put, List.setIfInBounds_toArray, List.set]
        refine heldOne (i := 4) (by kernel_rfl) rfl (by rfl) ?_
        have b9 := blk_grown (blk_drew K8.out) gw9 (fun e => absurd (Option.some.inj e) (by have := P8.out.lt; have := N8.out.1; omega))
        refine wp_copy32 (.tmp 20) (.tmp 22) rfl q8 0 32 c9 A9 x1 rfl rfl _ 33 b9 (Kd.R_reads' r9).2.2 X9.out.1 (by simp [resC, u8s_length, zero32]) ?_
        intro v9 hv9 gv9
        refine ⟨trivial, ?_⟩
        have K9 : Aside0 (v9.heap[q8]? = some (.cells (resC ⟨pad32 x1, zero32, 0⟩).toArray 33 (0, 0))) := ⟨by rw [hv9, splice_act X9.out.1]⟩
        have P9 : Aside0 (PS resK 33 W b g kk D v9 y1 u6 (resS i s1).1) := ⟨((P8.out.below (below_drew (Below.refl _ _))).step rfl h9 D9.out gw9).beside rfl N8.out.1 N8.out.2 gv9⟩
        clear r9 h9 gw9 hv9 gv9 b9 P8 K8
        try simp only [Act.put, List.setIfInBounds_toArray, List.set]
        refine wpAnyH_done (by kernel_rfl) ?_ _
        obtain ⟨⟨x2, y2⟩, ex⟩ : ∃ p, y1.raw 32 = p := ⟨_, rfl⟩
        have E10 := Aside0.mk ex
        have X10 : Aside0 (x2.length ≤ 32 ∧ Byt x2) := ⟨by have h := raw_byt Hd1.out 32; rw [ex] at h; exact ⟨h.2, h.1⟩⟩
        have D10 : Aside0 (y2.data = y1.data) := ⟨by have h := raw_data y1 32; rw [ex] at h; exact h⟩
        have Hd2 : Aside0 (Byt y2.data) := ⟨by rw [D10.out]; exact Hd1.out⟩
        clear ex
        go_upto_region 10 with (fail)
        refine wp_region_held (S := fun _ => True) (by kernel_rfl) ?_
        refine wpAnyH_take (i := 0) (v := ?_) rfl (by kernel_rfl) (by kernel_rfl) (by kernel_rfl) (fun _ _ _ h => h) (Or.inl ⟨by rfl, ?_⟩) trivial ?_
        rotate_left
        · (intro wG hSw; go_simp; try with_reducible rfl)
        try simp only [Act.put, List.setIfInBounds_toArray, List.set]
        refine wpAnyH_take (i := 1) (v := ?_) rfl (by kernel_rfl) (by kernel_rfl) (by kernel_rfl) (fun _ _ _ h => h) (Or.inl ⟨by rfl, ?_⟩) trivial ?_
        rotate_left
        · (intro wG hSw; go_simp; try with_reducible rfl)
        try simp only [Act.put, List.setIfInBounds_toArray, List.set]
        refine wpAnyH_take (i := 2) (v := ?_) rfl (by kernel_rfl) (by kernel_rfl) (by kernel_rfl) (fun _ _ _ h => h) (Or.inl ⟨by rfl, ?_⟩) trivial ?_
        rotate_left
        · (intro wG hSw; go_simp; try with_reducible rfl)
        try simp only [Act.put, List.setIfInBounds_toArray, List.set]
        refine heldOne (i := 3) (by kernel_rfl) rfl (by rfl) ?_
        go_simp
        go_at_call 113
        refine (rraw_any _ g kk D y1 32 (P9.out.rd.below (below_drew (Below.refl _ _))) (by decide)).mono ?_
        rw [E10.out]
        rintro e w10 ⟨A10, c10, rfl, r10, h10, gw10⟩
        try simp only [Act.put, List.setIfInBounds_toArray, List.set]
        refine heldOne (i := 4) (by kernel_rfl) rfl (by rfl) ?_
        have b10 := blk_grown (blk_drew K9.out) gw10 (fun e => absurd (Option.some.inj e) (by have := P9.out.lt; have := N8.out.1; omega))
        refine wp_copy32 (.tmp 25) (.tmp 27) rfl q8 32 32 c10 A10 x2 rfl rfl _ 33 b10 (Kd.R_reads' r10).2.2 X10.out.1 (by rw [resC, List.length_append, List.length_append, u8s_length, u8s_length, (pad32_ok X9.out.1 X9.out.2).len]; simp [zero32]) ?_
        intro v10 hv10 gv10
        refine ⟨trivial, ?_⟩
        have K10 : Aside0 (v10.heap[q8]? = some (.cells (resC ⟨pad32 x1, pad32 x2, 0⟩).toArray 33 (0, 0))) := ⟨by rw [hv10, splice_root (pad32_ok X9.out.1 X9.out.2).len X10.out.1]⟩
        have P10 : Aside0 (PS resK 33 W b g kk D v10 y2 u6 (resS i s1).1) := ⟨((P9.out.below (below_drew (Below.refl _ _))).step rfl h10 D10.out gw10).beside rfl N8.out.1 N8.out.2 gv10⟩
        clear r10 h10 gw10 hv10 gv10 b10 P9 K9
        try simp only [Act.put, List.setIfInBounds_toArray, List.set]
        refine wpAnyH_done (by kernel_rfl) ?_ _
        obtain ⟨⟨m, y3⟩, ex⟩ : ∃ p, y2.fixed 1 = p := ⟨_, rfl⟩
        have E11 := Aside0.mk ex
        have X11 : Aside0 (0 ≤ m ∧ m ≤ 255) := ⟨by have h := fixed1_bounds Hd2.out; rw [ex] at h; exact h⟩
        have D11 : Aside0 (y3.data = y2.data) := ⟨by have h := fixed_data y2 1; rw [ex] at h; exact h⟩
        clear ex
        go_upto_region 12 with (first
          | (go_at_call 109
             refine (rfixed_any _ g kk D y2 1 P10.out.rd (by decide) (by decide)).mono ?_
             rw [E11.out]
             rintro e w11 ⟨rfl, h11, gw11⟩
             have b11 := blk_grown K10.out gw11 (fun e => absurd (Option.some.inj e) (by have := P10.out.lt; have := N8.out.1; omega))
             have f11 : w11.frozen? ⟨q8, 64, none⟩ = false := blk_frozen b11 _
             have l11 : (u8s (pad32 x1)).length = 32 := by rw [u8s_length, (pad32_ok X9.out.1 X9.out.2).len]
             have l12 : (u8s (pad32 x2)).length = 32 := by rw [u8s_length, (pad32_ok X10.out.1 X10.out.2).len]
             have c11 : w11.cell? ⟨q8, 64, none⟩ = some (.int .i64 0) := (blk_cell b11 _).trans (by
               rw [List.getElem?_toArray, resC, List.getElem?_append_right (by simp only; omega), List.getElem?_append_right (by simp only; omega)]
               simp only [l11, l12]; rfl)
             have K11 : Aside0 ((w11.setCell ⟨q8, 64, none⟩ (.int .i64 m)).heap[q8]? = some (.cells (resC ⟨pad32 x1, pad32 x2, m⟩).toArray 33 (0, 0))) := ⟨by
               have h := blk_set b11 64 (.int .i64 m)
               rw [h]
               congr 2
               rw [List.setIfInBounds_toArray, resC, resC]
               simp only
               rw [List.set_append_right _ _ (by omega), List.set_append_right _ _ (by omega)]
               simp only [l11, l12]
               rfl⟩
             have P11 : Aside0 (PS resK 33 W b g kk D (w11.setCell ⟨q8, 64, none⟩ (.int .i64 m)) y3 u6 (resS i s1).1) := ⟨(P10.out.step rfl h11 D11.out gw11).beside rfl N8.out.1 N8.out.2 (grown_set w11 ⟨q8, 64, none⟩ _)⟩
             clear h11 gw11 b11 P10 K10 l11 l12)
          | fail)
        obtain ⟨w12, hw12⟩ : ∃ w12, w11.setCell ⟨q8, 64, none⟩ (.int .i64 m) = w12 := ⟨_, rfl⟩
        rw [hw12] at K11 P11 ⊢
        obtain ⟨r, hr⟩ : ∃ r, (⟨pad32 x1, pad32 x2, m⟩ : Res) = r := ⟨_, rfl⟩
        have hro : ResOk r := by
          rw [← hr]
          exact ⟨pad32_ok X9.out.1 X9.out.2, pad32_ok X10.out.1 X10.out.2, by have := X11.out; simp only; omega⟩
        rw [hr] at K11
        have hld : rowOf w12 ⟨q8, 0, none⟩ 65 = some (resC r) := (At.blk K11.out).res hro
        have HN : Aside0 (resS (i + 1) s1 = ((resS i s1).1 ++ [r], y3)) := ⟨by rw [resS, HY.out, E9.out]; simp only; rw [E10.out]; simp only; rw [E11.out, hr]⟩
        have Hro := Aside0.mk hro
        obtain ⟨z, hz1, hz2⟩ := info33full
        have Hz := Aside0.mk (And.intro hz1 hz2)
        clear hz1 hz2 hr hro hw12 c11 f11 K11
        go_wp2_with (first
          | (refine wpList_build33 rfl _ rfl r Hro.out rfl ?_)
          | (at_builtin; refine Kd.R_append resK (w0 := w12) b rfl (.tmp 32) (.tmp 34) 22 33 z 72 rfl Tryz.underlying22 Hz.out.1 Hz.out.2 (by decide) (by decide) u6 (resS i s1).1 r (resC r) (fun _ => True) (fun _ => False) rfl rfl (res_M Hro.out) (fun _ h => h.elim) (fun _ _ => trivial) P11.out.row (Below.refl _ _) P11.out.bsz (by rw [HI.out]; omega) ?_
             intro v13 w13 h1 h2 h3 h4
             have P13 : Aside0 (PS resK 33 W b g kk D w13 y3 v13 ((resS i s1).1 ++ [r])) := ⟨P11.out.put h1 h2⟩
             clear h1 h2 h3 h4)
          | go_in)
        go_roundg q
        case measure => omega
        case rel => exact ⟨i + 1, by go_num, by omega, ⟨by rw [HN.out]; exact P13.out⟩⟩
end Go.Proofs.YtdekmeanlcpenaaGreatDoor.Codec

namespace Go
open Go.RowKit Go.Proofs.YtdekmeanlcpenaaGreatDoorW.PrintWords Go.Proofs.YtdekmeanlcpenaaGreatDoorW.PrintWords.Kd
namespace Proofs.YtdekmeanlcpenaaGreatDoor.Codec
section
variable {P : Program} {o : Oper} {a : Act} {Q : Exit → Act → World → Prop} {W : World} {α : Type}
-- after the words' R_copy, for a region that draws
theorem R_copyW {K : Act → World → Prop} {enc : α → Value} {h1 : ∀ x, (enc x).oneCell' = true} (d : α) {w0 W : World} (base : Nat) (s x : Operand) (t t' e : TypeId)
    (ho : o.op = .call { callee := .builtin .copy, args := #[s, x], argTypes := #[t, t'] }) (ht : P.underlying t = some (.slice e)) (hinfo : (P.info? e).map (·.size) = some 1)
    (v : Value) (xs ys : List α) (A : Option Addr) (m c : Nat) (ok : Nat → Prop) (hs : a.eval s = v) (hx : a.eval x = .slice A m c)
    (HO : (scalar enc h1).R e W base ok v xs) (HR : (scalar enc h1).C W A m ys) (HB : Below base w0 W) (hbase : base ≤ W.heap.size)
    (h : ∀ w1, (scalar enc h1).R e w1 base ok v (ys.take (min m xs.length) ++ xs.drop (min m xs.length)) → Below base w0 w1 → W.grownBy w1 v.ownBlock → K (a.put o.dst (.int .i64 ((min m xs.length : Nat) : Int))) w1) :
    o.wp P a W K Q := by
  have hR := reads_of_C (enc := enc) (d := d) (h1 := h1) HR
  have hm : ys.length = m := hR.1
  have hown := own_of_R HO
  have fin : ∀ w1, (Builtin.copy_ #[t, t'] o.type #[v, .slice A m c]).run P W = .ok (goInt ((min m xs.length : Nat) : Int)) w1 → (scalar enc h1).R e w1 base ok v (ys.take (min m xs.length) ++ xs.drop (min m xs.length)) → W.grownBy w1 v.ownBlock → o.wp P a W K Q := by
    intro w1 hr hrow hg
    unfold Oper.wp execOp
    simp only [ho, resolve, invoke, builtin, Sem.run_bind, Sem.run_pure, Result.andThen_ok, List.map_toArray, List.map_cons, List.map_nil, hs, hx, hr]
    exact h w1 hrow (HB.grown hg hbase (own_base hown)) hg
  rcases Nat.eq_zero_or_pos (min m xs.length) with h0 | hp
  · obtain ⟨A', c', hv⟩ := own_slice hown
    refine fin W ?_ (by rw [h0, List.take_zero, List.drop_zero, List.nil_append]; exact HO) (World.grownBy.refl W _)
    rw [h0, hv]
    exact run_copy_none W t t' o.type e A' A xs.length c' m c ht hinfo h0
  · obtain ⟨ad, hA, hc⟩ := hR.2.2 (by omega)
    rcases hown.2 with ⟨_, hx0⟩ | ⟨g, cap, cur, hv, hb, hh, hnc, hcm, hcs, htake⟩
    · omega
    have hcs1 : cur.size = cap := by omega
    have hsrc : ∀ j u, (encs enc (ys.take (min m xs.length)))[j]? = some u → W.cell? (ad.add j) = some u := by
      intro j u hu
      have hj : j < (ys.take (min m xs.length)).length := by
        rcases Nat.lt_or_ge j (ys.take (min m xs.length)).length with h | h
        · exact h
        · rw [List.getElem?_eq_none (by rw [encs_length]; exact h)] at hu
          cases hu
      have hjm : j < min m xs.length := by rw [List.length_take] at hj; omega
      rw [encs_get (d := d) _ j hj] at hu
      rw [hc j (by omega), ← hu]
      simp [List.getD_eq_getElem?_getD, hjm]
    have hkl : (encs enc (ys.take (min m xs.length))).length = min m xs.length := by rw [encs_length, List.length_take]; omega
    have hr := run_copy_cells (P := P) W t t' o.type e g 0 xs.length cap ad m c (encs enc (ys.take (min m xs.length))) ht hinfo (by rw [hkl]) hsrc
      (fun j hj => by rw [cell_of_row W g _ cur e (0, 0) hh]; simp; omega) (fun j _ => blk_frozen hh _) (by intro u hu; simp only [encs, List.mem_map] at hu; obtain ⟨q, _, rfl⟩ := hu; exact h1 q)
    obtain ⟨cur', h3, h4, h5⟩ := setCells_row (encs enc (ys.take (min m xs.length))) 0 W cur hh (by rw [hkl]; omega)
    obtain ⟨s1, s2, s3, s4⟩ := setCells_same g (encs enc (ys.take (min m xs.length))) 0 W
    refine fin _ (by rw [hv, hA, hr, hkl]) (R_of_own ?_ HO.1) ⟨s1, s2, s3, by rw [s4]; exact Nat.le_refl _, fun k _ hk => setCells_far _ _ k (fun he => hk (by rw [hv, he]; simp [Value.ownBlock]))⟩
    have hln : (ys.take (min m xs.length) ++ xs.drop (min m xs.length)).length = xs.length := by
      rw [List.length_append, List.length_take, List.length_drop]
      omega
    rw [hln]
    refine ⟨by rw [encs_length, hln, Nat.mul_one], .inr ⟨g, cap, cur', hv, hb, h3, hnc, hcm, by rw [h4, hcs], ?_⟩⟩
    rw [h5, List.take_zero, List.nil_append, hkl, Nat.zero_add, encs_append, Nat.mul_one]
    rw [List.take_append, hkl, List.take_of_length_le (by rw [hkl]; omega)]
    congr 1
    have htk : cur.toList.take xs.length = encs enc xs := by rw [← htake, Nat.mul_one]
    have hd : encs enc (xs.drop (min m xs.length)) = (encs enc xs).drop (min m xs.length) := by simp [encs, List.map_drop]
    rw [hd, ← htk, List.drop_take]
end
end Proofs.YtdekmeanlcpenaaGreatDoor.Codec
end Go

namespace Go.Proofs.YtdekmeanlcpenaaGreatDoor.Codec
open Go.RowKit Go.Proofs.YtdekmeanlcpenaaGreatDoorW.PrintWords Go.Proofs.YtdekmeanlcpenaaGreatDoorW.PrintLast Go.Proofs.YtdekmeanlcpenaaGreatDoorW.PrintMore Go.Proofs.YtdekmeanlcpenaaGreatDoor.Mid Go.Proofs.YtdekmeanlcpenaaGreatDoor.Block Go.Proofs.YtdekmeanlcpenaaGreatDoor.PIntakeDecodes
set_option maxHeartbeats 4000000
set_option maxRecDepth 100000
set_option linter.unusedVariables false
set_option linter.unusedSimpArgs false
/-- What a take of bytes answers: bytes of one's own. -/
def RetBytes (w0 W : World) (g : Nat) (xs : List Int) (s1 : RS) (e : Ending) (w' : World) : Prop :=
  ∃ A1 c1, e = .returned (.slice A1 xs.length c1) ∧ Kd.R (Kd.int .u8) 5 w' W.heap.size (fun _ => True) (.slice A1 xs.length c1) xs ∧ Rr w0 w' g s1 ∧ KeepBut W w' g none
theorem tk_raw_no (w0 W : World) (g : Nat) (s : RS) (h : Rr w0 W g s) (n : Nat) (h0 : s.code ≠ 0) : Calls Tryz.prog 70 #[.pointer (some ⟨g, 0, none⟩), .int .i64 n] W (RetBytes w0 W g (s.raw n).1 (s.raw n).2) := by
  obtain ⟨A, c, hblk, hge, hC⟩ := h.is
  have c2 : W.cell? ⟨g, 2, none⟩ = some (.int .i64 s.code) := (blk_cell hblk _).trans rfl
  have hne : ¬ (s.code : Int) = 0 := by omega
  have hn2 : ((s.code : Int) != 0) = true := by simp [bne_iff_ne]; omega
  have hn3 : ((s.code : Int) == 0) = false := by simp; omega
  have HN : Aside0 (s.raw n = ([], s)) := ⟨by rw [RS.raw, if_pos h0]⟩
  have H := Aside0.mk h
  clear h hblk hC
  go_enter Tryz.func70, Tryz.ntmps70
  go_wp2
  go_ret
  rw [HN.out]
  exact ⟨none, 0, rfl, Kd.R_nil _ _ _ _ _, H.out, KeepBut.refl _ _ _⟩
theorem tk_raw_short (w0 W : World) (g : Nat) (s : RS) (h : Rr w0 W g s) (n : Nat) (hn : n ≤ 140737488351232) (h0 : s.code = 0) (hs : s.data.length - s.at_ < n) : Calls Tryz.prog 70 #[.pointer (some ⟨g, 0, none⟩), .int .i64 n] W (RetBytes w0 W g (s.raw n).1 (s.raw n).2) := by
  obtain ⟨A, c, hblk, hge, hC⟩ := h.is
  have c2 : W.cell? ⟨g, 2, none⟩ = some (.int .i64 s.code) := (blk_cell hblk _).trans rfl
  have hc0 : (s.code : Int) = 0 := by omega
  rw [hc0] at c2
  have hal := h.at_
  have hll := h.len
  have hlt : (s.data.length : Int) - (s.at_ : Int) < (n : Int) := by omega
  have hsub : IntKind.i64.wrap ((s.data.length : Int) - (s.at_ : Int)) = (s.data.length : Int) - (s.at_ : Int) := IntWalk.i64_in _ (by omega)
  have HN : Aside0 (s.raw n = ([], s.bad 10)) := ⟨by rw [RS.raw, if_neg (by simp [h0]), if_pos hs]⟩
  have H := Aside0.mk h
  have HBK := Aside0.mk hblk
  have g0 : ∀ x : CW (Since W), x.w.cell? ⟨g, 0, none⟩ = some (.slice A s.data.length c) := fun x => (blk_cell (blk_below HBK.out x.h) _).trans rfl
  have g1 : ∀ x : CW (Since W), x.w.cell? ⟨g, 1, none⟩ = some (.int .i64 s.at_) := fun x => (blk_cell (blk_below HBK.out x.h) _).trans rfl
  clear h hblk hC hc0 h0 hs hal hll
  go_enter Tryz.func70, Tryz.ntmps70
  go_upto_region 6 with (fail)
  refine wp_region_S (Since W) (by kernel_rfl) (by kernel_rfl) (since_drew W) ?_
  repeat (go_big_quiet_step (fail))
  refine wpQuiet_nil ?_
  rintro w5 ⟨x5, e5⟩
  have hb5 : Below W.heap.size W w5 := e5 ▸ x5.h
  clear e5 x5 g0 g1 c2
  have H5 := Aside0.mk (H.out.below hb5)
  have HB5 := Aside0.mk hb5
  clear hb5
  go_wp2_with (first
    | (go_at_call 117; refine (spoil_to w0 _ g s H5.out 10).mono ?_; rintro e w6 ⟨rfl, h6, k6⟩; have H6 := Aside0.mk (And.intro h6 k6); clear h6 k6)
    | go_in)
  go_ret
  rw [HN.out]
  exact ⟨none, 0, rfl, Kd.R_nil _ _ _ _ _, H6.out.1, (KeepBut.of_below HB5.out g none).trans H6.out.2 (Or.inl rfl)⟩
theorem tk_raw_ok (w0 W : World) (g : Nat) (s : RS) (h : Rr w0 W g s) (n : Nat) (h0 : s.code = 0) (hs : ¬ s.data.length - s.at_ < n) : Calls Tryz.prog 70 #[.pointer (some ⟨g, 0, none⟩), .int .i64 n] W (RetBytes w0 W g (s.raw n).1 (s.raw n).2) := by
  obtain ⟨A, c, hblk, hge, hC⟩ := h.is
  have c2 : W.cell? ⟨g, 2, none⟩ = some (.int .i64 s.code) := (blk_cell hblk _).trans rfl
  have hc0 : (s.code : Int) = 0 := by omega
  rw [hc0] at c2
  have hal := h.at_
  have hll := h.len
  have hlt : decide ((s.data.length : Int) - (s.at_ : Int) < (n : Int)) = false := by simp; omega
  have hsub : IntKind.i64.wrap ((s.data.length : Int) - (s.at_ : Int)) = (s.data.length : Int) - (s.at_ : Int) := IntWalk.i64_in _ (by omega)
  have HN : Aside0 (s.raw n = (s.rest.take n, s.on n) ∧ s.at_ + n ≤ s.data.length ∧ n ≤ 140737488351232 ∧ s.rest.length = s.data.length - s.at_) := ⟨by rw [RS.raw, if_neg (by simp [h0]), if_neg hs], by omega, by omega, by rw [RS.rest, List.length_drop]⟩
  obtain ⟨i5, hi5, hs5⟩ := info5s
  obtain ⟨A', hcut, hA'⟩ := print_cut (P := Tryz.prog) 47 5 .i64 Tryz.underlying47 hi5 hs5 A s.data.length c s.at_ hal
  have HCl : Aside0 (∀ u, Below W.heap.size W u → Kd.C (Kd.int .u8) u A' (s.data.length - s.at_) s.rest) := ⟨fun u hu => by
    have h1 := hA' u .u8 s.data hC.2 (Kd.reads_of_C (enc := Value.int .u8) (d := (0 : Int)) (h1 := fun _ => rfl) (Kd.C_below hC.1 (below_step h.bel hu)))
    exact Kd.C_of_reads (enc := Value.int .u8) (d := (0 : Int)) (h1 := fun _ => rfl) h1⟩
  have H := Aside0.mk h
  have HBK := Aside0.mk hblk
  have g0 : ∀ x : CW (Since W), x.w.cell? ⟨g, 0, none⟩ = some (.slice A s.data.length c) := fun x => (blk_cell (blk_below HBK.out x.h) _).trans rfl
  have g1 : ∀ x : CW (Since W), x.w.cell? ⟨g, 1, none⟩ = some (.int .i64 s.at_) := fun x => (blk_cell (blk_below HBK.out x.h) _).trans rfl
  have HX := Aside0.mk (And.intro hC hge)
  have hn0 : (n : Int) ≤ 140737488351232 := by omega
  clear h hblk hC hc0 h0 hs hA' hi5 hs5
  go_enter Tryz.func70, Tryz.ntmps70
  go_upto_region 6 with (fail)
  refine wp_region_S (Since W) (by kernel_rfl) (by kernel_rfl) (since_drew W) ?_
  repeat (go_big_quiet_step (fail))
  refine wpQuiet_nil ?_
  rintro w5 ⟨x5, e5⟩
  have hb5 : Below W.heap.size W w5 := e5 ▸ x5.h
  clear e5 x5 g0 g1 c2
  have H5 := Aside0.mk (H.out.below hb5)
  have HB5 := Aside0.mk hb5
  clear hb5
  go_upto_region 10 with (first
    | ((with_reducible refine gate_dst (N := 30) rfl ?_); refine Kd.R_make (Kd.int .u8) (w0 := W) W.heap.size 5 rfl rfl 47 _ _ rfl (n : Int) rfl rfl Tryz.underlying47 (.int .u8 0) 1 info5 rfl (by decide) (by decide) 0 (ok := fun _ => True) (okp := fun _ => False) rfl (fun _ h => h.elim) trivial (by omega) (by have := HN.out.2.2.1; simp; omega) HB5.out HB5.out.size ?_
       intro v1 w1 a1 a2 a3 a4
       rw [Int.toNat_natCast] at a1
       obtain ⟨A1, k1, e1⟩ := Kd.R_slice a1
       rw [List.length_replicate] at e1
       subst e1
       have S1 := Aside0.mk (And.intro a1 a2)
       clear a1 a2 a3 a4)
    | go_in)
  have SC : Aside0 (w1.drew.cell? ⟨g, 0, none⟩ = some (.slice A s.data.length c) ∧ w1.drew.cell? ⟨g, 1, none⟩ = some (.int .i64 s.at_)) := ⟨(blk_cell (blk_below HBK.out S1.out.2) _).trans rfl, (blk_cell (blk_below HBK.out S1.out.2) _).trans rfl⟩
  refine wp_region_held (S := fun u => u.cell? ⟨g, 0, none⟩ = some (.slice A s.data.length c) ∧ u.cell? ⟨g, 1, none⟩ = some (.int .i64 s.at_)) (by kernel_rfl) ?_
  change wpAnyH _ _ _ _ _ _ _ _ w1.drew
  refine wpAnyH_take (i := 0) (v := ?_) rfl (by kernel_rfl) (by kernel_rfl) (by kernel_rfl) (fun _ _ _ h => h) (Or.inl ⟨by rfl, ?_⟩) SC.out ?_
  rotate_left
  · (intro wG hSw; have q0 : wG.cell? ⟨g, 0, none⟩ = some (.slice A s.data.length c) := hSw.1; have q1 : wG.cell? ⟨g, 1, none⟩ = some (.int .i64 s.at_) := hSw.2; go_simp; try with_reducible rfl)
  try simp only [Act.put, List.getElem_toArray, List.getElem_cons_succ, List.getElem_cons_zero, List.setIfInBounds_toArray, List.set]
  refine wpAnyH_take (i := 1) (v := ?_) rfl (by kernel_rfl) (by kernel_rfl) (by kernel_rfl) (fun _ _ _ h => h) (Or.inl ⟨by rfl, ?_⟩) SC.out ?_
  rotate_left
  · (intro wG hSw; have q0 : wG.cell? ⟨g, 0, none⟩ = some (.slice A s.data.length c) := hSw.1; have q1 : wG.cell? ⟨g, 1, none⟩ = some (.int .i64 s.at_) := hSw.2; go_simp; try with_reducible rfl)
  try simp only [Act.put, List.getElem_toArray, List.getElem_cons_succ, List.getElem_cons_zero, List.setIfInBounds_toArray, List.set]
  refine wpAnyH_take (i := 2) (v := ?_) rfl (by kernel_rfl) (by kernel_rfl) (by kernel_rfl) (fun _ _ _ h => h) (Or.inl ⟨by rfl, ?_⟩) SC.out ?_
  rotate_left
  · (intro wG hSw; have q0 : wG.cell? ⟨g, 0, none⟩ = some (.slice A s.data.length c) := hSw.1; have q1 : wG.cell? ⟨g, 1, none⟩ = some (.int .i64 s.at_) := hSw.2; go_simp; try with_reducible rfl)
  try simp only [Act.put, List.getElem_toArray, List.getElem_cons_succ, List.getElem_cons_zero, List.setIfInBounds_toArray, List.set]
  refine wpAnyH_take (i := 3) (v := ?_) rfl (by kernel_rfl) (by kernel_rfl) (by kernel_rfl) (fun _ _ _ h => h) (Or.inl ⟨by rfl, ?_⟩) SC.out ?_
  rotate_left
  · (intro wG hSw; have q0 : wG.cell? ⟨g, 0, none⟩ = some (.slice A s.data.length c) := hSw.1; have q1 : wG.cell? ⟨g, 1, none⟩ = some (.int .i64 s.at_) := hSw.2; go_simp; try with_reducible rfl)
  try simp only [Act.put, List.getElem_toArray, List.getElem_cons_succ, List.getElem_cons_zero, List.setIfInBounds_toArray, List.set]
  refine wpAnyH_take (i := 4) (v := ?_) rfl (by kernel_rfl) (by kernel_rfl) (by kernel_rfl) (fun _ _ _ h => h) (Or.inl ⟨by rfl, ?_⟩) SC.out ?_
  rotate_left
  · (intro wG hSw; have q0 : wG.cell? ⟨g, 0, none⟩ = some (.slice A s.data.length c) := hSw.1; have q1 : wG.cell? ⟨g, 1, none⟩ = some (.int .i64 s.at_) := hSw.2; go_simp; try with_reducible rfl)
  try simp only [Act.put, List.getElem_toArray, List.getElem_cons_succ, List.getElem_cons_zero, List.setIfInBounds_toArray, List.set]
  refine wpAnyH_take (i := 5) (v := ?_) rfl (by kernel_rfl) (by kernel_rfl) (by kernel_rfl) (fun _ _ _ h => h) (Or.inl ⟨by rfl, ?_⟩) SC.out ?_
  rotate_left
  · (intro wG hSw; have q0 : wG.cell? ⟨g, 0, none⟩ = some (.slice A s.data.length c) := hSw.1; have q1 : wG.cell? ⟨g, 1, none⟩ = some (.int .i64 s.at_) := hSw.2; go_simp; try with_reducible rfl)
  try simp only [Act.put, List.getElem_toArray, List.getElem_cons_succ, List.getElem_cons_zero, List.setIfInBounds_toArray, List.set]
  refine wpAnyH_take (i := 6) (v := ?_) rfl (by kernel_rfl) (by kernel_rfl) (by kernel_rfl) (fun _ _ _ h => h) (Or.inl ⟨by rfl, ?_⟩) SC.out ?_
  rotate_left
  · (intro wG hSw; have q0 : wG.cell? ⟨g, 0, none⟩ = some (.slice A s.data.length c) := hSw.1; have q1 : wG.cell? ⟨g, 1, none⟩ = some (.int .i64 s.at_) := hSw.2; go_simp; try with_reducible rfl)
  try simp only [Act.put, List.getElem_toArray, List.getElem_cons_succ, List.getElem_cons_zero, List.setIfInBounds_toArray, List.set]
  refine wpAnyH_take (i := 7) (v := ?_) rfl (by kernel_rfl) (by kernel_rfl) (by kernel_rfl) (fun _ _ _ h => h) (Or.inl ⟨by rfl, ?_⟩) SC.out ?_
  rotate_left
  · (intro wG hSw; have q0 : wG.cell? ⟨g, 0, none⟩ = some (.slice A s.data.length c) := hSw.1; have q1 : wG.cell? ⟨g, 1, none⟩ = some (.int .i64 s.at_) := hSw.2; go_simp; try with_reducible rfl)
  try simp only [Act.put, List.getElem_toArray, List.getElem_cons_succ, List.getElem_cons_zero, List.setIfInBounds_toArray, List.set]
  refine wpAnyH_take (i := 8) (v := ?_) rfl (by kernel_rfl) (by kernel_rfl) (by kernel_rfl) (fun _ _ _ h => h) (Or.inl ⟨by rfl, ?_⟩) SC.out ?_
  rotate_left
  · (intro wG hSw; have q0 : wG.cell? ⟨g, 0, none⟩ = some (.slice A s.data.length c) := hSw.1; have q1 : wG.cell? ⟨g, 1, none⟩ = some (.int .i64 s.at_) := hSw.2; go_simp; try with_reducible rfl)
  try simp only [Act.put, List.getElem_toArray, List.getElem_cons_succ, List.getElem_cons_zero, List.setIfInBounds_toArray, List.set]
  refine wpAnyH_take (i := 9) (v := ?_) rfl (by kernel_rfl) (by kernel_rfl) (by kernel_rfl) (fun _ _ _ h => h) (Or.inl ⟨by rfl, ?_⟩) SC.out ?_
  rotate_left
  · (intro wG hSw; have q0 : wG.cell? ⟨g, 0, none⟩ = some (.slice A s.data.length c) := hSw.1; have q1 : wG.cell? ⟨g, 1, none⟩ = some (.int .i64 s.at_) := hSw.2; go_simp; try with_reducible rfl)
  try simp only [Act.put, List.getElem_toArray, List.getElem_cons_succ, List.getElem_cons_zero, List.setIfInBounds_toArray, List.set]
  refine heldOne (i := 10) (by kernel_rfl) rfl (by rfl) ?_
  refine R_copyW (enc := Value.int .u8) (h1 := fun _ => rfl) (0 : Int) (w0 := W) W.heap.size (.tmp 31) (.tmp 40) 47 47 5 rfl Tryz.underlying47 info5z (.slice A1 n k1) (List.replicate n 0) s.rest A' (s.data.length - s.at_) (c - s.at_) (fun _ => True) rfl rfl (Kd.R_below S1.out.1 (below_drew (Below.refl _ _))) (HCl.out _ (below_step S1.out.2 (below_drew (Below.refl _ _)))) (below_step S1.out.2 (below_drew (Below.refl _ _))) (below_step S1.out.2 (below_drew (Below.refl _ _))).size ?_
  intro w2 b1 b2 b3
  have hgl : g < W.heap.size := blk_lt HBK.out
  have hgn : some g ≠ (Value.slice A1 n k1).ownBlock := fun e => by have h1 := Kd.R_base S1.out.1 g e.symm; omega
  have hb2 : w2.heap[g]? = some (.cells #[.slice A s.data.length c, .int .i64 s.at_, .int .i64 s.code, .int .i64 s.place] 132 (0, 0)) := blk_grown (blk_below (blk_below HBK.out S1.out.2) (below_drew (Below.refl _ _))) b3 hgn
  have SD : Aside0 (w2.cell? ⟨g, 0, none⟩ = some (.slice A s.data.length c) ∧ w2.cell? ⟨g, 1, none⟩ = some (.int .i64 s.at_)) := ⟨(blk_cell hb2 _).trans rfl, (blk_cell hb2 _).trans rfl⟩
  have HB2 := Aside0.mk (And.intro hb2 (And.intro b1 b2))
  refine ⟨SD.out, ?_⟩
  try simp only [Act.put, List.getElem_toArray, List.getElem_cons_succ, List.getElem_cons_zero, List.setIfInBounds_toArray, List.set]
  refine wpAnyH_done (by kernel_rfl) ?_ _
  have c1' := SD.out.2
  have f1' : w2.frozen? ⟨g, 1, none⟩ = false := blk_frozen hb2 _
  have hs1 : s.at_ + n ≤ 9223372036854775807 := by have := HN.out.2.2.1; omega
  have hw : wrap64 ((s.at_ : Int) + (n : Int)) = ((s.at_ + n : Nat) : Int) := w64add hs1
  clear b1 b2 b3 hb2 hgl hgn hs1
  go_wp2
  go_ret
  have hn9 := HN.out
  rw [hn9.1]
  have hl : (s.rest.take n).length = n := by rw [List.length_take]; omega
  have hR : Kd.R (Kd.int .u8) 5 w2 W.heap.size (fun _ => True) (.slice A1 n k1) (s.rest.take n) := by
    have h1 := HB2.out.2.1
    rw [List.length_replicate, Nat.min_eq_right (by omega), List.drop_of_length_le (Nat.le_of_eq List.length_replicate), List.append_nil] at h1
    exact h1
  have hRr : Rr w0 w2 g s := ⟨⟨A, c, HB2.out.1, HX.out.2, HX.out.1⟩, H.out.bel.trans (HB2.out.2.2.mono H.out.bel.size), H.out.byt, H.out.len, H.out.at_⟩
  refine ⟨A1, k1, by rw [hl]; rfl, ?_, hRr.on hn9.2.1, (KeepBut.of_below HB2.out.2.2 g none).set_ _ _⟩
  rw [hl]
  exact Kd.R_grown1 hR rfl (grown_set w2 ⟨g, 1, none⟩ _) (fun e => by have h1 := Kd.R_base S1.out.1 g e.symm; have h2 := blk_lt HBK.out; omega)
theorem tk_raw (w0 W : World) (g : Nat) (s : RS) (h : Rr w0 W g s) (n : Nat) (hn : n ≤ 140737488351232) : Calls Tryz.prog 70 #[.pointer (some ⟨g, 0, none⟩), .int .i64 n] W (RetBytes w0 W g (s.raw n).1 (s.raw n).2) := by
  by_cases h0 : s.code = 0
  · by_cases hs : s.data.length - s.at_ < n
    · exact tk_raw_short w0 W g s h n hn h0 hs
    · exact tk_raw_ok w0 W g s h n h0 hs
  · exact tk_raw_no w0 W g s h n h0
end Go.Proofs.YtdekmeanlcpenaaGreatDoor.Codec
