import Derived.Test.YtdekmeanlcpenaaGreatDoorCg8
import Derived.Test.YtdekmeanlcpenaaGreatDoorCg7
import Derived.Test.YtdekmeanlcpenaaGreatDoorCg6
import Derived.IntWalk
set_option linter.unusedSimpArgs false
set_option linter.unusedVariables false
namespace Go.Proofs.YtdekmeanlcpenaaGreatDoor.Block
end Go.Proofs.YtdekmeanlcpenaaGreatDoor.Block
namespace Go.Proofs.YtdekmeanlcpenaaGreatDoor.Mid
end Go.Proofs.YtdekmeanlcpenaaGreatDoor.Mid
namespace Go.Proofs.YtdekmeanlcpenaaGreatDoor.PIntakeDecodes
end Go.Proofs.YtdekmeanlcpenaaGreatDoor.PIntakeDecodes
namespace Go.Proofs.YtdekmeanlcpenaaGreatDoor.Codec
open Go.RowKit Go.Proofs.YtdekmeanlcpenaaGreatDoorW.PrintWords Go.Proofs.YtdekmeanlcpenaaGreatDoorW.PrintLast Go.Proofs.YtdekmeanlcpenaaGreatDoorW.PrintMore Go.Proofs.YtdekmeanlcpenaaGreatDoor.Mid Go.Proofs.YtdekmeanlcpenaaGreatDoor.Block Go.Proofs.YtdekmeanlcpenaaGreatDoor.PIntakeDecodes
set_option maxHeartbeats 4000000
set_option maxRecDepth 100000
set_option linter.unusedVariables false
set_option linter.unusedSimpArgs false
theorem w67 (a k v : Nat) (h : a + k + v ≤ 140737488351232) : Aside0 (IntKind.i64.wrap ((a : Int) + (k : Int)) = (a : Int) + (k : Int) ∧ wrap64 ((a : Int) + (k : Int)) = (a : Int) + (k : Int) ∧ wrap64 ((a : Int) + (k : Int) + (v : Int)) = (a : Int) + (k : Int) + (v : Int)) :=
  ⟨IntWalk.i64_in _ (by omega), w64i (by omega) (by omega), w64i (by omega) (by omega)⟩
theorem tk_text_no (w0 W : World) (g : Nat) (s : RS) (h : Rr w0 W g s) (most : Nat) (h0 : s.code ≠ 0) : Calls Tryz.prog 67 #[.pointer (some ⟨g, 0, none⟩), .int .i64 most] W (RetBytes w0 W g (s.text most).1 (s.text most).2) := by
  obtain ⟨A, c, hblk, hge, hC⟩ := h.is
  have c2 : W.cell? ⟨g, 2, none⟩ = some (.int .i64 s.code) := (blk_cell hblk _).trans rfl
  have hne : ¬ (s.code : Int) = 0 := by omega
  have hn2 : ((s.code : Int) != 0) = true := by simp [bne_iff_ne]; omega
  have hn3 : ((s.code : Int) == 0) = false := by simp; omega
  have HN : Aside0 (s.text most = ([], s)) := ⟨by rw [RS.text, if_pos h0]⟩
  have H := Aside0.mk h
  clear h hblk hC
  go_enter Tryz.func67, Tryz.ntmps67
  go_wp2
  go_ret
  rw [HN.out]
  exact ⟨none, 0, rfl, Kd.R_nil _ _ _ _ _, H.out, KeepBut.refl _ _ _⟩
theorem tk_text_er (w0 W : World) (g : Nat) (s : RS) (h : Rr w0 W g s) (most : Nat) (hm : most ≤ 140737488351232) (h0 : s.code = 0) (v k er : Nat) (hr : numR s.rest 0 0 1 = (v, k, er)) (he : er ≠ 0) : Calls Tryz.prog 67 #[.pointer (some ⟨g, 0, none⟩), .int .i64 most] W (RetBytes w0 W g (s.text most).1 (s.text most).2) := by
  obtain ⟨A, c, hblk, hge, hC⟩ := h.is
  have c2 : W.cell? ⟨g, 2, none⟩ = some (.int .i64 s.code) := (blk_cell hblk _).trans rfl
  have hc0 : (s.code : Int) = 0 := by omega
  rw [hc0] at c2
  have hal := h.at_
  have hll := h.len
  have H := Aside0.mk h
  have HBK := Aside0.mk hblk
  have HC := Aside0.mk hC
  have g0 : ∀ x : CW (Since W), x.w.cell? ⟨g, 0, none⟩ = some (.slice A s.data.length c) := fun x => (blk_cell (blk_below HBK.out x.h) _).trans rfl
  have g1 : ∀ x : CW (Since W), x.w.cell? ⟨g, 1, none⟩ = some (.int .i64 s.at_) := fun x => (blk_cell (blk_below HBK.out x.h) _).trans rfl
  have HNM : Aside0 (∀ u, Below W.heap.size W u → Calls Tryz.prog 118 #[.slice A s.data.length c, .int .i64 s.at_] u fun e w' => e = .returned (.tuple #[.int .i64 (v : Int), .int .i64 (k : Int), .int .i64 (er : Int)]) ∧ Below u.heap.size u w') := ⟨fun u hb => by
    have h9 := numb_any w0 W g s H.out A c u hb HC.out
    rw [hr] at h9
    exact h9⟩
  have hmo : (most : Int) ≤ 140737488351232 := by omega
  have HN : Aside0 (s.text most = ([], s.bad er)) := ⟨by rw [RS.text, if_neg (by simp [h0]), hr]; exact if_pos he⟩
  have he1 : ¬ (er : Int) = 0 := by omega
  have he2 : ((er : Int) != 0) = true := by simp [bne_iff_ne]; omega
  have he3 : ((er : Int) == 0) = false := by simp; omega
  clear h hblk hC hc0 h0 hr hal hll he
  go_enter Tryz.func67, Tryz.ntmps67
  go_upto_region 6 with (fail)
  refine wp_region_S (Since W) (by kernel_rfl) (by kernel_rfl) (since_drew W) ?_
  repeat (go_big_quiet_step (first | (go_at_call 118; refine calls_since (HNM.out _ (CW.h _)))))
  refine wpQuiet_nil ?_
  rintro w5 ⟨x5, e5⟩
  have hb5 : Below W.heap.size W w5 := e5 ▸ x5.h
  clear e5 x5 g0 g1 c2
  have H5 := Aside0.mk (H.out.below hb5)
  have HB5 := Aside0.mk hb5
  clear hb5
  go_wp2_with (first
    | (go_at_call 117; refine (spoil_to w0 _ g s H5.out er).mono ?_; rintro e w7 ⟨rfl, h7, k7⟩; have H7 := Aside0.mk (And.intro h7 k7); clear h7 k7)
    | go_in)
  go_ret
  rw [HN.out]
  exact ⟨none, 0, rfl, Kd.R_nil _ _ _ _ _, H7.out.1, (KeepBut.of_below HB5.out g none).trans H7.out.2 (Or.inl rfl)⟩
theorem tk_text_big (w0 W : World) (g : Nat) (s : RS) (h : Rr w0 W g s) (most : Nat) (hm : most ≤ 140737488351232) (h0 : s.code = 0) (v k : Nat) (er : Nat) (hr : numR s.rest 0 0 1 = (v, k, er)) (he : er = 0) (hv : most < v) : Calls Tryz.prog 67 #[.pointer (some ⟨g, 0, none⟩), .int .i64 most] W (RetBytes w0 W g (s.text most).1 (s.text most).2) := by
  subst he
  obtain ⟨A, c, hblk, hge, hC⟩ := h.is
  have c2 : W.cell? ⟨g, 2, none⟩ = some (.int .i64 s.code) := (blk_cell hblk _).trans rfl
  have hc0 : (s.code : Int) = 0 := by omega
  rw [hc0] at c2
  have hal := h.at_
  have hll := h.len
  have H := Aside0.mk h
  have HBK := Aside0.mk hblk
  have HC := Aside0.mk hC
  have g0 : ∀ x : CW (Since W), x.w.cell? ⟨g, 0, none⟩ = some (.slice A s.data.length c) := fun x => (blk_cell (blk_below HBK.out x.h) _).trans rfl
  have g1 : ∀ x : CW (Since W), x.w.cell? ⟨g, 1, none⟩ = some (.int .i64 s.at_) := fun x => (blk_cell (blk_below HBK.out x.h) _).trans rfl
  have HNM : Aside0 (∀ u, Below W.heap.size W u → Calls Tryz.prog 118 #[.slice A s.data.length c, .int .i64 s.at_] u fun e w' => e = .returned (.tuple #[.int .i64 (v : Int), .int .i64 (k : Int), .int .i64 0]) ∧ Below u.heap.size u w') := ⟨fun u hb => by
    have h9 := numb_any w0 W g s H.out A c u hb HC.out
    rw [hr] at h9
    exact h9⟩
  have hmo : (most : Int) ≤ 140737488351232 := by omega
  have HN : Aside0 (s.text most = ([], s.bad 2)) := ⟨by rw [RS.text, if_neg (by simp [h0]), hr]; simp only [ne_eq, not_true_eq_false, if_false]; exact if_pos hv⟩
  have hv1 : (most : Int) < (v : Int) := by omega
  clear h hblk hC hc0 h0 hr hal hll hv
  go_enter Tryz.func67, Tryz.ntmps67
  go_upto_region 6 with (fail)
  refine wp_region_S (Since W) (by kernel_rfl) (by kernel_rfl) (since_drew W) ?_
  repeat (go_big_quiet_step (first | (go_at_call 118; refine calls_since (HNM.out _ (CW.h _)))))
  refine wpQuiet_nil ?_
  rintro w5 ⟨x5, e5⟩
  have hb5 : Below W.heap.size W w5 := e5 ▸ x5.h
  clear e5 x5 g0 g1 c2
  have H5 := Aside0.mk (H.out.below hb5)
  have HB5 := Aside0.mk hb5
  clear hb5
  go_wp2_with (first
    | (go_at_call 117; refine (spoil_to w0 _ g s H5.out 2).mono ?_; rintro e w7 ⟨rfl, h7, k7⟩; have H7 := Aside0.mk (And.intro h7 k7); clear h7 k7)
    | go_in)
  go_ret
  rw [HN.out]
  exact ⟨none, 0, rfl, Kd.R_nil _ _ _ _ _, H7.out.1, (KeepBut.of_below HB5.out g none).trans H7.out.2 (Or.inl rfl)⟩
theorem tk_text_short (w0 W : World) (g : Nat) (s : RS) (h : Rr w0 W g s) (most : Nat) (hm : most ≤ 140737488351232) (h0 : s.code = 0) (v k : Nat) (er : Nat) (hr : numR s.rest 0 0 1 = (v, k, er)) (he : er = 0) (hv : ¬ most < v) (hs : s.data.length - s.at_ - k < v) : Calls Tryz.prog 67 #[.pointer (some ⟨g, 0, none⟩), .int .i64 most] W (RetBytes w0 W g (s.text most).1 (s.text most).2) := by
  subst he
  obtain ⟨A, c, hblk, hge, hC⟩ := h.is
  have c2 : W.cell? ⟨g, 2, none⟩ = some (.int .i64 s.code) := (blk_cell hblk _).trans rfl
  have hc0 : (s.code : Int) = 0 := by omega
  rw [hc0] at c2
  have hal := h.at_
  have hll := h.len
  have H := Aside0.mk h
  have HBK := Aside0.mk hblk
  have HC := Aside0.mk hC
  have g0 : ∀ x : CW (Since W), x.w.cell? ⟨g, 0, none⟩ = some (.slice A s.data.length c) := fun x => (blk_cell (blk_below HBK.out x.h) _).trans rfl
  have g1 : ∀ x : CW (Since W), x.w.cell? ⟨g, 1, none⟩ = some (.int .i64 s.at_) := fun x => (blk_cell (blk_below HBK.out x.h) _).trans rfl
  have HNM : Aside0 (∀ u, Below W.heap.size W u → Calls Tryz.prog 118 #[.slice A s.data.length c, .int .i64 s.at_] u fun e w' => e = .returned (.tuple #[.int .i64 (v : Int), .int .i64 (k : Int), .int .i64 0]) ∧ Below u.heap.size u w') := ⟨fun u hb => by
    have h9 := numb_any w0 W g s H.out A c u hb HC.out
    rw [hr] at h9
    exact h9⟩
  have hmo : (most : Int) ≤ 140737488351232 := by omega
  have HN : Aside0 (s.text most = ([], s.bad 10)) := ⟨by rw [RS.text, if_neg (by simp [h0]), hr]; simp only [ne_eq, not_true_eq_false, if_false]; rw [if_neg hv, if_pos hs]⟩
  have hk5 := numR_le s.rest 0 0 1 v k (by omega) hr
  have hrl : s.rest.length = s.data.length - s.at_ := by rw [RS.rest, List.length_drop]
  have hkd : s.at_ + k ≤ s.data.length := by omega
  have hsub : IntKind.i64.wrap ((s.data.length : Int) - (s.at_ : Int)) = (s.data.length : Int) - (s.at_ : Int) := IntWalk.i64_in _ (by omega)
  have hsub2 : IntKind.i64.wrap ((s.data.length : Int) - (s.at_ : Int) - (k : Int)) = (s.data.length : Int) - (s.at_ : Int) - (k : Int) := IntWalk.i64_in _ (by omega)
  have hv1 : ¬ (most : Int) < (v : Int) := by omega
  have hs1 : (s.data.length : Int) - (s.at_ : Int) - (k : Int) < (v : Int) := by omega
  clear h hblk hC hc0 h0 hr hal hll hv hk5 hrl hs
  go_enter Tryz.func67, Tryz.ntmps67
  go_upto_region 6 with (fail)
  refine wp_region_S (Since W) (by kernel_rfl) (by kernel_rfl) (since_drew W) ?_
  repeat (go_big_quiet_step (first | (go_at_call 118; refine calls_since (HNM.out _ (CW.h _)))))
  refine wpQuiet_nil ?_
  rintro w5 ⟨x5, e5⟩
  have hb5 : Below W.heap.size W w5 := e5 ▸ x5.h
  clear e5 x5 g0 g1 c2
  have H5 := Aside0.mk (H.out.below hb5)
  have HB5 := Aside0.mk hb5
  have g0 : ∀ x : CW (Since w5), x.w.cell? ⟨g, 0, none⟩ = some (.slice A s.data.length c) := fun x => (blk_cell (blk_below (blk_below HBK.out hb5) x.h) _).trans rfl
  have g1 : ∀ x : CW (Since w5), x.w.cell? ⟨g, 1, none⟩ = some (.int .i64 s.at_) := fun x => (blk_cell (blk_below (blk_below HBK.out hb5) x.h) _).trans rfl
  clear hb5
  go_upto_region 13 with (fail)
  refine wp_region_S (Since w5) (by kernel_rfl) (by kernel_rfl) (since_drew w5) ?_
  repeat (go_big_quiet_step (fail))
  refine wpQuiet_nil ?_
  rintro w6 ⟨x6, e6⟩
  have hb6 : Below w5.heap.size w5 w6 := e6 ▸ x6.h
  clear e6 x6 g0 g1
  have H6 := Aside0.mk (H5.out.below hb6)
  have HB6 := Aside0.mk (below_step HB5.out hb6)
  clear hb6
  go_wp2_with (first
    | (go_at_call 117; refine (spoil_to w0 _ g s H6.out 10).mono ?_; rintro e w7 ⟨rfl, h7, k7⟩; have H7 := Aside0.mk (And.intro h7 k7); clear h7 k7)
    | go_in)
  go_ret
  rw [HN.out]
  exact ⟨none, 0, rfl, Kd.R_nil _ _ _ _ _, H7.out.1, (KeepBut.of_below HB6.out g none).trans H7.out.2 (Or.inl rfl)⟩
theorem tk_text_ok (w0 W : World) (g : Nat) (s : RS) (h : Rr w0 W g s) (most : Nat) (hm : most ≤ 140737488351232) (h0 : s.code = 0) (v k : Nat) (er : Nat) (hr : numR s.rest 0 0 1 = (v, k, er)) (he : er = 0) (hv : ¬ most < v) (hs : ¬ s.data.length - s.at_ - k < v) : Calls Tryz.prog 67 #[.pointer (some ⟨g, 0, none⟩), .int .i64 most] W (RetBytes w0 W g (s.text most).1 (s.text most).2) := by
  subst he
  obtain ⟨A, c, hblk, hge, hC⟩ := h.is
  have c2 : W.cell? ⟨g, 2, none⟩ = some (.int .i64 s.code) := (blk_cell hblk _).trans rfl
  have hc0 : (s.code : Int) = 0 := by omega
  rw [hc0] at c2
  have hal := h.at_
  have hll := h.len
  have H := Aside0.mk h
  have HBK := Aside0.mk hblk
  have HC := Aside0.mk hC
  have g0 : ∀ x : CW (Since W), x.w.cell? ⟨g, 0, none⟩ = some (.slice A s.data.length c) := fun x => (blk_cell (blk_below HBK.out x.h) _).trans rfl
  have g1 : ∀ x : CW (Since W), x.w.cell? ⟨g, 1, none⟩ = some (.int .i64 s.at_) := fun x => (blk_cell (blk_below HBK.out x.h) _).trans rfl
  have HNM : Aside0 (∀ u, Below W.heap.size W u → Calls Tryz.prog 118 #[.slice A s.data.length c, .int .i64 s.at_] u fun e w' => e = .returned (.tuple #[.int .i64 (v : Int), .int .i64 (k : Int), .int .i64 0]) ∧ Below u.heap.size u w') := ⟨fun u hb => by
    have h9 := numb_any w0 W g s H.out A c u hb HC.out
    rw [hr] at h9
    exact h9⟩
  have hmo : (most : Int) ≤ 140737488351232 := by omega
  have HN : Aside0 (s.text most = ((s.rest.drop k).take v, s.on (k + v)) ∧ s.at_ + (k + v) ≤ s.data.length ∧ v ≤ 140737488351232 ∧ (s.rest.drop k).length = s.data.length - (s.at_ + k)) := ⟨by rw [RS.text, if_neg (by simp [h0]), hr]; simp only [ne_eq, not_true_eq_false, if_false]; rw [if_neg hv, if_neg hs], by have := (numR_le s.rest 0 0 1 v k (by omega) hr).2.1; have : s.rest.length = s.data.length - s.at_ := (by rw [RS.rest, List.length_drop]); omega, by omega, by rw [RS.rest, List.length_drop, List.length_drop]; omega⟩
  have hk5 := numR_le s.rest 0 0 1 v k (by omega) hr
  have hrl : s.rest.length = s.data.length - s.at_ := by rw [RS.rest, List.length_drop]
  have hkd : s.at_ + k ≤ s.data.length := by omega
  have hsub : IntKind.i64.wrap ((s.data.length : Int) - (s.at_ : Int)) = (s.data.length : Int) - (s.at_ : Int) := IntWalk.i64_in _ (by omega)
  have hsub2 : IntKind.i64.wrap ((s.data.length : Int) - (s.at_ : Int) - (k : Int)) = (s.data.length : Int) - (s.at_ : Int) - (k : Int) := IntWalk.i64_in _ (by omega)
  have hv1 : ¬ (most : Int) < (v : Int) := by omega
  have hs1 : decide ((s.data.length : Int) - (s.at_ : Int) - (k : Int) < (v : Int)) = false := by simp; omega
  have hss : s.rest.drop k = s.data.drop (s.at_ + k) := by rw [RS.rest, List.drop_drop]
  obtain ⟨i5, hi5, hs5⟩ := info5s
  obtain ⟨A', hcut, hA'⟩ := print_cut (P := Tryz.prog) 47 5 .i64 Tryz.underlying47 hi5 hs5 A s.data.length c (s.at_ + k) hkd
  have HCl : Aside0 (∀ u, Below W.heap.size W u → Kd.C (Kd.int .u8) u A' (s.data.length - (s.at_ + k)) (s.rest.drop k)) := ⟨fun u hu => by
    have h1 := hA' u .u8 s.data HC.out.2 (Kd.reads_of_C (enc := Value.int .u8) (d := (0 : Int)) (h1 := fun _ => rfl) (Kd.C_below HC.out.1 (below_step H.out.bel hu)))
    rw [hss]
    exact Kd.C_of_reads (enc := Value.int .u8) (d := (0 : Int)) (h1 := fun _ => rfl) h1⟩
  have HX := Aside0.mk (And.intro hC hge)
  have hn0 : (v : Int) ≤ 140737488351232 := by omega
  have hkv : s.at_ + k + v ≤ 140737488351232 := by omega
  have HW := w67 s.at_ k v hkv
  clear h hblk hC hc0 h0 hr hal hll hv hk5 hrl hs hss hA' hi5 hs5 hkv
  go_enter Tryz.func67, Tryz.ntmps67
  go_upto_region 6 with (fail)
  refine wp_region_S (Since W) (by kernel_rfl) (by kernel_rfl) (since_drew W) ?_
  repeat (go_big_quiet_step (first | (go_at_call 118; refine calls_since (HNM.out _ (CW.h _)))))
  refine wpQuiet_nil ?_
  rintro w5 ⟨x5, e5⟩
  have hb5 : Below W.heap.size W w5 := e5 ▸ x5.h
  clear e5 x5 g0 g1 c2
  have H5 := Aside0.mk (H.out.below hb5)
  have HB5 := Aside0.mk hb5
  have g0 : ∀ x : CW (Since w5), x.w.cell? ⟨g, 0, none⟩ = some (.slice A s.data.length c) := fun x => (blk_cell (blk_below (blk_below HBK.out hb5) x.h) _).trans rfl
  have g1 : ∀ x : CW (Since w5), x.w.cell? ⟨g, 1, none⟩ = some (.int .i64 s.at_) := fun x => (blk_cell (blk_below (blk_below HBK.out hb5) x.h) _).trans rfl
  clear hb5
  go_upto_region 13 with (fail)
  refine wp_region_S (Since w5) (by kernel_rfl) (by kernel_rfl) (since_drew w5) ?_
  repeat (go_big_quiet_step (fail))
  refine wpQuiet_nil ?_
  rintro w6 ⟨x6, e6⟩
  have hb6 : Below w5.heap.size w5 w6 := e6 ▸ x6.h
  clear e6 x6 g0 g1
  have H6 := Aside0.mk (H5.out.below hb6)
  have HB6 := Aside0.mk (below_step HB5.out hb6)
  clear hb6
  go_upto_region 17 with (first
    | ((with_reducible refine gate_dst (N := 58) rfl ?_); refine Kd.R_make (Kd.int .u8) (w0 := W) W.heap.size 5 rfl rfl 47 _ _ rfl (v : Int) rfl rfl Tryz.underlying47 (.int .u8 0) 1 info5 rfl (by decide) (by decide) 0 (ok := fun _ => True) (okp := fun _ => False) rfl (fun _ h => h.elim) trivial (by omega) (by have := HN.out.2.2.1; simp; omega) HB6.out HB6.out.size ?_
       intro v1 w1 a1 a2 a3 a4
       rw [Int.toNat_natCast] at a1
       obtain ⟨A1, k1, e1⟩ := Kd.R_slice a1
       rw [List.length_replicate] at e1
       subst e1
       have S1 := Aside0.mk (And.intro a1 a2)
       clear a1 a2 a3 a4)
    | go_in)
  rw [Int.natCast_add] at hcut
  have hw9 := HW.out.1
  have SC : Aside0 (w1.drew.cell? ⟨g, 0, none⟩ = some (.slice A s.data.length c) ∧ w1.drew.cell? ⟨g, 1, none⟩ = some (.int .i64 s.at_)) := ⟨(blk_cell (blk_below HBK.out S1.out.2) _).trans rfl, (blk_cell (blk_below HBK.out S1.out.2) _).trans rfl⟩
  refine wp_region_held (S := fun u => u.cell? ⟨g, 0, none⟩ = some (.slice A s.data.length c) ∧ u.cell? ⟨g, 1, none⟩ = some (.int .i64 s.at_)) (by kernel_rfl) ?_
  change wpAnyH _ _ _ _ _ _ _ _ w1.drew
  refine wpAnyH_take (i := 0) (v := ?_) rfl (by kernel_rfl) (by kernel_rfl) (by kernel_rfl) (fun _ _ _ h => h) (Or.inl ⟨by rfl, ?_⟩) SC.out ?_
  rotate_left
  · (intro wG hSw; have q0 : wG.cell? ⟨g, 0, none⟩ = some (.slice A s.data.length c) := hSw.1; have q1 : wG.cell? ⟨g, 1, none⟩ = some (.int .i64 s.at_) := hSw.2; go_simp; try with_reducible rfl)
  try simp only [Act.put, List.getElem_toArray, List.getElem_cons_succ, List.getElem_cons_zero, List.setIfInBounds_toArray, List.set]
  refine wpAnyH_take (i := 1) (v := ?_) rfl (by kernel_rfl) (by kernel_rfl) (by kernel_rfl) (fun _ _ _ h => h) (Or.inl ⟨by rfl, ?_⟩) SC.out ?_
  rotate_left
  · (intro wG hSw; have q0 : wG.cell? ⟨g, 0, none⟩ = some (.slice A s.data.length c) := hSw.1; have q1 : wG.cell? ⟨g, 1, none⟩ = some (.int .i64 s.at_) := hSw.2; go_simp; try with_reducible rfl)
  try simp only [Act.put, List.getElem_toArray, List.getElem_cons_succ, List.getElem_cons_zero, List.setIfInBounds_toArray, List.set]
  refine wpAnyH_take (i := 2) (v := ?_) rfl (by kernel_rfl) (by kernel_rfl) (by kernel_rfl) (fun _ _ _ h => h) (Or.inl ⟨by rfl, ?_⟩) SC.out ?_
  rotate_left
  · (intro wG hSw; have q0 : wG.cell? ⟨g, 0, none⟩ = some (.slice A s.data.length c) := hSw.1; have q1 : wG.cell? ⟨g, 1, none⟩ = some (.int .i64 s.at_) := hSw.2; go_simp; try with_reducible rfl)
  try simp only [Act.put, List.getElem_toArray, List.getElem_cons_succ, List.getElem_cons_zero, List.setIfInBounds_toArray, List.set]
  refine wpAnyH_take (i := 3) (v := ?_) rfl (by kernel_rfl) (by kernel_rfl) (by kernel_rfl) (fun _ _ _ h => h) (Or.inl ⟨by rfl, ?_⟩) SC.out ?_
  rotate_left
  · (intro wG hSw; have q0 : wG.cell? ⟨g, 0, none⟩ = some (.slice A s.data.length c) := hSw.1; have q1 : wG.cell? ⟨g, 1, none⟩ = some (.int .i64 s.at_) := hSw.2; go_simp; try with_reducible rfl)
  try simp only [Act.put, List.getElem_toArray, List.getElem_cons_succ, List.getElem_cons_zero, List.setIfInBounds_toArray, List.set]
  refine wpAnyH_take (i := 4) (v := ?_) rfl (by kernel_rfl) (by kernel_rfl) (by kernel_rfl) (fun _ _ _ h => h) (Or.inl ⟨by rfl, ?_⟩) SC.out ?_
  rotate_left
  · (intro wG hSw; have q0 : wG.cell? ⟨g, 0, none⟩ = some (.slice A s.data.length c) := hSw.1; have q1 : wG.cell? ⟨g, 1, none⟩ = some (.int .i64 s.at_) := hSw.2; go_simp; try with_reducible rfl)
  try simp only [Act.put, List.getElem_toArray, List.getElem_cons_succ, List.getElem_cons_zero, List.setIfInBounds_toArray, List.set]
  refine wpAnyH_take (i := 5) (v := ?_) rfl (by kernel_rfl) (by kernel_rfl) (by kernel_rfl) (fun _ _ _ h => h) (Or.inl ⟨by rfl, ?_⟩) SC.out ?_
  rotate_left
  · (intro wG hSw; have q0 : wG.cell? ⟨g, 0, none⟩ = some (.slice A s.data.length c) := hSw.1; have q1 : wG.cell? ⟨g, 1, none⟩ = some (.int .i64 s.at_) := hSw.2; go_simp; try with_reducible rfl)
  try simp only [Act.put, List.getElem_toArray, List.getElem_cons_succ, List.getElem_cons_zero, List.setIfInBounds_toArray, List.set]
  refine wpAnyH_take (i := 6) (v := ?_) rfl (by kernel_rfl) (by kernel_rfl) (by kernel_rfl) (fun _ _ _ h => h) (Or.inl ⟨by rfl, ?_⟩) SC.out ?_
  rotate_left
  · (intro wG hSw; have q0 : wG.cell? ⟨g, 0, none⟩ = some (.slice A s.data.length c) := hSw.1; have q1 : wG.cell? ⟨g, 1, none⟩ = some (.int .i64 s.at_) := hSw.2; go_simp; try with_reducible rfl)
  try simp only [Act.put, List.getElem_toArray, List.getElem_cons_succ, List.getElem_cons_zero, List.setIfInBounds_toArray, List.set]
  refine wpAnyH_take (i := 7) (v := ?_) rfl (by kernel_rfl) (by kernel_rfl) (by kernel_rfl) (fun _ _ _ h => h) (Or.inl ⟨by rfl, ?_⟩) SC.out ?_
  rotate_left
  · (intro wG hSw; have q0 : wG.cell? ⟨g, 0, none⟩ = some (.slice A s.data.length c) := hSw.1; have q1 : wG.cell? ⟨g, 1, none⟩ = some (.int .i64 s.at_) := hSw.2; go_simp; try with_reducible rfl)
  try simp only [Act.put, List.getElem_toArray, List.getElem_cons_succ, List.getElem_cons_zero, List.setIfInBounds_toArray, List.set]
  refine wpAnyH_take (i := 8) (v := ?_) rfl (by kernel_rfl) (by kernel_rfl) (by kernel_rfl) (fun _ _ _ h => h) (Or.inl ⟨by rfl, ?_⟩) SC.out ?_
  rotate_left
  · (intro wG hSw; have q0 : wG.cell? ⟨g, 0, none⟩ = some (.slice A s.data.length c) := hSw.1; have q1 : wG.cell? ⟨g, 1, none⟩ = some (.int .i64 s.at_) := hSw.2; go_simp; try with_reducible rfl)
  try simp only [Act.put, List.getElem_toArray, List.getElem_cons_succ, List.getElem_cons_zero, List.setIfInBounds_toArray, List.set]
  refine wpAnyH_take (i := 9) (v := ?_) rfl (by kernel_rfl) (by kernel_rfl) (by kernel_rfl) (fun _ _ _ h => h) (Or.inl ⟨by rfl, ?_⟩) SC.out ?_
  rotate_left
  · (intro wG hSw; have q0 : wG.cell? ⟨g, 0, none⟩ = some (.slice A s.data.length c) := hSw.1; have q1 : wG.cell? ⟨g, 1, none⟩ = some (.int .i64 s.at_) := hSw.2; go_simp; try with_reducible rfl)
  try simp only [Act.put, List.getElem_toArray, List.getElem_cons_succ, List.getElem_cons_zero, List.setIfInBounds_toArray, List.set]
  refine wpAnyH_take (i := 10) (v := ?_) rfl (by kernel_rfl) (by kernel_rfl) (by kernel_rfl) (fun _ _ _ h => h) (Or.inl ⟨by rfl, ?_⟩) SC.out ?_
  rotate_left
  · (intro wG hSw; have q0 : wG.cell? ⟨g, 0, none⟩ = some (.slice A s.data.length c) := hSw.1; have q1 : wG.cell? ⟨g, 1, none⟩ = some (.int .i64 s.at_) := hSw.2; go_simp; try with_reducible rfl)
  try simp only [Act.put, List.getElem_toArray, List.getElem_cons_succ, List.getElem_cons_zero, List.setIfInBounds_toArray, List.set]
  refine wpAnyH_take (i := 11) (v := ?_) rfl (by kernel_rfl) (by kernel_rfl) (by kernel_rfl) (fun _ _ _ h => h) (Or.inl ⟨by rfl, ?_⟩) SC.out ?_
  rotate_left
  · (intro wG hSw; have q0 : wG.cell? ⟨g, 0, none⟩ = some (.slice A s.data.length c) := hSw.1; have q1 : wG.cell? ⟨g, 1, none⟩ = some (.int .i64 s.at_) := hSw.2; go_simp; try with_reducible rfl)
  try simp only [Act.put, List.getElem_toArray, List.getElem_cons_succ, List.getElem_cons_zero, List.setIfInBounds_toArray, List.set]
  refine heldOne (i := 12) (by kernel_rfl) rfl (by rfl) ?_
  refine R_copyW (enc := Value.int .u8) (h1 := fun _ => rfl) (0 : Int) (w0 := W) W.heap.size (.tmp 59) (.tmp 70) 47 47 5 rfl Tryz.underlying47 info5z (.slice A1 v k1) (List.replicate v 0) (s.rest.drop k) A' (s.data.length - (s.at_ + k)) (c - (s.at_ + k)) (fun _ => True) rfl rfl (Kd.R_below S1.out.1 (below_drew (Below.refl _ _))) (HCl.out _ (below_step S1.out.2 (below_drew (Below.refl _ _)))) (below_step S1.out.2 (below_drew (Below.refl _ _))) (below_step S1.out.2 (below_drew (Below.refl _ _))).size ?_
  intro w2 b1 b2 b3
  have hgl : g < W.heap.size := blk_lt HBK.out
  have hgn : some g ≠ (Value.slice A1 v k1).ownBlock := fun e => by have h1 := Kd.R_base S1.out.1 g e.symm; omega
  have hb2 : w2.heap[g]? = some (.cells #[.slice A s.data.length c, .int .i64 s.at_, .int .i64 s.code, .int .i64 s.place] 132 (0, 0)) := blk_grown (blk_below (blk_below HBK.out S1.out.2) (below_drew (Below.refl _ _))) b3 hgn
  have SD : Aside0 (w2.cell? ⟨g, 0, none⟩ = some (.slice A s.data.length c) ∧ w2.cell? ⟨g, 1, none⟩ = some (.int .i64 s.at_)) := ⟨(blk_cell hb2 _).trans rfl, (blk_cell hb2 _).trans rfl⟩
  have HB2 := Aside0.mk (And.intro hb2 (And.intro b1 b2))
  refine ⟨SD.out, ?_⟩
  try simp only [Act.put, List.getElem_toArray, List.getElem_cons_succ, List.getElem_cons_zero, List.setIfInBounds_toArray, List.set]
  refine wpAnyH_done (by kernel_rfl) ?_ _
  have c1' := SD.out.2
  have f1' : w2.frozen? ⟨g, 1, none⟩ = false := blk_frozen hb2 _
  clear b1 b2 b3 hb2 hgl hgn
  have hw8 := HW.out.2.1
  have hw7 := HW.out.2.2
  go_wp2
  go_ret
  clear hw7 hw8 hw9 hsub hsub2 HW
  have hn9 := HN.out
  rw [hn9.1]
  have hl : ((s.rest.drop k).take v).length = v := by rw [List.length_take]; omega
  have hR : Kd.R (Kd.int .u8) 5 w2 W.heap.size (fun _ => True) (.slice A1 v k1) ((s.rest.drop k).take v) := by
    have h1 := HB2.out.2.1
    rw [List.length_replicate, Nat.min_eq_right (by omega), List.drop_of_length_le (Nat.le_of_eq List.length_replicate), List.append_nil] at h1
    exact h1
  have hRr : Rr w0 w2 g s := ⟨⟨A, c, HB2.out.1, HX.out.2, HX.out.1⟩, H.out.bel.trans (HB2.out.2.2.mono H.out.bel.size), H.out.byt, H.out.len, H.out.at_⟩
  have hon := hRr.on hn9.2.1
  have ek : ((s.at_ : Int) + ((k + v : Nat) : Int)) = (s.at_ : Int) + (k : Int) + (v : Int) := by omega
  rw [ek] at hon
  refine ⟨A1, k1, by rw [hl]; rfl, ?_, hon, (KeepBut.of_below HB2.out.2.2 g none).set_ _ _⟩
  rw [hl]
  exact Kd.R_grown1 hR rfl (grown_set w2 ⟨g, 1, none⟩ _) (fun e => by have h1 := Kd.R_base S1.out.1 g e.symm; have h2 := blk_lt HBK.out; omega)
theorem tk_text (w0 W : World) (g : Nat) (s : RS) (h : Rr w0 W g s) (most : Nat) (hm : most ≤ 140737488351232) : Calls Tryz.prog 67 #[.pointer (some ⟨g, 0, none⟩), .int .i64 most] W (RetBytes w0 W g (s.text most).1 (s.text most).2) := by
  by_cases h0 : s.code = 0
  · obtain ⟨⟨v, k, er⟩, hr⟩ : ∃ p, numR s.rest 0 0 1 = p := ⟨_, rfl⟩
    by_cases he : er = 0
    · by_cases hv : most < v
      · exact tk_text_big w0 W g s h most hm h0 v k er hr he hv
      · by_cases hs : s.data.length - s.at_ - k < v
        · exact tk_text_short w0 W g s h most hm h0 v k er hr he hv hs
        · exact tk_text_ok w0 W g s h most hm h0 v k er hr he hv hs
    · exact tk_text_er w0 W g s h most hm h0 v k er hr he
  · exact tk_text_no w0 W g s h most h0
end Go.Proofs.YtdekmeanlcpenaaGreatDoor.Codec

namespace Go.Proofs.YtdekmeanlcpenaaGreatDoor.Codec
open Go.RowKit Go.Proofs.YtdekmeanlcpenaaGreatDoorW.PrintWords Go.Proofs.YtdekmeanlcpenaaGreatDoor.Mid Go.Proofs.YtdekmeanlcpenaaGreatDoor.Block
/-- The row of a table that lies at place i. -/
def rowAt (l : List Int) (i : Nat) : Res := ⟨(l.drop (1 + 65 * i)).take 32, (l.drop (33 + 65 * i)).take 32, rd l ((65 + 65 * i : Nat) : Int)⟩
def rowsTo (l : List Int) (i : Nat) : List Res := (List.range i).map (rowAt l)
theorem rowsTo_len (l : List Int) (i : Nat) : (rowsTo l i).length = i := by simp [rowsTo]
theorem rowsTo_succ (l : List Int) (i : Nat) : rowsTo l (i + 1) = rowsTo l i ++ [rowAt l i] := by simp [rowsTo, List.range_succ]
theorem rd_bnd {l : List Int} (h : Byt l) (i : Nat) : 0 ≤ rd l (i : Int) ∧ rd l (i : Int) ≤ 255 := rd_byte h i
theorem rowAt_ok {l : List Int} (h : Byt l) {i n : Nat} (hl : l.length = 1 + 65 * n) (hi : i < n) : ResOk (rowAt l i) := by
  have h1 := rd_bnd h (65 + 65 * i)
  refine ⟨⟨?_, byt_take (byt_drop h _) _⟩, ⟨?_, byt_take (byt_drop h _) _⟩, ?_⟩
  · rw [rowAt, List.length_take, List.length_drop]; omega
  · rw [rowAt, List.length_take, List.length_drop]; omega
  · rw [rowAt]; simp only; omega
theorem rowsTo_ok {l : List Int} (h : Byt l) {n : Nat} (hl : l.length = 1 + 65 * n) : ∀ i ≤ n, ∀ r ∈ rowsTo l i, ResOk r := by
  intro i hi r hr
  rw [rowsTo, List.mem_map] at hr
  obtain ⟨j, hj, rfl⟩ := hr
  exact rowAt_ok h hl (by have := List.mem_range.1 hj; omega)
theorem take_more (l : List Int) (a n m : Nat) : (l.drop a).take (n + m) = (l.drop a).take n ++ (l.drop (a + n)).take m := by
  rw [List.take_add, List.drop_drop]
theorem take_one {l : List Int} {a : Nat} (h : a < l.length) : (l.drop a).take 1 = [rd l (a : Int)] := by
  rw [List.drop_eq_getElem_cons h, rd_nat, List.getD_eq_getElem?_getD, List.getElem?_eq_getElem h]; rfl
theorem rowAt_resW {l : List Int} {i n : Nat} (hl : l.length = 1 + 65 * n) (hi : i < n) : resW (rowAt l i) = (l.drop (1 + 65 * i)).take 65 := by
  rw [resW, rowAt, show (65 : Nat) = 32 + (32 + 1) from rfl, take_more, take_more, show 1 + (32 + (32 + 1)) * i + 32 = 33 + 65 * i by omega, show 33 + 65 * i + 32 = 65 + 65 * i by omega, take_one (by omega)]
theorem rowsTo_flat {l : List Int} {n : Nat} (hl : l.length = 1 + 65 * n) : ∀ i ≤ n, (rowsTo l i).flatMap resW = (l.drop 1).take (65 * i)
  | 0, _ => rfl
  | i + 1, h => by
    rw [rowsTo_succ, List.flatMap_append, rowsTo_flat hl i (by omega), List.flatMap_cons, List.flatMap_nil, List.append_nil, rowAt_resW hl (by omega), show 65 * (i + 1) = 65 * i + 65 by omega, take_more, Nat.add_comm 1 (65 * i), Nat.add_comm (65 * i) 1]
theorem rowsTo_tab {l : List Int} {n : Nat} (hl : l.length = 1 + 65 * n) (hn : n ≤ 32) (h0 : rd l 0 = (n : Int)) : tabW (rowsTo l n) = l := by
  have h1 : l.drop 0 = rd l ((0 : Nat) : Int) :: l.drop 1 := by
    rw [List.drop_eq_getElem_cons (by omega), rd_nat, List.getD_eq_getElem?_getD, List.getElem?_eq_getElem (by omega)]; rfl
  have h2 : (l.drop 1).take (65 * n) = l.drop 1 := List.take_of_length_le (by rw [List.length_drop]; omega)
  rw [tabW, rowsTo_len, rowsTo_flat hl n (Nat.le_refl _), numW_small (by omega), h2, List.singleton_append, ← h0]
  exact h1.symm
theorem tab_shape {rs : List Res} {l : List Int} (T : Table rs) (ok : ∀ r ∈ rs, ResOk r) (h : tabW rs = l) : l.length = 1 + 65 * rs.length ∧ rd l 0 = (rs.length : Int) ∧ rs.length ≤ 32 ∧ rs = rowsTo l rs.length := by
  have hl : l.length = 1 + 65 * rs.length := by rw [← h]; exact tab_len T ok
  have hm := T.most
  have h0 : rd l 0 = (rs.length : Int) := by rw [← h, tabW, numW_small (by omega)]; rfl
  refine ⟨hl, h0, hm, ?_⟩
  have hb : Byt l := by rw [← h]; exact tab_byt T ok
  refine flatRes_inj (rowsTo_len l _).symm ok (rowsTo_ok hb hl _ (Nat.le_refl _)) ?_
  have h1 : tabW (rowsTo l rs.length) = tabW rs := (rowsTo_tab hl hm h0).trans h.symm
  rw [tabW, tabW, rowsTo_len] at h1
  exact (List.append_cancel_left h1).symm
/-- Cells of a row that is being filled. -/
def fillC (x y : List Int) (a b : Nat) : List Value := u8s (x.take a ++ List.replicate (32 - a) 0) ++ (u8s (y.take b ++ List.replicate (32 - b) 0) ++ [.int .i64 0])
theorem fill_set {x : List Int} {a : Nat} (hx : x.length = 32) (ha : a < 32) : (x.take a ++ List.replicate (32 - a) 0).set a (x.getD a 0) = x.take (a + 1) ++ List.replicate (32 - (a + 1)) 0 := by
  have hl : (x.take a).length = a := by rw [List.length_take]; omega
  rw [List.set_append_right _ _ (by omega), hl, Nat.sub_self, show 32 - a = (32 - (a + 1)) + 1 by omega, List.replicate_succ, List.set_cons_zero, List.take_add_one, List.getElem?_eq_getElem (by omega), List.getD_eq_getElem?_getD, List.getElem?_eq_getElem (by omega), List.append_assoc]
  rfl
theorem u8s_set (l : List Int) (i : Nat) (v : Int) : (u8s l).set i (.int .u8 v) = u8s (l.set i v) := by rw [u8s, u8s, List.map_set]
theorem fill_len (x : List Int) (a : Nat) (hx : x.length = 32) (ha : a ≤ 32) : (u8s (x.take a ++ List.replicate (32 - a) 0)).length = 32 := by
  rw [u8s_length, List.length_append, List.length_take, List.length_replicate]; omega
theorem fillC_len {x y : List Int} {a b : Nat} (hx : x.length = 32) (hy : y.length = 32) (ha : a ≤ 32) (hb : b ≤ 32) : (fillC x y a b).length = 65 := by
  rw [fillC, List.length_append, List.length_append, fill_len x a hx ha, fill_len y b hy hb]; rfl
theorem fillC_fst {x y : List Int} {a b : Nat} (hx : x.length = 32) (ha : a < 32) : (fillC x y a b).set a (.int .u8 (x.getD a 0)) = fillC x y (a + 1) b := by
  rw [fillC, List.set_append_left _ _ (by rw [fill_len x a hx (by omega)]; exact ha), u8s_set, fill_set hx ha, fillC]
theorem fillC_snd {x y : List Int} {a b : Nat} (hx : x.length = 32) (hy : y.length = 32) (ha : a ≤ 32) (hb : b < 32) : (fillC x y a b).set (32 + b) (.int .u8 (y.getD b 0)) = fillC x y a (b + 1) := by
  rw [fillC, List.set_append_right _ _ (by rw [fill_len x a hx ha]; omega), fill_len x a hx ha, Nat.add_sub_cancel_left, List.set_append_left _ _ (by rw [fill_len y b hy (by omega)]; exact hb), u8s_set, fill_set hy hb, fillC]
theorem fillC_zero (x y : List Int) : fillC x y 0 0 = resC ⟨zero32, zero32, 0⟩ := rfl
theorem fillC_full {x y : List Int} (hx : x.length = 32) (hy : y.length = 32) (v : Int) : (fillC x y 32 32).set 64 (.int .i64 v) = resC ⟨x, y, v⟩ := by
  rw [fillC, List.set_append_right _ _ (by rw [fill_len x 32 hx (Nat.le_refl _)]; omega), fill_len x 32 hx (Nat.le_refl _), List.set_append_right _ _ (by rw [fill_len y 32 hy (Nat.le_refl _)]; omega), fill_len y 32 hy (Nat.le_refl _), Nat.sub_self, List.replicate_zero, List.append_nil, List.append_nil, List.take_of_length_le (by omega), List.take_of_length_le (by omega)]
  rfl
theorem drop_getD {l : List Int} {a k : Nat} (hk : k < 32) : ((l.drop a).take 32).getD k 0 = rd l ((a + k : Nat) : Int) := by
  rw [rd_nat, List.getD_eq_getElem?_getD, List.getD_eq_getElem?_getD, List.getElem?_take, if_pos hk, List.getElem?_drop]
theorem fillC_cell {x y : List Int} {a b : Nat} (hx : x.length = 32) (hy : y.length = 32) (ha : a ≤ 32) (hb : b ≤ 32) {i : Nat} (hi : i < 65) : ∃ v, (fillC x y a b)[i]? = some v := ⟨_, List.getElem?_eq_getElem (by rw [fillC_len hx hy ha hb]; exact hi)⟩
theorem blk_at {w : World} {q i : Nat} {cs : List Value} {v : Value} {t : TypeId} (h : w.heap[q]? = some (.cells cs.toArray t (0, 0))) : (w.setCell ⟨q, i, none⟩ v).heap[q]? = some (.cells (cs.set i v).toArray t (0, 0)) := by
  rw [blk_set h i v, List.setIfInBounds_toArray]
theorem fill_last {x y : List Int} (hx : x.length = 32) (hy : y.length = 32) : (fillC x y 32 32).toArray[64]? = some (.int .i64 0) := by
  rw [List.getElem?_toArray, fillC, List.getElem?_append_right (by rw [fill_len x 32 hx (Nat.le_refl _)]; omega), fill_len x 32 hx (Nat.le_refl _), List.getElem?_append_right (by rw [fill_len y 32 hy (Nat.le_refl _)]; omega), fill_len y 32 hy (Nat.le_refl _)]
  rfl
/-- What the reference's parsing answers. -/
inductive RetP8 (W : World) (l : List Int) (e : Ending) (w' : World) : Prop
  | yes (rs : List Res) (A : Option Addr) (c : Nat) (T : Table rs) (ok : ∀ r ∈ rs, ResOk r) (ht : tabW rs = l) (he : e = .returned (.tuple #[.slice A rs.length c, .int .i64 0])) (hR : Kd.R resK 33 w' W.heap.size (fun _ => True) (.slice A rs.length c) rs) (hB : Below W.heap.size W w')
  | no (hn : ∀ rs, Table rs → (∀ r ∈ rs, ResOk r) → tabW rs ≠ l) (he : e = .returned (.tuple #[.slice none 0 0, .int .i64 80])) (hB : Below W.heap.size W w')
end Go.Proofs.YtdekmeanlcpenaaGreatDoor.Codec

namespace Go.Proofs.YtdekmeanlcpenaaGreatDoor.Codec
open Go.RowKit Go.Proofs.YtdekmeanlcpenaaGreatDoorW.PrintWords Go.Proofs.YtdekmeanlcpenaaGreatDoor.Mid
set_option maxHeartbeats 1000000
set_option maxRecDepth 100000
theorem i64_and127 (x : Int) (h0 : 0 ≤ x) (h1 : x ≤ 2147483647) : bits .and .i64 x 127 = x % 128 :=
  bits_mask .i64 32 (by decide) (fun n a b => IntWalk.i64_in n (by omega)) 7 (by decide) x h0 (by omega)
theorem i64_or128 (m : Nat) (h : m < 128) : bits .or .i64 (m : Int) 128 = ((128 + m : Nat) : Int) := by
  have : ∀ m : Fin 128, bits .or .i64 ((m.val : Nat) : Int) 128 = ((128 + m.val : Nat) : Int) := by decide +kernel
  exact this ⟨m, h⟩
theorem u8_M {w : World} {b : Nat} {ok : Nat → Prop} (x : Int) : (Kd.int .u8).M w b ok x [.int .u8 x] := rfl

theorem number_any (b0 g : Nat) (u : Value) (out : List Int) (v : Nat) (w : World) (hW : Wr b0 w g u out) (hv : v ≤ 2147483647) (hl : out.length ≤ 900000000) :
    Calls Tryz.prog 98 #[.pointer (some ⟨g, 0, none⟩), .int .i64 v] w fun e w' => e = .returned (.tuple #[]) ∧ NxE b0 w g u (out ++ numW v) w' := by
  have HW := Aside0.mk hW
  have hv1 : (v : Int) ≤ 2147483647 := by omega
  have HV := Aside0.mk (numW_max hv)
  clear hW
  go_enter Tryz.func98, Tryz.ntmps98
  go_wp2
  go_loopg [1, 5] 4 (fun k v1 v5 w' => ∃ (x : Nat) (done : List Int) (A : Option Addr) (c : Nat), v1 = .int .i64 x ∧ v5 = .slice A done.length c ∧ x ≤ 2147483647 ∧ Aside0 (x < 128 ^ (k + 1)) ∧ Aside0 (done ++ numW x = numW v) ∧ Aside0 (Kd.R (Kd.int .u8) 5 w' w.heap.size (fun _ => True) (.slice A done.length c) done ∧ Below w.heap.size w w'))
  case atStart => exact ⟨v, [], none, 0, rfl, rfl, hv, ⟨by show v < 128 ^ 5; omega⟩, ⟨rfl⟩, ⟨Kd.R_nil _ _ _ _ _, Below.refl _ _⟩⟩
  case round =>
    obtain ⟨x, done, A, c, rfl, rfl, hx, HF, HD, HR⟩ := hrel
    have hdl : done.length ≤ 5 := by have h1 := congrArg List.length HD.out; have h2 := HV.out; rw [List.length_append] at h1; omega
    have hx1 : (x : Int) ≤ 2147483647 := by omega
    by_cases hs : x < 128
    · have hs1 : ¬ (127 < (x : Int)) := by omega
      have hs2 : decide (127 < (x : Int)) = false := by simp; omega
      have HN : Aside0 (done ++ [(x : Int)] = numW v) := ⟨by rw [← numW_small hs]; exact HD.out⟩
      clear HF HD
      go_wp2_with (first
        | (at_builtin; refine Kd.R_append (Kd.int .u8) (w0 := w) w.heap.size rfl (.tmp 30) (.tmp 33) 47 5 (.int .u8 0) 1 rfl Tryz.underlying47 info5 rfl (by decide) (by omega) (.slice A done.length c) done (x : Int) [.int .u8 x] (fun _ => True) (fun _ => False) rfl rfl (u8_M _) (fun _ hk => hk.elim) (fun _ _ => trivial) HR.out.1 HR.out.2 HR.out.2.size (by omega) ?_
           intro v8 w8 ho8 hb8 hg8 hat8
           obtain ⟨A8, k8, e8⟩ := Kd.R_slice ho8
           rw [List.length_append, List.length_singleton] at e8
           subst e8
           have H8 : Aside0 (Kd.C (Kd.int .u8) w8 A8 (done.length + 1) (done ++ [(x : Int)]) ∧ Below w.heap.size w w8) := ⟨by have h := (Kd.R_reads' ho8).2.2; rw [List.length_append, List.length_singleton] at h; exact h, hb8⟩
           clear ho8 hb8 hg8 hat8)
        | (go_at_call 99; (with_reducible refine (put_any b0 g u out (done ++ [(x : Int)]) A8 (done.length + 1) k8 _ (HW.out.below H8.out.2) H8.out.1 (by omega)).mono ?_); rintro e w9 ⟨rfl, h1⟩; have H9 := Aside0.mk h1; clear h1))
      go_end0
      rw [← HN.out]
      obtain ⟨A9, k9, h9⟩ := H9.out
      exact ⟨rfl, A9, k9, Nx.from_below HW.out H8.out.2 h9⟩
    · obtain ⟨k, rfl⟩ : ∃ k, gk = k + 1 := by
        cases gk with
        | zero => have := HF.out; simp at this; omega
        | succ k => exact ⟨k, rfl⟩
      have hb1 : 127 < (x : Int) := by omega
      obtain ⟨m, hm⟩ : ∃ m, m = x % 128 := ⟨_, rfl⟩
      obtain ⟨q, hq⟩ : ∃ q, q = x / 128 := ⟨_, rfl⟩
      have hm1 : m < 128 := by omega
      have hand : bits .and .i64 (x : Int) 127 = (m : Int) := by rw [i64_and127 _ (by omega) (by omega), hm]; rfl
      have hor := i64_or128 m hm1
      obtain ⟨y, hy⟩ : ∃ y, y = 128 + m := ⟨_, rfl⟩
      rw [← hy] at hor
      have hy1 : (y : Int) ≤ 255 := by omega
      have hshr : (x : Int) / 128 = (q : Int) := by rw [hq]; rfl
      have hql : q ≤ 2147483647 := by omega
      have HQ : Aside0 (q < 128 ^ (k + 1)) := ⟨by have h1 := HF.out; rw [hq]; exact Nat.div_lt_of_lt_mul (by rw [Nat.pow_succ] at h1; omega)⟩
      have HN : Aside0 ((done ++ [(y : Int)]) ++ numW q = numW v) := ⟨by rw [← HD.out, numW_big (v := x) (by omega), hy, hm, hq, List.append_assoc]; rfl⟩
      clear hm hq hy HF HD hs
      go_wp2_with (first
        | (at_builtin; refine Kd.R_append (Kd.int .u8) (w0 := w) w.heap.size rfl (.tmp 21) (.tmp 26) 47 5 (.int .u8 0) 1 rfl Tryz.underlying47 info5 rfl (by decide) (by omega) (.slice A done.length c) done (y : Int) [.int .u8 y] (fun _ => True) (fun _ => False) rfl rfl (u8_M _) (fun _ hk => hk.elim) (fun _ _ => trivial) HR.out.1 HR.out.2 HR.out.2.size (by omega) ?_
           intro v8 w8 ho8 hb8 hg8 hat8
           obtain ⟨A8, k8, e8⟩ := Kd.R_slice ho8
           rw [List.length_append, List.length_singleton] at e8
           subst e8
           have H8 := Aside0.mk (⟨ho8, hb8⟩ : _ ∧ _)
           clear ho8 hb8 hg8 hat8))
      go_roundg k
      case measure => omega
      case rel => exact ⟨q, done ++ [(y : Int)], A8, k8, by first | rfl | rw [hshr], by rw [List.length_append, List.length_singleton], hql, HQ, HN, ⟨by rw [List.length_append, List.length_singleton]; have h := H8.out.1; exact h, H8.out.2⟩⟩
end Go.Proofs.YtdekmeanlcpenaaGreatDoor.Codec

namespace Go.Proofs.YtdekmeanlcpenaaGreatDoor.Codec
open Go.RowKit Go.Proofs.YtdekmeanlcpenaaGreatDoorW.PrintWords Go.Proofs.YtdekmeanlcpenaaGreatDoorW.PrintLast Go.Proofs.YtdekmeanlcpenaaGreatDoorW.PrintMore Go.Proofs.YtdekmeanlcpenaaGreatDoor.Mid Go.Proofs.YtdekmeanlcpenaaGreatDoor.Block
attribute [local go_sem ↓ high] load33_eq load29_eq
attribute [local simp] rowOf_drew rowOf_drewN
attribute [local go_sem high] load33_row load29_row rowOf_drew rowOf_drewN
set_option maxHeartbeats 4000000
set_option maxRecDepth 100000
set_option linter.unusedVariables false
theorem ret_true {n : Nat} {args : Array Value} {w : World} {p : Prop} (h : Calls Tryz.prog n args w fun e w' => RetB e p ∧ Below w.heap.size w w') (hp : p) : Calls Tryz.prog n args w fun e w' => e = .returned (.bool true) ∧ Below w.heap.size w w' := h.mono fun _ _ ⟨h1, h2⟩ => ⟨RetB.is_true h1 hp, h2⟩
theorem add_two (p : Addr) (n q : Nat) (hn : n ≠ 0) : (p.add n).add q = ⟨p.block, p.off + n + q, none⟩ := by
  unfold Addr.add
  rw [if_neg hn]
  by_cases h : q = 0
  · subst h; rfl
  · rw [if_neg h]
theorem add_one' (p : Addr) (n : Nat) (hn : n ≠ 0) : p.add n = ⟨p.block, p.off + n, none⟩ := by
  unfold Addr.add
  rw [if_neg hn]
theorem rtab_any (A : Option Addr) (c : Nat) (rs : List Res) (w : World) (hC : resK.C w A rs.length rs) (hc : rs.length ≤ c) (ok : ∀ r ∈ rs, ResOk r) (T : Table rs) :
    Calls Tryz.prog 55 #[.slice A rs.length c] w fun e w' => ∃ A' c', e = .returned (.tuple #[.slice A' (tabW rs).length c', .int .i64 0]) ∧ Kd.R (Kd.int .u8) 5 w' w.heap.size (fun _ => True) (.slice A' (tabW rs).length c') (tabW rs) ∧ Below w.heap.size w w' := by
  have hm := T.most
  have HC := Aside0.mk hC
  have HT := Aside0.mk T
  have HOK := Aside0.mk ok
  clear hC T ok
  go_enter Tryz.func55, Tryz.ntmps55
  go_upto_region 6 with (first
    | (go_at_call 28; refine (ret_true (ref_valid A c rs w HC.out hc (by omega)) HT.out).mono ?_; rintro e w1 ⟨rfl, hb⟩; have HB1 := Aside0.mk hb; clear hb)
    | (go_at_call 59; refine (rnu_any rs.length (by omega) w1).mono ?_; rintro e w2 ⟨A2, c2, rfl, r2, hb⟩
       have H2 : Aside0 (EI w w2 (.slice A2 (numW rs.length).length c2) (numW rs.length)) := ⟨⟨Kd.R_lower r2 HB1.out.size, below_step HB1.out hb⟩⟩
       clear r2 hb)
    | go_in)
  have hn := numW_max (v := rs.length) (by omega)
  go_loopg [5, 6] rs.length (fun k v5 v6 w' => ∃ i : Nat, v6 = .int .i64 i ∧ i + k = rs.length ∧ Aside0 (EI w w' v5 (numW rs.length ++ (rs.take i).flatMap resW)))
  case atStart => exact ⟨0, rfl, by omega, ⟨by rw [List.take_zero, List.flatMap_nil, List.append_nil]; exact H2.out⟩⟩
  case round =>
    obtain ⟨i, rfl, hik, HI⟩ := hrel
    cases gk with
    | zero =>
      have hd : decide (i < rs.length) = false := by simp; omega
      have hi : i = rs.length := by omega
      obtain ⟨A5, c5, e5⟩ := Kd.R_slice HI.out.r
      subst e5
      clear hik
      go_wp2
      go_ret2
      have e : numW rs.length ++ (rs.take i).flatMap resW = tabW rs := by rw [hi, List.take_length]; rfl
      have h := HI.out
      rw [e] at h ⊢
      exact ⟨A5, c5, rfl, h.r, h.bel⟩
    | succ k =>
      have hi : i < rs.length := by omega
      have hi1 : (i : Int) < (rs.length : Int) := by omega
      obtain ⟨out, hout⟩ : ∃ out, numW rs.length ++ (rs.take i).flatMap resW = out := ⟨_, rfl⟩
      rw [hout] at HI
      obtain ⟨ad, r, e0, hr, ho, hat⟩ := res_at HC.out i hi
      subst e0
      have HRO := Aside0.mk ho
      have HAT := Aside0.mk hat
      have HOUT := Aside0.mk hout
      have HR := Aside0.mk hr
      have hol : out.length ≤ 3000 := by
        rw [← hout, List.length_append, flatRes_length (fun s hs => HOK.out s (List.mem_of_mem_take hs)), List.length_take]
        omega
      clear ho hat hout hr
      go_upto_region 9 with (fail)

      go_loopg [5, 7] 32 (fun k5 v5 v7 w' => ∃ q : Nat, v7 = .int .i64 q ∧ q + k5 = 32 ∧ Aside0 (EI w w' v5 (out ++ r.act.take q)))
      case atStart => exact ⟨0, rfl, by omega, ⟨by rw [List.take_zero, List.append_nil]; exact HI.out⟩⟩
      case round =>
        obtain ⟨q, rfl, hqk, HQ⟩ := hrel
        cases gk with
        | zero =>
          have hqe : q = 32 := by omega
          obtain ⟨o3, ho3⟩ : ∃ o3, out ++ r.act = o3 := ⟨_, rfl⟩
          have HQ3 : Aside0 (EI w wr u5 o3) := ⟨by have h := HQ.out; rw [hqe, ← HRO.out.act.len, List.take_length, ho3] at h; exact h⟩
          have hol3 : o3.length ≤ 4000 := by rw [← ho3, List.length_append, HRO.out.act.len]; omega
          have HO3 := Aside0.mk ho3
          have hdq : decide (q < 32) = false := by simp; omega
          subst hqe
          clear HQ ho3
          go_upto_region 13 with (fail)
          go_loopg [5, 8] 32 (fun k5 v5 v8 w' => ∃ q : Nat, v8 = .int .i64 q ∧ q + k5 = 32 ∧ Aside0 (EI w w' v5 (o3 ++ r.root.take q)))
          case atStart => exact ⟨0, rfl, by omega, ⟨by rw [List.take_zero, List.append_nil]; exact HQ3.out⟩⟩
          case round =>
            obtain ⟨q, rfl, hqk, HQ⟩ := hrel
            cases gk with
            | zero =>
              have hqe : q = 32 := by omega
              obtain ⟨o4, ho4⟩ : ∃ o4, o3 ++ r.root = o4 := ⟨_, rfl⟩
              have HQ4 : Aside0 (EI w wr u5 o4) := ⟨by have h := HQ.out; rw [hqe, ← HRO.out.root.len, List.take_length, ho4] at h; exact h⟩
              have hol4 : o4.length ≤ 5000 := by rw [← ho4, List.length_append, HRO.out.root.len]; omega
              have HO4 := Aside0.mk ho4
              have hdq : decide (q < 32) = false := by simp; omega
              have hcc : wr.cell? ⟨(ad.add (i * 65)).block, (ad.add (i * 65)).off + 64, none⟩ = some (.int .i64 r.code) := by rw [← add_one' _ 64 (by decide)]; exact res_code HRO.out (HAT.out.below HQ.out.bel)
              have hcd := HT.out.code r (List.mem_of_getElem? HR.out)
              have hcm : r.code % 256 = r.code := by omega
              obtain ⟨x, hx⟩ : ∃ x, r.code = x := ⟨_, rfl⟩
              rw [hx] at hcc hcm hcd
              have HX := Aside0.mk hx
              have HCD := Aside0.mk hcd
              subst hqe
              clear HQ ho4 hx hcd
              go_wp2_with (first
                | ((with_reducible refine gate_builtin (b := .append) (xs := #[.tmp 50, .tmp 57]) rfl ?_); at_builtin; refine Kd.R_append (Kd.int .u8) (w0 := w) w.heap.size rfl (.tmp 50) (.tmp 57) 47 5 (.int .u8 0) 1 rfl Tryz.underlying47 info5 rfl (by decide) (by omega) u5 o4 x [.int .u8 x] (fun _ => True) (fun _ => False) rfl rfl (show (Kd.int .u8).M _ _ _ x [.int .u8 x] from rfl) (fun _ hk => hk.elim) (fun _ _ => trivial) HQ4.out.r HQ4.out.bel HQ4.out.bel.size (by omega) ?_
                   intro v1 w1' h1 h2 h3 h4
                   have H1' : Aside0 (EI w w1' v1 (o4 ++ [x])) := ⟨⟨h1, h2⟩⟩
                   clear h1 h2 h3 h4)
                | go_in)
              go_roundg k
              case measure => omega
              case rel =>
                refine ⟨i + 1, by go_num, by omega, ⟨?_⟩⟩
                have e : numW rs.length ++ (rs.take (i + 1)).flatMap resW = o4 ++ [x] := by
                  rw [List.take_add_one, HR.out, List.flatMap_append, ← List.append_assoc, HOUT.out, ← HO4.out, ← HO3.out, ← HX.out]
                  simp [resW]
                rw [e]
                exact H1'.out
            | succ k6 =>
              have hq : q < 32 := by omega
              have hq1 : (q : Int) < 32 := by omega
              obtain ⟨x, hx⟩ : ∃ x, r.root[q]? = some x := ⟨_, List.getElem?_eq_getElem (by rw [HRO.out.root.len]; exact hq)⟩
              have hcell : wr.cell? ⟨(ad.add (i * 65)).block, (ad.add (i * 65)).off + 32 + q, none⟩ = some (.int .u8 x) := by rw [← add_two _ 32 q (by decide)]; exact At.u8 (res_root HRO.out (HAT.out.below HQ.out.bel)) hx
              have HX := Aside0.mk hx
              have hol2 : (o3 ++ r.root.take q).length ≤ 5000 := by rw [List.length_append, List.length_take]; omega
              obtain ⟨o2, ho2⟩ : ∃ o2, o3 ++ r.root.take q = o2 := ⟨_, rfl⟩
              rw [ho2] at HQ hol2
              have HO2 := Aside0.mk ho2
              clear hx ho2
              go_wp2_with (first
                | ((with_reducible refine gate_builtin (b := .append) (xs := #[.tmp 40, .tmp 48]) rfl ?_); at_builtin; refine Kd.R_append (Kd.int .u8) (w0 := w) w.heap.size rfl (.tmp 40) (.tmp 48) 47 5 (.int .u8 0) 1 rfl Tryz.underlying47 info5 rfl (by decide) (by omega) u5 o2 x [.int .u8 x] (fun _ => True) (fun _ => False) rfl rfl (show (Kd.int .u8).M _ _ _ x [.int .u8 x] from rfl) (fun _ hk => hk.elim) (fun _ _ => trivial) HQ.out.r HQ.out.bel HQ.out.bel.size (by omega) ?_
                   intro v1 w1' h1 h2 h3 h4
                   have H1' : Aside0 (EI w w1' v1 (o2 ++ [x])) := ⟨⟨h1, h2⟩⟩
                   clear h1 h2 h3 h4)
                | go_in)
              go_roundg k6
              case measure => omega
              case rel => exact ⟨q + 1, by go_num, by omega, ⟨by rw [List.take_add_one, HX.out, ← List.append_assoc, HO2.out]; exact H1'.out⟩⟩
        | succ k6 =>
          have hq : q < 32 := by omega
          have hq1 : (q : Int) < 32 := by omega
          obtain ⟨x, hx⟩ : ∃ x, r.act[q]? = some x := ⟨_, List.getElem?_eq_getElem (by rw [HRO.out.act.len]; exact hq)⟩
          have hcell : wr.cell? ((ad.add (i * 65)).add q) = some (.int .u8 x) := At.u8 (res_act (HAT.out.below HQ.out.bel)) hx
          have HX := Aside0.mk hx
          have hol2 : (out ++ r.act.take q).length ≤ 4000 := by rw [List.length_append, List.length_take]; omega
          obtain ⟨o2, ho2⟩ : ∃ o2, out ++ r.act.take q = o2 := ⟨_, rfl⟩
          rw [ho2] at HQ hol2
          have HO2 := Aside0.mk ho2
          clear hx ho2
          go_wp2_with (first
            | ((with_reducible refine gate_builtin (b := .append) (xs := #[.tmp 26, .tmp 34]) rfl ?_); at_builtin; refine Kd.R_append (Kd.int .u8) (w0 := w) w.heap.size rfl (.tmp 26) (.tmp 34) 47 5 (.int .u8 0) 1 rfl Tryz.underlying47 info5 rfl (by decide) (by omega) u5 o2 x [.int .u8 x] (fun _ => True) (fun _ => False) rfl rfl (show (Kd.int .u8).M _ _ _ x [.int .u8 x] from rfl) (fun _ hk => hk.elim) (fun _ _ => trivial) HQ.out.r HQ.out.bel HQ.out.bel.size (by omega) ?_
               intro v1 w1' h1 h2 h3 h4
               have H1' : Aside0 (EI w w1' v1 (o2 ++ [x])) := ⟨⟨h1, h2⟩⟩
               clear h1 h2 h3 h4)
            | go_in)
          go_roundg k6
          case measure => omega
          case rel => exact ⟨q + 1, by go_num, by omega, ⟨by rw [List.take_add_one, HX.out, ← List.append_assoc, HO2.out]; exact H1'.out⟩⟩
end Go.Proofs.YtdekmeanlcpenaaGreatDoor.Codec
