import Derived.Test.YtdekmeanlcpenaaGreatDoorCg6
import Derived.Test.YtdekmeanlcpenaaGreatDoorCg4
import Derived.Laws.CopyOwn
import Derived.BigQuiet
set_option linter.unusedSimpArgs false
set_option linter.unusedVariables false
namespace Go.Proofs.YtdekmeanlcpenaaGreatDoor.Block
end Go.Proofs.YtdekmeanlcpenaaGreatDoor.Block
namespace Go.Proofs.YtdekmeanlcpenaaGreatDoor.Mid
end Go.Proofs.YtdekmeanlcpenaaGreatDoor.Mid
namespace Go.Proofs.YtdekmeanlcpenaaGreatDoor.PIntakeDecodes
end Go.Proofs.YtdekmeanlcpenaaGreatDoor.PIntakeDecodes
namespace Go.Proofs.YtdekmeanlcpenaaGreatDoor.Codec
open Go.RowKit Go.Proofs.YtdekmeanlcpenaaGreatDoorW.PrintWords Go.Proofs.YtdekmeanlcpenaaGreatDoor.Mid Go.Proofs.YtdekmeanlcpenaaGreatDoor.Block
set_option maxHeartbeats 4000000
set_option maxRecDepth 100000
theorem info5s : ∃ i, Tryz.prog.info? 5 = some i ∧ i.size = 1 := by
  obtain ⟨i0, hi, hzz⟩ := Option.map_eq_some_iff.1 info5
  simp only [Prod.mk.injEq] at hzz
  exact ⟨i0, hi, hzz.2.1⟩
/-- What take answers: bytes that lie in the reader's own row. -/
def RetTake (W : World) (g : Nat) (D : Option Addr) (k : Nat) (xs : List Int) (s1 : RS) (e : Ending) (w' : World) : Prop :=
  ∃ A c, e = .returned (.slice A xs.length c) ∧ xs.length ≤ c ∧ Kd.C (Kd.int .u8) w' A xs.length xs ∧ Rd w' g D k s1 ∧ W.grownBy w' (some g)
theorem take_short (W : World) (g k : Nat) (D : Option Addr) (s : RS) (n : Nat) (h : Rd W g D k s) (h0 : s.code = 0) (hn : s.data.length - s.at_ < n) :
    Calls Tryz.prog 149 #[.pointer (some ⟨g, 0, none⟩), .int .i64 n] W (RetTake W g D k [] (s.bad 10)) := by
  obtain ⟨dt, a, cd, pl⟩ := s
  simp only at h0 hn
  subst h0
  have hal := h.at_
  have hll := h.len
  simp only at hal hll
  have c1 : W.cell? ⟨g, 1, none⟩ = some (.int .i64 pl) := (blk_cell h.blk _).trans rfl
  have c2 : W.cell? ⟨g, 2, none⟩ = some (.slice D dt.length k) := (blk_cell h.blk _).trans rfl
  have c3 : W.cell? ⟨g, 3, none⟩ = some (.int .i64 a) := (blk_cell h.blk _).trans rfl
  have g2 : ∀ x : CW (Since W), x.w.cell? ⟨g, 2, none⟩ = some (.slice D dt.length k) := fun x => pw_cell_below x.h c2
  have g3 : ∀ x : CW (Since W), x.w.cell? ⟨g, 3, none⟩ = some (.int .i64 a) := fun x => pw_cell_below x.h c3
  have hsub : IntKind.i64.wrap ((dt.length : Int) - (a : Int)) = (dt.length : Int) - (a : Int) := IntWalk.i64_in _ (by omega)
  have hlt : (dt.length : Int) - (a : Int) < (n : Int) := by omega
  have H := Aside0.mk h
  clear h c1
  go_enter Tryz.func149, Tryz.ntmps149
  go_upto_region 1 with (fail)
  refine wp_region_S (Since W) (by kernel_rfl) (by kernel_rfl) (since_drew W) ?_
  repeat (go_big_quiet_step (fail))
  refine wpQuiet_nil ?_
  rintro w5 ⟨x5, e5⟩
  have hb5' : Below W.heap.size W w5 := e5 ▸ x5.h
  clear e5 x5
  have d3 : w5.cell? ⟨g, 3, none⟩ = some (.int .i64 a) := pw_cell_below hb5' c3
  have H5 := Aside0.mk (H.out.below hb5')
  have HB5 := Aside0.mk hb5'
  clear g2 g3 c2 c3 hb5' H
  have HS : Aside0 (w5.drew.cell? ⟨g, 3, none⟩ = some (.int .i64 a)) := ⟨d3⟩
  go_upto_region 2 with (fail)
  refine wp_region_held (S := fun u => u.cell? ⟨g, 3, none⟩ = some (.int .i64 a)) (by kernel_rfl) ?_
  change wpAnyH _ _ _ _ _ _ _ _ w5.drew
  refine wpAnyH_take (i := 0) (v := ?_) rfl (by kernel_rfl) (by kernel_rfl) (by kernel_rfl) (fun _ _ _ h => h) (Or.inl ⟨by rfl, ?_⟩) HS.out ?_
  rotate_left
  · (intro wG hSw; have q3 : wG.cell? ⟨g, 3, none⟩ = some (.int .i64 a) := hSw; go_simp; try with_reducible rfl)
  try simp only [Act.put, List.setIfInBounds_toArray, List.set]
  refine wpAnyH_take (i := 1) (v := ?_) rfl (by kernel_rfl) (by kernel_rfl) (by kernel_rfl) (fun _ _ _ h => h) (Or.inl ⟨by rfl, ?_⟩) HS.out ?_
  rotate_left
  · (intro wG hSw; have q3 : wG.cell? ⟨g, 3, none⟩ = some (.int .i64 a) := hSw; go_simp; try with_reducible rfl)
  try simp only [Act.put, List.setIfInBounds_toArray, List.set]
  refine wpAnyH_take (i := 2) (v := ?_) rfl (by kernel_rfl) (by kernel_rfl) (by kernel_rfl) (fun _ _ _ h => h) (Or.inl ⟨by rfl, ?_⟩) HS.out ?_
  rotate_left
  · (intro wG hSw; have q3 : wG.cell? ⟨g, 3, none⟩ = some (.int .i64 a) := hSw; go_simp; try with_reducible rfl)
  try simp only [Act.put, List.setIfInBounds_toArray, List.set]
  refine wpAnyH_take (i := 3) (v := ?_) rfl (by kernel_rfl) (by kernel_rfl) (by kernel_rfl) (fun _ _ _ h => h) (Or.inl ⟨by rfl, ?_⟩) HS.out ?_
  rotate_left
  · (intro wG hSw; have q3 : wG.cell? ⟨g, 3, none⟩ = some (.int .i64 a) := hSw; go_simp; try with_reducible rfl)
  try simp only [Act.put, List.setIfInBounds_toArray, List.set]
  refine wpAnyH_take (i := 4) (v := ?_) rfl (by kernel_rfl) (by kernel_rfl) (by kernel_rfl) (fun _ _ _ h => h) (Or.inl ⟨by rfl, ?_⟩) HS.out ?_
  rotate_left
  · (intro wG hSw; have q3 : wG.cell? ⟨g, 3, none⟩ = some (.int .i64 a) := hSw; go_simp; try with_reducible rfl)
  try simp only [Act.put, List.setIfInBounds_toArray, List.set]
  refine wpAnyH_take (i := 5) (v := ?_) rfl (by kernel_rfl) (by kernel_rfl) (by kernel_rfl) (fun _ _ _ h => h) (Or.inl ⟨by rfl, ?_⟩) HS.out ?_
  rotate_left
  · (intro wG hSw; have q3 : wG.cell? ⟨g, 3, none⟩ = some (.int .i64 a) := hSw; go_simp; try with_reducible rfl)
  try simp only [Act.put, List.setIfInBounds_toArray, List.set]
  refine wpAnyH_take (i := 6) (v := ?_) rfl (by kernel_rfl) (by kernel_rfl) (by kernel_rfl) (fun _ _ _ h => h) (Or.inl ⟨by rfl, ?_⟩) HS.out ?_
  rotate_left
  · (intro wG hSw; have q3 : wG.cell? ⟨g, 3, none⟩ = some (.int .i64 a) := hSw; go_simp; try with_reducible rfl)
  try simp only [Act.put, List.setIfInBounds_toArray, List.set]
  refine heldOne (i := 7) (by kernel_rfl) rfl (by rfl) ?_
  go_simp
  go_at_call 142
  refine (spoil_any g 10 a (.int .i64 pl) (.slice D dt.length k) (.int .i64 a) _ (blk_drew H5.out.blk)).mono ?_
  rintro e w6 ⟨rfl, hb6, hg6⟩
  refine ⟨(blk_cell hb6 _).trans rfl, ?_⟩
  have HG6 : Aside0 (W.grownBy w6 (some g)) := ⟨(Mid.grown_of_below (below_drew HB5.out)).trans hg6⟩
  have H6 : Aside0 (Rd w6 g D k (RS.bad ⟨dt, a, 0, pl⟩ 10)) := ⟨(H5.out.below (below_drew (Below.refl _ _))).put rfl H5.out.at_ hg6 hb6⟩
  clear hb6 hg6 d3
  try simp only [Act.put, List.setIfInBounds_toArray, List.set]
  refine wpAnyH_done (by kernel_rfl) ?_ _
  go_wp2
  go_ret
  exact ⟨none, 0, rfl, Nat.le_refl _, Kd.C_nil _ _, H6.out, HG6.out⟩
theorem take_ok (W : World) (g k : Nat) (D : Option Addr) (s : RS) (n : Nat) (h : Rd W g D k s) (h0 : s.code = 0) (hn : ¬ s.data.length - s.at_ < n) :
    Calls Tryz.prog 149 #[.pointer (some ⟨g, 0, none⟩), .int .i64 n] W (RetTake W g D k (s.rest.take n) (s.on n)) := by
  obtain ⟨dt, a, cd, pl⟩ := s
  simp only at h0 hn
  subst h0
  have hal := h.at_
  have hll := h.len
  have hcp := h.cap
  simp only at hal hll hcp
  have c1 : W.cell? ⟨g, 1, none⟩ = some (.int .i64 pl) := (blk_cell h.blk _).trans rfl
  have c2 : W.cell? ⟨g, 2, none⟩ = some (.slice D dt.length k) := (blk_cell h.blk _).trans rfl
  have c3 : W.cell? ⟨g, 3, none⟩ = some (.int .i64 a) := (blk_cell h.blk _).trans rfl
  have g2 : ∀ x : CW (Since W), x.w.cell? ⟨g, 2, none⟩ = some (.slice D dt.length k) := fun x => pw_cell_below x.h c2
  have g3 : ∀ x : CW (Since W), x.w.cell? ⟨g, 3, none⟩ = some (.int .i64 a) := fun x => pw_cell_below x.h c3
  have hsub : IntKind.i64.wrap ((dt.length : Int) - (a : Int)) = (dt.length : Int) - (a : Int) := IntWalk.i64_in _ (by omega)
  have hlt : ¬ (dt.length : Int) - (a : Int) < (n : Int) := by omega
  have hlt2 : (n : Int) ≤ (dt.length : Int) - (a : Int) := by omega
  have H := Aside0.mk h
  clear h c1
  go_enter Tryz.func149, Tryz.ntmps149
  go_upto_region 1 with (fail)
  refine wp_region_S (Since W) (by kernel_rfl) (by kernel_rfl) (since_drew W) ?_
  repeat (go_big_quiet_step (fail))
  refine wpQuiet_nil ?_
  rintro w5 ⟨x5, e5⟩
  have hb5' : Below W.heap.size W w5 := e5 ▸ x5.h
  clear e5 x5
  have d3 : w5.cell? ⟨g, 3, none⟩ = some (.int .i64 a) := pw_cell_below hb5' c3
  have H5 := Aside0.mk (H.out.below hb5')
  have f3 : w5.frozen? ⟨g, 3, none⟩ = false := blk_frozen H5.out.blk _
  have HB5 := Aside0.mk hb5'
  have hadd : (a : Int) + (n : Int) ≤ 140737488351232 := by omega
  clear g2 g3 c2 c3 hb5' H hsub
  go_upto_region 5 with (fail)
  have hb6 : (w5.setCell ⟨g, 3, none⟩ (.int .i64 ((a : Int) + (n : Int)))).heap[g]? = some (.cells #[.int .i64 ((0 : Nat) : Int), .int .i64 pl, .slice D dt.length k, .int .i64 ((a + n : Nat) : Int)] 265 (0, 0)) := blk_set H5.out.blk 3 _
  have HG6 : Aside0 (W.grownBy (w5.setCell ⟨g, 3, none⟩ (.int .i64 ((a : Int) + (n : Int)))) (some g)) := ⟨(Mid.grown_of_below HB5.out).trans (grown_set w5 ⟨g, 3, none⟩ _)⟩
  have H6 : Aside0 (Rd (w5.setCell ⟨g, 3, none⟩ (.int .i64 ((a : Int) + (n : Int)))) g D k (RS.on ⟨dt, a, 0, pl⟩ n)) := ⟨H5.out.put rfl (by show a + n ≤ dt.length; omega) (grown_set w5 ⟨g, 3, none⟩ _) hb6⟩
  generalize w5.setCell ⟨g, 3, none⟩ (.int .i64 ((a : Int) + (n : Int))) = w6 at HG6 H6 hb6 ⊢
  have e2 : w6.cell? ⟨g, 2, none⟩ = some (.slice D dt.length k) := (blk_cell hb6 _).trans rfl
  have e3 : w6.cell? ⟨g, 3, none⟩ = some (.int .i64 ((a : Int) + (n : Int))) := (blk_cell hb6 _).trans rfl
  have g2 : ∀ x : CW (Since w6), x.w.cell? ⟨g, 2, none⟩ = some (.slice D dt.length k) := fun x => pw_cell_below x.h e2
  have g3 : ∀ x : CW (Since w6), x.w.cell? ⟨g, 3, none⟩ = some (.int .i64 ((a : Int) + (n : Int))) := fun x => pw_cell_below x.h e3
  obtain ⟨i5, hi5, hs5⟩ := info5s
  have hcut := cut_mid (P := Tryz.prog) 47 5 .i64 .i64 Tryz.underlying47 hi5 1 hs5 D dt.length k (a : Int) ((a : Int) + (n : Int)) (by omega) (by omega) (by omega) hcp
  obtain ⟨A', hA'⟩ : ∃ A' : Option Addr, (if k = a then D else D.map (·.add (a * 1))) = A' := ⟨_, rfl⟩
  have hsb3 : ((a : Int) + (n : Int)).toNat - a = n := by omega
  simp only [Int.toNat_natCast] at hcut
  rw [hA', hsb3] at hcut
  have HA' := Aside0.mk hA'
  clear hA'
  have hsb : IntKind.i64.wrap ((a : Int) + (n : Int) - (n : Int)) = (a : Int) := by rw [show (a : Int) + (n : Int) - (n : Int) = (a : Int) by omega]; exact IntWalk.i64_in _ (by omega)
  have hsb2 : (a : Int) + (n : Int) - (n : Int) = (a : Int) := by omega
  clear hb6 e2 e3 d3 f3 hi5 hs5 hlt hlt2
  refine wp_region_S (Since w6) (by kernel_rfl) (by kernel_rfl) (since_drew w6) ?_
  repeat (go_big_quiet_step (fail))
  refine wpQuiet_nil ?_
  rintro w7 ⟨x7, e7⟩
  have hb7 : Below w6.heap.size w6 w7 := e7 ▸ x7.h
  clear e7 x7
  have H7 := Aside0.mk (⟨H6.out.below hb7, World.grownBy.trans HG6.out (Mid.grown_of_below hb7)⟩ : _ ∧ _)
  clear g2 g3 hb7 hcut hsb hsb2
  go_wp2
  go_ret
  have hrl : ((RS.rest ⟨dt, a, 0, pl⟩).take n).length = n := by rw [RS.rest, List.length_take, List.length_drop]; simp only; omega
  have hdl : (RS.rest ⟨dt, a, 0, pl⟩).take n = (dt.take (a + n)).drop a := by rw [RS.rest, List.drop_take]; congr 1; omega
  refine ⟨A', k - a, ?_, ?_, ?_, H7.out⟩
  · rw [hrl]; rfl
  · rw [hrl]; omega
  · rw [hdl, ← HA'.out]
    exact Kd.C_mid (k := Kd.int .u8) H7.out.1.dat (by omega) (by omega) hcp
end Go.Proofs.YtdekmeanlcpenaaGreatDoor.Codec

namespace Go.Proofs.YtdekmeanlcpenaaGreatDoor.Codec
open Go.RowKit Go.Proofs.YtdekmeanlcpenaaGreatDoorW.PrintWords Go.Proofs.YtdekmeanlcpenaaGreatDoor.Mid Go.Proofs.YtdekmeanlcpenaaGreatDoor.Block
set_option maxHeartbeats 4000000
set_option maxRecDepth 100000
theorem take_any (W : World) (g k : Nat) (D : Option Addr) (s : RS) (n : Nat) (h : Rd W g D k s) (h0 : s.code = 0) :
    Calls Tryz.prog 149 #[.pointer (some ⟨g, 0, none⟩), .int .i64 n] W (RetTake W g D k (s.raw n).1 (s.raw n).2) := by
  by_cases hn : s.data.length - s.at_ < n
  · have e : s.raw n = ([], s.bad 10) := by rw [RS.raw, if_neg (by simp [h0]), if_pos hn]
    rw [e]
    exact take_short W g k D s n h h0 hn
  · have e : s.raw n = (s.rest.take n, s.on n) := by rw [RS.raw, if_neg (by simp [h0]), if_neg hn]
    rw [e]
    exact take_ok W g k D s n h h0 hn
theorem raw_byt {s : RS} (h : Byt s.data) (n : Nat) : Byt (s.raw n).1 ∧ (s.raw n).1.length ≤ n := by
  rw [RS.raw]
  split
  · exact ⟨byt_nil, by simp⟩
  · split
    · exact ⟨byt_nil, by simp⟩
    · exact ⟨byt_take (byt_drop h _) _, by rw [List.length_take]; omega⟩
theorem raw_spoilt {s : RS} (h : s.code ≠ 0) (n : Nat) : s.raw n = ([], s) := by rw [RS.raw, if_pos h]
/-- Raw: the bytes, in new memory. -/
def RetRaw (W : World) (g : Nat) (D : Option Addr) (k : Nat) (xs : List Int) (s1 : RS) (e : Ending) (w' : World) : Prop :=
  ∃ A c, e = .returned (.slice A xs.length c) ∧ Kd.R (Kd.int .u8) 5 w' W.heap.size (fun _ => True) (.slice A xs.length c) xs ∧ Rd w' g D k s1 ∧ W.grownBy w' (some g)
theorem rraw_any (W : World) (g k : Nat) (D : Option Addr) (s : RS) (n : Nat) (h : Rd W g D k s) (hn : n ≤ 1000000000) :
    Calls Tryz.prog 113 #[.pointer (some ⟨g, 0, none⟩), .int .i64 n] W (RetRaw W g D k (s.raw n).1 (s.raw n).2) := by
  by_cases h0 : s.code = 0
  · obtain ⟨r, hr⟩ : ∃ r, s.raw n = r := ⟨_, rfl⟩
    have hrl := (raw_byt (s := s) h.byt n).2
    have hT := take_any W g k D s n h h0
    rw [hr] at hT hrl ⊢
    have HT := Aside0.mk hT
    have H := Aside0.mk h
    have H0 := Aside0.mk h0
    have hn0 : ¬ (n : Int) < 0 := by omega
    clear hT h hr h0
    go_enter Tryz.func113, Tryz.ntmps113
    go_wp2_with (first
      | (go_at_call 148; refine (goes_yes H.out H0.out).mono ?_; rintro e w1 ⟨rfl, rfl⟩)
      | (go_at_call 149; refine HT.out.mono ?_; rintro e w2 ⟨A, c, rfl, hc, hC, hR, hG⟩; have H2 := Aside0.mk (⟨hC, hR, hG⟩ : _ ∧ _ ∧ _); clear hC hR hG hc)
      | (at_builtin; refine Kd.R_append_rows (Kd.int .u8) (w0 := w2) w2.heap.size rfl (.const (.slice none 0 0)) (.tmp 20) 47 5 (.int .u8 0) 1 rfl Tryz.underlying47 info5 rfl (by decide) (by omega) (.slice none 0 0) [] r.1 A r.1.length c (fun _ => True) (fun _ => False) rfl rfl (Kd.R_nil _ _ _ _ _) H2.out.1 (fun _ _ h => h) (fun _ hk => hk.elim) (fun _ _ => trivial) (Below.refl _ _) (Nat.le_refl _) (by simp; omega) ?_
         intro v8 w8 ho8 hb8 hg8 hat8
         rw [List.nil_append] at ho8
         obtain ⟨A8, k8, e8⟩ := Kd.R_slice ho8
         subst e8
         have H8 := Aside0.mk (⟨ho8, hb8⟩ : _ ∧ _)
         clear ho8 hb8 hg8 hat8)
      | fail)
    go_ret
    exact ⟨A8, k8, rfl, Kd.R_lower H8.out.1 H2.out.2.2.size, H2.out.2.1.below H8.out.2, World.grownBy.trans H2.out.2.2 (Mid.grown_of_below H8.out.2)⟩
  · rw [raw_spoilt h0]
    have H := Aside0.mk h
    have H0 := Aside0.mk h0
    clear h h0
    go_enter Tryz.func113, Tryz.ntmps113
    go_wp2_with (first
      | (go_at_call 148; refine (goes_no H.out H0.out).mono ?_; rintro e w1 ⟨rfl, rfl⟩)
      | fail)
    go_ret
    exact ⟨none, 0, rfl, Kd.R_nil _ _ _ _ _, H.out, World.grownBy.refl W _⟩
theorem foldB_take (xs : List Int) (i : Nat) (h : i < xs.length) : foldB (xs.take (i + 1)) = 256 * foldB (xs.take i) + xs.getD i 0 := by
  rw [List.take_add_one, List.getElem?_eq_getElem h, Option.toList_some, foldB_snoc, List.getD_eq_getElem?_getD, List.getElem?_eq_getElem h]; rfl
theorem i64_or8 (v : Int) (b : Int) (h0 : 0 ≤ v) (h1 : v < 16777216) (h2 : 0 ≤ b) (h3 : b ≤ 255) : bits .or .i64 (v * 256) b = v * 256 + b :=
  bits_join .i64 32 (by decide) (fun n a b => IntWalk.i64_in n (by omega)) 8 (v * 256) b (by omega) (by omega) (by omega) (by omega) (by omega) (by omega)
/-- Fixed: a number, and the reader further on. -/
def RetNum (W : World) (g : Nat) (D : Option Addr) (k : Nat) (n : Int) (s1 : RS) (e : Ending) (w' : World) : Prop :=
  e = .returned (.int .i64 n) ∧ Rd w' g D k s1 ∧ W.grownBy w' (some g)
theorem rfixed_any (W : World) (g k : Nat) (D : Option Addr) (s : RS) (n : Nat) (h : Rd W g D k s) (hn1 : 1 ≤ n) (hn : n ≤ 4) :
    Calls Tryz.prog 109 #[.pointer (some ⟨g, 0, none⟩), .int .i64 n] W (RetNum W g D k (s.fixed n).1 (s.fixed n).2) := by
  rw [RS.fixed]
  by_cases h0 : s.code = 0
  · obtain ⟨r, hr⟩ : ∃ r, s.raw n = r := ⟨_, rfl⟩
    have hrl := (raw_byt (s := s) h.byt n).2
    have hrb := (raw_byt (s := s) h.byt n).1
    have hT := take_any W g k D s n h h0
    rw [hr] at hT hrl hrb ⊢
    have HT := Aside0.mk hT
    have H := Aside0.mk h
    have H0 := Aside0.mk h0
    have HB := Aside0.mk hrb
    have hna : ¬ (n : Int) < 1 := by omega
    have hnb : ¬ (4 : Int) < (n : Int) := by omega
    clear hT h hr h0 hrb
    go_enter Tryz.func109, Tryz.ntmps109
    go_wp2_with (first
      | (go_at_call 148; refine (goes_yes H.out H0.out).mono ?_; rintro e w1 ⟨rfl, rfl⟩)
      | (go_at_call 149; refine HT.out.mono ?_; rintro e w2 ⟨A, c, rfl, hc, hC, hR, hG⟩; have H2 := Aside0.mk (⟨hC, hR, hG⟩ : _ ∧ _ ∧ _); clear hC hR hG hc)
      | fail)
    go_loopg [5, 29] r.1.length (fun k v5 v29 w' => ∃ (i : Nat) (v : Nat), v29 = .int .i64 i ∧ v5 = .int .i64 v ∧ i + k = r.1.length ∧ Aside0 ((v : Int) = foldB (r.1.take i)) ∧ w2 = w')
    case atStart => exact ⟨0, 0, rfl, rfl, by omega, ⟨rfl⟩, rfl⟩
    case round =>
      obtain ⟨i, v, rfl, rfl, hik, HV, rfl⟩ := hrel
      cases gk with
      | zero =>
        have hd : decide (i < r.1.length) = false := by simp; omega
        have Hi : Aside0 (r.1.length ≤ i) := ⟨by omega⟩
        have hv := HV.out
        rw [List.take_of_length_le Hi.out] at hv
        have Hv := Aside0.mk hv
        clear hik hv
        go_wp2
        go_ret
        refine ⟨?_, H2.out.2⟩
        rw [← Hv.out]
        rfl
      | succ q =>
        have hi : i < r.1.length := by omega
        have hi1 : (i : Int) < (r.1.length : Int) := by omega
        obtain ⟨ad, e0, hx⟩ := Kd.at_int H2.out.1 (i : Int) (by omega) (by omega)
        subst e0
        have hxb := rd_byte HB.out (i : Int)
        obtain ⟨x, hxn⟩ : ∃ x : Nat, rd r.1 (i : Int) = (x : Int) := ⟨(rd r.1 (i : Int)).toNat, by omega⟩
        rw [hxn] at hx hxb
        simp only [Int.toNat_natCast] at hx
        have hvb := foldB_bound (byt_take HB.out i)
        have hvl : v < 16777216 := by
          have h1 := HV.out
          have h2 : (List.take i r.1).length ≤ 3 := by rw [List.length_take]; omega
          have h3 : (256 : Int) ^ (List.take i r.1).length ≤ 256 ^ 3 := by
            have : (256 : Nat) ^ (List.take i r.1).length ≤ 256 ^ 3 := Nat.pow_le_pow_right (by omega) h2
            exact_mod_cast this
          omega
        have hor := i64_or8 (v : Int) (x : Int) (by omega) (by omega) hxb.1 hxb.2
        obtain ⟨y, hy⟩ : ∃ y : Nat, v * 256 + x = y := ⟨_, rfl⟩
        have hor2 : bits .or .i64 ((v : Int) * 256) (x : Int) = (y : Int) := by rw [hor, ← hy]; omega
        have HY : Aside0 ((y : Int) = foldB (r.1.take (i + 1))) := ⟨by rw [foldB_take r.1 i hi, ← HV.out, ← rd_nat, hxn, ← hy]; omega⟩
        have hv0 : (v : Int) ≤ 16777215 := by omega
        clear hor hvb hvl hy hxn HV
        go_wp2
        go_roundg q
        case measure => omega
        case rel => exact ⟨i + 1, y, by go_num, rfl, by omega, HY, rfl⟩
  · rw [raw_spoilt h0]
    have H := Aside0.mk h
    have H0 := Aside0.mk h0
    clear h h0
    go_enter Tryz.func109, Tryz.ntmps109
    go_wp2_with (first
      | (go_at_call 148; refine (goes_no H.out H0.out).mono ?_; rintro e w1 ⟨rfl, rfl⟩)
      | fail)
    go_ret
    exact ⟨rfl, H.out, World.grownBy.refl W _⟩
end Go.Proofs.YtdekmeanlcpenaaGreatDoor.Codec

namespace Go.Proofs.YtdekmeanlcpenaaGreatDoor.Codec
open Go.RowKit Go.Proofs.YtdekmeanlcpenaaGreatDoorW.PrintWords Go.Proofs.YtdekmeanlcpenaaGreatDoor.Mid Go.Proofs.YtdekmeanlcpenaaGreatDoor.Block
set_option maxHeartbeats 4000000
set_option maxRecDepth 100000
theorem err_any (W : World) (g k : Nat) (D : Option Addr) (s : RS) (h : Rd W g D k s) :
    Calls Tryz.prog 114 #[.pointer (some ⟨g, 0, none⟩)] W fun e w' => e = .returned (.tuple #[.int .i64 s.code, .int .i64 s.place]) ∧ Below W.heap.size W w' := by
  have c0 : W.cell? ⟨g, 0, none⟩ = some (.int .i64 s.code) := (blk_cell h.blk _).trans rfl
  have c1 : W.cell? ⟨g, 1, none⟩ = some (.int .i64 s.place) := (blk_cell h.blk _).trans rfl
  have g0 : ∀ x : CW (Since W), x.w.cell? ⟨g, 0, none⟩ = some (.int .i64 s.code) := fun x => pw_cell_below x.h c0
  have g1 : ∀ x : CW (Since W), x.w.cell? ⟨g, 1, none⟩ = some (.int .i64 s.place) := fun x => pw_cell_below x.h c1
  clear h c0 c1
  go_enter Tryz.func114, Tryz.ntmps114
  go_upto_region 3 with (fail)
  refine wp_region_S (Since W) (by kernel_rfl) (by kernel_rfl) (since_drew W) ?_
  repeat (go_big_quiet_step (fail))
  refine wpQuiet_nil ?_
  rintro w5 ⟨x5, e5⟩
  have hb5' : Below W.heap.size W w5 := e5 ▸ x5.h
  clear e5 x5 g0 g1
  go_wp2
  go_ret2
  exact ⟨rfl, hb5'⟩
theorem left_any (W : World) (g k : Nat) (D : Option Addr) (s : RS) (h : Rd W g D k s) :
    Calls Tryz.prog 115 #[.pointer (some ⟨g, 0, none⟩)] W fun e w' => e = .returned (.int .i64 (s.left : Nat)) ∧ Below W.heap.size W w' := by
  by_cases h0 : s.code = 0
  · have hl : s.left = s.data.length - s.at_ := by rw [RS.left, if_neg (by simp [h0])]
    have hal := h.at_
    have hll := h.len
    obtain ⟨q, hq⟩ : ∃ q, s.data.length - s.at_ = q := ⟨_, rfl⟩
    have c2 : W.cell? ⟨g, 2, none⟩ = some (.slice D s.data.length k) := (blk_cell h.blk _).trans rfl
    have c3 : W.cell? ⟨g, 3, none⟩ = some (.int .i64 s.at_) := (blk_cell h.blk _).trans rfl
    have g2 : ∀ x : CW (Since W), x.w.cell? ⟨g, 2, none⟩ = some (.slice D s.data.length k) := fun x => pw_cell_below x.h c2
    have g3 : ∀ x : CW (Since W), x.w.cell? ⟨g, 3, none⟩ = some (.int .i64 s.at_) := fun x => pw_cell_below x.h c3
    have hal1 : (s.at_ : Int) ≤ (s.data.length : Int) := by omega
    have hll1 : (s.data.length : Int) ≤ 140737488351232 := by omega
    have HQ : Aside0 ((s.data.length : Int) - (s.at_ : Int) = (s.left : Nat)) := ⟨by rw [hl]; omega⟩
    have H := Aside0.mk h
    have H0 := Aside0.mk h0
    clear h h0 c2 c3 hl hq
    go_enter Tryz.func115, Tryz.ntmps115
    go_upto_region 3 with (go_at_call 148; refine (goes_yes H.out H0.out).mono ?_; rintro e w1 ⟨rfl, rfl⟩)
    refine wp_region_S (Since W) (by kernel_rfl) (by kernel_rfl) (since_drew W) ?_
    repeat (go_big_quiet_step (fail))
    refine wpQuiet_nil ?_
    rintro w5 ⟨x5, e5⟩
    have hb5' : Below W.heap.size W w5 := e5 ▸ x5.h
    clear e5 x5 g2 g3
    go_wp2
    go_ret
    rw [← HQ.out]
    exact ⟨rfl, hb5'⟩
  · rw [show s.left = 0 by rw [RS.left, if_pos h0]]
    have H := Aside0.mk h
    have H0 := Aside0.mk h0
    clear h h0
    go_enter Tryz.func115, Tryz.ntmps115
    go_wp2_with (first
      | (go_at_call 148; refine (goes_no H.out H0.out).mono ?_; rintro e w1 ⟨rfl, rfl⟩)
      | fail)
    go_ret
    exact ⟨rfl, Below.refl _ _⟩
/-- code.Read: a reader at the beginning of bytes, all its memory new. -/
theorem read_any (W : World) (A : Option Addr) (c : Nat) (l : List Int) (hC : Kd.C (Kd.int .u8) W A l.length l) (hb : Byt l) (hl : l.length ≤ 140737488351232) :
    Calls Tryz.prog 108 #[.slice A l.length c] W fun e w' => ∃ g D k, e = .returned (.pointer (some ⟨g, 0, none⟩)) ∧ W.heap.size ≤ g ∧ Rd w' g D k (RS.start l) ∧ Below W.heap.size W w' ∧ (∀ ad, D = some ad → W.heap.size ≤ ad.block) := by
  have HC := Aside0.mk hC
  have HB := Aside0.mk hb
  have hbld : ∀ (u : World) (A8 : Option Addr) (n k8 : Nat), (Instr.build 265 #[(1, .slice A8 n k8)]).run Tryz.prog u = .ok (.agg #[.int .i64 0, .int .i64 0, .slice A8 n k8, .int .i64 0]) u := fun u A8 n k8 => by kernel_rfl
  clear hC hb
  go_enter Tryz.func108, Tryz.ntmps108
  go_wp2_with (first
    | (at_builtin; refine Kd.R_append_rows (Kd.int .u8) (w0 := W) W.heap.size rfl (.const (.slice none 0 0)) (.tmp 3) 47 5 (.int .u8 0) 1 rfl Tryz.underlying47 info5 rfl (by decide) (by omega) (.slice none 0 0) [] l A l.length c (fun _ => True) (fun _ => False) rfl rfl (Kd.R_nil _ _ _ _ _) HC.out (fun _ _ h => h) (fun _ hk => hk.elim) (fun _ _ => trivial) (Below.refl _ _) (Nat.le_refl _) (by simp; omega) ?_
       intro v8 w8 ho8 hb8 hg8 hat8
       rw [List.nil_append] at ho8
       obtain ⟨A8, k8, e8⟩ := Kd.R_slice ho8
       subst e8
       have H8 := Aside0.mk (⟨ho8, hb8⟩ : _ ∧ _)
       clear ho8 hb8 hg8 hat8)
    | fail)
  go_ret
  refine ⟨w8.heap.size, A8, k8, rfl, H8.out.2.size, ⟨heap_alloc_new w8 _, (Kd.R_reads' (Kd.R_alloc H8.out.1 _)).2.2, (Kd.R_reads' H8.out.1).2.1, ?_, Nat.zero_le _, HB.out, hl⟩, below_alloc H8.out.2 _, fun ad he => Kd.R_base H8.out.1 ad.block (by rw [he]; rfl)⟩
  intro ad he
  have := Kd.R_lt H8.out.1 ad.block (by rw [he]; rfl)
  omega
end Go.Proofs.YtdekmeanlcpenaaGreatDoor.Codec

namespace Go.Proofs.YtdekmeanlcpenaaGreatDoor.Codec
open Go.RowKit Go.Proofs.YtdekmeanlcpenaaGreatDoorW.PrintWords Go.Proofs.YtdekmeanlcpenaaGreatDoor.Mid Go.Proofs.YtdekmeanlcpenaaGreatDoor.Block
set_option maxHeartbeats 4000000
set_option maxRecDepth 100000
theorem C_cells {w : World} {A : Option Addr} {xs : List Int} (h : Kd.C (Kd.int .u8) w A xs.length xs) (h0 : 0 < xs.length) : ∃ ad, A = some ad ∧ At w ad (u8s xs) := by
  obtain ⟨ad, e, -⟩ := Kd.at_int h (0 : Int) (by omega) (by omega)
  refine ⟨ad, e, fun j v hv => ?_⟩
  rw [u8s, List.getElem?_map] at hv
  obtain ⟨x, hx, rfl⟩ := Option.map_eq_some_iff.1 hv
  have hj : j < xs.length := (List.getElem?_eq_some_iff.1 hx).1
  obtain ⟨ad', e', hc⟩ := Kd.at_int h (j : Int) (by omega) (by omega)
  rw [e] at e'
  injection e' with e'
  subst e'
  rw [Int.toNat_natCast, rd_nat, List.getD_eq_getElem?_getD, hx] at hc
  exact hc
theorem info5z : (Tryz.prog.info? 5).map (·.size) = some 1 := by
  obtain ⟨i, hi, hs⟩ := info5s
  rw [hi, Option.map_some, hs]
/-- Bytes are copied into a row of 32. -/
theorem wp_copy32 {w : World} {o : Oper} {a : Act} {K : Act → World → Prop} {Q : Exit → Act → World → Prop} (d s : Operand) (ho : o.op = .call { callee := .builtin .copy, args := #[d, s], argTypes := #[47, 47] })
    (g off k c : Nat) (A : Option Addr) (xs : List Int) (hd : a.eval d = .slice (some ⟨g, off, none⟩) 32 k) (hs : a.eval s = .slice A xs.length c) (cur : List Value) (t : TypeId) (hg : w.heap[g]? = some (.cells cur.toArray t (0, 0)))
    (hC : Kd.C (Kd.int .u8) w A xs.length xs) (hl : xs.length ≤ 32) (hfit : off + 32 ≤ cur.length)
    (h : ∀ w', w'.heap[g]? = some (.cells (splice cur off (u8s xs)).toArray t (0, 0)) → w.grownBy w' (some g) → K (a.put o.dst (goInt xs.length)) w') : o.wp Tryz.prog a w K Q := by
  by_cases h0 : xs.length = 0
  · obtain rfl : xs = [] := List.eq_nil_of_length_eq_zero h0
    have hrun := run_copy_none (P := Tryz.prog) w 47 47 o.type 5 (some ⟨g, off, none⟩) A 32 k 0 c Tryz.underlying47 info5z rfl
    have hs' : a.eval s = .slice A 0 c := hs
    unfold Oper.wp
    simp [execOp, ho, resolve, invoke, builtin, hd, hs', hrun, Result.andThen]
    exact h w (by simpa [splice, u8s] using hg) (World.grownBy.refl w _)
  · obtain ⟨ad, rfl, hA⟩ := C_cells hC (by omega)
    have hrun := run_copy_row (P := Tryz.prog) w 47 47 o.type 5 g off 32 k ad xs.length c cur.toArray t (u8s xs) Tryz.underlying47 info5z hg (by rw [u8s_length]; exact (Nat.min_eq_left hl).symm) hA (by rw [u8s_length]; simp; omega) u8s_one
    unfold Oper.wp
    simp [execOp, ho, resolve, invoke, builtin, hd, hs, hrun, Result.andThen]
    rw [u8s_length]
    refine h _ ?_ ?_
    · simpa [splice, u8s_length] using setRow_heap w g cur.toArray (splice cur off (u8s xs)).toArray t (0, 0) hg
    · exact ⟨rfl, rfl, rfl, by simp [World.setRow], fun k _ hk => setRow_other w g k _ (fun e => hk (by rw [e]))⟩
def zero32 : List Int := List.replicate 32 0
theorem pad_splice {xs : List Int} : splice (u8s zero32) 0 (u8s xs) = u8s (pad32 xs) := by
  rw [splice, List.take_zero, List.nil_append, Nat.zero_add, u8s_length, pad32, u8s, u8s, u8s, List.map_append, ← List.map_drop]
  congr 2
  rw [zero32, List.drop_replicate]
theorem splice_act {xs y : List Int} {c : Int} (h : xs.length ≤ 32) : splice (resC ⟨zero32, y, c⟩) 0 (u8s xs) = resC ⟨pad32 xs, y, c⟩ := by
  have := pad_splice (xs := xs)
  rw [splice, List.take_zero, List.nil_append, Nat.zero_add] at this ⊢
  rw [resC, resC]
  simp only
  rw [← this, List.append_assoc, List.drop_append_of_le_length (by rw [u8s_length, u8s_length, zero32, List.length_replicate]; exact h)]
theorem splice_root {x ys : List Int} {c : Int} (hx : x.length = 32) (h : ys.length ≤ 32) : splice (resC ⟨x, zero32, c⟩) 32 (u8s ys) = resC ⟨x, pad32 ys, c⟩ := by
  have := pad_splice (xs := ys)
  rw [splice, List.take_zero, List.nil_append, Nat.zero_add] at this
  have e : (u8s x).length = 32 := by rw [u8s_length, hx]
  rw [splice, resC, resC]
  simp only
  rw [List.take_append_of_le_length (by omega), List.take_of_length_le (by omega), List.drop_append, List.drop_of_length_le (by omega), List.nil_append, e, ← this, List.append_assoc, List.drop_append_of_le_length (by rw [u8s_length, u8s_length, zero32, List.length_replicate]; omega)]
  congr 4
  omega
theorem zero33 : Tryz.zeroCells33 = (resC ⟨zero32, zero32, 0⟩).toArray := by kernel_rfl
/-! ### The results of a table -/
def resS : Nat → RS → List Res × RS
  | 0, s => ([], s)
  | k + 1, s => ((resS k s).1 ++ [⟨pad32 ((resS k s).2.raw 32).1, pad32 (((resS k s).2.raw 32).2.raw 32).1, ((((resS k s).2.raw 32).2.raw 32).2.fixed 1).1⟩], ((((resS k s).2.raw 32).2.raw 32).2.fixed 1).2)
theorem resS_len : ∀ (k : Nat) (s : RS), (resS k s).1.length = k
  | 0, _ => rfl
  | k + 1, s => by rw [resS, List.length_append, resS_len k s]; rfl
theorem raw_data (s : RS) (n : Nat) : (s.raw n).2.data = s.data := by rw [RS.raw]; split <;> (try split) <;> rfl
theorem fixed_data (s : RS) (n : Nat) : (s.fixed n).2.data = s.data := raw_data s n
theorem resS_data : ∀ (k : Nat) (s : RS), (resS k s).2.data = s.data
  | 0, _ => rfl
  | k + 1, s => by rw [resS]; simp only; rw [fixed_data, raw_data, raw_data, resS_data k s]
theorem fixed1_bounds {s : RS} (h : Byt s.data) : 0 ≤ (s.fixed 1).1 ∧ (s.fixed 1).1 ≤ 255 := by
  have h1 := raw_byt h 1
  have h2 := foldB_bound h1.1
  have h3 : (256 : Int) ^ (s.raw 1).1.length ≤ 256 ^ 1 := by
    have : (256 : Nat) ^ (s.raw 1).1.length ≤ 256 ^ 1 := Nat.pow_le_pow_right (by omega) h1.2
    exact_mod_cast this
  rw [RS.fixed]
  simp only
  omega
theorem resS_ok : ∀ (k : Nat) (s : RS), Byt s.data → ∀ r ∈ (resS k s).1, ResOk r
  | 0, _, _, r, hr => by cases hr
  | k + 1, s, h, r, hr => by
    rw [resS] at hr
    rcases List.mem_append.1 hr with hr | hr
    · exact resS_ok k s h r hr
    · rw [List.mem_singleton.1 hr]
      have d0 : Byt (resS k s).2.data := by rw [resS_data]; exact h
      have d1 : Byt ((resS k s).2.raw 32).2.data := by rw [raw_data]; exact d0
      have d2 : Byt (((resS k s).2.raw 32).2.raw 32).2.data := by rw [raw_data]; exact d1
      have h1 := raw_byt d0 32
      have h2 := raw_byt d1 32
      have h3 := fixed1_bounds d2
      exact ⟨pad32_ok h1.2 h1.1, pad32_ok h2.2 h2.1, by simp only; omega⟩
theorem resS_at : ∀ (k : Nat) {rs : List Res} {s : RS} {b : List Int}, (∀ r ∈ rs, ResOk r) → (∀ r ∈ rs, 0 ≤ r.code ∧ r.code ≤ 255) → s.At (rs.flatMap resW ++ b) → k ≤ rs.length → (resS k s).1 = rs.take k ∧ (resS k s).2.At ((rs.drop k).flatMap resW ++ b)
  | 0, rs, s, b, _, _, h, _ => ⟨rfl, h⟩
  | k + 1, rs, s, b, ok, hc, h, hk => by
    obtain ⟨e1, a1⟩ := resS_at k ok hc h (by omega)
    have hr := List.getElem_mem (l := rs) (n := k) (by omega)
    obtain ⟨r, hr'⟩ : ∃ r, rs[k]'(by omega) = r := ⟨_, rfl⟩
    rw [hr'] at hr
    have hd : rs.drop k = r :: rs.drop (k + 1) := by rw [List.drop_eq_getElem_cons (by omega), hr']
    rw [hd, List.flatMap_cons, resW, List.append_assoc, List.append_assoc, List.append_assoc] at a1
    have R := ok r hr
    have C := hc r hr
    have f1 := a1.raw
    rw [R.act.len] at f1
    have a2 := a1.on
    rw [R.act.len] at a2
    have f2 := a2.raw
    rw [R.root.len] at f2
    have a3 := a2.on
    rw [R.root.len] at a3
    have e : ([r.code] : List Int) = fixW r.code.toNat 1 := by simp [fixW]; omega
    rw [e] at a3
    have f3 := a3.fixed (by omega)
    have a4 := a3.on
    rw [fixW_length] at a4
    rw [resS, f1, f2, f3]
    refine ⟨?_, a4⟩
    simp only
    rw [e1, List.take_add_one, List.getElem?_eq_getElem (by omega), hr', pad32_id R.act.len, pad32_id R.root.len]
    congr 1
    obtain ⟨ra, rr, rc⟩ := r
    simp only at C ⊢
    rw [show ((rc.toNat : Nat) : Int) = rc by omega]
    rfl
/-- What parsing a table gives. -/
structure Parsed (d : List Int) (rs : List Res) : Prop where
  most : (RS.start d).num.1 ≤ 32
  is : rs = (resS (RS.start d).num.1 (RS.start d).num.2).1
  code : (resS (RS.start d).num.1 (RS.start d).num.2).2.code = 0
  left : (resS (RS.start d).num.1 (RS.start d).num.2).2.left = 0
  table : Table rs
theorem parsed_tab {rs : List Res} (ok : ∀ r ∈ rs, ResOk r) (T : Table rs) : Parsed (tabW rs) rs := by
  have hm := T.most
  have a0 := RS.at_start (tabW rs)
  have f := RS.At.num (s := RS.start (tabW rs)) (v := rs.length) (b := rs.flatMap resW) a0 (by omega)
  have a1 := RS.At.on (s := RS.start (tabW rs)) (a := numW rs.length) (b := rs.flatMap resW) a0
  rw [← List.append_nil (rs.flatMap resW)] at a1
  obtain ⟨e, a2⟩ := resS_at rs.length ok T.code a1 (Nat.le_refl _)
  rw [List.take_length] at e
  rw [List.drop_length] at a2
  refine ⟨by rw [f]; exact hm, ?_, ?_, ?_, T⟩
  · rw [f]; exact e.symm
  · rw [f]; exact a2.code
  · rw [f, RS.left, if_neg (by simp [a2.code])]
    have := congrArg List.length a2.rest
    rw [RS.rest, List.length_drop] at this
    simpa using this
theorem Parsed.one {d : List Int} {rs qs : List Res} (h : Parsed d rs) (h' : Parsed d qs) : rs = qs := h.is.trans h'.is.symm
end Go.Proofs.YtdekmeanlcpenaaGreatDoor.Codec

namespace Go.Proofs.YtdekmeanlcpenaaGreatDoor.Codec
open Go.RowKit Go.Proofs.YtdekmeanlcpenaaGreatDoorW.PrintWords Go.Proofs.YtdekmeanlcpenaaGreatDoorW.PrintLast Go.Proofs.YtdekmeanlcpenaaGreatDoorW.PrintMore Go.Proofs.YtdekmeanlcpenaaGreatDoor.Mid Go.Proofs.YtdekmeanlcpenaaGreatDoor.Block Go.Proofs.YtdekmeanlcpenaaGreatDoor.PIntakeDecodes
set_option maxHeartbeats 4000000
set_option maxRecDepth 100000
set_option linter.unusedVariables false
set_option linter.unusedSimpArgs false
/-- The reference's reader, at block g; its bytes lay there at w0. -/
structure Rr (w0 W : World) (g : Nat) (s : RS) : Prop where
  is : IsS132 w0 W g s.data s.at_ s.code s.place
  bel : Below w0.heap.size w0 W
  byt : Byt s.data
  len : s.data.length ≤ 140737488351232
  at_ : s.at_ ≤ s.data.length
theorem Rr.below {w0 W W1 : World} {g : Nat} {s : RS} (h : Rr w0 W g s) (hb : Below W.heap.size W W1) : Rr w0 W1 g s := ⟨h.is.below hb, below_step h.bel hb, h.byt, h.len, h.at_⟩
theorem raw_at {s : RS} (h : s.at_ ≤ s.data.length) (n : Nat) : (s.raw n).2.at_ ≤ (s.raw n).2.data.length := by
  rw [raw_data]
  rw [RS.raw]
  split
  · exact h
  · split
    · exact h
    · simp only [RS.on]; omega
theorem tk_fixed (w0 W : World) (g : Nat) (s : RS) (h : Rr w0 W g s) (w : Nat) (h1 : 1 ≤ w) (h4 : w ≤ 4) :
    Calls Tryz.prog 66 #[.pointer (some ⟨g, 0, none⟩), .int .i64 w] W fun e w' => e = .returned (.int .i64 (s.fixed w).1) ∧ Rr w0 w' g (s.fixed w).2 ∧ KeepBut W w' g none :=
  (freightref1_TakeFixed.calls 6 g s.data s.at_ s.code s.place w _ _ _ _ w0 W h.is h.bel (takeFixed_f s h.byt h.len h.at_ w h1 h4)).mono fun e w' ⟨a1, a2, a3, a4⟩ => by
    have hd : (s.fixed w).2.data = s.data := raw_data s w
    have ha := raw_at h.at_ w
    exact ⟨a1, ⟨by rw [hd]; exact a2, a3, by rw [hd]; exact h.byt, by rw [hd]; exact h.len, ha⟩, a4⟩
theorem spoil_to (w0 W : World) (g : Nat) (s : RS) (h : Rr w0 W g s) (n : Nat) : Calls Tryz.prog 117 #[.pointer (some ⟨g, 0, none⟩), .int .i64 n] W fun e w' => e = .returned (.tuple #[]) ∧ Rr w0 w' g (s.bad n) ∧ KeepBut W w' g none :=
  (freightref1_spoil.calls g s.data s.at_ s.code s.place n _ _ _ w0 W h.is h.bel rfl).mono fun e w' ⟨a1, a2, a3, a4⟩ => ⟨a1, ⟨a2, a3, h.byt, h.len, h.at_⟩, a4⟩
theorem numb_any (w0 W : World) (g : Nat) (s : RS) (h : Rr w0 W g s) (A : Option Addr) (c : Nat) (u : World) (hb : Below W.heap.size W u) (hC : Kd.C (Kd.int .u8) w0 A s.data.length s.data ∧ s.data.length ≤ c) :
    Calls Tryz.prog 118 #[.slice A s.data.length c, .int .i64 s.at_] u fun e w' => e = .returned (.tuple #[.int .i64 ((numR s.rest 0 0 1).1 : Int), .int .i64 ((numR s.rest 0 0 1).2.1 : Int), .int .i64 ((numR s.rest 0 0 1).2.2 : Int)]) ∧ Below u.heap.size u w' :=
  (freightref1_number.calls 6 A c s.data s.at_ _ _ _ u (Kd.C_below hC.1 (below_step h.bel hb)) hC.2 (numb_f s.data h.byt h.len s.at_ h.at_)).mono fun e w' ⟨a1, a2⟩ => ⟨a1, a2.below⟩
theorem numR_used : ∀ (l : List Int) (n v u : Nat), n ≤ 5 → (numR l n v u).2.1 ≤ 5 ∧ (numR l n v u).1 ≤ 2147483647 ∧ ((numR l n v u).2.2 = 0 → (numR l n v u).2.1 ≤ n + l.length) ∧ (numR l n v u).2.2 ≤ 11
  | [], n, v, u, hn => by
    rw [numR]
    split <;> simp
  | c :: t, n, v, u, hn => by
    rw [numR]
    split
    · simp
    · split
      · split
        · simp
        · rename_i h1 h2 h3
          simp only [List.length_cons]
          refine ⟨by omega, ?_, fun _ => by omega, by decide⟩
          by_cases h : v + c.toNat % 128 * u > 2147483647
          · exact absurd (Or.inl h) h3
          · omega
      · have ih := numR_used t (n + 1) (v + c.toNat % 128 * u) (u * 128) (by omega)
        exact ⟨ih.1, ih.2.1, fun h => by have := ih.2.2.1 h; simp only [List.length_cons]; omega, ih.2.2.2⟩
theorem Rr.on {w0 W : World} {g k : Nat} {s : RS} (h : Rr w0 W g s) (hk : s.at_ + k ≤ s.data.length) : Rr w0 (W.setCell ⟨g, 1, none⟩ (.int .i64 ((s.at_ : Int) + (k : Int)))) g (s.on k) :=
  ⟨h.is.set_1 _, h.bel.setCell (p := ⟨g, 1, none⟩) h.is.ge _, h.byt, h.len, hk⟩
theorem tk_num (w0 W : World) (g : Nat) (s : RS) (h : Rr w0 W g s) :
    Calls Tryz.prog 69 #[.pointer (some ⟨g, 0, none⟩)] W fun e w' => e = .returned (.int .i64 (s.num.1 : Int)) ∧ Rr w0 w' g s.num.2 ∧ KeepBut W w' g none := by
  obtain ⟨A, c, hblk, hge, hC⟩ := h.is
  have c2 : W.cell? ⟨g, 2, none⟩ = some (.int .i64 s.code) := (blk_cell hblk _).trans rfl
  have hu := numR_used s.rest 0 0 1 (by decide)
  have hrl : s.rest.length = s.data.length - s.at_ := by rw [RS.rest, List.length_drop]
  have hal := h.at_
  have hll := h.len
  have H := Aside0.mk h
  have HBK := Aside0.mk hblk
  have HC := Aside0.mk hC
  by_cases h0 : s.code = 0
  case neg =>
    have hne : ¬ (s.code : Int) = 0 := by omega
    have hn2 : ((s.code : Int) != 0) = true := by simp [bne_iff_ne]; omega
    have hn3 : ((s.code : Int) == 0) = false := by simp; omega
    have HN : Aside0 (s.num = (0, s)) := ⟨by rw [RS.num, if_pos h0]⟩
    clear h hblk hC hu hrl hal hll
    go_enter Tryz.func69, Tryz.ntmps69
    go_wp2
    go_ret
    rw [HN.out]
    exact ⟨rfl, H.out, KeepBut.refl _ _ _⟩
  case pos =>
    obtain ⟨⟨v, k, er⟩, hr⟩ : ∃ p, numR s.rest 0 0 1 = p := ⟨_, rfl⟩
    rw [hr] at hu
    simp only at hu
    have HR := Aside0.mk hr
    have HU := Aside0.mk hu
    have HRL := Aside0.mk hrl
    have H0 := Aside0.mk h0
    have hc0 : (s.code : Int) = 0 := by omega
    rw [hc0] at c2
    have g0 : ∀ x : CW (Since W), x.w.cell? ⟨g, 0, none⟩ = some (.slice A s.data.length c) := fun x => (blk_cell (blk_below HBK.out x.h) _).trans rfl
    have g1 : ∀ x : CW (Since W), x.w.cell? ⟨g, 1, none⟩ = some (.int .i64 s.at_) := fun x => (blk_cell (blk_below HBK.out x.h) _).trans rfl
    have hnum : ∀ u, Below W.heap.size W u → Calls Tryz.prog 118 #[.slice A s.data.length c, .int .i64 s.at_] u fun e w' => e = .returned (.tuple #[.int .i64 (v : Int), .int .i64 (k : Int), .int .i64 (er : Int)]) ∧ Below u.heap.size u w' := fun u hb => by
      have h9 := numb_any w0 W g s H.out A c u hb HC.out
      rw [HR.out] at h9
      exact h9
    have HNM := Aside0.mk hnum
    clear h hblk hC hu hrl hr h0 hnum hc0
    go_enter Tryz.func69, Tryz.ntmps69
    go_upto_region 3 with (fail)
    refine wp_region_S (Since W) (by kernel_rfl) (by kernel_rfl) (since_drew W) ?_
    repeat (go_big_quiet_step (first | (go_at_call 118; refine calls_since (HNM.out _ (CW.h _)))))
    refine wpQuiet_nil ?_
    rintro w5 ⟨x5, e5⟩
    have hb5 : Below W.heap.size W w5 := e5 ▸ x5.h
    clear e5 x5 g0 g1 c2
    have H5 := Aside0.mk (H.out.below hb5)
    have HB5 := Aside0.mk hb5
    have c1 : w5.cell? ⟨g, 1, none⟩ = some (.int .i64 s.at_) := (blk_cell (blk_below HBK.out hb5) _).trans rfl
    have f1 : w5.frozen? ⟨g, 1, none⟩ = false := blk_frozen (blk_below HBK.out hb5) _
    clear hb5
    by_cases he : er = 0
    case neg =>
      have he1 : ¬ (er : Int) = 0 := by omega
      have he2 : ((er : Int) != 0) = true := by simp [bne_iff_ne]; omega
      have he3 : ((er : Int) == 0) = false := by simp; omega
      have HE := Aside0.mk he
      clear he
      go_wp2_with (first
        | (go_at_call 117; refine (spoil_to w0 _ g s H5.out er).mono ?_; rintro e w6 ⟨rfl, h6, k6⟩; have H6 := Aside0.mk (And.intro h6 k6); clear h6 k6)
        | go_in)
      go_ret
      have hn : s.num = (0, s.bad er) := by rw [RS.num, if_neg (by simp [H0.out]), HR.out]; exact if_pos HE.out
      rw [hn]
      exact ⟨rfl, H6.out.1, (KeepBut.of_below HB5.out g none).trans H6.out.2 (Or.inl rfl)⟩
    case pos =>
      subst he
      have hka := HU.out.2.2.1 rfl
      have hrl := HRL.out
      have hs1 : s.at_ + k ≤ 9223372036854775807 := by omega
      have hw : wrap64 ((s.at_ : Int) + (k : Int)) = ((s.at_ + k : Nat) : Int) := w64add hs1
      have HKA : Aside0 (s.at_ + k ≤ s.data.length) := ⟨by omega⟩
      clear hka hrl hal hll
      go_wp2
      go_ret
      have hn : s.num = (v, s.on k) := by rw [RS.num, if_neg (by simp [H0.out]), HR.out]; exact if_neg (by simp)
      rw [hn]
      exact ⟨rfl, Rr.on H5.out HKA.out, (KeepBut.of_below HB5.out g none).set_ _ _⟩
end Go.Proofs.YtdekmeanlcpenaaGreatDoor.Codec

namespace Go.Proofs.YtdekmeanlcpenaaGreatDoor.Codec
open Go.RowKit Go.Proofs.YtdekmeanlcpenaaGreatDoorW.PrintWords Go.Proofs.YtdekmeanlcpenaaGreatDoor.Mid Go.Proofs.YtdekmeanlcpenaaGreatDoor.Block
set_option maxHeartbeats 4000000
set_option maxRecDepth 100000
section
variable {W w w1 : World} {g k b : Nat} {D : Option Addr} {s s1 : RS}
theorem Rd.dlt (h : Rd w g D k s) : 0 < s.data.length → ∀ ad, D = some ad → ad.block < w.heap.size := fun h0 ad he => by
  obtain ⟨ad', e, hat⟩ := C_cells h.dat h0
  rw [he] at e
  injection e with e
  subst e
  exact hat.lt (fun e => by have := congrArg List.length e; rw [u8s_length] at this; simp at this; rw [this] at h0; exact absurd h0 (by simp))
/-- A reader lies below, and what is above changes. -/
theorem Rd.low (h : Rd w g D k s) (hg : g < b) (hD : 0 < s.data.length → ∀ ad, D = some ad → ad.block < b) (hb : Below b w w1) : Rd w1 g D k s :=
  ⟨(hb.block g hg).trans h.blk, Kd.C_foot_neS (S := fun k => b ≤ k) (fun h => h) h.dat (fun ad he h0 hk => by have := hD (by omega) ad he; omega) w1 ⟨hb.size, fun i _ hn => hb.block i (by omega)⟩, h.cap, h.off, h.at_, h.byt, h.len⟩
/-- A reader and a block of another that is written. -/
theorem Rd.beside {q : Nat} (h : Rd w g D k s) (hg : g ≠ q) (hD : 0 < s.data.length → ∀ ad, D = some ad → ad.block ≠ q) (hG : w.grownBy w1 (some q)) : Rd w1 g D k s :=
  ⟨blk_grown h.blk hG (fun e => hg (by injection e)), Kd.C_foot_neS (S := fun k => k = q) (fun h => h) h.dat (fun ad he h0 hk => hD (by omega) ad he hk) w1 ⟨hG.size, fun i hi hn => hG.block i hi (fun e => hn (by injection e))⟩, h.cap, h.off, h.at_, h.byt, h.len⟩
end
/-- A reader, and a row of one's own that is made while it reads: W is the world at the beginning, b where the row's blocks begin. -/
structure PS {α : Type} (d : Kd α) (e : TypeId) (W : World) (b g k : Nat) (D : Option Addr) (w : World) (s : RS) (v : Value) (xs : List α) : Prop where
  rd : Rd w g D k s
  row : d.R e w b (fun _ => True) v xs
  bel : Below W.heap.size W w
  old : W.heap.size ≤ g
  lt : g < b
  dlt : 0 < s.data.length → ∀ ad, D = some ad → ad.block < b
  bsz : b ≤ w.heap.size
section
variable {α : Type} {d : Kd α} {e : TypeId} {W w w1 : World} {g k b : Nat} {D : Option Addr} {s s1 : RS} {v v1 : Value} {xs ys : List α}
theorem PS.start (h : Rd w g D k s) (hb : Below W.heap.size W w) (ho : W.heap.size ≤ g) : PS d e W w.heap.size g k D w s (.slice none 0 0) [] :=
  ⟨h, Kd.R_nil _ _ _ _ _, hb, ho, h.lt, h.dlt, Nat.le_refl _⟩
theorem PS.below (h : PS d e W b g k D w s v xs) (hb : Below w.heap.size w w1) : PS d e W b g k D w1 s v xs :=
  ⟨h.rd.below hb, Kd.R_below h.row hb, h.bel.trans (hb.mono h.bel.size), h.old, h.lt, h.dlt, Nat.le_trans h.bsz hb.size⟩
theorem PS.step (hE : d.E = []) (h : PS d e W b g k D w s v xs) (hr : Rd w1 g D k s1) (hd : s1.data = s.data) (hG : w.grownBy w1 (some g)) : PS d e W b g k D w1 s1 v xs :=
  ⟨hr, Kd.R_grown1 h.row hE hG (fun e => by have := Kd.R_base h.row g e.symm; have := h.lt; omega), h.bel.grown hG h.bel.size (fun k hk => by cases hk; exact h.old), h.old, h.lt, by rw [hd]; exact h.dlt, Nat.le_trans h.bsz hG.size⟩
theorem PS.beside {q : Nat} (hE : d.E = []) (h : PS d e W b g k D w s v xs) (hq : b ≤ q) (hn : some q ≠ v.ownBlock) (hG : w.grownBy w1 (some q)) : PS d e W b g k D w1 s v xs :=
  ⟨h.rd.beside (by have := h.lt; omega) (fun h0 ad he => by have := h.dlt h0 ad he; omega) hG, Kd.R_grown1 h.row hE hG hn, h.bel.grown hG h.bel.size (fun k hk => by cases hk; have := h.old; have := h.lt; omega), h.old, h.lt, h.dlt, Nat.le_trans h.bsz hG.size⟩
theorem PS.put (h : PS d e W b g k D w s v xs) (hr : d.R e w1 b (fun _ => True) v1 ys) (hb : Below b w w1) : PS d e W b g k D w1 s v1 ys :=
  ⟨h.rd.low h.lt h.dlt hb, hr, h.bel.trans (hb.mono (by have := h.old; have := h.lt; omega)), h.old, h.lt, h.dlt, Nat.le_trans h.bsz hb.size⟩
theorem PS.new (h : PS d e W b g k D w s v xs) : b ≤ w.heap.size ∧ some w.heap.size ≠ v.ownBlock := ⟨h.bsz, fun e => absurd (Kd.R_lt h.row _ e.symm) (Nat.lt_irrefl _)⟩
end
end Go.Proofs.YtdekmeanlcpenaaGreatDoor.Codec

namespace Go.Proofs.YtdekmeanlcpenaaGreatDoor.Codec
open Go.RowKit Go.Proofs.YtdekmeanlcpenaaGreatDoorW.PrintWords Go.Proofs.YtdekmeanlcpenaaGreatDoor.Mid Go.Proofs.YtdekmeanlcpenaaGreatDoor.Block
set_option maxHeartbeats 4000000
set_option maxRecDepth 100000
theorem codeNum_to (A : Option Addr) (c : Nat) (l : List Int) (x kk er : Nat) (w : World) (hC : Kd.C (Kd.int .u8) w A l.length l) (hb : Byt l) (hl : l.length ≤ 140737488351232) (hr : numR l 0 0 1 = (x, kk, er)) :
    Calls Tryz.prog 150 #[.slice A l.length c] w fun e w' => e = .returned (.tuple #[.int .i64 x, .int .i64 kk, .int .i64 er]) ∧ Below w.heap.size w w' :=
  (codeNum_any A c l w hC hb hl).mono fun e w' ⟨he, hw⟩ => ⟨by rw [he, hr], hw ▸ Below.refl _ _⟩
theorem rnum_yes (W : World) (g k : Nat) (D : Option Addr) (s : RS) (h : Rd W g D k s) (h0 : s.code = 0) :
    Calls Tryz.prog 112 #[.pointer (some ⟨g, 0, none⟩)] W (RetNum W g D k (s.num.1 : Nat) s.num.2) := by
  obtain ⟨dt, a, cd, pl⟩ := s
  simp only at h0
  subst h0
  have hal := h.at_
  have hll := h.len
  have hcp := h.cap
  simp only at hal hll hcp
  have c2 : W.cell? ⟨g, 2, none⟩ = some (.slice D dt.length k) := (blk_cell h.blk _).trans rfl
  have c3 : W.cell? ⟨g, 3, none⟩ = some (.int .i64 a) := (blk_cell h.blk _).trans rfl
  have g2 : ∀ x : CW (Since W), x.w.cell? ⟨g, 2, none⟩ = some (.slice D dt.length k) := fun x => pw_cell_below x.h c2
  have g3 : ∀ x : CW (Since W), x.w.cell? ⟨g, 3, none⟩ = some (.int .i64 a) := fun x => pw_cell_below x.h c3
  obtain ⟨i5, hi5, hs5⟩ := info5s
  obtain ⟨A', hcut, hA'⟩ := print_cut (P := Tryz.prog) 47 5 .i64 Tryz.underlying47 hi5 hs5 D dt.length k a hal
  obtain ⟨l, hl⟩ : ∃ l, dt.drop a = l := ⟨_, rfl⟩
  have hll2 : dt.length - a = l.length := by rw [← hl, List.length_drop]
  rw [hll2] at hcut
  have HCl : Aside0 (Kd.C (Kd.int .u8) W A' l.length l) := ⟨by
    have h1 := hA' W .u8 dt hcp (Kd.reads_of_C (enc := Value.int .u8) (d := (0 : Int)) (h1 := fun _ => rfl) h.dat)
    rw [hll2, hl] at h1
    exact Kd.C_of_reads (enc := Value.int .u8) (d := (0 : Int)) (h1 := fun _ => rfl) h1⟩
  have HBl : Aside0 (Byt l) := ⟨by rw [← hl]; exact byt_drop h.byt _⟩
  have hlen : l.length ≤ 140737488351232 := by omega
  obtain ⟨⟨x, kk, er⟩, hr⟩ : ∃ r, numR l 0 0 1 = r := ⟨_, rfl⟩
  have HR := Aside0.mk hr
  have hrest : RS.rest ⟨dt, a, 0, pl⟩ = l := hl
  have HT : Aside0 (RS.rest ⟨dt, a, 0, pl⟩ = l ∧ dt.length - a = l.length) := ⟨hrest, hll2⟩
  have H := Aside0.mk h
  clear h hA' hr hi5 hs5 hl hll2 hrest
  by_cases he : er = 0
  · subst he
    have hkl := numR_le l 0 0 1 x kk (by omega) HR.out
    have hk1 : (a : Int) + (kk : Int) ≤ 140737488351232 := by have := HT.out.2; omega
    have hka : a + kk ≤ dt.length := by have := HT.out.2; omega
    have hnum : RS.num ⟨dt, a, 0, pl⟩ = (x, RS.on ⟨dt, a, 0, pl⟩ kk) := by rw [RS.num, if_neg (by simp), HT.out.1, HR.out]; rfl
    rw [hnum]
    clear hnum
    go_enter Tryz.func112, Tryz.ntmps112
    go_upto_region 3 with (go_at_call 148; refine (goes_yes H.out rfl).mono ?_; rintro e w1 ⟨rfl, rfl⟩)
    refine wp_region_S (Since W) (by kernel_rfl) (by kernel_rfl) (since_drew W) ?_
    repeat (go_big_quiet_step (first | (go_at_call 150; refine calls_since (codeNum_to A' _ l _ _ _ _ (Kd.C_below HCl.out (CW.h _)) HBl.out hlen HR.out))))
    refine wpQuiet_nil ?_
    rintro w5 ⟨x5, e5⟩
    have hb5' : Below W.heap.size W w5 := e5 ▸ x5.h
    clear e5 x5 hcut
    have d3 : w5.cell? ⟨g, 3, none⟩ = some (.int .i64 a) := pw_cell_below hb5' c3
    have H5 := Aside0.mk (H.out.below hb5')
    have HB5 := Aside0.mk hb5'
    clear g2 g3 c2 c3 hb5' H
    have hka1 : (a : Int) ≤ (a : Int) + (kk : Int) := by omega
    have f3 : w5.frozen? ⟨g, 3, none⟩ = false := blk_frozen H5.out.blk _
    go_wp2
    go_ret
    have hb6 : (w5.setCell ⟨g, 3, none⟩ (.int .i64 ((a : Int) + (kk : Int)))).heap[g]? = some (.cells #[.int .i64 ((0 : Nat) : Int), .int .i64 pl, .slice D dt.length k, .int .i64 ((a + kk : Nat) : Int)] 265 (0, 0)) := blk_set H5.out.blk 3 _
    exact ⟨rfl, H5.out.put rfl hka (grown_set w5 ⟨g, 3, none⟩ _) hb6, (Mid.grown_of_below HB5.out).trans (grown_set w5 ⟨g, 3, none⟩ _)⟩
  · have hz := numR_zero l 0 0 1 x kk er HR.out he
    obtain ⟨rfl, rfl⟩ := hz
    have hne : ((er : Int) == 0) = false := by rw [beq_eq_false_iff_ne]; omega
    have hne2 : ((er : Int) != 0) = true := by rw [bne, hne]; rfl
    have hnum : RS.num ⟨dt, a, 0, pl⟩ = (0, RS.bad ⟨dt, a, 0, pl⟩ er) := by rw [RS.num, if_neg (by simp), HT.out.1, HR.out]; exact if_pos he
    rw [hnum]
    clear hnum he
    go_enter Tryz.func112, Tryz.ntmps112
    go_upto_region 3 with (go_at_call 148; refine (goes_yes H.out rfl).mono ?_; rintro e w1 ⟨rfl, rfl⟩)
    refine wp_region_S (Since W) (by kernel_rfl) (by kernel_rfl) (since_drew W) ?_
    repeat (go_big_quiet_step (first | (go_at_call 150; refine calls_since (codeNum_to A' _ l _ _ _ _ (Kd.C_below HCl.out (CW.h _)) HBl.out hlen HR.out))))
    refine wpQuiet_nil ?_
    rintro w5 ⟨x5, e5⟩
    have hb5' : Below W.heap.size W w5 := e5 ▸ x5.h
    clear e5 x5 hcut
    have d3 : w5.cell? ⟨g, 3, none⟩ = some (.int .i64 a) := pw_cell_below hb5' c3
    have H5 := Aside0.mk (H.out.below hb5')
    have HB5 := Aside0.mk hb5'
    clear g2 g3 c2 c3 hb5' H
    have HS : Aside0 (w5.drew.cell? ⟨g, 3, none⟩ = some (.int .i64 a)) := ⟨d3⟩
    go_upto_region 5 with (fail)
    refine wp_region_held (S := fun u => u.cell? ⟨g, 3, none⟩ = some (.int .i64 a)) (by kernel_rfl) ?_
    change wpAnyH _ _ _ _ _ _ _ _ w5.drew
    refine wpAnyH_take (i := 0) (v := ?_) rfl (by kernel_rfl) (by kernel_rfl) (by kernel_rfl) (fun _ _ _ h => h) (Or.inl ⟨by rfl, ?_⟩) HS.out ?_
    rotate_left
    · (intro wG hSw; have q3 : wG.cell? ⟨g, 3, none⟩ = some (.int .i64 a) := hSw; go_simp; try with_reducible rfl)
    try simp only [Act.put, List.setIfInBounds_toArray, List.set]
    refine wpAnyH_take (i := 1) (v := ?_) rfl (by kernel_rfl) (by kernel_rfl) (by kernel_rfl) (fun _ _ _ h => h) (Or.inl ⟨by rfl, ?_⟩) HS.out ?_
    rotate_left
    · (intro wG hSw; have q3 : wG.cell? ⟨g, 3, none⟩ = some (.int .i64 a) := hSw; go_simp; try with_reducible rfl)
    try simp only [Act.put, List.setIfInBounds_toArray, List.set]
    refine wpAnyH_take (i := 2) (v := ?_) rfl (by kernel_rfl) (by kernel_rfl) (by kernel_rfl) (fun _ _ _ h => h) (Or.inl ⟨by rfl, ?_⟩) HS.out ?_
    rotate_left
    · (intro wG hSw; have q3 : wG.cell? ⟨g, 3, none⟩ = some (.int .i64 a) := hSw; go_simp; try with_reducible rfl)
    try simp only [Act.put, List.setIfInBounds_toArray, List.set]
    refine wpAnyH_take (i := 3) (v := ?_) rfl (by kernel_rfl) (by kernel_rfl) (by kernel_rfl) (fun _ _ _ h => h) (Or.inl ⟨by rfl, ?_⟩) HS.out ?_
    rotate_left
    · (intro wG hSw; have q3 : wG.cell? ⟨g, 3, none⟩ = some (.int .i64 a) := hSw; go_simp; try with_reducible rfl)
    try simp only [Act.put, List.setIfInBounds_toArray, List.set]
    refine wpAnyH_take (i := 4) (v := ?_) rfl (by kernel_rfl) (by kernel_rfl) (by kernel_rfl) (fun _ _ _ h => h) (Or.inl ⟨by rfl, ?_⟩) HS.out ?_
    rotate_left
    · (intro wG hSw; have q3 : wG.cell? ⟨g, 3, none⟩ = some (.int .i64 a) := hSw; go_simp; try with_reducible rfl)
    try simp only [Act.put, List.setIfInBounds_toArray, List.set]
    refine wpAnyH_take (i := 5) (v := ?_) rfl (by kernel_rfl) (by kernel_rfl) (by kernel_rfl) (fun _ _ _ h => h) (Or.inl ⟨by rfl, ?_⟩) HS.out ?_
    rotate_left
    · (intro wG hSw; have q3 : wG.cell? ⟨g, 3, none⟩ = some (.int .i64 a) := hSw; go_simp; try with_reducible rfl)
    try simp only [Act.put, List.setIfInBounds_toArray, List.set]
    refine wpAnyH_take (i := 6) (v := ?_) rfl (by kernel_rfl) (by kernel_rfl) (by kernel_rfl) (fun _ _ _ h => h) (Or.inl ⟨by rfl, ?_⟩) HS.out ?_
    rotate_left
    · (intro wG hSw; have q3 : wG.cell? ⟨g, 3, none⟩ = some (.int .i64 a) := hSw; go_simp; try with_reducible rfl)
    try simp only [Act.put, List.setIfInBounds_toArray, List.set]
    refine wpAnyH_take (i := 7) (v := ?_) rfl (by kernel_rfl) (by kernel_rfl) (by kernel_rfl) (fun _ _ _ h => h) (Or.inl ⟨by rfl, ?_⟩) HS.out ?_
    rotate_left
    · (intro wG hSw; have q3 : wG.cell? ⟨g, 3, none⟩ = some (.int .i64 a) := hSw; go_simp; try with_reducible rfl)
    try simp only [Act.put, List.setIfInBounds_toArray, List.set]
    refine heldOne (i := 8) (by kernel_rfl) rfl (by rfl) ?_
    go_simp
    go_at_call 142
    refine (spoil_any g er a (.int .i64 pl) (.slice D dt.length k) (.int .i64 a) _ (blk_drew H5.out.blk)).mono ?_
    rintro e w6 ⟨rfl, hb6, hg6⟩
    refine ⟨(blk_cell hb6 _).trans rfl, ?_⟩
    have HG6 : Aside0 (W.grownBy w6 (some g)) := ⟨(Mid.grown_of_below (below_drew HB5.out)).trans hg6⟩
    have H6 : Aside0 (Rd w6 g D k (RS.bad ⟨dt, a, 0, pl⟩ er)) := ⟨(H5.out.below (below_drew (Below.refl _ _))).put rfl H5.out.at_ hg6 hb6⟩
    have e3 : w6.cell? ⟨g, 3, none⟩ = some (.int .i64 a) := (blk_cell hb6 _).trans rfl
    have f3 : w6.frozen? ⟨g, 3, none⟩ = false := blk_frozen hb6 _
    have HB6 := Aside0.mk hb6
    clear hb6 hg6 d3
    try simp only [Act.put, List.setIfInBounds_toArray, List.set]
    refine wpAnyH_done (by kernel_rfl) ?_ _
    go_wp2
    go_ret
    exact ⟨rfl, H6.out.put rfl H6.out.at_ (grown_set w6 ⟨g, 3, none⟩ _) (blk_set HB6.out 3 _), World.grownBy.trans HG6.out (grown_set w6 ⟨g, 3, none⟩ _)⟩
theorem rnum_any (W : World) (g k : Nat) (D : Option Addr) (s : RS) (h : Rd W g D k s) :
    Calls Tryz.prog 112 #[.pointer (some ⟨g, 0, none⟩)] W (RetNum W g D k (s.num.1 : Nat) s.num.2) := by
  by_cases h0 : s.code = 0
  · exact rnum_yes W g k D s h h0
  · rw [show s.num = (0, s) by rw [RS.num, if_pos h0]]
    have H := Aside0.mk h
    have H0 := Aside0.mk h0
    clear h h0
    go_enter Tryz.func112, Tryz.ntmps112
    go_wp2_with (first
      | (go_at_call 148; refine (goes_no H.out H0.out).mono ?_; rintro e w1 ⟨rfl, rfl⟩)
      | fail)
    go_ret
    exact ⟨rfl, H.out, World.grownBy.refl W _⟩
end Go.Proofs.YtdekmeanlcpenaaGreatDoor.Codec
