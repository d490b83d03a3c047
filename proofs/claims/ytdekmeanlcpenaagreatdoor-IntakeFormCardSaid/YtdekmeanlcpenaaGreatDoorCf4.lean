import Derived.Test.YtdekmeanlcpenaaGreatDoorCf3
import Derived.Test.YtdekmeanlcpenaaGreatDoorCf2
import Derived.Laws.CopyOwn
namespace Go.Proofs.YtdekmeanlcpenaaGreatDoor.Codec
open Go.RowKit Go.Proofs.YtdekmeanlcpenaaGreatDoorW.PrintWords Go.Proofs.YtdekmeanlcpenaaGreatDoor.Mid Go.Proofs.YtdekmeanlcpenaaGreatDoor.Block
set_option maxHeartbeats 4000000
set_option maxRecDepth 100000
theorem info5s : ∃ i, Tryz.prog.info? 5 = some i ∧ i.size = 1 := by
  obtain ⟨i0, hi, hzz⟩ := Option.map_eq_some_iff.1 info5
  simp only [Prod.mk.injEq] at hzz
  exact ⟨i0, hi, hzz.2.1⟩
/-- What take answers: bytes that lie in the reader's own row. -/
def RetTake (W : World) (g : Nat) (D : Option Addr) (k : Nat) (xs : List Int) (s1 : RS) (e : Ending) (w' : World) : Prop :=
  ∃ A c, e = .returned (.slice A xs.length c) ∧ xs.length ≤ c ∧ Kd.C (Kd.int .u8) w' A xs.length xs ∧ Rd w' g D k s1 ∧ W.grownBy w' (some g)
theorem take_short (W : World) (g k : Nat) (D : Option Addr) (s : RS) (n : Nat) (h : Rd W g D k s) (h0 : s.code = 0) (hn : s.data.length - s.at_ < n) :
    Calls Tryz.prog 149 #[.pointer (some ⟨g, 0, none⟩), .int .i64 n] W (RetTake W g D k [] (s.bad 10)) := by
  obtain ⟨dt, a, cd, pl⟩ := s
  simp only at h0 hn
  subst h0
  have hal := h.at_
  have hll := h.len
  simp only at hal hll
  have c1 : W.cell? ⟨g, 1, none⟩ = some (.int .i64 pl) := (blk_cell h.blk _).trans rfl
  have c2 : W.cell? ⟨g, 2, none⟩ = some (.slice D dt.length k) := (blk_cell h.blk _).trans rfl
  have c3 : W.cell? ⟨g, 3, none⟩ = some (.int .i64 a) := (blk_cell h.blk _).trans rfl
  have g2 : ∀ x : CW (Since W), x.w.cell? ⟨g, 2, none⟩ = some (.slice D dt.length k) := fun x => pw_cell_below x.h c2
  have g3 : ∀ x : CW (Since W), x.w.cell? ⟨g, 3, none⟩ = some (.int .i64 a) := fun x => pw_cell_below x.h c3
  have hsub : IntKind.i64.wrap ((dt.length : Int) - (a : Int)) = (dt.length : Int) - (a : Int) := IntWalk.i64_in _ (by omega)
  have hlt : (dt.length : Int) - (a : Int) < (n : Int) := by omega
  have H := Aside0.mk h
  clear h c1
  go_enter Tryz.func149, Tryz.ntmps149
  go_upto_region 1 with (fail)
  refine wp_region_S (Since W) (by kernel_rfl) (by kernel_rfl) (since_drew W) ?_
  repeat (go_big_quiet_step (fail))
  refine wpQuiet_nil ?_
  rintro w5 ⟨x5, e5⟩
  have hb5' : Below W.heap.size W w5 := e5 ▸ x5.h
  clear e5 x5
  have d3 : w5.cell? ⟨g, 3, none⟩ = some (.int .i64 a) := pw_cell_below hb5' c3
  have H5 := Aside0.mk (H.out.below hb5')
  have HB5 := Aside0.mk hb5'
  clear g2 g3 c2 c3 hb5' H
  have HS : Aside0 (w5.drew.cell? ⟨g, 3, none⟩ = some (.int .i64 a)) := ⟨d3⟩
  go_upto_region 2 with (fail)
  refine wp_region_held (S := fun u => u.cell? ⟨g, 3, none⟩ = some (.int .i64 a)) (by kernel_rfl) ?_
  change wpAnyH _ _ _ _ _ _ _ _ w5.drew
  refine wpAnyH_take (i := 0) (v := ?_) rfl (by kernel_rfl) (by kernel_rfl) (by kernel_rfl) (fun _ _ _ h => h) (Or.inl ⟨by rfl, ?_⟩) HS.out ?_
  rotate_left
  · (intro wG hSw; have q3 : wG.cell? ⟨g, 3, none⟩ = some (.int .i64 a) := hSw; go_simp; try with_reducible rfl)
  try simp only [Act.put, List.setIfInBounds_toArray, List.set]
  refine wpAnyH_take (i := 1) (v := ?_) rfl (by kernel_rfl) (by kernel_rfl) (by kernel_rfl) (fun _ _ _ h => h) (Or.inl ⟨by rfl, ?_⟩) HS.out ?_
  rotate_left
  · (intro wG hSw; have q3 : wG.cell? ⟨g, 3, none⟩ = some (.int .i64 a) := hSw; go_simp; try with_reducible rfl)
  try simp only [Act.put, List.setIfInBounds_toArray, List.set]
  refine wpAnyH_take (i := 2) (v := ?_) rfl (by kernel_rfl) (by kernel_rfl) (by kernel_rfl) (fun _ _ _ h => h) (Or.inl ⟨by rfl, ?_⟩) HS.out ?_
  rotate_left
  · (intro wG hSw; have q3 : wG.cell? ⟨g, 3, none⟩ = some (.int .i64 a) := hSw; go_simp; try with_reducible rfl)
  try simp only [Act.put, List.setIfInBounds_toArray, List.set]
  refine wpAnyH_take (i := 3) (v := ?_) rfl (by kernel_rfl) (by kernel_rfl) (by kernel_rfl) (fun _ _ _ h => h) (Or.inl ⟨by rfl, ?_⟩) HS.out ?_
  rotate_left
  · (intro wG hSw; have q3 : wG.cell? ⟨g, 3, none⟩ = some (.int .i64 a) := hSw; go_simp; try with_reducible rfl)
  try simp only [Act.put, List.setIfInBounds_toArray, List.set]
  refine wpAnyH_take (i := 4) (v := ?_) rfl (by kernel_rfl) (by kernel_rfl) (by kernel_rfl) (fun _ _ _ h => h) (Or.inl ⟨by rfl, ?_⟩) HS.out ?_
  rotate_left
  · (intro wG hSw; have q3 : wG.cell? ⟨g, 3, none⟩ = some (.int .i64 a) := hSw; go_simp; try with_reducible rfl)
  try simp only [Act.put, List.setIfInBounds_toArray, List.set]
  refine wpAnyH_take (i := 5) (v := ?_) rfl (by kernel_rfl) (by kernel_rfl) (by kernel_rfl) (fun _ _ _ h => h) (Or.inl ⟨by rfl, ?_⟩) HS.out ?_
  rotate_left
  · (intro wG hSw; have q3 : wG.cell? ⟨g, 3, none⟩ = some (.int .i64 a) := hSw; go_simp; try with_reducible rfl)
  try simp only [Act.put, List.setIfInBounds_toArray, List.set]
  refine wpAnyH_take (i := 6) (v := ?_) rfl (by kernel_rfl) (by kernel_rfl) (by kernel_rfl) (fun _ _ _ h => h) (Or.inl ⟨by rfl, ?_⟩) HS.out ?_
  rotate_left
  · (intro wG hSw; have q3 : wG.cell? ⟨g, 3, none⟩ = some (.int .i64 a) := hSw; go_simp; try with_reducible rfl)
  try simp only [Act.put, List.setIfInBounds_toArray, List.set]
  refine heldOne (i := 7) (by kernel_rfl) rfl (by rfl) ?_
  go_simp
  go_at_call 142
  refine (spoil_any g 10 a (.int .i64 pl) (.slice D dt.length k) (.int .i64 a) _ (blk_drew H5.out.blk)).mono ?_
  rintro e w6 ⟨rfl, hb6, hg6⟩
  refine ⟨(blk_cell hb6 _).trans rfl, ?_⟩
  have HG6 : Aside0 (W.grownBy w6 (some g)) := ⟨(Mid.grown_of_below (below_drew HB5.out)).trans hg6⟩
  have H6 : Aside0 (Rd w6 g D k (RS.bad ⟨dt, a, 0, pl⟩ 10)) := ⟨(H5.out.below (below_drew (Below.refl _ _))).put rfl H5.out.at_ hg6 hb6⟩
  clear hb6 hg6 d3
  try simp only [Act.put, List.setIfInBounds_toArray, List.set]
  refine wpAnyH_done (by kernel_rfl) ?_ _
  go_wp2
  go_ret
  exact ⟨none, 0, rfl, Nat.le_refl _, Kd.C_nil _ _, H6.out, HG6.out⟩
theorem take_ok (W : World) (g k : Nat) (D : Option Addr) (s : RS) (n : Nat) (h : Rd W g D k s) (h0 : s.code = 0) (hn : ¬ s.data.length - s.at_ < n) :
    Calls Tryz.prog 149 #[.pointer (some ⟨g, 0, none⟩), .int .i64 n] W (RetTake W g D k (s.rest.take n) (s.on n)) := by
  obtain ⟨dt, a, cd, pl⟩ := s
  simp only at h0 hn
  subst h0
  have hal := h.at_
  have hll := h.len
  have hcp := h.cap
  simp only at hal hll hcp
  have c1 : W.cell? ⟨g, 1, none⟩ = some (.int .i64 pl) := (blk_cell h.blk _).trans rfl
  have c2 : W.cell? ⟨g, 2, none⟩ = some (.slice D dt.length k) := (blk_cell h.blk _).trans rfl
  have c3 : W.cell? ⟨g, 3, none⟩ = some (.int .i64 a) := (blk_cell h.blk _).trans rfl
  have g2 : ∀ x : CW (Since W), x.w.cell? ⟨g, 2, none⟩ = some (.slice D dt.length k) := fun x => pw_cell_below x.h c2
  have g3 : ∀ x : CW (Since W), x.w.cell? ⟨g, 3, none⟩ = some (.int .i64 a) := fun x => pw_cell_below x.h c3
  have hsub : IntKind.i64.wrap ((dt.length : Int) - (a : Int)) = (dt.length : Int) - (a : Int) := IntWalk.i64_in _ (by omega)
  have hlt : ¬ (dt.length : Int) - (a : Int) < (n : Int) := by omega
  have hlt2 : (n : Int) ≤ (dt.length : Int) - (a : Int) := by omega
  have H := Aside0.mk h
  clear h c1
  go_enter Tryz.func149, Tryz.ntmps149
  go_upto_region 1 with (fail)
  refine wp_region_S (Since W) (by kernel_rfl) (by kernel_rfl) (since_drew W) ?_
  repeat (go_big_quiet_step (fail))
  refine wpQuiet_nil ?_
  rintro w5 ⟨x5, e5⟩
  have hb5' : Below W.heap.size W w5 := e5 ▸ x5.h
  clear e5 x5
  have d3 : w5.cell? ⟨g, 3, none⟩ = some (.int .i64 a) := pw_cell_below hb5' c3
  have H5 := Aside0.mk (H.out.below hb5')
  have f3 : w5.frozen? ⟨g, 3, none⟩ = false := blk_frozen H5.out.blk _
  have HB5 := Aside0.mk hb5'
  have hadd : (a : Int) + (n : Int) ≤ 1000000000000 := by omega
  clear g2 g3 c2 c3 hb5' H hsub
  go_upto_region 5 with (fail)
  have hb6 : (w5.setCell ⟨g, 3, none⟩ (.int .i64 ((a : Int) + (n : Int)))).heap[g]? = some (.cells #[.int .i64 ((0 : Nat) : Int), .int .i64 pl, .slice D dt.length k, .int .i64 ((a + n : Nat) : Int)] 265 (0, 0)) := blk_set H5.out.blk 3 _
  have HG6 : Aside0 (W.grownBy (w5.setCell ⟨g, 3, none⟩ (.int .i64 ((a : Int) + (n : Int)))) (some g)) := ⟨(Mid.grown_of_below HB5.out).trans (grown_set w5 ⟨g, 3, none⟩ _)⟩
  have H6 : Aside0 (Rd (w5.setCell ⟨g, 3, none⟩ (.int .i64 ((a : Int) + (n : Int)))) g D k (RS.on ⟨dt, a, 0, pl⟩ n)) := ⟨H5.out.put rfl (by show a + n ≤ dt.length; omega) (grown_set w5 ⟨g, 3, none⟩ _) hb6⟩
  generalize w5.setCell ⟨g, 3, none⟩ (.int .i64 ((a : Int) + (n : Int))) = w6 at HG6 H6 hb6 ⊢
  have e2 : w6.cell? ⟨g, 2, none⟩ = some (.slice D dt.length k) := (blk_cell hb6 _).trans rfl
  have e3 : w6.cell? ⟨g, 3, none⟩ = some (.int .i64 ((a : Int) + (n : Int))) := (blk_cell hb6 _).trans rfl
  have g2 : ∀ x : CW (Since w6), x.w.cell? ⟨g, 2, none⟩ = some (.slice D dt.length k) := fun x => pw_cell_below x.h e2
  have g3 : ∀ x : CW (Since w6), x.w.cell? ⟨g, 3, none⟩ = some (.int .i64 ((a : Int) + (n : Int))) := fun x => pw_cell_below x.h e3
  obtain ⟨i5, hi5, hs5⟩ := info5s
  have hcut := cut_mid (P := Tryz.prog) 47 5 .i64 .i64 Tryz.underlying47 hi5 1 hs5 D dt.length k (a : Int) ((a : Int) + (n : Int)) (by omega) (by omega) (by omega) hcp
  obtain ⟨A', hA'⟩ : ∃ A' : Option Addr, (if k = a then D else D.map (·.add (a * 1))) = A' := ⟨_, rfl⟩
  have hsb3 : ((a : Int) + (n : Int)).toNat - a = n := by omega
  simp only [Int.toNat_natCast] at hcut
  rw [hA', hsb3] at hcut
  have HA' := Aside0.mk hA'
  clear hA'
  have hsb : IntKind.i64.wrap ((a : Int) + (n : Int) - (n : Int)) = (a : Int) := by rw [show (a : Int) + (n : Int) - (n : Int) = (a : Int) by omega]; exact IntWalk.i64_in _ (by omega)
  have hsb2 : (a : Int) + (n : Int) - (n : Int) = (a : Int) := by omega
  clear hb6 e2 e3 d3 f3 hi5 hs5 hlt hlt2
  refine wp_region_S (Since w6) (by kernel_rfl) (by kernel_rfl) (since_drew w6) ?_
  repeat (go_big_quiet_step (fail))
  refine wpQuiet_nil ?_
  rintro w7 ⟨x7, e7⟩
  have hb7 : Below w6.heap.size w6 w7 := e7 ▸ x7.h
  clear e7 x7
  have H7 := Aside0.mk (⟨H6.out.below hb7, World.grownBy.trans HG6.out (Mid.grown_of_below hb7)⟩ : _ ∧ _)
  clear g2 g3 hb7 hcut hsb hsb2
  go_wp2
  go_ret
  have hrl : ((RS.rest ⟨dt, a, 0, pl⟩).take n).length = n := by rw [RS.rest, List.length_take, List.length_drop]; simp only; omega
  have hdl : (RS.rest ⟨dt, a, 0, pl⟩).take n = (dt.take (a + n)).drop a := by rw [RS.rest, List.drop_take]; congr 1; omega
  refine ⟨A', k - a, ?_, ?_, ?_, H7.out⟩
  · rw [hrl]; rfl
  · rw [hrl]; omega
  · rw [hdl, ← HA'.out]
    exact Kd.C_mid (k := Kd.int .u8) H7.out.1.dat (by omega) (by omega) hcp
end Go.Proofs.YtdekmeanlcpenaaGreatDoor.Codec

namespace Go.Proofs.YtdekmeanlcpenaaGreatDoor.Codec
open Go.RowKit Go.Proofs.YtdekmeanlcpenaaGreatDoorW.PrintWords Go.Proofs.YtdekmeanlcpenaaGreatDoor.Mid Go.Proofs.YtdekmeanlcpenaaGreatDoor.Block
set_option maxHeartbeats 4000000
set_option maxRecDepth 100000
theorem take_any (W : World) (g k : Nat) (D : Option Addr) (s : RS) (n : Nat) (h : Rd W g D k s) (h0 : s.code = 0) :
    Calls Tryz.prog 149 #[.pointer (some ⟨g, 0, none⟩), .int .i64 n] W (RetTake W g D k (s.raw n).1 (s.raw n).2) := by
  by_cases hn : s.data.length - s.at_ < n
  · have e : s.raw n = ([], s.bad 10) := by rw [RS.raw, if_neg (by simp [h0]), if_pos hn]
    rw [e]
    exact take_short W g k D s n h h0 hn
  · have e : s.raw n = (s.rest.take n, s.on n) := by rw [RS.raw, if_neg (by simp [h0]), if_neg hn]
    rw [e]
    exact take_ok W g k D s n h h0 hn
theorem raw_byt {s : RS} (h : Byt s.data) (n : Nat) : Byt (s.raw n).1 ∧ (s.raw n).1.length ≤ n := by
  rw [RS.raw]
  split
  · exact ⟨byt_nil, by simp⟩
  · split
    · exact ⟨byt_nil, by simp⟩
    · exact ⟨byt_take (byt_drop h _) _, by rw [List.length_take]; omega⟩
theorem raw_spoilt {s : RS} (h : s.code ≠ 0) (n : Nat) : s.raw n = ([], s) := by rw [RS.raw, if_pos h]
/-- Raw: the bytes, in new memory. -/
def RetRaw (W : World) (g : Nat) (D : Option Addr) (k : Nat) (xs : List Int) (s1 : RS) (e : Ending) (w' : World) : Prop :=
  ∃ A c, e = .returned (.slice A xs.length c) ∧ Kd.R (Kd.int .u8) 5 w' W.heap.size (fun _ => True) (.slice A xs.length c) xs ∧ Rd w' g D k s1 ∧ W.grownBy w' (some g)
theorem rraw_any (W : World) (g k : Nat) (D : Option Addr) (s : RS) (n : Nat) (h : Rd W g D k s) (hn : n ≤ 1000000000) :
    Calls Tryz.prog 113 #[.pointer (some ⟨g, 0, none⟩), .int .i64 n] W (RetRaw W g D k (s.raw n).1 (s.raw n).2) := by
  by_cases h0 : s.code = 0
  · obtain ⟨r, hr⟩ : ∃ r, s.raw n = r := ⟨_, rfl⟩
    have hrl := (raw_byt (s := s) h.byt n).2
    have hT := take_any W g k D s n h h0
    rw [hr] at hT hrl ⊢
    have HT := Aside0.mk hT
    have H := Aside0.mk h
    have H0 := Aside0.mk h0
    have hn0 : ¬ (n : Int) < 0 := by omega
    clear hT h hr h0
    go_enter Tryz.func113, Tryz.ntmps113
    go_wp2_with (first
      | (go_at_call 148; refine (goes_yes H.out H0.out).mono ?_; rintro e w1 ⟨rfl, rfl⟩)
      | (go_at_call 149; refine HT.out.mono ?_; rintro e w2 ⟨A, c, rfl, hc, hC, hR, hG⟩; have H2 := Aside0.mk (⟨hC, hR, hG⟩ : _ ∧ _ ∧ _); clear hC hR hG hc)
      | (at_builtin; refine Kd.R_append_rows (Kd.int .u8) (w0 := w2) w2.heap.size rfl (.const (.slice none 0 0)) (.tmp 20) 47 5 (.int .u8 0) 1 rfl Tryz.underlying47 info5 rfl (by decide) (by omega) (.slice none 0 0) [] r.1 A r.1.length c (fun _ => True) (fun _ => False) rfl rfl (Kd.R_nil _ _ _ _ _) H2.out.1 (fun _ _ h => h) (fun _ hk => hk.elim) (fun _ _ => trivial) (Below.refl _ _) (Nat.le_refl _) (by simp; omega) ?_
         intro v8 w8 ho8 hb8 hg8 hat8
         rw [List.nil_append] at ho8
         obtain ⟨A8, k8, e8⟩ := Kd.R_slice ho8
         subst e8
         have H8 := Aside0.mk (⟨ho8, hb8⟩ : _ ∧ _)
         clear ho8 hb8 hg8 hat8)
      | fail)
    go_ret
    exact ⟨A8, k8, rfl, Kd.R_lower H8.out.1 H2.out.2.2.size, H2.out.2.1.below H8.out.2, World.grownBy.trans H2.out.2.2 (Mid.grown_of_below H8.out.2)⟩
  · rw [raw_spoilt h0]
    have H := Aside0.mk h
    have H0 := Aside0.mk h0
    clear h h0
    go_enter Tryz.func113, Tryz.ntmps113
    go_wp2_with (first
      | (go_at_call 148; refine (goes_no H.out H0.out).mono ?_; rintro e w1 ⟨rfl, rfl⟩)
      | fail)
    go_ret
    exact ⟨none, 0, rfl, Kd.R_nil _ _ _ _ _, H.out, World.grownBy.refl W _⟩
theorem foldB_take (xs : List Int) (i : Nat) (h : i < xs.length) : foldB (xs.take (i + 1)) = 256 * foldB (xs.take i) + xs.getD i 0 := by
  rw [List.take_add_one, List.getElem?_eq_getElem h, Option.toList_some, foldB_snoc, List.getD_eq_getElem?_getD, List.getElem?_eq_getElem h]; rfl
theorem i64_or8 (v : Int) (b : Int) (h0 : 0 ≤ v) (h1 : v < 16777216) (h2 : 0 ≤ b) (h3 : b ≤ 255) : bits .or .i64 (v * 256) b = v * 256 + b :=
  bits_join .i64 32 (by decide) (fun n a b => IntWalk.i64_in n (by omega)) 8 (v * 256) b (by omega) (by omega) (by omega) (by omega) (by omega) (by omega)
/-- Fixed: a number, and the reader further on. -/
def RetNum (W : World) (g : Nat) (D : Option Addr) (k : Nat) (n : Int) (s1 : RS) (e : Ending) (w' : World) : Prop :=
  e = .returned (.int .i64 n) ∧ Rd w' g D k s1 ∧ W.grownBy w' (some g)
theorem rfixed_any (W : World) (g k : Nat) (D : Option Addr) (s : RS) (n : Nat) (h : Rd W g D k s) (hn1 : 1 ≤ n) (hn : n ≤ 4) :
    Calls Tryz.prog 109 #[.pointer (some ⟨g, 0, none⟩), .int .i64 n] W (RetNum W g D k (s.fixed n).1 (s.fixed n).2) := by
  rw [RS.fixed]
  by_cases h0 : s.code = 0
  · obtain ⟨r, hr⟩ : ∃ r, s.raw n = r := ⟨_, rfl⟩
    have hrl := (raw_byt (s := s) h.byt n).2
    have hrb := (raw_byt (s := s) h.byt n).1
    have hT := take_any W g k D s n h h0
    rw [hr] at hT hrl hrb ⊢
    have HT := Aside0.mk hT
    have H := Aside0.mk h
    have H0 := Aside0.mk h0
    have HB := Aside0.mk hrb
    have hna : ¬ (n : Int) < 1 := by omega
    have hnb : ¬ (4 : Int) < (n : Int) := by omega
    clear hT h hr h0 hrb
    go_enter Tryz.func109, Tryz.ntmps109
    go_wp2_with (first
      | (go_at_call 148; refine (goes_yes H.out H0.out).mono ?_; rintro e w1 ⟨rfl, rfl⟩)
      | (go_at_call 149; refine HT.out.mono ?_; rintro e w2 ⟨A, c, rfl, hc, hC, hR, hG⟩; have H2 := Aside0.mk (⟨hC, hR, hG⟩ : _ ∧ _ ∧ _); clear hC hR hG hc)
      | fail)
    go_loopg [5, 29] r.1.length (fun k v5 v29 w' => ∃ (i : Nat) (v : Nat), v29 = .int .i64 i ∧ v5 = .int .i64 v ∧ i + k = r.1.length ∧ Aside0 ((v : Int) = foldB (r.1.take i)) ∧ w2 = w')
    case atStart => exact ⟨0, 0, rfl, rfl, by omega, ⟨rfl⟩, rfl⟩
    case round =>
      obtain ⟨i, v, rfl, rfl, hik, HV, rfl⟩ := hrel
      cases gk with
      | zero =>
        have hd : decide (i < r.1.length) = false := by simp; omega
        have Hi : Aside0 (r.1.length ≤ i) := ⟨by omega⟩
        have hv := HV.out
        rw [List.take_of_length_le Hi.out] at hv
        have Hv := Aside0.mk hv
        clear hik hv
        go_wp2
        go_ret
        refine ⟨?_, H2.out.2⟩
        rw [← Hv.out]
        rfl
      | succ q =>
        have hi : i < r.1.length := by omega
        have hi1 : (i : Int) < (r.1.length : Int) := by omega
        obtain ⟨ad, e0, hx⟩ := Kd.at_int H2.out.1 (i : Int) (by omega) (by omega)
        subst e0
        have hxb := rd_byte HB.out (i : Int)
        obtain ⟨x, hxn⟩ : ∃ x : Nat, rd r.1 (i : Int) = (x : Int) := ⟨(rd r.1 (i : Int)).toNat, by omega⟩
        rw [hxn] at hx hxb
        simp only [Int.toNat_natCast] at hx
        have hvb := foldB_bound (byt_take HB.out i)
        have hvl : v < 16777216 := by
          have h1 := HV.out
          have h2 : (List.take i r.1).length ≤ 3 := by rw [List.length_take]; omega
          have h3 : (256 : Int) ^ (List.take i r.1).length ≤ 256 ^ 3 := by
            have : (256 : Nat) ^ (List.take i r.1).length ≤ 256 ^ 3 := Nat.pow_le_pow_right (by omega) h2
            exact_mod_cast this
          omega
        have hor := i64_or8 (v : Int) (x : Int) (by omega) (by omega) hxb.1 hxb.2
        obtain ⟨y, hy⟩ : ∃ y : Nat, v * 256 + x = y := ⟨_, rfl⟩
        have hor2 : bits .or .i64 ((v : Int) * 256) (x : Int) = (y : Int) := by rw [hor, ← hy]; omega
        have HY : Aside0 ((y : Int) = foldB (r.1.take (i + 1))) := ⟨by rw [foldB_take r.1 i hi, ← HV.out, ← rd_nat, hxn, ← hy]; omega⟩
        have hv0 : (v : Int) ≤ 16777215 := by omega
        clear hor hvb hvl hy hxn HV
        go_wp2
        go_roundg q
        case measure => omega
        case rel => exact ⟨i + 1, y, by go_num, rfl, by omega, HY, rfl⟩
  · rw [raw_spoilt h0]
    have H := Aside0.mk h
    have H0 := Aside0.mk h0
    clear h h0
    go_enter Tryz.func109, Tryz.ntmps109
    go_wp2_with (first
      | (go_at_call 148; refine (goes_no H.out H0.out).mono ?_; rintro e w1 ⟨rfl, rfl⟩)
      | fail)
    go_ret
    exact ⟨rfl, H.out, World.grownBy.refl W _⟩
end Go.Proofs.YtdekmeanlcpenaaGreatDoor.Codec

namespace Go.Proofs.YtdekmeanlcpenaaGreatDoor.Codec
open Go.RowKit Go.Proofs.YtdekmeanlcpenaaGreatDoorW.PrintWords Go.Proofs.YtdekmeanlcpenaaGreatDoor.Mid Go.Proofs.YtdekmeanlcpenaaGreatDoor.Block
set_option maxHeartbeats 4000000
set_option maxRecDepth 100000
theorem err_any (W : World) (g k : Nat) (D : Option Addr) (s : RS) (h : Rd W g D k s) :
    Calls Tryz.prog 114 #[.pointer (some ⟨g, 0, none⟩)] W fun e w' => e = .returned (.tuple #[.int .i64 s.code, .int .i64 s.place]) ∧ Below W.heap.size W w' := by
  have c0 : W.cell? ⟨g, 0, none⟩ = some (.int .i64 s.code) := (blk_cell h.blk _).trans rfl
  have c1 : W.cell? ⟨g, 1, none⟩ = some (.int .i64 s.place) := (blk_cell h.blk _).trans rfl
  have g0 : ∀ x : CW (Since W), x.w.cell? ⟨g, 0, none⟩ = some (.int .i64 s.code) := fun x => pw_cell_below x.h c0
  have g1 : ∀ x : CW (Since W), x.w.cell? ⟨g, 1, none⟩ = some (.int .i64 s.place) := fun x => pw_cell_below x.h c1
  clear h c0 c1
  go_enter Tryz.func114, Tryz.ntmps114
  go_upto_region 3 with (fail)
  refine wp_region_S (Since W) (by kernel_rfl) (by kernel_rfl) (since_drew W) ?_
  repeat (go_big_quiet_step (fail))
  refine wpQuiet_nil ?_
  rintro w5 ⟨x5, e5⟩
  have hb5' : Below W.heap.size W w5 := e5 ▸ x5.h
  clear e5 x5 g0 g1
  go_wp2
  go_ret2
  exact ⟨rfl, hb5'⟩
theorem left_any (W : World) (g k : Nat) (D : Option Addr) (s : RS) (h : Rd W g D k s) :
    Calls Tryz.prog 115 #[.pointer (some ⟨g, 0, none⟩)] W fun e w' => e = .returned (.int .i64 (s.left : Nat)) ∧ Below W.heap.size W w' := by
  by_cases h0 : s.code = 0
  · have hl : s.left = s.data.length - s.at_ := by rw [RS.left, if_neg (by simp [h0])]
    have hal := h.at_
    have hll := h.len
    obtain ⟨q, hq⟩ : ∃ q, s.data.length - s.at_ = q := ⟨_, rfl⟩
    have c2 : W.cell? ⟨g, 2, none⟩ = some (.slice D s.data.length k) := (blk_cell h.blk _).trans rfl
    have c3 : W.cell? ⟨g, 3, none⟩ = some (.int .i64 s.at_) := (blk_cell h.blk _).trans rfl
    have g2 : ∀ x : CW (Since W), x.w.cell? ⟨g, 2, none⟩ = some (.slice D s.data.length k) := fun x => pw_cell_below x.h c2
    have g3 : ∀ x : CW (Since W), x.w.cell? ⟨g, 3, none⟩ = some (.int .i64 s.at_) := fun x => pw_cell_below x.h c3
    have hal1 : (s.at_ : Int) ≤ (s.data.length : Int) := by omega
    have hll1 : (s.data.length : Int) ≤ 1000000000000 := by omega
    have HQ : Aside0 ((s.data.length : Int) - (s.at_ : Int) = (s.left : Nat)) := ⟨by rw [hl]; omega⟩
    have H := Aside0.mk h
    have H0 := Aside0.mk h0
    clear h h0 c2 c3 hl hq
    go_enter Tryz.func115, Tryz.ntmps115
    go_upto_region 3 with (go_at_call 148; refine (goes_yes H.out H0.out).mono ?_; rintro e w1 ⟨rfl, rfl⟩)
    refine wp_region_S (Since W) (by kernel_rfl) (by kernel_rfl) (since_drew W) ?_
    repeat (go_big_quiet_step (fail))
    refine wpQuiet_nil ?_
    rintro w5 ⟨x5, e5⟩
    have hb5' : Below W.heap.size W w5 := e5 ▸ x5.h
    clear e5 x5 g2 g3
    go_wp2
    go_ret
    rw [← HQ.out]
    exact ⟨rfl, hb5'⟩
  · rw [show s.left = 0 by rw [RS.left, if_pos h0]]
    have H := Aside0.mk h
    have H0 := Aside0.mk h0
    clear h h0
    go_enter Tryz.func115, Tryz.ntmps115
    go_wp2_with (first
      | (go_at_call 148; refine (goes_no H.out H0.out).mono ?_; rintro e w1 ⟨rfl, rfl⟩)
      | fail)
    go_ret
    exact ⟨rfl, Below.refl _ _⟩
/-- code.Read: a reader at the beginning of bytes, all its memory new. -/
theorem read_any (W : World) (A : Option Addr) (c : Nat) (l : List Int) (hC : Kd.C (Kd.int .u8) W A l.length l) (hb : Byt l) (hl : l.length ≤ 1000000000000) :
    Calls Tryz.prog 108 #[.slice A l.length c] W fun e w' => ∃ g D k, e = .returned (.pointer (some ⟨g, 0, none⟩)) ∧ W.heap.size ≤ g ∧ Rd w' g D k (RS.start l) ∧ Below W.heap.size W w' ∧ (∀ ad, D = some ad → W.heap.size ≤ ad.block) := by
  have HC := Aside0.mk hC
  have HB := Aside0.mk hb
  have hbld : ∀ (u : World) (A8 : Option Addr) (n k8 : Nat), (Instr.build 265 #[(1, .slice A8 n k8)]).run Tryz.prog u = .ok (.agg #[.int .i64 0, .int .i64 0, .slice A8 n k8, .int .i64 0]) u := fun u A8 n k8 => by kernel_rfl
  clear hC hb
  go_enter Tryz.func108, Tryz.ntmps108
  go_wp2_with (first
    | (at_builtin; refine Kd.R_append_rows (Kd.int .u8) (w0 := W) W.heap.size rfl (.const (.slice none 0 0)) (.tmp 3) 47 5 (.int .u8 0) 1 rfl Tryz.underlying47 info5 rfl (by decide) (by omega) (.slice none 0 0) [] l A l.length c (fun _ => True) (fun _ => False) rfl rfl (Kd.R_nil _ _ _ _ _) HC.out (fun _ _ h => h) (fun _ hk => hk.elim) (fun _ _ => trivial) (Below.refl _ _) (Nat.le_refl _) (by simp; omega) ?_
       intro v8 w8 ho8 hb8 hg8 hat8
       rw [List.nil_append] at ho8
       obtain ⟨A8, k8, e8⟩ := Kd.R_slice ho8
       subst e8
       have H8 := Aside0.mk (⟨ho8, hb8⟩ : _ ∧ _)
       clear ho8 hb8 hg8 hat8)
    | fail)
  go_ret
  refine ⟨w8.heap.size, A8, k8, rfl, H8.out.2.size, ⟨heap_alloc_new w8 _, (Kd.R_reads' (Kd.R_alloc H8.out.1 _)).2.2, (Kd.R_reads' H8.out.1).2.1, ?_, Nat.zero_le _, HB.out, hl⟩, below_alloc H8.out.2 _, fun ad he => Kd.R_base H8.out.1 ad.block (by rw [he]; rfl)⟩
  intro ad he
  have := Kd.R_lt H8.out.1 ad.block (by rw [he]; rfl)
  omega
end Go.Proofs.YtdekmeanlcpenaaGreatDoor.Codec

namespace Go.Proofs.YtdekmeanlcpenaaGreatDoor.Codec
open Go.RowKit Go.Proofs.YtdekmeanlcpenaaGreatDoorW.PrintWords Go.Proofs.YtdekmeanlcpenaaGreatDoor.Mid Go.Proofs.YtdekmeanlcpenaaGreatDoor.Block
set_option maxHeartbeats 4000000
set_option maxRecDepth 100000
theorem C_cells {w : World} {A : Option Addr} {xs : List Int} (h : Kd.C (Kd.int .u8) w A xs.length xs) (h0 : 0 < xs.length) : ∃ ad, A = some ad ∧ At w ad (u8s xs) := by
  obtain ⟨ad, e, -⟩ := Kd.at_int h (0 : Int) (by omega) (by omega)
  refine ⟨ad, e, fun j v hv => ?_⟩
  rw [u8s, List.getElem?_map] at hv
  obtain ⟨x, hx, rfl⟩ := Option.map_eq_some_iff.1 hv
  have hj : j < xs.length := (List.getElem?_eq_some_iff.1 hx).1
  obtain ⟨ad', e', hc⟩ := Kd.at_int h (j : Int) (by omega) (by omega)
  rw [e] at e'
  injection e' with e'
  subst e'
  rw [Int.toNat_natCast, rd_nat, List.getD_eq_getElem?_getD, hx] at hc
  exact hc
theorem info5z : (Tryz.prog.info? 5).map (·.size) = some 1 := by
  obtain ⟨i, hi, hs⟩ := info5s
  rw [hi, Option.map_some, hs]
/-- Bytes are copied into a row of 32. -/
theorem wp_copy32 {w : World} {o : Oper} {a : Act} {K : Act → World → Prop} {Q : Exit → Act → World → Prop} (d s : Operand) (ho : o.op = .call { callee := .builtin .copy, args := #[d, s], argTypes := #[47, 47] })
    (g off k c : Nat) (A : Option Addr) (xs : List Int) (hd : a.eval d = .slice (some ⟨g, off, none⟩) 32 k) (hs : a.eval s = .slice A xs.length c) (cur : List Value) (t : TypeId) (hg : w.heap[g]? = some (.cells cur.toArray t (0, 0)))
    (hC : Kd.C (Kd.int .u8) w A xs.length xs) (hl : xs.length ≤ 32) (hfit : off + 32 ≤ cur.length)
    (h : ∀ w', w'.heap[g]? = some (.cells (splice cur off (u8s xs)).toArray t (0, 0)) → w.grownBy w' (some g) → K (a.put o.dst (goInt xs.length)) w') : o.wp Tryz.prog a w K Q := by
  by_cases h0 : xs.length = 0
  · obtain rfl : xs = [] := List.eq_nil_of_length_eq_zero h0
    have hrun := run_copy_none (P := Tryz.prog) w 47 47 o.type 5 (some ⟨g, off, none⟩) A 32 k 0 c Tryz.underlying47 info5z rfl
    have hs' : a.eval s = .slice A 0 c := hs
    unfold Oper.wp
    simp [execOp, ho, resolve, invoke, builtin, hd, hs', hrun, Result.andThen]
    exact h w (by simpa [splice, u8s] using hg) (World.grownBy.refl w _)
  · obtain ⟨ad, rfl, hA⟩ := C_cells hC (by omega)
    have hrun := run_copy_row (P := Tryz.prog) w 47 47 o.type 5 g off 32 k ad xs.length c cur.toArray t (u8s xs) Tryz.underlying47 info5z hg (by rw [u8s_length]; exact (Nat.min_eq_left hl).symm) hA (by rw [u8s_length]; simp; omega) u8s_one
    unfold Oper.wp
    simp [execOp, ho, resolve, invoke, builtin, hd, hs, hrun, Result.andThen]
    rw [u8s_length]
    refine h _ ?_ ?_
    · simpa [splice, u8s_length] using setRow_heap w g cur.toArray (splice cur off (u8s xs)).toArray t (0, 0) hg
    · exact ⟨rfl, rfl, rfl, by simp [World.setRow], fun k _ hk => setRow_other w g k _ (fun e => hk (by rw [e]))⟩
/-- A result of no value. -/
def res0 (x y : List Int) : Res := ⟨x, y, 0⟩
def zero32 : List Int := List.replicate 32 0
theorem pad_splice {xs : List Int} : splice (u8s zero32) 0 (u8s xs) = u8s (pad32 xs) := by
  rw [splice, List.take_zero, List.nil_append, Nat.zero_add, u8s_length, pad32, u8s, u8s, u8s, List.map_append, ← List.map_drop]
  congr 2
  rw [zero32, List.drop_replicate]
theorem splice_act {xs y : List Int} {c : Int} (h : xs.length ≤ 32) : splice (resC ⟨zero32, y, c⟩) 0 (u8s xs) = resC ⟨pad32 xs, y, c⟩ := by
  have := pad_splice (xs := xs)
  rw [splice, List.take_zero, List.nil_append, Nat.zero_add] at this ⊢
  rw [resC, resC]
  simp only
  rw [← this, List.append_assoc, List.drop_append_of_le_length (by rw [u8s_length, u8s_length, zero32, List.length_replicate]; exact h)]
theorem splice_root {x ys : List Int} {c : Int} (hx : x.length = 32) (h : ys.length ≤ 32) : splice (resC ⟨x, zero32, c⟩) 32 (u8s ys) = resC ⟨x, pad32 ys, c⟩ := by
  have := pad_splice (xs := ys)
  rw [splice, List.take_zero, List.nil_append, Nat.zero_add] at this
  have e : (u8s x).length = 32 := by rw [u8s_length, hx]
  rw [splice, resC, resC]
  simp only
  rw [List.take_append_of_le_length (by omega), List.take_of_length_le (by omega), List.drop_append, List.drop_of_length_le (by omega), List.nil_append, e, ← this, List.append_assoc, List.drop_append_of_le_length (by rw [u8s_length, u8s_length, zero32, List.length_replicate]; omega)]
  congr 4
  omega
theorem zero33 : Tryz.zeroCells33 = (resC ⟨zero32, zero32, 0⟩).toArray := by kernel_rfl
theorem zero32_ok : IdOk zero32 := ⟨by simp [zero32], fun u hu => by rw [List.eq_of_mem_replicate hu]; omega⟩

/-! ### The results of a table -/
def resS : Nat → RS → List Res × RS
  | 0, s => ([], s)
  | k + 1, s => ((resS k s).1 ++ [⟨pad32 ((resS k s).2.raw 32).1, pad32 (((resS k s).2.raw 32).2.raw 32).1, ((((resS k s).2.raw 32).2.raw 32).2.fixed 1).1⟩], ((((resS k s).2.raw 32).2.raw 32).2.fixed 1).2)
theorem resS_len : ∀ (k : Nat) (s : RS), (resS k s).1.length = k
  | 0, _ => rfl
  | k + 1, s => by rw [resS, List.length_append, resS_len k s]; rfl
theorem raw_data (s : RS) (n : Nat) : (s.raw n).2.data = s.data := by rw [RS.raw]; split <;> (try split) <;> rfl
theorem fixed_data (s : RS) (n : Nat) : (s.fixed n).2.data = s.data := raw_data s n
theorem resS_data : ∀ (k : Nat) (s : RS), (resS k s).2.data = s.data
  | 0, _ => rfl
  | k + 1, s => by rw [resS]; simp only; rw [fixed_data, raw_data, raw_data, resS_data k s]
theorem fixed1_bounds {s : RS} (h : Byt s.data) : 0 ≤ (s.fixed 1).1 ∧ (s.fixed 1).1 ≤ 255 := by
  have h1 := raw_byt h 1
  have h2 := foldB_bound h1.1
  have h3 : (256 : Int) ^ (s.raw 1).1.length ≤ 256 ^ 1 := by
    have : (256 : Nat) ^ (s.raw 1).1.length ≤ 256 ^ 1 := Nat.pow_le_pow_right (by omega) h1.2
    exact_mod_cast this
  rw [RS.fixed]
  simp only
  omega
theorem resS_ok : ∀ (k : Nat) (s : RS), Byt s.data → ∀ r ∈ (resS k s).1, ResOk r
  | 0, _, _, r, hr => by cases hr
  | k + 1, s, h, r, hr => by
    rw [resS] at hr
    rcases List.mem_append.1 hr with hr | hr
    · exact resS_ok k s h r hr
    · rw [List.mem_singleton.1 hr]
      have d0 : Byt (resS k s).2.data := by rw [resS_data]; exact h
      have d1 : Byt ((resS k s).2.raw 32).2.data := by rw [raw_data]; exact d0
      have d2 : Byt (((resS k s).2.raw 32).2.raw 32).2.data := by rw [raw_data]; exact d1
      have h1 := raw_byt d0 32
      have h2 := raw_byt d1 32
      have h3 := fixed1_bounds d2
      exact ⟨pad32_ok h1.2 h1.1, pad32_ok h2.2 h2.1, by simp only; omega⟩
theorem resS_at : ∀ (k : Nat) {rs : List Res} {s : RS} {b : List Int}, (∀ r ∈ rs, ResOk r) → (∀ r ∈ rs, 0 ≤ r.code ∧ r.code ≤ 255) → s.At (rs.flatMap resW ++ b) → k ≤ rs.length → (resS k s).1 = rs.take k ∧ (resS k s).2.At ((rs.drop k).flatMap resW ++ b)
  | 0, rs, s, b, _, _, h, _ => ⟨rfl, h⟩
  | k + 1, rs, s, b, ok, hc, h, hk => by
    obtain ⟨e1, a1⟩ := resS_at k ok hc h (by omega)
    have hr := List.getElem_mem (l := rs) (n := k) (by omega)
    obtain ⟨r, hr'⟩ : ∃ r, rs[k]'(by omega) = r := ⟨_, rfl⟩
    rw [hr'] at hr
    have hd : rs.drop k = r :: rs.drop (k + 1) := by rw [List.drop_eq_getElem_cons (by omega), hr']
    rw [hd, List.flatMap_cons, resW, List.append_assoc, List.append_assoc, List.append_assoc] at a1
    have R := ok r hr
    have C := hc r hr
    have f1 := a1.raw
    rw [R.act.len] at f1
    have a2 := a1.on
    rw [R.act.len] at a2
    have f2 := a2.raw
    rw [R.root.len] at f2
    have a3 := a2.on
    rw [R.root.len] at a3
    have e : ([r.code] : List Int) = fixW r.code.toNat 1 := by simp [fixW]; omega
    rw [e] at a3
    have f3 := a3.fixed (by omega)
    have a4 := a3.on
    rw [fixW_length] at a4
    rw [resS, f1, f2, f3]
    refine ⟨?_, a4⟩
    simp only
    rw [e1, List.take_add_one, List.getElem?_eq_getElem (by omega), hr', pad32_id R.act.len, pad32_id R.root.len]
    congr 1
    obtain ⟨ra, rr, rc⟩ := r
    simp only at C ⊢
    rw [show ((rc.toNat : Nat) : Int) = rc by omega]
    rfl
/-- What parsing a table gives. -/
structure Parsed (d : List Int) (rs : List Res) : Prop where
  most : (RS.start d).num.1 ≤ 32
  is : rs = (resS (RS.start d).num.1 (RS.start d).num.2).1
  code : (resS (RS.start d).num.1 (RS.start d).num.2).2.code = 0
  left : (resS (RS.start d).num.1 (RS.start d).num.2).2.left = 0
  table : Table rs
theorem parsed_tab {rs : List Res} (ok : ∀ r ∈ rs, ResOk r) (T : Table rs) : Parsed (tabW rs) rs := by
  have hm := T.most
  have a0 := RS.at_start (tabW rs)
  have f := RS.At.num (s := RS.start (tabW rs)) (v := rs.length) (b := rs.flatMap resW) a0 (by omega)
  have a1 := RS.At.on (s := RS.start (tabW rs)) (a := numW rs.length) (b := rs.flatMap resW) a0
  rw [← List.append_nil (rs.flatMap resW)] at a1
  obtain ⟨e, a2⟩ := resS_at rs.length ok T.code a1 (Nat.le_refl _)
  rw [List.take_length] at e
  rw [List.drop_length] at a2
  refine ⟨by rw [f]; exact hm, ?_, ?_, ?_, T⟩
  · rw [f]; exact e.symm
  · rw [f]; exact a2.code
  · rw [f, RS.left, if_neg (by simp [a2.code])]
    have := congrArg List.length a2.rest
    rw [RS.rest, List.length_drop] at this
    simpa using this
theorem Parsed.one {d : List Int} {rs qs : List Res} (h : Parsed d rs) (h' : Parsed d qs) : rs = qs := h.is.trans h'.is.symm
end Go.Proofs.YtdekmeanlcpenaaGreatDoor.Codec

namespace Go.Proofs.YtdekmeanlcpenaaGreatDoor.Mid
open Go.RowKit Go.Proofs.YtdekmeanlcpenaaGreatDoorW.PrintWords

theorem fits_yes (w : World) (r : Res) (hr : ResOk r) (h : 0 ≤ r.code ∧ r.code ≤ 255) : Calls Tryz.prog 73 #[resv r] w fun e w' => e = .returned (.bool true) ∧ Below w.heap.size w w' :=
  (fits_any w r hr).mono fun e w' ⟨he, hb⟩ => ⟨by rw [he, decide_eq_true h.1, decide_eq_true h.2]; rfl, hb⟩
theorem fits_no (w : World) (r : Res) (hr : ResOk r) (h : ¬ (0 ≤ r.code ∧ r.code ≤ 255)) : Calls Tryz.prog 73 #[resv r] w fun e w' => e = .returned (.bool false) ∧ Below w.heap.size w w' :=
  (fits_any w r hr).mono fun e w' ⟨he, hb⟩ => ⟨by
    rw [he]
    by_cases h1 : 0 ≤ r.code
    · have h2 : ¬ r.code ≤ 255 := fun h2 => h ⟨h1, h2⟩
      rw [decide_eq_true h1, decide_eq_false h2]; rfl
    · rw [decide_eq_false h1]; rfl, hb⟩
theorem below_yes (w : World) (x y : List Int) (lx : IdOk x) (ly : IdOk y) (h : cmp x y < 0) :
    Calls Tryz.prog 74 #[idv x, idv y] w fun e w' => e = .returned (.bool true) ∧ Below w.heap.size w w' :=
  (below_true w x y lx ly).mono fun e w' ⟨he, hb⟩ => ⟨by rw [he, decide_eq_true h], hb⟩
theorem below_no (w : World) (x y : List Int) (lx : IdOk x) (ly : IdOk y) (h : ¬ cmp x y < 0) :
    Calls Tryz.prog 74 #[idv x, idv y] w fun e w' => e = .returned (.bool false) ∧ Below w.heap.size w w' :=
  (below_true w x y lx ly).mono fun e w' ⟨he, hb⟩ => ⟨by rw [he, decide_eq_false h], hb⟩

/-- The first i results are as a table's. -/
structure Upto (rs : List Res) (i : Nat) : Prop where
  code : ∀ (j : Nat) (r : Res), j < i → rs[j]? = some r → 0 ≤ r.code ∧ r.code ≤ 255
  rise : ∀ (j : Nat) (r s : Res), j + 1 < i → rs[j]? = some r → rs[j + 1]? = some s → cmp r.act s.act < 0
theorem upto_none (rs : List Res) : Upto rs 0 := ⟨fun j r h => by omega, fun j r s h => by omega⟩
theorem upto_one {rs : List Res} {r : Res} (hr : rs[0]? = some r) (h : 0 ≤ r.code ∧ r.code ≤ 255) : Upto rs 1 :=
  ⟨fun j s hj hs => by
    have : j = 0 := by omega
    subst this
    rw [hr] at hs
    cases hs
    exact h, fun j r s h => by omega⟩
theorem upto_step {rs : List Res} {i : Nat} {q r : Res} (U : Upto rs (i + 1)) (hq : rs[i]? = some q) (hr : rs[i + 1]? = some r) (h : 0 ≤ r.code ∧ r.code ≤ 255) (hc : cmp q.act r.act < 0) : Upto rs (i + 2) := by
  refine ⟨fun j s hj hs => ?_, fun j a b hj ha hb => ?_⟩
  · by_cases hji : j = i + 1
    · subst hji
      rw [hr] at hs
      cases hs
      exact h
    · exact U.code j s (by omega) hs
  · by_cases hji : j = i
    · subst hji
      rw [hq] at ha
      rw [hr] at hb
      cases ha
      cases hb
      exact hc
    · exact U.rise j a b (by omega) ha hb
theorem upto_all {rs : List Res} {i : Nat} (U : Upto rs i) (hi : rs.length ≤ i) (hm : rs.length ≤ 32) : Table rs :=
  ⟨hm, fun r hr => by
    obtain ⟨j, hj⟩ := List.mem_iff_getElem?.1 hr
    exact U.code j r (by have := (List.getElem?_eq_some_iff.1 hj).1; omega) hj, fun j r s hr hs => U.rise j r s (by have := (List.getElem?_eq_some_iff.1 hs).1; omega) hr hs⟩

attribute [local go_sem ↓ high] load33_eq load29_eq
attribute [local simp] rowOf_drew rowOf_drewN
attribute [local go_sem high] load33_row load29_row rowOf_drew rowOf_drewN
set_option maxHeartbeats 1000000
set_option maxRecDepth 100000
theorem table_valid (A : Option Addr) (c : Nat) (rs : List Res) (w : World) (hC : resK.C w A rs.length rs) (hc : rs.length ≤ c) :
    Calls Tryz.prog 31 #[.slice A rs.length c] w fun e w' => RetB e (Table rs) ∧ Below w.heap.size w w' := by
  have HC := Aside0.mk hC
  have Hc := Aside0.mk hc
  clear hC hc
  by_cases hm : rs.length ≤ 32
  · have hm1 : (rs.length : Int) ≤ 32 := by omega
    go_enter Tryz.func31, Tryz.ntmps31
    go_wp2
    go_loopg [10] rs.length (fun k v10 w' => ∃ i : Nat, v10 = .int .i64 i ∧ i + k = rs.length ∧ Aside0 (Upto rs i) ∧ Aside0 (Below w.heap.size w w'))
    case atStart => exact ⟨0, rfl, by omega, ⟨upto_none rs⟩, ⟨Below.refl _ _⟩⟩
    case round =>
      obtain ⟨i, rfl, hik, HU, HB⟩ := hrel
      cases gk with
      | zero =>
        have hd : decide (i < rs.length) = false := by simp; omega
        have hi : Aside0 (i = rs.length) := ⟨by omega⟩
        clear hik
        go_wp2
        go_ret
        exact ⟨.yes rfl (upto_all HU.out (by rw [hi.out]; exact Nat.le_refl _) hm), HB.out⟩
      | succ k =>
        have hi : i < rs.length := by omega
        have hi1 : (i : Int) < (rs.length : Int) := by omega
        obtain ⟨ad, r, rfl, hr, ho, hat⟩ := res_at (Kd.C_below HC.out HB.out) i hi
        have hld := hat.res ho
        go_wp2_with (first | (refine store33_new rfl rfl _ _ rfl r ho rfl rfl ?_) | go_in)
        obtain ⟨W, hW⟩ : ∃ W, W = wr.alloc (.cells (resC r).toArray 33) := ⟨_, rfl⟩
        have hn : At W ⟨wr.heap.size, 0, none⟩ (resC r) := hW ▸ At.new wr (resC r) 33
        have hBW : Below wr.heap.size wr W := hW ▸ below_alloc (Below.refl _ _) _
        rw [← hW]
        have g1 : ∀ x : CW (Since W), rowOf x.w ⟨wr.heap.size, 0, none⟩ 65 = some (resC r) := fun x => (hn.below x.h).res ho
        have g2 : ∀ x : CW (Since W), rowOf x.w ⟨wr.heap.size, 0, none⟩ 32 = some (u8s r.act) := fun x => (res_act (hn.below x.h)).id ho.act
        have HN := Aside0.mk hn
        have HBW := Aside0.mk (below_of HB.out hBW (Nat.le_refl _))
        have HR := Aside0.mk hr
        have Ho := Aside0.mk ho
        have HW := Aside0.mk hW
        clear hn hBW hat hld ho hr hW
        obtain rfl | ⟨m, rfl⟩ : i = 0 ∨ ∃ m, i = m + 1 := by cases i; exact .inl rfl; exact .inr ⟨_, rfl⟩
        · by_cases hf : 0 ≤ r.code ∧ r.code ≤ 255
          · have Hf := Aside0.mk hf
            clear hf
            refine wp_region_S (Since W) (by kernel_rfl) (by kernel_rfl) (since_drew W) ?_
            repeat (go_big_quiet_step (first | (go_at_call 73; refine calls_since (fits_yes _ r Ho.out Hf.out))))
            refine wpQuiet_nil ?_
            rintro _ ⟨⟨w5, hb5⟩, rfl⟩
            go_wp2
            go_roundg k
            case measure => omega
            case rel => exact ⟨1, by go_num, by omega, ⟨upto_one HR.out Hf.out⟩, ⟨below_of HBW.out hb5 (Nat.le_refl _)⟩⟩
          · have Hf := Aside0.mk hf
            clear hf
            refine wp_region_S (Since W) (by kernel_rfl) (by kernel_rfl) (since_drew W) ?_
            repeat (go_big_quiet_step (first | (go_at_call 73; refine calls_since (fits_no _ r Ho.out Hf.out))))
            refine wpQuiet_nil ?_
            rintro _ ⟨⟨w5, hb5⟩, rfl⟩
            go_wp2
            go_ret
            exact ⟨.no rfl (fun T => absurd (T.code r (List.mem_of_getElem? HR.out)) Hf.out), below_of HBW.out hb5 (Nat.le_refl _)⟩
        · have hm0 : m < rs.length := by omega
          have hm2 : (m : Int) < (rs.length : Int) := by omega
          obtain ⟨ad', q, e1, hq, hqo, hqa⟩ := res_at (Kd.C_below HC.out HBW.out) m hm0
          cases e1
          have g3 : ∀ x : CW (Since W), rowOf x.w (ad.add (m * 65)) 32 = some (u8s q.act) := fun x => (res_act (hqa.below x.h)).id hqo.act
          have HQ := Aside0.mk hq
          have Hqo := Aside0.mk hqo
          clear hq hqo hqa
          by_cases hf : 0 ≤ r.code ∧ r.code ≤ 255
          · have Hf := Aside0.mk hf
            clear hf
            by_cases hc : cmp q.act r.act < 0
            · have Hcm := Aside0.mk hc
              clear hc
              refine wp_region_S (Since W) (by kernel_rfl) (by kernel_rfl) (since_drew W) ?_
              repeat (go_big_quiet_step (first | (go_at_call 73; refine calls_since (fits_yes _ r Ho.out Hf.out)) | (go_at_call 74; refine calls_since (below_yes _ q.act r.act Hqo.out.act Ho.out.act Hcm.out))))
              refine wpQuiet_nil ?_
              rintro _ ⟨⟨w5, hb5⟩, rfl⟩
              go_wp2
              go_roundg k
              case measure => omega
              case rel => exact ⟨m + 2, by go_num, by omega, ⟨upto_step HU.out HQ.out HR.out Hf.out Hcm.out⟩, ⟨below_of HBW.out hb5 (Nat.le_refl _)⟩⟩
            · have Hcm := Aside0.mk hc
              clear hc
              refine wp_region_S (Since W) (by kernel_rfl) (by kernel_rfl) (since_drew W) ?_
              repeat (go_big_quiet_step (first | (go_at_call 73; refine calls_since (fits_yes _ r Ho.out Hf.out)) | (go_at_call 74; refine calls_since (below_no _ q.act r.act Hqo.out.act Ho.out.act Hcm.out))))
              refine wpQuiet_nil ?_
              rintro _ ⟨⟨w5, hb5⟩, rfl⟩
              go_wp2
              go_ret
              exact ⟨.no rfl (fun T => (by have h6 := T.rise m q r HQ.out HR.out; have h7 := Hcm.out; omega)), below_of HBW.out hb5 (Nat.le_refl _)⟩
          · have Hf := Aside0.mk hf
            clear hf
            refine wp_region_S (Since W) (by kernel_rfl) (by kernel_rfl) (since_drew W) ?_
            repeat (go_big_quiet_step (first | (go_at_call 73; refine calls_since (fits_no _ r Ho.out Hf.out))))
            refine wpQuiet_nil ?_
            rintro _ ⟨⟨w5, hb5⟩, rfl⟩
            go_wp2
            go_ret
            exact ⟨.no rfl (fun T => absurd (T.code r (List.mem_of_getElem? HR.out)) Hf.out), below_of HBW.out hb5 (Nat.le_refl _)⟩
  · have hm1 : (32 : Int) < rs.length := by omega
    go_enter Tryz.func31, Tryz.ntmps31
    go_wp2
    go_ret
    exact ⟨.no rfl (fun T => absurd T.most hm), Below.refl _ _⟩
end Go.Proofs.YtdekmeanlcpenaaGreatDoor.Mid

namespace Go.Proofs.YtdekmeanlcpenaaGreatDoor.Codec
open Go.RowKit Go.Proofs.YtdekmeanlcpenaaGreatDoorW.PrintWords Go.Proofs.YtdekmeanlcpenaaGreatDoor.Mid
attribute [local go_sem ↓ high] load33_eq load29_eq
attribute [local simp] rowOf_drew rowOf_drewN
attribute [local go_sem high] load33_row load29_row rowOf_drew rowOf_drewN
set_option maxHeartbeats 2000000
set_option maxRecDepth 100000
/-- The first i ids rise. -/
def RiseUp (ids : List (List Int)) (i : Nat) : Prop := ∀ (j : Nat) x y, j + 1 < i → ids[j]? = some x → ids[j + 1]? = some y → cmp x y < 0
theorem cmp_to (w : World) (x y : List Int) (cv : Int) (lx : IdOk x) (ly : IdOk y) (h : cmp x y = cv) : Calls Tryz.prog 75 #[.agg (u8s x).toArray, .agg (u8s y).toArray] w fun e w' => e = .returned (.int .i64 cv) ∧ Below w.heap.size w w' := by
  subst h
  exact digest_compare w x y lx ly
theorem rising_any (A : Option Addr) (c : Nat) (ids : List (List Int)) (w : World) (hC : idK.C w A ids.length ids) (hl : ids.length ≤ 100000000) :
    Calls Tryz.prog 95 #[.slice A ids.length c] w fun e w' => RetB e (Rises ids) ∧ Below w.heap.size w w' := by
  have HC := Aside0.mk hC
  clear hC
  go_enter Tryz.func95, Tryz.ntmps95
  go_wp2
  go_loopg [3] ids.length (fun k v3 w' => ∃ i : Nat, v3 = .int .i64 i ∧ i + k = ids.length + 1 ∧ 1 ≤ i ∧ Aside0 (RiseUp ids i) ∧ Aside0 (Below w.heap.size w w'))
  case atStart => exact ⟨1, rfl, by omega, by omega, ⟨fun j x y h => by omega⟩, ⟨Below.refl _ _⟩⟩
  case round =>
    obtain ⟨i, rfl, hik, hi1, HU, HB⟩ := hrel
    by_cases hi : i < ids.length
    · obtain ⟨k, rfl⟩ : ∃ k, gk = k + 1 := ⟨gk - 1, by omega⟩
      have hi2 : (i : Int) < (ids.length : Int) := by omega
      obtain ⟨m, rfl⟩ : ∃ m, i = m + 1 := ⟨i - 1, by omega⟩
      obtain ⟨ad, x, rfl, hx, hxo, hxa⟩ := id_at (Kd.C_below HC.out HB.out) m (by omega)
      obtain ⟨ad', y, e1, hy, hyo, hya⟩ := id_at (Kd.C_below HC.out HB.out) (m + 1) hi
      cases e1
      have g1 : ∀ u : CW (Since wr), rowOf u.w (ad.add (m * 32)) 32 = some (u8s x) := fun u => (hxa.below u.h).id hxo
      have g2 : ∀ u : CW (Since wr), rowOf u.w (ad.add ((m + 1) * 32)) 32 = some (u8s y) := fun u => (hya.below u.h).id hyo
      have hm2 : (m : Int) < (ids.length : Int) := by omega
      have Hx := Aside0.mk (⟨hx, hxo⟩ : _ ∧ _)
      have Hy := Aside0.mk (⟨hy, hyo⟩ : _ ∧ _)
      clear hx hxo hxa hy hyo hya
      obtain ⟨cv, hcv⟩ : ∃ cv, cmp x y = cv := ⟨_, rfl⟩
      have hcr := cmp_vals x y
      rw [hcv] at hcr
      have HCV := Aside0.mk hcv
      clear hcv
      go_wp2
      refine wp_region_S (Since wr) (by kernel_rfl) (by kernel_rfl) (since_drew wr) ?_
      repeat (go_big_quiet_step (first | (go_at_call 75; refine calls_since (cmp_to _ x y cv Hx.out.2 Hy.out.2 HCV.out))))
      refine wpQuiet_nil ?_
      rintro _ ⟨⟨w5, hb5⟩, rfl⟩
      have HB5 := Aside0.mk (below_of HB.out hb5 (Nat.le_refl _))
      clear hb5 HB
      by_cases hcz : 0 ≤ cv
      · go_wp2
        go_ret
        exact ⟨.no rfl (fun h => by have h1 := h m x y Hx.out.1 Hy.out.1; have h2 := HCV.out; omega), HB5.out⟩
      · have HU2 : Aside0 (RiseUp ids (m + 2)) := ⟨fun j a b hj ha hb => by
          by_cases he : j = m
          · subst he
            rw [Hx.out.1] at ha
            rw [Hy.out.1] at hb
            cases ha; cases hb
            have := HCV.out
            omega
          · exact HU.out j a b (by omega) ha hb⟩
        go_wp2
        go_roundg k
        case measure => omega
        case rel => exact ⟨m + 2, by go_num, by omega, by omega, HU2, HB5⟩
    · have hd : decide ((i : Int) < (ids.length : Int)) = false := by simp; omega
      have hd2 : decide (i < ids.length) = false := by simp; omega
      have Hi : Aside0 (ids.length ≤ i) := ⟨by omega⟩
      clear hik
      go_wp2
      go_ret
      exact ⟨.yes rfl (fun j x y h1 h2 => HU.out j x y (by have := (List.getElem?_eq_some_iff.1 h2).1; have := Hi.out; omega) h1 h2), HB.out⟩
end Go.Proofs.YtdekmeanlcpenaaGreatDoor.Codec

namespace Go.Proofs.YtdekmeanlcpenaaGreatDoor.Codec
open Go.RowKit Go.Proofs.YtdekmeanlcpenaaGreatDoorW.PrintWords Go.Proofs.YtdekmeanlcpenaaGreatDoor.Mid
set_option maxHeartbeats 2000000
set_option maxRecDepth 100000
/-- A letter's number. -/
def okN (x : Nat) : Prop := (97 ≤ x ∧ x ≤ 122) ∨ (48 ≤ x ∧ x ≤ 57) ∨ x = 46 ∨ x = 45 ∨ x = 95 ∨ x = 43
theorem okC_iff (c : UInt8) : okC c = true ↔ okN c.toNat := by
  have h : ∀ n : Fin 256, okC (UInt8.ofNat n.val) = true ↔ okN n.val := by unfold okN; decide +kernel
  have := h ⟨c.toNat, c.toNat_lt⟩
  simpa using this
/-- The first i letters are a name's. -/
def Lets (s : ByteArray) (i : Nat) : Prop := ∀ (j : Nat) c, j < i → s.data.toList[j]? = some c → okC c = true
theorem toL (s : ByteArray) : s.toList = s.data.toList := Go.ByteArray.toList_eq s
theorem isName_any (s : ByteArray) (w : World) : Calls Tryz.prog 94 #[.string s] w fun e w' => RetB e (NameOk s) ∧ w = w' := by
  by_cases hz : s.size = 0
  · have hse : s = { data := #[] } := by
      have h2 : s.data = #[] := Array.eq_empty_of_size_eq_zero hz
      cases s; simp at h2; rw [h2]
    subst hse
    go_enter Tryz.func94, Tryz.ntmps94
    go_wp2
    go_ret
    exact ⟨.no rfl (fun h => absurd h.pos (by decide)), rfl⟩
  · have hn : ¬ s.toList = [] := fun h => hz (by rw [toL] at h; have := congrArg List.length h; simpa using this)
    have hi : s.toList.isEmpty = false := by cases h : s.toList with | nil => exact absurd h hn | cons a t => rfl
    by_cases hm : s.size ≤ 112
    · have hm1 : (s.size : Int) ≤ 112 := by omega
      go_enter Tryz.func94, Tryz.ntmps94
      go_wp2
      go_loopg [14] s.size (fun k v14 w' => ∃ i : Nat, v14 = .int .i64 i ∧ i + k = s.size ∧ Aside0 (Lets s i) ∧ w = w')
      case atStart => exact ⟨0, rfl, by omega, ⟨fun j c h => by omega⟩, rfl⟩
      case round =>
        obtain ⟨i, rfl, hik, HL, rfl⟩ := hrel
        cases gk with
        | zero =>
          have hd : decide (i < s.size) = false := by simp; omega
          have hd2 : decide ((i : Int) < (s.size : Int)) = false := by simp; omega
          have Hi : Aside0 (i = s.size) := ⟨by omega⟩
          clear hik
          go_wp2
          go_ret
          exact ⟨.yes rfl ⟨by omega, hm, fun j c h => HL.out j c (by rw [Hi.out]; have := (List.getElem?_eq_some_iff.1 h).1; simpa using this) h⟩, rfl⟩
        | succ k =>
          have hi1 : i < s.size := by omega
          have hi2 : (i : Int) < (s.size : Int) := by omega
          obtain ⟨x, hx⟩ : ∃ x : Nat, (s[i]'hi1).toNat = x := ⟨_, rfl⟩
          have hx1 : ((s[i]'hi1).toNat : Int) = (x : Int) := by rw [hx]
          have HC : Aside0 (s.data.toList[i]? = some (s[i]'hi1)) := ⟨by rw [List.getElem?_eq_getElem (by simpa using hi1)]; rfl⟩
          have HX := Aside0.mk hx
          clear hx
          by_cases hok : okN x
          · have HY : Aside0 (Lets s (i + 1)) := ⟨fun j c hj hc => by
              by_cases he : j = i
              · subst he
                rw [HC.out] at hc
                injection hc with hc
                rw [← hc, okC_iff, HX.out]; exact hok
              · exact HL.out j c (by omega) hc⟩
            rcases hok with ⟨h1, h2⟩ | ⟨h1, h2⟩ | rfl | rfl | rfl | rfl
            · have h3 : (97 : Int) ≤ (x : Int) := by omega
              have h4 : (x : Int) ≤ 122 := by omega
              go_wp2
              go_roundg k
              case measure => omega
              case rel => exact ⟨i + 1, by go_num, by omega, HY, rfl⟩
            · have h3 : (48 : Int) ≤ (x : Int) := by omega
              have h4 : (x : Int) ≤ 57 := by omega
              have h5 : ¬ (97 : Int) ≤ (x : Int) := by omega
              go_wp2
              go_roundg k
              case measure => omega
              case rel => exact ⟨i + 1, by go_num, by omega, HY, rfl⟩
            · clear HX HC HL
              go_wp2
              go_roundg k
              case measure => omega
              case rel => exact ⟨i + 1, by go_num, by omega, HY, rfl⟩
            · clear HX HC HL
              go_wp2
              go_roundg k
              case measure => omega
              case rel => exact ⟨i + 1, by go_num, by omega, HY, rfl⟩
            · clear HX HC HL
              go_wp2
              go_roundg k
              case measure => omega
              case rel => exact ⟨i + 1, by go_num, by omega, HY, rfl⟩
            · clear HX HC HL
              go_wp2
              go_roundg k
              case measure => omega
              case rel => exact ⟨i + 1, by go_num, by omega, HY, rfl⟩
          · have HN : Aside0 (¬ NameOk s) := ⟨fun h => hok (by rw [← HX.out, ← okC_iff]; exact h.all i _ HC.out)⟩
            have n1 : ((x : Int) == 46) = false := by rw [beq_eq_false_iff_ne]; intro h; exact hok (by unfold okN; omega)
            have n2 : ((x : Int) == 45) = false := by rw [beq_eq_false_iff_ne]; intro h; exact hok (by unfold okN; omega)
            have n3 : ((x : Int) == 95) = false := by rw [beq_eq_false_iff_ne]; intro h; exact hok (by unfold okN; omega)
            have n4 : ((x : Int) == 43) = false := by rw [beq_eq_false_iff_ne]; intro h; exact hok (by unfold okN; omega)
            by_cases a1 : 97 ≤ x
            · have a2 : (97 : Int) ≤ (x : Int) := by omega
              have a3 : ¬ (x : Int) ≤ 122 := fun h => hok (by unfold okN; omega)
              have a4 : (48 : Int) ≤ (x : Int) := by omega
              have a5 : ¬ (x : Int) ≤ 57 := by omega
              clear hok
              go_wp2
              go_ret
              exact ⟨.no rfl HN.out, rfl⟩
            · have a2 : ¬ (97 : Int) ≤ (x : Int) := by omega
              by_cases b1 : 48 ≤ x
              · have b2 : (48 : Int) ≤ (x : Int) := by omega
                have b3 : ¬ (x : Int) ≤ 57 := fun h => hok (by unfold okN; omega)
                clear hok
                go_wp2
                go_ret
                exact ⟨.no rfl HN.out, rfl⟩
              · have b2 : ¬ (48 : Int) ≤ (x : Int) := by omega
                clear hok
                go_wp2
                go_ret
                exact ⟨.no rfl HN.out, rfl⟩
    · have hm1 : (112 : Int) < (s.size : Int) := by omega
      go_enter Tryz.func94, Tryz.ntmps94
      go_wp2
      go_ret
      exact ⟨.no rfl (fun h => absurd h.most hm), rfl⟩
end Go.Proofs.YtdekmeanlcpenaaGreatDoor.Codec

namespace Go.Proofs.YtdekmeanlcpenaaGreatDoor.Codec
open Go.RowKit Go.Proofs.YtdekmeanlcpenaaGreatDoorW.PrintWords Go.Proofs.YtdekmeanlcpenaaGreatDoor.Mid
set_option maxHeartbeats 4000000
set_option maxRecDepth 100000
theorem RetB.is_true {e : Ending} {p : Prop} (h : RetB e p) (hp : p) : e = .returned (.bool true) := by
  obtain ⟨q, he, hq⟩ := h.out
  rw [he, hq.2 hp]
theorem RetB.is_false {e : Ending} {p : Prop} (h : RetB e p) (hp : ¬ p) : e = .returned (.bool false) := by
  obtain ⟨q, he, hq⟩ := h.out
  cases q
  · exact he
  · exact absurd (hq.1 rfl) hp
theorem isName_yes (s : ByteArray) (w : World) (h : NameOk s) : Calls Tryz.prog 94 #[.string s] w fun e w' => e = .returned (.bool true) ∧ w = w' := (isName_any s w).mono fun _ _ ⟨h1, h2⟩ => ⟨RetB.is_true h1 h, h2⟩
theorem isName_no (s : ByteArray) (w : World) (h : ¬ NameOk s) : Calls Tryz.prog 94 #[.string s] w fun e w' => e = .returned (.bool false) ∧ w = w' := (isName_any s w).mono fun _ _ ⟨h1, h2⟩ => ⟨RetB.is_false h1 h, h2⟩
theorem valid_yes (A : Option Addr) (c : Nat) (rs : List Res) (w : World) (hC : resK.C w A rs.length rs) (hc : rs.length ≤ c) (h : Table rs) : Calls Tryz.prog 31 #[.slice A rs.length c] w fun e w' => e = .returned (.bool true) ∧ Below w.heap.size w w' := (table_valid A c rs w hC hc).mono fun _ _ ⟨h1, h2⟩ => ⟨RetB.is_true h1 h, h2⟩
theorem valid_no (A : Option Addr) (c : Nat) (rs : List Res) (w : World) (hC : resK.C w A rs.length rs) (hc : rs.length ≤ c) (h : ¬ Table rs) : Calls Tryz.prog 31 #[.slice A rs.length c] w fun e w' => e = .returned (.bool false) ∧ Below w.heap.size w w' := (table_valid A c rs w hC hc).mono fun _ _ ⟨h1, h2⟩ => ⟨RetB.is_false h1 h, h2⟩
theorem rising_yes (A : Option Addr) (c : Nat) (ids : List (List Int)) (w : World) (hC : idK.C w A ids.length ids) (hl : ids.length ≤ 64) (h : Rises ids) : Calls Tryz.prog 95 #[.slice A ids.length c] w fun e w' => e = .returned (.bool true) ∧ Below w.heap.size w w' := (rising_any A c ids w hC (by omega)).mono fun _ _ ⟨h1, h2⟩ => ⟨RetB.is_true h1 h, h2⟩
theorem rising_no (A : Option Addr) (c : Nat) (ids : List (List Int)) (w : World) (hC : idK.C w A ids.length ids) (hl : ids.length ≤ 64) (h : ¬ Rises ids) : Calls Tryz.prog 95 #[.slice A ids.length c] w fun e w' => e = .returned (.bool false) ∧ Below w.heap.size w w' := (rising_any A c ids w hC (by omega)).mono fun _ _ ⟨h1, h2⟩ => ⟨RetB.is_false h1 h, h2⟩
/-- A journal as a value: its lists lie there. -/
def jC (j : Jn) (A1 : Option Addr) (c1 : Nat) (A2 : Option Addr) (c2 : Nat) (A3 : Option Addr) (c3 : Nat) : List Value := [.string j.name, .int .i64 j.ent, .int .i64 j.idx, .slice A1 j.res.length c1, .slice A2 j.need.length c2, .slice A3 j.tab.length c3]
/-- .. and read there. -/
structure JAt (w : World) (j : Jn) (A1 : Option Addr) (c1 : Nat) (A2 : Option Addr) (c2 : Nat) (A3 : Option Addr) (c3 : Nat) : Prop where
  ok : JnOk j
  r1 : resK.C w A1 j.res.length j.res
  l1 : j.res.length ≤ c1
  r2 : idK.C w A2 j.need.length j.need
  l2 : j.need.length ≤ c2
  r3 : resK.C w A3 j.tab.length j.tab
  l3 : j.tab.length ≤ c3
theorem JAt.below {w w1 : World} {j : Jn} {A1 A2 A3 : Option Addr} {c1 c2 c3 : Nat} (h : JAt w j A1 c1 A2 c2 A3 c3) (hb : Below w.heap.size w w1) : JAt w1 j A1 c1 A2 c2 A3 c3 :=
  ⟨h.ok, Kd.C_below h.r1 hb, h.l1, Kd.C_below h.r2 hb, h.l2, Kd.C_below h.r3 hb, h.l3⟩
theorem isJournal_any (j : Jn) (A1 : Option Addr) (c1 : Nat) (A2 : Option Addr) (c2 : Nat) (A3 : Option Addr) (c3 : Nat) (w : World) (hJ : JAt w j A1 c1 A2 c2 A3 c3) :
    Calls Tryz.prog 48 #[.agg (jC j A1 c1 A2 c2 A3 c3).toArray] w fun e w' => RetB e (JnV j) ∧ Below w.heap.size w w' := by
  obtain ⟨W, hW⟩ : ∃ W, W = w.alloc (.cells (jC j A1 c1 A2 c2 A3 c3).toArray 60) := ⟨_, rfl⟩
  have hbk : W.heap[w.heap.size]? = some (.cells (jC j A1 c1 A2 c2 A3 c3).toArray 60 (0, 0)) := hW ▸ heap_alloc_new w _
  have hBW : Below w.heap.size w W := hW ▸ below_alloc (Below.refl _ _) _
  have q0 : ∀ u, Below W.heap.size W u → u.heap[w.heap.size]? = some (.cells (jC j A1 c1 A2 c2 A3 c3).toArray 60 (0, 0)) := fun u hu => blk_below hbk hu
  have c0 : W.cell? ⟨w.heap.size, 0, none⟩ = some (.string j.name) := (blk_cell hbk _).trans rfl
  have c1' : W.cell? ⟨w.heap.size, 1, none⟩ = some (.int .i64 j.ent) := (blk_cell hbk _).trans rfl
  have c2' : W.cell? ⟨w.heap.size, 2, none⟩ = some (.int .i64 j.idx) := (blk_cell hbk _).trans rfl
  have c3' : W.cell? ⟨w.heap.size, 3, none⟩ = some (.slice A1 j.res.length c1) := (blk_cell hbk _).trans rfl
  have c4' : W.cell? ⟨w.heap.size, 4, none⟩ = some (.slice A2 j.need.length c2) := (blk_cell hbk _).trans rfl
  have c5' : W.cell? ⟨w.heap.size, 5, none⟩ = some (.slice A3 j.tab.length c3) := (blk_cell hbk _).trans rfl
  have HW := Aside0.mk hW
  have HBW := Aside0.mk hBW
  have HBK := Aside0.mk hbk
  have HC1 := Aside0.mk (hJ.below hBW).r1
  have HC2 := Aside0.mk (hJ.below hBW).r2
  have HC3 := Aside0.mk (hJ.below hBW).r3
  have hc1 := hJ.l1
  have hc3 := hJ.l3
  clear hW hBW hbk hJ q0
  by_cases h0 : NameOk j.name
  · have H0 := Aside0.mk h0
    clear h0
    by_cases h1 : 0 ≤ j.ent
    · have H1 := Aside0.mk h1
      have b1 : decide (0 ≤ j.ent) = true := by simpa using h1
      clear h1
      by_cases h2 : j.ent ≤ 4294967295
      · have H2 := Aside0.mk h2
        have b2 : decide (j.ent ≤ 4294967295) = true := by simpa using h2
        clear h2
        by_cases h3 : 0 ≤ j.idx
        · have H3 := Aside0.mk h3
          have b3 : decide (0 ≤ j.idx) = true := by simpa using h3
          clear h3
          by_cases h4 : j.idx ≤ 4294967295
          · have H4 := Aside0.mk h4
            have b4 : decide (j.idx ≤ 4294967295) = true := by simpa using h4
            clear h4
            by_cases h5 : Table j.res
            · have H5 := Aside0.mk h5
              clear h5
              by_cases h6 : Table j.tab
              · have H6 := Aside0.mk h6
                clear h6
                by_cases h7 : j.need.length ≤ 64
                · have H7 := Aside0.mk h7
                  have b7 : decide (j.need.length ≤ 64) = true := by simpa using h7
                  have b7' : decide ((j.need.length : Int) ≤ 64) = true := by simp; omega
                  clear h7
                  by_cases h8 : Rises j.need
                  · have H8 := Aside0.mk h8
                    clear h8
                    go_enter Tryz.func48, Tryz.ntmps48
                    go_upto_region 1 with (fail)
                    rw [← HW.out]
                    go_wp2_with (first
                      | (go_at_call 94; refine (isName_yes j.name _ H0.out).mono ?_; rintro e w1 ⟨rfl, rfl⟩)
                      | (have X := HB1; go_at_call 31; refine (valid_yes A3 c3 j.tab _ (Kd.C_below HC3.out HB1.out) hc3 H6.out).mono ?_; rintro e w3 ⟨rfl, hb⟩; have t4 := pw_cell_below hb s4; have HB3 := Aside0.mk (below_step HB1.out hb); clear hb)
                      | (go_at_call 31; refine (valid_yes A1 c1 j.res _ HC1.out hc1 H5.out).mono ?_; rintro e w2 ⟨rfl, hb⟩; have s5 := pw_cell_below hb c5'; have s4 := pw_cell_below hb c4'; have HB1 := Aside0.mk hb; clear hb)
                      | (go_at_call 95; refine (rising_yes A2 c2 j.need _ (Kd.C_below HC2.out HB3.out) H7.out H8.out).mono ?_; rintro e w4 ⟨rfl, hb⟩; have HB4 := Aside0.mk (below_step HB3.out hb); clear hb)
                      | fail)
                    go_ret
                    exact ⟨.yes rfl ⟨H0.out, ⟨H1.out, H2.out⟩, ⟨H3.out, H4.out⟩, H5.out, H6.out, H7.out, H8.out⟩, HBW.out.trans ((HB4.out).mono HBW.out.size)⟩
                  · have H8 := Aside0.mk h8
                    clear h8
                    go_enter Tryz.func48, Tryz.ntmps48
                    go_upto_region 1 with (fail)
                    rw [← HW.out]
                    go_wp2_with (first
                      | (go_at_call 94; refine (isName_yes j.name _ H0.out).mono ?_; rintro e w1 ⟨rfl, rfl⟩)
                      | (have X := HB1; go_at_call 31; refine (valid_yes A3 c3 j.tab _ (Kd.C_below HC3.out HB1.out) hc3 H6.out).mono ?_; rintro e w3 ⟨rfl, hb⟩; have t4 := pw_cell_below hb s4; have HB3 := Aside0.mk (below_step HB1.out hb); clear hb)
                      | (go_at_call 31; refine (valid_yes A1 c1 j.res _ HC1.out hc1 H5.out).mono ?_; rintro e w2 ⟨rfl, hb⟩; have s5 := pw_cell_below hb c5'; have s4 := pw_cell_below hb c4'; have HB1 := Aside0.mk hb; clear hb)
                      | (go_at_call 95; refine (rising_no A2 c2 j.need _ (Kd.C_below HC2.out HB3.out) H7.out H8.out).mono ?_; rintro e w4 ⟨rfl, hb⟩; have HB4 := Aside0.mk (below_step HB3.out hb); clear hb)
                      | fail)
                    go_ret
                    exact ⟨.no rfl (fun V => absurd V.rise H8.out), HBW.out.trans ((HB4.out).mono HBW.out.size)⟩
                · have H7 := Aside0.mk h7
                  have b7 : decide (j.need.length ≤ 64) = false := by simpa using h7
                  have b7' : decide ((j.need.length : Int) ≤ 64) = false := by simp; omega
                  clear h7
                  go_enter Tryz.func48, Tryz.ntmps48
                  go_upto_region 1 with (fail)
                  rw [← HW.out]
                  go_wp2_with (first
                    | (go_at_call 94; refine (isName_yes j.name _ H0.out).mono ?_; rintro e w1 ⟨rfl, rfl⟩)
                    | (have X := HB1; go_at_call 31; refine (valid_yes A3 c3 j.tab _ (Kd.C_below HC3.out HB1.out) hc3 H6.out).mono ?_; rintro e w3 ⟨rfl, hb⟩; have t4 := pw_cell_below hb s4; have HB3 := Aside0.mk (below_step HB1.out hb); clear hb)
                    | (go_at_call 31; refine (valid_yes A1 c1 j.res _ HC1.out hc1 H5.out).mono ?_; rintro e w2 ⟨rfl, hb⟩; have s5 := pw_cell_below hb c5'; have s4 := pw_cell_below hb c4'; have HB1 := Aside0.mk hb; clear hb)
                    | fail)
                  go_ret
                  exact ⟨.no rfl (fun V => by have h1 := V.ent; have h2 := V.idx; have h3 := V.most; have h4 := H7.out; omega), HBW.out.trans ((HB3.out).mono HBW.out.size)⟩
              · have H6 := Aside0.mk h6
                clear h6
                go_enter Tryz.func48, Tryz.ntmps48
                go_upto_region 1 with (fail)
                rw [← HW.out]
                go_wp2_with (first
                  | (go_at_call 94; refine (isName_yes j.name _ H0.out).mono ?_; rintro e w1 ⟨rfl, rfl⟩)
                  | (have X := HB1; go_at_call 31; refine (valid_no A3 c3 j.tab _ (Kd.C_below HC3.out HB1.out) hc3 H6.out).mono ?_; rintro e w3 ⟨rfl, hb⟩; have t4 := pw_cell_below hb s4; have HB3 := Aside0.mk (below_step HB1.out hb); clear hb)
                  | (go_at_call 31; refine (valid_yes A1 c1 j.res _ HC1.out hc1 H5.out).mono ?_; rintro e w2 ⟨rfl, hb⟩; have s5 := pw_cell_below hb c5'; have s4 := pw_cell_below hb c4'; have HB1 := Aside0.mk hb; clear hb)
                  | fail)
                go_ret
                exact ⟨.no rfl (fun V => absurd V.tab H6.out), HBW.out.trans ((HB3.out).mono HBW.out.size)⟩
            · have H5 := Aside0.mk h5
              clear h5
              go_enter Tryz.func48, Tryz.ntmps48
              go_upto_region 1 with (fail)
              rw [← HW.out]
              go_wp2_with (first
                | (go_at_call 94; refine (isName_yes j.name _ H0.out).mono ?_; rintro e w1 ⟨rfl, rfl⟩)
                | (go_at_call 31; refine (valid_no A1 c1 j.res _ HC1.out hc1 H5.out).mono ?_; rintro e w2 ⟨rfl, hb⟩; have s5 := pw_cell_below hb c5'; have s4 := pw_cell_below hb c4'; have HB1 := Aside0.mk hb; clear hb)
                | fail)
              go_ret
              exact ⟨.no rfl (fun V => absurd V.res H5.out), HBW.out.trans ((HB1.out).mono HBW.out.size)⟩
          · have H4 := Aside0.mk h4
            have b4 : decide (j.idx ≤ 4294967295) = false := by simpa using h4
            clear h4
            go_enter Tryz.func48, Tryz.ntmps48
            go_upto_region 1 with (fail)
            rw [← HW.out]
            go_wp2_with (first
              | (go_at_call 94; refine (isName_yes j.name _ H0.out).mono ?_; rintro e w1 ⟨rfl, rfl⟩)
              | fail)
            go_ret
            exact ⟨.no rfl (fun V => by have h1 := V.ent; have h2 := V.idx; have h3 := V.most; have h4 := H4.out; omega), HBW.out.trans ((Below.refl _ _).mono HBW.out.size)⟩
        · have H3 := Aside0.mk h3
          have b3 : decide (0 ≤ j.idx) = false := by simpa using h3
          clear h3
          go_enter Tryz.func48, Tryz.ntmps48
          go_upto_region 1 with (fail)
          rw [← HW.out]
          go_wp2_with (first
            | (go_at_call 94; refine (isName_yes j.name _ H0.out).mono ?_; rintro e w1 ⟨rfl, rfl⟩)
            | fail)
          go_ret
          exact ⟨.no rfl (fun V => by have h1 := V.ent; have h2 := V.idx; have h3 := V.most; have h4 := H3.out; omega), HBW.out.trans ((Below.refl _ _).mono HBW.out.size)⟩
      · have H2 := Aside0.mk h2
        have b2 : decide (j.ent ≤ 4294967295) = false := by simpa using h2
        clear h2
        go_enter Tryz.func48, Tryz.ntmps48
        go_upto_region 1 with (fail)
        rw [← HW.out]
        go_wp2_with (first
          | (go_at_call 94; refine (isName_yes j.name _ H0.out).mono ?_; rintro e w1 ⟨rfl, rfl⟩)
          | fail)
        go_ret
        exact ⟨.no rfl (fun V => by have h1 := V.ent; have h2 := V.idx; have h3 := V.most; have h4 := H2.out; omega), HBW.out.trans ((Below.refl _ _).mono HBW.out.size)⟩
    · have H1 := Aside0.mk h1
      have b1 : decide (0 ≤ j.ent) = false := by simpa using h1
      clear h1
      go_enter Tryz.func48, Tryz.ntmps48
      go_upto_region 1 with (fail)
      rw [← HW.out]
      go_wp2_with (first
        | (go_at_call 94; refine (isName_yes j.name _ H0.out).mono ?_; rintro e w1 ⟨rfl, rfl⟩)
        | fail)
      go_ret
      exact ⟨.no rfl (fun V => by have h1 := V.ent; have h2 := V.idx; have h3 := V.most; have h4 := H1.out; omega), HBW.out.trans ((Below.refl _ _).mono HBW.out.size)⟩
  · have H0 := Aside0.mk h0
    clear h0
    go_enter Tryz.func48, Tryz.ntmps48
    go_upto_region 1 with (fail)
    rw [← HW.out]
    go_wp2_with (first
      | (go_at_call 94; refine (isName_no j.name _ H0.out).mono ?_; rintro e w1 ⟨rfl, rfl⟩)
      | fail)
    go_ret
    exact ⟨.no rfl (fun V => absurd V.name H0.out), HBW.out.trans ((Below.refl _ _).mono HBW.out.size)⟩
end Go.Proofs.YtdekmeanlcpenaaGreatDoor.Codec
